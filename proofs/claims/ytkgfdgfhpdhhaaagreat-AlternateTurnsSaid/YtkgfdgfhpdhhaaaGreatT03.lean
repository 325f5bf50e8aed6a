/- ltl's normer: a formula's normal form (leaves, a negation). Conditions: the tree lies in the world; the normer does. Small lemmas for regions that draw their order. Conditions: as each theorem states. ltl's normer: a formula's normal form (a next). Conditions: the tree lies in the world; the normer does. ltl's normer: a formula's normal form (a proposition). Conditions: the tree lies in the world; the normer does. ltl's normer: a formula's normal form (an equivalence). Conditions: the tree lies in the world; the normer does. -/
import Derived.Test.YtkgfdgfhpdhhaaaGreatT02
import Derived.StillTailTactics
import Derived.Deep.RegionHeld3
namespace Go.Proofs.YtkgfdgfhpdhhaaaGreat
open Go.ChangeShapes Go.WideShapes Go.RowKit
set_option maxRecDepth 100000
set_option maxHeartbeats 8000000
theorem nf_end {nb L M:Nat} {u:T} {w w6:World} {a0 a1 a2 r0 r1 r2:Value} (hnb:nb < w.heap.size) (hc:Chg (At1 nb) w w6) (_hres:w6.heap[w.heap.size+1]? = some (.cells #[r0,r1,r2] 24 (0,0)))
 (hF:Fresh (Ge (w.heap.size+2)) w6 u (.agg #[a0,a1,a2])) (hle:sizeT u≤L) (hM:M=L - sizeT u) (hN:Nb w6 nb M) :
 NfPost nb L u w (.returned (.agg #[a0,a1,a2])) (((w6.setCell ⟨w.heap.size+1,0,none⟩ a0).setCell ⟨w.heap.size+1,1,none⟩ a1).setCell ⟨w.heap.size+1,2,none⟩ a2):=by
 have k7:=chg_three w6 (w.heap.size+1) a0 a1 a2
 have hc7:Chg (fun q=>q=nb∨q=w.heap.size+1) w _:=(hc.mono (fun _ _ e=> .inl e)).trans k7 (fun _ _ e=> .inr e)
 refine ⟨hc7.mono (fun i hi e=>by rcases e with e | e;exact e;omega),.inl ⟨_,hle,rfl,?_,hM ▸ hN.at1 k7 (by omega)⟩⟩
 exact hF.chg k7 (fun q hq _ e=>by have hq:w.heap.size+2≤q:=hq;have e:q=w.heap.size+1:=e;omega) (fun q hq=>by have hq:w.heap.size+2≤q:=hq;show w.heap.size≤q;omega)
theorem nf_leaf {k:Int} {n:List UInt8} {w:World} {lo:Nat}:Fresh (Ge lo) w (.node k n []) (.agg #[.int .i64 k,.string ⟨n.toArray⟩,.slice none 0 0]):=by
 rw [Fresh]
 exact .inl ⟨rfl,rfl⟩
theorem form_1 (t:T) (hkids:t.kids=[]) (hkind:t.kind=1) (R:Nat→Prop) (w:World) (nb L:Nat) (no:Bool) (v:Value) (ht:IsTree R w t v) (_hR:∀ b,R b→b≠nb) (hN:Nb w nb L) :
 Calls Tryz.prog 78 #[.pointer (some ⟨nb,0,none⟩),v,.bool no] w (NfPost nb L (.node (flipK 1 no) [] []) w):=by
 obtain ⟨ao,cap,rfl,hlen,hk⟩:=ht.parts
 have hlen2:t.kids.length=0:=by rw [hkids];rfl
 rw [hlen2,hkind]
 have hW:Hid (∃ W,W=(w.alloc (.cells #[.int .i64 1,.string ⟨t.name.toArray⟩,.slice ao 0 cap] 24)).alloc (.cells #[.int .i64 0,.string ⟨#[]⟩,.slice none 0 0] 24)∧Chg Nob w W∧W.heap.size=w.heap.size+2 ∧
  W.heap[w.heap.size]? = some (.cells #[.int .i64 1,.string ⟨t.name.toArray⟩,.slice ao 0 cap] 24 (0,0))∧W.heap[w.heap.size+1]? = some (.cells #[.int .i64 0,.string ⟨#[]⟩,.slice none 0 0] 24 (0,0))):=by
  refine ⟨_,rfl,((Chg.refl _ _).alloc _).alloc _,by rw [World.size_alloc,World.size_alloc],((Chg.refl Nob _).alloc _).at (heap_alloc_new w _) (fun e=>e),?_⟩
  have:=heap_alloc_new (w.alloc (.cells #[.int .i64 1,.string ⟨t.name.toArray⟩,.slice ao 0 cap] 24)) (.cells #[.int .i64 0,.string ⟨#[]⟩,.slice none 0 0] 24)
  rwa [World.size_alloc] at this
 have hnb:=hN.lt
 have HN:=Lib.hid hN
 clear ht hk hkids hN hlen2 hkind hlen
 obtain ⟨W,hWe,hcW,hsW,hbx,hres⟩:=hW.out
 subst hWe
 clear hW
 go_enter Tryz.func78,Tryz.ntmps78
 go_wp2_with fail
 generalize (w.alloc (.cells #[.int .i64 1,.string ⟨t.name.toArray⟩,.slice ao 0 cap] 24)).alloc (.cells #[.int .i64 0,.string ⟨#[]⟩,.slice none 0 0] 24)=W at *
 (with_reducible refine (flip_any 1 no _).mono ?_)
 rintro e w1 ⟨rfl,rfl⟩
 go_wp2_with fail
 (with_reducible refine (npart_any _ nb L (flipK 1 no) none 0 0 (HN.out.nob hcW)).mono ?_)
 rintro e w1 ⟨hc1,⟨m,hm,rfl,hN1⟩ | ⟨hm,rfl⟩⟩
 ·have hres6:=hc1.at hres (fun e=>by have e:w.heap.size+1=nb:=e;omega)
  have Hpost:=Lib.hid (show NfPost nb L (.node (flipK 1 no) [] []) w (.returned (.agg #[.int .i64 (flipK 1 no),.string ⟨#[]⟩,.slice none 0 0])) _ by exact nf_end (M:=m) (u:= .node (flipK 1 no) [] []) (a0:= .int .i64 (flipK 1 no)) (a1:= .string ⟨#[]⟩) (a2:= .slice none 0 0) hnb (hcW.any.trans1 hc1) hres6 nf_leaf (by rw [sizeT,sizeL];omega) (by rw [sizeT,sizeL];omega) hN1)
  obtain ⟨c0,c1,c2,f0,f1,f2⟩:=cells_three hres6
  have hb7:=block_three_all hres6 (.int .i64 (flipK 1 no)) (.string ⟨#[]⟩) (.slice none 0 0)
  obtain ⟨e0,e1,e2,_⟩:=cells_three hb7
  have He:=Lib.hid (And.intro e0 (And.intro e1 e2))
  clear hb7 hres6 e0 e1 e2 hbx hres
  go_wp2
  obtain ⟨e0,e1,e2⟩:=He.out
  exact bodyPost_ret (v:= .agg #[.int .i64 (flipK 1 no),.string ⟨#[]⟩,.slice none 0 0]) (by simp [results,Tryz.results78,go_sem,e0,e1,e2]) rfl Hpost.out
 ·go_wp2
  exact ⟨rfl,hcW.any.trans1 hc1,.inr ⟨by rw [sizeT,sizeL];omega,rfl⟩⟩
theorem form_2 (t:T) (hkids:t.kids=[]) (hkind:t.kind=2) (R:Nat→Prop) (w:World) (nb L:Nat) (no:Bool) (v:Value) (ht:IsTree R w t v) (_hR:∀ b,R b→b≠nb) (hN:Nb w nb L) :
 Calls Tryz.prog 78 #[.pointer (some ⟨nb,0,none⟩),v,.bool no] w (NfPost nb L (.node (flipK 2 no) [] []) w):=by
 obtain ⟨ao,cap,rfl,hlen,hk⟩:=ht.parts
 have hlen2:t.kids.length=0:=by rw [hkids];rfl
 rw [hlen2,hkind]
 have hW:Hid (∃ W,W=(w.alloc (.cells #[.int .i64 2,.string ⟨t.name.toArray⟩,.slice ao 0 cap] 24)).alloc (.cells #[.int .i64 0,.string ⟨#[]⟩,.slice none 0 0] 24)∧Chg Nob w W∧W.heap.size=w.heap.size+2 ∧
  W.heap[w.heap.size]? = some (.cells #[.int .i64 2,.string ⟨t.name.toArray⟩,.slice ao 0 cap] 24 (0,0))∧W.heap[w.heap.size+1]? = some (.cells #[.int .i64 0,.string ⟨#[]⟩,.slice none 0 0] 24 (0,0))):=by
  refine ⟨_,rfl,((Chg.refl _ _).alloc _).alloc _,by rw [World.size_alloc,World.size_alloc],((Chg.refl Nob _).alloc _).at (heap_alloc_new w _) (fun e=>e),?_⟩
  have:=heap_alloc_new (w.alloc (.cells #[.int .i64 2,.string ⟨t.name.toArray⟩,.slice ao 0 cap] 24)) (.cells #[.int .i64 0,.string ⟨#[]⟩,.slice none 0 0] 24)
  rwa [World.size_alloc] at this
 have hnb:=hN.lt
 have HN:=Lib.hid hN
 clear ht hk hkids hN hlen2 hkind hlen
 obtain ⟨W,hWe,hcW,hsW,hbx,hres⟩:=hW.out
 subst hWe
 clear hW
 go_enter Tryz.func78,Tryz.ntmps78
 go_wp2_with fail
 generalize (w.alloc (.cells #[.int .i64 2,.string ⟨t.name.toArray⟩,.slice ao 0 cap] 24)).alloc (.cells #[.int .i64 0,.string ⟨#[]⟩,.slice none 0 0] 24)=W at *
 (with_reducible refine (flip_any 2 no _).mono ?_)
 rintro e w1 ⟨rfl,rfl⟩
 go_wp2_with fail
 (with_reducible refine (npart_any _ nb L (flipK 2 no) none 0 0 (HN.out.nob hcW)).mono ?_)
 rintro e w1 ⟨hc1,⟨m,hm,rfl,hN1⟩ | ⟨hm,rfl⟩⟩
 ·have hres6:=hc1.at hres (fun e=>by have e:w.heap.size+1=nb:=e;omega)
  have Hpost:=Lib.hid (show NfPost nb L (.node (flipK 2 no) [] []) w (.returned (.agg #[.int .i64 (flipK 2 no),.string ⟨#[]⟩,.slice none 0 0])) _ by exact nf_end (M:=m) (u:= .node (flipK 2 no) [] []) (a0:= .int .i64 (flipK 2 no)) (a1:= .string ⟨#[]⟩) (a2:= .slice none 0 0) hnb (hcW.any.trans1 hc1) hres6 nf_leaf (by rw [sizeT,sizeL];omega) (by rw [sizeT,sizeL];omega) hN1)
  obtain ⟨c0,c1,c2,f0,f1,f2⟩:=cells_three hres6
  have hb7:=block_three_all hres6 (.int .i64 (flipK 2 no)) (.string ⟨#[]⟩) (.slice none 0 0)
  obtain ⟨e0,e1,e2,_⟩:=cells_three hb7
  have He:=Lib.hid (And.intro e0 (And.intro e1 e2))
  clear hb7 hres6 e0 e1 e2 hbx hres
  go_wp2
  obtain ⟨e0,e1,e2⟩:=He.out
  exact bodyPost_ret (v:= .agg #[.int .i64 (flipK 2 no),.string ⟨#[]⟩,.slice none 0 0]) (by simp [results,Tryz.results78,go_sem,e0,e1,e2]) rfl Hpost.out
 ·go_wp2
  exact ⟨rfl,hcW.any.trans1 hc1,.inr ⟨by rw [sizeT,sizeL];omega,rfl⟩⟩
theorem form_4 (t:T) (a:T) (hkids:t.kids=[a]) (hfa:FormC a) (hkind:t.kind=4) (R:Nat→Prop) (w:World) (nb L:Nat) (no:Bool) (v:Value) (ht:IsTree R w t v) (hR:∀ b,R b→b≠nb) (hN:Nb w nb L) :
 Calls Tryz.prog 78 #[.pointer (some ⟨nb,0,none⟩),v,.bool no] w (NfPost nb L (nfT a (!no)) w):=by
 obtain ⟨ao,cap,rfl,hlen,hk⟩:=ht.parts
 rw [hkids] at hk
 obtain ⟨b1,o1,ak,capk,hao,hRb,p0,p1,p2,_,_,hta⟩:=hk.kid (j:=0) (t:=a) rfl
 subst hao
 rw [Nat.zero_mul,Nat.add_zero] at p0 p1 p2
 have hlen2:t.kids.length=1:=by rw [hkids];rfl
 rw [hlen2,hkind]
 have hW:Hid (∃ W,W=(w.alloc (.cells #[.int .i64 4,.string ⟨t.name.toArray⟩,.slice (some ⟨b1,o1,none⟩) 1 cap] 24)).alloc (.cells #[.int .i64 0,.string ⟨#[]⟩,.slice none 0 0] 24)∧Chg Nob w W∧W.heap.size=w.heap.size+2 ∧
  W.heap[w.heap.size]? = some (.cells #[.int .i64 4,.string ⟨t.name.toArray⟩,.slice (some ⟨b1,o1,none⟩) 1 cap] 24 (0,0))∧W.heap[w.heap.size+1]? = some (.cells #[.int .i64 0,.string ⟨#[]⟩,.slice none 0 0] 24 (0,0))):=by
  refine ⟨_,rfl,((Chg.refl _ _).alloc _).alloc _,by rw [World.size_alloc,World.size_alloc],((Chg.refl Nob _).alloc _).at (heap_alloc_new w _) (fun e=>e),?_⟩
  have:=heap_alloc_new (w.alloc (.cells #[.int .i64 4,.string ⟨t.name.toArray⟩,.slice (some ⟨b1,o1,none⟩) 1 cap] 24)) (.cells #[.int .i64 0,.string ⟨#[]⟩,.slice none 0 0] 24)
  rwa [World.size_alloc] at this
 have Hp:=Lib.hid (And.intro p0 (And.intro p1 p2))
 have Hta:=Lib.hid hta
 have Hfa:=Lib.hid hfa
 have hnb:=hN.lt
 have HN:=Lib.hid hN
 clear ht hk hkids hN hlen2 hkind hlen p0 p1 p2 hta hfa
 obtain ⟨W,hWe,hcW,hsW,hbx,hres⟩:=hW.out
 subst hWe
 clear hW
 have p0:=kid_at1 hcW.any hR hRb Hp.out.1
 have p1:=kid_at1 hcW.any hR hRb Hp.out.2.1
 have p2:=kid_at1 hcW.any hR hRb Hp.out.2.2
 have hcall:=Hfa.out R _ nb L (!no) _ (Hta.out.at1 hcW.any hR) hR (HN.out.nob hcW)
 have Hbx:=Lib.hid hbx
 clear hbx
 go_enter Tryz.func78,Tryz.ntmps78
 go_wp2_with fail
 generalize (w.alloc (.cells #[.int .i64 4,.string ⟨t.name.toArray⟩,.slice (some ⟨b1,o1,none⟩) 1 cap] 24)).alloc (.cells #[.int .i64 0,.string ⟨#[]⟩,.slice none 0 0] 24)=W at *
 (with_reducible refine hcall.mono ?_)
 clear hcall p0 p1 p2
 rintro e w1 ⟨hc1,⟨va,hsa,rfl,hFa,hN1⟩ | ⟨hsa,rfl⟩⟩
 ·obtain ⟨a5,acap,rfl⟩:=hFa.agg
  obtain ⟨na,hna⟩:∃ na,na=nfT a (!no):=⟨_,rfl⟩
  rw [← hna] at hsa hFa hN1 ⊢
  have Hna:=Lib.hid hna
  clear hna
  have hres6:=hc1.at hres (fun e=>by have e:w.heap.size+1=nb:=e;omega)
  have Hpost:=Lib.hid (show NfPost nb L (nfT a (!no)) w (.returned (.agg #[.int .i64 na.kind,.string ⟨na.name.toArray⟩,.slice a5 na.kids.length acap])) _ by rw [← Hna.out];exact nf_end (M:=_) (u:=na) (a0:= .int .i64 na.kind) (a1:= .string ⟨na.name.toArray⟩) (a2:= .slice a5 na.kids.length acap) hnb (hcW.any.trans1 hc1) hres6 (hsW ▸ hFa) (hsa) (rfl) hN1)
  obtain ⟨c0,c1,c2,f0,f1,f2⟩:=cells_three hres6
  have hb7:=block_three_all hres6 (.int .i64 na.kind) (.string ⟨na.name.toArray⟩) (.slice a5 na.kids.length acap)
  obtain ⟨e0,e1,e2,_⟩:=cells_three hb7
  have He:=Lib.hid (And.intro e0 (And.intro e1 e2))
  clear hb7 hres6 e0 e1 e2 hres
  go_wp2
  obtain ⟨e0,e1,e2⟩:=He.out
  exact bodyPost_ret (v:= .agg #[.int .i64 na.kind,.string ⟨na.name.toArray⟩,.slice a5 na.kids.length acap]) (by simp [results,Tryz.results78,go_sem,e0,e1,e2]) rfl Hpost.out
 ·go_wp2
  exact ⟨rfl,hcW.any.trans1 hc1,.inr ⟨hsa,rfl⟩⟩
theorem flip_still (k:Int) (no:Bool) (w:World):Calls Tryz.prog 131 #[.int .i64 k,.bool no] w fun e w'=>e = .returned (.int .i64 (flipK k no))∧w'=w:=(flip_any k no w).mono fun _ _ ⟨h1,h2⟩=>⟨h1,h2.symm⟩
theorem hid_drew {w:World} {k:Nat} {o:Obj} (h:Hid (w.heap[k]? = some o)):Hid (w.drew.heap[k]? = some o):=h
theorem hid_drew_size {w:World} {n:Nat} (h:Hid (w.heap.size=n)):Hid (w.drew.heap.size=n):=h
theorem Nb.drew {w:World} {nb L:Nat} (h:Nb w nb L):Nb w.drew nb L:=⟨h.blk,h.le⟩
def NfOk (nb L:Nat) (u:T) (w:World) (e:Ending) (w':World):Prop :=
 Chg (At1 nb) w w'∧∃ ao cap,e = .returned (.agg #[.int .i64 u.kind,.string ⟨u.name.toArray⟩,.slice ao u.kids.length cap])∧Fresh (Ge w.heap.size) w' u (.agg #[.int .i64 u.kind,.string ⟨u.name.toArray⟩,.slice ao u.kids.length cap])∧Nb w' nb (L - sizeT u)
def NfNo (nb:Nat) (w:World) (e:Ending) (w':World):Prop:=Chg (At1 nb) w w'∧e = .panicked much
theorem NfPost.ok {nb L:Nat} {u:T} {w w':World} {e:Ending} (h:NfPost nb L u w e w') (hs:sizeT u≤L):NfOk nb L u w e w':=by
 obtain ⟨hc,⟨v,_,rfl,hF,hN⟩ | ⟨hs2,_⟩⟩:=h
 ·obtain ⟨ao,cap,rfl⟩:=hF.agg
  exact ⟨hc,ao,cap,rfl,hF,hN⟩
 ·omega
theorem NfPost.no {nb L:Nat} {u:T} {w w':World} {e:Ending} (h:NfPost nb L u w e w') (hs:L < sizeT u):NfNo nb w e w':=by
 obtain ⟨hc,⟨v,hs2,_⟩ | ⟨_,he⟩⟩:=h
 ·omega
 ·exact ⟨hc,he⟩
def NpOk (nb m:Nat) (v:Value) (w:World) (e:Ending) (w':World):Prop:=Chg (At1 nb) w w'∧e = .returned v∧Nb w' nb m
theorem NpPost.ok {nb m:Nat} {v:Value} {w w':World} {e:Ending} (h:NpPost nb (m+1) v w e w'):NpOk nb m v w e w':=by
 obtain ⟨hc,⟨m',hm,rfl,hN⟩ | ⟨hs2,_⟩⟩:=h
 ·obtain rfl:m'=m:=by omega
  exact ⟨hc,rfl,hN⟩
 ·omega
theorem NpPost.no {nb:Nat} {v:Value} {w w':World} {e:Ending} (h:NpPost nb 0 v w e w'):NfNo nb w e w':=by
 obtain ⟨hc,⟨m',hm,_⟩ | ⟨_,he⟩⟩:=h
 ·omega
 ·exact ⟨hc,he⟩
theorem three_at1 {w w':World} {b nb:Nat} {u0 u1 u2:Value} (hc:Chg (At1 nb) w w') (hb:b≠nb) (h:w.cell? ⟨b,0,none⟩=some u0∧w.cell? ⟨b,1,none⟩=some u1∧w.cell? ⟨b,2,none⟩=some u2) :
 w'.cell? ⟨b,0,none⟩=some u0∧w'.cell? ⟨b,1,none⟩=some u1∧w'.cell? ⟨b,2,none⟩=some u2:=⟨hc.cell' h.1 hb,hc.cell' h.2.1 hb,hc.cell' h.2.2 hb⟩
theorem three_nob {w w':World} {b:Nat} {u0 u1 u2:Value} (hc:Chg Nob w w') (h:w.cell? ⟨b,0,none⟩=some u0∧w.cell? ⟨b,1,none⟩=some u1∧w.cell? ⟨b,2,none⟩=some u2) :
 w'.cell? ⟨b,0,none⟩=some u0∧w'.cell? ⟨b,1,none⟩=some u1∧w'.cell? ⟨b,2,none⟩=some u2:=⟨hc.cell' h.1 (fun e=>e),hc.cell' h.2.1 (fun e=>e),hc.cell' h.2.2 (fun e=>e)⟩
structure Wb (nb M:Nat) (u:T) (v0 v1 v2:Value) (W Y:World) (B:Nat):Prop where
 chg:Chg (At1 nb) W Y
 fr:Fresh (Ge W.heap.size) Y u (.agg #[v0,v1,v2])
 box:Y.heap[B]? = some (.cells #[v0,v1,v2] 24 (0,0))
 ge:W.heap.size≤B
 n:Nb Y nb M
theorem wb_one {nb M:Nat} {u:T} {v0 v1 v2:Value} {W w4:World} (hc4:Chg (At1 nb) W.drew w4) (hF:Fresh (Ge W.drew.heap.size) w4 u (.agg #[v0,v1,v2])) (hN:Nb w4 nb M) :
 Wb nb M u v0 v1 v2 W (w4.alloc (.cells #[v0,v1,v2] 24)) w4.heap.size :=
 ⟨((Chg.refl (At1 nb) W).drew.trans1 hc4).alloc _,hF.chg ((Chg.refl Nob w4).alloc _) (fun _ _ _ e=>e) (fun _ h=>h),heap_alloc_new _ _,hc4.size,hN.nob ((Chg.refl Nob w4).alloc _)⟩
theorem wb_two {nb M:Nat} {u:T} {v0 v1 v2:Value} {W w4:World} {o:Obj} {z0 z1 z2:Value} (hn:nb < W.heap.size) (hc4:Chg (At1 nb) (W.drew.alloc o) w4) (hz:w4.heap[W.heap.size]? = some (.cells #[z0,z1,z2] 24 (0,0))) (hF:Fresh (Ge (W.drew.alloc o).heap.size) w4 u (.agg #[v0,v1,v2])) (hN:Nb w4 nb M) :
 Wb nb M u v0 v1 v2 W (((w4.setCell ⟨W.heap.size,0,none⟩ v0).setCell ⟨W.heap.size,1,none⟩ v1).setCell ⟨W.heap.size,2,none⟩ v2) W.heap.size:=by
 have k:=chg_three w4 W.heap.size v0 v1 v2
 have hs:(W.drew.alloc o).heap.size=W.heap.size+1:=World.size_alloc _ _
 have h1:Chg (At1 nb) W w4:=((Chg.refl Nob W).drew.alloc o).any.trans1 hc4
 refine ⟨(h1.mono (S':=fun q=>q=nb∨q=W.heap.size) (fun _ _ e=> .inl e)).trans k (fun _ _ e=> .inr e) |>.mono (fun i hi e=>by rcases e with e | e;exact e;omega),?_,block_three_all hz _ _ _,Nat.le_refl _,hN.at1 k (by omega)⟩
 exact hF.chg k (fun q hq _ e=>by have hq:(W.drew.alloc o).heap.size≤q:=hq;have e:q=W.heap.size:=e;omega) (fun q hq=>by have hq:(W.drew.alloc o).heap.size≤q:=hq;show W.heap.size≤q;omega)
theorem form_5 (t:T) (a:T) (hkids:t.kids=[a]) (hfa:FormC a) (hkind:t.kind=5) (R:Nat→Prop) (w:World) (nb L:Nat) (no:Bool) (v:Value) (ht:IsTree R w t v) (hR:∀ b,R b→b≠nb) (hN:Nb w nb L) :
 Calls Tryz.prog 78 #[.pointer (some ⟨nb,0,none⟩),v,.bool no] w (NfPost nb L (.node 5 [] [nfT a no]) w):=by
 obtain ⟨ao,cap,rfl,hlen,hk⟩:=ht.parts
 rw [hkids] at hk
 obtain ⟨b1,o1,ak,capk,hao,hRb,p0,p1,p2,_,_,hta⟩:=hk.kid (j:=0) (t:=a) rfl
 subst hao
 rw [Nat.zero_mul,Nat.add_zero] at p0 p1 p2
 have hlen2:t.kids.length=1:=by rw [hkids];rfl
 rw [hlen2,hkind]
 have hW:Hid (∃ W,W=(w.alloc (.cells #[.int .i64 5,.string ⟨t.name.toArray⟩,.slice (some ⟨b1,o1,none⟩) 1 cap] 24)).alloc (.cells #[.int .i64 0,.string ⟨#[]⟩,.slice none 0 0] 24)∧Chg Nob w W∧W.heap.size=w.heap.size+2 ∧
  W.heap[w.heap.size]? = some (.cells #[.int .i64 5,.string ⟨t.name.toArray⟩,.slice (some ⟨b1,o1,none⟩) 1 cap] 24 (0,0))∧W.heap[w.heap.size+1]? = some (.cells #[.int .i64 0,.string ⟨#[]⟩,.slice none 0 0] 24 (0,0))):=by
  refine ⟨_,rfl,((Chg.refl _ _).alloc _).alloc _,by rw [World.size_alloc,World.size_alloc],((Chg.refl Nob _).alloc _).at (heap_alloc_new w _) (fun e=>e),?_⟩
  have:=heap_alloc_new (w.alloc (.cells #[.int .i64 5,.string ⟨t.name.toArray⟩,.slice (some ⟨b1,o1,none⟩) 1 cap] 24)) (.cells #[.int .i64 0,.string ⟨#[]⟩,.slice none 0 0] 24)
  rwa [World.size_alloc] at this
 have Hp:=Lib.hid (And.intro p0 (And.intro p1 p2))
 have Hta:=Lib.hid hta
 have Hfa:=Lib.hid hfa
 have hnb:=hN.lt
 have HN:=Lib.hid hN
 clear ht hk hkids hN hlen2 hkind hlen p0 p1 p2 hta hfa
 obtain ⟨W,hWe,hcW,hsW,hbx,hres⟩:=hW.out
 subst hWe
 clear hW
 have p0:=kid_at1 hcW.any hR hRb Hp.out.1
 have p1:=kid_at1 hcW.any hR hRb Hp.out.2.1
 have p2:=kid_at1 hcW.any hR hRb Hp.out.2.2
 have hcall:=Hfa.out R _ nb L no _ (Hta.out.at1 hcW.any hR) hR (HN.out.nob hcW)
 have Hbx:=Lib.hid hbx
 clear hbx
 go_enter Tryz.func78,Tryz.ntmps78
 go_wp2_with fail
 generalize (w.alloc (.cells #[.int .i64 5,.string ⟨t.name.toArray⟩,.slice (some ⟨b1,o1,none⟩) 1 cap] 24)).alloc (.cells #[.int .i64 0,.string ⟨#[]⟩,.slice none 0 0] 24)=W at *
 (with_reducible refine hcall.mono ?_)
 clear hcall p0 p1 p2
 rintro e w1 ⟨hc1,⟨va,hsa,rfl,hFa,hN1⟩ | ⟨hsa,rfl⟩⟩
 ·obtain ⟨a5,acap,rfl⟩:=hFa.agg
  obtain ⟨na,hna⟩:∃ na,na=nfT a no:=⟨_,rfl⟩
  rw [← hna] at hsa hFa hN1 ⊢
  have Hna:=Lib.hid hna
  clear hna
  have hE:∃ X,X=w1.alloc (.cells #[.int .i64 na.kind,.string ⟨na.name.toArray⟩,.slice a5 na.kids.length acap] 24)∧Chg Nob w1 X∧X.heap.size=w1.heap.size+1∧X.heap[w1.heap.size]? = some (.cells #[.int .i64 na.kind,.string ⟨na.name.toArray⟩,.slice a5 na.kids.length acap] 24 (0,0)):=⟨_,rfl,(Chg.refl _ _).alloc _,World.size_alloc _ _,heap_alloc_new _ _⟩
  obtain ⟨X,hX,hcX,hsX,hX1⟩:=hE
  subst hX
  obtain ⟨c0,c1,c2,_⟩:=cells_three hX1
  have hE:∃ X,X=(w1.alloc (.cells #[.int .i64 na.kind,.string ⟨na.name.toArray⟩,.slice a5 na.kids.length acap] 24)).alloc (.cells #[.int .i64 na.kind,.string ⟨na.name.toArray⟩,.slice a5 na.kids.length acap] 24)∧Chg Nob (w1.alloc (.cells #[.int .i64 na.kind,.string ⟨na.name.toArray⟩,.slice a5 na.kids.length acap] 24)) X∧X.heap[w1.heap.size+1]? = some (.cells #[.int .i64 na.kind,.string ⟨na.name.toArray⟩,.slice a5 na.kids.length acap] 24 (0,0)):=⟨_,rfl,(Chg.refl _ _).alloc _,by have:=heap_alloc_new (w1.alloc (.cells #[.int .i64 na.kind,.string ⟨na.name.toArray⟩,.slice a5 na.kids.length acap] 24)) (.cells #[.int .i64 na.kind,.string ⟨na.name.toArray⟩,.slice a5 na.kids.length acap] 24);rwa [hsX] at this⟩
  obtain ⟨X,hX,hcY,hY1⟩:=hE
  subst hX
  have hcall2:=npart_any _ nb _ 5 (some ⟨w1.heap.size+1,0,none⟩) 1 1 ((hN1.nob hcX).nob hcY)
  have Hx:=Lib.hid hX1
  clear hX1
  go_wp2_with fail
  generalize (w1.alloc (.cells #[.int .i64 na.kind,.string ⟨na.name.toArray⟩,.slice a5 na.kids.length acap] 24)).alloc (.cells #[.int .i64 na.kind,.string ⟨na.name.toArray⟩,.slice a5 na.kids.length acap] 24)=Y at *
  (with_reducible refine hcall2.mono ?_)
  clear hcall2 c0 c1 c2
  rintro e w6 ⟨hc6,⟨m,hm,rfl,hN6⟩ | ⟨hm,rfl⟩⟩
  ·have hz1:=hc1.size
   have hz2:=hcX.size
   have hF:Fresh (Ge (w.heap.size+2)) w6 (.node 5 [] [na]) _:=hsW ▸ nf_one (k:=5) (w:=W) hFa (Nat.le_refl _) (At1 nb) (fun q e=>by have e:q=nb:=e;omega) ((hcX.trans hcY (fun _ _ e=>e)).any.trans1 hc6) (hc6.at hY1 (fun e=>by have e:w1.heap.size+1=nb:=e;omega)) (by omega)
   have hres6:=((hcX.trans hcY (fun _ _ e=>e)).any.trans1 hc6).at (hc1.at hres (fun e=>by have e:w.heap.size+1=nb:=e;omega)) (fun e=>by have e:w.heap.size+1=nb:=e;omega)
   have Hpost:=Lib.hid (show NfPost nb L (.node 5 [] [nfT a no]) w (.returned (.agg #[.int .i64 5,.string ⟨#[]⟩,.slice (some ⟨w1.heap.size+1,0,none⟩) 1 1])) _ by rw [← Hna.out];exact nf_end (M:=m) (u:= .node 5 [] [na]) (a0:= .int .i64 5) (a1:= .string ⟨#[]⟩) (a2:= .slice (some ⟨w1.heap.size+1,0,none⟩) 1 1) hnb ((hcW.any.trans1 hc1).trans1 ((hcX.trans hcY (fun _ _ e=>e)).any.trans1 hc6)) hres6 hF (by rw [sizeT,sizeL,sizeL];omega) (by rw [sizeT,sizeL,sizeL];omega) hN6)
   obtain ⟨c0,c1,c2,f0,f1,f2⟩:=cells_three hres6
   have hb7:=block_three_all hres6 (.int .i64 5) (.string ⟨#[]⟩) (.slice (some ⟨w1.heap.size+1,0,none⟩) 1 1)
   obtain ⟨e0,e1,e2,_⟩:=cells_three hb7
   have He:=Lib.hid (And.intro e0 (And.intro e1 e2))
   clear hb7 hres6 e0 e1 e2 hres
   go_wp2
   obtain ⟨e0,e1,e2⟩:=He.out
   exact bodyPost_ret (v:= .agg #[.int .i64 5,.string ⟨#[]⟩,.slice (some ⟨w1.heap.size+1,0,none⟩) 1 1]) (by simp [results,Tryz.results78,go_sem,e0,e1,e2]) rfl Hpost.out
  ·go_wp2
   refine ⟨rfl,(hcW.any.trans1 hc1).trans1 ((hcX.trans hcY (fun _ _ e=>e)).any.trans1 hc6),.inr ⟨?_,rfl⟩⟩
   rw [← Hna.out,sizeT,sizeL,sizeL];omega
 ·go_wp2
  exact ⟨rfl,hcW.any.trans1 hc1,.inr ⟨by rw [sizeT,sizeL,sizeL];omega,rfl⟩⟩
theorem form_3y (t:T) (hkids:t.kids=[]) (hkind:t.kind=3) (R:Nat→Prop) (w:World) (nb L:Nat) (v:Value) (ht:IsTree R w t v) (_hR:∀ b,R b→b≠nb) (hN:Nb w nb L) :
 Calls Tryz.prog 78 #[.pointer (some ⟨nb,0,none⟩),v,.bool false] w (NfPost nb L (.node 3 t.name []) w):=by
 obtain ⟨ao,cap,rfl,hlen,hk⟩:=ht.parts
 have hlen2:t.kids.length=0:=by rw [hkids];rfl
 rw [hlen2,hkind]
 have hW:Hid (∃ W,W=(w.alloc (.cells #[.int .i64 3,.string ⟨t.name.toArray⟩,.slice ao 0 cap] 24)).alloc (.cells #[.int .i64 0,.string ⟨#[]⟩,.slice none 0 0] 24)∧Chg Nob w W∧W.heap.size=w.heap.size+2 ∧
  W.heap[w.heap.size]? = some (.cells #[.int .i64 3,.string ⟨t.name.toArray⟩,.slice ao 0 cap] 24 (0,0))∧W.heap[w.heap.size+1]? = some (.cells #[.int .i64 0,.string ⟨#[]⟩,.slice none 0 0] 24 (0,0))):=by
  refine ⟨_,rfl,((Chg.refl _ _).alloc _).alloc _,by rw [World.size_alloc,World.size_alloc],((Chg.refl Nob _).alloc _).at (heap_alloc_new w _) (fun e=>e),?_⟩
  have:=heap_alloc_new (w.alloc (.cells #[.int .i64 3,.string ⟨t.name.toArray⟩,.slice ao 0 cap] 24)) (.cells #[.int .i64 0,.string ⟨#[]⟩,.slice none 0 0] 24)
  rwa [World.size_alloc] at this
 have hnb:=hN.lt
 have HN:=Lib.hid hN
 clear ht hk hkids hN hlen2 hkind hlen
 obtain ⟨W,hWe,hcW,hsW,hbx,hres⟩:=hW.out
 subst hWe
 clear hW
 have Hbx:=Lib.hid hbx
 clear hbx
 go_enter Tryz.func78,Tryz.ntmps78
 go_wp2_with fail
 generalize (w.alloc (.cells #[.int .i64 3,.string ⟨t.name.toArray⟩,.slice ao 0 cap] 24)).alloc (.cells #[.int .i64 0,.string ⟨#[]⟩,.slice none 0 0] 24)=W at *
 (with_reducible refine (npart_any W nb L 3 none 0 0 (HN.out.nob hcW)).mono ?_)
 rintro e w1 ⟨hc1,⟨m,hm,rfl,hN1⟩ | ⟨hm,rfl⟩⟩
 ·have hz1:=hc1.size
  have hE:∃ X,X=w1.alloc (.cells #[.int .i64 3,.string ⟨#[]⟩,.slice none 0 0] 24)∧Chg Nob w1 X:=⟨_,rfl,(Chg.refl _ _).alloc _⟩
  obtain ⟨X,hX,hcX⟩:=hE
  subst hX
  obtain ⟨u0,u1,u2,_⟩:=cells_three (hcX.at (hc1.at Hbx.out (fun e=>by have e:w.heap.size=nb:=e;omega)) (fun e=>e))
  clear hcX
  have hE:∃ X,X=w1.alloc (.cells #[.int .i64 3,.string ⟨t.name.toArray⟩,.slice none 0 0] 24)∧Chg Nob w1 X∧X.heap.size=w1.heap.size+1∧X.heap[w1.heap.size]? = some (.cells #[.int .i64 3,.string ⟨t.name.toArray⟩,.slice none 0 0] 24 (0,0)):=⟨_,rfl,(Chg.refl _ _).alloc _,World.size_alloc _ _,heap_alloc_new _ _⟩
  obtain ⟨X,hX,hcX,hsX,hX1⟩:=hE
  subst hX
  have hres6:=hcX.at (hc1.at hres (fun e=>by have e:w.heap.size+1=nb:=e;omega)) (fun e=>e)
  have Hpost:=Lib.hid (show NfPost nb L (.node 3 t.name []) w (.returned (.agg #[.int .i64 3,.string ⟨t.name.toArray⟩,.slice none 0 0])) _ by exact nf_end (M:=m) (u:= .node 3 t.name []) (a0:= .int .i64 3) (a1:= .string ⟨t.name.toArray⟩) (a2:= .slice none 0 0) hnb (hcW.any.trans1 (hc1.trans1 hcX.any)) hres6 nf_leaf (by rw [sizeT,sizeL];omega) (by rw [sizeT,sizeL];omega) (hN1.nob hcX))
  obtain ⟨c0,c1,c2,f0,f1,f2⟩:=cells_three hres6
  have hb7:=block_three_all hres6 (.int .i64 3) (.string ⟨t.name.toArray⟩) (.slice none 0 0)
  obtain ⟨e0,e1,e2,_⟩:=cells_three hb7
  have He:=Lib.hid (And.intro e0 (And.intro e1 e2))
  clear hb7 hres6 e0 e1 e2 hres hX1
  go_wp2
  obtain ⟨e0,e1,e2⟩:=He.out
  exact bodyPost_ret (v:= .agg #[.int .i64 3,.string ⟨t.name.toArray⟩,.slice none 0 0]) (by simp [results,Tryz.results78,go_sem,e0,e1,e2]) rfl Hpost.out
 ·go_wp2
  exact ⟨rfl,hcW.any.trans1 hc1,.inr ⟨by simp only [sizeT,sizeL];omega,rfl⟩⟩
theorem form_3n (t:T) (hkids:t.kids=[]) (hkind:t.kind=3) (R:Nat→Prop) (w:World) (nb L:Nat) (v:Value) (ht:IsTree R w t v) (_hR:∀ b,R b→b≠nb) (hN:Nb w nb L) :
 Calls Tryz.prog 78 #[.pointer (some ⟨nb,0,none⟩),v,.bool true] w (NfPost nb L (.node 4 [] [.node 3 t.name []]) w):=by
 obtain ⟨ao,cap,rfl,hlen,hk⟩:=ht.parts
 have hlen2:t.kids.length=0:=by rw [hkids];rfl
 rw [hlen2,hkind]
 have hW:Hid (∃ W,W=(w.alloc (.cells #[.int .i64 3,.string ⟨t.name.toArray⟩,.slice ao 0 cap] 24)).alloc (.cells #[.int .i64 0,.string ⟨#[]⟩,.slice none 0 0] 24)∧Chg Nob w W∧W.heap.size=w.heap.size+2 ∧
  W.heap[w.heap.size]? = some (.cells #[.int .i64 3,.string ⟨t.name.toArray⟩,.slice ao 0 cap] 24 (0,0))∧W.heap[w.heap.size+1]? = some (.cells #[.int .i64 0,.string ⟨#[]⟩,.slice none 0 0] 24 (0,0))):=by
  refine ⟨_,rfl,((Chg.refl _ _).alloc _).alloc _,by rw [World.size_alloc,World.size_alloc],((Chg.refl Nob _).alloc _).at (heap_alloc_new w _) (fun e=>e),?_⟩
  have:=heap_alloc_new (w.alloc (.cells #[.int .i64 3,.string ⟨t.name.toArray⟩,.slice ao 0 cap] 24)) (.cells #[.int .i64 0,.string ⟨#[]⟩,.slice none 0 0] 24)
  rwa [World.size_alloc] at this
 have hnb:=hN.lt
 have HN:=Lib.hid hN
 clear ht hk hkids hN hlen2 hkind hlen
 obtain ⟨W,hWe,hcW,hsW,hbx,hres⟩:=hW.out
 subst hWe
 clear hW
 have Hbx:=Lib.hid hbx
 clear hbx
 go_enter Tryz.func78,Tryz.ntmps78
 go_wp2_with fail
 generalize (w.alloc (.cells #[.int .i64 3,.string ⟨t.name.toArray⟩,.slice ao 0 cap] 24)).alloc (.cells #[.int .i64 0,.string ⟨#[]⟩,.slice none 0 0] 24)=W at *
 (with_reducible refine (npart_any W nb L 3 none 0 0 (HN.out.nob hcW)).mono ?_)
 rintro e w1 ⟨hc1,⟨m,hm,rfl,hN1⟩ | ⟨hm,rfl⟩⟩
 ·have hz1:=hc1.size
  have hE:∃ X,X=w1.alloc (.cells #[.int .i64 3,.string ⟨#[]⟩,.slice none 0 0] 24)∧Chg Nob w1 X:=⟨_,rfl,(Chg.refl _ _).alloc _⟩
  obtain ⟨X,hX,hcX⟩:=hE
  subst hX
  obtain ⟨u0,u1,u2,_⟩:=cells_three (hcX.at (hc1.at Hbx.out (fun e=>by have e:w.heap.size=nb:=e;omega)) (fun e=>e))
  clear hcX
  have hE:∃ X,X=w1.alloc (.cells #[.int .i64 3,.string ⟨t.name.toArray⟩,.slice none 0 0] 24)∧Chg Nob w1 X∧X.heap.size=w1.heap.size+1∧X.heap[w1.heap.size]? = some (.cells #[.int .i64 3,.string ⟨t.name.toArray⟩,.slice none 0 0] 24 (0,0)):=⟨_,rfl,(Chg.refl _ _).alloc _,World.size_alloc _ _,heap_alloc_new _ _⟩
  obtain ⟨X,hX,hcX,hsX,hX1⟩:=hE
  subst hX
  have hE:∃ X,X=(w1.alloc (.cells #[.int .i64 3,.string ⟨t.name.toArray⟩,.slice none 0 0] 24)).alloc (.cells #[.int .i64 3,.string ⟨t.name.toArray⟩,.slice none 0 0] 24)∧Chg Nob (w1.alloc (.cells #[.int .i64 3,.string ⟨t.name.toArray⟩,.slice none 0 0] 24)) X∧X.heap[w1.heap.size+1]? = some (.cells #[.int .i64 3,.string ⟨t.name.toArray⟩,.slice none 0 0] 24 (0,0)):=⟨_,rfl,(Chg.refl _ _).alloc _,by have:=heap_alloc_new (w1.alloc (.cells #[.int .i64 3,.string ⟨t.name.toArray⟩,.slice none 0 0] 24)) (.cells #[.int .i64 3,.string ⟨t.name.toArray⟩,.slice none 0 0] 24);rwa [hsX] at this⟩
  obtain ⟨X,hX,hcY,hY1⟩:=hE
  subst hX
  have hcall2:=npart_any _ nb _ 4 (some ⟨w1.heap.size+1,0,none⟩) 1 1 ((hN1.nob hcX).nob hcY)
  have Hx:=Lib.hid hX1
  clear hX1
  go_wp2_with fail
  generalize (w1.alloc (.cells #[.int .i64 3,.string ⟨t.name.toArray⟩,.slice none 0 0] 24)).alloc (.cells #[.int .i64 3,.string ⟨t.name.toArray⟩,.slice none 0 0] 24)=Y at *
  (with_reducible refine hcall2.mono ?_)
  clear hcall2 u0 u1 u2
  rintro e w6 ⟨hc6,⟨m2,hm2,rfl,hN6⟩ | ⟨hm2,rfl⟩⟩
  ·have hz2:=hcX.size
   have hF0:Fresh (Ge (w.heap.size+2)) w1 (.node 3 t.name []) (.agg #[.int .i64 3,.string ⟨t.name.toArray⟩,.slice none 0 0]):=nf_leaf
   have hF:Fresh (Ge (w.heap.size+2)) w6 (.node 4 [] [.node 3 t.name []]) _:=hsW ▸ nf_one (k:=4) (w:=W) (lo1:=W.heap.size) (w1:=w1) (hsW ▸ hF0) (Nat.le_refl _) (At1 nb) (fun q e=>by have e:q=nb:=e;omega) ((hcX.trans hcY (fun _ _ e=>e)).any.trans1 hc6) (hc6.at hY1 (fun e=>by have e:w1.heap.size+1=nb:=e;omega)) (by omega)
   have hres6:=((hcX.trans hcY (fun _ _ e=>e)).any.trans1 hc6).at (hc1.at hres (fun e=>by have e:w.heap.size+1=nb:=e;omega)) (fun e=>by have e:w.heap.size+1=nb:=e;omega)
   have Hpost:=Lib.hid (show NfPost nb L (.node 4 [] [.node 3 t.name []]) w (.returned (.agg #[.int .i64 4,.string ⟨#[]⟩,.slice (some ⟨w1.heap.size+1,0,none⟩) 1 1])) _ by exact nf_end (M:=m2) (u:= .node 4 [] [.node 3 t.name []]) (a0:= .int .i64 4) (a1:= .string ⟨#[]⟩) (a2:= .slice (some ⟨w1.heap.size+1,0,none⟩) 1 1) hnb ((hcW.any.trans1 hc1).trans1 ((hcX.trans hcY (fun _ _ e=>e)).any.trans1 hc6)) hres6 hF (by simp only [sizeT,sizeL];omega) (by simp only [sizeT,sizeL];omega) hN6)
   obtain ⟨c0,c1,c2,f0,f1,f2⟩:=cells_three hres6
   have hb7:=block_three_all hres6 (.int .i64 4) (.string ⟨#[]⟩) (.slice (some ⟨w1.heap.size+1,0,none⟩) 1 1)
   obtain ⟨e0,e1,e2,_⟩:=cells_three hb7
   have He:=Lib.hid (And.intro e0 (And.intro e1 e2))
   clear hb7 hres6 e0 e1 e2 hres
   go_wp2
   obtain ⟨e0,e1,e2⟩:=He.out
   exact bodyPost_ret (v:= .agg #[.int .i64 4,.string ⟨#[]⟩,.slice (some ⟨w1.heap.size+1,0,none⟩) 1 1]) (by simp [results,Tryz.results78,go_sem,e0,e1,e2]) rfl Hpost.out
  ·go_wp2
   refine ⟨rfl,(hcW.any.trans1 hc1).trans1 ((hcX.trans hcY (fun _ _ e=>e)).any.trans1 hc6),.inr ⟨?_,rfl⟩⟩
   simp only [sizeT,sizeL];omega
 ·go_wp2
  exact ⟨rfl,hcW.any.trans1 hc1,.inr ⟨by simp only [sizeT,sizeL];omega,rfl⟩⟩
theorem form_11 (t a b:T) (hkids:t.kids=[a,b]) (hfa:FormC a) (hfb:FormC b) (hkind:t.kind=11) (R:Nat→Prop) (w:World) (nb L:Nat) (no:Bool) (v:Value) (ht:IsTree R w t v) (hR:∀ b,R b→b≠nb) (hN:Nb w nb L) :
 Calls Tryz.prog 78 #[.pointer (some ⟨nb,0,none⟩),v,.bool no] w (NfPost nb L (.node 9 [] [.node 8 [] [nfT a false,nfT b no],.node 8 [] [nfT a true,nfT b (!no)]]) w):=by
 obtain ⟨ao,cap,rfl,hlen,hk⟩:=ht.parts
 have hlen2:t.kids.length=2:=by rw [hkids];rfl
 rw [hlen2,hkind] at ht ⊢
 have hW:Hid (∃ W,W=(w.alloc (.cells #[.int .i64 11,.string ⟨t.name.toArray⟩,.slice ao 2 cap] 24)).alloc (.cells #[.int .i64 0,.string ⟨#[]⟩,.slice none 0 0] 24)∧Chg Nob w W∧W.heap.size=w.heap.size+2 ∧
  W.heap[w.heap.size]? = some (.cells #[.int .i64 11,.string ⟨t.name.toArray⟩,.slice ao 2 cap] 24 (0,0))∧W.heap[w.heap.size+1]? = some (.cells #[.int .i64 0,.string ⟨#[]⟩,.slice none 0 0] 24 (0,0))):=by
  refine ⟨_,rfl,((Chg.refl _ _).alloc _).alloc _,by rw [World.size_alloc,World.size_alloc],((Chg.refl Nob _).alloc _).at (heap_alloc_new w _) (fun e=>e),?_⟩
  have:=heap_alloc_new (w.alloc (.cells #[.int .i64 11,.string ⟨t.name.toArray⟩,.slice ao 2 cap] 24)) (.cells #[.int .i64 0,.string ⟨#[]⟩,.slice none 0 0] 24)
  rwa [World.size_alloc] at this
 have Hfa:=Lib.hid hfa
 have Hfb:=Lib.hid hfb
 have hnb:=hN.lt
 have HN:=Lib.hid hN
 have Ht:=Lib.hid ht
 have Hkids:=Lib.hid hkids
 clear ht hk hkids hN hlen2 hkind hlen hfa hfb
 obtain ⟨W,hWe,hcW,hsW,hbx,hres⟩:=hW.out
 subst hWe
 clear hW
 have Hbx:=Lib.hid hbx
 have Hres:=Lib.hid hres
 have HsW:=Lib.hid hsW
 clear hbx hres hsW
 go_enter Tryz.func78,Tryz.ntmps78
 go_wp2_with fail
 generalize (w.alloc (.cells #[.int .i64 11,.string ⟨t.name.toArray⟩,.slice ao 2 cap] 24)).alloc (.cells #[.int .i64 0,.string ⟨#[]⟩,.slice none 0 0] 24)=W at *
 obtain ⟨c0,c1,c2,_⟩:=cells_three Hbx.out
 (with_reducible refine (pair_any t a b Hkids.out Hfa.out Hfb.out R _ nb L 8 false no _ (Ht.out.nob hcW) hR (HN.out.nob hcW)).mono ?_)
 clear c0 c1 c2
 rintro e w3 ⟨hc3,⟨va,hsa,rfl,hFa,hN3⟩ | ⟨hsa,rfl⟩⟩
 ·obtain ⟨a5,acap,rfl⟩:=hFa.agg
  obtain ⟨na,hna⟩:∃ na:T,na = .node 8 [] [nfT a false,nfT b no]:=⟨_,rfl⟩
  rw [← hna] at hsa hFa hN3 ⊢
  have Hna:=Lib.hid hna
  clear hna
  have hA:Chg Nob w3 (w3.alloc (.cells #[.int .i64 na.kind,.string ⟨na.name.toArray⟩,.slice a5 na.kids.length acap] 24)):=(Chg.refl _ _).alloc _
  have hta3:=heap_alloc_new w3 (.cells #[.int .i64 na.kind,.string ⟨na.name.toArray⟩,.slice a5 na.kids.length acap] 24)
  have hs3:(w3.alloc (.cells #[.int .i64 na.kind,.string ⟨na.name.toArray⟩,.slice a5 na.kids.length acap] 24)).heap.size=w3.heap.size+1:=World.size_alloc _ _
  have hN3A:=hN3.nob hA
  have hc23:=hc3.trans1 hA.any
  have hcw3:Chg (At1 nb) w _:=hcW.any.trans1 hc23
  have hs23:=hc3.size
  have hsW:=HsW.out
  have hbx3:=hc23.at Hbx.out (fun e=>by have e:w.heap.size=nb:=e;omega)
  obtain ⟨c0,c1,c2,_⟩:=cells_three hbx3
  have hcallB:=pair_any t a b Hkids.out Hfa.out Hfb.out R _ nb _ 8 true (!no) _ (Ht.out.at1 hcw3 hR) hR hN3A
  have Hta3:=Lib.hid hta3
  have Hs3:=Lib.hid hs3
  clear hN3 hN3A hbx3 hta3 hs3
  go_wp2_with fail
  generalize w3.alloc (.cells #[.int .i64 na.kind,.string ⟨na.name.toArray⟩,.slice a5 na.kids.length acap] 24)=W3 at *
  (with_reducible refine hcallB.mono ?_)
  clear hcallB c0 c1 c2
  rintro e w4 ⟨hc4,⟨vb,hsb,rfl,hFb,hN4⟩ | ⟨hsb,rfl⟩⟩
  ·obtain ⟨b5,bcap,rfl⟩:=hFb.agg
   obtain ⟨nb',hnb'⟩:∃ n':T,n' = .node 8 [] [nfT a true,nfT b (!no)]:=⟨_,rfl⟩
   rw [← hnb'] at hsb hFb hN4 ⊢
   have Hnb':=Lib.hid hnb'
   clear hnb'
   have hB:Chg Nob w4 (w4.alloc (.cells #[.int .i64 nb'.kind,.string ⟨nb'.name.toArray⟩,.slice b5 nb'.kids.length bcap] 24)):=(Chg.refl _ _).alloc _
   have htb4:=heap_alloc_new w4 (.cells #[.int .i64 nb'.kind,.string ⟨nb'.name.toArray⟩,.slice b5 nb'.kids.length bcap] 24)
   have hs4:(w4.alloc (.cells #[.int .i64 nb'.kind,.string ⟨nb'.name.toArray⟩,.slice b5 nb'.kids.length bcap] 24)).heap.size=w4.heap.size+1:=World.size_alloc _ _
   have hN4B:=hN4.nob hB
   have hc34:=hc4.trans1 hB.any
   have hz4:=hc4.size
   have hs3':=Hs3.out
   have hta4:=hc34.at Hta3.out (fun e=>by have e:w3.heap.size=nb:=e;omega)
   have hres4:=hc34.at (hc23.at Hres.out (fun e=>by have e:w.heap.size+1=nb:=e;omega)) (fun e=>by have e:w.heap.size+1=nb:=e;omega)
   obtain ⟨c0,c1,c2,_⟩:=cells_three hta4
   obtain ⟨d0,d1,d2,_⟩:=cells_three htb4
   have hD:Chg Nob (w4.alloc (.cells #[.int .i64 nb'.kind,.string ⟨nb'.name.toArray⟩,.slice b5 nb'.kids.length bcap] 24)) ((w4.alloc (.cells #[.int .i64 nb'.kind,.string ⟨nb'.name.toArray⟩,.slice b5 nb'.kids.length bcap] 24)).alloc (.cells #[.int .i64 na.kind,.string ⟨na.name.toArray⟩,.slice a5 na.kids.length acap,.int .i64 nb'.kind,.string ⟨nb'.name.toArray⟩,.slice b5 nb'.kids.length bcap] 24)):=(Chg.refl _ _).alloc _
   have hDn:=heap_alloc_new (w4.alloc (.cells #[.int .i64 nb'.kind,.string ⟨nb'.name.toArray⟩,.slice b5 nb'.kids.length bcap] 24)) (.cells #[.int .i64 na.kind,.string ⟨na.name.toArray⟩,.slice a5 na.kids.length acap,.int .i64 nb'.kind,.string ⟨nb'.name.toArray⟩,.slice b5 nb'.kids.length bcap] 24)
   rw [hs4] at hDn
   have hcallP:=npart_any _ nb _ (9) (some ⟨w4.heap.size+1,0,none⟩) 2 2 (hN4B.nob hD)
   have Hres4:=Lib.hid (hD.at hres4 (fun e=>e))
   have HDn:=Lib.hid hDn
   have Hc4D:=Lib.hid (hB.trans1 hD)
   have Hs4:=Lib.hid hs4
   clear hN4 hN4B hta4 htb4 hres4 hDn hs4 hD
   go_wp2_with fail
   generalize (w4.alloc (.cells #[.int .i64 nb'.kind,.string ⟨nb'.name.toArray⟩,.slice b5 nb'.kids.length bcap] 24)).alloc (.cells #[.int .i64 na.kind,.string ⟨na.name.toArray⟩,.slice a5 na.kids.length acap,.int .i64 nb'.kind,.string ⟨nb'.name.toArray⟩,.slice b5 nb'.kids.length bcap] 24)=W5 at *
   (with_reducible refine hcallP.mono ?_)
   clear hcallP c0 c1 c2 d0 d1 d2
   rintro e w6 ⟨hc6,⟨m2,hm2,rfl,hN6⟩ | ⟨hm2,rfl⟩⟩
   ·have hz5:=Hc4D.out.size
    have hres6:=hc6.at Hres4.out (fun e=>by have e:w.heap.size+1=nb:=e;omega)
    have h46:Chg (At1 nb) w4 w6:=Hc4D.out.any.trans1 hc6
    have h36:Chg (At1 nb) w3 w6:=(hA.any.trans1 hc4).trans1 h46
    have hcw6:Chg (At1 nb) w w6:=(hcw3.trans1 hc4).trans1 h46
    have hF:Fresh (Ge (w.heap.size+2)) w6 (.node (9) [] [na,nb']) _:=hsW ▸ nf_two (k:=9) (w:=W) hFa hFb (by omega) (by omega) (At1 nb) (fun q e=>by have e:q=nb:=e;omega) (fun q e=>by have e:q=nb:=e;omega) h36 h46
     (hc6.at HDn.out (fun e=>by have e:w4.heap.size+1=nb:=e;omega)) (by omega)
    have Hpost:Hid (NfPost nb L (.node 9 [] [.node 8 [] [nfT a false,nfT b no],.node 8 [] [nfT a true,nfT b (!no)]]) w (.returned (.agg #[.int .i64 (9),.string ⟨#[]⟩,.slice (some ⟨w4.heap.size+1,0,none⟩) 2 2])) (((w6.setCell ⟨w.heap.size+1,0,none⟩ (.int .i64 (9))).setCell ⟨w.heap.size+1,1,none⟩ (.string ⟨#[]⟩)).setCell ⟨w.heap.size+1,2,none⟩ (.slice (some ⟨w4.heap.size+1,0,none⟩) 2 2))):=by
     show NfPost _ _ _ _ _ _
     rw [← Hna.out,← Hnb'.out]
     exact nf_end (M:=m2) (u:= .node (9) [] [na,nb']) hnb hcw6 hres6 hF (by simp only [sizeT,sizeL];omega) (by simp only [sizeT,sizeL];omega) hN6
    obtain ⟨c0,c1,c2,f0,f1,f2⟩:=cells_three hres6
    have hb7:=block_three_all hres6 (.int .i64 (9)) (.string ⟨#[]⟩) (.slice (some ⟨w4.heap.size+1,0,none⟩) 2 2)
    obtain ⟨e0,e1,e2,_⟩:=cells_three hb7
    have He:=Lib.hid (And.intro e0 (And.intro e1 e2))
    clear hb7 hres6 e0 e1 e2 h46 h36 hcw6 hF hFa hFb hN6
    go_wp2
    obtain ⟨e0,e1,e2⟩:=He.out
    exact bodyPost_ret (v:= .agg #[.int .i64 (9),.string ⟨#[]⟩,.slice (some ⟨w4.heap.size+1,0,none⟩) 2 2]) (by simp [results,Tryz.results78,go_sem,e0,e1,e2]) rfl Hpost.out
   ·go_wp2
    refine ⟨rfl,(hcw3.trans1 hc4).trans1 (Hc4D.out.any.trans1 hc6),.inr ⟨?_,rfl⟩⟩
    rw [← Hna.out,← Hnb'.out];simp only [sizeT,sizeL];omega
  ·go_wp2
   refine ⟨rfl,hcw3.trans1 hc4,.inr ⟨?_,rfl⟩⟩
   rw [← Hna.out];have:=sizeT_pos na;simp only [sizeT,sizeL] at hsb ⊢;omega
 ·go_wp2
  exact ⟨rfl,hcW.any.trans1 hc3,.inr ⟨by simp only [sizeT,sizeL] at hsa ⊢;omega,rfl⟩⟩
end Go.Proofs.YtkgfdgfhpdhhaaaGreat
