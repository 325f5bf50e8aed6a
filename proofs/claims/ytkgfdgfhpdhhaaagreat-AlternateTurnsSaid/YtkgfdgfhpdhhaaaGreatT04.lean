/- Parts of the walks and of the plain theory, the first: ltl's normer: a formula's normal form (an and, an or, an until, a release, an implication). Conditions: the tree lies in the world; the normer does. -/
import Derived.Test.YtkgfdgfhpdhhaaaGreatT03
import Derived.StillTailTactics
import Derived.Deep.RegionHeld3
namespace Go.Proofs.YtkgfdgfhpdhhaaaGreat
open Go.ChangeShapes Go.WideShapes Go.RowKit
set_option maxRecDepth 100000
set_option maxHeartbeats 8000000
theorem form_8 (t a b:T) (hkids:t.kids=[a,b]) (hfa:FormC a) (hfb:FormC b) (hkind:t.kind=8) (R:Nat→Prop) (w:World) (nb L:Nat) (no:Bool) (v:Value) (ht:IsTree R w t v) (hR:∀ b,R b→b≠nb) (hN:Nb w nb L) :
 Calls Tryz.prog 78 #[.pointer (some ⟨nb,0,none⟩),v,.bool no] w (NfPost nb L (.node (flipK 8 no) [] [nfT a no,nfT b no]) w):=by
 obtain ⟨ao,cap,rfl,hlen,hk⟩:=ht.parts
 have hlen2:t.kids.length=2:=by rw [hkids];rfl
 rw [hlen2,hkind] at ht ⊢
 have hW:Hid (∃ W,W=(w.alloc (.cells #[.int .i64 8,.string ⟨t.name.toArray⟩,.slice ao 2 cap] 24)).alloc (.cells #[.int .i64 0,.string ⟨#[]⟩,.slice none 0 0] 24)∧Chg Nob w W∧W.heap.size=w.heap.size+2 ∧
  W.heap[w.heap.size]? = some (.cells #[.int .i64 8,.string ⟨t.name.toArray⟩,.slice ao 2 cap] 24 (0,0))∧W.heap[w.heap.size+1]? = some (.cells #[.int .i64 0,.string ⟨#[]⟩,.slice none 0 0] 24 (0,0))):=by
  refine ⟨_,rfl,((Chg.refl _ _).alloc _).alloc _,by rw [World.size_alloc,World.size_alloc],((Chg.refl Nob _).alloc _).at (heap_alloc_new w _) (fun e=>e),?_⟩
  have:=heap_alloc_new (w.alloc (.cells #[.int .i64 8,.string ⟨t.name.toArray⟩,.slice ao 2 cap] 24)) (.cells #[.int .i64 0,.string ⟨#[]⟩,.slice none 0 0] 24)
  rwa [World.size_alloc] at this
 have Hfa:=Lib.hid hfa
 have Hfb:=Lib.hid hfb
 have hnb:=hN.lt
 have HN:=Lib.hid hN
 have Ht:=Lib.hid ht
 have Hkids:=Lib.hid hkids
 clear ht hk hkids hN hlen2 hkind hlen hfa hfb
 obtain ⟨W,hWe,hcW,hsW,hbx,hres⟩:=hW.out
 subst hWe
 clear hW
 have Hbx:=Lib.hid hbx
 have Hres:=Lib.hid hres
 have HsW:=Lib.hid hsW
 clear hbx hres hsW
 go_enter Tryz.func78,Tryz.ntmps78
 go_wp2_with fail
 generalize (w.alloc (.cells #[.int .i64 8,.string ⟨t.name.toArray⟩,.slice ao 2 cap] 24)).alloc (.cells #[.int .i64 0,.string ⟨#[]⟩,.slice none 0 0] 24)=W at *
 obtain ⟨c0,c1,c2,_⟩:=cells_three Hbx.out
 refine wp_region_still_tail 8 (by kernel_rfl) (by kernel_rfl) ?_
 simp only [List.take_succ_cons,List.take_zero,List.drop_succ_cons,List.drop_zero]
 repeat still_step
 still_call (flip_still 8 no _)
 repeat still_step
 refine wpStill_nil ?_
 change wpList _ _ _ _ _ (World.drew (W))
 replace hcW:=hcW.drew
 replace Hres:=hid_drew Hres
 replace HsW:=hid_drew_size HsW
 clear c0 c1 c2
 go_wp2_with fail
 generalize W.drew=V at *
 (with_reducible refine (pair_any t a b Hkids.out Hfa.out Hfb.out R _ nb L (flipK 8 no) no no _ (Ht.out.nob hcW) hR (HN.out.nob hcW)).mono ?_)
 rintro e w1 ⟨hc1,⟨va,hsa,rfl,hFa,hN1⟩ | ⟨hsa,rfl⟩⟩
 ·obtain ⟨a5,acap,rfl⟩:=hFa.agg
  obtain ⟨na,hna⟩:∃ na:T,na = .node (flipK 8 no) [] [nfT a no,nfT b no]:=⟨_,rfl⟩
  rw [← hna] at hsa hFa hN1 ⊢
  have Hna:=Lib.hid hna
  clear hna
  have hsW:=HsW.out
  have hres6:=hc1.at Hres.out (fun e=>by have e:w.heap.size+1=nb:=e;omega)
  have Hpost:=Lib.hid (show NfPost nb L (.node (flipK 8 no) [] [nfT a no,nfT b no]) w (.returned (.agg #[.int .i64 na.kind,.string ⟨na.name.toArray⟩,.slice a5 na.kids.length acap])) _ by rw [← Hna.out];exact nf_end (M:=_) (u:=na) (a0:= .int .i64 na.kind) (a1:= .string ⟨na.name.toArray⟩) (a2:= .slice a5 na.kids.length acap) hnb (hcW.any.trans1 hc1) hres6 (hsW ▸ hFa) (hsa) (rfl) hN1)
  obtain ⟨c0,c1,c2,f0,f1,f2⟩:=cells_three hres6
  have hb7:=block_three_all hres6 (.int .i64 na.kind) (.string ⟨na.name.toArray⟩) (.slice a5 na.kids.length acap)
  obtain ⟨e0,e1,e2,_⟩:=cells_three hb7
  have He:=Lib.hid (And.intro e0 (And.intro e1 e2))
  clear hb7 hres6 e0 e1 e2 hsW
  go_wp2
  obtain ⟨e0,e1,e2⟩:=He.out
  exact bodyPost_ret (v:= .agg #[.int .i64 na.kind,.string ⟨na.name.toArray⟩,.slice a5 na.kids.length acap]) (by simp [results,Tryz.results78,go_sem,e0,e1,e2]) rfl Hpost.out
 ·go_wp2
  exact ⟨rfl,hcW.any.trans1 hc1,.inr ⟨hsa,rfl⟩⟩
theorem form_9 (t a b:T) (hkids:t.kids=[a,b]) (hfa:FormC a) (hfb:FormC b) (hkind:t.kind=9) (R:Nat→Prop) (w:World) (nb L:Nat) (no:Bool) (v:Value) (ht:IsTree R w t v) (hR:∀ b,R b→b≠nb) (hN:Nb w nb L) :
 Calls Tryz.prog 78 #[.pointer (some ⟨nb,0,none⟩),v,.bool no] w (NfPost nb L (.node (flipK 9 no) [] [nfT a no,nfT b no]) w):=by
 obtain ⟨ao,cap,rfl,hlen,hk⟩:=ht.parts
 have hlen2:t.kids.length=2:=by rw [hkids];rfl
 rw [hlen2,hkind] at ht ⊢
 have hW:Hid (∃ W,W=(w.alloc (.cells #[.int .i64 9,.string ⟨t.name.toArray⟩,.slice ao 2 cap] 24)).alloc (.cells #[.int .i64 0,.string ⟨#[]⟩,.slice none 0 0] 24)∧Chg Nob w W∧W.heap.size=w.heap.size+2 ∧
  W.heap[w.heap.size]? = some (.cells #[.int .i64 9,.string ⟨t.name.toArray⟩,.slice ao 2 cap] 24 (0,0))∧W.heap[w.heap.size+1]? = some (.cells #[.int .i64 0,.string ⟨#[]⟩,.slice none 0 0] 24 (0,0))):=by
  refine ⟨_,rfl,((Chg.refl _ _).alloc _).alloc _,by rw [World.size_alloc,World.size_alloc],((Chg.refl Nob _).alloc _).at (heap_alloc_new w _) (fun e=>e),?_⟩
  have:=heap_alloc_new (w.alloc (.cells #[.int .i64 9,.string ⟨t.name.toArray⟩,.slice ao 2 cap] 24)) (.cells #[.int .i64 0,.string ⟨#[]⟩,.slice none 0 0] 24)
  rwa [World.size_alloc] at this
 have Hfa:=Lib.hid hfa
 have Hfb:=Lib.hid hfb
 have hnb:=hN.lt
 have HN:=Lib.hid hN
 have Ht:=Lib.hid ht
 have Hkids:=Lib.hid hkids
 clear ht hk hkids hN hlen2 hkind hlen hfa hfb
 obtain ⟨W,hWe,hcW,hsW,hbx,hres⟩:=hW.out
 subst hWe
 clear hW
 have Hbx:=Lib.hid hbx
 have Hres:=Lib.hid hres
 have HsW:=Lib.hid hsW
 clear hbx hres hsW
 go_enter Tryz.func78,Tryz.ntmps78
 go_wp2_with fail
 generalize (w.alloc (.cells #[.int .i64 9,.string ⟨t.name.toArray⟩,.slice ao 2 cap] 24)).alloc (.cells #[.int .i64 0,.string ⟨#[]⟩,.slice none 0 0] 24)=W at *
 obtain ⟨c0,c1,c2,_⟩:=cells_three Hbx.out
 refine wp_region_still_tail 8 (by kernel_rfl) (by kernel_rfl) ?_
 simp only [List.take_succ_cons,List.take_zero,List.drop_succ_cons,List.drop_zero]
 repeat still_step
 still_call (flip_still 9 no _)
 repeat still_step
 refine wpStill_nil ?_
 change wpList _ _ _ _ _ (World.drew (W))
 replace hcW:=hcW.drew
 replace Hres:=hid_drew Hres
 replace HsW:=hid_drew_size HsW
 clear c0 c1 c2
 go_wp2_with fail
 generalize W.drew=V at *
 (with_reducible refine (pair_any t a b Hkids.out Hfa.out Hfb.out R _ nb L (flipK 9 no) no no _ (Ht.out.nob hcW) hR (HN.out.nob hcW)).mono ?_)
 rintro e w1 ⟨hc1,⟨va,hsa,rfl,hFa,hN1⟩ | ⟨hsa,rfl⟩⟩
 ·obtain ⟨a5,acap,rfl⟩:=hFa.agg
  obtain ⟨na,hna⟩:∃ na:T,na = .node (flipK 9 no) [] [nfT a no,nfT b no]:=⟨_,rfl⟩
  rw [← hna] at hsa hFa hN1 ⊢
  have Hna:=Lib.hid hna
  clear hna
  have hsW:=HsW.out
  have hres6:=hc1.at Hres.out (fun e=>by have e:w.heap.size+1=nb:=e;omega)
  have Hpost:=Lib.hid (show NfPost nb L (.node (flipK 9 no) [] [nfT a no,nfT b no]) w (.returned (.agg #[.int .i64 na.kind,.string ⟨na.name.toArray⟩,.slice a5 na.kids.length acap])) _ by rw [← Hna.out];exact nf_end (M:=_) (u:=na) (a0:= .int .i64 na.kind) (a1:= .string ⟨na.name.toArray⟩) (a2:= .slice a5 na.kids.length acap) hnb (hcW.any.trans1 hc1) hres6 (hsW ▸ hFa) (hsa) (rfl) hN1)
  obtain ⟨c0,c1,c2,f0,f1,f2⟩:=cells_three hres6
  have hb7:=block_three_all hres6 (.int .i64 na.kind) (.string ⟨na.name.toArray⟩) (.slice a5 na.kids.length acap)
  obtain ⟨e0,e1,e2,_⟩:=cells_three hb7
  have He:=Lib.hid (And.intro e0 (And.intro e1 e2))
  clear hb7 hres6 e0 e1 e2 hsW
  go_wp2
  obtain ⟨e0,e1,e2⟩:=He.out
  exact bodyPost_ret (v:= .agg #[.int .i64 na.kind,.string ⟨na.name.toArray⟩,.slice a5 na.kids.length acap]) (by simp [results,Tryz.results78,go_sem,e0,e1,e2]) rfl Hpost.out
 ·go_wp2
  exact ⟨rfl,hcW.any.trans1 hc1,.inr ⟨hsa,rfl⟩⟩
theorem form_12 (t a b:T) (hkids:t.kids=[a,b]) (hfa:FormC a) (hfb:FormC b) (hkind:t.kind=12) (R:Nat→Prop) (w:World) (nb L:Nat) (no:Bool) (v:Value) (ht:IsTree R w t v) (hR:∀ b,R b→b≠nb) (hN:Nb w nb L) :
 Calls Tryz.prog 78 #[.pointer (some ⟨nb,0,none⟩),v,.bool no] w (NfPost nb L (.node (flipK 12 no) [] [nfT a no,nfT b no]) w):=by
 obtain ⟨ao,cap,rfl,hlen,hk⟩:=ht.parts
 have hlen2:t.kids.length=2:=by rw [hkids];rfl
 rw [hlen2,hkind] at ht ⊢
 have hW:Hid (∃ W,W=(w.alloc (.cells #[.int .i64 12,.string ⟨t.name.toArray⟩,.slice ao 2 cap] 24)).alloc (.cells #[.int .i64 0,.string ⟨#[]⟩,.slice none 0 0] 24)∧Chg Nob w W∧W.heap.size=w.heap.size+2 ∧
  W.heap[w.heap.size]? = some (.cells #[.int .i64 12,.string ⟨t.name.toArray⟩,.slice ao 2 cap] 24 (0,0))∧W.heap[w.heap.size+1]? = some (.cells #[.int .i64 0,.string ⟨#[]⟩,.slice none 0 0] 24 (0,0))):=by
  refine ⟨_,rfl,((Chg.refl _ _).alloc _).alloc _,by rw [World.size_alloc,World.size_alloc],((Chg.refl Nob _).alloc _).at (heap_alloc_new w _) (fun e=>e),?_⟩
  have:=heap_alloc_new (w.alloc (.cells #[.int .i64 12,.string ⟨t.name.toArray⟩,.slice ao 2 cap] 24)) (.cells #[.int .i64 0,.string ⟨#[]⟩,.slice none 0 0] 24)
  rwa [World.size_alloc] at this
 have Hfa:=Lib.hid hfa
 have Hfb:=Lib.hid hfb
 have hnb:=hN.lt
 have HN:=Lib.hid hN
 have Ht:=Lib.hid ht
 have Hkids:=Lib.hid hkids
 clear ht hk hkids hN hlen2 hkind hlen hfa hfb
 obtain ⟨W,hWe,hcW,hsW,hbx,hres⟩:=hW.out
 subst hWe
 clear hW
 have Hbx:=Lib.hid hbx
 have Hres:=Lib.hid hres
 have HsW:=Lib.hid hsW
 clear hbx hres hsW
 go_enter Tryz.func78,Tryz.ntmps78
 go_wp2_with fail
 generalize (w.alloc (.cells #[.int .i64 12,.string ⟨t.name.toArray⟩,.slice ao 2 cap] 24)).alloc (.cells #[.int .i64 0,.string ⟨#[]⟩,.slice none 0 0] 24)=W at *
 obtain ⟨c0,c1,c2,_⟩:=cells_three Hbx.out
 refine wp_region_still_tail 8 (by kernel_rfl) (by kernel_rfl) ?_
 simp only [List.take_succ_cons,List.take_zero,List.drop_succ_cons,List.drop_zero]
 repeat still_step
 still_call (flip_still 12 no _)
 repeat still_step
 refine wpStill_nil ?_
 change wpList _ _ _ _ _ (World.drew (W))
 replace hcW:=hcW.drew
 replace Hres:=hid_drew Hres
 replace HsW:=hid_drew_size HsW
 clear c0 c1 c2
 go_wp2_with fail
 generalize W.drew=V at *
 (with_reducible refine (pair_any t a b Hkids.out Hfa.out Hfb.out R _ nb L (flipK 12 no) no no _ (Ht.out.nob hcW) hR (HN.out.nob hcW)).mono ?_)
 rintro e w1 ⟨hc1,⟨va,hsa,rfl,hFa,hN1⟩ | ⟨hsa,rfl⟩⟩
 ·obtain ⟨a5,acap,rfl⟩:=hFa.agg
  obtain ⟨na,hna⟩:∃ na:T,na = .node (flipK 12 no) [] [nfT a no,nfT b no]:=⟨_,rfl⟩
  rw [← hna] at hsa hFa hN1 ⊢
  have Hna:=Lib.hid hna
  clear hna
  have hsW:=HsW.out
  have hres6:=hc1.at Hres.out (fun e=>by have e:w.heap.size+1=nb:=e;omega)
  have Hpost:=Lib.hid (show NfPost nb L (.node (flipK 12 no) [] [nfT a no,nfT b no]) w (.returned (.agg #[.int .i64 na.kind,.string ⟨na.name.toArray⟩,.slice a5 na.kids.length acap])) _ by rw [← Hna.out];exact nf_end (M:=_) (u:=na) (a0:= .int .i64 na.kind) (a1:= .string ⟨na.name.toArray⟩) (a2:= .slice a5 na.kids.length acap) hnb (hcW.any.trans1 hc1) hres6 (hsW ▸ hFa) (hsa) (rfl) hN1)
  obtain ⟨c0,c1,c2,f0,f1,f2⟩:=cells_three hres6
  have hb7:=block_three_all hres6 (.int .i64 na.kind) (.string ⟨na.name.toArray⟩) (.slice a5 na.kids.length acap)
  obtain ⟨e0,e1,e2,_⟩:=cells_three hb7
  have He:=Lib.hid (And.intro e0 (And.intro e1 e2))
  clear hb7 hres6 e0 e1 e2 hsW
  go_wp2
  obtain ⟨e0,e1,e2⟩:=He.out
  exact bodyPost_ret (v:= .agg #[.int .i64 na.kind,.string ⟨na.name.toArray⟩,.slice a5 na.kids.length acap]) (by simp [results,Tryz.results78,go_sem,e0,e1,e2]) rfl Hpost.out
 ·go_wp2
  exact ⟨rfl,hcW.any.trans1 hc1,.inr ⟨hsa,rfl⟩⟩
theorem form_13 (t a b:T) (hkids:t.kids=[a,b]) (hfa:FormC a) (hfb:FormC b) (hkind:t.kind=13) (R:Nat→Prop) (w:World) (nb L:Nat) (no:Bool) (v:Value) (ht:IsTree R w t v) (hR:∀ b,R b→b≠nb) (hN:Nb w nb L) :
 Calls Tryz.prog 78 #[.pointer (some ⟨nb,0,none⟩),v,.bool no] w (NfPost nb L (.node (flipK 13 no) [] [nfT a no,nfT b no]) w):=by
 obtain ⟨ao,cap,rfl,hlen,hk⟩:=ht.parts
 have hlen2:t.kids.length=2:=by rw [hkids];rfl
 rw [hlen2,hkind] at ht ⊢
 have hW:Hid (∃ W,W=(w.alloc (.cells #[.int .i64 13,.string ⟨t.name.toArray⟩,.slice ao 2 cap] 24)).alloc (.cells #[.int .i64 0,.string ⟨#[]⟩,.slice none 0 0] 24)∧Chg Nob w W∧W.heap.size=w.heap.size+2 ∧
  W.heap[w.heap.size]? = some (.cells #[.int .i64 13,.string ⟨t.name.toArray⟩,.slice ao 2 cap] 24 (0,0))∧W.heap[w.heap.size+1]? = some (.cells #[.int .i64 0,.string ⟨#[]⟩,.slice none 0 0] 24 (0,0))):=by
  refine ⟨_,rfl,((Chg.refl _ _).alloc _).alloc _,by rw [World.size_alloc,World.size_alloc],((Chg.refl Nob _).alloc _).at (heap_alloc_new w _) (fun e=>e),?_⟩
  have:=heap_alloc_new (w.alloc (.cells #[.int .i64 13,.string ⟨t.name.toArray⟩,.slice ao 2 cap] 24)) (.cells #[.int .i64 0,.string ⟨#[]⟩,.slice none 0 0] 24)
  rwa [World.size_alloc] at this
 have Hfa:=Lib.hid hfa
 have Hfb:=Lib.hid hfb
 have hnb:=hN.lt
 have HN:=Lib.hid hN
 have Ht:=Lib.hid ht
 have Hkids:=Lib.hid hkids
 clear ht hk hkids hN hlen2 hkind hlen hfa hfb
 obtain ⟨W,hWe,hcW,hsW,hbx,hres⟩:=hW.out
 subst hWe
 clear hW
 have Hbx:=Lib.hid hbx
 have Hres:=Lib.hid hres
 have HsW:=Lib.hid hsW
 clear hbx hres hsW
 go_enter Tryz.func78,Tryz.ntmps78
 go_wp2_with fail
 generalize (w.alloc (.cells #[.int .i64 13,.string ⟨t.name.toArray⟩,.slice ao 2 cap] 24)).alloc (.cells #[.int .i64 0,.string ⟨#[]⟩,.slice none 0 0] 24)=W at *
 obtain ⟨c0,c1,c2,_⟩:=cells_three Hbx.out
 refine wp_region_still_tail 8 (by kernel_rfl) (by kernel_rfl) ?_
 simp only [List.take_succ_cons,List.take_zero,List.drop_succ_cons,List.drop_zero]
 repeat still_step
 still_call (flip_still 13 no _)
 repeat still_step
 refine wpStill_nil ?_
 change wpList _ _ _ _ _ (World.drew (W))
 replace hcW:=hcW.drew
 replace Hres:=hid_drew Hres
 replace HsW:=hid_drew_size HsW
 clear c0 c1 c2
 go_wp2_with fail
 generalize W.drew=V at *
 (with_reducible refine (pair_any t a b Hkids.out Hfa.out Hfb.out R _ nb L (flipK 13 no) no no _ (Ht.out.nob hcW) hR (HN.out.nob hcW)).mono ?_)
 rintro e w1 ⟨hc1,⟨va,hsa,rfl,hFa,hN1⟩ | ⟨hsa,rfl⟩⟩
 ·obtain ⟨a5,acap,rfl⟩:=hFa.agg
  obtain ⟨na,hna⟩:∃ na:T,na = .node (flipK 13 no) [] [nfT a no,nfT b no]:=⟨_,rfl⟩
  rw [← hna] at hsa hFa hN1 ⊢
  have Hna:=Lib.hid hna
  clear hna
  have hsW:=HsW.out
  have hres6:=hc1.at Hres.out (fun e=>by have e:w.heap.size+1=nb:=e;omega)
  have Hpost:=Lib.hid (show NfPost nb L (.node (flipK 13 no) [] [nfT a no,nfT b no]) w (.returned (.agg #[.int .i64 na.kind,.string ⟨na.name.toArray⟩,.slice a5 na.kids.length acap])) _ by rw [← Hna.out];exact nf_end (M:=_) (u:=na) (a0:= .int .i64 na.kind) (a1:= .string ⟨na.name.toArray⟩) (a2:= .slice a5 na.kids.length acap) hnb (hcW.any.trans1 hc1) hres6 (hsW ▸ hFa) (hsa) (rfl) hN1)
  obtain ⟨c0,c1,c2,f0,f1,f2⟩:=cells_three hres6
  have hb7:=block_three_all hres6 (.int .i64 na.kind) (.string ⟨na.name.toArray⟩) (.slice a5 na.kids.length acap)
  obtain ⟨e0,e1,e2,_⟩:=cells_three hb7
  have He:=Lib.hid (And.intro e0 (And.intro e1 e2))
  clear hb7 hres6 e0 e1 e2 hsW
  go_wp2
  obtain ⟨e0,e1,e2⟩:=He.out
  exact bodyPost_ret (v:= .agg #[.int .i64 na.kind,.string ⟨na.name.toArray⟩,.slice a5 na.kids.length acap]) (by simp [results,Tryz.results78,go_sem,e0,e1,e2]) rfl Hpost.out
 ·go_wp2
  exact ⟨rfl,hcW.any.trans1 hc1,.inr ⟨hsa,rfl⟩⟩
theorem form_10 (t a b:T) (hkids:t.kids=[a,b]) (hfa:FormC a) (hfb:FormC b) (hkind:t.kind=10) (R:Nat→Prop) (w:World) (nb L:Nat) (no:Bool) (v:Value) (ht:IsTree R w t v) (hR:∀ b,R b→b≠nb) (hN:Nb w nb L) :
 Calls Tryz.prog 78 #[.pointer (some ⟨nb,0,none⟩),v,.bool no] w (NfPost nb L (.node (flipK 9 no) [] [nfT a (!no),nfT b no]) w):=by
 obtain ⟨ao,cap,rfl,hlen,hk⟩:=ht.parts
 have hlen2:t.kids.length=2:=by rw [hkids];rfl
 rw [hlen2,hkind] at ht ⊢
 have hW:Hid (∃ W,W=(w.alloc (.cells #[.int .i64 10,.string ⟨t.name.toArray⟩,.slice ao 2 cap] 24)).alloc (.cells #[.int .i64 0,.string ⟨#[]⟩,.slice none 0 0] 24)∧Chg Nob w W∧W.heap.size=w.heap.size+2 ∧
  W.heap[w.heap.size]? = some (.cells #[.int .i64 10,.string ⟨t.name.toArray⟩,.slice ao 2 cap] 24 (0,0))∧W.heap[w.heap.size+1]? = some (.cells #[.int .i64 0,.string ⟨#[]⟩,.slice none 0 0] 24 (0,0))):=by
  refine ⟨_,rfl,((Chg.refl _ _).alloc _).alloc _,by rw [World.size_alloc,World.size_alloc],((Chg.refl Nob _).alloc _).at (heap_alloc_new w _) (fun e=>e),?_⟩
  have:=heap_alloc_new (w.alloc (.cells #[.int .i64 10,.string ⟨t.name.toArray⟩,.slice ao 2 cap] 24)) (.cells #[.int .i64 0,.string ⟨#[]⟩,.slice none 0 0] 24)
  rwa [World.size_alloc] at this
 have Hfa:=Lib.hid hfa
 have Hfb:=Lib.hid hfb
 have hnb:=hN.lt
 have HN:=Lib.hid hN
 have Ht:=Lib.hid ht
 have Hkids:=Lib.hid hkids
 clear ht hk hkids hN hlen2 hkind hlen hfa hfb
 obtain ⟨W,hWe,hcW,hsW,hbx,hres⟩:=hW.out
 subst hWe
 clear hW
 have Hbx:=Lib.hid hbx
 have Hres:=Lib.hid hres
 have HsW:=Lib.hid hsW
 clear hbx hres hsW
 go_enter Tryz.func78,Tryz.ntmps78
 go_wp2_with fail
 generalize (w.alloc (.cells #[.int .i64 10,.string ⟨t.name.toArray⟩,.slice ao 2 cap] 24)).alloc (.cells #[.int .i64 0,.string ⟨#[]⟩,.slice none 0 0] 24)=W at *
 obtain ⟨c0,c1,c2,_⟩:=cells_three Hbx.out
 refine wp_region_still_tail 7 (by kernel_rfl) (by kernel_rfl) ?_
 simp only [List.take_succ_cons,List.take_zero,List.drop_succ_cons,List.drop_zero]
 repeat still_step
 still_call (flip_still 9 no _)
 repeat still_step
 refine wpStill_nil ?_
 change wpList _ _ _ _ _ (World.drew (W))
 replace hcW:=hcW.drew
 replace Hres:=hid_drew Hres
 replace HsW:=hid_drew_size HsW
 clear c0 c1 c2
 go_wp2_with fail
 generalize W.drew=V at *
 (with_reducible refine (pair_any t a b Hkids.out Hfa.out Hfb.out R _ nb L (flipK 9 no) (!no) no _ (Ht.out.nob hcW) hR (HN.out.nob hcW)).mono ?_)
 rintro e w1 ⟨hc1,⟨va,hsa,rfl,hFa,hN1⟩ | ⟨hsa,rfl⟩⟩
 ·obtain ⟨a5,acap,rfl⟩:=hFa.agg
  obtain ⟨na,hna⟩:∃ na:T,na = .node (flipK 9 no) [] [nfT a (!no),nfT b no]:=⟨_,rfl⟩
  rw [← hna] at hsa hFa hN1 ⊢
  have Hna:=Lib.hid hna
  clear hna
  have hsW:=HsW.out
  have hres6:=hc1.at Hres.out (fun e=>by have e:w.heap.size+1=nb:=e;omega)
  have Hpost:=Lib.hid (show NfPost nb L (.node (flipK 9 no) [] [nfT a (!no),nfT b no]) w (.returned (.agg #[.int .i64 na.kind,.string ⟨na.name.toArray⟩,.slice a5 na.kids.length acap])) _ by rw [← Hna.out];exact nf_end (M:=_) (u:=na) (a0:= .int .i64 na.kind) (a1:= .string ⟨na.name.toArray⟩) (a2:= .slice a5 na.kids.length acap) hnb (hcW.any.trans1 hc1) hres6 (hsW ▸ hFa) (hsa) (rfl) hN1)
  obtain ⟨c0,c1,c2,f0,f1,f2⟩:=cells_three hres6
  have hb7:=block_three_all hres6 (.int .i64 na.kind) (.string ⟨na.name.toArray⟩) (.slice a5 na.kids.length acap)
  obtain ⟨e0,e1,e2,_⟩:=cells_three hb7
  have He:=Lib.hid (And.intro e0 (And.intro e1 e2))
  clear hb7 hres6 e0 e1 e2 hsW
  go_wp2
  obtain ⟨e0,e1,e2⟩:=He.out
  exact bodyPost_ret (v:= .agg #[.int .i64 na.kind,.string ⟨na.name.toArray⟩,.slice a5 na.kids.length acap]) (by simp [results,Tryz.results78,go_sem,e0,e1,e2]) rfl Hpost.out
 ·go_wp2
  exact ⟨rfl,hcW.any.trans1 hc1,.inr ⟨hsa,rfl⟩⟩
theorem form_14 (t a b:T) (hkids:t.kids=[a,b]) (hfa:FormC a) (hfb:FormC b) (hkind:t.kind=14) (R:Nat→Prop) (w:World) (nb L:Nat) (no:Bool) (v:Value) (ht:IsTree R w t v) (hR:∀ b,R b→b≠nb) (hN:Nb w nb L) :
 Calls Tryz.prog 78 #[.pointer (some ⟨nb,0,none⟩),v,.bool no] w (NfPost nb L (.node (flipK 13 no) [] [nfT b no,.node (flipK 9 no) [] [nfT a no,nfT b no]]) w):=by
 obtain ⟨ao,cap,rfl,hlen,hk⟩:=ht.parts
 rw [hkids] at hk
 obtain ⟨b1,o1,ak,capk,hao,hRb,p0,p1,p2,_,_,hta⟩:=hk.kid (j:=1) (t:=b) rfl
 subst hao
 rw [Nat.one_mul] at p0 p1 p2
 have hlen2:t.kids.length=2:=by rw [hkids];rfl
 rw [hlen2,hkind] at ht ⊢
 have hW:Hid (∃ W,W=(w.alloc (.cells #[.int .i64 14,.string ⟨t.name.toArray⟩,.slice (some ⟨b1,o1,none⟩) 2 cap] 24)).alloc (.cells #[.int .i64 0,.string ⟨#[]⟩,.slice none 0 0] 24)∧Chg Nob w W∧W.heap.size=w.heap.size+2 ∧
  W.heap[w.heap.size]? = some (.cells #[.int .i64 14,.string ⟨t.name.toArray⟩,.slice (some ⟨b1,o1,none⟩) 2 cap] 24 (0,0))∧W.heap[w.heap.size+1]? = some (.cells #[.int .i64 0,.string ⟨#[]⟩,.slice none 0 0] 24 (0,0))):=by
  refine ⟨_,rfl,((Chg.refl _ _).alloc _).alloc _,by rw [World.size_alloc,World.size_alloc],((Chg.refl Nob _).alloc _).at (heap_alloc_new w _) (fun e=>e),?_⟩
  have:=heap_alloc_new (w.alloc (.cells #[.int .i64 14,.string ⟨t.name.toArray⟩,.slice (some ⟨b1,o1,none⟩) 2 cap] 24)) (.cells #[.int .i64 0,.string ⟨#[]⟩,.slice none 0 0] 24)
  rwa [World.size_alloc] at this
 have Hp:=Lib.hid (And.intro p0 (And.intro p1 p2))
 have Hta:=Lib.hid hta
 have Hfa:=Lib.hid hfa
 have Hfb:=Lib.hid hfb
 have hnb:=hN.lt
 have HN:=Lib.hid hN
 have Ht:=Lib.hid ht
 have Hkids:=Lib.hid hkids
 clear ht hk hkids hN hlen2 hkind hlen hfa hfb p0 p1 p2 hta
 obtain ⟨W,hWe,hcW,hsW,hbx,hres⟩:=hW.out
 subst hWe
 clear hW
 have Hbx:=Lib.hid hbx
 have Hres:=Lib.hid hres
 have HsW:=Lib.hid hsW
 have p0:=kid_at1 hcW.any hR hRb Hp.out.1
 have p1:=kid_at1 hcW.any hR hRb Hp.out.2.1
 have p2:=kid_at1 hcW.any hR hRb Hp.out.2.2
 clear hbx hres hsW
 go_enter Tryz.func78,Tryz.ntmps78
 go_wp2_with fail
 generalize (w.alloc (.cells #[.int .i64 14,.string ⟨t.name.toArray⟩,.slice (some ⟨b1,o1,none⟩) 2 cap] 24)).alloc (.cells #[.int .i64 0,.string ⟨#[]⟩,.slice none 0 0] 24)=W at *
 have hcall:=Hfb.out R _ nb L no _ (Hta.out.at1 hcW.any hR) hR (HN.out.nob hcW)
 (with_reducible refine hcall.mono ?_)
 clear hcall p0 p1 p2
 rintro e w3 ⟨hc3,⟨va,hsa,rfl,hFa,hN3⟩ | ⟨hsa,rfl⟩⟩
 ·obtain ⟨a5,acap,rfl⟩:=hFa.agg
  obtain ⟨na,hna⟩:∃ na:T,na=nfT b no:=⟨_,rfl⟩
  rw [← hna] at hsa hFa hN3 ⊢
  have Hna:=Lib.hid hna
  clear hna
  have hA:Chg Nob w3 (w3.alloc (.cells #[.int .i64 na.kind,.string ⟨na.name.toArray⟩,.slice a5 na.kids.length acap] 24)):=(Chg.refl _ _).alloc _
  have hta3:=heap_alloc_new w3 (.cells #[.int .i64 na.kind,.string ⟨na.name.toArray⟩,.slice a5 na.kids.length acap] 24)
  have hs3:(w3.alloc (.cells #[.int .i64 na.kind,.string ⟨na.name.toArray⟩,.slice a5 na.kids.length acap] 24)).heap.size=w3.heap.size+1:=World.size_alloc _ _
  have hN3A:=hN3.nob hA
  have hc23:=hc3.trans1 hA.any
  have hcw3:Chg (At1 nb) w _:=hcW.any.trans1 hc23
  have hs23:=hc3.size
  have hsW:=HsW.out
  have hbx3:=hc23.at Hbx.out (fun e=>by have e:w.heap.size=nb:=e;omega)
  obtain ⟨c0,c1,c2,_⟩:=cells_three hbx3
  have Hta3:=Lib.hid hta3
  have Hs3:=Lib.hid hs3
  clear hN3 hbx3 hta3 hs3
  go_wp2_with fail
  generalize w3.alloc (.cells #[.int .i64 na.kind,.string ⟨na.name.toArray⟩,.slice a5 na.kids.length acap] 24)=W3 at *
  obtain ⟨nb',hnb'⟩:∃ n':T,n' = .node (flipK 9 no) [] [nfT a no,nfT b no]:=⟨_,rfl⟩
  have hcallB:∀ X,Chg Nob W3 X→Calls Tryz.prog 132 #[.pointer (some ⟨nb,0,none⟩),.int .i64 (flipK 9 no),.agg #[.int .i64 14,.string ⟨t.name.toArray⟩,.slice (some ⟨b1,o1,none⟩) 2 cap],.bool no,.bool no] X (NfPost nb (L - sizeT na) nb' X) :=
   fun X hX=>by rw [hnb'];exact pair_any t a b Hkids.out Hfa.out Hfb.out R X nb _ (flipK 9 no) no no _ (Ht.out.at1 (hcw3.trans1 hX.any) hR) hR (hN3A.nob hX)
  have HcallB:=Lib.hid hcallB
  have Hnb':=Lib.hid hnb'
  have hnw:w.heap.size≠nb:=by omega
  clear hcallB hN3A hnb'
  by_cases hsb:sizeT nb'≤L - sizeT na
  ·go_region_held3 (fun w'=>w'.cell? ⟨w.heap.size,0,none⟩=some (.int .i64 14)∧w'.cell? ⟨w.heap.size,1,none⟩=some (.string ⟨t.name.toArray⟩)∧w'.cell? ⟨w.heap.size,2,none⟩=some (.slice (some ⟨b1,o1,none⟩) 2 cap))
    (first | exact ⟨c0,c1,c2⟩ | exact s4 | exact three_nob ((Chg.refl _ _).drew.alloc _) ⟨c0,c1,c2⟩ | exact three_nob ((Chg.refl _ _).alloc _) s4 | exact three_at1 (chg_three _ _ _ _ _) (by have:=Hs3.out;omega) s4)
    (first | (go_at_call 131;refine (flip_any 9 no _).mono ?_;rintro e w5 ⟨rfl,rfl⟩)
           | (go_at_call 132;refine ((HcallB.out _ (by first | exact (Chg.refl _ _).drew | exact (Chg.refl _ _).drew.alloc _)).mono (fun _ _ h=>h.ok hsb)).mono ?_;rintro e w4 ⟨hc4,b5,bcap,rfl,hFb,hN4⟩;have s4:=three_at1 hc4 hnw (by first | exact ⟨c0,c1,c2⟩ | exact three_nob ((Chg.refl _ _).drew.alloc _) ⟨c0,c1,c2⟩);try (have hz:w4.heap[W3.heap.size]? = some (.cells #[.int .i64 0,.string ⟨#[]⟩,.slice none 0 0] 24 (0,0)):=hc4.at (heap_alloc_new W3.drew (.cells #[.int .i64 0,.string ⟨#[]⟩,.slice none 0 0] 24)) (fun e=>by have e:W3.heap.size=nb:=e;have:=Hs3.out;omega);obtain ⟨z0,z1,z2,f0,f1,f2⟩:=cells_three hz)))
   all_goals
    first
     | (have hWb:=wb_one (W:=W3) hc4 hFb hN4
        generalize w4.alloc (.cells #[.int .i64 nb'.kind,.string ⟨nb'.name.toArray⟩,.slice b5 nb'.kids.length bcap] 24)=Y at hWb ⊢
        generalize w4.heap.size=B at hWb ⊢)
     | (have hWb:=wb_two (W:=W3) (by have:=Hs3.out;omega) hc4 hz hFb hN4
        generalize ((w4.setCell ⟨W3.heap.size,0,none⟩ (.int .i64 nb'.kind)).setCell ⟨W3.heap.size,1,none⟩ (.string ⟨nb'.name.toArray⟩)).setCell ⟨W3.heap.size,2,none⟩ (.slice b5 nb'.kids.length bcap)=Y at hWb ⊢
        generalize W3.heap.size=B at hWb ⊢)
    have HWb:=Lib.hid hWb
    try clear z0 z1 z2 f0 f1 f2 hz
    clear hWb hc4 hFb hN4 s4 c0 c1 c2
    have hs3':=Hs3.out
    have hta4:=HWb.out.chg.at Hta3.out (fun e=>by have e:w3.heap.size=nb:=e;omega)
    have hres4:=HWb.out.chg.at (hc23.at Hres.out (fun e=>by have e:w.heap.size+1=nb:=e;omega)) (fun e=>by have e:w.heap.size+1=nb:=e;omega)
    obtain ⟨c0,c1,c2,_⟩:=cells_three hta4
    obtain ⟨d0,d1,d2,_⟩:=cells_three HWb.out.box
    have hYs:=HWb.out.chg.size
    have hBn:B≠nb:=by have:=HWb.out.ge;omega
    have hBr:B≠w.heap.size+1:=by have:=HWb.out.ge;omega
    have Hres4:=Lib.hid hres4
    clear hta4 hres4 hs3'
    go_wp2_with fail
    have hcY:Chg (At1 nb) W3 Y.drew:=HWb.out.chg.drew
    have hFb:Fresh (Ge W3.heap.size) Y.drew nb' (.agg #[.int .i64 nb'.kind,.string ⟨nb'.name.toArray⟩,.slice b5 nb'.kids.length bcap]):=HWb.out.fr.chg ((Chg.refl Nob _).drew) (fun _ _ _ e=>e) (fun _ h=>h)
    have hN4:Nb Y.drew nb _:=HWb.out.n.drew
    have HYs:=Lib.hid (show W3.heap.size≤Y.drew.heap.size from hYs)
    have hD:Chg Nob Y.drew (Y.drew.alloc (.cells #[.int .i64 na.kind,.string ⟨na.name.toArray⟩,.slice a5 na.kids.length acap,.int .i64 nb'.kind,.string ⟨nb'.name.toArray⟩,.slice b5 nb'.kids.length bcap] 24)):=(Chg.refl _ _).alloc _
    have HDn:=Lib.hid (heap_alloc_new Y.drew (.cells #[.int .i64 na.kind,.string ⟨na.name.toArray⟩,.slice a5 na.kids.length acap,.int .i64 nb'.kind,.string ⟨nb'.name.toArray⟩,.slice b5 nb'.kids.length bcap] 24))
    have hHeld0:(Y.cell? ⟨w3.heap.size,0,none⟩=some (.int .i64 na.kind)∧Y.cell? ⟨w3.heap.size,1,none⟩=some (.string ⟨na.name.toArray⟩)∧Y.cell? ⟨w3.heap.size,2,none⟩=some (.slice a5 na.kids.length acap))∧(Y.cell? ⟨B,0,none⟩=some (.int .i64 nb'.kind)∧Y.cell? ⟨B,1,none⟩=some (.string ⟨nb'.name.toArray⟩)∧Y.cell? ⟨B,2,none⟩=some (.slice b5 nb'.kids.length bcap)):=⟨⟨c0,c1,c2⟩,d0,d1,d2⟩
    have HnpY:=Lib.hid (npart_any _ nb _ (flipK 13 no) (some ⟨Y.heap.size,0,none⟩) 2 2 (hN4.nob hD))
    have Hnb4:=Lib.hid (hN4.nob hD)
    replace Hres4:=Lib.hid (hD.at (w:=Y.drew) Hres4.out (fun e=>e))
    have HD:=Lib.hid hD
    clear hN4 hD HWb
    generalize hM:L - sizeT na - sizeT nb'=M at *
    have HM:=Lib.hid hM
    clear hM
    cases M with
    | zero =>
      have Hno:=Lib.hid (show L < sizeT (.node (flipK 13 no) [] [nfT b no,.node (flipK 9 no) [] [nfT a no,nfT b no]]) by rw [← Hnb'.out,← Hna.out];have:=HM.out;simp only [sizeT,sizeL];omega)
      refine wp_region_held_drew (S:=fun w'=>(w'.cell? ⟨w3.heap.size,0,none⟩=some (.int .i64 na.kind)∧w'.cell? ⟨w3.heap.size,1,none⟩=some (.string ⟨na.name.toArray⟩)∧w'.cell? ⟨w3.heap.size,2,none⟩=some (.slice a5 na.kids.length acap))∧(w'.cell? ⟨B,0,none⟩=some (.int .i64 nb'.kind)∧w'.cell? ⟨B,1,none⟩=some (.string ⟨nb'.name.toArray⟩)∧w'.cell? ⟨B,2,none⟩=some (.slice b5 nb'.kids.length bcap))) (by kernel_rfl) hHeld0 (fun hHeld=>?_)
      refine wpAnyH_take (i:=0) (v:=?_) rfl (by kernel_rfl) (by kernel_rfl) (by kernel_rfl) (fun _ _ _ h=>h) (Or.inl ⟨by rfl,?_⟩) hHeld ?_
      rotate_left
      ·intro w hSw;obtain ⟨⟨c0,c1,c2⟩,d0,d1,d2⟩:=hSw;go_simp;try (with_reducible rfl)
      simp only [Act.put,List.setIfInBounds_toArray]
      refine wpAnyH_take (i:=1) (v:=?_) rfl (by kernel_rfl) (by kernel_rfl) (by kernel_rfl) (fun _ _ _ h=>h) (Or.inl ⟨by rfl,?_⟩) hHeld ?_
      rotate_left
      ·intro w hSw;obtain ⟨⟨c0,c1,c2⟩,d0,d1,d2⟩:=hSw;go_simp;try (with_reducible rfl)
      simp only [Act.put]
      refine wpAnyH_take (i:=3) (v:=?_) rfl (by kernel_rfl) (by kernel_rfl) (by kernel_rfl) (fun _ _ _ h=>h) (Or.inl ⟨by rfl,?_⟩) hHeld ?_
      rotate_left
      ·intro w hSw;obtain ⟨⟨c0,c1,c2⟩,d0,d1,d2⟩:=hSw;go_simp;try (with_reducible rfl)
      simp only [Act.put]
      refine wpAnyH_take (i:=4) (v:=?_) rfl (by kernel_rfl) (by kernel_rfl) (by kernel_rfl) (fun _ _ _ h=>h) (Or.inl ⟨by rfl,?_⟩) hHeld ?_
      rotate_left
      ·intro w hSw;obtain ⟨⟨c0,c1,c2⟩,d0,d1,d2⟩:=hSw;go_simp;try (with_reducible rfl)
      simp only [Act.put]
      refine wpAnyH_ready (rs:=[2,5]) (by kernel_rfl) (by simp) ?_
      refine AllReadyH.cons rfl (fun K hK=>?_) (AllReadyH.cons rfl (fun K hK=>?_) AllReadyH.nil)
      ·go_simp
       refine (flip_any 13 no _).mono ?_
       rintro e w5 ⟨rfl,rfl⟩
       refine hK.out _ _ hHeld (fun _=>?_)
       refine wpAnyH_ready (rs:=[5]) (by kernel_rfl) (by simp) ?_
       refine AllReadyH.cons rfl (fun K hK=>?_) AllReadyH.nil
       go_simp
       refine hK.out _ _ ⟨three_nob ((Chg.refl _ _).alloc _) hHeld.1,three_nob ((Chg.refl _ _).alloc _) hHeld.2⟩ (fun _=>?_)
       refine wpAnyH_ready (rs:=[6]) (by kernel_rfl) (by simp) ?_
       refine AllReadyH.cons rfl (fun K hK=>?_) AllReadyH.nil
       go_simp
       refine (HnpY.out.mono (fun _ _ h=>NpPost.no h)).mono ?_
       rintro e w6 ⟨hc6,rfl⟩
       go_wp2
       exact ⟨rfl,(hcw3.trans1 hcY).trans1 (HD.out.any.trans1 hc6),.inr ⟨Hno.out,rfl⟩⟩
      ·go_simp
       refine hK.out _ _ ⟨three_nob ((Chg.refl _ _).alloc _) hHeld.1,three_nob ((Chg.refl _ _).alloc _) hHeld.2⟩ (fun _=>?_)
       refine wpAnyH_ready (rs:=[2]) (by kernel_rfl) (by simp) ?_
       refine AllReadyH.cons rfl (fun K hK=>?_) AllReadyH.nil
       go_simp
       refine (flip_any 13 no _).mono ?_
       rintro e w5 ⟨rfl,rfl⟩
       refine hK.out _ _ ⟨three_nob ((Chg.refl _ _).alloc _) hHeld.1,three_nob ((Chg.refl _ _).alloc _) hHeld.2⟩ (fun _=>?_)
       refine wpAnyH_ready (rs:=[6]) (by kernel_rfl) (by simp) ?_
       refine AllReadyH.cons rfl (fun K hK=>?_) AllReadyH.nil
       go_simp
       refine (HnpY.out.mono (fun _ _ h=>NpPost.no h)).mono ?_
       rintro e w6 ⟨hc6,rfl⟩
       go_wp2
       exact ⟨rfl,(hcw3.trans1 hcY).trans1 (HD.out.any.trans1 hc6),.inr ⟨Hno.out,rfl⟩⟩
    | succ m2 =>
      have hnr:w.heap.size+1≠nb:=by omega
      go_region_held3 (fun w'=>(w'.cell? ⟨w3.heap.size,0,none⟩=some (.int .i64 na.kind)∧w'.cell? ⟨w3.heap.size,1,none⟩=some (.string ⟨na.name.toArray⟩)∧w'.cell? ⟨w3.heap.size,2,none⟩=some (.slice a5 na.kids.length acap))∧(w'.cell? ⟨B,0,none⟩=some (.int .i64 nb'.kind)∧w'.cell? ⟨B,1,none⟩=some (.string ⟨nb'.name.toArray⟩)∧w'.cell? ⟨B,2,none⟩=some (.slice b5 nb'.kids.length bcap))) (first | exact hHeld0 | exact ⟨three_nob ((Chg.refl Nob Y).drew.alloc _) hHeld0.1,three_nob ((Chg.refl Nob Y).drew.alloc _) hHeld0.2⟩ | exact ⟨three_nob ((Chg.refl Nob Y).alloc _).drew hHeld0.1,three_nob ((Chg.refl Nob Y).alloc _).drew hHeld0.2⟩ | exact s6 | exact ⟨three_at1 (chg_three _ _ _ _ _) (by have:=Hs3.out;omega) s6.1,three_at1 (chg_three _ _ _ _ _) hBr s6.2⟩)
       (first | (go_at_call 131;refine (flip_any 13 no _).mono ?_;rintro e w5 ⟨rfl,rfl⟩)
              | (go_at_call 130;refine (HnpY.out.mono (fun _ _ h=>NpPost.ok h)).mono ?_;rintro e w6 ⟨hc6,rfl,hN6⟩;have s6:=And.intro (three_at1 (((Chg.refl (At1 nb) _).drew.alloc _).trans1 hc6) (by have:=Hs3.out;omega) hHeld0.1) (three_at1 (((Chg.refl (At1 nb) _).drew.alloc _).trans1 hc6) hBn hHeld0.2);obtain ⟨r0,r1,r2,f0,f1,f2⟩:=cells_three (hc6.at Hres4.out hnr)))
      all_goals
       have hsW:=HsW.out
       have hs3':=Hs3.out
       have hYs:=HYs.out
       have hres6:=hc6.at Hres4.out (fun e=>by have e:w.heap.size+1=nb:=e;omega)
       have hV6:Chg (At1 nb) Y.drew w6:=HD.out.any.trans1 hc6
       have h36:Chg (At1 nb) w3 w6:=(hA.any.trans1 hcY).trans1 hV6
       have hcw6:Chg (At1 nb) w w6:=(hcw3.trans1 hcY).trans1 hV6
       have hF:Fresh (Ge (w.heap.size+2)) w6 (.node (flipK 13 no) [] [na,nb']) _:=hsW ▸ nf_two (k:=flipK 13 no) (w:=W) hFa hFb (by omega) (by omega) (At1 nb) (fun q e=>by have e:q=nb:=e;omega) (fun q e=>by have e:q=nb:=e;omega) h36 hV6
        (hc6.at HDn.out (fun e=>by have e:Y.drew.heap.size=nb:=e;omega)) (by omega)
       have Hpost:Hid (NfPost nb L (.node (flipK 13 no) [] [nfT b no,.node (flipK 9 no) [] [nfT a no,nfT b no]]) w (.returned (.agg #[.int .i64 (flipK 13 no),.string ⟨#[]⟩,.slice (some ⟨Y.heap.size,0,none⟩) 2 2])) (((w6.setCell ⟨w.heap.size+1,0,none⟩ (.int .i64 (flipK 13 no))).setCell ⟨w.heap.size+1,1,none⟩ (.string ⟨#[]⟩)).setCell ⟨w.heap.size+1,2,none⟩ (.slice (some ⟨Y.heap.size,0,none⟩) 2 2))):=by
        show NfPost _ _ _ _ _ _
        rw [← Hnb'.out,← Hna.out]
        exact nf_end (M:=m2) (u:= .node (flipK 13 no) [] [na,nb']) hnb hcw6 hres6 hF (by have:=HM.out;simp only [sizeT,sizeL];omega) (by have:=HM.out;simp only [sizeT,sizeL];omega) hN6
       have hb7:=block_three_all hres6 (.int .i64 (flipK 13 no)) (.string ⟨#[]⟩) (.slice (some ⟨Y.heap.size,0,none⟩) 2 2)
       obtain ⟨e0,e1,e2,_⟩:=cells_three hb7
       have He:=Lib.hid (And.intro e0 (And.intro e1 e2))
       clear hb7 hres6 e0 e1 e2 hV6 h36 hcw6 hF hFa hFb hN6 hs3' hsW hYs s6
       go_wp2
       obtain ⟨e0,e1,e2⟩:=He.out
       exact bodyPost_ret (v:= .agg #[.int .i64 (flipK 13 no),.string ⟨#[]⟩,.slice (some ⟨Y.heap.size,0,none⟩) 2 2]) (by simp [results,Tryz.results78,go_sem,e0,e1,e2]) rfl Hpost.out
  ·have Hno:=Lib.hid (show L < sizeT (.node (flipK 13 no) [] [nfT b no,.node (flipK 9 no) [] [nfT a no,nfT b no]]) by rw [← Hnb'.out,← Hna.out];simp only [sizeT,sizeL];omega)
   refine wp_region_held_drew (S:=fun w'=>w'.cell? ⟨w.heap.size,0,none⟩=some (.int .i64 14)∧w'.cell? ⟨w.heap.size,1,none⟩=some (.string ⟨t.name.toArray⟩)∧w'.cell? ⟨w.heap.size,2,none⟩=some (.slice (some ⟨b1,o1,none⟩) 2 cap)) (by kernel_rfl) ⟨c0,c1,c2⟩ (fun hHeld=>?_)
   refine wpAnyH_take (i:=0) (v:=?v0) rfl (by kernel_rfl) (by kernel_rfl) (by kernel_rfl) (fun _ _ _ h=>h) (Or.inl ⟨by rfl,?y0⟩) hHeld ?_
   case y0=>intro w hSw;obtain ⟨c0,c1,c2⟩:=hSw;go_simp;try (with_reducible rfl)
   simp only [Act.put,List.setIfInBounds_toArray]
   refine wpAnyH_take (i:=1) (v:=?v1) rfl (by kernel_rfl) (by kernel_rfl) (by kernel_rfl) (fun _ _ _ h=>h) (Or.inl ⟨by rfl,?y1⟩) hHeld ?_
   case y1=>intro w hSw;obtain ⟨c0,c1,c2⟩:=hSw;go_simp;try (with_reducible rfl)
   simp only [Act.put]
   refine wpAnyH_take (i:=3) (v:=?v3) rfl (by kernel_rfl) (by kernel_rfl) (by kernel_rfl) (fun _ _ _ h=>h) (Or.inl ⟨by rfl,?y3⟩) hHeld ?_
   case y3=>intro w hSw;obtain ⟨c0,c1,c2⟩:=hSw;go_simp;try (with_reducible rfl)
   simp only [Act.put]
   refine wpAnyH_take (i:=4) (v:=?v4) rfl (by kernel_rfl) (by kernel_rfl) (by kernel_rfl) (fun _ _ _ h=>h) (Or.inl ⟨by rfl,?y4⟩) hHeld ?_
   case y4=>intro w hSw;obtain ⟨c0,c1,c2⟩:=hSw;go_simp;try (with_reducible rfl)
   simp only [Act.put]
   refine wpAnyH_take (i:=5) (v:=?v5) rfl (by kernel_rfl) (by kernel_rfl) (by kernel_rfl) (fun _ _ _ h=>h) (Or.inl ⟨by rfl,?y5⟩) hHeld ?_
   case y5=>intro w hSw;obtain ⟨c0,c1,c2⟩:=hSw;go_simp;try (with_reducible rfl)
   simp only [Act.put]
   refine wpAnyH_ready (rs:=[2,7]) (by kernel_rfl) (by simp) ?_
   refine AllReadyH.cons rfl (fun K hK=>?_) (AllReadyH.cons rfl (fun K hK=>?_) AllReadyH.nil)
   ·go_simp
    refine (flip_any 9 no _).mono ?_
    rintro e w5 ⟨rfl,rfl⟩
    refine hK.out _ _ hHeld (fun _=>?_)
    refine wpAnyH_ready (rs:=[6,7]) (by kernel_rfl) (by simp) ?_
    refine AllReadyH.cons rfl (fun K hK=>?_) ?_
    ·go_simp
     refine ((HcallB.out _ ((Chg.refl _ _).drew)).mono (fun _ _ h=>h.no (Nat.lt_of_not_le hsb))).mono ?_
     rintro e w4 ⟨hc4,rfl⟩
     go_wp2
     exact ⟨rfl,(hcw3.trans1 ((Chg.refl _ _).drew).any).trans1 hc4,.inr ⟨Hno.out,rfl⟩⟩
    refine AllReadyH.cons rfl (fun K hK=>?_) AllReadyH.nil
    go_simp
    refine hK.out _ _ (three_nob ((Chg.refl _ _).alloc _) hHeld) (fun _=>?_)
    refine wpAnyH_ready (rs:=[6]) (by kernel_rfl) (by simp) ?_
    refine AllReadyH.cons rfl (fun K hK=>?_) ?_
    ·go_simp
     refine ((HcallB.out _ ((Chg.refl _ _).drew.alloc _)).mono (fun _ _ h=>h.no (Nat.lt_of_not_le hsb))).mono ?_
     rintro e w4 ⟨hc4,rfl⟩
     go_wp2
     exact ⟨rfl,(hcw3.trans1 ((Chg.refl _ _).drew.alloc _).any).trans1 hc4,.inr ⟨Hno.out,rfl⟩⟩
    exact AllReadyH.nil
   ·go_simp
    refine hK.out _ _ (three_nob ((Chg.refl _ _).alloc _) hHeld) (fun _=>?_)
    refine wpAnyH_ready (rs:=[2]) (by kernel_rfl) (by simp) ?_
    refine AllReadyH.cons rfl (fun K hK=>?_) AllReadyH.nil
    go_simp
    refine (flip_any 9 no _).mono ?_
    rintro e w5 ⟨rfl,rfl⟩
    refine hK.out _ _ (three_nob ((Chg.refl _ _).alloc _) hHeld) (fun _=>?_)
    refine wpAnyH_ready (rs:=[6]) (by kernel_rfl) (by simp) ?_
    refine AllReadyH.cons rfl (fun K hK=>?_) ?_
    ·go_simp
     refine ((HcallB.out _ ((Chg.refl _ _).drew.alloc _)).mono (fun _ _ h=>h.no (Nat.lt_of_not_le hsb))).mono ?_
     rintro e w4 ⟨hc4,rfl⟩
     go_wp2
     exact ⟨rfl,(hcw3.trans1 ((Chg.refl _ _).drew.alloc _).any).trans1 hc4,.inr ⟨Hno.out,rfl⟩⟩
    exact AllReadyH.nil
 ·go_wp2
  exact ⟨rfl,hcW.any.trans1 hc3,.inr ⟨by simp only [sizeT,sizeL] at hsa ⊢;omega,rfl⟩⟩
end Go.Proofs.YtkgfdgfhpdhhaaaGreat
