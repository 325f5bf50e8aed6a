/- Parts of the walks and of the plain theory, the first: ltl's normer: a formula's normal form (always). Conditions: the tree lies in the world; the normer does. ltl's normer: a formula's normal form (finally). Conditions: the tree lies in the world; the normer does. -/
import Derived.Test.YtkgfdgfhpdhhaaaGreatT03
import Derived.StillTailTactics
import Derived.Deep.RegionHeld3
import Derived.Test.YtkgfdgfhpdhhaaaGreatT01
import Derived.RangeFuncNested
import Derived.RangeFuncBound
import Derived.RangeFuncCalls
import Derived.RangeFuncLeaves
import Derived.Shelf.Abstract
import Derived.OwnWalkIn
import Derived.TacticsInMore
import Derived.LoopNIn
import Derived.LoopIn
namespace Go.Proofs.YtkgfdgfhpdhhaaaGreat
open Go.ChangeShapes Go.WideShapes Go.RowKit
set_option maxRecDepth 100000
set_option maxHeartbeats 8000000
theorem form_6 (t a:T) (hkids:t.kids=[a]) (hfa:FormC a) (hkind:t.kind=6) (R:Nat→Prop) (w:World) (nb L:Nat) (no:Bool) (v:Value) (ht:IsTree R w t v) (hR:∀ b,R b→b≠nb) (hN:Nb w nb L) :
 Calls Tryz.prog 78 #[.pointer (some ⟨nb,0,none⟩),v,.bool no] w (NfPost nb L (.node (flipK 13 no) [] [.node (flipK 2 no) [] [],nfT a no]) w):=by
 obtain ⟨ao,cap,rfl,hlen,hk⟩:=ht.parts
 rw [hkids] at hk
 obtain ⟨b1,o1,ak,capk,hao,hRb,p0,p1,p2,_,_,hta⟩:=hk.kid (j:=0) (t:=a) rfl
 subst hao
 rw [Nat.zero_mul,Nat.add_zero] at p0 p1 p2
 have hlen2:t.kids.length=1:=by rw [hkids];rfl
 rw [hlen2,hkind] at ht ⊢
 have hW:Hid (∃ W,W=(w.alloc (.cells #[.int .i64 6,.string ⟨t.name.toArray⟩,.slice (some ⟨b1,o1,none⟩) 1 cap] 24)).alloc (.cells #[.int .i64 0,.string ⟨#[]⟩,.slice none 0 0] 24)∧Chg Nob w W∧W.heap.size=w.heap.size+2 ∧
  W.heap[w.heap.size]? = some (.cells #[.int .i64 6,.string ⟨t.name.toArray⟩,.slice (some ⟨b1,o1,none⟩) 1 cap] 24 (0,0))∧W.heap[w.heap.size+1]? = some (.cells #[.int .i64 0,.string ⟨#[]⟩,.slice none 0 0] 24 (0,0))):=by
  refine ⟨_,rfl,((Chg.refl _ _).alloc _).alloc _,by rw [World.size_alloc,World.size_alloc],((Chg.refl Nob _).alloc _).at (heap_alloc_new w _) (fun e=>e),?_⟩
  have:=heap_alloc_new (w.alloc (.cells #[.int .i64 6,.string ⟨t.name.toArray⟩,.slice (some ⟨b1,o1,none⟩) 1 cap] 24)) (.cells #[.int .i64 0,.string ⟨#[]⟩,.slice none 0 0] 24)
  rwa [World.size_alloc] at this
 have Hp:=Lib.hid (And.intro p0 (And.intro p1 p2))
 have Hta:=Lib.hid hta
 have Hfa:=Lib.hid hfa
 have hnb:=hN.lt
 have HN:=Lib.hid hN
 have Ht:=Lib.hid ht
 have Hkids:=Lib.hid hkids
 clear ht hk hkids hN hlen2 hkind hlen hfa p0 p1 p2 hta
 obtain ⟨W,hWe,hcW,hsW,hbx,hres⟩:=hW.out
 subst hWe
 clear hW
 have Hbx:=Lib.hid hbx
 have Hres:=Lib.hid hres
 have HsW:=Lib.hid hsW
 have p0:=kid_at1 hcW.any hR hRb Hp.out.1
 have p1:=kid_at1 hcW.any hR hRb Hp.out.2.1
 have p2:=kid_at1 hcW.any hR hRb Hp.out.2.2
 clear hbx hres hsW
 go_enter Tryz.func78,Tryz.ntmps78
 go_wp2_with fail
 generalize (w.alloc (.cells #[.int .i64 6,.string ⟨t.name.toArray⟩,.slice (some ⟨b1,o1,none⟩) 1 cap] 24)).alloc (.cells #[.int .i64 0,.string ⟨#[]⟩,.slice none 0 0] 24)=W at *
 have hcall:=Hfa.out R _ nb L no _ (Hta.out.at1 hcW.any hR) hR (HN.out.nob hcW)
 (with_reducible refine hcall.mono ?_)
 clear hcall p0 p1 p2
 rintro e w3 ⟨hc3,⟨va,hsa,rfl,hFa,hN3⟩ | ⟨hsa,rfl⟩⟩
 ·obtain ⟨a5,acap,rfl⟩:=hFa.agg
  obtain ⟨na,hna⟩:∃ na:T,na=nfT a no:=⟨_,rfl⟩
  rw [← hna] at hsa hFa hN3 ⊢
  have Hna:=Lib.hid hna
  clear hna
  have hA:Chg Nob w3 (w3.alloc (.cells #[.int .i64 na.kind,.string ⟨na.name.toArray⟩,.slice a5 na.kids.length acap] 24)):=(Chg.refl _ _).alloc _
  have hta3:=heap_alloc_new w3 (.cells #[.int .i64 na.kind,.string ⟨na.name.toArray⟩,.slice a5 na.kids.length acap] 24)
  have hs3:(w3.alloc (.cells #[.int .i64 na.kind,.string ⟨na.name.toArray⟩,.slice a5 na.kids.length acap] 24)).heap.size=w3.heap.size+1:=World.size_alloc _ _
  have hN3A:=hN3.nob hA
  have hc23:=hc3.trans1 hA.any
  have hcw3:Chg (At1 nb) w _:=hcW.any.trans1 hc23
  have hs23:=hc3.size
  have hsW:=HsW.out
  have hbx3:=hc23.at Hbx.out (fun e=>by have e:w.heap.size=nb:=e;omega)
  obtain ⟨c0,c1,c2,_⟩:=cells_three hbx3
  have hres3:=hc23.at Hres.out (fun e=>by have e:w.heap.size+1=nb:=e;omega)
  have Hres3:=Lib.hid hres3
  have Hta3:=Lib.hid hta3
  have Hs3:=Lib.hid hs3
  clear hbx3 c0 c1 c2 hres3
  obtain ⟨c0,c1,c2,_⟩:=cells_three hta3
  clear hta3 hs3
  go_wp2_with fail
  generalize w3.alloc (.cells #[.int .i64 na.kind,.string ⟨na.name.toArray⟩,.slice a5 na.kids.length acap] 24)=W3 at *
  have Hnp:Hid (∀ X,Chg Nob W3 X→Calls Tryz.prog 130 #[.pointer (some ⟨nb,0,none⟩),.int .i64 (flipK 2 no),.slice none 0 0] X (NpPost nb (L - sizeT na) (.agg #[.int .i64 (flipK 2 no),.string ⟨#[]⟩,.slice none 0 0]) X)):=Lib.hid (fun X hX=>npart_any X nb _ (flipK 2 no) none 0 0 (hN3A.nob hX))
  have hw3n:w3.heap.size≠nb:=by omega
  have hnr:w.heap.size+1≠nb:=by omega
  have hHeld0:W3.cell? ⟨w3.heap.size,0,none⟩=some (.int .i64 na.kind)∧W3.cell? ⟨w3.heap.size,1,none⟩=some (.string ⟨na.name.toArray⟩)∧W3.cell? ⟨w3.heap.size,2,none⟩=some (.slice a5 na.kids.length acap):=⟨c0,c1,c2⟩
  clear hN3 hN3A
  generalize hM:L - sizeT na=M at *
  have HM:=Lib.hid hM
  clear hM
  match M with
  | 0 =>
    have Hno:=Lib.hid (show L < sizeT (.node (flipK 13 no) [] [.node (flipK 2 no) [] [],nfT a no]) by rw [← Hna.out];have:=HM.out;simp only [sizeT,sizeL];omega)
    refine wp_region_held_drew (S:=fun w'=>w'.cell? ⟨w3.heap.size,0,none⟩=some (.int .i64 na.kind)∧w'.cell? ⟨w3.heap.size,1,none⟩=some (.string ⟨na.name.toArray⟩)∧w'.cell? ⟨w3.heap.size,2,none⟩=some (.slice a5 na.kids.length acap)) (by kernel_rfl) hHeld0 (fun hHeld=>?_)
    refine wpAnyH_take (i:=0) (v:=?_) rfl (by kernel_rfl) (by kernel_rfl) (by kernel_rfl) (fun _ _ _ h=>h) (Or.inl ⟨by rfl,?_⟩) hHeld ?_
    rotate_left
    ·intro w hSw;obtain ⟨c0,c1,c2⟩:=hSw;go_simp;try (with_reducible rfl)
    simp only [Act.put,List.setIfInBounds_toArray]
    refine wpAnyH_take (i:=1) (v:=?_) rfl (by kernel_rfl) (by kernel_rfl) (by kernel_rfl) (fun _ _ _ h=>h) (Or.inl ⟨by rfl,?_⟩) hHeld ?_
    rotate_left
    ·intro w hSw;obtain ⟨c0,c1,c2⟩:=hSw;go_simp;try (with_reducible rfl)
    simp only [Act.put]
    refine wpAnyH_take (i:=3) (v:=?_) rfl (by kernel_rfl) (by kernel_rfl) (by kernel_rfl) (fun _ _ _ h=>h) (Or.inl ⟨by rfl,?_⟩) hHeld ?_
    rotate_left
    ·intro w hSw;obtain ⟨c0,c1,c2⟩:=hSw;go_simp;try (with_reducible rfl)
    simp only [Act.put]
    refine wpAnyH_take (i:=4) (v:=?_) rfl (by kernel_rfl) (by kernel_rfl) (by kernel_rfl) (fun _ _ _ h=>h) (Or.inl ⟨by rfl,?_⟩) hHeld ?_
    rotate_left
    ·intro w hSw;obtain ⟨c0,c1,c2⟩:=hSw;go_simp;try (with_reducible rfl)
    simp only [Act.put]
    refine wpAnyH_take (i:=7) (v:=?_) rfl (by kernel_rfl) (by kernel_rfl) (by kernel_rfl) (fun _ _ _ h=>h) (Or.inl ⟨by rfl,?_⟩) hHeld ?_
    rotate_left
    ·intro w hSw;obtain ⟨c0,c1,c2⟩:=hSw;go_simp;try (with_reducible rfl)
    simp only [Act.put]
    refine wpAnyH_ready (rs:=[2]) (by kernel_rfl) (by simp) ?_
    refine AllReadyH.cons rfl (fun K hK=>?_) AllReadyH.nil
    go_simp
    refine (flip_any 13 no _).mono ?_
    rintro e w5 ⟨rfl,rfl⟩
    refine hK.out _ _ hHeld (fun _=>?_)
    refine wpAnyH_ready (rs:=[5]) (by kernel_rfl) (by simp) ?_
    refine AllReadyH.cons rfl (fun K hK=>?_) AllReadyH.nil
    go_simp
    refine (flip_any 2 no _).mono ?_
    rintro e w5 ⟨rfl,rfl⟩
    refine hK.out _ _ hHeld (fun _=>?_)
    refine wpAnyH_ready (rs:=[6]) (by kernel_rfl) (by simp) ?_
    refine AllReadyH.cons rfl (fun K hK=>?_) AllReadyH.nil
    go_simp
    refine ((Hnp.out _ (by exact (Chg.refl _ _).drew)).mono (fun _ _ h=>NpPost.no h)).mono ?_
    rintro e w4 ⟨hc4,rfl⟩
    go_wp2
    exact ⟨rfl,(hcw3.trans1 (Chg.refl Nob _).drew.any).trans1 hc4,.inr ⟨Hno.out,rfl⟩⟩
  | 1 =>
    have Hno:=Lib.hid (show L < sizeT (.node (flipK 13 no) [] [.node (flipK 2 no) [] [],nfT a no]) by rw [← Hna.out];have:=HM.out;simp only [sizeT,sizeL];omega)
    refine wp_region_held_drew (S:=fun w'=>w'.cell? ⟨w3.heap.size,0,none⟩=some (.int .i64 na.kind)∧w'.cell? ⟨w3.heap.size,1,none⟩=some (.string ⟨na.name.toArray⟩)∧w'.cell? ⟨w3.heap.size,2,none⟩=some (.slice a5 na.kids.length acap)) (by kernel_rfl) hHeld0 (fun hHeld=>?_)
    refine wpAnyH_take (i:=0) (v:=?_) rfl (by kernel_rfl) (by kernel_rfl) (by kernel_rfl) (fun _ _ _ h=>h) (Or.inl ⟨by rfl,?_⟩) hHeld ?_
    rotate_left
    ·intro w hSw;obtain ⟨c0,c1,c2⟩:=hSw;go_simp;try (with_reducible rfl)
    simp only [Act.put,List.setIfInBounds_toArray]
    refine wpAnyH_take (i:=1) (v:=?_) rfl (by kernel_rfl) (by kernel_rfl) (by kernel_rfl) (fun _ _ _ h=>h) (Or.inl ⟨by rfl,?_⟩) hHeld ?_
    rotate_left
    ·intro w hSw;obtain ⟨c0,c1,c2⟩:=hSw;go_simp;try (with_reducible rfl)
    simp only [Act.put]
    refine wpAnyH_take (i:=3) (v:=?_) rfl (by kernel_rfl) (by kernel_rfl) (by kernel_rfl) (fun _ _ _ h=>h) (Or.inl ⟨by rfl,?_⟩) hHeld ?_
    rotate_left
    ·intro w hSw;obtain ⟨c0,c1,c2⟩:=hSw;go_simp;try (with_reducible rfl)
    simp only [Act.put]
    refine wpAnyH_take (i:=4) (v:=?_) rfl (by kernel_rfl) (by kernel_rfl) (by kernel_rfl) (fun _ _ _ h=>h) (Or.inl ⟨by rfl,?_⟩) hHeld ?_
    rotate_left
    ·intro w hSw;obtain ⟨c0,c1,c2⟩:=hSw;go_simp;try (with_reducible rfl)
    simp only [Act.put]
    refine wpAnyH_take (i:=7) (v:=?_) rfl (by kernel_rfl) (by kernel_rfl) (by kernel_rfl) (fun _ _ _ h=>h) (Or.inl ⟨by rfl,?_⟩) hHeld ?_
    rotate_left
    ·intro w hSw;obtain ⟨c0,c1,c2⟩:=hSw;go_simp;try (with_reducible rfl)
    simp only [Act.put]
    refine wpAnyH_ready (rs:=[2]) (by kernel_rfl) (by simp) ?_
    refine AllReadyH.cons rfl (fun K hK=>?_) AllReadyH.nil
    go_simp
    refine (flip_any 13 no _).mono ?_
    rintro e w5 ⟨rfl,rfl⟩
    refine hK.out _ _ hHeld (fun _=>?_)
    refine wpAnyH_ready (rs:=[5]) (by kernel_rfl) (by simp) ?_
    refine AllReadyH.cons rfl (fun K hK=>?_) AllReadyH.nil
    go_simp
    refine (flip_any 2 no _).mono ?_
    rintro e w5 ⟨rfl,rfl⟩
    refine hK.out _ _ hHeld (fun _=>?_)
    refine wpAnyH_ready (rs:=[6]) (by kernel_rfl) (by simp) ?_
    refine AllReadyH.cons rfl (fun K hK=>?_) AllReadyH.nil
    go_simp
    refine ((Hnp.out _ (by exact (Chg.refl _ _).drew)).mono (fun _ _ h=>NpPost.ok h)).mono ?_
    rintro e w4 ⟨hc4,rfl,hN4⟩
    have s4:=three_at1 ((Chg.refl (At1 nb) _).drew.trans1 hc4) hw3n hHeld0
    refine hK.out _ _ s4 (fun _=>?_)
    refine wpAnyH_ready (rs:=[8]) (by kernel_rfl) (by simp) ?_
    refine AllReadyH.cons rfl (fun K hK=>?_) AllReadyH.nil
    go_simp
    refine hK.out _ _ (three_nob ((Chg.refl _ _).alloc _) s4) (fun _=>?_)
    refine wpAnyH_ready (rs:=[9]) (by kernel_rfl) (by simp) ?_
    refine AllReadyH.cons rfl (fun K hK=>?_) AllReadyH.nil
    go_simp
    refine ((npart_any _ nb _ (flipK 13 no) (some ⟨w4.heap.size,0,none⟩) 2 2 (hN4.nob ((Chg.refl _ _).alloc _))).mono (fun _ _ h=>NpPost.no h)).mono ?_
    rintro e w6 ⟨hc6,rfl⟩
    go_wp2
    exact ⟨rfl,((hcw3.trans1 (Chg.refl Nob _).drew.any).trans1 hc4).trans1 (((Chg.refl Nob _).alloc _).any.trans1 hc6),.inr ⟨Hno.out,rfl⟩⟩
  | m2+2 =>
    go_region_held3 (fun w'=>w'.cell? ⟨w3.heap.size,0,none⟩=some (.int .i64 na.kind)∧w'.cell? ⟨w3.heap.size,1,none⟩=some (.string ⟨na.name.toArray⟩)∧w'.cell? ⟨w3.heap.size,2,none⟩=some (.slice a5 na.kids.length acap)) (first | exact hHeld0 | exact s4 | exact three_nob ((Chg.refl Nob w4).alloc _) s4 | exact s6 | exact three_at1 (chg_three _ _ _ _ _) (by omega) s6)
     (first | (go_at_call 131;(with_reducible refine (flip_any _ no _).mono ?_);rintro e w5 ⟨rfl,rfl⟩)
            | (go_at_call 130;(with_reducible refine ((Hnp.out _ (by exact (Chg.refl _ _).drew)).mono (fun _ _ h=>NpPost.ok h)).mono ?_);rintro e w4 ⟨hc4,rfl,hN4⟩;have s4:=three_at1 ((Chg.refl (At1 nb) _).drew.trans1 hc4) hw3n hHeld0)
            | (go_at_call 130;(with_reducible refine ((npart_any _ nb _ (flipK 13 no) (some ⟨w4.heap.size,0,none⟩) 2 2 (by exact hN4.nob ((Chg.refl _ _).alloc _))).mono (fun _ _ h=>NpPost.ok h)).mono ?_);rintro e w6 ⟨hc6,rfl,hN6⟩;have hc46:=((Chg.refl (At1 nb) w4).alloc (.cells #[.int .i64 (flipK 2 no),.string ⟨#[]⟩,.slice none 0 0,.int .i64 na.kind,.string ⟨na.name.toArray⟩,.slice a5 na.kids.length acap] 24)).trans1 hc6;have s6:=three_at1 hc46 hw3n s4;obtain ⟨r0,r1,r2,f0,f1,f2⟩:=cells_three (hc46.at (hc4.at (w:=W3.drew) Hres3.out hnr) hnr)))
    have hsW:=HsW.out
    have hs3':=Hs3.out
    have hz4:=hc4.size
    have hz4':W3.heap.size≤w4.heap.size:=hz4
    have hres6:=hc46.at (hc4.at (w:=W3.drew) Hres3.out hnr) hnr
    have h36:Chg (At1 nb) w3 w6:=(hA.any.trans1 ((Chg.refl (At1 nb) _).drew.trans1 hc4)).trans1 hc46
    have hcw6:Chg (At1 nb) w w6:=(hcw3.trans1 ((Chg.refl (At1 nb) _).drew.trans1 hc4)).trans1 hc46
    have hF0:Fresh (Ge W.heap.size) w4 (.node (flipK 2 no) [] []) (.agg #[.int .i64 (flipK 2 no),.string ⟨#[]⟩,.slice none 0 0]):=nf_leaf
    have hF:Fresh (Ge (w.heap.size+2)) w6 (.node (flipK 13 no) [] [.node (flipK 2 no) [] [],na]) _:=hsW ▸ nf_two (k:=flipK 13 no) (w:=W) hF0 hFa (by omega) (by omega) (At1 nb) (fun q e=>by have e:q=nb:=e;omega) (fun q e=>by have e:q=nb:=e;omega) hc46 h36
     (hc6.at (heap_alloc_new w4 (.cells #[.int .i64 (flipK 2 no),.string ⟨#[]⟩,.slice none 0 0,.int .i64 na.kind,.string ⟨na.name.toArray⟩,.slice a5 na.kids.length acap] 24)) (fun e=>by have e:w4.heap.size=nb:=e;omega)) (by omega)
    have Hpost:Hid (NfPost nb L (.node (flipK 13 no) [] [.node (flipK 2 no) [] [],nfT a no]) w (.returned (.agg #[.int .i64 (flipK 13 no),.string ⟨#[]⟩,.slice (some ⟨w4.heap.size,0,none⟩) 2 2])) (((w6.setCell ⟨w.heap.size+1,0,none⟩ (.int .i64 (flipK 13 no))).setCell ⟨w.heap.size+1,1,none⟩ (.string ⟨#[]⟩)).setCell ⟨w.heap.size+1,2,none⟩ (.slice (some ⟨w4.heap.size,0,none⟩) 2 2))):=by
     show NfPost _ _ _ _ _ _
     rw [← Hna.out]
     exact nf_end (M:=m2) (u:= .node (flipK 13 no) [] [.node (flipK 2 no) [] [],na]) hnb hcw6 hres6 hF (by have:=HM.out;simp only [sizeT,sizeL];omega) (by have:=HM.out;simp only [sizeT,sizeL];omega) hN6
    have hb7:=block_three_all hres6 (.int .i64 (flipK 13 no)) (.string ⟨#[]⟩) (.slice (some ⟨w4.heap.size,0,none⟩) 2 2)
    obtain ⟨e0,e1,e2,_⟩:=cells_three hb7
    have He:=Lib.hid (And.intro e0 (And.intro e1 e2))
    clear hb7 hres6 e0 e1 e2 h36 hcw6 hF hFa hF0 hN6 hsW hs3' hz4 hz4' s6 s4
    go_wp2
    obtain ⟨e0,e1,e2⟩:=He.out
    exact bodyPost_ret (v:= .agg #[.int .i64 (flipK 13 no),.string ⟨#[]⟩,.slice (some ⟨w4.heap.size,0,none⟩) 2 2]) (by simp [results,Tryz.results78,go_sem,e0,e1,e2]) rfl Hpost.out
 ·go_wp2
  exact ⟨rfl,hcW.any.trans1 hc3,.inr ⟨by simp only [sizeT,sizeL] at hsa ⊢;omega,rfl⟩⟩
theorem form_7 (t a:T) (hkids:t.kids=[a]) (hfa:FormC a) (hkind:t.kind=7) (R:Nat→Prop) (w:World) (nb L:Nat) (no:Bool) (v:Value) (ht:IsTree R w t v) (hR:∀ b,R b→b≠nb) (hN:Nb w nb L) :
 Calls Tryz.prog 78 #[.pointer (some ⟨nb,0,none⟩),v,.bool no] w (NfPost nb L (.node (flipK 12 no) [] [.node (flipK 1 no) [] [],nfT a no]) w):=by
 obtain ⟨ao,cap,rfl,hlen,hk⟩:=ht.parts
 rw [hkids] at hk
 obtain ⟨b1,o1,ak,capk,hao,hRb,p0,p1,p2,_,_,hta⟩:=hk.kid (j:=0) (t:=a) rfl
 subst hao
 rw [Nat.zero_mul,Nat.add_zero] at p0 p1 p2
 have hlen2:t.kids.length=1:=by rw [hkids];rfl
 rw [hlen2,hkind] at ht ⊢
 have hW:Hid (∃ W,W=(w.alloc (.cells #[.int .i64 7,.string ⟨t.name.toArray⟩,.slice (some ⟨b1,o1,none⟩) 1 cap] 24)).alloc (.cells #[.int .i64 0,.string ⟨#[]⟩,.slice none 0 0] 24)∧Chg Nob w W∧W.heap.size=w.heap.size+2 ∧
  W.heap[w.heap.size]? = some (.cells #[.int .i64 7,.string ⟨t.name.toArray⟩,.slice (some ⟨b1,o1,none⟩) 1 cap] 24 (0,0))∧W.heap[w.heap.size+1]? = some (.cells #[.int .i64 0,.string ⟨#[]⟩,.slice none 0 0] 24 (0,0))):=by
  refine ⟨_,rfl,((Chg.refl _ _).alloc _).alloc _,by rw [World.size_alloc,World.size_alloc],((Chg.refl Nob _).alloc _).at (heap_alloc_new w _) (fun e=>e),?_⟩
  have:=heap_alloc_new (w.alloc (.cells #[.int .i64 7,.string ⟨t.name.toArray⟩,.slice (some ⟨b1,o1,none⟩) 1 cap] 24)) (.cells #[.int .i64 0,.string ⟨#[]⟩,.slice none 0 0] 24)
  rwa [World.size_alloc] at this
 have Hp:=Lib.hid (And.intro p0 (And.intro p1 p2))
 have Hta:=Lib.hid hta
 have Hfa:=Lib.hid hfa
 have hnb:=hN.lt
 have HN:=Lib.hid hN
 have Ht:=Lib.hid ht
 have Hkids:=Lib.hid hkids
 clear ht hk hkids hN hlen2 hkind hlen hfa p0 p1 p2 hta
 obtain ⟨W,hWe,hcW,hsW,hbx,hres⟩:=hW.out
 subst hWe
 clear hW
 have Hbx:=Lib.hid hbx
 have Hres:=Lib.hid hres
 have HsW:=Lib.hid hsW
 have p0:=kid_at1 hcW.any hR hRb Hp.out.1
 have p1:=kid_at1 hcW.any hR hRb Hp.out.2.1
 have p2:=kid_at1 hcW.any hR hRb Hp.out.2.2
 clear hbx hres hsW
 go_enter Tryz.func78,Tryz.ntmps78
 go_wp2_with fail
 generalize (w.alloc (.cells #[.int .i64 7,.string ⟨t.name.toArray⟩,.slice (some ⟨b1,o1,none⟩) 1 cap] 24)).alloc (.cells #[.int .i64 0,.string ⟨#[]⟩,.slice none 0 0] 24)=W at *
 have hcall:=Hfa.out R _ nb L no _ (Hta.out.at1 hcW.any hR) hR (HN.out.nob hcW)
 (with_reducible refine hcall.mono ?_)
 clear hcall p0 p1 p2
 rintro e w3 ⟨hc3,⟨va,hsa,rfl,hFa,hN3⟩ | ⟨hsa,rfl⟩⟩
 ·obtain ⟨a5,acap,rfl⟩:=hFa.agg
  obtain ⟨na,hna⟩:∃ na:T,na=nfT a no:=⟨_,rfl⟩
  rw [← hna] at hsa hFa hN3 ⊢
  have Hna:=Lib.hid hna
  clear hna
  have hA:Chg Nob w3 (w3.alloc (.cells #[.int .i64 na.kind,.string ⟨na.name.toArray⟩,.slice a5 na.kids.length acap] 24)):=(Chg.refl _ _).alloc _
  have hta3:=heap_alloc_new w3 (.cells #[.int .i64 na.kind,.string ⟨na.name.toArray⟩,.slice a5 na.kids.length acap] 24)
  have hs3:(w3.alloc (.cells #[.int .i64 na.kind,.string ⟨na.name.toArray⟩,.slice a5 na.kids.length acap] 24)).heap.size=w3.heap.size+1:=World.size_alloc _ _
  have hN3A:=hN3.nob hA
  have hc23:=hc3.trans1 hA.any
  have hcw3:Chg (At1 nb) w _:=hcW.any.trans1 hc23
  have hs23:=hc3.size
  have hsW:=HsW.out
  have hbx3:=hc23.at Hbx.out (fun e=>by have e:w.heap.size=nb:=e;omega)
  obtain ⟨c0,c1,c2,_⟩:=cells_three hbx3
  have hres3:=hc23.at Hres.out (fun e=>by have e:w.heap.size+1=nb:=e;omega)
  have Hres3:=Lib.hid hres3
  have Hta3:=Lib.hid hta3
  have Hs3:=Lib.hid hs3
  clear hbx3 c0 c1 c2 hres3
  obtain ⟨c0,c1,c2,_⟩:=cells_three hta3
  clear hta3 hs3
  go_wp2_with fail
  generalize w3.alloc (.cells #[.int .i64 na.kind,.string ⟨na.name.toArray⟩,.slice a5 na.kids.length acap] 24)=W3 at *
  have Hnp:Hid (∀ X,Chg Nob W3 X→Calls Tryz.prog 130 #[.pointer (some ⟨nb,0,none⟩),.int .i64 (flipK 1 no),.slice none 0 0] X (NpPost nb (L - sizeT na) (.agg #[.int .i64 (flipK 1 no),.string ⟨#[]⟩,.slice none 0 0]) X)):=Lib.hid (fun X hX=>npart_any X nb _ (flipK 1 no) none 0 0 (hN3A.nob hX))
  have hw3n:w3.heap.size≠nb:=by omega
  have hnr:w.heap.size+1≠nb:=by omega
  have hHeld0:W3.cell? ⟨w3.heap.size,0,none⟩=some (.int .i64 na.kind)∧W3.cell? ⟨w3.heap.size,1,none⟩=some (.string ⟨na.name.toArray⟩)∧W3.cell? ⟨w3.heap.size,2,none⟩=some (.slice a5 na.kids.length acap):=⟨c0,c1,c2⟩
  clear hN3 hN3A
  generalize hM:L - sizeT na=M at *
  have HM:=Lib.hid hM
  clear hM
  match M with
  | 0 =>
    have Hno:=Lib.hid (show L < sizeT (.node (flipK 12 no) [] [.node (flipK 1 no) [] [],nfT a no]) by rw [← Hna.out];have:=HM.out;simp only [sizeT,sizeL];omega)
    refine wp_region_held_drew (S:=fun w'=>w'.cell? ⟨w3.heap.size,0,none⟩=some (.int .i64 na.kind)∧w'.cell? ⟨w3.heap.size,1,none⟩=some (.string ⟨na.name.toArray⟩)∧w'.cell? ⟨w3.heap.size,2,none⟩=some (.slice a5 na.kids.length acap)) (by kernel_rfl) hHeld0 (fun hHeld=>?_)
    refine wpAnyH_take (i:=0) (v:=?_) rfl (by kernel_rfl) (by kernel_rfl) (by kernel_rfl) (fun _ _ _ h=>h) (Or.inl ⟨by rfl,?_⟩) hHeld ?_
    rotate_left
    ·intro w hSw;obtain ⟨c0,c1,c2⟩:=hSw;go_simp;try (with_reducible rfl)
    simp only [Act.put,List.setIfInBounds_toArray]
    refine wpAnyH_take (i:=1) (v:=?_) rfl (by kernel_rfl) (by kernel_rfl) (by kernel_rfl) (fun _ _ _ h=>h) (Or.inl ⟨by rfl,?_⟩) hHeld ?_
    rotate_left
    ·intro w hSw;obtain ⟨c0,c1,c2⟩:=hSw;go_simp;try (with_reducible rfl)
    simp only [Act.put]
    refine wpAnyH_take (i:=3) (v:=?_) rfl (by kernel_rfl) (by kernel_rfl) (by kernel_rfl) (fun _ _ _ h=>h) (Or.inl ⟨by rfl,?_⟩) hHeld ?_
    rotate_left
    ·intro w hSw;obtain ⟨c0,c1,c2⟩:=hSw;go_simp;try (with_reducible rfl)
    simp only [Act.put]
    refine wpAnyH_take (i:=4) (v:=?_) rfl (by kernel_rfl) (by kernel_rfl) (by kernel_rfl) (fun _ _ _ h=>h) (Or.inl ⟨by rfl,?_⟩) hHeld ?_
    rotate_left
    ·intro w hSw;obtain ⟨c0,c1,c2⟩:=hSw;go_simp;try (with_reducible rfl)
    simp only [Act.put]
    refine wpAnyH_take (i:=7) (v:=?_) rfl (by kernel_rfl) (by kernel_rfl) (by kernel_rfl) (fun _ _ _ h=>h) (Or.inl ⟨by rfl,?_⟩) hHeld ?_
    rotate_left
    ·intro w hSw;obtain ⟨c0,c1,c2⟩:=hSw;go_simp;try (with_reducible rfl)
    simp only [Act.put]
    refine wpAnyH_ready (rs:=[2]) (by kernel_rfl) (by simp) ?_
    refine AllReadyH.cons rfl (fun K hK=>?_) AllReadyH.nil
    go_simp
    refine (flip_any 12 no _).mono ?_
    rintro e w5 ⟨rfl,rfl⟩
    refine hK.out _ _ hHeld (fun _=>?_)
    refine wpAnyH_ready (rs:=[5]) (by kernel_rfl) (by simp) ?_
    refine AllReadyH.cons rfl (fun K hK=>?_) AllReadyH.nil
    go_simp
    refine (flip_any 1 no _).mono ?_
    rintro e w5 ⟨rfl,rfl⟩
    refine hK.out _ _ hHeld (fun _=>?_)
    refine wpAnyH_ready (rs:=[6]) (by kernel_rfl) (by simp) ?_
    refine AllReadyH.cons rfl (fun K hK=>?_) AllReadyH.nil
    go_simp
    refine ((Hnp.out _ (by exact (Chg.refl _ _).drew)).mono (fun _ _ h=>NpPost.no h)).mono ?_
    rintro e w4 ⟨hc4,rfl⟩
    go_wp2
    exact ⟨rfl,(hcw3.trans1 (Chg.refl Nob _).drew.any).trans1 hc4,.inr ⟨Hno.out,rfl⟩⟩
  | 1 =>
    have Hno:=Lib.hid (show L < sizeT (.node (flipK 12 no) [] [.node (flipK 1 no) [] [],nfT a no]) by rw [← Hna.out];have:=HM.out;simp only [sizeT,sizeL];omega)
    refine wp_region_held_drew (S:=fun w'=>w'.cell? ⟨w3.heap.size,0,none⟩=some (.int .i64 na.kind)∧w'.cell? ⟨w3.heap.size,1,none⟩=some (.string ⟨na.name.toArray⟩)∧w'.cell? ⟨w3.heap.size,2,none⟩=some (.slice a5 na.kids.length acap)) (by kernel_rfl) hHeld0 (fun hHeld=>?_)
    refine wpAnyH_take (i:=0) (v:=?_) rfl (by kernel_rfl) (by kernel_rfl) (by kernel_rfl) (fun _ _ _ h=>h) (Or.inl ⟨by rfl,?_⟩) hHeld ?_
    rotate_left
    ·intro w hSw;obtain ⟨c0,c1,c2⟩:=hSw;go_simp;try (with_reducible rfl)
    simp only [Act.put,List.setIfInBounds_toArray]
    refine wpAnyH_take (i:=1) (v:=?_) rfl (by kernel_rfl) (by kernel_rfl) (by kernel_rfl) (fun _ _ _ h=>h) (Or.inl ⟨by rfl,?_⟩) hHeld ?_
    rotate_left
    ·intro w hSw;obtain ⟨c0,c1,c2⟩:=hSw;go_simp;try (with_reducible rfl)
    simp only [Act.put]
    refine wpAnyH_take (i:=3) (v:=?_) rfl (by kernel_rfl) (by kernel_rfl) (by kernel_rfl) (fun _ _ _ h=>h) (Or.inl ⟨by rfl,?_⟩) hHeld ?_
    rotate_left
    ·intro w hSw;obtain ⟨c0,c1,c2⟩:=hSw;go_simp;try (with_reducible rfl)
    simp only [Act.put]
    refine wpAnyH_take (i:=4) (v:=?_) rfl (by kernel_rfl) (by kernel_rfl) (by kernel_rfl) (fun _ _ _ h=>h) (Or.inl ⟨by rfl,?_⟩) hHeld ?_
    rotate_left
    ·intro w hSw;obtain ⟨c0,c1,c2⟩:=hSw;go_simp;try (with_reducible rfl)
    simp only [Act.put]
    refine wpAnyH_take (i:=7) (v:=?_) rfl (by kernel_rfl) (by kernel_rfl) (by kernel_rfl) (fun _ _ _ h=>h) (Or.inl ⟨by rfl,?_⟩) hHeld ?_
    rotate_left
    ·intro w hSw;obtain ⟨c0,c1,c2⟩:=hSw;go_simp;try (with_reducible rfl)
    simp only [Act.put]
    refine wpAnyH_ready (rs:=[2]) (by kernel_rfl) (by simp) ?_
    refine AllReadyH.cons rfl (fun K hK=>?_) AllReadyH.nil
    go_simp
    refine (flip_any 12 no _).mono ?_
    rintro e w5 ⟨rfl,rfl⟩
    refine hK.out _ _ hHeld (fun _=>?_)
    refine wpAnyH_ready (rs:=[5]) (by kernel_rfl) (by simp) ?_
    refine AllReadyH.cons rfl (fun K hK=>?_) AllReadyH.nil
    go_simp
    refine (flip_any 1 no _).mono ?_
    rintro e w5 ⟨rfl,rfl⟩
    refine hK.out _ _ hHeld (fun _=>?_)
    refine wpAnyH_ready (rs:=[6]) (by kernel_rfl) (by simp) ?_
    refine AllReadyH.cons rfl (fun K hK=>?_) AllReadyH.nil
    go_simp
    refine ((Hnp.out _ (by exact (Chg.refl _ _).drew)).mono (fun _ _ h=>NpPost.ok h)).mono ?_
    rintro e w4 ⟨hc4,rfl,hN4⟩
    have s4:=three_at1 ((Chg.refl (At1 nb) _).drew.trans1 hc4) hw3n hHeld0
    refine hK.out _ _ s4 (fun _=>?_)
    refine wpAnyH_ready (rs:=[8]) (by kernel_rfl) (by simp) ?_
    refine AllReadyH.cons rfl (fun K hK=>?_) AllReadyH.nil
    go_simp
    refine hK.out _ _ (three_nob ((Chg.refl _ _).alloc _) s4) (fun _=>?_)
    refine wpAnyH_ready (rs:=[9]) (by kernel_rfl) (by simp) ?_
    refine AllReadyH.cons rfl (fun K hK=>?_) AllReadyH.nil
    go_simp
    refine ((npart_any _ nb _ (flipK 12 no) (some ⟨w4.heap.size,0,none⟩) 2 2 (hN4.nob ((Chg.refl _ _).alloc _))).mono (fun _ _ h=>NpPost.no h)).mono ?_
    rintro e w6 ⟨hc6,rfl⟩
    go_wp2
    exact ⟨rfl,((hcw3.trans1 (Chg.refl Nob _).drew.any).trans1 hc4).trans1 (((Chg.refl Nob _).alloc _).any.trans1 hc6),.inr ⟨Hno.out,rfl⟩⟩
  | m2+2 =>
    go_region_held3 (fun w'=>w'.cell? ⟨w3.heap.size,0,none⟩=some (.int .i64 na.kind)∧w'.cell? ⟨w3.heap.size,1,none⟩=some (.string ⟨na.name.toArray⟩)∧w'.cell? ⟨w3.heap.size,2,none⟩=some (.slice a5 na.kids.length acap)) (first | exact hHeld0 | exact s4 | exact three_nob ((Chg.refl Nob w4).alloc _) s4 | exact s6 | exact three_at1 (chg_three _ _ _ _ _) (by omega) s6)
     (first | (go_at_call 131;(with_reducible refine (flip_any _ no _).mono ?_);rintro e w5 ⟨rfl,rfl⟩)
            | (go_at_call 130;(with_reducible refine ((Hnp.out _ (by exact (Chg.refl _ _).drew)).mono (fun _ _ h=>NpPost.ok h)).mono ?_);rintro e w4 ⟨hc4,rfl,hN4⟩;have s4:=three_at1 ((Chg.refl (At1 nb) _).drew.trans1 hc4) hw3n hHeld0)
            | (go_at_call 130;(with_reducible refine ((npart_any _ nb _ (flipK 12 no) (some ⟨w4.heap.size,0,none⟩) 2 2 (by exact hN4.nob ((Chg.refl _ _).alloc _))).mono (fun _ _ h=>NpPost.ok h)).mono ?_);rintro e w6 ⟨hc6,rfl,hN6⟩;have hc46:=((Chg.refl (At1 nb) w4).alloc (.cells #[.int .i64 (flipK 1 no),.string ⟨#[]⟩,.slice none 0 0,.int .i64 na.kind,.string ⟨na.name.toArray⟩,.slice a5 na.kids.length acap] 24)).trans1 hc6;have s6:=three_at1 hc46 hw3n s4;obtain ⟨r0,r1,r2,f0,f1,f2⟩:=cells_three (hc46.at (hc4.at (w:=W3.drew) Hres3.out hnr) hnr)))
    have hsW:=HsW.out
    have hs3':=Hs3.out
    have hz4:=hc4.size
    have hz4':W3.heap.size≤w4.heap.size:=hz4
    have hres6:=hc46.at (hc4.at (w:=W3.drew) Hres3.out hnr) hnr
    have h36:Chg (At1 nb) w3 w6:=(hA.any.trans1 ((Chg.refl (At1 nb) _).drew.trans1 hc4)).trans1 hc46
    have hcw6:Chg (At1 nb) w w6:=(hcw3.trans1 ((Chg.refl (At1 nb) _).drew.trans1 hc4)).trans1 hc46
    have hF0:Fresh (Ge W.heap.size) w4 (.node (flipK 1 no) [] []) (.agg #[.int .i64 (flipK 1 no),.string ⟨#[]⟩,.slice none 0 0]):=nf_leaf
    have hF:Fresh (Ge (w.heap.size+2)) w6 (.node (flipK 12 no) [] [.node (flipK 1 no) [] [],na]) _:=hsW ▸ nf_two (k:=flipK 12 no) (w:=W) hF0 hFa (by omega) (by omega) (At1 nb) (fun q e=>by have e:q=nb:=e;omega) (fun q e=>by have e:q=nb:=e;omega) hc46 h36
     (hc6.at (heap_alloc_new w4 (.cells #[.int .i64 (flipK 1 no),.string ⟨#[]⟩,.slice none 0 0,.int .i64 na.kind,.string ⟨na.name.toArray⟩,.slice a5 na.kids.length acap] 24)) (fun e=>by have e:w4.heap.size=nb:=e;omega)) (by omega)
    have Hpost:Hid (NfPost nb L (.node (flipK 12 no) [] [.node (flipK 1 no) [] [],nfT a no]) w (.returned (.agg #[.int .i64 (flipK 12 no),.string ⟨#[]⟩,.slice (some ⟨w4.heap.size,0,none⟩) 2 2])) (((w6.setCell ⟨w.heap.size+1,0,none⟩ (.int .i64 (flipK 12 no))).setCell ⟨w.heap.size+1,1,none⟩ (.string ⟨#[]⟩)).setCell ⟨w.heap.size+1,2,none⟩ (.slice (some ⟨w4.heap.size,0,none⟩) 2 2))):=by
     show NfPost _ _ _ _ _ _
     rw [← Hna.out]
     exact nf_end (M:=m2) (u:= .node (flipK 12 no) [] [.node (flipK 1 no) [] [],na]) hnb hcw6 hres6 hF (by have:=HM.out;simp only [sizeT,sizeL];omega) (by have:=HM.out;simp only [sizeT,sizeL];omega) hN6
    have hb7:=block_three_all hres6 (.int .i64 (flipK 12 no)) (.string ⟨#[]⟩) (.slice (some ⟨w4.heap.size,0,none⟩) 2 2)
    obtain ⟨e0,e1,e2,_⟩:=cells_three hb7
    have He:=Lib.hid (And.intro e0 (And.intro e1 e2))
    clear hb7 hres6 e0 e1 e2 h36 hcw6 hF hFa hF0 hN6 hsW hs3' hz4 hz4' s6 s4
    go_wp2
    obtain ⟨e0,e1,e2⟩:=He.out
    exact bodyPost_ret (v:= .agg #[.int .i64 (flipK 12 no),.string ⟨#[]⟩,.slice (some ⟨w4.heap.size,0,none⟩) 2 2]) (by simp [results,Tryz.results78,go_sem,e0,e1,e2]) rfl Hpost.out
 ·go_wp2
  exact ⟨rfl,hcW.any.trans1 hc3,.inr ⟨by simp only [sizeT,sizeL] at hsa ⊢;omega,rfl⟩⟩
end Go.Proofs.YtkgfdgfhpdhhaaaGreat
namespace Go.Proofs.YtkgfdgfhpdhhaaaGreat
open Go.ChangeShapes Go.WideShapes Go.RowKit Go.Shelf
set_option maxHeartbeats 1000000
def isStr (E:Nat→Prop) (n0 k:Nat) (o:Obj):Prop:=n0≤k∧∃ cs t m,o = .cells cs t m∧E t
def Steps (E:Nat→Prop) (n0 n1:Nat) (W W':World):Prop:=Chg (fun k=>n1≤k∧¬ ∃ o,W.heap[k]? = some o∧isStr E n0 k o) W W'
structure Keeps (E:Nat→Prop) (n0:Nat) (V:Nat→Prop) (W W':World):Prop where
 size:W.heap.size≤W'.heap.size
 same:∀ k o,W.heap[k]? = some o→¬ V k→¬ isStr E n0 k o→W'.heap[k]? = some o
theorem Steps.trans {E:Nat→Prop} {n0 n1:Nat} {A B C:World} (h:Steps E n0 n1 A B) (k:Steps E n0 n1 B C):Steps E n0 n1 A C :=
 Chg.trans h k (fun i hi hs=>by
  refine ⟨hs.1,fun ⟨o,ho,hst⟩=>hs.2 ⟨o,?_,hst⟩⟩
  exact Chg.at h ho (fun e=>e.2 ⟨o,ho,hst⟩))
theorem Steps.mono {E:Nat→Prop} {n0 n1 n2:Nat} {A B:World} (h:Steps E n0 n1 A B) (hn:n2≤n1):Steps E n0 n2 A B:=Chg.mono h (fun _ _ e=>⟨Nat.le_trans hn e.1,e.2⟩)
theorem Steps.nob {E:Nat→Prop} {n0 n1:Nat} {A B:World} (h:Chg Nob A B):Steps E n0 n1 A B:=Chg.any h
theorem Steps.put {E:Nat→Prop} {n0 n1 l:Nat} {A:World} {o o':Obj} (hl:n1≤l) (ho:A.heap[l]? = some o) (hs:¬ isStr E n0 l o):Steps E n0 n1 A (A.putObj l o') :=
 ⟨rfl,rfl,rfl,by simp,fun k _ hk=>World.putObj_heap_other (fun e=>hk (by subst e;exact ⟨hl,fun ⟨o2,h2,h3⟩=>by rw [ho] at h2;cases h2;exact hs h3⟩))⟩
theorem Keeps.refl (E:Nat→Prop) (n0:Nat) (V:Nat→Prop) (W:World):Keeps E n0 V W W:=⟨Nat.le_refl _,fun _ _ h _ _=>h⟩
theorem Keeps.trans {E:Nat→Prop} {n0:Nat} {V:Nat→Prop} {A B C:World} (h:Keeps E n0 V A B) (k:Keeps E n0 V B C):Keeps E n0 V A C :=
 ⟨Nat.le_trans h.size k.size,fun i o ho hv hs=>k.same i o (h.same i o ho hv hs) hv hs⟩
theorem Keeps.mono {E:Nat→Prop} {n0:Nat} {V V':Nat→Prop} {A B:World} (h:Keeps E n0 V A B) (hv:∀ k,V k→V' k):Keeps E n0 V' A B :=
 ⟨h.size,fun i o ho hn hs=>h.same i o ho (fun e=>hn (hv i e)) hs⟩
theorem Keeps.of_chg {E:Nat→Prop} {n0:Nat} {V:Nat→Prop} {A B:World} (h:Chg V A B):Keeps E n0 V A B:=⟨h.size,fun _ _ ho hv _=>h.at ho hv⟩
theorem Keeps.put {E:Nat→Prop} {n0:Nat} {V:Nat→Prop} {l:Nat} {A:World} {o':Obj} (hv:V l):Keeps E n0 V A (A.putObj l o') :=
 ⟨by simp,fun k o ho hn _=>(World.putObj_heap_other (fun e=>hn (by subst e;exact hv))).trans ho⟩
theorem loop_not_str {E:Nat→Prop} {n0 k:Nat} (r:Loop):¬ isStr E n0 k (.loop r):=fun ⟨_,_,_,_,h,_⟩=>by cases h
theorem deferred_not_str {E:Nat→Prop} {n0 k:Nat} (r:Option (List Deferred)):¬ isStr E n0 k (.deferred r):=fun ⟨_,_,_,_,h,_⟩=>by cases h
def Iter {α : Type} (E:Nat→Prop) (n0 n:Nat) (g:Nat) (lb:Array Value) (encs : α→Array Value) (V0:Nat→Prop) (xs:List α) (w:World):Prop :=
 ∀ (l:Nat) (J Jx:List α→World→Prop) (W:World),Chg Nob w W→w.heap.size≤l→l < W.heap.size →
   (∀ pre A B,J pre A→Steps E n0 W.heap.size A B→J pre B)→(∀ pre A B,Jx pre A→Steps E n0 W.heap.size A B→Jx pre B) →
   (∀ pre x W1,J pre W1→(pre++[x]) <+: xs→YieldAt Fence.wide (n - 1) Tryz.prog l (encs x) W1 fun e W' =>
    (e = .returned (.bool true)∧J (pre++[x]) W'∧Keeps E n0 (fun k=>k=l∨V0 k) W1 W')∨(e = .returned (.bool false)∧Jx (pre++[x]) W'∧Keeps E n0 (fun k=>k=l∨V0 k) W1 W')) →
   J [] W →
   CallsIn Fence.wide n Tryz.prog g (#[.func (.yield l) #[] #[]]++lb) W fun e W'=>(∃ v,e = .returned v)∧(J xs W'∨(∃ pre,pre <+: xs∧Jx pre W'))
def rPost {α : Type} (E:Nat→Prop) (n0:Nat) (V0:Nat→Prop) (I:List α→World→Prop) (Ix:Code→List α→World→Prop) (xs:List α) (W:World):Exit→Act→World→Prop
 | .normal,_,W'=>Keeps E n0 V0 W W'∧I xs W'
 | .ret,_,W'=>Keeps E n0 V0 W W'∧Ix .ret xs W'
 | .exit id,_,W'=>Keeps E n0 V0 W W'∧Ix (.exit id) xs W'
 | .goto t,_,W'=>Keeps E n0 V0 W W'∧Ix (.goto t) xs W'
 | .panic _,_,_=>False
 | .outgrown,_,_=>False
theorem range_iter {α : Type} {E:Nat→Prop} {n0 n:Nat} {g:Operand} {ps:Array Tmp} {assign body:Code} {Q:Exit→Act→World→Prop} {a:Act} {w:World} (h1:1≤n)
 {gf:Nat} {lb:Array Value} (hg:a.eval g = .func (.func gf) #[] lb) (eg:∀ args w,(callFunc gf args).run Tryz.prog w = .ok (.enter gf args) w)
 {encs : α→Array Value} {V0:Nat→Prop} {xs:List α} (hit:Iter E n0 (n - 1) gf lb encs V0 xs w) (hV:∀ k,V0 k→k < w.heap.size) (hps:∀ x,(encs x).size=ps.size)
 (I:List α→World→Prop) (Ix:Code→List α→World→Prop) (hI:∀ pre A B,I pre A→Steps E n0 (w.heap.size+1) A B→I pre B) (hIx:∀ c pre A B,Ix c pre A→Steps E n0 (w.heap.size+1) A B→Ix c pre B) (h0:I [] w)
 (hround:∀ (l:Nat) (pre:List α) (x : α) (W:World),I pre W→(pre++[x]) <+: xs→w.heap.size+1 < W.heap.size →
  assign.wpIn (Fence.wide.inRound l) (n - 1 - 1) Tryz.prog (Exit.then (fun a₁ w₁=>Keeps E n0 V0 W w₁∧∀ w₂,Chg (At1 (w.heap.size+1)) w₁ w₂→Steps E n0 (w.heap.size+1) w₁ w₂→body.wpIn (Fence.wide.inRound l) (n - 1 - 1) Tryz.prog (rPost E n0 V0 I Ix (pre++[x]) w₂) a₁ w₂) (fun _ _ _=>False))
   { tmps:=(ps.zip (encs x)).foldl (fun t (p,v)=>t.setIfInBounds p v) a.tmps,defers:=[] } W)
 (hdone:∀ (W:World),I xs W→W.heap[w.heap.size]? = some (.deferred (some []))→Q .normal { a with defers:={ target:= .collected w.heap.size,args:=#[] }::a.defers } W)
 (hstop:∀ (c:Code) (pre:List α) (W:World),pre <+: xs→Ix c pre W→W.heap[w.heap.size]? = some (.deferred (some []))→c.wpIn Fence.wide n Tryz.prog Q { a with defers:={ target:= .collected w.heap.size,args:=#[] }::a.defers } W) :
 (Code.rangeFunc g ps assign body).wpIn Fence.wide n Tryz.prog Q a w:=by
 refine wpIn_rangeFunc fun fn hfn=>?_
 let rec0:LoopState→Option Code→Loop:=fun st pe=>{ state:=st,pending:=pe,fn,tmps:=a.tmps,params:=ps,assign,body,defers:=w.heap.size }
 obtain ⟨W1,hW1⟩:∃ W1,(w.alloc (.deferred (some []))).alloc (.loop (rec0 .ready none))=W1:=⟨_,rfl⟩
 have hsz:W1.heap.size=w.heap.size+2:=by rw [← hW1];simp
 have hcW:Chg Nob w W1:=by rw [← hW1];exact ((Chg.refl _ _).alloc _).alloc _
 have hL1:W1.heap[w.heap.size+1]? = some (.loop (rec0 .ready none)):=by
  rw [← hW1]
  have:=World.alloc_heap_new (w.alloc (.deferred (some []))) (.loop (rec0 .ready none))
  rwa [World.size_alloc] at this
 have hD1:W1.heap[w.heap.size]? = some (.deferred (some [])):=by
  rw [← hW1]
  exact ((Chg.refl Nob (w.alloc (.deferred (some [])))).alloc _).at (World.alloc_heap_new w _) (fun e=>e)
 refine ⟨w.heap.size+1,[{ target:= .collected w.heap.size,args:=#[] }],W1,{ target:= .fn (.func gf) lb,args:=#[.func (.yield (w.heap.size+1)) #[] #[]] },W1,gf,
  #[.func (.yield (w.heap.size+1)) #[] #[]]++lb,W1,?_,?_,fun _ _=>trivial,?_,fun _=>h1,?_⟩
 ·rw [← hW1];exact run_enterLoop_outer _ _ _ _ _
 ·simp only [resolve,hg]
  simp [go_sem]
 ·simp [invoke,go_sem,eg]
 ·have hstep:∀ (pre:List α) (A B:World),(I pre A∧A.heap[w.heap.size+1]? = some (.loop (rec0 .ready none))∧A.heap[w.heap.size]? = some (.deferred (some [])))→Steps E n0 W1.heap.size A B →
   (I pre B∧B.heap[w.heap.size+1]? = some (.loop (rec0 .ready none))∧B.heap[w.heap.size]? = some (.deferred (some []))):=fun pre A B h hs =>
   ⟨hI pre A B h.1 (hs.mono (by omega)),Chg.at hs h.2.1 (fun e=>by have:=e.1;omega),Chg.at hs h.2.2 (fun e=>by have:=e.1;omega)⟩
  refine (hit (w.heap.size+1)
   (fun pre W=>I pre W∧W.heap[w.heap.size+1]? = some (.loop (rec0 .ready none))∧W.heap[w.heap.size]? = some (.deferred (some [])))
   (fun pre W=>∃ c,Ix c pre W∧W.heap[w.heap.size+1]? = some (.loop (rec0 .done (some c)))∧W.heap[w.heap.size]? = some (.deferred (some [])))
   W1 hcW (by omega) (by omega) hstep
   (fun pre A B h hs=>by
    obtain ⟨c,h1,h2,h3⟩:=h
    exact ⟨c,hIx c pre A B h1 (hs.mono (by omega)),Chg.at hs h2 (fun e=>by have:=e.1;omega),Chg.at hs h3 (fun e=>by have:=e.1;omega)⟩)
   ?_ ⟨hI [] w W1 h0 (Steps.nob hcW),hL1,hD1⟩).mono ?_
  ·rintro pre x W ⟨hi,hl,hd⟩ hpre
   have hy:=run_yield (P:=Tryz.prog) (args:=encs x) hl (hps x)
   refine ⟨fn,_,assign,body,hy,roundIn_of_wpIn hfn ?_⟩
   have hWs:w.heap.size+1 < W.heap.size:=(Array.getElem?_eq_some_iff.1 hl).1
   refine wpIn_mono (hround _ pre x W hi hpre hWs) ?_
   intro e a₁ w₁ hq
   cases e with
   | normal =>
     obtain ⟨hk1,hbody⟩:=hq
     have hl1:=hk1.same _ _ hl (fun hv=>by have:=hV _ hv;omega) (loop_not_str _)
     have hd1:=hk1.same _ _ hd (fun hv=>by have:=hV _ hv;omega) (deferred_not_str _)
     refine ⟨_,run_beginRound hl1 rfl,?_⟩
     have hlt:w.heap.size+1 < w₁.heap.size:=(Array.getElem?_eq_some_iff.1 hl1).1
     have hc2:Chg (At1 (w.heap.size+1)) w₁ (w₁.putObj (w.heap.size+1) (.loop { rec0 .ready none with state:= .busy })) :=
      ⟨rfl,rfl,rfl,by simp,fun k _ hk=>World.putObj_heap_other hk⟩
     have hl2:(w₁.putObj (w.heap.size+1) (.loop { rec0 .ready none with state:= .busy })).heap[w.heap.size+1]? = some (.loop { rec0 .ready none with state:= .busy }):=World.putObj_heap_same hlt
     have hd2:=hc2.at hd1 (fun e=>by have e:w.heap.size=w.heap.size+1:=e;omega)
     refine wpIn_mono (hbody _ hc2 (Steps.put (Nat.le_refl _) hl1 (loop_not_str _))) ?_
     have fin:∀ (jump:Option Code) (W3:World),Keeps E n0 V0 (w₁.putObj (w.heap.size+1) (.loop { rec0 .ready none with state:= .busy })) W3 →
      (Instr.endRound (w.heap.size+1) jump).run Tryz.prog W3 = .ok (.bool jump.isNone) (W3.putObj (w.heap.size+1) (.loop (rec0 (if jump.isNone then .ready else .done) jump))) ∧
      W3.heap[w.heap.size+1]? = some (.loop { rec0 .ready none with state:= .busy }) ∧
      (W3.putObj (w.heap.size+1) (.loop (rec0 (if jump.isNone then .ready else .done) jump))).heap[w.heap.size+1]? = some (.loop (rec0 (if jump.isNone then .ready else .done) jump)) ∧
      (W3.putObj (w.heap.size+1) (.loop (rec0 (if jump.isNone then .ready else .done) jump))).heap[w.heap.size]? = some (.deferred (some [])) ∧
      Keeps E n0 (fun k=>k=w.heap.size+1∨V0 k) W (W3.putObj (w.heap.size+1) (.loop (rec0 (if jump.isNone then .ready else .done) jump))):=fun jump W3 hk3=>by
      have hl3:=hk3.same _ _ hl2 (fun hv=>by have:=hV _ hv;omega) (loop_not_str _)
      have hd3:=hk3.same _ _ hd2 (fun hv=>by have:=hV _ hv;omega) (deferred_not_str _)
      refine ⟨run_endRound (P:=Tryz.prog) jump hl3,hl3,World.putObj_heap_same (Array.getElem?_eq_some_iff.1 hl3).1,(World.putObj_heap_other (by omega)).trans hd3,?_⟩
      exact (((hk1.mono (fun _ h=> .inr h)).trans (Keeps.put (.inl rfl))).trans (hk3.mono (fun _ h=> .inr h))).trans (Keeps.put (.inl rfl))
     intro e a3 W3 hp
     cases e with
     | normal =>
       obtain ⟨hk3,hi3⟩:=hp
       obtain ⟨hr,hl3,hl4,hd4,hkk⟩:=fin none W3 hk3
       exact ⟨_,_,hr,.inl ⟨rfl,⟨hI _ _ _ hi3 (Steps.put (Nat.le_refl _) hl3 (loop_not_str _)),hl4,hd4⟩,hkk⟩⟩
     | ret =>
       obtain ⟨hk3,hi3⟩:=hp
       obtain ⟨hr,hl3,hl4,hd4,hkk⟩:=fin (some .ret) W3 hk3
       exact ⟨_,_,hr,.inr ⟨rfl,⟨.ret,hIx _ _ _ _ hi3 (Steps.put (Nat.le_refl _) hl3 (loop_not_str _)),hl4,hd4⟩,hkk⟩⟩
     | exit id =>
       obtain ⟨hk3,hi3⟩:=hp
       obtain ⟨hr,hl3,hl4,hd4,hkk⟩:=fin (some (.exit id)) W3 hk3
       exact ⟨_,_,hr,.inr ⟨rfl,⟨.exit id,hIx _ _ _ _ hi3 (Steps.put (Nat.le_refl _) hl3 (loop_not_str _)),hl4,hd4⟩,hkk⟩⟩
     | goto t =>
       obtain ⟨hk3,hi3⟩:=hp
       obtain ⟨hr,hl3,hl4,hd4,hkk⟩:=fin (some (.goto t)) W3 hk3
       exact ⟨_,_,hr,.inr ⟨rfl,⟨.goto t,hIx _ _ _ _ hi3 (Steps.put (Nat.le_refl _) hl3 (loop_not_str _)),hl4,hd4⟩,hkk⟩⟩
     | panic ch=>exact hp.elim
     | outgrown=>exact hp.elim
   | ret=>exact hq
   | exit id=>exact hq
   | goto t=>exact hq
   | panic ch=>exact hq
   | outgrown=>exact hq
  ·rintro e W2 ⟨⟨v,rfl⟩,(⟨hi,hl,hd⟩ | ⟨pre,hpre,c,hi,hl,hd⟩)⟩
   ·exact ⟨none,_,run_endLoop (P:=Tryz.prog) hl (by simp [rec0]),hdone _ (hI _ _ _ hi (Steps.put (Nat.le_refl _) hl (loop_not_str _))) ((World.putObj_heap_other (by omega)).trans hd)⟩
   ·exact ⟨some c,_,run_endLoop (P:=Tryz.prog) hl (by simp [rec0]),hstop c pre _ hpre (hIx c _ _ _ hi (Steps.put (Nat.le_refl _) hl (loop_not_str _))) ((World.putObj_heap_other (by omega)).trans hd)⟩
end Go.Proofs.YtkgfdgfhpdhhaaaGreat
