/- Parts of the walks and of the plain theory: ltl's normer: a formula's normal form (always). Conditions: the tree lies in the world; the normer does. ltl's normer: a formula's normal form (finally). Conditions: the tree lies in the world; the normer does. -/
import Derived.Test.YtkgfdgfhpdhhaaaGreatU06
import Derived.StillTailTactics
import Derived.Deep.RegionHeld3
import Derived.Test.YtkgfdgfhpdhhaaaGreatU07
import Derived.Test.YtkgfdgfhpdhhaaaGreatU05
namespace Go.Proofs.YtkgfdgfhpdhhaaaGreat
open Go.ChangeShapes Go.WideShapes Go.RowKit
set_option maxRecDepth 100000 in
set_option maxHeartbeats 8000000 in
theorem form_6 (t a : T) (hkids : t.kids = [a]) (hfa : FormC a) (hkind : t.kind = 6) (R : Nat → Prop) (w : World) (nb L : Nat) (no : Bool) (v : Value) (ht : IsTree R w t v) (hR : ∀ b, R b → b ≠ nb) (hN : Nb w nb L) :
    Calls Tryz.prog 78 #[.pointer (some ⟨nb, 0, none⟩), v, .bool no] w (NfPost nb L (.node (flipK 13 no) [] [.node (flipK 2 no) [] [], nfT a no]) w) := by
  obtain ⟨ao, cap, rfl, hlen, hk⟩ := ht.parts
  rw [hkids] at hk
  obtain ⟨b1, o1, ak, capk, hao, hRb, p0, p1, p2, _, _, hta⟩ := hk.kid (j := 0) (t := a) rfl
  subst hao
  rw [Nat.zero_mul, Nat.add_zero] at p0 p1 p2
  have hlen2 : t.kids.length = 1 := by rw [hkids]; rfl
  rw [hlen2, hkind] at ht ⊢
  have hW : Hid (∃ W, W = (w.alloc (.cells #[.int .i64 6, .string ⟨t.name.toArray⟩, .slice (some ⟨b1, o1, none⟩) 1 cap] 24)).alloc (.cells #[.int .i64 0, .string ⟨#[]⟩, .slice none 0 0] 24) ∧ Chg Nob w W ∧ W.heap.size = w.heap.size + 2 ∧
      W.heap[w.heap.size]? = some (.cells #[.int .i64 6, .string ⟨t.name.toArray⟩, .slice (some ⟨b1, o1, none⟩) 1 cap] 24 (0, 0)) ∧ W.heap[w.heap.size + 1]? = some (.cells #[.int .i64 0, .string ⟨#[]⟩, .slice none 0 0] 24 (0, 0))) := by
    refine ⟨_, rfl, ((Chg.refl _ _).alloc _).alloc _, by rw [World.size_alloc, World.size_alloc], ((Chg.refl Nob _).alloc _).at (heap_alloc_new w _) (fun e => e), ?_⟩
    have := heap_alloc_new (w.alloc (.cells #[.int .i64 6, .string ⟨t.name.toArray⟩, .slice (some ⟨b1, o1, none⟩) 1 cap] 24)) (.cells #[.int .i64 0, .string ⟨#[]⟩, .slice none 0 0] 24)
    rwa [World.size_alloc] at this
  have Hp := Lib.hid (And.intro p0 (And.intro p1 p2))
  have Hta := Lib.hid hta
  have Hfa := Lib.hid hfa
  have hnb := hN.lt
  have HN := Lib.hid hN
  have Ht := Lib.hid ht
  have Hkids := Lib.hid hkids
  clear ht hk hkids hN hlen2 hkind hlen hfa p0 p1 p2 hta
  obtain ⟨W, hWe, hcW, hsW, hbx, hres⟩ := hW.out
  subst hWe
  clear hW
  have Hbx := Lib.hid hbx
  have Hres := Lib.hid hres
  have HsW := Lib.hid hsW
  have p0 := kid_at1 hcW.any hR hRb Hp.out.1
  have p1 := kid_at1 hcW.any hR hRb Hp.out.2.1
  have p2 := kid_at1 hcW.any hR hRb Hp.out.2.2
  clear hbx hres hsW
  go_enter Tryz.func78, Tryz.ntmps78
  go_wp2_with fail
  generalize (w.alloc (.cells #[.int .i64 6, .string ⟨t.name.toArray⟩, .slice (some ⟨b1, o1, none⟩) 1 cap] 24)).alloc (.cells #[.int .i64 0, .string ⟨#[]⟩, .slice none 0 0] 24) = W at *
  have hcall := Hfa.out R _ nb L no _ (Hta.out.at1 hcW.any hR) hR (HN.out.nob hcW)
  (with_reducible refine hcall.mono ?_)
  clear hcall p0 p1 p2
  rintro e w3 ⟨hc3, ⟨va, hsa, rfl, hFa, hN3⟩ | ⟨hsa, rfl⟩⟩
  · obtain ⟨a5, acap, rfl⟩ := hFa.agg
    obtain ⟨na, hna⟩ : ∃ na : T, na = nfT a no := ⟨_, rfl⟩
    rw [← hna] at hsa hFa hN3 ⊢
    have Hna := Lib.hid hna
    clear hna
    have hA : Chg Nob w3 (w3.alloc (.cells #[.int .i64 na.kind, .string ⟨na.name.toArray⟩, .slice a5 na.kids.length acap] 24)) := (Chg.refl _ _).alloc _
    have hta3 := heap_alloc_new w3 (.cells #[.int .i64 na.kind, .string ⟨na.name.toArray⟩, .slice a5 na.kids.length acap] 24)
    have hs3 : (w3.alloc (.cells #[.int .i64 na.kind, .string ⟨na.name.toArray⟩, .slice a5 na.kids.length acap] 24)).heap.size = w3.heap.size + 1 := World.size_alloc _ _
    have hN3A := hN3.nob hA
    have hc23 := hc3.trans1 hA.any
    have hcw3 : Chg (At1 nb) w _ := hcW.any.trans1 hc23
    have hs23 := hc3.size
    have hsW := HsW.out
    have hbx3 := hc23.at Hbx.out (fun e => by have e : w.heap.size = nb := e; omega)
    obtain ⟨c0, c1, c2, _⟩ := cells_three hbx3
    have hres3 := hc23.at Hres.out (fun e => by have e : w.heap.size + 1 = nb := e; omega)
    have Hres3 := Lib.hid hres3
    have Hta3 := Lib.hid hta3
    have Hs3 := Lib.hid hs3
    clear hbx3 c0 c1 c2 hres3
    obtain ⟨c0, c1, c2, _⟩ := cells_three hta3
    clear hta3 hs3
    go_wp2_with fail
    generalize w3.alloc (.cells #[.int .i64 na.kind, .string ⟨na.name.toArray⟩, .slice a5 na.kids.length acap] 24) = W3 at *
    have Hnp : Hid (∀ X, Chg Nob W3 X → Calls Tryz.prog 130 #[.pointer (some ⟨nb, 0, none⟩), .int .i64 (flipK 2 no), .slice none 0 0] X (NpPost nb (L - sizeT na) (.agg #[.int .i64 (flipK 2 no), .string ⟨#[]⟩, .slice none 0 0]) X)) := Lib.hid (fun X hX => npart_any X nb _ (flipK 2 no) none 0 0 (hN3A.nob hX))
    have hw3n : w3.heap.size ≠ nb := by omega
    have hnr : w.heap.size + 1 ≠ nb := by omega
    have hHeld0 : W3.cell? ⟨w3.heap.size, 0, none⟩ = some (.int .i64 na.kind) ∧ W3.cell? ⟨w3.heap.size, 1, none⟩ = some (.string ⟨na.name.toArray⟩) ∧ W3.cell? ⟨w3.heap.size, 2, none⟩ = some (.slice a5 na.kids.length acap) := ⟨c0, c1, c2⟩
    clear hN3 hN3A
    generalize hM : L - sizeT na = M at *
    have HM := Lib.hid hM
    clear hM
    match M with
    | 0 =>
      have Hno := Lib.hid (show L < sizeT (.node (flipK 13 no) [] [.node (flipK 2 no) [] [], nfT a no]) by rw [← Hna.out]; have := HM.out; simp only [sizeT, sizeL]; omega)
      refine wp_region_held_drew (S := fun w' => w'.cell? ⟨w3.heap.size, 0, none⟩ = some (.int .i64 na.kind) ∧ w'.cell? ⟨w3.heap.size, 1, none⟩ = some (.string ⟨na.name.toArray⟩) ∧ w'.cell? ⟨w3.heap.size, 2, none⟩ = some (.slice a5 na.kids.length acap)) (by kernel_rfl) hHeld0 (fun hHeld => ?_)
      refine wpAnyH_take (i := 0) (v := ?_) rfl (by kernel_rfl) (by kernel_rfl) (by kernel_rfl) (fun _ _ _ h => h) (Or.inl ⟨by rfl, ?_⟩) hHeld ?_
      rotate_left
      · intro w hSw; obtain ⟨c0, c1, c2⟩ := hSw; go_simp; try (with_reducible rfl)
      simp only [Act.put, List.setIfInBounds_toArray]
      refine wpAnyH_take (i := 1) (v := ?_) rfl (by kernel_rfl) (by kernel_rfl) (by kernel_rfl) (fun _ _ _ h => h) (Or.inl ⟨by rfl, ?_⟩) hHeld ?_
      rotate_left
      · intro w hSw; obtain ⟨c0, c1, c2⟩ := hSw; go_simp; try (with_reducible rfl)
      simp only [Act.put]
      refine wpAnyH_take (i := 3) (v := ?_) rfl (by kernel_rfl) (by kernel_rfl) (by kernel_rfl) (fun _ _ _ h => h) (Or.inl ⟨by rfl, ?_⟩) hHeld ?_
      rotate_left
      · intro w hSw; obtain ⟨c0, c1, c2⟩ := hSw; go_simp; try (with_reducible rfl)
      simp only [Act.put]
      refine wpAnyH_take (i := 4) (v := ?_) rfl (by kernel_rfl) (by kernel_rfl) (by kernel_rfl) (fun _ _ _ h => h) (Or.inl ⟨by rfl, ?_⟩) hHeld ?_
      rotate_left
      · intro w hSw; obtain ⟨c0, c1, c2⟩ := hSw; go_simp; try (with_reducible rfl)
      simp only [Act.put]
      refine wpAnyH_take (i := 7) (v := ?_) rfl (by kernel_rfl) (by kernel_rfl) (by kernel_rfl) (fun _ _ _ h => h) (Or.inl ⟨by rfl, ?_⟩) hHeld ?_
      rotate_left
      · intro w hSw; obtain ⟨c0, c1, c2⟩ := hSw; go_simp; try (with_reducible rfl)
      simp only [Act.put]
      refine wpAnyH_ready (rs := [2]) (by kernel_rfl) (by simp) ?_
      refine AllReadyH.cons rfl (fun K hK => ?_) AllReadyH.nil
      go_simp
      refine (flip_any 13 no _).mono ?_
      rintro e w5 ⟨rfl, rfl⟩
      refine hK.out _ _ hHeld (fun _ => ?_)
      refine wpAnyH_ready (rs := [5]) (by kernel_rfl) (by simp) ?_
      refine AllReadyH.cons rfl (fun K hK => ?_) AllReadyH.nil
      go_simp
      refine (flip_any 2 no _).mono ?_
      rintro e w5 ⟨rfl, rfl⟩
      refine hK.out _ _ hHeld (fun _ => ?_)
      refine wpAnyH_ready (rs := [6]) (by kernel_rfl) (by simp) ?_
      refine AllReadyH.cons rfl (fun K hK => ?_) AllReadyH.nil
      go_simp
      refine ((Hnp.out _ (by exact (Chg.refl _ _).drew)).mono (fun _ _ h => NpPost.no h)).mono ?_
      rintro e w4 ⟨hc4, rfl⟩
      go_wp2
      exact ⟨rfl, (hcw3.trans1 (Chg.refl Nob _).drew.any).trans1 hc4, .inr ⟨Hno.out, rfl⟩⟩
    | 1 =>
      have Hno := Lib.hid (show L < sizeT (.node (flipK 13 no) [] [.node (flipK 2 no) [] [], nfT a no]) by rw [← Hna.out]; have := HM.out; simp only [sizeT, sizeL]; omega)
      refine wp_region_held_drew (S := fun w' => w'.cell? ⟨w3.heap.size, 0, none⟩ = some (.int .i64 na.kind) ∧ w'.cell? ⟨w3.heap.size, 1, none⟩ = some (.string ⟨na.name.toArray⟩) ∧ w'.cell? ⟨w3.heap.size, 2, none⟩ = some (.slice a5 na.kids.length acap)) (by kernel_rfl) hHeld0 (fun hHeld => ?_)
      refine wpAnyH_take (i := 0) (v := ?_) rfl (by kernel_rfl) (by kernel_rfl) (by kernel_rfl) (fun _ _ _ h => h) (Or.inl ⟨by rfl, ?_⟩) hHeld ?_
      rotate_left
      · intro w hSw; obtain ⟨c0, c1, c2⟩ := hSw; go_simp; try (with_reducible rfl)
      simp only [Act.put, List.setIfInBounds_toArray]
      refine wpAnyH_take (i := 1) (v := ?_) rfl (by kernel_rfl) (by kernel_rfl) (by kernel_rfl) (fun _ _ _ h => h) (Or.inl ⟨by rfl, ?_⟩) hHeld ?_
      rotate_left
      · intro w hSw; obtain ⟨c0, c1, c2⟩ := hSw; go_simp; try (with_reducible rfl)
      simp only [Act.put]
      refine wpAnyH_take (i := 3) (v := ?_) rfl (by kernel_rfl) (by kernel_rfl) (by kernel_rfl) (fun _ _ _ h => h) (Or.inl ⟨by rfl, ?_⟩) hHeld ?_
      rotate_left
      · intro w hSw; obtain ⟨c0, c1, c2⟩ := hSw; go_simp; try (with_reducible rfl)
      simp only [Act.put]
      refine wpAnyH_take (i := 4) (v := ?_) rfl (by kernel_rfl) (by kernel_rfl) (by kernel_rfl) (fun _ _ _ h => h) (Or.inl ⟨by rfl, ?_⟩) hHeld ?_
      rotate_left
      · intro w hSw; obtain ⟨c0, c1, c2⟩ := hSw; go_simp; try (with_reducible rfl)
      simp only [Act.put]
      refine wpAnyH_take (i := 7) (v := ?_) rfl (by kernel_rfl) (by kernel_rfl) (by kernel_rfl) (fun _ _ _ h => h) (Or.inl ⟨by rfl, ?_⟩) hHeld ?_
      rotate_left
      · intro w hSw; obtain ⟨c0, c1, c2⟩ := hSw; go_simp; try (with_reducible rfl)
      simp only [Act.put]
      refine wpAnyH_ready (rs := [2]) (by kernel_rfl) (by simp) ?_
      refine AllReadyH.cons rfl (fun K hK => ?_) AllReadyH.nil
      go_simp
      refine (flip_any 13 no _).mono ?_
      rintro e w5 ⟨rfl, rfl⟩
      refine hK.out _ _ hHeld (fun _ => ?_)
      refine wpAnyH_ready (rs := [5]) (by kernel_rfl) (by simp) ?_
      refine AllReadyH.cons rfl (fun K hK => ?_) AllReadyH.nil
      go_simp
      refine (flip_any 2 no _).mono ?_
      rintro e w5 ⟨rfl, rfl⟩
      refine hK.out _ _ hHeld (fun _ => ?_)
      refine wpAnyH_ready (rs := [6]) (by kernel_rfl) (by simp) ?_
      refine AllReadyH.cons rfl (fun K hK => ?_) AllReadyH.nil
      go_simp
      refine ((Hnp.out _ (by exact (Chg.refl _ _).drew)).mono (fun _ _ h => NpPost.ok h)).mono ?_
      rintro e w4 ⟨hc4, rfl, hN4⟩
      have s4 := three_at1 ((Chg.refl (At1 nb) _).drew.trans1 hc4) hw3n hHeld0
      refine hK.out _ _ s4 (fun _ => ?_)
      refine wpAnyH_ready (rs := [8]) (by kernel_rfl) (by simp) ?_
      refine AllReadyH.cons rfl (fun K hK => ?_) AllReadyH.nil
      go_simp
      refine hK.out _ _ (three_nob ((Chg.refl _ _).alloc _) s4) (fun _ => ?_)
      refine wpAnyH_ready (rs := [9]) (by kernel_rfl) (by simp) ?_
      refine AllReadyH.cons rfl (fun K hK => ?_) AllReadyH.nil
      go_simp
      refine ((npart_any _ nb _ (flipK 13 no) (some ⟨w4.heap.size, 0, none⟩) 2 2 (hN4.nob ((Chg.refl _ _).alloc _))).mono (fun _ _ h => NpPost.no h)).mono ?_
      rintro e w6 ⟨hc6, rfl⟩
      go_wp2
      exact ⟨rfl, ((hcw3.trans1 (Chg.refl Nob _).drew.any).trans1 hc4).trans1 (((Chg.refl Nob _).alloc _).any.trans1 hc6), .inr ⟨Hno.out, rfl⟩⟩
    | m2 + 2 =>
      go_region_held3 (fun w' => w'.cell? ⟨w3.heap.size, 0, none⟩ = some (.int .i64 na.kind) ∧ w'.cell? ⟨w3.heap.size, 1, none⟩ = some (.string ⟨na.name.toArray⟩) ∧ w'.cell? ⟨w3.heap.size, 2, none⟩ = some (.slice a5 na.kids.length acap)) (first | exact hHeld0 | exact s4 | exact three_nob ((Chg.refl Nob w4).alloc _) s4 | exact s6 | exact three_at1 (chg_three _ _ _ _ _) (by omega) s6)
        (first | (go_at_call 131; (with_reducible refine (flip_any _ no _).mono ?_); rintro e w5 ⟨rfl, rfl⟩)
               | (go_at_call 130; (with_reducible refine ((Hnp.out _ (by exact (Chg.refl _ _).drew)).mono (fun _ _ h => NpPost.ok h)).mono ?_); rintro e w4 ⟨hc4, rfl, hN4⟩; have s4 := three_at1 ((Chg.refl (At1 nb) _).drew.trans1 hc4) hw3n hHeld0)
               | (go_at_call 130; (with_reducible refine ((npart_any _ nb _ (flipK 13 no) (some ⟨w4.heap.size, 0, none⟩) 2 2 (by exact hN4.nob ((Chg.refl _ _).alloc _))).mono (fun _ _ h => NpPost.ok h)).mono ?_); rintro e w6 ⟨hc6, rfl, hN6⟩; have hc46 := ((Chg.refl (At1 nb) w4).alloc (.cells #[.int .i64 (flipK 2 no), .string ⟨#[]⟩, .slice none 0 0, .int .i64 na.kind, .string ⟨na.name.toArray⟩, .slice a5 na.kids.length acap] 24)).trans1 hc6; have s6 := three_at1 hc46 hw3n s4; obtain ⟨r0, r1, r2, f0, f1, f2⟩ := cells_three (hc46.at (hc4.at (w := W3.drew) Hres3.out hnr) hnr)))
      have hsW := HsW.out
      have hs3' := Hs3.out
      have hz4 := hc4.size
      have hz4' : W3.heap.size ≤ w4.heap.size := hz4
      have hres6 := hc46.at (hc4.at (w := W3.drew) Hres3.out hnr) hnr
      have h36 : Chg (At1 nb) w3 w6 := (hA.any.trans1 ((Chg.refl (At1 nb) _).drew.trans1 hc4)).trans1 hc46
      have hcw6 : Chg (At1 nb) w w6 := (hcw3.trans1 ((Chg.refl (At1 nb) _).drew.trans1 hc4)).trans1 hc46
      have hF0 : Fresh (Ge W.heap.size) w4 (.node (flipK 2 no) [] []) (.agg #[.int .i64 (flipK 2 no), .string ⟨#[]⟩, .slice none 0 0]) := nf_leaf
      have hF : Fresh (Ge (w.heap.size + 2)) w6 (.node (flipK 13 no) [] [.node (flipK 2 no) [] [], na]) _ := hsW ▸ nf_two (k := flipK 13 no) (w := W) hF0 hFa (by omega) (by omega) (At1 nb) (fun q e => by have e : q = nb := e; omega) (fun q e => by have e : q = nb := e; omega) hc46 h36
        (hc6.at (heap_alloc_new w4 (.cells #[.int .i64 (flipK 2 no), .string ⟨#[]⟩, .slice none 0 0, .int .i64 na.kind, .string ⟨na.name.toArray⟩, .slice a5 na.kids.length acap] 24)) (fun e => by have e : w4.heap.size = nb := e; omega)) (by omega)
      have Hpost : Hid (NfPost nb L (.node (flipK 13 no) [] [.node (flipK 2 no) [] [], nfT a no]) w (.returned (.agg #[.int .i64 (flipK 13 no), .string ⟨#[]⟩, .slice (some ⟨w4.heap.size, 0, none⟩) 2 2])) (((w6.setCell ⟨w.heap.size + 1, 0, none⟩ (.int .i64 (flipK 13 no))).setCell ⟨w.heap.size + 1, 1, none⟩ (.string ⟨#[]⟩)).setCell ⟨w.heap.size + 1, 2, none⟩ (.slice (some ⟨w4.heap.size, 0, none⟩) 2 2))) := by
        show NfPost _ _ _ _ _ _
        rw [← Hna.out]
        exact nf_end (M := m2) (u := .node (flipK 13 no) [] [.node (flipK 2 no) [] [], na]) hnb hcw6 hres6 hF (by have := HM.out; simp only [sizeT, sizeL]; omega) (by have := HM.out; simp only [sizeT, sizeL]; omega) hN6
      have hb7 := block_three_all hres6 (.int .i64 (flipK 13 no)) (.string ⟨#[]⟩) (.slice (some ⟨w4.heap.size, 0, none⟩) 2 2)
      obtain ⟨e0, e1, e2, _⟩ := cells_three hb7
      have He := Lib.hid (And.intro e0 (And.intro e1 e2))
      clear hb7 hres6 e0 e1 e2 h36 hcw6 hF hFa hF0 hN6 hsW hs3' hz4 hz4' s6 s4
      go_wp2
      obtain ⟨e0, e1, e2⟩ := He.out
      exact bodyPost_ret (v := .agg #[.int .i64 (flipK 13 no), .string ⟨#[]⟩, .slice (some ⟨w4.heap.size, 0, none⟩) 2 2]) (by simp [results, Tryz.results78, go_sem, e0, e1, e2]) rfl Hpost.out
  · go_wp2
    exact ⟨rfl, hcW.any.trans1 hc3, .inr ⟨by simp only [sizeT, sizeL] at hsa ⊢; omega, rfl⟩⟩
end Go.Proofs.YtkgfdgfhpdhhaaaGreat
namespace Go.Proofs.YtkgfdgfhpdhhaaaGreat
open Go.ChangeShapes Go.WideShapes Go.RowKit
set_option maxRecDepth 100000 in
set_option maxHeartbeats 8000000 in
theorem form_7 (t a : T) (hkids : t.kids = [a]) (hfa : FormC a) (hkind : t.kind = 7) (R : Nat → Prop) (w : World) (nb L : Nat) (no : Bool) (v : Value) (ht : IsTree R w t v) (hR : ∀ b, R b → b ≠ nb) (hN : Nb w nb L) :
    Calls Tryz.prog 78 #[.pointer (some ⟨nb, 0, none⟩), v, .bool no] w (NfPost nb L (.node (flipK 12 no) [] [.node (flipK 1 no) [] [], nfT a no]) w) := by
  obtain ⟨ao, cap, rfl, hlen, hk⟩ := ht.parts
  rw [hkids] at hk
  obtain ⟨b1, o1, ak, capk, hao, hRb, p0, p1, p2, _, _, hta⟩ := hk.kid (j := 0) (t := a) rfl
  subst hao
  rw [Nat.zero_mul, Nat.add_zero] at p0 p1 p2
  have hlen2 : t.kids.length = 1 := by rw [hkids]; rfl
  rw [hlen2, hkind] at ht ⊢
  have hW : Hid (∃ W, W = (w.alloc (.cells #[.int .i64 7, .string ⟨t.name.toArray⟩, .slice (some ⟨b1, o1, none⟩) 1 cap] 24)).alloc (.cells #[.int .i64 0, .string ⟨#[]⟩, .slice none 0 0] 24) ∧ Chg Nob w W ∧ W.heap.size = w.heap.size + 2 ∧
      W.heap[w.heap.size]? = some (.cells #[.int .i64 7, .string ⟨t.name.toArray⟩, .slice (some ⟨b1, o1, none⟩) 1 cap] 24 (0, 0)) ∧ W.heap[w.heap.size + 1]? = some (.cells #[.int .i64 0, .string ⟨#[]⟩, .slice none 0 0] 24 (0, 0))) := by
    refine ⟨_, rfl, ((Chg.refl _ _).alloc _).alloc _, by rw [World.size_alloc, World.size_alloc], ((Chg.refl Nob _).alloc _).at (heap_alloc_new w _) (fun e => e), ?_⟩
    have := heap_alloc_new (w.alloc (.cells #[.int .i64 7, .string ⟨t.name.toArray⟩, .slice (some ⟨b1, o1, none⟩) 1 cap] 24)) (.cells #[.int .i64 0, .string ⟨#[]⟩, .slice none 0 0] 24)
    rwa [World.size_alloc] at this
  have Hp := Lib.hid (And.intro p0 (And.intro p1 p2))
  have Hta := Lib.hid hta
  have Hfa := Lib.hid hfa
  have hnb := hN.lt
  have HN := Lib.hid hN
  have Ht := Lib.hid ht
  have Hkids := Lib.hid hkids
  clear ht hk hkids hN hlen2 hkind hlen hfa p0 p1 p2 hta
  obtain ⟨W, hWe, hcW, hsW, hbx, hres⟩ := hW.out
  subst hWe
  clear hW
  have Hbx := Lib.hid hbx
  have Hres := Lib.hid hres
  have HsW := Lib.hid hsW
  have p0 := kid_at1 hcW.any hR hRb Hp.out.1
  have p1 := kid_at1 hcW.any hR hRb Hp.out.2.1
  have p2 := kid_at1 hcW.any hR hRb Hp.out.2.2
  clear hbx hres hsW
  go_enter Tryz.func78, Tryz.ntmps78
  go_wp2_with fail
  generalize (w.alloc (.cells #[.int .i64 7, .string ⟨t.name.toArray⟩, .slice (some ⟨b1, o1, none⟩) 1 cap] 24)).alloc (.cells #[.int .i64 0, .string ⟨#[]⟩, .slice none 0 0] 24) = W at *
  have hcall := Hfa.out R _ nb L no _ (Hta.out.at1 hcW.any hR) hR (HN.out.nob hcW)
  (with_reducible refine hcall.mono ?_)
  clear hcall p0 p1 p2
  rintro e w3 ⟨hc3, ⟨va, hsa, rfl, hFa, hN3⟩ | ⟨hsa, rfl⟩⟩
  · obtain ⟨a5, acap, rfl⟩ := hFa.agg
    obtain ⟨na, hna⟩ : ∃ na : T, na = nfT a no := ⟨_, rfl⟩
    rw [← hna] at hsa hFa hN3 ⊢
    have Hna := Lib.hid hna
    clear hna
    have hA : Chg Nob w3 (w3.alloc (.cells #[.int .i64 na.kind, .string ⟨na.name.toArray⟩, .slice a5 na.kids.length acap] 24)) := (Chg.refl _ _).alloc _
    have hta3 := heap_alloc_new w3 (.cells #[.int .i64 na.kind, .string ⟨na.name.toArray⟩, .slice a5 na.kids.length acap] 24)
    have hs3 : (w3.alloc (.cells #[.int .i64 na.kind, .string ⟨na.name.toArray⟩, .slice a5 na.kids.length acap] 24)).heap.size = w3.heap.size + 1 := World.size_alloc _ _
    have hN3A := hN3.nob hA
    have hc23 := hc3.trans1 hA.any
    have hcw3 : Chg (At1 nb) w _ := hcW.any.trans1 hc23
    have hs23 := hc3.size
    have hsW := HsW.out
    have hbx3 := hc23.at Hbx.out (fun e => by have e : w.heap.size = nb := e; omega)
    obtain ⟨c0, c1, c2, _⟩ := cells_three hbx3
    have hres3 := hc23.at Hres.out (fun e => by have e : w.heap.size + 1 = nb := e; omega)
    have Hres3 := Lib.hid hres3
    have Hta3 := Lib.hid hta3
    have Hs3 := Lib.hid hs3
    clear hbx3 c0 c1 c2 hres3
    obtain ⟨c0, c1, c2, _⟩ := cells_three hta3
    clear hta3 hs3
    go_wp2_with fail
    generalize w3.alloc (.cells #[.int .i64 na.kind, .string ⟨na.name.toArray⟩, .slice a5 na.kids.length acap] 24) = W3 at *
    have Hnp : Hid (∀ X, Chg Nob W3 X → Calls Tryz.prog 130 #[.pointer (some ⟨nb, 0, none⟩), .int .i64 (flipK 1 no), .slice none 0 0] X (NpPost nb (L - sizeT na) (.agg #[.int .i64 (flipK 1 no), .string ⟨#[]⟩, .slice none 0 0]) X)) := Lib.hid (fun X hX => npart_any X nb _ (flipK 1 no) none 0 0 (hN3A.nob hX))
    have hw3n : w3.heap.size ≠ nb := by omega
    have hnr : w.heap.size + 1 ≠ nb := by omega
    have hHeld0 : W3.cell? ⟨w3.heap.size, 0, none⟩ = some (.int .i64 na.kind) ∧ W3.cell? ⟨w3.heap.size, 1, none⟩ = some (.string ⟨na.name.toArray⟩) ∧ W3.cell? ⟨w3.heap.size, 2, none⟩ = some (.slice a5 na.kids.length acap) := ⟨c0, c1, c2⟩
    clear hN3 hN3A
    generalize hM : L - sizeT na = M at *
    have HM := Lib.hid hM
    clear hM
    match M with
    | 0 =>
      have Hno := Lib.hid (show L < sizeT (.node (flipK 12 no) [] [.node (flipK 1 no) [] [], nfT a no]) by rw [← Hna.out]; have := HM.out; simp only [sizeT, sizeL]; omega)
      refine wp_region_held_drew (S := fun w' => w'.cell? ⟨w3.heap.size, 0, none⟩ = some (.int .i64 na.kind) ∧ w'.cell? ⟨w3.heap.size, 1, none⟩ = some (.string ⟨na.name.toArray⟩) ∧ w'.cell? ⟨w3.heap.size, 2, none⟩ = some (.slice a5 na.kids.length acap)) (by kernel_rfl) hHeld0 (fun hHeld => ?_)
      refine wpAnyH_take (i := 0) (v := ?_) rfl (by kernel_rfl) (by kernel_rfl) (by kernel_rfl) (fun _ _ _ h => h) (Or.inl ⟨by rfl, ?_⟩) hHeld ?_
      rotate_left
      · intro w hSw; obtain ⟨c0, c1, c2⟩ := hSw; go_simp; try (with_reducible rfl)
      simp only [Act.put, List.setIfInBounds_toArray]
      refine wpAnyH_take (i := 1) (v := ?_) rfl (by kernel_rfl) (by kernel_rfl) (by kernel_rfl) (fun _ _ _ h => h) (Or.inl ⟨by rfl, ?_⟩) hHeld ?_
      rotate_left
      · intro w hSw; obtain ⟨c0, c1, c2⟩ := hSw; go_simp; try (with_reducible rfl)
      simp only [Act.put]
      refine wpAnyH_take (i := 3) (v := ?_) rfl (by kernel_rfl) (by kernel_rfl) (by kernel_rfl) (fun _ _ _ h => h) (Or.inl ⟨by rfl, ?_⟩) hHeld ?_
      rotate_left
      · intro w hSw; obtain ⟨c0, c1, c2⟩ := hSw; go_simp; try (with_reducible rfl)
      simp only [Act.put]
      refine wpAnyH_take (i := 4) (v := ?_) rfl (by kernel_rfl) (by kernel_rfl) (by kernel_rfl) (fun _ _ _ h => h) (Or.inl ⟨by rfl, ?_⟩) hHeld ?_
      rotate_left
      · intro w hSw; obtain ⟨c0, c1, c2⟩ := hSw; go_simp; try (with_reducible rfl)
      simp only [Act.put]
      refine wpAnyH_take (i := 7) (v := ?_) rfl (by kernel_rfl) (by kernel_rfl) (by kernel_rfl) (fun _ _ _ h => h) (Or.inl ⟨by rfl, ?_⟩) hHeld ?_
      rotate_left
      · intro w hSw; obtain ⟨c0, c1, c2⟩ := hSw; go_simp; try (with_reducible rfl)
      simp only [Act.put]
      refine wpAnyH_ready (rs := [2]) (by kernel_rfl) (by simp) ?_
      refine AllReadyH.cons rfl (fun K hK => ?_) AllReadyH.nil
      go_simp
      refine (flip_any 12 no _).mono ?_
      rintro e w5 ⟨rfl, rfl⟩
      refine hK.out _ _ hHeld (fun _ => ?_)
      refine wpAnyH_ready (rs := [5]) (by kernel_rfl) (by simp) ?_
      refine AllReadyH.cons rfl (fun K hK => ?_) AllReadyH.nil
      go_simp
      refine (flip_any 1 no _).mono ?_
      rintro e w5 ⟨rfl, rfl⟩
      refine hK.out _ _ hHeld (fun _ => ?_)
      refine wpAnyH_ready (rs := [6]) (by kernel_rfl) (by simp) ?_
      refine AllReadyH.cons rfl (fun K hK => ?_) AllReadyH.nil
      go_simp
      refine ((Hnp.out _ (by exact (Chg.refl _ _).drew)).mono (fun _ _ h => NpPost.no h)).mono ?_
      rintro e w4 ⟨hc4, rfl⟩
      go_wp2
      exact ⟨rfl, (hcw3.trans1 (Chg.refl Nob _).drew.any).trans1 hc4, .inr ⟨Hno.out, rfl⟩⟩
    | 1 =>
      have Hno := Lib.hid (show L < sizeT (.node (flipK 12 no) [] [.node (flipK 1 no) [] [], nfT a no]) by rw [← Hna.out]; have := HM.out; simp only [sizeT, sizeL]; omega)
      refine wp_region_held_drew (S := fun w' => w'.cell? ⟨w3.heap.size, 0, none⟩ = some (.int .i64 na.kind) ∧ w'.cell? ⟨w3.heap.size, 1, none⟩ = some (.string ⟨na.name.toArray⟩) ∧ w'.cell? ⟨w3.heap.size, 2, none⟩ = some (.slice a5 na.kids.length acap)) (by kernel_rfl) hHeld0 (fun hHeld => ?_)
      refine wpAnyH_take (i := 0) (v := ?_) rfl (by kernel_rfl) (by kernel_rfl) (by kernel_rfl) (fun _ _ _ h => h) (Or.inl ⟨by rfl, ?_⟩) hHeld ?_
      rotate_left
      · intro w hSw; obtain ⟨c0, c1, c2⟩ := hSw; go_simp; try (with_reducible rfl)
      simp only [Act.put, List.setIfInBounds_toArray]
      refine wpAnyH_take (i := 1) (v := ?_) rfl (by kernel_rfl) (by kernel_rfl) (by kernel_rfl) (fun _ _ _ h => h) (Or.inl ⟨by rfl, ?_⟩) hHeld ?_
      rotate_left
      · intro w hSw; obtain ⟨c0, c1, c2⟩ := hSw; go_simp; try (with_reducible rfl)
      simp only [Act.put]
      refine wpAnyH_take (i := 3) (v := ?_) rfl (by kernel_rfl) (by kernel_rfl) (by kernel_rfl) (fun _ _ _ h => h) (Or.inl ⟨by rfl, ?_⟩) hHeld ?_
      rotate_left
      · intro w hSw; obtain ⟨c0, c1, c2⟩ := hSw; go_simp; try (with_reducible rfl)
      simp only [Act.put]
      refine wpAnyH_take (i := 4) (v := ?_) rfl (by kernel_rfl) (by kernel_rfl) (by kernel_rfl) (fun _ _ _ h => h) (Or.inl ⟨by rfl, ?_⟩) hHeld ?_
      rotate_left
      · intro w hSw; obtain ⟨c0, c1, c2⟩ := hSw; go_simp; try (with_reducible rfl)
      simp only [Act.put]
      refine wpAnyH_take (i := 7) (v := ?_) rfl (by kernel_rfl) (by kernel_rfl) (by kernel_rfl) (fun _ _ _ h => h) (Or.inl ⟨by rfl, ?_⟩) hHeld ?_
      rotate_left
      · intro w hSw; obtain ⟨c0, c1, c2⟩ := hSw; go_simp; try (with_reducible rfl)
      simp only [Act.put]
      refine wpAnyH_ready (rs := [2]) (by kernel_rfl) (by simp) ?_
      refine AllReadyH.cons rfl (fun K hK => ?_) AllReadyH.nil
      go_simp
      refine (flip_any 12 no _).mono ?_
      rintro e w5 ⟨rfl, rfl⟩
      refine hK.out _ _ hHeld (fun _ => ?_)
      refine wpAnyH_ready (rs := [5]) (by kernel_rfl) (by simp) ?_
      refine AllReadyH.cons rfl (fun K hK => ?_) AllReadyH.nil
      go_simp
      refine (flip_any 1 no _).mono ?_
      rintro e w5 ⟨rfl, rfl⟩
      refine hK.out _ _ hHeld (fun _ => ?_)
      refine wpAnyH_ready (rs := [6]) (by kernel_rfl) (by simp) ?_
      refine AllReadyH.cons rfl (fun K hK => ?_) AllReadyH.nil
      go_simp
      refine ((Hnp.out _ (by exact (Chg.refl _ _).drew)).mono (fun _ _ h => NpPost.ok h)).mono ?_
      rintro e w4 ⟨hc4, rfl, hN4⟩
      have s4 := three_at1 ((Chg.refl (At1 nb) _).drew.trans1 hc4) hw3n hHeld0
      refine hK.out _ _ s4 (fun _ => ?_)
      refine wpAnyH_ready (rs := [8]) (by kernel_rfl) (by simp) ?_
      refine AllReadyH.cons rfl (fun K hK => ?_) AllReadyH.nil
      go_simp
      refine hK.out _ _ (three_nob ((Chg.refl _ _).alloc _) s4) (fun _ => ?_)
      refine wpAnyH_ready (rs := [9]) (by kernel_rfl) (by simp) ?_
      refine AllReadyH.cons rfl (fun K hK => ?_) AllReadyH.nil
      go_simp
      refine ((npart_any _ nb _ (flipK 12 no) (some ⟨w4.heap.size, 0, none⟩) 2 2 (hN4.nob ((Chg.refl _ _).alloc _))).mono (fun _ _ h => NpPost.no h)).mono ?_
      rintro e w6 ⟨hc6, rfl⟩
      go_wp2
      exact ⟨rfl, ((hcw3.trans1 (Chg.refl Nob _).drew.any).trans1 hc4).trans1 (((Chg.refl Nob _).alloc _).any.trans1 hc6), .inr ⟨Hno.out, rfl⟩⟩
    | m2 + 2 =>
      go_region_held3 (fun w' => w'.cell? ⟨w3.heap.size, 0, none⟩ = some (.int .i64 na.kind) ∧ w'.cell? ⟨w3.heap.size, 1, none⟩ = some (.string ⟨na.name.toArray⟩) ∧ w'.cell? ⟨w3.heap.size, 2, none⟩ = some (.slice a5 na.kids.length acap)) (first | exact hHeld0 | exact s4 | exact three_nob ((Chg.refl Nob w4).alloc _) s4 | exact s6 | exact three_at1 (chg_three _ _ _ _ _) (by omega) s6)
        (first | (go_at_call 131; (with_reducible refine (flip_any _ no _).mono ?_); rintro e w5 ⟨rfl, rfl⟩)
               | (go_at_call 130; (with_reducible refine ((Hnp.out _ (by exact (Chg.refl _ _).drew)).mono (fun _ _ h => NpPost.ok h)).mono ?_); rintro e w4 ⟨hc4, rfl, hN4⟩; have s4 := three_at1 ((Chg.refl (At1 nb) _).drew.trans1 hc4) hw3n hHeld0)
               | (go_at_call 130; (with_reducible refine ((npart_any _ nb _ (flipK 12 no) (some ⟨w4.heap.size, 0, none⟩) 2 2 (by exact hN4.nob ((Chg.refl _ _).alloc _))).mono (fun _ _ h => NpPost.ok h)).mono ?_); rintro e w6 ⟨hc6, rfl, hN6⟩; have hc46 := ((Chg.refl (At1 nb) w4).alloc (.cells #[.int .i64 (flipK 1 no), .string ⟨#[]⟩, .slice none 0 0, .int .i64 na.kind, .string ⟨na.name.toArray⟩, .slice a5 na.kids.length acap] 24)).trans1 hc6; have s6 := three_at1 hc46 hw3n s4; obtain ⟨r0, r1, r2, f0, f1, f2⟩ := cells_three (hc46.at (hc4.at (w := W3.drew) Hres3.out hnr) hnr)))
      have hsW := HsW.out
      have hs3' := Hs3.out
      have hz4 := hc4.size
      have hz4' : W3.heap.size ≤ w4.heap.size := hz4
      have hres6 := hc46.at (hc4.at (w := W3.drew) Hres3.out hnr) hnr
      have h36 : Chg (At1 nb) w3 w6 := (hA.any.trans1 ((Chg.refl (At1 nb) _).drew.trans1 hc4)).trans1 hc46
      have hcw6 : Chg (At1 nb) w w6 := (hcw3.trans1 ((Chg.refl (At1 nb) _).drew.trans1 hc4)).trans1 hc46
      have hF0 : Fresh (Ge W.heap.size) w4 (.node (flipK 1 no) [] []) (.agg #[.int .i64 (flipK 1 no), .string ⟨#[]⟩, .slice none 0 0]) := nf_leaf
      have hF : Fresh (Ge (w.heap.size + 2)) w6 (.node (flipK 12 no) [] [.node (flipK 1 no) [] [], na]) _ := hsW ▸ nf_two (k := flipK 12 no) (w := W) hF0 hFa (by omega) (by omega) (At1 nb) (fun q e => by have e : q = nb := e; omega) (fun q e => by have e : q = nb := e; omega) hc46 h36
        (hc6.at (heap_alloc_new w4 (.cells #[.int .i64 (flipK 1 no), .string ⟨#[]⟩, .slice none 0 0, .int .i64 na.kind, .string ⟨na.name.toArray⟩, .slice a5 na.kids.length acap] 24)) (fun e => by have e : w4.heap.size = nb := e; omega)) (by omega)
      have Hpost : Hid (NfPost nb L (.node (flipK 12 no) [] [.node (flipK 1 no) [] [], nfT a no]) w (.returned (.agg #[.int .i64 (flipK 12 no), .string ⟨#[]⟩, .slice (some ⟨w4.heap.size, 0, none⟩) 2 2])) (((w6.setCell ⟨w.heap.size + 1, 0, none⟩ (.int .i64 (flipK 12 no))).setCell ⟨w.heap.size + 1, 1, none⟩ (.string ⟨#[]⟩)).setCell ⟨w.heap.size + 1, 2, none⟩ (.slice (some ⟨w4.heap.size, 0, none⟩) 2 2))) := by
        show NfPost _ _ _ _ _ _
        rw [← Hna.out]
        exact nf_end (M := m2) (u := .node (flipK 12 no) [] [.node (flipK 1 no) [] [], na]) hnb hcw6 hres6 hF (by have := HM.out; simp only [sizeT, sizeL]; omega) (by have := HM.out; simp only [sizeT, sizeL]; omega) hN6
      have hb7 := block_three_all hres6 (.int .i64 (flipK 12 no)) (.string ⟨#[]⟩) (.slice (some ⟨w4.heap.size, 0, none⟩) 2 2)
      obtain ⟨e0, e1, e2, _⟩ := cells_three hb7
      have He := Lib.hid (And.intro e0 (And.intro e1 e2))
      clear hb7 hres6 e0 e1 e2 h36 hcw6 hF hFa hF0 hN6 hsW hs3' hz4 hz4' s6 s4
      go_wp2
      obtain ⟨e0, e1, e2⟩ := He.out
      exact bodyPost_ret (v := .agg #[.int .i64 (flipK 12 no), .string ⟨#[]⟩, .slice (some ⟨w4.heap.size, 0, none⟩) 2 2]) (by simp [results, Tryz.results78, go_sem, e0, e1, e2]) rfl Hpost.out
  · go_wp2
    exact ⟨rfl, hcW.any.trans1 hc3, .inr ⟨by simp only [sizeT, sizeL] at hsa ⊢; omega, rfl⟩⟩
end Go.Proofs.YtkgfdgfhpdhhaaaGreat
namespace Go.Proofs.YtkgfdgfhpdhhaaaGreat
open Go.ChangeShapes Go.WideShapes Go.RowKit
theorem nfL_one (k : Int) (a : T) (no : Bool) : nfL k [a] no = if k = 4 then nfT a (!no) else if k = 5 then .node 5 [] [nfT a no] else if k = 6 then .node (flipK 13 no) [] [.node (flipK 2 no) [] [], nfT a no]
    else .node (flipK 12 no) [] [.node (flipK 1 no) [] [], nfT a no] := by rw [nfL]
theorem nfL_two (k : Int) (a b : T) (no : Bool) : nfL k [a, b] no = if k = 10 then .node (flipK 9 no) [] [nfT a (!no), nfT b no]
    else if k = 11 then .node 9 [] [.node 8 [] [nfT a false, nfT b no], .node 8 [] [nfT a true, nfT b (!no)]]
    else if k = 14 then .node (flipK 13 no) [] [nfT b no, .node (flipK 9 no) [] [nfT a no, nfT b no]]
    else .node (flipK k no) [] [nfT a no, nfT b no] := by rw [nfL]
theorem form_any : ∀ t : T, mayT t = true → FormC t := by
  refine kid_induct ?_
  intro t ih h R w nb L no v ht hR hN
  rw [nfT_eq]
  rcases may_shape h with ⟨hk, hn, hl⟩ | ⟨hk, hn, hl⟩ | ⟨hk, hn, a, hl, ha⟩ | ⟨hk, hn, a, b, hl, ha, hb⟩
  · rw [if_pos hk]
    rcases hk with hk | hk
    · rw [hk]
      exact form_1 t hl hk R w nb L no v ht hR hN
    · rw [hk]
      exact form_2 t hl hk R w nb L no v ht hR hN
  · rw [if_neg (by omega), if_pos hk]
    cases no
    · exact form_3y t hl hk R w nb L v ht hR hN
    · exact form_3n t hl hk R w nb L v ht hR hN
  · rw [if_neg (by omega), if_neg (by omega), hl, nfL_one]
    have fa := ih a (by rw [hl]; simp) ha
    have hk' : t.kind = 4 ∨ t.kind = 5 ∨ t.kind = 6 ∨ t.kind = 7 := by omega
    rcases hk' with e | e | e | e
    · rw [e]
      exact form_4 t a hl fa e R w nb L no v ht hR hN
    · rw [e]
      exact form_5 t a hl fa e R w nb L no v ht hR hN
    · rw [e]
      exact form_6 t a hl fa e R w nb L no v ht hR hN
    · rw [e]
      exact form_7 t a hl fa e R w nb L no v ht hR hN
  · rw [if_neg (by omega), if_neg (by omega), hl, nfL_two]
    have fa := ih a (by rw [hl]; simp) ha
    have fb := ih b (by rw [hl]; simp) hb
    have hk' : t.kind = 8 ∨ t.kind = 9 ∨ t.kind = 10 ∨ t.kind = 11 ∨ t.kind = 12 ∨ t.kind = 13 ∨ t.kind = 14 := by omega
    rcases hk' with e | e | e | e | e | e | e
    · rw [e]
      exact form_8 t a b hl fa fb e R w nb L no v ht hR hN
    · rw [e]
      exact form_9 t a b hl fa fb e R w nb L no v ht hR hN
    · rw [e]
      exact form_10 t a b hl fa fb e R w nb L no v ht hR hN
    · rw [e]
      exact form_11 t a b hl fa fb e R w nb L no v ht hR hN
    · rw [e]
      exact form_12 t a b hl fa fb e R w nb L no v ht hR hN
    · rw [e]
      exact form_13 t a b hl fa fb e R w nb L no v ht hR hN
    · rw [e]
      exact form_14 t a b hl fa fb e R w nb L no v ht hR hN
end Go.Proofs.YtkgfdgfhpdhhaaaGreat
namespace Go.Proofs.YtkgfdgfhpdhhaaaGreat
open Go.ChangeShapes Go.WideShapes Go.ChangeAt Go.RowKit
def normN (t : T) : Int := if checkN t = 0 then (if sizeT (nfT t false) ≤ 20000 then 0 else 2) else checkN t
def normT (t : T) : T := if normN t = 0 then nfT t false else .node 0 [] []
def NormPost (t : T) (w : World) (e : Ending) (w' : World) : Prop := Chg Nob w w' ∧ ∃ v, Fresh (Ge w.heap.size) w' (normT t) v ∧ e = .returned (.tuple #[v, .int .i64 (normN t)])
set_option maxRecDepth 100000 in
set_option maxHeartbeats 1000000 in
theorem ncatch_idle (p q : Addr) (w : World) :
    CallsD Tryz.prog 77 #[.pointer (some p), .pointer (some q)] .returning w fun e u' w' => e = .returned (.tuple #[]) ∧ u' = .returning ∧ w' = w := by
  have h20 : Tryz.prog.underlying 20 = some (.interface (Tryz.prog.methodsAt 20)) := by kernel_rfl
  have hne : ∀ w : World, (Go.binOp .neq 20 .nilIface .nilIface).run Tryz.prog w = .ok (.bool false) w := fun w => Go.run_neq_nil_nil w 20 h20
  refine callsD_of_wpS Tryz.func77 rfl fun c₀ cs hu => ?_
  apply wpS_seq
  apply wpS_region
  simp [wpOpsS, go_sem, recoverD, hu, Tryz.ntmps77, Exit.thenS]
  simp only [Array.replicate_succ, Array.replicate_zero, List.push_toArray, List.append_toArray, List.nil_append, List.cons_append, List.setIfInBounds_toArray, List.set_cons_succ, List.set_cons_zero]
  refine wpS_of_wp ?_
  go_wp2
  cases c₀
  simp_all [bodyPostS, results, Tryz.results77]
set_option maxRecDepth 100000 in
set_option maxHeartbeats 1000000 in
theorem ncatch_much (p q : Nat) (a0 a1 a2 m0 : Value) (w : World) (hp : w.heap[p]? = some (.cells #[a0, a1, a2] 24)) (hq : w.heap[q]? = some (.cells #[m0] 32)) (hpq : p ≠ q) :
    CallsD Tryz.prog 77 #[.pointer (some ⟨p, 0, none⟩), .pointer (some ⟨q, 0, none⟩)] (.panicking much) w fun e u' w' =>
      e = .returned (.tuple #[]) ∧ u' = .panicking [{ v := .iface 132 (.agg #[]), recovered := true }] ∧
        Chg (fun k => k = p ∨ k = q) w w' ∧ w'.heap[p]? = some (.cells #[.int .i64 0, .string ⟨#[]⟩, .slice none 0 0] 24) ∧ w'.heap[q]? = some (.cells #[.int .i64 2] 32) := by
  have hta : ∀ w : World, (Instr.typeAssert (.iface 132 (.agg #[])) 20 132 true).run Tryz.prog w = .ok (.tuple #[.agg #[], .bool true]) w := fun _ => by kernel_rfl
  have h20 : Tryz.prog.underlying 20 = some (.interface (Tryz.prog.methodsAt 20)) := by kernel_rfl
  have hne : ∀ w : World, (Go.binOp .neq 20 (.iface 132 (.agg #[])) .nilIface).run Tryz.prog w = .ok (.bool true) w := fun w => Go.run_neq_held_nil w 20 132 _ h20
  have hp1 := ((Chg.refl Nob w).alloc (.cells #[] 132)).at hp (fun e => e)
  have hq1 := ((Chg.refl Nob w).alloc (.cells #[] 132)).at hq (fun e => e)
  have hc1 : Chg Nob w (w.alloc (.cells #[] 132)) := (Chg.refl _ _).alloc _
  obtain ⟨c0, c1, c2, f0, f1, f2⟩ := cells_three hp1
  have d0 := cell_row hq1 0 (v := m0) rfl
  have g0 : (w.alloc (.cells #[] 132)).frozen? ⟨q, 0, none⟩ = false := by simp [World.frozen?, hq1]
  have hn3 : q ≠ p := fun e => hpq e.symm
  have Hp1 := Lib.hid hp1
  have Hq1 := Lib.hid hq1
  clear hp hq hp1 hq1
  refine callsD_of_wpS Tryz.func77 rfl fun c₀ cs hu => ?_
  apply wpS_seq
  apply wpS_region
  unfold much at hu
  simp [wpOpsS, go_sem, recoverD, hu, Tryz.ntmps77, Exit.thenS]
  simp only [Array.replicate_succ, Array.replicate_zero, List.push_toArray, List.append_toArray, List.nil_append, List.cons_append, List.setIfInBounds_toArray, List.set_cons_succ, List.set_cons_zero]
  refine wpS_of_wp ?_
  go_wp2
  generalize w.alloc (.cells #[] 132) = W1 at *
  cases c₀
  have hcF : Chg (fun k => k = p ∨ k = q) w ((((W1.setCell ⟨p, 0, none⟩ (.int .i64 0)).setCell ⟨p, 1, none⟩ (.string ⟨#[]⟩)).setCell ⟨p, 2, none⟩ (.slice none 0 0)).setCell ⟨q, 0, none⟩ (.int .i64 2)) :=
    ((((hc1.any (S := fun k => k = p ∨ k = q)).setCell (p := ⟨p, 0, none⟩) (fun _ => .inl rfl) _).setCell (p := ⟨p, 1, none⟩) (fun _ => .inl rfl) _).setCell (p := ⟨p, 2, none⟩) (fun _ => .inl rfl) _).setCell (p := ⟨q, 0, none⟩) (fun _ => .inr rfl) _
  have h3 := block_three_all Hp1.out (.int .i64 0) (.string ⟨#[]⟩) (.slice none 0 0)
  have k3 := (chg_three W1 p (.int .i64 0) (.string ⟨#[]⟩) (.slice none 0 0)).at Hq1.out hn3
  have h5 := ((Chg.refl (At1 q) (((W1.setCell ⟨p, 0, none⟩ (.int .i64 0)).setCell ⟨p, 1, none⟩ (.string ⟨#[]⟩)).setCell ⟨p, 2, none⟩ (.slice none 0 0))).setCell (p := ⟨q, 0, none⟩) (fun _ => rfl) (.int .i64 2)).at h3 hpq
  have k5 := block_one_set (u := .int .i64 2) k3
  exact ⟨rfl, _, rfl, .tuple #[], by simp [results, Tryz.results77], rfl, rfl, hcF, h5, k5⟩
set_option maxRecDepth 100000 in
theorem results34 {B : Nat} {tm : Array Value} {w : World} {a0 a1 a2 m0 : Value} (h2 : tm[2]? = some (.pointer (some ⟨B, 0, none⟩))) (h3 : tm[3]? = some (.pointer (some ⟨B + 1, 0, none⟩))) (hb : w.heap[B]? = some (.cells #[a0, a1, a2] 24)) (hb1 : w.heap[B + 1]? = some (.cells #[m0] 32)) :
    (results Tryz.f44 tm).run Tryz.prog w = .ok (.tuple #[.agg #[a0, a1, a2], m0]) w := by
  obtain ⟨c0, c1, c2, _⟩ := cells_three hb
  have d0 := cell_row hb1 0 (v := m0) rfl
  simp [results, Tryz.results44, go_sem, h2, h3, c0, c1, c2, d0]
theorem fresh_zero {R : Nat → Prop} {w : World} : Fresh R w (.node 0 [] []) (.agg #[.int .i64 0, .string ⟨#[]⟩, .slice none 0 0]) := by
  rw [Fresh]
  exact .inl ⟨rfl, rfl⟩
theorem thrown34 {t : T} {w wr : World} {B : Nat} {tm : Array Value} (hN : normN t = 2) (hB : B = w.heap.size + 1) (hc : Chg Nob w wr) (hb : ∃ a0 a1 a2, wr.heap[B]? = some (.cells #[a0, a1, a2] 24)) (hb1 : ∃ m0, wr.heap[B + 1]? = some (.cells #[m0] 32))
    (h2 : tm[2]? = some (.pointer (some ⟨B, 0, none⟩))) (h3 : tm[3]? = some (.pointer (some ⟨B + 1, 0, none⟩))) :
    bodyPostD Tryz.prog Tryz.f44 (NormPost t w) (Exit.panic much) { tmps := tm, defers := [{ target := .fn (.func 77) #[.pointer (some ⟨B, 0, none⟩), .pointer (some ⟨B + 1, 0, none⟩)], args := #[] }] } wr := by
  obtain ⟨a0, a1, a2, hb⟩ := hb
  obtain ⟨m0, hb1⟩ := hb1
  refine leaves_cons (f := 77) (args := #[.pointer (some ⟨B, 0, none⟩), .pointer (some ⟨B + 1, 0, none⟩)]) (by simp) (by simp [go_sem]) ?_
  refine (ncatch_much B (B + 1) a0 a1 a2 m0 _ hb hb1 (by omega)).mono ?_
  rintro e u' w'' ⟨rfl, rfl, hc2, hb2, hb3⟩
  refine ⟨_, results34 h2 h3 hb2 hb3, hc.trans hc2 (fun i hi e => by rcases e with e | e <;> omega), _, ?_, by rw [hN]⟩
  rw [normT, if_neg (by rw [hN]; omega)]
  exact fresh_zero
theorem done34 {t na : T} (hna : na = nfT t false) {w wr : World} {B : Nat} {tm : Array Value} {a0 a1 a2 : Value} (hN : normN t = 0) (_hB : B = w.heap.size + 1) (hF : Fresh (Ge w.heap.size) wr na (.agg #[a0, a1, a2])) (hc : Chg Nob w wr)
    (hb : wr.heap[B]? = some (.cells #[a0, a1, a2] 24)) (hb1 : wr.heap[B + 1]? = some (.cells #[.int .i64 0] 32))
    (h2 : tm[2]? = some (.pointer (some ⟨B, 0, none⟩))) (h3 : tm[3]? = some (.pointer (some ⟨B + 1, 0, none⟩))) :
    bodyPostD Tryz.prog Tryz.f44 (NormPost t w) Exit.ret { tmps := tm, defers := [{ target := .fn (.func 77) #[.pointer (some ⟨B, 0, none⟩), .pointer (some ⟨B + 1, 0, none⟩)], args := #[] }] } wr := by
  refine leaves_cons (f := 77) (args := #[.pointer (some ⟨B, 0, none⟩), .pointer (some ⟨B + 1, 0, none⟩)]) (by simp) (by simp [go_sem]) ?_
  refine (ncatch_idle ⟨B, 0, none⟩ ⟨B + 1, 0, none⟩ _).mono ?_
  rintro e u' w'' ⟨rfl, rfl, rfl⟩
  refine ⟨_, results34 h2 h3 hb hb1, hc, _, ?_, by rw [hN]⟩
  rw [normT, if_pos hN, ← hna]
  exact hF
set_option maxRecDepth 100000 in
set_option maxHeartbeats 4000000 in
theorem Normal_any (R : Nat → Prop) (t : T) (v : Value) (w : World) (ht : IsTree R w t v) (hN : sizeT t ≤ 1000000) (hR : ∀ b, R b → b < w.heap.size) : Calls Tryz.prog 44 #[v] w (NormPost t w) := by
  have hmf : ∀ (fn : Fn) (first cap : Array Value) (w : World), (Instr.makeFunc fn first cap).run Tryz.prog w = .ok (.func fn first cap) w := fun _ _ _ _ => rfl
  obtain ⟨ao, cap, rfl, hlen, hk⟩ := ht.parts
  have hW : Hid (∃ W, W = ((w.alloc (.cells #[.int .i64 t.kind, .string ⟨t.name.toArray⟩, .slice ao t.kids.length cap] 24)).alloc (.cells #[.int .i64 0, .string ⟨#[]⟩, .slice none 0 0] 24)).alloc (.cells #[.int .i64 0] 32) ∧ Chg Nob w W ∧ W.heap.size = w.heap.size + 3 ∧ W.heap[w.heap.size]? = some (.cells #[.int .i64 t.kind, .string ⟨t.name.toArray⟩, .slice ao t.kids.length cap] 24 (0, 0)) ∧ W.heap[w.heap.size + 1]? = some (.cells #[.int .i64 0, .string ⟨#[]⟩, .slice none 0 0] 24 (0, 0)) ∧ W.heap[w.heap.size + 1 + 1]? = some (.cells #[.int .i64 0] 32 (0, 0))) := by
    have h1 := heap_alloc_new (w.alloc (.cells #[.int .i64 t.kind, .string ⟨t.name.toArray⟩, .slice ao t.kids.length cap] 24)) (.cells #[.int .i64 0, .string ⟨#[]⟩, .slice none 0 0] 24)
    have h2 := heap_alloc_new ((w.alloc (.cells #[.int .i64 t.kind, .string ⟨t.name.toArray⟩, .slice ao t.kids.length cap] 24)).alloc (.cells #[.int .i64 0, .string ⟨#[]⟩, .slice none 0 0] 24)) (.cells #[.int .i64 0] 32)
    rw [World.size_alloc] at h1
    rw [World.size_alloc, World.size_alloc] at h2
    exact ⟨_, rfl, (((Chg.refl _ _).alloc _).alloc _).alloc _, by rw [World.size_alloc, World.size_alloc, World.size_alloc], (((Chg.refl Nob _).alloc _).alloc _).at (heap_alloc_new w _) (fun e => e), ((Chg.refl Nob _).alloc _).at h1 (fun e => e), h2⟩
  have Ht := Lib.hid ht
  clear ht hk
  go_enter_defers Tryz.func44, Tryz.ntmps44
  go_wp2_with fail
  obtain ⟨W, hWe, hc, hs, hb, hb1, hb2⟩ := hW.out
  rw [← hWe]
  clear hW hWe
  have Hs := Lib.hid hs
  have Hb := Lib.hid hb
  have Hb1 := Lib.hid hb1
  have Hb2 := Lib.hid hb2
  clear hs hb hb1 hb2
  (with_reducible refine (check_any' R t _ W (Ht.out.nob hc) hN (fun b h => by have := hR b h; have := Hs.out; omega)).mono ?_)
  rintro e w1 ⟨rfl, hc1⟩
  have hs := Hs.out
  have hb' := hc1.at Hb.out (fun e => e)
  have hb1' := hc1.at Hb1.out (fun e => e)
  have hb2' := hc1.at Hb2.out (fun e => e)
  have hcw := hc.trans1 hc1
  have hz1 := hc1.size
  obtain ⟨c0, c1, c2, _⟩ := cells_three hb'
  obtain ⟨d0, d1, d2, f0, f1, f2⟩ := cells_three hb1'
  have x0 := cell_row hb2' 0 (v := .int .i64 0) rfl
  have x1 : w1.frozen? ⟨w.heap.size + 1 + 1, 0, none⟩ = false := by simp [World.frozen?, hb2']
  have Hb' := Lib.hid hb'
  have Hb1' := Lib.hid hb1'
  have Hb2' := Lib.hid hb2'
  have Hs' := Lib.hid hs
  clear hb' hb1' hb2' hs Hs
  by_cases h0 : checkN t = 0
  · have hne : (checkN t != 0) = false := by rw [h0]; rfl
    have H0 := Lib.hid h0
    clear h0
    have ht1 := Ht.out.nob hcw
    have hcX : Chg Nob w1 (w1.alloc (.cells #[.int .i64 20000] 136)) := (Chg.refl _ _).alloc _
    have hNb : Nb (w1.alloc (.cells #[.int .i64 20000] 136)) w1.heap.size 20000 := ⟨heap_alloc_new w1 (.cells #[.int .i64 20000] 136), Nat.le_refl _⟩
    have hcall := form_any t (checkN_zero H0.out).1 R _ _ _ false _ (ht1.nob hcX) (fun b hb => by have := hR b hb; have := Hs'.out; omega) hNb
    have HcX := Lib.hid hcX
    have hsX : (w1.alloc (.cells #[.int .i64 20000] 136)).heap.size = w1.heap.size + 1 := World.size_alloc _ _
    have HsX := Lib.hid hsX
    obtain ⟨y0, y1, y2, _⟩ := cells_three (hcX.at Hb'.out (fun e => e))
    clear hNb ht1 hcX hsX
    go_wp2_with fail
    generalize w1.alloc (.cells #[.int .i64 20000] 136) = X at *
    (with_reducible refine hcall.mono ?_)
    clear hcall c0 c1 c2 d0 d1 d2 f0 f1 f2 x0 x1 y0 y1 y2
    rintro e w2 ⟨hc2, ⟨vn, hsn, rfl, hF, hN2⟩ | ⟨hsn, rfl⟩⟩
    · obtain ⟨a5, acap, rfl⟩ := hF.agg
      obtain ⟨na, hna⟩ : ∃ na : T, na = nfT t false := ⟨_, rfl⟩
      rw [← hna] at hsn hF hN2 ⊢
      have Hna := Lib.hid hna
      clear hna
      have hs' := Hs'.out
      have hsX := HsX.out
      have hcX := HcX.out
      have hz2 := hc2.size
      have hb2 := hc2.at (hcX.at Hb'.out (fun e => e)) (fun e => by have e : w.heap.size = w1.heap.size := e; omega)
      have hb12 := hc2.at (hcX.at Hb1'.out (fun e => e)) (fun e => by have e : w.heap.size + 1 = w1.heap.size := e; omega)
      have hb22 := hc2.at (hcX.at Hb2'.out (fun e => e)) (fun e => by have e : w.heap.size + 1 + 1 = w1.heap.size := e; omega)
      obtain ⟨d0, d1, d2, f0, f1, f2⟩ := cells_three hb12
      have x0 := cell_row hb22 0 (v := .int .i64 0) rfl
      have x1 : w2.frozen? ⟨w.heap.size + 1 + 1, 0, none⟩ = false := by simp [World.frozen?, hb22]
      have k3 := chg_three w2 (w.heap.size + 1) (.int .i64 na.kind) (.string ⟨na.name.toArray⟩) (.slice a5 na.kids.length acap)
      have h3 := block_three_all hb12 (.int .i64 na.kind) (.string ⟨na.name.toArray⟩) (.slice a5 na.kids.length acap)
      have q3 := k3.at hb22 (fun e => by have e : w.heap.size + 1 + 1 = w.heap.size + 1 := e; omega)
      have k4 := (Chg.refl (At1 (w.heap.size + 1 + 1)) (((w2.setCell ⟨w.heap.size + 1, 0, none⟩ (.int .i64 na.kind)).setCell ⟨w.heap.size + 1, 1, none⟩ (.string ⟨na.name.toArray⟩)).setCell ⟨w.heap.size + 1, 2, none⟩ (.slice a5 na.kids.length acap))).setCell (p := ⟨w.heap.size + 1 + 1, 0, none⟩) (fun _ => rfl) (.int .i64 0)
      have h4 := k4.at h3 (fun e => by have e : w.heap.size + 1 = w.heap.size + 1 + 1 := e; omega)
      have q4 := block_one_set (u := .int .i64 0) q3
      have k24 : Chg (fun k => k = w.heap.size + 1 ∨ k = w.heap.size + 1 + 1) w2 _ := (k3.mono (fun _ _ e => .inl e)).trans k4 (fun _ _ e => .inr e)
      have hcw2 : Chg Nob w w2 := ((hcw.trans1 hcX).any (S := At1 w1.heap.size)).trans1 hc2 |>.mono (fun i hi e => by have e : i = w1.heap.size := e; omega)
      have hcw4 : Chg Nob w _ := (hcw2.any (S := fun k => k = w.heap.size + 1 ∨ k = w.heap.size + 1 + 1)).trans1 k24 |>.mono (fun i hi e => by rcases e with e | e <;> omega)
      have HF4 : Hid (Fresh (Ge w.heap.size) _ na _) := hF.chg k24 (fun b hb hb2 e => by have hb : X.heap.size ≤ b := hb; rcases e with e | e <;> omega) (fun b hb => by have hb : X.heap.size ≤ b := hb; unfold Ge; omega)
      have H4 := Lib.hid h4
      have Q4 := Lib.hid q4
      have Hc4 := Lib.hid hcw4
      have hN0 : Hid (normN t = 0) := (show normN t = 0 by unfold normN; rw [if_pos H0.out, if_pos (by rw [← Hna.out]; exact hsn)])
      clear hb2 hb12 hb22 h3 h4 q3 q4 k3 k4 k24 hcw4 hcw2 hF hN2 hs' hsX
      go_wp2
      exact done34 Hna.out hN0.out rfl HF4.out Hc4.out H4.out Q4.out rfl rfl
    · have hs' := Hs'.out
      have hsX := HsX.out
      have hcX := HcX.out
      have hb12 := hc2.at (hcX.at Hb1'.out (fun e => e)) (fun e => by have e : w.heap.size + 1 = w1.heap.size := e; omega)
      have hb22 := hc2.at (hcX.at Hb2'.out (fun e => e)) (fun e => by have e : w.heap.size + 1 + 1 = w1.heap.size := e; omega)
      have hcw2 : Chg Nob w w2 := ((hcw.trans1 hcX).any (S := At1 w1.heap.size)).trans1 hc2 |>.mono (fun i hi e => by have e : i = w1.heap.size := e; omega)
      have hN2 : Hid (normN t = 2) := (show normN t = 2 by unfold normN; rw [if_pos H0.out, if_neg (by omega)])
      go_wp2
      exact thrown34 hN2.out rfl hcw2 ⟨_, _, _, hb12⟩ ⟨_, hb22⟩ rfl rfl
  · have hne : (checkN t != 0) = true := by rw [bne, beq_eq_false_iff_ne.2 h0]; rfl
    have H0 := Lib.hid h0
    clear h0
    have k3 := chg_three w1 (w.heap.size + 1) (.int .i64 0) (.string ⟨#[]⟩) (.slice none 0 0)
    have h3 := block_three_all Hb1'.out (.int .i64 0) (.string ⟨#[]⟩) (.slice none 0 0)
    have q3 := k3.at Hb2'.out (fun e => by have e : w.heap.size + 1 + 1 = w.heap.size + 1 := e; omega)
    have k4 := (Chg.refl (At1 (w.heap.size + 1 + 1)) (((w1.setCell ⟨w.heap.size + 1, 0, none⟩ (.int .i64 0)).setCell ⟨w.heap.size + 1, 1, none⟩ (.string ⟨#[]⟩)).setCell ⟨w.heap.size + 1, 2, none⟩ (.slice none 0 0))).setCell (p := ⟨w.heap.size + 1 + 1, 0, none⟩) (fun _ => rfl) (.int .i64 (checkN t))
    have H4 := Lib.hid (k4.at h3 (fun e => by have e : w.heap.size + 1 = w.heap.size + 1 + 1 := e; omega))
    have Q4 := Lib.hid (block_one_set (u := .int .i64 (checkN t)) q3)
    have k24 : Chg (fun k => k = w.heap.size + 1 ∨ k = w.heap.size + 1 + 1) w1 _ := (k3.mono (fun _ _ e => .inl e)).trans k4 (fun _ _ e => .inr e)
    have Hc4 : Hid (Chg Nob w _) := ((hcw.any (S := fun k => k = w.heap.size + 1 ∨ k = w.heap.size + 1 + 1)).trans1 k24 |>.mono (fun i hi e => by rcases e with e | e <;> omega) : Chg Nob w _)
    have hN0 : Hid (normN t = checkN t) := (show normN t = checkN t by unfold normN; rw [if_neg H0.out])
    clear k3 h3 q3 k4 k24
    go_wp2_with fail
    refine (show Leaves _ _ _ _ [] .returning _ from ⟨_, results34 rfl rfl H4.out Q4.out, Hc4.out, _, ?_, by rw [hN0.out]⟩)
    rw [normT, if_neg (by rw [hN0.out]; exact H0.out)]
    exact fresh_zero
end Go.Proofs.YtkgfdgfhpdhhaaaGreat
