/- ltl's normer: a formula's normal form (always). Conditions: the tree lies in the world; the normer does. ltl's normer: a formula's normal form (finally). Conditions: the tree lies in the world; the normer does. -/
import Derived.Test.YtkgfdgfhpdhhaaaGreatNfA
import Derived.StillTailTactics
import Derived.Deep.RegionHeld3
namespace Go.Proofs.YtkgfdgfhpdhhaaaGreat
open Go.ChangeShapes Go.WideShapes Go.RowKit

set_option maxRecDepth 100000 in
set_option maxHeartbeats 8000000 in
theorem form_6 (t a : T) (hkids : t.kids = [a]) (hfa : FormC a) (hkind : t.kind = 6) (R : Nat → Prop) (w : World) (nb L : Nat) (no : Bool) (v : Value) (ht : IsTree R w t v) (hR : ∀ b, R b → b ≠ nb) (hN : Nb w nb L) :
    Calls Tryz.prog 78 #[.pointer (some ⟨nb, 0, none⟩), v, .bool no] w (NfPost nb L (.node (flipK 13 no) [] [.node (flipK 2 no) [] [], nfT a no]) w) := by
  obtain ⟨ao, cap, rfl, hlen, hk⟩ := ht.parts
  rw [hkids] at hk
  obtain ⟨b1, o1, ak, capk, hao, hRb, p0, p1, p2, _, _, hta⟩ := hk.kid (j := 0) (t := a) rfl
  subst hao
  rw [Nat.zero_mul, Nat.add_zero] at p0 p1 p2
  have hlen2 : t.kids.length = 1 := by rw [hkids]; rfl
  rw [hlen2, hkind] at ht ⊢
  have hW : Hid (∃ W, W = (w.alloc (.cells #[.int .i64 6, .string ⟨t.name.toArray⟩, .slice (some ⟨b1, o1, none⟩) 1 cap] 24)).alloc (.cells #[.int .i64 0, .string ⟨#[]⟩, .slice none 0 0] 24) ∧ Chg Nob w W ∧ W.heap.size = w.heap.size + 2 ∧
      W.heap[w.heap.size]? = some (.cells #[.int .i64 6, .string ⟨t.name.toArray⟩, .slice (some ⟨b1, o1, none⟩) 1 cap] 24 (0, 0)) ∧ W.heap[w.heap.size + 1]? = some (.cells #[.int .i64 0, .string ⟨#[]⟩, .slice none 0 0] 24 (0, 0))) := by
    refine ⟨_, rfl, ((Chg.refl _ _).alloc _).alloc _, by rw [World.size_alloc, World.size_alloc], ((Chg.refl Nob _).alloc _).at (heap_alloc_new w _) (fun e => e), ?_⟩
    have := heap_alloc_new (w.alloc (.cells #[.int .i64 6, .string ⟨t.name.toArray⟩, .slice (some ⟨b1, o1, none⟩) 1 cap] 24)) (.cells #[.int .i64 0, .string ⟨#[]⟩, .slice none 0 0] 24)
    rwa [World.size_alloc] at this
  have Hp := Lib.hid (And.intro p0 (And.intro p1 p2))
  have Hta := Lib.hid hta
  have Hfa := Lib.hid hfa
  have hnb := hN.lt
  have HN := Lib.hid hN
  have Ht := Lib.hid ht
  have Hkids := Lib.hid hkids
  clear ht hk hkids hN hlen2 hkind hlen hfa p0 p1 p2 hta
  obtain ⟨W, hWe, hcW, hsW, hbx, hres⟩ := hW.out
  subst hWe
  clear hW
  have Hbx := Lib.hid hbx
  have Hres := Lib.hid hres
  have HsW := Lib.hid hsW
  have p0 := kid_at1 hcW.any hR hRb Hp.out.1
  have p1 := kid_at1 hcW.any hR hRb Hp.out.2.1
  have p2 := kid_at1 hcW.any hR hRb Hp.out.2.2
  clear hbx hres hsW
  go_enter Tryz.func78, Tryz.ntmps78
  go_wp2_with fail
  generalize (w.alloc (.cells #[.int .i64 6, .string ⟨t.name.toArray⟩, .slice (some ⟨b1, o1, none⟩) 1 cap] 24)).alloc (.cells #[.int .i64 0, .string ⟨#[]⟩, .slice none 0 0] 24) = W at *
  have hcall := Hfa.out R _ nb L no _ (Hta.out.at1 hcW.any hR) hR (HN.out.nob hcW)
  (with_reducible refine hcall.mono ?_)
  clear hcall p0 p1 p2
  rintro e w3 ⟨hc3, ⟨va, hsa, rfl, hFa, hN3⟩ | ⟨hsa, rfl⟩⟩
  · obtain ⟨a5, acap, rfl⟩ := hFa.agg
    obtain ⟨na, hna⟩ : ∃ na : T, na = nfT a no := ⟨_, rfl⟩
    rw [← hna] at hsa hFa hN3 ⊢
    have Hna := Lib.hid hna
    clear hna
    have hA : Chg Nob w3 (w3.alloc (.cells #[.int .i64 na.kind, .string ⟨na.name.toArray⟩, .slice a5 na.kids.length acap] 24)) := (Chg.refl _ _).alloc _
    have hta3 := heap_alloc_new w3 (.cells #[.int .i64 na.kind, .string ⟨na.name.toArray⟩, .slice a5 na.kids.length acap] 24)
    have hs3 : (w3.alloc (.cells #[.int .i64 na.kind, .string ⟨na.name.toArray⟩, .slice a5 na.kids.length acap] 24)).heap.size = w3.heap.size + 1 := World.size_alloc _ _
    have hN3A := hN3.nob hA
    have hc23 := hc3.trans1 hA.any
    have hcw3 : Chg (At1 nb) w _ := hcW.any.trans1 hc23
    have hs23 := hc3.size
    have hsW := HsW.out
    have hbx3 := hc23.at Hbx.out (fun e => by have e : w.heap.size = nb := e; omega)
    obtain ⟨c0, c1, c2, _⟩ := cells_three hbx3
    have hres3 := hc23.at Hres.out (fun e => by have e : w.heap.size + 1 = nb := e; omega)
    have Hres3 := Lib.hid hres3
    have Hta3 := Lib.hid hta3
    have Hs3 := Lib.hid hs3
    clear hbx3 c0 c1 c2 hres3
    obtain ⟨c0, c1, c2, _⟩ := cells_three hta3
    clear hta3 hs3
    go_wp2_with fail
    generalize w3.alloc (.cells #[.int .i64 na.kind, .string ⟨na.name.toArray⟩, .slice a5 na.kids.length acap] 24) = W3 at *
    have Hnp : Hid (∀ X, Chg Nob W3 X → Calls Tryz.prog 130 #[.pointer (some ⟨nb, 0, none⟩), .int .i64 (flipK 2 no), .slice none 0 0] X (NpPost nb (L - sizeT na) (.agg #[.int .i64 (flipK 2 no), .string ⟨#[]⟩, .slice none 0 0]) X)) := Lib.hid (fun X hX => npart_any X nb _ (flipK 2 no) none 0 0 (hN3A.nob hX))
    have hw3n : w3.heap.size ≠ nb := by omega
    have hnr : w.heap.size + 1 ≠ nb := by omega
    have hHeld0 : W3.cell? ⟨w3.heap.size, 0, none⟩ = some (.int .i64 na.kind) ∧ W3.cell? ⟨w3.heap.size, 1, none⟩ = some (.string ⟨na.name.toArray⟩) ∧ W3.cell? ⟨w3.heap.size, 2, none⟩ = some (.slice a5 na.kids.length acap) := ⟨c0, c1, c2⟩
    clear hN3 hN3A
    generalize hM : L - sizeT na = M at *
    have HM := Lib.hid hM
    clear hM
    match M with
    | 0 =>
      have Hno := Lib.hid (show L < sizeT (.node (flipK 13 no) [] [.node (flipK 2 no) [] [], nfT a no]) by rw [← Hna.out]; have := HM.out; simp only [sizeT, sizeL]; omega)
      refine wp_region_held_drew (S := fun w' => w'.cell? ⟨w3.heap.size, 0, none⟩ = some (.int .i64 na.kind) ∧ w'.cell? ⟨w3.heap.size, 1, none⟩ = some (.string ⟨na.name.toArray⟩) ∧ w'.cell? ⟨w3.heap.size, 2, none⟩ = some (.slice a5 na.kids.length acap)) (by kernel_rfl) hHeld0 (fun hHeld => ?_)
      refine wpAnyH_take (i := 0) (v := ?_) rfl (by kernel_rfl) (by kernel_rfl) (by kernel_rfl) (fun _ _ _ h => h) (Or.inl ⟨by rfl, ?_⟩) hHeld ?_
      rotate_left
      · intro w hSw; obtain ⟨c0, c1, c2⟩ := hSw; go_simp; try (with_reducible rfl)
      simp only [Act.put, List.setIfInBounds_toArray]
      refine wpAnyH_take (i := 1) (v := ?_) rfl (by kernel_rfl) (by kernel_rfl) (by kernel_rfl) (fun _ _ _ h => h) (Or.inl ⟨by rfl, ?_⟩) hHeld ?_
      rotate_left
      · intro w hSw; obtain ⟨c0, c1, c2⟩ := hSw; go_simp; try (with_reducible rfl)
      simp only [Act.put]
      refine wpAnyH_take (i := 3) (v := ?_) rfl (by kernel_rfl) (by kernel_rfl) (by kernel_rfl) (fun _ _ _ h => h) (Or.inl ⟨by rfl, ?_⟩) hHeld ?_
      rotate_left
      · intro w hSw; obtain ⟨c0, c1, c2⟩ := hSw; go_simp; try (with_reducible rfl)
      simp only [Act.put]
      refine wpAnyH_take (i := 4) (v := ?_) rfl (by kernel_rfl) (by kernel_rfl) (by kernel_rfl) (fun _ _ _ h => h) (Or.inl ⟨by rfl, ?_⟩) hHeld ?_
      rotate_left
      · intro w hSw; obtain ⟨c0, c1, c2⟩ := hSw; go_simp; try (with_reducible rfl)
      simp only [Act.put]
      refine wpAnyH_take (i := 7) (v := ?_) rfl (by kernel_rfl) (by kernel_rfl) (by kernel_rfl) (fun _ _ _ h => h) (Or.inl ⟨by rfl, ?_⟩) hHeld ?_
      rotate_left
      · intro w hSw; obtain ⟨c0, c1, c2⟩ := hSw; go_simp; try (with_reducible rfl)
      simp only [Act.put]
      refine wpAnyH_ready (rs := [2]) (by kernel_rfl) (by simp) ?_
      refine AllReadyH.cons rfl (fun K hK => ?_) AllReadyH.nil
      go_simp
      refine (flip_any 13 no _).mono ?_
      rintro e w5 ⟨rfl, rfl⟩
      refine hK.out _ _ hHeld (fun _ => ?_)
      refine wpAnyH_ready (rs := [5]) (by kernel_rfl) (by simp) ?_
      refine AllReadyH.cons rfl (fun K hK => ?_) AllReadyH.nil
      go_simp
      refine (flip_any 2 no _).mono ?_
      rintro e w5 ⟨rfl, rfl⟩
      refine hK.out _ _ hHeld (fun _ => ?_)
      refine wpAnyH_ready (rs := [6]) (by kernel_rfl) (by simp) ?_
      refine AllReadyH.cons rfl (fun K hK => ?_) AllReadyH.nil
      go_simp
      refine ((Hnp.out _ (by exact (Chg.refl _ _).drew)).mono (fun _ _ h => NpPost.no h)).mono ?_
      rintro e w4 ⟨hc4, rfl⟩
      go_wp2
      exact ⟨rfl, (hcw3.trans1 (Chg.refl Nob _).drew.any).trans1 hc4, .inr ⟨Hno.out, rfl⟩⟩
    | 1 =>
      have Hno := Lib.hid (show L < sizeT (.node (flipK 13 no) [] [.node (flipK 2 no) [] [], nfT a no]) by rw [← Hna.out]; have := HM.out; simp only [sizeT, sizeL]; omega)
      refine wp_region_held_drew (S := fun w' => w'.cell? ⟨w3.heap.size, 0, none⟩ = some (.int .i64 na.kind) ∧ w'.cell? ⟨w3.heap.size, 1, none⟩ = some (.string ⟨na.name.toArray⟩) ∧ w'.cell? ⟨w3.heap.size, 2, none⟩ = some (.slice a5 na.kids.length acap)) (by kernel_rfl) hHeld0 (fun hHeld => ?_)
      refine wpAnyH_take (i := 0) (v := ?_) rfl (by kernel_rfl) (by kernel_rfl) (by kernel_rfl) (fun _ _ _ h => h) (Or.inl ⟨by rfl, ?_⟩) hHeld ?_
      rotate_left
      · intro w hSw; obtain ⟨c0, c1, c2⟩ := hSw; go_simp; try (with_reducible rfl)
      simp only [Act.put, List.setIfInBounds_toArray]
      refine wpAnyH_take (i := 1) (v := ?_) rfl (by kernel_rfl) (by kernel_rfl) (by kernel_rfl) (fun _ _ _ h => h) (Or.inl ⟨by rfl, ?_⟩) hHeld ?_
      rotate_left
      · intro w hSw; obtain ⟨c0, c1, c2⟩ := hSw; go_simp; try (with_reducible rfl)
      simp only [Act.put]
      refine wpAnyH_take (i := 3) (v := ?_) rfl (by kernel_rfl) (by kernel_rfl) (by kernel_rfl) (fun _ _ _ h => h) (Or.inl ⟨by rfl, ?_⟩) hHeld ?_
      rotate_left
      · intro w hSw; obtain ⟨c0, c1, c2⟩ := hSw; go_simp; try (with_reducible rfl)
      simp only [Act.put]
      refine wpAnyH_take (i := 4) (v := ?_) rfl (by kernel_rfl) (by kernel_rfl) (by kernel_rfl) (fun _ _ _ h => h) (Or.inl ⟨by rfl, ?_⟩) hHeld ?_
      rotate_left
      · intro w hSw; obtain ⟨c0, c1, c2⟩ := hSw; go_simp; try (with_reducible rfl)
      simp only [Act.put]
      refine wpAnyH_take (i := 7) (v := ?_) rfl (by kernel_rfl) (by kernel_rfl) (by kernel_rfl) (fun _ _ _ h => h) (Or.inl ⟨by rfl, ?_⟩) hHeld ?_
      rotate_left
      · intro w hSw; obtain ⟨c0, c1, c2⟩ := hSw; go_simp; try (with_reducible rfl)
      simp only [Act.put]
      refine wpAnyH_ready (rs := [2]) (by kernel_rfl) (by simp) ?_
      refine AllReadyH.cons rfl (fun K hK => ?_) AllReadyH.nil
      go_simp
      refine (flip_any 13 no _).mono ?_
      rintro e w5 ⟨rfl, rfl⟩
      refine hK.out _ _ hHeld (fun _ => ?_)
      refine wpAnyH_ready (rs := [5]) (by kernel_rfl) (by simp) ?_
      refine AllReadyH.cons rfl (fun K hK => ?_) AllReadyH.nil
      go_simp
      refine (flip_any 2 no _).mono ?_
      rintro e w5 ⟨rfl, rfl⟩
      refine hK.out _ _ hHeld (fun _ => ?_)
      refine wpAnyH_ready (rs := [6]) (by kernel_rfl) (by simp) ?_
      refine AllReadyH.cons rfl (fun K hK => ?_) AllReadyH.nil
      go_simp
      refine ((Hnp.out _ (by exact (Chg.refl _ _).drew)).mono (fun _ _ h => NpPost.ok h)).mono ?_
      rintro e w4 ⟨hc4, rfl, hN4⟩
      have s4 := three_at1 ((Chg.refl (At1 nb) _).drew.trans1 hc4) hw3n hHeld0
      refine hK.out _ _ s4 (fun _ => ?_)
      refine wpAnyH_ready (rs := [8]) (by kernel_rfl) (by simp) ?_
      refine AllReadyH.cons rfl (fun K hK => ?_) AllReadyH.nil
      go_simp
      refine hK.out _ _ (three_nob ((Chg.refl _ _).alloc _) s4) (fun _ => ?_)
      refine wpAnyH_ready (rs := [9]) (by kernel_rfl) (by simp) ?_
      refine AllReadyH.cons rfl (fun K hK => ?_) AllReadyH.nil
      go_simp
      refine ((npart_any _ nb _ (flipK 13 no) (some ⟨w4.heap.size, 0, none⟩) 2 2 (hN4.nob ((Chg.refl _ _).alloc _))).mono (fun _ _ h => NpPost.no h)).mono ?_
      rintro e w6 ⟨hc6, rfl⟩
      go_wp2
      exact ⟨rfl, ((hcw3.trans1 (Chg.refl Nob _).drew.any).trans1 hc4).trans1 (((Chg.refl Nob _).alloc _).any.trans1 hc6), .inr ⟨Hno.out, rfl⟩⟩
    | m2 + 2 =>
      go_region_held3 (fun w' => w'.cell? ⟨w3.heap.size, 0, none⟩ = some (.int .i64 na.kind) ∧ w'.cell? ⟨w3.heap.size, 1, none⟩ = some (.string ⟨na.name.toArray⟩) ∧ w'.cell? ⟨w3.heap.size, 2, none⟩ = some (.slice a5 na.kids.length acap)) (first | exact hHeld0 | exact s4 | exact three_nob ((Chg.refl Nob w4).alloc _) s4 | exact s6 | exact three_at1 (chg_three _ _ _ _ _) (by omega) s6)
        (first | (go_at_call 131; (with_reducible refine (flip_any _ no _).mono ?_); rintro e w5 ⟨rfl, rfl⟩)
               | (go_at_call 130; (with_reducible refine ((Hnp.out _ (by exact (Chg.refl _ _).drew)).mono (fun _ _ h => NpPost.ok h)).mono ?_); rintro e w4 ⟨hc4, rfl, hN4⟩; have s4 := three_at1 ((Chg.refl (At1 nb) _).drew.trans1 hc4) hw3n hHeld0)
               | (go_at_call 130; (with_reducible refine ((npart_any _ nb _ (flipK 13 no) (some ⟨w4.heap.size, 0, none⟩) 2 2 (by exact hN4.nob ((Chg.refl _ _).alloc _))).mono (fun _ _ h => NpPost.ok h)).mono ?_); rintro e w6 ⟨hc6, rfl, hN6⟩; have hc46 := ((Chg.refl (At1 nb) w4).alloc (.cells #[.int .i64 (flipK 2 no), .string ⟨#[]⟩, .slice none 0 0, .int .i64 na.kind, .string ⟨na.name.toArray⟩, .slice a5 na.kids.length acap] 24)).trans1 hc6; have s6 := three_at1 hc46 hw3n s4; obtain ⟨r0, r1, r2, f0, f1, f2⟩ := cells_three (hc46.at (hc4.at (w := W3.drew) Hres3.out hnr) hnr)))
      have hsW := HsW.out
      have hs3' := Hs3.out
      have hz4 := hc4.size
      have hz4' : W3.heap.size ≤ w4.heap.size := hz4
      have hres6 := hc46.at (hc4.at (w := W3.drew) Hres3.out hnr) hnr
      have h36 : Chg (At1 nb) w3 w6 := (hA.any.trans1 ((Chg.refl (At1 nb) _).drew.trans1 hc4)).trans1 hc46
      have hcw6 : Chg (At1 nb) w w6 := (hcw3.trans1 ((Chg.refl (At1 nb) _).drew.trans1 hc4)).trans1 hc46
      have hF0 : Fresh (Ge W.heap.size) w4 (.node (flipK 2 no) [] []) (.agg #[.int .i64 (flipK 2 no), .string ⟨#[]⟩, .slice none 0 0]) := nf_leaf
      have hF : Fresh (Ge (w.heap.size + 2)) w6 (.node (flipK 13 no) [] [.node (flipK 2 no) [] [], na]) _ := hsW ▸ nf_two (k := flipK 13 no) (w := W) hF0 hFa (by omega) (by omega) (At1 nb) (fun q e => by have e : q = nb := e; omega) (fun q e => by have e : q = nb := e; omega) hc46 h36
        (hc6.at (heap_alloc_new w4 (.cells #[.int .i64 (flipK 2 no), .string ⟨#[]⟩, .slice none 0 0, .int .i64 na.kind, .string ⟨na.name.toArray⟩, .slice a5 na.kids.length acap] 24)) (fun e => by have e : w4.heap.size = nb := e; omega)) (by omega)
      have Hpost : Hid (NfPost nb L (.node (flipK 13 no) [] [.node (flipK 2 no) [] [], nfT a no]) w (.returned (.agg #[.int .i64 (flipK 13 no), .string ⟨#[]⟩, .slice (some ⟨w4.heap.size, 0, none⟩) 2 2])) (((w6.setCell ⟨w.heap.size + 1, 0, none⟩ (.int .i64 (flipK 13 no))).setCell ⟨w.heap.size + 1, 1, none⟩ (.string ⟨#[]⟩)).setCell ⟨w.heap.size + 1, 2, none⟩ (.slice (some ⟨w4.heap.size, 0, none⟩) 2 2))) := by
        show NfPost _ _ _ _ _ _
        rw [← Hna.out]
        exact nf_end (M := m2) (u := .node (flipK 13 no) [] [.node (flipK 2 no) [] [], na]) hnb hcw6 hres6 hF (by have := HM.out; simp only [sizeT, sizeL]; omega) (by have := HM.out; simp only [sizeT, sizeL]; omega) hN6
      have hb7 := block_three_all hres6 (.int .i64 (flipK 13 no)) (.string ⟨#[]⟩) (.slice (some ⟨w4.heap.size, 0, none⟩) 2 2)
      obtain ⟨e0, e1, e2, _⟩ := cells_three hb7
      have He := Lib.hid (And.intro e0 (And.intro e1 e2))
      clear hb7 hres6 e0 e1 e2 h36 hcw6 hF hFa hF0 hN6 hsW hs3' hz4 hz4' s6 s4
      go_wp2
      obtain ⟨e0, e1, e2⟩ := He.out
      exact bodyPost_ret (v := .agg #[.int .i64 (flipK 13 no), .string ⟨#[]⟩, .slice (some ⟨w4.heap.size, 0, none⟩) 2 2]) (by simp [results, Tryz.results78, go_sem, e0, e1, e2]) rfl Hpost.out
  · go_wp2
    exact ⟨rfl, hcW.any.trans1 hc3, .inr ⟨by simp only [sizeT, sizeL] at hsa ⊢; omega, rfl⟩⟩
end Go.Proofs.YtkgfdgfhpdhhaaaGreat
namespace Go.Proofs.YtkgfdgfhpdhhaaaGreat
open Go.ChangeShapes Go.WideShapes Go.RowKit

set_option maxRecDepth 100000 in
set_option maxHeartbeats 8000000 in
theorem form_7 (t a : T) (hkids : t.kids = [a]) (hfa : FormC a) (hkind : t.kind = 7) (R : Nat → Prop) (w : World) (nb L : Nat) (no : Bool) (v : Value) (ht : IsTree R w t v) (hR : ∀ b, R b → b ≠ nb) (hN : Nb w nb L) :
    Calls Tryz.prog 78 #[.pointer (some ⟨nb, 0, none⟩), v, .bool no] w (NfPost nb L (.node (flipK 12 no) [] [.node (flipK 1 no) [] [], nfT a no]) w) := by
  obtain ⟨ao, cap, rfl, hlen, hk⟩ := ht.parts
  rw [hkids] at hk
  obtain ⟨b1, o1, ak, capk, hao, hRb, p0, p1, p2, _, _, hta⟩ := hk.kid (j := 0) (t := a) rfl
  subst hao
  rw [Nat.zero_mul, Nat.add_zero] at p0 p1 p2
  have hlen2 : t.kids.length = 1 := by rw [hkids]; rfl
  rw [hlen2, hkind] at ht ⊢
  have hW : Hid (∃ W, W = (w.alloc (.cells #[.int .i64 7, .string ⟨t.name.toArray⟩, .slice (some ⟨b1, o1, none⟩) 1 cap] 24)).alloc (.cells #[.int .i64 0, .string ⟨#[]⟩, .slice none 0 0] 24) ∧ Chg Nob w W ∧ W.heap.size = w.heap.size + 2 ∧
      W.heap[w.heap.size]? = some (.cells #[.int .i64 7, .string ⟨t.name.toArray⟩, .slice (some ⟨b1, o1, none⟩) 1 cap] 24 (0, 0)) ∧ W.heap[w.heap.size + 1]? = some (.cells #[.int .i64 0, .string ⟨#[]⟩, .slice none 0 0] 24 (0, 0))) := by
    refine ⟨_, rfl, ((Chg.refl _ _).alloc _).alloc _, by rw [World.size_alloc, World.size_alloc], ((Chg.refl Nob _).alloc _).at (heap_alloc_new w _) (fun e => e), ?_⟩
    have := heap_alloc_new (w.alloc (.cells #[.int .i64 7, .string ⟨t.name.toArray⟩, .slice (some ⟨b1, o1, none⟩) 1 cap] 24)) (.cells #[.int .i64 0, .string ⟨#[]⟩, .slice none 0 0] 24)
    rwa [World.size_alloc] at this
  have Hp := Lib.hid (And.intro p0 (And.intro p1 p2))
  have Hta := Lib.hid hta
  have Hfa := Lib.hid hfa
  have hnb := hN.lt
  have HN := Lib.hid hN
  have Ht := Lib.hid ht
  have Hkids := Lib.hid hkids
  clear ht hk hkids hN hlen2 hkind hlen hfa p0 p1 p2 hta
  obtain ⟨W, hWe, hcW, hsW, hbx, hres⟩ := hW.out
  subst hWe
  clear hW
  have Hbx := Lib.hid hbx
  have Hres := Lib.hid hres
  have HsW := Lib.hid hsW
  have p0 := kid_at1 hcW.any hR hRb Hp.out.1
  have p1 := kid_at1 hcW.any hR hRb Hp.out.2.1
  have p2 := kid_at1 hcW.any hR hRb Hp.out.2.2
  clear hbx hres hsW
  go_enter Tryz.func78, Tryz.ntmps78
  go_wp2_with fail
  generalize (w.alloc (.cells #[.int .i64 7, .string ⟨t.name.toArray⟩, .slice (some ⟨b1, o1, none⟩) 1 cap] 24)).alloc (.cells #[.int .i64 0, .string ⟨#[]⟩, .slice none 0 0] 24) = W at *
  have hcall := Hfa.out R _ nb L no _ (Hta.out.at1 hcW.any hR) hR (HN.out.nob hcW)
  (with_reducible refine hcall.mono ?_)
  clear hcall p0 p1 p2
  rintro e w3 ⟨hc3, ⟨va, hsa, rfl, hFa, hN3⟩ | ⟨hsa, rfl⟩⟩
  · obtain ⟨a5, acap, rfl⟩ := hFa.agg
    obtain ⟨na, hna⟩ : ∃ na : T, na = nfT a no := ⟨_, rfl⟩
    rw [← hna] at hsa hFa hN3 ⊢
    have Hna := Lib.hid hna
    clear hna
    have hA : Chg Nob w3 (w3.alloc (.cells #[.int .i64 na.kind, .string ⟨na.name.toArray⟩, .slice a5 na.kids.length acap] 24)) := (Chg.refl _ _).alloc _
    have hta3 := heap_alloc_new w3 (.cells #[.int .i64 na.kind, .string ⟨na.name.toArray⟩, .slice a5 na.kids.length acap] 24)
    have hs3 : (w3.alloc (.cells #[.int .i64 na.kind, .string ⟨na.name.toArray⟩, .slice a5 na.kids.length acap] 24)).heap.size = w3.heap.size + 1 := World.size_alloc _ _
    have hN3A := hN3.nob hA
    have hc23 := hc3.trans1 hA.any
    have hcw3 : Chg (At1 nb) w _ := hcW.any.trans1 hc23
    have hs23 := hc3.size
    have hsW := HsW.out
    have hbx3 := hc23.at Hbx.out (fun e => by have e : w.heap.size = nb := e; omega)
    obtain ⟨c0, c1, c2, _⟩ := cells_three hbx3
    have hres3 := hc23.at Hres.out (fun e => by have e : w.heap.size + 1 = nb := e; omega)
    have Hres3 := Lib.hid hres3
    have Hta3 := Lib.hid hta3
    have Hs3 := Lib.hid hs3
    clear hbx3 c0 c1 c2 hres3
    obtain ⟨c0, c1, c2, _⟩ := cells_three hta3
    clear hta3 hs3
    go_wp2_with fail
    generalize w3.alloc (.cells #[.int .i64 na.kind, .string ⟨na.name.toArray⟩, .slice a5 na.kids.length acap] 24) = W3 at *
    have Hnp : Hid (∀ X, Chg Nob W3 X → Calls Tryz.prog 130 #[.pointer (some ⟨nb, 0, none⟩), .int .i64 (flipK 1 no), .slice none 0 0] X (NpPost nb (L - sizeT na) (.agg #[.int .i64 (flipK 1 no), .string ⟨#[]⟩, .slice none 0 0]) X)) := Lib.hid (fun X hX => npart_any X nb _ (flipK 1 no) none 0 0 (hN3A.nob hX))
    have hw3n : w3.heap.size ≠ nb := by omega
    have hnr : w.heap.size + 1 ≠ nb := by omega
    have hHeld0 : W3.cell? ⟨w3.heap.size, 0, none⟩ = some (.int .i64 na.kind) ∧ W3.cell? ⟨w3.heap.size, 1, none⟩ = some (.string ⟨na.name.toArray⟩) ∧ W3.cell? ⟨w3.heap.size, 2, none⟩ = some (.slice a5 na.kids.length acap) := ⟨c0, c1, c2⟩
    clear hN3 hN3A
    generalize hM : L - sizeT na = M at *
    have HM := Lib.hid hM
    clear hM
    match M with
    | 0 =>
      have Hno := Lib.hid (show L < sizeT (.node (flipK 12 no) [] [.node (flipK 1 no) [] [], nfT a no]) by rw [← Hna.out]; have := HM.out; simp only [sizeT, sizeL]; omega)
      refine wp_region_held_drew (S := fun w' => w'.cell? ⟨w3.heap.size, 0, none⟩ = some (.int .i64 na.kind) ∧ w'.cell? ⟨w3.heap.size, 1, none⟩ = some (.string ⟨na.name.toArray⟩) ∧ w'.cell? ⟨w3.heap.size, 2, none⟩ = some (.slice a5 na.kids.length acap)) (by kernel_rfl) hHeld0 (fun hHeld => ?_)
      refine wpAnyH_take (i := 0) (v := ?_) rfl (by kernel_rfl) (by kernel_rfl) (by kernel_rfl) (fun _ _ _ h => h) (Or.inl ⟨by rfl, ?_⟩) hHeld ?_
      rotate_left
      · intro w hSw; obtain ⟨c0, c1, c2⟩ := hSw; go_simp; try (with_reducible rfl)
      simp only [Act.put, List.setIfInBounds_toArray]
      refine wpAnyH_take (i := 1) (v := ?_) rfl (by kernel_rfl) (by kernel_rfl) (by kernel_rfl) (fun _ _ _ h => h) (Or.inl ⟨by rfl, ?_⟩) hHeld ?_
      rotate_left
      · intro w hSw; obtain ⟨c0, c1, c2⟩ := hSw; go_simp; try (with_reducible rfl)
      simp only [Act.put]
      refine wpAnyH_take (i := 3) (v := ?_) rfl (by kernel_rfl) (by kernel_rfl) (by kernel_rfl) (fun _ _ _ h => h) (Or.inl ⟨by rfl, ?_⟩) hHeld ?_
      rotate_left
      · intro w hSw; obtain ⟨c0, c1, c2⟩ := hSw; go_simp; try (with_reducible rfl)
      simp only [Act.put]
      refine wpAnyH_take (i := 4) (v := ?_) rfl (by kernel_rfl) (by kernel_rfl) (by kernel_rfl) (fun _ _ _ h => h) (Or.inl ⟨by rfl, ?_⟩) hHeld ?_
      rotate_left
      · intro w hSw; obtain ⟨c0, c1, c2⟩ := hSw; go_simp; try (with_reducible rfl)
      simp only [Act.put]
      refine wpAnyH_take (i := 7) (v := ?_) rfl (by kernel_rfl) (by kernel_rfl) (by kernel_rfl) (fun _ _ _ h => h) (Or.inl ⟨by rfl, ?_⟩) hHeld ?_
      rotate_left
      · intro w hSw; obtain ⟨c0, c1, c2⟩ := hSw; go_simp; try (with_reducible rfl)
      simp only [Act.put]
      refine wpAnyH_ready (rs := [2]) (by kernel_rfl) (by simp) ?_
      refine AllReadyH.cons rfl (fun K hK => ?_) AllReadyH.nil
      go_simp
      refine (flip_any 12 no _).mono ?_
      rintro e w5 ⟨rfl, rfl⟩
      refine hK.out _ _ hHeld (fun _ => ?_)
      refine wpAnyH_ready (rs := [5]) (by kernel_rfl) (by simp) ?_
      refine AllReadyH.cons rfl (fun K hK => ?_) AllReadyH.nil
      go_simp
      refine (flip_any 1 no _).mono ?_
      rintro e w5 ⟨rfl, rfl⟩
      refine hK.out _ _ hHeld (fun _ => ?_)
      refine wpAnyH_ready (rs := [6]) (by kernel_rfl) (by simp) ?_
      refine AllReadyH.cons rfl (fun K hK => ?_) AllReadyH.nil
      go_simp
      refine ((Hnp.out _ (by exact (Chg.refl _ _).drew)).mono (fun _ _ h => NpPost.no h)).mono ?_
      rintro e w4 ⟨hc4, rfl⟩
      go_wp2
      exact ⟨rfl, (hcw3.trans1 (Chg.refl Nob _).drew.any).trans1 hc4, .inr ⟨Hno.out, rfl⟩⟩
    | 1 =>
      have Hno := Lib.hid (show L < sizeT (.node (flipK 12 no) [] [.node (flipK 1 no) [] [], nfT a no]) by rw [← Hna.out]; have := HM.out; simp only [sizeT, sizeL]; omega)
      refine wp_region_held_drew (S := fun w' => w'.cell? ⟨w3.heap.size, 0, none⟩ = some (.int .i64 na.kind) ∧ w'.cell? ⟨w3.heap.size, 1, none⟩ = some (.string ⟨na.name.toArray⟩) ∧ w'.cell? ⟨w3.heap.size, 2, none⟩ = some (.slice a5 na.kids.length acap)) (by kernel_rfl) hHeld0 (fun hHeld => ?_)
      refine wpAnyH_take (i := 0) (v := ?_) rfl (by kernel_rfl) (by kernel_rfl) (by kernel_rfl) (fun _ _ _ h => h) (Or.inl ⟨by rfl, ?_⟩) hHeld ?_
      rotate_left
      · intro w hSw; obtain ⟨c0, c1, c2⟩ := hSw; go_simp; try (with_reducible rfl)
      simp only [Act.put, List.setIfInBounds_toArray]
      refine wpAnyH_take (i := 1) (v := ?_) rfl (by kernel_rfl) (by kernel_rfl) (by kernel_rfl) (fun _ _ _ h => h) (Or.inl ⟨by rfl, ?_⟩) hHeld ?_
      rotate_left
      · intro w hSw; obtain ⟨c0, c1, c2⟩ := hSw; go_simp; try (with_reducible rfl)
      simp only [Act.put]
      refine wpAnyH_take (i := 3) (v := ?_) rfl (by kernel_rfl) (by kernel_rfl) (by kernel_rfl) (fun _ _ _ h => h) (Or.inl ⟨by rfl, ?_⟩) hHeld ?_
      rotate_left
      · intro w hSw; obtain ⟨c0, c1, c2⟩ := hSw; go_simp; try (with_reducible rfl)
      simp only [Act.put]
      refine wpAnyH_take (i := 4) (v := ?_) rfl (by kernel_rfl) (by kernel_rfl) (by kernel_rfl) (fun _ _ _ h => h) (Or.inl ⟨by rfl, ?_⟩) hHeld ?_
      rotate_left
      · intro w hSw; obtain ⟨c0, c1, c2⟩ := hSw; go_simp; try (with_reducible rfl)
      simp only [Act.put]
      refine wpAnyH_take (i := 7) (v := ?_) rfl (by kernel_rfl) (by kernel_rfl) (by kernel_rfl) (fun _ _ _ h => h) (Or.inl ⟨by rfl, ?_⟩) hHeld ?_
      rotate_left
      · intro w hSw; obtain ⟨c0, c1, c2⟩ := hSw; go_simp; try (with_reducible rfl)
      simp only [Act.put]
      refine wpAnyH_ready (rs := [2]) (by kernel_rfl) (by simp) ?_
      refine AllReadyH.cons rfl (fun K hK => ?_) AllReadyH.nil
      go_simp
      refine (flip_any 12 no _).mono ?_
      rintro e w5 ⟨rfl, rfl⟩
      refine hK.out _ _ hHeld (fun _ => ?_)
      refine wpAnyH_ready (rs := [5]) (by kernel_rfl) (by simp) ?_
      refine AllReadyH.cons rfl (fun K hK => ?_) AllReadyH.nil
      go_simp
      refine (flip_any 1 no _).mono ?_
      rintro e w5 ⟨rfl, rfl⟩
      refine hK.out _ _ hHeld (fun _ => ?_)
      refine wpAnyH_ready (rs := [6]) (by kernel_rfl) (by simp) ?_
      refine AllReadyH.cons rfl (fun K hK => ?_) AllReadyH.nil
      go_simp
      refine ((Hnp.out _ (by exact (Chg.refl _ _).drew)).mono (fun _ _ h => NpPost.ok h)).mono ?_
      rintro e w4 ⟨hc4, rfl, hN4⟩
      have s4 := three_at1 ((Chg.refl (At1 nb) _).drew.trans1 hc4) hw3n hHeld0
      refine hK.out _ _ s4 (fun _ => ?_)
      refine wpAnyH_ready (rs := [8]) (by kernel_rfl) (by simp) ?_
      refine AllReadyH.cons rfl (fun K hK => ?_) AllReadyH.nil
      go_simp
      refine hK.out _ _ (three_nob ((Chg.refl _ _).alloc _) s4) (fun _ => ?_)
      refine wpAnyH_ready (rs := [9]) (by kernel_rfl) (by simp) ?_
      refine AllReadyH.cons rfl (fun K hK => ?_) AllReadyH.nil
      go_simp
      refine ((npart_any _ nb _ (flipK 12 no) (some ⟨w4.heap.size, 0, none⟩) 2 2 (hN4.nob ((Chg.refl _ _).alloc _))).mono (fun _ _ h => NpPost.no h)).mono ?_
      rintro e w6 ⟨hc6, rfl⟩
      go_wp2
      exact ⟨rfl, ((hcw3.trans1 (Chg.refl Nob _).drew.any).trans1 hc4).trans1 (((Chg.refl Nob _).alloc _).any.trans1 hc6), .inr ⟨Hno.out, rfl⟩⟩
    | m2 + 2 =>
      go_region_held3 (fun w' => w'.cell? ⟨w3.heap.size, 0, none⟩ = some (.int .i64 na.kind) ∧ w'.cell? ⟨w3.heap.size, 1, none⟩ = some (.string ⟨na.name.toArray⟩) ∧ w'.cell? ⟨w3.heap.size, 2, none⟩ = some (.slice a5 na.kids.length acap)) (first | exact hHeld0 | exact s4 | exact three_nob ((Chg.refl Nob w4).alloc _) s4 | exact s6 | exact three_at1 (chg_three _ _ _ _ _) (by omega) s6)
        (first | (go_at_call 131; (with_reducible refine (flip_any _ no _).mono ?_); rintro e w5 ⟨rfl, rfl⟩)
               | (go_at_call 130; (with_reducible refine ((Hnp.out _ (by exact (Chg.refl _ _).drew)).mono (fun _ _ h => NpPost.ok h)).mono ?_); rintro e w4 ⟨hc4, rfl, hN4⟩; have s4 := three_at1 ((Chg.refl (At1 nb) _).drew.trans1 hc4) hw3n hHeld0)
               | (go_at_call 130; (with_reducible refine ((npart_any _ nb _ (flipK 12 no) (some ⟨w4.heap.size, 0, none⟩) 2 2 (by exact hN4.nob ((Chg.refl _ _).alloc _))).mono (fun _ _ h => NpPost.ok h)).mono ?_); rintro e w6 ⟨hc6, rfl, hN6⟩; have hc46 := ((Chg.refl (At1 nb) w4).alloc (.cells #[.int .i64 (flipK 1 no), .string ⟨#[]⟩, .slice none 0 0, .int .i64 na.kind, .string ⟨na.name.toArray⟩, .slice a5 na.kids.length acap] 24)).trans1 hc6; have s6 := three_at1 hc46 hw3n s4; obtain ⟨r0, r1, r2, f0, f1, f2⟩ := cells_three (hc46.at (hc4.at (w := W3.drew) Hres3.out hnr) hnr)))
      have hsW := HsW.out
      have hs3' := Hs3.out
      have hz4 := hc4.size
      have hz4' : W3.heap.size ≤ w4.heap.size := hz4
      have hres6 := hc46.at (hc4.at (w := W3.drew) Hres3.out hnr) hnr
      have h36 : Chg (At1 nb) w3 w6 := (hA.any.trans1 ((Chg.refl (At1 nb) _).drew.trans1 hc4)).trans1 hc46
      have hcw6 : Chg (At1 nb) w w6 := (hcw3.trans1 ((Chg.refl (At1 nb) _).drew.trans1 hc4)).trans1 hc46
      have hF0 : Fresh (Ge W.heap.size) w4 (.node (flipK 1 no) [] []) (.agg #[.int .i64 (flipK 1 no), .string ⟨#[]⟩, .slice none 0 0]) := nf_leaf
      have hF : Fresh (Ge (w.heap.size + 2)) w6 (.node (flipK 12 no) [] [.node (flipK 1 no) [] [], na]) _ := hsW ▸ nf_two (k := flipK 12 no) (w := W) hF0 hFa (by omega) (by omega) (At1 nb) (fun q e => by have e : q = nb := e; omega) (fun q e => by have e : q = nb := e; omega) hc46 h36
        (hc6.at (heap_alloc_new w4 (.cells #[.int .i64 (flipK 1 no), .string ⟨#[]⟩, .slice none 0 0, .int .i64 na.kind, .string ⟨na.name.toArray⟩, .slice a5 na.kids.length acap] 24)) (fun e => by have e : w4.heap.size = nb := e; omega)) (by omega)
      have Hpost : Hid (NfPost nb L (.node (flipK 12 no) [] [.node (flipK 1 no) [] [], nfT a no]) w (.returned (.agg #[.int .i64 (flipK 12 no), .string ⟨#[]⟩, .slice (some ⟨w4.heap.size, 0, none⟩) 2 2])) (((w6.setCell ⟨w.heap.size + 1, 0, none⟩ (.int .i64 (flipK 12 no))).setCell ⟨w.heap.size + 1, 1, none⟩ (.string ⟨#[]⟩)).setCell ⟨w.heap.size + 1, 2, none⟩ (.slice (some ⟨w4.heap.size, 0, none⟩) 2 2))) := by
        show NfPost _ _ _ _ _ _
        rw [← Hna.out]
        exact nf_end (M := m2) (u := .node (flipK 12 no) [] [.node (flipK 1 no) [] [], na]) hnb hcw6 hres6 hF (by have := HM.out; simp only [sizeT, sizeL]; omega) (by have := HM.out; simp only [sizeT, sizeL]; omega) hN6
      have hb7 := block_three_all hres6 (.int .i64 (flipK 12 no)) (.string ⟨#[]⟩) (.slice (some ⟨w4.heap.size, 0, none⟩) 2 2)
      obtain ⟨e0, e1, e2, _⟩ := cells_three hb7
      have He := Lib.hid (And.intro e0 (And.intro e1 e2))
      clear hb7 hres6 e0 e1 e2 h36 hcw6 hF hFa hF0 hN6 hsW hs3' hz4 hz4' s6 s4
      go_wp2
      obtain ⟨e0, e1, e2⟩ := He.out
      exact bodyPost_ret (v := .agg #[.int .i64 (flipK 12 no), .string ⟨#[]⟩, .slice (some ⟨w4.heap.size, 0, none⟩) 2 2]) (by simp [results, Tryz.results78, go_sem, e0, e1, e2]) rfl Hpost.out
  · go_wp2
    exact ⟨rfl, hcW.any.trans1 hc3, .inr ⟨by simp only [sizeT, sizeL] at hsa ⊢; omega, rfl⟩⟩
end Go.Proofs.YtkgfdgfhpdhhaaaGreat
