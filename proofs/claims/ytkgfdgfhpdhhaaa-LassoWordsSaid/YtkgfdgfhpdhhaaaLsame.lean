/- Whether two lassos have one word. Conditions: the rows lie in the world, they are short. -/
import Derived.Test.YtkgfdgfhpdhhaaaLcanon
namespace Go.Proofs.Ytkgfdgfhpdhhaaa
open Go.ChangeShapes Go.WideShapes Go.RowKit

theorem IsCanon.small {P L P' L' : List Int} (h : IsCanon P L P' L') (hL : L ≠ []) : P'.length ≤ P.length ∧ L'.length ≤ L.length := by
  have hl0 : 0 < L.length := List.length_pos_iff.2 hL
  exact ⟨h.can.first _ (h.can.per.early hl0 (per_word P L)), h.can.least _ _ hl0 (per_word P L)⟩
/-- Both lassos may be, and their words are the same. -/
def SameIs (P L Q M : List Int) (x : Bool) : Prop := x = true ↔ (lcheckN P.length L.length = 0 ∧ lcheckN Q.length M.length = 0 ∧ ∀ i, wordO P L i = wordO Q M i)
theorem SameIs.det {P L Q M : List Int} {x y : Bool} (h : SameIs P L Q M x) (h' : SameIs P L Q M y) : x = y := by
  have := h.trans h'.symm
  cases x <;> cases y <;> simp at this ⊢
def SamePost (P L Q M : List Int) (w : World) (e : Ending) (w' : World) : Prop := Chg Nob w w' ∧ ∃ x, e = .returned (.bool x) ∧ SameIs P L Q M x
theorem same_canon {P L Q M P1 L1 P2 L2 : List Int} (h0 : lcheckN P.length L.length = 0) (h1 : lcheckN Q.length M.length = 0) (h : IsCanon P L P1 L1) (h' : IsCanon Q M P2 L2) : SameIs P L Q M (P1 == P2 && L1 == L2) := by
  refine ⟨fun hx => ⟨h0, h1, fun i => ?_⟩, fun hx => ?_⟩
  · rw [Bool.and_eq_true, beq_iff_eq, beq_iff_eq] at hx
    rw [← h.words, ← h'.words, hx.1, hx.2]
  · rw [Bool.and_eq_true, beq_iff_eq, beq_iff_eq]
    exact h.of_words h' hx.2.2
section
variable {ap al bp bl : Option Addr} {cp cl dp dl : Nat} {P L Q M : List Int} {w : World}
set_option maxRecDepth 100000 in
set_option maxHeartbeats 8000000 in
theorem lsame_any (hl : P.length + L.length ≤ 10000) (hl2 : Q.length + M.length ≤ 10000) (hcp : P.length ≤ cp) (hcl : L.length ≤ cl) (hdp : Q.length ≤ dp) (hdl : M.length ≤ dl) (hP : URow w ap P) (hL : URow w al L) (hQ : URow w bp Q) (hM : URow w bl M) :
    Calls Try.prog 22 #[.agg #[.slice ap P.length cp, .slice al L.length cl], .agg #[.slice bp Q.length dp, .slice bl M.length dl]] w (SamePost P L Q M w) := by
  obtain ⟨X, hX, hcX, hb0, hb1⟩ : ∃ X, X = (w.alloc (.cells #[.slice ap P.length cp, .slice al L.length cl] 24)).alloc (.cells #[.slice bp Q.length dp, .slice bl M.length dl] 24) ∧ Chg Nob w X ∧ X.heap[w.heap.size]? = some (.cells #[.slice ap P.length cp, .slice al L.length cl] 24 (0, 0)) ∧ X.heap[w.heap.size + 1]? = some (.cells #[.slice bp Q.length dp, .slice bl M.length dl] 24 (0, 0)) := by
    have h1 := heap_alloc_new (w.alloc (.cells #[.slice ap P.length cp, .slice al L.length cl] 24)) (.cells #[.slice bp Q.length dp, .slice bl M.length dl] 24)
    rw [World.size_alloc] at h1
    exact ⟨_, rfl, ((Chg.refl _ _).alloc _).alloc _, ((Chg.refl Nob _).alloc _).at (heap_alloc_new w _) (fun e => e), h1⟩
  have hp := lcanon_any (w := X) hl hcp hcl (hP.nob hcX) (hL.nob hcX)
  have HQ := Lib.hid (hQ.nob hcX)
  have HM := Lib.hid (hM.nob hcX)
  have HcX := Lib.hid hcX
  have Hb0 := Lib.hid hb0
  have Hb1 := Lib.hid hb1
  obtain ⟨c0, c1, _⟩ := cell_two hb0
  rw [hX] at c0 c1
  obtain ⟨n, hn⟩ : ∃ n, n = lcheckN P.length L.length := ⟨_, rfl⟩
  rw [← hn] at hp
  have Hn := Lib.hid hn
  obtain ⟨m, hm⟩ : ∃ m, m = lcheckN Q.length M.length := ⟨_, rfl⟩
  have Hm := Lib.hid hm
  clear hP hL hQ hM hcX hb0 hb1 hn hm
  go_enter Try.func22, Try.ntmps22
  go_wp2_with fail
  rw [← hX]
  clear hX c0 c1
  (with_reducible refine hp.mono ?_)
  clear hp
  rintro e w2 ⟨hc2, P1, L1, v1, rfl, ⟨a1, c1, a2, c2, rfl, hr1, hr2⟩, hcan, _⟩
  obtain ⟨Y, hY, hcY, _, hbY⟩ := box_two w2 (.slice a1 P1.length c1) (.slice a2 L1.length c2)
  have HbY := Lib.hid hbY
  have HcY := Lib.hid hcY
  have hc2Y := hc2.trans1 hcY
  have Hr1 := Lib.hid (hr1.nob hcY)
  have Hr2 := Lib.hid (hr2.nob hcY)
  have Hcan := Lib.hid hcan
  have hp := lcanon_any (w := Y) hl2 hdp hdl (HQ.out.nob hc2Y) (HM.out.nob hc2Y)
  have hc0Y := HcX.out.trans1 hc2Y
  have Hc0Y := Lib.hid hc0Y
  obtain ⟨d0, d1, _⟩ := cell_two (hc2Y.at Hb1.out (fun e => e))
  rw [← Hm.out] at hp
  rw [hY] at d0 d1
  clear hr1 hr2 hcan hbY hcY hc2 hc2Y hc0Y
  go_wp2_with fail
  rw [← hY]
  clear hY d0 d1
  (with_reducible refine hp.mono ?_)
  clear hp
  rintro e w3 ⟨hc3, P2, L2, v2, rfl, ⟨b1, e1, b2, e2, rfl, hs1, hs2⟩, hcan2, _⟩
  obtain ⟨Z, hZ, hcZ, _, hbZ⟩ := box_two w3 (.slice b1 P2.length e1) (.slice b2 L2.length e2)
  have hc3Z := hc3.trans1 hcZ
  have Hs1 := Lib.hid (hs1.nob hcZ)
  have Hs2 := Lib.hid (hs2.nob hcZ)
  have Hr1 := Lib.hid (Hr1.out.nob hc3Z)
  have Hr2 := Lib.hid (Hr2.out.nob hc3Z)
  have Hcan2 := Lib.hid hcan2
  have HcZ := Lib.hid (Hc0Y.out.trans1 hc3Z)
  have HbYZ := Lib.hid (hc3Z.at HbY.out (fun e => e))
  have HbZ := Lib.hid hbZ
  obtain ⟨p0, p1, _⟩ := cell_two HbYZ.out
  obtain ⟨q0, q1, _⟩ := cell_two HbZ.out
  have P0 := Lib.hid p0
  have P1' := Lib.hid p1
  have Q0 := Lib.hid q0
  have Q1 := Lib.hid q1
  rw [hZ] at p0 p1 q0 q1
  clear hs1 hs2 hcan2 hbZ hcZ hc3 hc3Z
  have hnot : (n ≠ 0 ∨ m ≠ 0) → SameIs P L Q M false := fun h => by
    refine ⟨fun h => (by cases h), fun h2 => ?_⟩
    rcases h with h | h
    · exact absurd (Hn.out.trans h2.1) h
    · exact absurd (Hm.out.trans h2.2.1) h
  have Hnot := Lib.hid hnot
  clear hnot
  cases h0 : (n == 0) with
  | false =>
    have Hx : Hid (SameIs P L Q M false) := Hnot.out (.inl (beq_eq_false_iff_ne.1 h0))
    go_wp2_with fail
    rw [← hZ]
    go_wp2
    go_ret
    exact ⟨HcZ.out, _, rfl, Hx.out⟩
  | true =>
    cases h1 : (m == 0) with
    | false =>
      have Hx : Hid (SameIs P L Q M false) := Hnot.out (.inr (beq_eq_false_iff_ne.1 h1))
      go_wp2_with fail
      rw [← hZ]
      go_wp2
      go_ret
      exact ⟨HcZ.out, _, rfl, Hx.out⟩
    | true =>
      have hn0 : lcheckN P.length L.length = 0 := by rw [← Hn.out]; exact beq_iff_eq.1 h0
      have hm0 : lcheckN Q.length M.length = 0 := by rw [← Hm.out]; exact beq_iff_eq.1 h1
      have hx := same_canon hn0 hm0 (Hcan.out hn0) (Hcan2.out hm0)
      have hL0 : L ≠ [] := List.length_pos_iff.1 (lcheck_ok (np := P.length) (nl := L.length) (by rw [hn0]; rfl)).1
      have hM0 : M ≠ [] := List.length_pos_iff.1 (lcheck_ok (np := Q.length) (nl := M.length) (by rw [hm0]; rfl)).1
      obtain ⟨z1, z2⟩ := (Hcan.out hn0).small hL0
      obtain ⟨z3, z4⟩ := (Hcan2.out hm0).small hM0
      have hp := uequal_any (w := Z) c1 e1 (by omega) (by omega) Hr1.out Hs1.out
      have Hp2 : Hid (∀ W, Chg Nob Z W → Calls Try.prog 46 #[.slice a2 L1.length c2, .slice b2 L2.length e2] W fun e w' => e = .returned (.bool (L1 == L2)) ∧ Chg Nob W w') := fun W hW => uequal_any (w := W) c2 e2 (by omega) (by omega) (Hr2.out.nob hW) (Hs2.out.nob hW)
      have Hx := Lib.hid hx
      clear hn0 hm0 hx hL0 hM0 z1 z2 z3 z4
      obtain ⟨x, hxe⟩ : ∃ x, x = (P1 == P2) := ⟨_, rfl⟩
      obtain ⟨y, hye⟩ : ∃ y, y = (L1 == L2) := ⟨_, rfl⟩
      rw [← hxe] at hp Hx
      rw [← hye] at Hp2 Hx
      clear hxe hye
      go_wp2_with fail
      rw [← hZ]
      clear hZ p0 p1 q0 q1
      have p0 := P0.out
      have q0 := Q0.out
      (with_reducible refine hp.mono ?_)
      clear hp p0 q0
      rintro e w4 ⟨rfl, hc4⟩
      have p1 := hc4.cell' P1'.out (fun e => e)
      have q1 := hc4.cell' Q1.out (fun e => e)
      cases x with
      | false =>
        go_wp2
        go_ret
        exact ⟨HcZ.out.trans1 hc4, _, rfl, Hx.out⟩
      | true =>
        have hp := Hp2.out w4 hc4
        go_wp2_with fail
        (with_reducible refine hp.mono ?_)
        clear hp
        rintro e w5 ⟨rfl, hc5⟩
        go_wp2
        go_ret
        exact ⟨(HcZ.out.trans1 hc4).trans1 hc5, _, rfl, by have := Hx.out; rwa [Bool.true_and] at this⟩
end
end Go.Proofs.Ytkgfdgfhpdhhaaa
