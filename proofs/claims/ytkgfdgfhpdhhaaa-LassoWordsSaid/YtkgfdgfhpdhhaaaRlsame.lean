/- Whether two lassos have one word, by the reference. Conditions: the rows lie in the world, they are short. -/
import Derived.Test.YtkgfdgfhpdhhaaaLsame
namespace Go.Proofs.Ytkgfdgfhpdhhaaa
open Go.ChangeShapes Go.WideShapes Go.RowKit

theorem wordO_some {P L : List Int} (h0 : 0 < L.length) (i : Nat) : ∃ x, wordO P L i = some x := by
  unfold wordO
  split
  · exact ⟨_, List.getElem?_eq_getElem (by assumption)⟩
  · exact ⟨_, List.getElem?_eq_getElem (Nat.mod_lt _ h0)⟩
section
variable {ap al bp bl : Option Addr} {cp cl dp dl : Nat} {P L Q M : List Int} {w : World}
set_option maxRecDepth 100000 in
set_option maxHeartbeats 8000000 in
theorem rlsame_any (hl : P.length + L.length ≤ 10000) (hl2 : Q.length + M.length ≤ 10000) (hP : URow w ap P) (hL : URow w al L) (hQ : URow w bp Q) (hM : URow w bl M) :
    Calls Try.prog 23 #[.agg #[.slice ap P.length cp, .slice al L.length cl], .agg #[.slice bp Q.length dp, .slice bl M.length dl]] w (SamePost P L Q M w) := by
  obtain ⟨X, hX, hcX, hb0, hb1⟩ : ∃ X, X = (w.alloc (.cells #[.slice ap P.length cp, .slice al L.length cl] 24)).alloc (.cells #[.slice bp Q.length dp, .slice bl M.length dl] 24) ∧ Chg Nob w X ∧ X.heap[w.heap.size]? = some (.cells #[.slice ap P.length cp, .slice al L.length cl] 24 (0, 0)) ∧ X.heap[w.heap.size + 1]? = some (.cells #[.slice bp Q.length dp, .slice bl M.length dl] 24 (0, 0)) := by
    have h1 := heap_alloc_new (w.alloc (.cells #[.slice ap P.length cp, .slice al L.length cl] 24)) (.cells #[.slice bp Q.length dp, .slice bl M.length dl] 24)
    rw [World.size_alloc] at h1
    exact ⟨_, rfl, ((Chg.refl _ _).alloc _).alloc _, ((Chg.refl Nob _).alloc _).at (heap_alloc_new w _) (fun e => e), h1⟩
  have hp := rlcheck_any (cp := cp) (cl := cl) (ap := ap) (al := al) (w := X) P.length L.length hl
  have hp2 : Hid (∀ W, Calls Try.prog 19 #[.agg #[.slice bp Q.length dp, .slice bl M.length dl]] W fun e w' => e = .returned (.int .i64 (lcheckN Q.length M.length)) ∧ Chg Nob W w') := fun W => rlcheck_any (cp := dp) (cl := dl) (ap := bp) (al := bl) (w := W) Q.length M.length hl2
  have HP := Lib.hid (hP.nob hcX)
  have HL := Lib.hid (hL.nob hcX)
  have HQ := Lib.hid (hQ.nob hcX)
  have HM := Lib.hid (hM.nob hcX)
  have HcX := Lib.hid hcX
  have Hb0 := Lib.hid hb0
  have Hb1 := Lib.hid hb1
  obtain ⟨c0, c1, _⟩ := cell_two hb0
  rw [hX] at c0 c1
  obtain ⟨n, hn⟩ : ∃ n, n = lcheckN P.length L.length := ⟨_, rfl⟩
  rw [← hn] at hp
  have Hn := Lib.hid hn
  obtain ⟨m, hm⟩ : ∃ m, m = lcheckN Q.length M.length := ⟨_, rfl⟩
  rw [← hm] at hp2
  have Hm := Lib.hid hm
  clear hP hL hQ hM hcX hb0 hb1 hn hm
  have hnot : (n ≠ 0 ∨ m ≠ 0) → SameIs P L Q M false := fun h => by
    refine ⟨fun h => (by cases h), fun h2 => ?_⟩
    rcases h with h | h
    · exact absurd (Hn.out.trans h2.1) h
    · exact absurd (Hm.out.trans h2.2.1) h
  have Hnot := Lib.hid hnot
  clear hnot
  go_enter Try.func23, Try.ntmps23
  go_wp2_with fail
  rw [← hX]
  clear hX c0 c1
  (with_reducible refine hp.mono ?_)
  clear hp
  rintro e w2 ⟨rfl, hc2⟩
  cases h0 : (n == 0) with
  | false =>
    have hne : (n != 0) = true := by rw [bne, h0]; rfl
    have Hx : Hid (SameIs P L Q M false) := Hnot.out (.inl (beq_eq_false_iff_ne.1 h0))
    go_wp2
    go_ret
    exact ⟨HcX.out.trans1 hc2, _, rfl, Hx.out⟩
  | true =>
    have hne : (n != 0) = false := by rw [bne, h0]; rfl
    have hp := hp2.out w2
    obtain ⟨d0, d1, _⟩ := cell_two (hc2.at Hb1.out (fun e => e))
    go_wp2_with fail
    (with_reducible refine hp.mono ?_)
    clear hp hp2 d0 d1
    rintro e w3 ⟨rfl, hc3⟩
    have hc23 := hc2.trans1 hc3
    cases h1 : (m == 0) with
    | false =>
      have hne2 : (m != 0) = true := by rw [bne, h1]; rfl
      have Hx : Hid (SameIs P L Q M false) := Hnot.out (.inr (beq_eq_false_iff_ne.1 h1))
      go_wp2
      go_ret
      exact ⟨HcX.out.trans1 hc23, _, rfl, Hx.out⟩
    | true =>
      have hne2 : (m != 0) = false := by rw [bne, h1]; rfl
      have hn0 : lcheckN P.length L.length = 0 := by rw [← Hn.out]; exact beq_iff_eq.1 h0
      have hm0 : lcheckN Q.length M.length = 0 := by rw [← Hm.out]; exact beq_iff_eq.1 h1
      obtain ⟨hl0, _⟩ := lcheck_ok (np := P.length) (nl := L.length) (by rw [hn0]; rfl)
      obtain ⟨hm1, _⟩ := lcheck_ok (np := Q.length) (nl := M.length) (by rw [hm0]; rfl)
      have hsame : (∀ i, i < max P.length Q.length + L.length + M.length → wordO P L i = wordO Q M i) → SameIs P L Q M true := fun h => by
        refine ⟨fun _ => ⟨hn0, hm0, words_all ((per_word P L).mono (by omega)) ((per_word Q M).mono (by omega)) hl0 hm1 h⟩, fun _ => rfl⟩
      have hdiff : ∀ i, wordO P L i ≠ wordO Q M i → SameIs P L Q M false := fun i h => by
        refine ⟨fun h => (by cases h), fun h2 => absurd (h2.2.2 i) h⟩
      have Hsame := Lib.hid hsame
      have Hdiff := Lib.hid hdiff
      have HP := Lib.hid (HP.out.nob hc23)
      have HL := Lib.hid (HL.out.nob hc23)
      have HQ := Lib.hid (HQ.out.nob hc23)
      have HM := Lib.hid (HM.out.nob hc23)
      have Hb0 := Lib.hid (hc23.at Hb0.out (fun e => e))
      have Hb1 := Lib.hid (hc23.at Hb1.out (fun e => e))
      have HcX := Lib.hid (HcX.out.trans1 hc23)
      have Hl0 := Lib.hid hl0
      have Hm1 := Lib.hid hm1
      clear hsame hdiff hn0 hm0 hc2 hc3 hc23 hl0 hm1 Hnot Hn Hm h0 h1
      obtain ⟨c0, c1, _⟩ := cell_two Hb0.out
      obtain ⟨d0, d1, _⟩ := cell_two Hb1.out
      have hpl : (P.length : Int) ≤ 10000 := by omega
      have hll : (L.length : Int) ≤ 10000 := by omega
      have hql : (Q.length : Int) ≤ 10000 := by omega
      have hml : (M.length : Int) ≤ 10000 := by omega
      by_cases hgt : P.length < Q.length
      · have hgi : (P.length : Int) < (Q.length : Int) := by omega
        go_wp2_with fail
        go_loopw [6] (fun q wr => ∃ i : Nat, q = .int .i64 (i : Int) ∧ i ≤ Q.length + L.length + M.length ∧ Hid (∀ j, j < i → wordO P L j = wordO Q M j) ∧ Chg Nob w3 wr) (fun q _ => Q.length + L.length + M.length - (intOf q).toNat)
        case atStart => exact ⟨0, rfl, by omega, fun j h => absurd h (Nat.not_lt_zero j), Chg.refl _ _⟩
        case round =>
          obtain ⟨i, rfl, hi, hsm, hcr⟩ := hrel
          have hSx : Hid (∀ w', Chg Nob w3 w' → w'.cell? ⟨w.heap.size, 0, none⟩ = some (.slice ap P.length cp) ∧ w'.cell? ⟨w.heap.size, 1, none⟩ = some (.slice al L.length cl) ∧ w'.cell? ⟨w.heap.size + 1, 0, none⟩ = some (.slice bp Q.length dp) ∧ w'.cell? ⟨w.heap.size + 1, 1, none⟩ = some (.slice bl M.length dl)) := fun w' h => by
            obtain ⟨c0, c1, _⟩ := cell_two (h.at Hb0.out (fun e => e))
            obtain ⟨d0, d1, _⟩ := cell_two (h.at Hb1.out (fun e => e))
            exact ⟨c0, c1, d0, d1⟩
          clear c0 c1 d0 d1
          obtain ⟨c0, c1, d0, d1⟩ := hSx.out wr hcr
          by_cases hlt : i < Q.length + L.length + M.length
          · obtain ⟨x, hx⟩ := wordO_some (P := P) Hl0.out i
            obtain ⟨y, hy⟩ := wordO_some (P := Q) Hm1.out i
            have Hx := Lib.hid hx
            have Hy := Lib.hid hy
            have hii : (i : Int) < (Q.length : Int) + (L.length : Int) + (M.length : Int) := by omega
            have hi0 : (0 : Int) ≤ (i : Int) := by omega
            have hi1 : (i : Int) ≤ 30000 := by omega
            have him : (i : Int) < 18446744073709551616 := by omega
            clear hx hy
            cases hq : (x == y) with
            | true =>
              have hqn : (x != y) = false := by rw [bne, hq]; rfl
              have Hs : Hid (∀ j, j < i + 1 → wordO P L j = wordO Q M j) := (show ∀ j, j < i + 1 → wordO P L j = wordO Q M j from fun j hj => by
                by_cases e : j = i
                · subst e; rw [Hx.out, Hy.out, beq_iff_eq.1 hq]
                · exact hsm.out j (by omega))
              go_wp2_with fail
              refine wp_region_free (fun _ => true) (fun w' => w'.cell? ⟨w.heap.size, 0, none⟩ = some (.slice ap P.length cp) ∧ w'.cell? ⟨w.heap.size, 1, none⟩ = some (.slice al L.length cl) ∧ w'.cell? ⟨w.heap.size + 1, 0, none⟩ = some (.slice bp Q.length dp) ∧ w'.cell? ⟨w.heap.size + 1, 1, none⟩ = some (.slice bl M.length dl)) (by kernel_rfl) ⟨c0, c1, d0, d1⟩ (fun hHeld => ?_)
              refine wpAnyG_take (i := 0) (v := ?_) rfl (by kernel_rfl) (fun _ _ _ h => h) (Or.inl ⟨by rfl, ?_⟩) hHeld ?_
              rotate_left
              · intro w hSw; obtain ⟨c0, c1, d0, d1⟩ := hSw; go_simp; try (with_reducible rfl)
              simp only [Act.put, List.setIfInBounds_toArray]
              refine wpAnyG_take (i := 1) (v := ?_) rfl (by kernel_rfl) (fun _ _ _ h => h) (Or.inl ⟨by rfl, ?_⟩) hHeld ?_
              rotate_left
              · intro w hSw; obtain ⟨c0, c1, d0, d1⟩ := hSw; go_simp; try (with_reducible rfl)
              try simp only [Act.put]
              refine wpAnyG_take (i := 2) (v := ?_) rfl (by kernel_rfl) (fun _ _ _ h => h) (Or.inl ⟨by rfl, ?_⟩) hHeld ?_
              rotate_left
              · intro w hSw; obtain ⟨c0, c1, d0, d1⟩ := hSw; go_simp; try go_bits; try (with_reducible rfl)
              try simp only [Act.put]
              refine wpAnyG_take (i := 4) (v := ?_) rfl (by kernel_rfl) (fun _ _ _ h => h) (Or.inl ⟨by kernel_rfl, ?_⟩) hHeld ?_
              rotate_left
              · intro w hSw; obtain ⟨c0, c1, d0, d1⟩ := hSw; go_simp; try (with_reducible rfl)
              try simp only [Act.put]
              refine wpAnyG_take (i := 5) (v := ?_) rfl (by kernel_rfl) (fun _ _ _ h => h) (Or.inl ⟨by kernel_rfl, ?_⟩) hHeld ?_
              rotate_left
              · intro w hSw; obtain ⟨c0, c1, d0, d1⟩ := hSw; go_simp; try (with_reducible rfl)
              try simp only [Act.put]
              refine wpAnyG_take (i := 6) (v := ?_) rfl (by kernel_rfl) (fun _ _ _ h => h) (Or.inl ⟨by kernel_rfl, ?_⟩) hHeld ?_
              rotate_left
              · intro w hSw; obtain ⟨c0, c1, d0, d1⟩ := hSw; go_simp; try go_bits; try (with_reducible rfl)
              try simp only [Act.put]
              refine wpAnyG_ready (rs := [3]) (by kernel_rfl) (by simp) ?_
              refine AllReadyG.cons rfl (fun K hK => ?_) AllReadyG.nil
              rw [if_pos (by kernel_rfl)]
              go_simp
              have hp := wletter_any (w := wr.drew) (ap := ap) (al := al) (cp := cp) (cl := cl) (by omega) Hl0.out (HP.out.nob hcr.drew) (HL.out.nob hcr.drew) i (by omega) Hx.out
              (with_reducible refine hp.mono ?_)
              clear hp
              rintro e V1 ⟨rfl, hcV1⟩
              have HcV1 := Lib.hid ((hcr.drew).trans1 hcV1)
              have hHV1 := hSx.out _ HcV1.out
              refine hK.out _ _ (fun _ => hSx.out _ HcV1.out) ?_
              clear hK K hcV1
              try simp only [Act.put]
              refine wpAnyG_ready (rs := [7]) (by kernel_rfl) (by simp) ?_
              refine AllReadyG.cons rfl (fun K hK => ?_) AllReadyG.nil
              rw [if_pos (by kernel_rfl)]
              go_simp
              have hp := wletter_any (w := V1) (ap := bp) (al := bl) (cp := dp) (cl := dl) (by omega) Hm1.out (HQ.out.nob HcV1.out) (HM.out.nob HcV1.out) i (by omega) Hy.out
              (with_reducible refine hp.mono ?_)
              clear hp
              rintro e V2 ⟨rfl, hcV2⟩
              have HcV2 := Lib.hid ((HcV1.out).trans1 hcV2)
              have hHV2 := hSx.out _ HcV2.out
              refine hK.out _ _ (fun _ => hSx.out _ HcV2.out) ?_
              clear hK K hcV2
              try simp only [Act.put]
              refine wpAnyG_take (i := 8) (v := ?_) rfl (by kernel_rfl) (fun _ _ _ h => h) (Or.inl ⟨by kernel_rfl, ?_⟩) hHV2 ?_
              rotate_left
              · intro w hSw; obtain ⟨c0, c1, d0, d1⟩ := hSw; go_simp; try (with_reducible rfl)
              try simp only [Act.put]
              refine wpAnyG_done (by kernel_rfl) ?_ _
              go_simp
              go_wp2_with fail
              go_roundw
              case rel => exact ⟨i + 1, by go_num, by omega, Hs, HcV2.out⟩
              case measure => simp [intOf]; omega
            | false =>
              have hqn : (x != y) = true := by rw [bne, hq]; rfl
              have Hd : Hid (SameIs P L Q M false) := Hdiff.out i (by rw [Hx.out, Hy.out]; intro e; cases e; simp at hq)
              go_wp2_with fail
              refine wp_region_free (fun _ => true) (fun w' => w'.cell? ⟨w.heap.size, 0, none⟩ = some (.slice ap P.length cp) ∧ w'.cell? ⟨w.heap.size, 1, none⟩ = some (.slice al L.length cl) ∧ w'.cell? ⟨w.heap.size + 1, 0, none⟩ = some (.slice bp Q.length dp) ∧ w'.cell? ⟨w.heap.size + 1, 1, none⟩ = some (.slice bl M.length dl)) (by kernel_rfl) ⟨c0, c1, d0, d1⟩ (fun hHeld => ?_)
              refine wpAnyG_take (i := 0) (v := ?_) rfl (by kernel_rfl) (fun _ _ _ h => h) (Or.inl ⟨by rfl, ?_⟩) hHeld ?_
              rotate_left
              · intro w hSw; obtain ⟨c0, c1, d0, d1⟩ := hSw; go_simp; try (with_reducible rfl)
              simp only [Act.put, List.setIfInBounds_toArray]
              refine wpAnyG_take (i := 1) (v := ?_) rfl (by kernel_rfl) (fun _ _ _ h => h) (Or.inl ⟨by rfl, ?_⟩) hHeld ?_
              rotate_left
              · intro w hSw; obtain ⟨c0, c1, d0, d1⟩ := hSw; go_simp; try (with_reducible rfl)
              try simp only [Act.put]
              refine wpAnyG_take (i := 2) (v := ?_) rfl (by kernel_rfl) (fun _ _ _ h => h) (Or.inl ⟨by rfl, ?_⟩) hHeld ?_
              rotate_left
              · intro w hSw; obtain ⟨c0, c1, d0, d1⟩ := hSw; go_simp; try go_bits; try (with_reducible rfl)
              try simp only [Act.put]
              refine wpAnyG_take (i := 4) (v := ?_) rfl (by kernel_rfl) (fun _ _ _ h => h) (Or.inl ⟨by kernel_rfl, ?_⟩) hHeld ?_
              rotate_left
              · intro w hSw; obtain ⟨c0, c1, d0, d1⟩ := hSw; go_simp; try (with_reducible rfl)
              try simp only [Act.put]
              refine wpAnyG_take (i := 5) (v := ?_) rfl (by kernel_rfl) (fun _ _ _ h => h) (Or.inl ⟨by kernel_rfl, ?_⟩) hHeld ?_
              rotate_left
              · intro w hSw; obtain ⟨c0, c1, d0, d1⟩ := hSw; go_simp; try (with_reducible rfl)
              try simp only [Act.put]
              refine wpAnyG_take (i := 6) (v := ?_) rfl (by kernel_rfl) (fun _ _ _ h => h) (Or.inl ⟨by kernel_rfl, ?_⟩) hHeld ?_
              rotate_left
              · intro w hSw; obtain ⟨c0, c1, d0, d1⟩ := hSw; go_simp; try go_bits; try (with_reducible rfl)
              try simp only [Act.put]
              refine wpAnyG_ready (rs := [3]) (by kernel_rfl) (by simp) ?_
              refine AllReadyG.cons rfl (fun K hK => ?_) AllReadyG.nil
              rw [if_pos (by kernel_rfl)]
              go_simp
              have hp := wletter_any (w := wr.drew) (ap := ap) (al := al) (cp := cp) (cl := cl) (by omega) Hl0.out (HP.out.nob hcr.drew) (HL.out.nob hcr.drew) i (by omega) Hx.out
              (with_reducible refine hp.mono ?_)
              clear hp
              rintro e V1 ⟨rfl, hcV1⟩
              have HcV1 := Lib.hid ((hcr.drew).trans1 hcV1)
              have hHV1 := hSx.out _ HcV1.out
              refine hK.out _ _ (fun _ => hSx.out _ HcV1.out) ?_
              clear hK K hcV1
              try simp only [Act.put]
              refine wpAnyG_ready (rs := [7]) (by kernel_rfl) (by simp) ?_
              refine AllReadyG.cons rfl (fun K hK => ?_) AllReadyG.nil
              rw [if_pos (by kernel_rfl)]
              go_simp
              have hp := wletter_any (w := V1) (ap := bp) (al := bl) (cp := dp) (cl := dl) (by omega) Hm1.out (HQ.out.nob HcV1.out) (HM.out.nob HcV1.out) i (by omega) Hy.out
              (with_reducible refine hp.mono ?_)
              clear hp
              rintro e V2 ⟨rfl, hcV2⟩
              have HcV2 := Lib.hid ((HcV1.out).trans1 hcV2)
              have hHV2 := hSx.out _ HcV2.out
              refine hK.out _ _ (fun _ => hSx.out _ HcV2.out) ?_
              clear hK K hcV2
              try simp only [Act.put]
              refine wpAnyG_take (i := 8) (v := ?_) rfl (by kernel_rfl) (fun _ _ _ h => h) (Or.inl ⟨by kernel_rfl, ?_⟩) hHV2 ?_
              rotate_left
              · intro w hSw; obtain ⟨c0, c1, d0, d1⟩ := hSw; go_simp; try (with_reducible rfl)
              try simp only [Act.put]
              refine wpAnyG_done (by kernel_rfl) ?_ _
              go_simp
              go_wp2
              go_ret
              exact ⟨HcX.out.trans1 HcV2.out, _, rfl, Hd.out⟩
          · have Hs : Hid (SameIs P L Q M true) := Hsame.out (fun j hj => hsm.out j (by omega))
            have hii : ¬ (i : Int) < (Q.length : Int) + (L.length : Int) + (M.length : Int) := by omega
            go_wp2
            go_ret
            exact ⟨HcX.out.trans1 hcr, _, rfl, Hs.out⟩
      · have hgi : ¬ (P.length : Int) < (Q.length : Int) := by omega
        go_wp2_with fail
        go_loopw [6] (fun q wr => ∃ i : Nat, q = .int .i64 (i : Int) ∧ i ≤ P.length + L.length + M.length ∧ Hid (∀ j, j < i → wordO P L j = wordO Q M j) ∧ Chg Nob w3 wr) (fun q _ => P.length + L.length + M.length - (intOf q).toNat)
        case atStart => exact ⟨0, rfl, by omega, fun j h => absurd h (Nat.not_lt_zero j), Chg.refl _ _⟩
        case round =>
          obtain ⟨i, rfl, hi, hsm, hcr⟩ := hrel
          have hSx : Hid (∀ w', Chg Nob w3 w' → w'.cell? ⟨w.heap.size, 0, none⟩ = some (.slice ap P.length cp) ∧ w'.cell? ⟨w.heap.size, 1, none⟩ = some (.slice al L.length cl) ∧ w'.cell? ⟨w.heap.size + 1, 0, none⟩ = some (.slice bp Q.length dp) ∧ w'.cell? ⟨w.heap.size + 1, 1, none⟩ = some (.slice bl M.length dl)) := fun w' h => by
            obtain ⟨c0, c1, _⟩ := cell_two (h.at Hb0.out (fun e => e))
            obtain ⟨d0, d1, _⟩ := cell_two (h.at Hb1.out (fun e => e))
            exact ⟨c0, c1, d0, d1⟩
          clear c0 c1 d0 d1
          obtain ⟨c0, c1, d0, d1⟩ := hSx.out wr hcr
          by_cases hlt : i < P.length + L.length + M.length
          · obtain ⟨x, hx⟩ := wordO_some (P := P) Hl0.out i
            obtain ⟨y, hy⟩ := wordO_some (P := Q) Hm1.out i
            have Hx := Lib.hid hx
            have Hy := Lib.hid hy
            have hii : (i : Int) < (P.length : Int) + (L.length : Int) + (M.length : Int) := by omega
            have hi0 : (0 : Int) ≤ (i : Int) := by omega
            have hi1 : (i : Int) ≤ 30000 := by omega
            have him : (i : Int) < 18446744073709551616 := by omega
            clear hx hy
            cases hq : (x == y) with
            | true =>
              have hqn : (x != y) = false := by rw [bne, hq]; rfl
              have Hs : Hid (∀ j, j < i + 1 → wordO P L j = wordO Q M j) := (show ∀ j, j < i + 1 → wordO P L j = wordO Q M j from fun j hj => by
                by_cases e : j = i
                · subst e; rw [Hx.out, Hy.out, beq_iff_eq.1 hq]
                · exact hsm.out j (by omega))
              go_wp2_with fail
              refine wp_region_free (fun _ => true) (fun w' => w'.cell? ⟨w.heap.size, 0, none⟩ = some (.slice ap P.length cp) ∧ w'.cell? ⟨w.heap.size, 1, none⟩ = some (.slice al L.length cl) ∧ w'.cell? ⟨w.heap.size + 1, 0, none⟩ = some (.slice bp Q.length dp) ∧ w'.cell? ⟨w.heap.size + 1, 1, none⟩ = some (.slice bl M.length dl)) (by kernel_rfl) ⟨c0, c1, d0, d1⟩ (fun hHeld => ?_)
              refine wpAnyG_take (i := 0) (v := ?_) rfl (by kernel_rfl) (fun _ _ _ h => h) (Or.inl ⟨by rfl, ?_⟩) hHeld ?_
              rotate_left
              · intro w hSw; obtain ⟨c0, c1, d0, d1⟩ := hSw; go_simp; try (with_reducible rfl)
              simp only [Act.put, List.setIfInBounds_toArray]
              refine wpAnyG_take (i := 1) (v := ?_) rfl (by kernel_rfl) (fun _ _ _ h => h) (Or.inl ⟨by rfl, ?_⟩) hHeld ?_
              rotate_left
              · intro w hSw; obtain ⟨c0, c1, d0, d1⟩ := hSw; go_simp; try (with_reducible rfl)
              try simp only [Act.put]
              refine wpAnyG_take (i := 2) (v := ?_) rfl (by kernel_rfl) (fun _ _ _ h => h) (Or.inl ⟨by rfl, ?_⟩) hHeld ?_
              rotate_left
              · intro w hSw; obtain ⟨c0, c1, d0, d1⟩ := hSw; go_simp; try go_bits; try (with_reducible rfl)
              try simp only [Act.put]
              refine wpAnyG_take (i := 4) (v := ?_) rfl (by kernel_rfl) (fun _ _ _ h => h) (Or.inl ⟨by kernel_rfl, ?_⟩) hHeld ?_
              rotate_left
              · intro w hSw; obtain ⟨c0, c1, d0, d1⟩ := hSw; go_simp; try (with_reducible rfl)
              try simp only [Act.put]
              refine wpAnyG_take (i := 5) (v := ?_) rfl (by kernel_rfl) (fun _ _ _ h => h) (Or.inl ⟨by kernel_rfl, ?_⟩) hHeld ?_
              rotate_left
              · intro w hSw; obtain ⟨c0, c1, d0, d1⟩ := hSw; go_simp; try (with_reducible rfl)
              try simp only [Act.put]
              refine wpAnyG_take (i := 6) (v := ?_) rfl (by kernel_rfl) (fun _ _ _ h => h) (Or.inl ⟨by kernel_rfl, ?_⟩) hHeld ?_
              rotate_left
              · intro w hSw; obtain ⟨c0, c1, d0, d1⟩ := hSw; go_simp; try go_bits; try (with_reducible rfl)
              try simp only [Act.put]
              refine wpAnyG_ready (rs := [3]) (by kernel_rfl) (by simp) ?_
              refine AllReadyG.cons rfl (fun K hK => ?_) AllReadyG.nil
              rw [if_pos (by kernel_rfl)]
              go_simp
              have hp := wletter_any (w := wr.drew) (ap := ap) (al := al) (cp := cp) (cl := cl) (by omega) Hl0.out (HP.out.nob hcr.drew) (HL.out.nob hcr.drew) i (by omega) Hx.out
              (with_reducible refine hp.mono ?_)
              clear hp
              rintro e V1 ⟨rfl, hcV1⟩
              have HcV1 := Lib.hid ((hcr.drew).trans1 hcV1)
              have hHV1 := hSx.out _ HcV1.out
              refine hK.out _ _ (fun _ => hSx.out _ HcV1.out) ?_
              clear hK K hcV1
              try simp only [Act.put]
              refine wpAnyG_ready (rs := [7]) (by kernel_rfl) (by simp) ?_
              refine AllReadyG.cons rfl (fun K hK => ?_) AllReadyG.nil
              rw [if_pos (by kernel_rfl)]
              go_simp
              have hp := wletter_any (w := V1) (ap := bp) (al := bl) (cp := dp) (cl := dl) (by omega) Hm1.out (HQ.out.nob HcV1.out) (HM.out.nob HcV1.out) i (by omega) Hy.out
              (with_reducible refine hp.mono ?_)
              clear hp
              rintro e V2 ⟨rfl, hcV2⟩
              have HcV2 := Lib.hid ((HcV1.out).trans1 hcV2)
              have hHV2 := hSx.out _ HcV2.out
              refine hK.out _ _ (fun _ => hSx.out _ HcV2.out) ?_
              clear hK K hcV2
              try simp only [Act.put]
              refine wpAnyG_take (i := 8) (v := ?_) rfl (by kernel_rfl) (fun _ _ _ h => h) (Or.inl ⟨by kernel_rfl, ?_⟩) hHV2 ?_
              rotate_left
              · intro w hSw; obtain ⟨c0, c1, d0, d1⟩ := hSw; go_simp; try (with_reducible rfl)
              try simp only [Act.put]
              refine wpAnyG_done (by kernel_rfl) ?_ _
              go_simp
              go_wp2_with fail
              go_roundw
              case rel => exact ⟨i + 1, by go_num, by omega, Hs, HcV2.out⟩
              case measure => simp [intOf]; omega
            | false =>
              have hqn : (x != y) = true := by rw [bne, hq]; rfl
              have Hd : Hid (SameIs P L Q M false) := Hdiff.out i (by rw [Hx.out, Hy.out]; intro e; cases e; simp at hq)
              go_wp2_with fail
              refine wp_region_free (fun _ => true) (fun w' => w'.cell? ⟨w.heap.size, 0, none⟩ = some (.slice ap P.length cp) ∧ w'.cell? ⟨w.heap.size, 1, none⟩ = some (.slice al L.length cl) ∧ w'.cell? ⟨w.heap.size + 1, 0, none⟩ = some (.slice bp Q.length dp) ∧ w'.cell? ⟨w.heap.size + 1, 1, none⟩ = some (.slice bl M.length dl)) (by kernel_rfl) ⟨c0, c1, d0, d1⟩ (fun hHeld => ?_)
              refine wpAnyG_take (i := 0) (v := ?_) rfl (by kernel_rfl) (fun _ _ _ h => h) (Or.inl ⟨by rfl, ?_⟩) hHeld ?_
              rotate_left
              · intro w hSw; obtain ⟨c0, c1, d0, d1⟩ := hSw; go_simp; try (with_reducible rfl)
              simp only [Act.put, List.setIfInBounds_toArray]
              refine wpAnyG_take (i := 1) (v := ?_) rfl (by kernel_rfl) (fun _ _ _ h => h) (Or.inl ⟨by rfl, ?_⟩) hHeld ?_
              rotate_left
              · intro w hSw; obtain ⟨c0, c1, d0, d1⟩ := hSw; go_simp; try (with_reducible rfl)
              try simp only [Act.put]
              refine wpAnyG_take (i := 2) (v := ?_) rfl (by kernel_rfl) (fun _ _ _ h => h) (Or.inl ⟨by rfl, ?_⟩) hHeld ?_
              rotate_left
              · intro w hSw; obtain ⟨c0, c1, d0, d1⟩ := hSw; go_simp; try go_bits; try (with_reducible rfl)
              try simp only [Act.put]
              refine wpAnyG_take (i := 4) (v := ?_) rfl (by kernel_rfl) (fun _ _ _ h => h) (Or.inl ⟨by kernel_rfl, ?_⟩) hHeld ?_
              rotate_left
              · intro w hSw; obtain ⟨c0, c1, d0, d1⟩ := hSw; go_simp; try (with_reducible rfl)
              try simp only [Act.put]
              refine wpAnyG_take (i := 5) (v := ?_) rfl (by kernel_rfl) (fun _ _ _ h => h) (Or.inl ⟨by kernel_rfl, ?_⟩) hHeld ?_
              rotate_left
              · intro w hSw; obtain ⟨c0, c1, d0, d1⟩ := hSw; go_simp; try (with_reducible rfl)
              try simp only [Act.put]
              refine wpAnyG_take (i := 6) (v := ?_) rfl (by kernel_rfl) (fun _ _ _ h => h) (Or.inl ⟨by kernel_rfl, ?_⟩) hHeld ?_
              rotate_left
              · intro w hSw; obtain ⟨c0, c1, d0, d1⟩ := hSw; go_simp; try go_bits; try (with_reducible rfl)
              try simp only [Act.put]
              refine wpAnyG_ready (rs := [3]) (by kernel_rfl) (by simp) ?_
              refine AllReadyG.cons rfl (fun K hK => ?_) AllReadyG.nil
              rw [if_pos (by kernel_rfl)]
              go_simp
              have hp := wletter_any (w := wr.drew) (ap := ap) (al := al) (cp := cp) (cl := cl) (by omega) Hl0.out (HP.out.nob hcr.drew) (HL.out.nob hcr.drew) i (by omega) Hx.out
              (with_reducible refine hp.mono ?_)
              clear hp
              rintro e V1 ⟨rfl, hcV1⟩
              have HcV1 := Lib.hid ((hcr.drew).trans1 hcV1)
              have hHV1 := hSx.out _ HcV1.out
              refine hK.out _ _ (fun _ => hSx.out _ HcV1.out) ?_
              clear hK K hcV1
              try simp only [Act.put]
              refine wpAnyG_ready (rs := [7]) (by kernel_rfl) (by simp) ?_
              refine AllReadyG.cons rfl (fun K hK => ?_) AllReadyG.nil
              rw [if_pos (by kernel_rfl)]
              go_simp
              have hp := wletter_any (w := V1) (ap := bp) (al := bl) (cp := dp) (cl := dl) (by omega) Hm1.out (HQ.out.nob HcV1.out) (HM.out.nob HcV1.out) i (by omega) Hy.out
              (with_reducible refine hp.mono ?_)
              clear hp
              rintro e V2 ⟨rfl, hcV2⟩
              have HcV2 := Lib.hid ((HcV1.out).trans1 hcV2)
              have hHV2 := hSx.out _ HcV2.out
              refine hK.out _ _ (fun _ => hSx.out _ HcV2.out) ?_
              clear hK K hcV2
              try simp only [Act.put]
              refine wpAnyG_take (i := 8) (v := ?_) rfl (by kernel_rfl) (fun _ _ _ h => h) (Or.inl ⟨by kernel_rfl, ?_⟩) hHV2 ?_
              rotate_left
              · intro w hSw; obtain ⟨c0, c1, d0, d1⟩ := hSw; go_simp; try (with_reducible rfl)
              try simp only [Act.put]
              refine wpAnyG_done (by kernel_rfl) ?_ _
              go_simp
              go_wp2
              go_ret
              exact ⟨HcX.out.trans1 HcV2.out, _, rfl, Hd.out⟩
          · have Hs : Hid (SameIs P L Q M true) := Hsame.out (fun j hj => hsm.out j (by omega))
            have hii : ¬ (i : Int) < (P.length : Int) + (L.length : Int) + (M.length : Int) := by omega
            go_wp2
            go_ret
            exact ⟨HcX.out.trans1 hcr, _, rfl, Hs.out⟩
end
end Go.Proofs.Ytkgfdgfhpdhhaaa
