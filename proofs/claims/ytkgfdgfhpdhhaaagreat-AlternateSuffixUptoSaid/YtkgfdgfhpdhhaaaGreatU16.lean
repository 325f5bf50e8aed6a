/- Parts of the walks and of the plain theory: Which automata may be, as the reference tells. Conditions: the automaton lies in the world, its rows are of no bulk beyond bounds. -/
import Derived.Test.YtkgfdgfhpdhhaaaGreatU15
import Derived.Deep.DeepCutAuto
import Derived.Test.YtkgfdgfhpdhhaaaGreatU11
namespace Go.Proofs.YtkgfdgfhpdhhaaaGreat
open Go.ChangeShapes Go.WideShapes Go.RowKit
attribute [local go_sem] Oper.semAt_some
def initP (I : List (List Int)) (S : List Sti) : Prop := S.length ≤ 4096 ∧ I.length ≤ 131072 ∧ ∀ j, j < I.length → setP (I.getD j []) ((S.length : Int) - 1)
section
variable {w : World} {ai as' : Option Addr} {ci cs : Nat} {I : List (List Int)} {S : List Sti}
set_option maxRecDepth 100000 in
set_option maxHeartbeats 8000000 in
theorem racheck_any (hI : I.length ≤ 2000000) (hS : S.length ≤ 2000000) (h : LRow w ai I) (k : SRow w as' S) : Calls Tryz.prog 24 #[.agg #[.slice ai I.length ci, .slice as' S.length cs]] w fun e w' => e = .returned (.int .i64 (checkAN I S)) ∧ Chg Nob w w' := by
  obtain ⟨X, hX, hcX, hb, hsX⟩ := box_cells w #[.slice ai I.length ci, .slice as' S.length cs] 38
  obtain ⟨c0, c1, _⟩ := cell_two hb
  have HcX := Lib.hid hcX
  have HI := Lib.hid (h.nob hcX)
  have HS := Lib.hid (k.nob hcX)
  have HB : Hid (∀ W, Chg Nob X W → W.cell? ⟨w.heap.size, 0, none⟩ = some (.slice ai I.length ci) ∧ W.cell? ⟨w.heap.size, 1, none⟩ = some (.slice as' S.length cs)) := (show ∀ W, Chg Nob X W → _ ∧ _ from fun W hW => ⟨hW.cell' c0 (fun e => e), hW.cell' c1 (fun e => e)⟩)
  obtain ⟨b1, hb1⟩ : ∃ b1, b1 = decide (S.length ≤ 4096) := ⟨_, rfl⟩
  obtain ⟨b2, hb2⟩ : ∃ b2, b2 = decide (I.length ≤ 131072) := ⟨_, rfl⟩
  have q1 : decide ((S.length : Int) ≤ 4096) = b1 := by rw [hb1]; exact decide_eq_decide.2 (by omega)
  have q2 : decide ((I.length : Int) ≤ 131072) = b2 := by rw [hb2]; exact decide_eq_decide.2 (by omega)
  have Hfb : Hid ((b1 && b2) = true ↔ (S.length ≤ 4096 ∧ I.length ≤ 131072)) := (show _ ↔ _ by rw [Bool.and_eq_true, hb1, hb2, decide_eq_true_eq, decide_eq_true_eq])
  have q1n := hb1.symm
  have q2n := hb2.symm
  obtain ⟨fb0, hfb0⟩ : ∃ fb0, fb0 = (b1 && b2) := ⟨_, rfl⟩
  have Hfb0 : Hid (fb0 = true ↔ (S.length ≤ 4096 ∧ I.length ≤ 131072)) := (show _ ↔ _ by rw [hfb0]; exact Hfb.out)
  rw [hX] at c0 c1
  clear h k hb hcX hsX hb1 hb2
  go_enter Tryz.func24, Tryz.ntmps24
  go_upto_region 1 with fail
  rw [← hX]
  rw [← hX] at c0 c1
  clear hX
  go_cut [3] from 10 to 20 (fun fv W => fv = .bool fb0 ∧ Hid (Chg Nob X W))
  case first =>
    cases b1 with
    | true =>
      go_wp2_with fail
      go_meet
      case rel => exact ⟨by rw [hfb0]; rfl, Chg.refl _ _⟩
    | false =>
      go_wp2_with fail
      go_meet
      case rel => exact ⟨by rw [hfb0]; rfl, Chg.refl _ _⟩
  case rest =>
    obtain ⟨rfl, Hc1⟩ := hcut
    clear hfb0 q1 q2 q1n q2n Hfb c0 c1
    go_step
    go_step
    go_cut [3, 4] from 20 to 40 (fun fv _ W => ∃ fb : Bool, fv = .bool fb ∧ Hid (fb = true ↔ initP I S) ∧ Hid (Chg Nob X W))
    case rest =>
      obtain ⟨fb, rfl, Hf0, Hc2⟩ := hcut
      go_wp2_with fail
      go_loopw [3, 5, 6] (fun fv nv iv wr => ∃ (i n : Nat) (fb : Bool), iv = .int .i64 (i : Int) ∧ nv = .int .i64 (n : Int) ∧ fv = .bool fb ∧ i ≤ S.length ∧ Hid (n = sumN (S.take i)) ∧ Hid (fb = true ↔ (initP I S ∧ (∀ j, j < i → stateP (S.getD j s0) j) ∧ n ≤ 131072)) ∧ Hid (Chg Nob X wr)) (fun _ _ iv _ => S.length - (intOf iv).toNat)
      case atStart => exact ⟨0, 0, fb, rfl, rfl, rfl, Nat.zero_le _, (by show 0 = sumN (S.take 0); rfl), (show fb = true ↔ _ from ⟨fun h => ⟨Hf0.out.1 h, fun j hj => absurd hj (Nat.not_lt_zero j), Nat.zero_le _⟩, fun h => Hf0.out.2 h.1⟩), Hc2⟩
      case round =>
        obtain ⟨i, n, fb, rfl, rfl, rfl, hi, Hn, Hf, Hc⟩ := hrel
        obtain ⟨c0, c1⟩ := HB.out wr Hc.out
        have fin : ∀ fb : Bool, (fb = false ∨ i = S.length) → (fb = true ↔ (initP I S ∧ (∀ j, j < i → stateP (S.getD j s0) j) ∧ n ≤ 131072)) → checkAN I S = if fb then 0 else 110 := fun fb he hf => by
          unfold checkAN
          by_cases hfine : fineA I S
          · have h1 : fb = true := hf.2 ⟨⟨hfine.1, hfine.2.1, hfine.2.2.1⟩, fun j hj => hfine.2.2.2.1 j (by omega), by
              rw [Hn.out]
              have h5 := hfine.2.2.2.2
              have h6 : sumN (S.take i) ≤ sumN S := by
                have e : sumN S = sumN (S.take i) + sumN (S.drop i) := by
                  unfold sumN
                  rw [← List.sum_append, ← List.map_append, List.take_append_drop]
                omega
              omega⟩
            rw [if_pos hfine, h1]; rfl
          · rw [if_neg hfine]
            rcases he with rfl | rfl
            · rfl
            · cases fb with
              | false => rfl
              | true =>
                obtain ⟨h1, h2, h3⟩ := hf.1 rfl
                exact absurd ⟨h1.1, h1.2.1, h1.2.2, h2, by rw [Hn.out, List.take_length] at h3; exact h3⟩ hfine
        by_cases hlt : i < S.length
        · have hii : (i : Int) < (S.length : Int) := by omega
          have hiid : decide ((i : Int) < (S.length : Int)) = true := decide_eq_true hii
          cases fb with
          | true =>
            obtain ⟨s, hs⟩ : ∃ s, S[i]? = some s := ⟨_, List.getElem?_eq_getElem hlt⟩
            obtain ⟨b, o, am, cm, rfl, hf, hmv, hml, hmr⟩ := HS.out i s hs
            have hsd : S.getD i s0 = s := by rw [List.getD_eq_getElem?_getD, hs]; rfl
            have Hsd := Lib.hid hsd
            have Hn2 : Hid (n + s.moves.length = sumN (S.take (i + 1))) := (show n + s.moves.length = sumN (S.take (i + 1)) by rw [sumN_take S hs, Hn.out])
            obtain ⟨hiP, hst, hn1⟩ := Hf.out.1 (by trivial)
            have HiP := Lib.hid hiP
            have Hst := Lib.hid hst
            have hi0 : (0 : Int) ≤ (i : Int) := by omega
            have hmv2 := Hc.out.cell' hmv (fun e => e)
            have Hmr := Lib.hid (hmr.nob Hc.out)
            obtain ⟨fb1, hfb1⟩ : ∃ fb1, fb1 = decide (n + s.moves.length ≤ 131072) := ⟨_, rfl⟩
            have q1 : decide ((n : Int) + (s.moves.length : Int) ≤ 131072) = fb1 := by rw [hfb1]; exact decide_eq_decide.2 (by omega)
            have q1n := hfb1.symm
            have Hfb1 : Hid (fb1 = true ↔ n + s.moves.length ≤ 131072) := (show fb1 = true ↔ _ by rw [hfb1, decide_eq_true_eq])
            clear hf hmv hmr hs hsd fin Hf hiP hst hfb1
            obtain ⟨W1, hW1⟩ : ∃ W, W = wr := ⟨_, rfl⟩
            subst hW1
            go_wp2_with fail
            clear q1 q1n
            go_loopw [3, 8] (fun fv kv wr' => ∃ (k : Nat) (fb : Bool), kv = .int .i64 (k : Int) ∧ fv = .bool fb ∧ k ≤ s.moves.length ∧ Hid (fb = true ↔ (n + s.moves.length ≤ 131072 ∧ ∀ j, j < k → moveP (s.moves.getD j m0) i)) ∧ Hid (Chg Nob W1 wr')) (fun _ kv _ => s.moves.length - (intOf kv).toNat)
            case atStart => exact ⟨0, fb1, rfl, rfl, Nat.zero_le _, (show fb1 = true ↔ _ from ⟨fun h => ⟨Hfb1.out.1 h, fun j hj => absurd hj (Nat.not_lt_zero j)⟩, fun h => Hfb1.out.2 h.1⟩), Chg.refl _ _⟩
            case round =>
              obtain ⟨k, fb, rfl, rfl, hk, Hf, HcY⟩ := hrel
              have next : ∀ fb : Bool, (fb = false ∨ k = s.moves.length) → (fb = true ↔ (n + s.moves.length ≤ 131072 ∧ ∀ j, j < k → moveP (s.moves.getD j m0) i)) → (fb = true ↔ (initP I S ∧ (∀ j, j < i + 1 → stateP (S.getD j s0) j) ∧ n + s.moves.length ≤ 131072)) := fun fb he hf => by
                have hsucc : (∀ j, j < i + 1 → stateP (S.getD j s0) j) ↔ stateP s i := by
                  refine ⟨fun h => by have := h i (by omega); rw [Hsd.out] at this; exact this, fun h j hj => ?_⟩
                  by_cases e : j = i
                  · subst e; rw [Hsd.out]; exact h
                  · exact Hst.out j (by omega)
                rw [hsucc]
                rcases he with rfl | rfl
                · exact ⟨fun h => (Bool.false_ne_true h).elim, fun h => hf.2 ⟨h.2.2, fun j hj => h.2.1 j (by omega)⟩⟩
                · exact ⟨fun h => ⟨HiP.out, (hf.1 h).2, (hf.1 h).1⟩, fun h => hf.2 ⟨h.2.2, h.2.1⟩⟩
              by_cases hkl : k < s.moves.length
              · have hki : (k : Int) < (s.moves.length : Int) := by omega
                have hkid : decide ((k : Int) < (s.moves.length : Int)) = true := decide_eq_true hki
                cases fb with
                | true =>
                  obtain ⟨m, hm⟩ : ∃ m, s.moves[k]? = some m := ⟨_, List.getElem?_eq_getElem hkl⟩
                  obtain ⟨b2, o2, at', ct, rfl, hy, hno, hto, htl, htr⟩ := Hmr.out k m hm
                  have hmd : s.moves.getD k m0 = m := by rw [List.getD_eq_getElem?_getD, hm]; rfl
                  have Hmd := Lib.hid hmd
                  have hk0 : (0 : Int) ≤ (k : Int) := by omega
                  have hto2 := HcY.out.cell' hto (fun e => e)
                  have HY : Hid (∀ V, Chg Nob W1 V → V.cell? ⟨b2, o2 + k * 3, none⟩ = some (.int .u64 m.yes) ∧ V.cell? ⟨b2, o2 + k * 3 + 1, none⟩ = some (.int .u64 m.no)) := (show ∀ V, Chg Nob W1 V → _ ∧ _ from fun V hV => ⟨hV.cell' hy (fun e => e), hV.cell' hno (fun e => e)⟩)
                  have hp := rset_any (w := wr) ct htl (htr.nob HcY.out) (i : Int)
                  clear hy hno hto htr hm hmd next
                  go_wp2_with fail
                  (with_reducible refine hp.mono ?_)
                  clear hp hto2
                  rintro e w5 ⟨rfl, hc5⟩
                  have Hc5 : Hid (Chg Nob W1 w5) := (show Chg Nob W1 w5 from HcY.out.trans1 hc5)
                  obtain ⟨hy2, hno2⟩ := HY.out w5 Hc5.out
                  have step : ∀ x : Bool, x = decide (moveP m i) → Hid (x = true ↔ (n + s.moves.length ≤ 131072 ∧ ∀ j, j < k + 1 → moveP (s.moves.getD j m0) i)) := fun x hx => Lib.hid (by
                    have h3 := Hf.out.1 (by trivial)
                    rw [hx, decide_eq_true_eq]
                    refine ⟨fun h => ⟨h3.1, fun j hj => ?_⟩, fun h => by have := h.2 k (by omega); rw [Hmd.out] at this; exact this⟩
                    by_cases e : j = k
                    · subst e; rw [Hmd.out]; exact h
                    · exact h3.2 j (by omega))
                  clear hc5
                  obtain ⟨z, hz⟩ : ∃ z, z = bits .and .u64 m.yes m.no := ⟨_, rfl⟩
                  have hzz := hz.symm
                  have Hz := Lib.hid hz
                  clear hz
                  cases hd : decide (setP m.to (i : Int)) with
                  | false =>
                    have Hs2 := step false (by symm; exact decide_eq_false (fun h => of_decide_eq_false hd h.2))
                    clear step
                    go_wp2_with fail
                    go_quiet (fail)
                    go_wp2_with fail
                    go_roundw
                    case rel => exact ⟨k + 1, false, by go_num, rfl, by omega, Hs2, Hc5.out.drewN _⟩
                    case measure => simp [intOf]; omega
                  | true =>
                    cases hz1 : (z == 0) with
                    | false =>
                      have Hs2 := step false (by symm; exact decide_eq_false (fun h => beq_eq_false_iff_ne.1 hz1 (Hz.out.trans h.1)))
                      have hz1d : decide (z = 0) = false := decide_eq_false (beq_eq_false_iff_ne.1 hz1)
                      clear step
                      go_wp2_with fail
                      go_quiet (fail)
                      go_wp2_with fail
                      go_roundw
                      case rel => exact ⟨k + 1, false, by go_num, rfl, by omega, Hs2, Hc5.out.drewN _⟩
                      case measure => simp [intOf]; omega
                    | true =>
                      have Hs2 := step true (by symm; exact decide_eq_true ⟨by rw [← Hz.out]; exact beq_iff_eq.1 hz1, of_decide_eq_true hd⟩)
                      have hz1d : decide (z = 0) = true := decide_eq_true (beq_iff_eq.1 hz1)
                      clear step
                      go_wp2_with fail
                      go_quiet (fail)
                      go_wp2_with fail
                      go_roundw
                      case rel => exact ⟨k + 1, true, by go_num, rfl, by omega, (show (true = true) ↔ _ from ⟨fun _ => Hs2.out.1 trivial, fun _ => rfl⟩), Hc5.out.drewN _⟩
                      case measure => simp [intOf]; omega
                | false =>
                  have Hf2 := Lib.hid (next false (Or.inl rfl) Hf.out)
                  have Hcc := Lib.hid (Hc.out.trans1 HcY.out)
                  clear next Hf
                  go_wp2_with fail
                  go_roundw
                  case rel => exact ⟨i + 1, n + s.moves.length, false, by go_num, by go_num, rfl, by omega, Hn2, Hf2, Hcc⟩
                  case measure => simp [intOf]; omega
              · have hke : k = s.moves.length := by omega
                have Hf2 := Lib.hid (next fb (Or.inr hke) Hf.out)
                have Hcc := Lib.hid (Hc.out.trans1 HcY.out)
                have hki : ¬ (k : Int) < (s.moves.length : Int) := by omega
                have hkid : decide ((k : Int) < (s.moves.length : Int)) = false := decide_eq_false hki
                have hkin : decide (k < s.moves.length) = false := decide_eq_false hkl
                clear next Hf
                go_wp2_with fail
                go_roundw
                case rel => exact ⟨i + 1, n + s.moves.length, fb, by go_num, by go_num, rfl, by omega, Hn2, Hf2, Hcc⟩
                case measure => simp [intOf]; omega
          | false =>
            have Hr := Lib.hid (fin false (Or.inl rfl) Hf.out)
            clear fin Hf
            go_wp2_with fail
            go_ret
            exact ⟨by rw [Hr.out]; rfl, HcX.out.trans1 Hc.out⟩
        · have hie : i = S.length := by omega
          have Hr := Lib.hid (fin fb (Or.inr hie) Hf.out)
          have hii : ¬ (i : Int) < (S.length : Int) := by omega
          have hiid : decide ((i : Int) < (S.length : Int)) = false := decide_eq_false hii
          have hiin : decide (i < S.length) = false := decide_eq_false hlt
          clear fin Hf
          cases fb with
          | true =>
            go_wp2_with fail
            go_ret
            exact ⟨by rw [Hr.out]; rfl, HcX.out.trans1 Hc.out⟩
          | false =>
            go_wp2_with fail
            go_ret
            exact ⟨by rw [Hr.out]; rfl, HcX.out.trans1 Hc.out⟩
    go_wp2_with fail
    go_loopw [3, 4] (fun fv iv wr => ∃ (i : Nat) (fb : Bool), iv = .int .i64 (i : Int) ∧ fv = .bool fb ∧ i ≤ I.length ∧ Hid (fb = true ↔ (S.length ≤ 4096 ∧ I.length ≤ 131072 ∧ ∀ j, j < i → setP (I.getD j []) ((S.length : Int) - 1))) ∧ Hid (Chg Nob X wr)) (fun _ iv _ => I.length - (intOf iv).toNat)
    case atStart => exact ⟨0, fb0, rfl, rfl, Nat.zero_le _, (show fb0 = true ↔ _ from ⟨fun h => ⟨(Hfb0.out.1 h).1, (Hfb0.out.1 h).2, fun j hj => absurd hj (Nat.not_lt_zero j)⟩, fun h => Hfb0.out.2 ⟨h.1, h.2.1⟩⟩), Hc1⟩
    case round =>
      obtain ⟨i, fb, rfl, rfl, hi, Hf, Hc⟩ := hrel
      obtain ⟨c0, c1⟩ := HB.out wr Hc.out
      have rest : ∀ (i : Nat) (fb : Bool), i ≤ I.length → (fb = false ∨ i = I.length) → (fb = true ↔ (S.length ≤ 4096 ∧ I.length ≤ 131072 ∧ ∀ j, j < i → setP (I.getD j []) ((S.length : Int) - 1))) → (fb = true ↔ initP I S) := fun i fb hi he hf => by
        rcases he with rfl | rfl
        · exact ⟨fun h => (Bool.false_ne_true h).elim, fun h => hf.2 ⟨h.1, h.2.1, fun j hj => h.2.2 j (by omega)⟩⟩
        · exact hf
      by_cases hlt : i < I.length
      · have hii : (i : Int) < (I.length : Int) := by omega
        cases fb with
        | true =>
          obtain ⟨l, hl⟩ : ∃ l, I[i]? = some l := ⟨_, List.getElem?_eq_getElem hlt⟩
          obtain ⟨a, at', ct, rfl, hcell, hll, hlr⟩ := HI.out i l hl
          have hld : I.getD i [] = l := by rw [List.getD_eq_getElem?_getD, hl]; rfl
          have Hld := Lib.hid hld
          have hi0 : (0 : Int) ≤ (i : Int) := by omega
          have hcell2 := Hc.out.cell' hcell (by unfold Addr.add; split <;> exact fun e => e)
          have hcellX := hcell
          have hp : ∀ V, Chg Nob X V → Calls Tryz.prog 56 #[.slice at' l.length ct, .int .i64 ((S.length : Int) - 1)] V fun e w' => e = .returned (.bool (decide (setP l ((S.length : Int) - 1)))) ∧ Chg Nob V w' := fun V hV => rset_any ct hll (hlr.nob hV) ((S.length : Int) - 1)
          clear hcell hl hld hll hlr rest
          have Hp := Lib.hid hp
          have HS5 : Hid (∀ w', Chg Nob X w' → w'.cell? ⟨w.heap.size, 0, none⟩ = some (.slice (some a) I.length ci) ∧ w'.cell? ⟨w.heap.size, 1, none⟩ = some (.slice as' S.length cs) ∧ w'.cell? (a.add i) = some (.slice at' l.length ct)) := (show ∀ w', Chg Nob X w' → w'.cell? ⟨w.heap.size, 0, none⟩ = some (.slice (some a) I.length ci) ∧ w'.cell? ⟨w.heap.size, 1, none⟩ = some (.slice as' S.length cs) ∧ w'.cell? (a.add i) = some (.slice at' l.length ct) from fun w' h => ⟨(HB.out w' h).1, (HB.out w' h).2, h.cell' hcellX (by unfold Addr.add; split <;> exact fun e => e)⟩)
          clear hp hcellX
          go_wp2_with fail
          refine wp_region_free (fun _ => true) (fun w' => w'.cell? ⟨w.heap.size, 0, none⟩ = some (.slice (some a) I.length ci) ∧ w'.cell? ⟨w.heap.size, 1, none⟩ = some (.slice as' S.length cs) ∧ w'.cell? (a.add i) = some (.slice at' l.length ct)) (by kernel_rfl) ⟨c0, c1, hcell2⟩ (fun hHeld => ?_)
          refine wpAnyG_take (i := 0) (v := ?_) rfl (by kernel_rfl) (fun _ _ _ h => h) (Or.inl ⟨by rfl, ?_⟩) hHeld ?_
          rotate_left
          · intro w hSw; obtain ⟨c0, c1, hcell2⟩ := hSw; go_simp; (try (with_reducible rfl))
          simp only [Act.put, List.setIfInBounds_toArray]
          refine wpAnyG_take (i := 1) (v := ?_) rfl (by kernel_rfl) (fun _ _ _ h => h) (Or.inl ⟨by rfl, ?_⟩) hHeld ?_
          rotate_left
          · intro w hSw; obtain ⟨c0, c1, hcell2⟩ := hSw; go_simp; (try (with_reducible rfl))
          try simp only [Act.put]
          refine wpAnyG_take (i := 2) (v := ?_) rfl (by kernel_rfl) (fun _ _ _ h => h) (Or.inl ⟨by rfl, ?_⟩) hHeld ?_
          rotate_left
          · intro w hSw; obtain ⟨c0, c1, hcell2⟩ := hSw; go_simp; (try (with_reducible rfl))
          try simp only [Act.put]
          refine wpAnyG_take (i := 3) (v := ?_) rfl (by kernel_rfl) (fun _ _ _ h => h) (Or.inl ⟨by rfl, ?_⟩) hHeld ?_
          rotate_left
          · intro w hSw; obtain ⟨c0, c1, hcell2⟩ := hSw; go_simp; (try (with_reducible rfl))
          try simp only [Act.put]
          refine wpAnyG_take (i := 4) (v := ?_) rfl (by kernel_rfl) (fun _ _ _ h => h) (Or.inl ⟨by kernel_rfl, ?_⟩) hHeld ?_
          rotate_left
          · intro w hSw; obtain ⟨c0, c1, hcell2⟩ := hSw; go_simp; (try (with_reducible rfl))
          try simp only [Act.put]
          refine wpAnyG_take (i := 5) (v := ?_) rfl (by kernel_rfl) (fun _ _ _ h => h) (Or.inl ⟨by kernel_rfl, ?_⟩) hHeld ?_
          rotate_left
          · intro w hSw; obtain ⟨c0, c1, hcell2⟩ := hSw; go_simp; (try (with_reducible rfl))
          try simp only [Act.put]
          refine wpAnyG_take (i := 6) (v := ?_) rfl (by kernel_rfl) (fun _ _ _ h => h) (Or.inl ⟨by kernel_rfl, ?_⟩) hHeld ?_
          rotate_left
          · intro w hSw; obtain ⟨c0, c1, hcell2⟩ := hSw; go_simp; (try (with_reducible rfl))
          try simp only [Act.put]
          refine wpAnyG_take (i := 7) (v := ?_) rfl (by kernel_rfl) (fun _ _ _ h => h) (Or.inl ⟨by kernel_rfl, ?_⟩) hHeld ?_
          rotate_left
          · intro w hSw; obtain ⟨c0, c1, hcell2⟩ := hSw; go_simp; (try (with_reducible rfl))
          try simp only [Act.put]
          refine wpAnyG_take (i := 8) (v := ?_) rfl (by kernel_rfl) (fun _ _ _ h => h) (Or.inl ⟨by kernel_rfl, ?_⟩) hHeld ?_
          rotate_left
          · intro w hSw; obtain ⟨c0, c1, hcell2⟩ := hSw; go_simp; (try go_bits); (try (with_reducible rfl))
          try simp only [Act.put]
          refine wpAnyG_ready (rs := [9]) (by kernel_rfl) (by simp) ?_
          refine AllReadyG.cons rfl (fun K hK => ?_) AllReadyG.nil
          rw [if_pos (by kernel_rfl)]
          go_simp
          (with_reducible refine (Hp.out _ (Hc.out.drew)).mono ?_)
          rintro e w3 ⟨rfl, hc3⟩
          have Hc3 : Hid (Chg Nob X w3) := (show Chg Nob X w3 from (Hc.out.drew).trans1 hc3)
          clear hc3
          refine hK.out _ _ (fun _ => HS5.out _ Hc3.out) ?_
          clear hK K
          try simp only [Act.put]
          refine wpAnyG_take (i := 10) (v := ?_) rfl (by kernel_rfl) (fun _ _ _ h => h) (Or.inl ⟨by kernel_rfl, ?_⟩) (HS5.out _ Hc3.out) ?_
          rotate_left
          · intro w hSw; obtain ⟨c0, c1, hcell2⟩ := hSw; go_simp; (try (with_reducible rfl))
          try simp only [Act.put]
          refine wpAnyG_done (by kernel_rfl) ?_ _
          go_simp
          clear hHeld c0 c1 hcell2 HS5 Hp
          obtain ⟨fb2, hfb2⟩ : ∃ fb2, fb2 = decide (setP l ((S.length : Int) - 1)) := ⟨_, rfl⟩
          have Hf2 : Hid (fb2 = true ↔ (S.length ≤ 4096 ∧ I.length ≤ 131072 ∧ ∀ j, j < i + 1 → setP (I.getD j []) ((S.length : Int) - 1))) := (show fb2 = true ↔ _ by
            rw [hfb2, decide_eq_true_eq]
            have h3 := Hf.out.1 (by trivial)
            refine ⟨fun h => ⟨h3.1, h3.2.1, fun j hj => ?_⟩, fun h => by have := h.2.2 i (by omega); rw [Hld.out] at this; exact this⟩
            by_cases e : j = i
            · subst e; rw [Hld.out]; exact h
            · exact h3.2.2 j (by omega))
          rw [← hfb2]
          clear hfb2
          go_wp2_with fail
          go_roundw
          case rel => exact ⟨i + 1, fb2, by go_num, rfl, by omega, Hf2, Hc3⟩
          case measure => simp [intOf]; omega
        | false =>
          have Hin := Lib.hid (rest i false hi (Or.inl rfl) Hf.out)
          clear rest Hf
          go_wp2_with fail
          go_meet
          case rel => exact ⟨false, rfl, Hin, Hc⟩
      · have hie : i = I.length := by omega
        have Hin := Lib.hid (rest i fb hi (Or.inr hie) Hf.out)
        have hii : ¬ (i : Int) < (I.length : Int) := by omega
        have hiid : decide ((i : Int) < (I.length : Int)) = false := decide_eq_false hii
        have hiin : decide (i < I.length) = false := decide_eq_false hlt
        clear rest Hf
        go_wp2_with fail
        go_meet
        case rel => exact ⟨fb, rfl, Hin, Hc⟩
end
end Go.Proofs.YtkgfdgfhpdhhaaaGreat
namespace Go.Proofs.YtkgfdgfhpdhhaaaGreat
open Go.ChangeShapes Go.WideShapes Go.RowKit
attribute [local go_sem] Oper.semAt_some
section
variable {w : World} {ao : Option Addr} {l : List Int} {c k : Nat} {caps : Array Value} {s : Int → Bool}
set_option maxRecDepth 100000 in
set_option maxHeartbeats 4000000 in
theorem index_ints (hl : l.length ≤ 2000000) (h : IRow w ao l) (hent : ∀ args w, (callFunc k args).run Tryz.prog w = .ok (.enter k args) w) (hs : ∀ (i : Nat) x, l[i]? = some x → ∀ W, Chg Nob w W → Calls Tryz.prog k (#[.int .i64 x] ++ caps) W fun e W' => e = .returned (.bool (s x)) ∧ Chg Nob W W') :
    Calls Tryz.prog 66 #[.slice ao l.length c, .func (.func k) #[] caps] w fun e w' => (∃ r : Int, e = .returned (.int .i64 r) ∧ (decide (0 ≤ r) = l.any s)) ∧ Chg Nob w w' := by
  have H := Lib.hid h
  have Hs := Lib.hid hs
  clear h hs
  go_enter Tryz.func66, Tryz.ntmps66
  go_wp2_with fail
  go_loopw [8] (fun iv wr => ∃ i : Nat, iv = .int .i64 (i : Int) ∧ i ≤ l.length ∧ Hid (∀ j x, j < i → l[j]? = some x → s x = false) ∧ Hid (Chg Nob w wr)) (fun iv _ => l.length - (intOf iv).toNat)
  case atStart => exact ⟨0, rfl, Nat.zero_le _, (by show ∀ j x, j < 0 → _; intro j x hj; omega), Chg.refl _ _⟩
  case round =>
    obtain ⟨i, rfl, hi, Hno, Hc⟩ := hrel
    by_cases hlt : i < l.length
    · obtain ⟨x, hx⟩ : ∃ x, l[i]? = some x := ⟨_, List.getElem?_eq_getElem hlt⟩
      obtain ⟨a, rfl, hcell⟩ := H.out i x hx
      have hcell2 := Hc.out.cell' hcell (fun e => e)
      have hii : (i : Int) < (l.length : Int) := by omega
      have hi0 : (0 : Int) ≤ (i : Int) := by omega
      have Hx := Lib.hid hx
      have hp := Hs.out i x hx wr Hc.out
      clear hcell
      clear hx
      go_wp2_with fail
      (with_reducible refine hp.mono ?_)
      clear hp hcell2
      rintro e w3 ⟨rfl, hc3⟩
      have Hc3 : Hid (Chg Nob w w3) := (show Chg Nob w w3 from Hc.out.trans1 hc3)
      clear hc3
      cases hd : s x with
      | true =>
        have Hr : Hid (l.any s = true) := (show l.any s = true from List.any_eq_true.2 ⟨x, List.mem_of_getElem? Hx.out, hd⟩)
        go_wp2_with fail
        go_ret
        exact ⟨⟨i, rfl, by rw [Hr.out]; exact decide_eq_true hi0⟩, Hc3.out⟩
      | false =>
        have Hno2 : Hid (∀ j x, j < i + 1 → l[j]? = some x → s x = false) := (show ∀ j x, j < i + 1 → l[j]? = some x → s x = false by
          intro j y hj hy
          by_cases e : j = i
          · subst e; rw [Hx.out] at hy; cases hy; exact hd
          · exact Hno.out j y (by omega) hy)
        go_wp2_with fail
        go_roundw
        case rel => exact ⟨i + 1, by go_num, by omega, Hno2, Hc3⟩
        case measure => simp [intOf]; omega
    · obtain rfl : i = l.length := by omega
      have Hr : Hid (l.any s = false) := (show l.any s = false by
        rw [List.any_eq_false]
        intro x hx
        obtain ⟨j, hj, rfl⟩ := List.mem_iff_getElem.1 hx
        rw [Hno.out j _ hj (List.getElem?_eq_getElem hj)]
        exact Bool.false_ne_true)
      go_wp2_with fail
      go_ret
      exact ⟨⟨-1, rfl, by rw [Hr.out]; rfl⟩, Hc.out⟩
set_option maxRecDepth 100000 in
set_option maxHeartbeats 4000000 in
theorem contains_ints (hl : l.length ≤ 2000000) (h : IRow w ao l) (hent : ∀ args w, (callFunc k args).run Tryz.prog w = .ok (.enter k args) w) (hs : ∀ (i : Nat) x, l[i]? = some x → ∀ W, Chg Nob w W → Calls Tryz.prog k (#[.int .i64 x] ++ caps) W fun e W' => e = .returned (.bool (s x)) ∧ Chg Nob W W') :
    Calls Tryz.prog 37 #[.slice ao l.length c, .func (.func k) #[] caps] w fun e w' => e = .returned (.bool (l.any s)) ∧ Chg Nob w w' := by
  have hp := index_ints (c := c) hl h hent hs
  clear h hs
  go_enter Tryz.func37, Tryz.ntmps37
  go_wp2_with fail
  (with_reducible refine hp.mono ?_)
  clear hp
  rintro e w' ⟨⟨r, rfl, hr⟩, hc⟩
  go_wp2_with fail
  go_ret
  exact ⟨by rw [← hr]; rfl, hc⟩
end
section
variable {w : World} {ao : Option Addr} {l : List Mvi} {c k : Nat} {caps : Array Value} {s : Mvi → Bool}
set_option maxRecDepth 100000 in
set_option maxHeartbeats 4000000 in
theorem index_moves (hl : l.length ≤ 2000000) (h : MRow w ao l) (hent : ∀ args w, (callFunc k args).run Tryz.prog w = .ok (.enter k args) w) (hs : ∀ (i : Nat) x, l[i]? = some x → ∀ W, Chg Nob w W → ∀ at' ct, IRow W at' x.to → x.to.length ≤ 2000000 → Calls Tryz.prog k (#[.agg #[.int .u64 x.yes, .int .u64 x.no, .slice at' x.to.length ct]] ++ caps) W fun e W' => e = .returned (.bool (s x)) ∧ Chg Nob W W') :
    Calls Tryz.prog 65 #[.slice ao l.length c, .func (.func k) #[] caps] w fun e w' => (∃ r : Int, e = .returned (.int .i64 r) ∧ (decide (0 ≤ r) = l.any s)) ∧ Chg Nob w w' := by
  have H := Lib.hid h
  have Hs := Lib.hid hs
  clear h hs
  go_enter Tryz.func65, Tryz.ntmps65
  go_wp2_with fail
  go_loopw [8] (fun iv wr => ∃ i : Nat, iv = .int .i64 (i : Int) ∧ i ≤ l.length ∧ Hid (∀ j x, j < i → l[j]? = some x → s x = false) ∧ Hid (Chg Nob w wr)) (fun iv _ => l.length - (intOf iv).toNat)
  case atStart => exact ⟨0, rfl, Nat.zero_le _, (by show ∀ j x, j < 0 → _; intro j x hj; omega), Chg.refl _ _⟩
  case round =>
    obtain ⟨i, rfl, hi, Hno, Hc⟩ := hrel
    by_cases hlt : i < l.length
    · obtain ⟨x, hx⟩ : ∃ x, l[i]? = some x := ⟨_, List.getElem?_eq_getElem hlt⟩
      obtain ⟨b, o, at', ct, rfl, hy, hno, hto, htl, htr⟩ := H.out i x hx
      have hy2 := Hc.out.cell' hy (fun e => e)
      have hno2 := Hc.out.cell' hno (fun e => e)
      have hto2 := Hc.out.cell' hto (fun e => e)
      have hii : (i : Int) < (l.length : Int) := by omega
      have hi0 : (0 : Int) ≤ (i : Int) := by omega
      have Hx := Lib.hid hx
      have hp := Hs.out i x hx wr Hc.out at' ct (htr.nob Hc.out) htl
      clear hy hno hto htr
      clear hx
      go_wp2_with fail
      (with_reducible refine hp.mono ?_)
      clear hp hy2 hno2 hto2
      rintro e w3 ⟨rfl, hc3⟩
      have Hc3 : Hid (Chg Nob w w3) := (show Chg Nob w w3 from Hc.out.trans1 hc3)
      clear hc3
      cases hd : s x with
      | true =>
        have Hr : Hid (l.any s = true) := (show l.any s = true from List.any_eq_true.2 ⟨x, List.mem_of_getElem? Hx.out, hd⟩)
        go_wp2_with fail
        go_ret
        exact ⟨⟨i, rfl, by rw [Hr.out]; exact decide_eq_true hi0⟩, Hc3.out⟩
      | false =>
        have Hno2 : Hid (∀ j x, j < i + 1 → l[j]? = some x → s x = false) := (show ∀ j x, j < i + 1 → l[j]? = some x → s x = false by
          intro j y hj hy
          by_cases e : j = i
          · subst e; rw [Hx.out] at hy; cases hy; exact hd
          · exact Hno.out j y (by omega) hy)
        go_wp2_with fail
        go_roundw
        case rel => exact ⟨i + 1, by go_num, by omega, Hno2, Hc3⟩
        case measure => simp [intOf]; omega
    · obtain rfl : i = l.length := by omega
      have Hr : Hid (l.any s = false) := (show l.any s = false by
        rw [List.any_eq_false]
        intro x hx
        obtain ⟨j, hj, rfl⟩ := List.mem_iff_getElem.1 hx
        rw [Hno.out j _ hj (List.getElem?_eq_getElem hj)]
        exact Bool.false_ne_true)
      go_wp2_with fail
      go_ret
      exact ⟨⟨-1, rfl, by rw [Hr.out]; rfl⟩, Hc.out⟩
set_option maxRecDepth 100000 in
set_option maxHeartbeats 4000000 in
theorem contains_moves (hl : l.length ≤ 2000000) (h : MRow w ao l) (hent : ∀ args w, (callFunc k args).run Tryz.prog w = .ok (.enter k args) w) (hs : ∀ (i : Nat) x, l[i]? = some x → ∀ W, Chg Nob w W → ∀ at' ct, IRow W at' x.to → x.to.length ≤ 2000000 → Calls Tryz.prog k (#[.agg #[.int .u64 x.yes, .int .u64 x.no, .slice at' x.to.length ct]] ++ caps) W fun e W' => e = .returned (.bool (s x)) ∧ Chg Nob W W') :
    Calls Tryz.prog 34 #[.slice ao l.length c, .func (.func k) #[] caps] w fun e w' => e = .returned (.bool (l.any s)) ∧ Chg Nob w w' := by
  have hp := index_moves (c := c) hl h hent hs
  clear h hs
  go_enter Tryz.func34, Tryz.ntmps34
  go_wp2_with fail
  (with_reducible refine hp.mono ?_)
  clear hp
  rintro e w' ⟨⟨r, rfl, hr⟩, hc⟩
  go_wp2_with fail
  go_ret
  exact ⟨by rw [← hr]; rfl, hc⟩
end
section
variable {w : World} {ao : Option Addr} {l : List (List Int)} {c k : Nat} {caps : Array Value} {s : (List Int) → Bool}
set_option maxRecDepth 100000 in
set_option maxHeartbeats 4000000 in
theorem index_sets (hl : l.length ≤ 2000000) (h : LRow w ao l) (hent : ∀ args w, (callFunc k args).run Tryz.prog w = .ok (.enter k args) w) (hs : ∀ (i : Nat) x, l[i]? = some x → ∀ W, Chg Nob w W → ∀ at' ct, IRow W at' x → x.length ≤ 2000000 → Calls Tryz.prog k (#[.slice at' x.length ct] ++ caps) W fun e W' => e = .returned (.bool (s x)) ∧ Chg Nob W W') :
    Calls Tryz.prog 67 #[.slice ao l.length c, .func (.func k) #[] caps] w fun e w' => (∃ r : Int, e = .returned (.int .i64 r) ∧ (decide (0 ≤ r) = l.any s)) ∧ Chg Nob w w' := by
  have H := Lib.hid h
  have Hs := Lib.hid hs
  clear h hs
  go_enter Tryz.func67, Tryz.ntmps67
  go_wp2_with fail
  go_loopw [8] (fun iv wr => ∃ i : Nat, iv = .int .i64 (i : Int) ∧ i ≤ l.length ∧ Hid (∀ j x, j < i → l[j]? = some x → s x = false) ∧ Hid (Chg Nob w wr)) (fun iv _ => l.length - (intOf iv).toNat)
  case atStart => exact ⟨0, rfl, Nat.zero_le _, (by show ∀ j x, j < 0 → _; intro j x hj; omega), Chg.refl _ _⟩
  case round =>
    obtain ⟨i, rfl, hi, Hno, Hc⟩ := hrel
    by_cases hlt : i < l.length
    · obtain ⟨x, hx⟩ : ∃ x, l[i]? = some x := ⟨_, List.getElem?_eq_getElem hlt⟩
      obtain ⟨a, at', ct, rfl, hcell, htl, htr⟩ := H.out i x hx
      have hcell2 := Hc.out.cell' hcell (by unfold Addr.add; split <;> exact fun e => e)
      have hii : (i : Int) < (l.length : Int) := by omega
      have hi0 : (0 : Int) ≤ (i : Int) := by omega
      have Hx := Lib.hid hx
      have hp := Hs.out i x hx wr Hc.out at' ct (htr.nob Hc.out) htl
      clear hcell htr
      clear hx
      go_wp2_with fail
      (with_reducible refine hp.mono ?_)
      clear hp hcell2
      rintro e w3 ⟨rfl, hc3⟩
      have Hc3 : Hid (Chg Nob w w3) := (show Chg Nob w w3 from Hc.out.trans1 hc3)
      clear hc3
      cases hd : s x with
      | true =>
        have Hr : Hid (l.any s = true) := (show l.any s = true from List.any_eq_true.2 ⟨x, List.mem_of_getElem? Hx.out, hd⟩)
        go_wp2_with fail
        go_ret
        exact ⟨⟨i, rfl, by rw [Hr.out]; exact decide_eq_true hi0⟩, Hc3.out⟩
      | false =>
        have Hno2 : Hid (∀ j x, j < i + 1 → l[j]? = some x → s x = false) := (show ∀ j x, j < i + 1 → l[j]? = some x → s x = false by
          intro j y hj hy
          by_cases e : j = i
          · subst e; rw [Hx.out] at hy; cases hy; exact hd
          · exact Hno.out j y (by omega) hy)
        go_wp2_with fail
        go_roundw
        case rel => exact ⟨i + 1, by go_num, by omega, Hno2, Hc3⟩
        case measure => simp [intOf]; omega
    · obtain rfl : i = l.length := by omega
      have Hr : Hid (l.any s = false) := (show l.any s = false by
        rw [List.any_eq_false]
        intro x hx
        obtain ⟨j, hj, rfl⟩ := List.mem_iff_getElem.1 hx
        rw [Hno.out j _ hj (List.getElem?_eq_getElem hj)]
        exact Bool.false_ne_true)
      go_wp2_with fail
      go_ret
      exact ⟨⟨-1, rfl, by rw [Hr.out]; rfl⟩, Hc.out⟩
set_option maxRecDepth 100000 in
set_option maxHeartbeats 4000000 in
theorem contains_sets (hl : l.length ≤ 2000000) (h : LRow w ao l) (hent : ∀ args w, (callFunc k args).run Tryz.prog w = .ok (.enter k args) w) (hs : ∀ (i : Nat) x, l[i]? = some x → ∀ W, Chg Nob w W → ∀ at' ct, IRow W at' x → x.length ≤ 2000000 → Calls Tryz.prog k (#[.slice at' x.length ct] ++ caps) W fun e W' => e = .returned (.bool (s x)) ∧ Chg Nob W W') :
    Calls Tryz.prog 39 #[.slice ao l.length c, .func (.func k) #[] caps] w fun e w' => e = .returned (.bool (l.any s)) ∧ Chg Nob w w' := by
  have hp := index_sets (c := c) hl h hent hs
  clear h hs
  go_enter Tryz.func39, Tryz.ntmps39
  go_wp2_with fail
  (with_reducible refine hp.mono ?_)
  clear hp
  rintro e w' ⟨⟨r, rfl, hr⟩, hc⟩
  go_wp2_with fail
  go_ret
  exact ⟨by rw [← hr]; rfl, hc⟩
end
end Go.Proofs.YtkgfdgfhpdhhaaaGreat
