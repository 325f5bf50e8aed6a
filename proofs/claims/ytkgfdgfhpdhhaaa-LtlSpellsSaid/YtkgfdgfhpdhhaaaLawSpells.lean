/- The law LtlSpells: whatever the formula and the numbers, it returns true. No condition. -/
import Derived.Test.YtkgfdgfhpdhhaaaSpw
namespace Go.Proofs.Ytkgfdgfhpdhhaaa.ltlSpells
open Go.ChangeShapes Go.WideShapes Go.ChangeAt Go.RowKit
open Go.ChangeMaps (open_string shut_string)

theorem printed {t : T} (h : printN t = 0) : PR (printT t) (.ok t) ∧ (printT t).length ≤ 4096 := by
  have h0 : checkN t = 0 := by
    unfold printN at h
    split at h
    · assumption
    · rename_i hn; exact absurd h hn
  have hl : (textT t).length ≤ 4096 := by
    unfold printN at h
    rw [if_pos h0] at h
    split at h
    · assumption
    · cases h
  obtain ⟨hm, hd⟩ := checkN_zero h0
  have e : printT t = textT t := by unfold printT; rw [if_pos ⟨h0, hl⟩]
  rw [e]
  exact ⟨PR_text hm hd hl, hl⟩
theorem signs_cell {W : World} {B : Nat} (h : W.heap[B]? = some (.cells #[.string ⟨#[91, 93]⟩, .string ⟨#[60, 62]⟩, .string ⟨#[38, 38]⟩, .string ⟨#[124, 124]⟩] 9 (0, 0))) {j : Nat} {y : List UInt8} (hj : spS[j]? = some y) : W.cell? ⟨B, j, none⟩ = some (.string ⟨y.toArray⟩) := by
  have hj4 : j < 4 := (List.getElem?_eq_some_iff.1 hj).1
  match j, hj4, hj with
  | 0, _, hj => cases hj; exact cell_row h 0 rfl
  | 1, _, hj => cases hj; exact cell_row h 1 rfl
  | 2, _, hj => cases hj; exact cell_row h 2 rfl
  | 3, _, hj => cases hj; exact cell_row h 3 rfl
theorem words_cell {W : World} {B : Nat} (h : W.heap[B]? = some (.cells #[.string ⟨#[32, 97, 108, 119, 97, 121, 115, 32]⟩, .string ⟨#[32, 101, 118, 101, 110, 116, 117, 97, 108, 108, 121, 32]⟩, .string ⟨#[47, 92]⟩, .string ⟨#[92, 47]⟩] 9 (0, 0))) {j : Nat} {y : List UInt8} (hj : spS[j]? = some y) : W.cell? ⟨B, j, none⟩ = some (.string ⟨(spW y).toArray⟩) := by
  have hj4 : j < 4 := (List.getElem?_eq_some_iff.1 hj).1
  match j, hj4, hj with
  | 0, _, hj => cases hj; exact cell_row h 0 rfl
  | 1, _, hj => cases hj; exact cell_row h 1 rfl
  | 2, _, hj => cases hj; exact cell_row h 2 rfl
  | 3, _, hj => cases hj; exact cell_row h 3 rfl
theorem spW_len (w : List UInt8) : (spW w).length ≤ 12 := by
  unfold spW
  repeat' split
  all_goals decide

set_option maxRecDepth 100000 in
set_option maxHeartbeats 8000000 in
theorem walk (v : Value) (t : T) (u : Value) (len : Nat) (w : World) (ht : IsTree (Old w) w t v) (hu : IsInts w u len) :
    Calls Try.prog 11 #[v, u] w fun e w' => e = .returned (.bool true) ∧ Below w.heap.size w w' := by
  obtain ⟨ao, cap, rfl, hlen, _⟩ := ht.parts
  obtain ⟨au, cu, rfl, hlu, hcell⟩ := hu
  obtain ⟨W, hWe, hcW, hsW, hb0⟩ := box_one w (.int .i64 t.kind) (.string ⟨t.name.toArray⟩) (.slice ao t.kids.length cap)
  have Hb0 := Lib.hid hb0
  have HtW := Lib.hid ((TI.old ht).nob hcW)
  have Hcell := Lib.hid hcell
  clear ht hb0 hsW hcell
  go_enter Try.func11, Try.ntmps11
  go_wp2_with fail
  rw [← hWe]
  clear hWe
  have hp : Calls Try.prog 29 #[.agg #[.int .i64 t.kind, .string ⟨t.name.toArray⟩, .slice ao t.kids.length cap], .int .i64 20000] W fun e w' => e = .returned (.int .i64 (greatT t 20000)) ∧ Chg Nob W w' := great_any _ _ t (Nat.le_refl _) _ 20000 W HtW.out (by omega) (by omega)
  (with_reducible refine hp.mono ?_)
  clear hp
  rintro e w2 ⟨rfl, hc2⟩
  have hcw2 := hcW.trans1 hc2
  by_cases hg : greatT t 20000 ≤ 0
  · go_wp2_with fail
    (with_reducible refine (known_any _).mono ?_)
    rintro e w3 ⟨rfl, hc3⟩
    go_wp2
    go_ret
    exact ⟨rfl, (hcw2.trans1 hc3).toBelow⟩
  · have hsz : sizeT t ≤ 20000 := by
      have := greatT_pos t 20000 (by omega) (by omega)
      have := greatT_le t 20000 (by omega)
      omega
    obtain ⟨c0, c1, c2, _⟩ := cells_three (hc2.at Hb0.out (fun e => e))
    have hp := print_ti (HtW.out.nob hc2) (by omega)
    go_wp2_with fail
    (with_reducible refine hp.mono ?_)
    clear hp c0 c1 c2
    rintro e w3 ⟨rfl, hc3⟩
    cases h0 : (printN t == 0) with
    | false =>
      have hne : (printN t != 0) = true := by rw [bne, h0]; rfl
      go_wp2_with fail
      (with_reducible refine (known_any _).mono ?_)
      rintro e w4 ⟨rfl, hc4⟩
      go_wp2
      go_ret
      exact ⟨rfl, ((hcw2.trans1 hc3).trans1 hc4).toBelow⟩
    | true =>
      have hne : (printN t != 0) = false := by rw [bne, h0]; rfl
      obtain ⟨hpr, hsl⟩ := printed (beq_iff_eq.1 h0)
      have hpn := beq_iff_eq.1 h0
      obtain ⟨s, hs⟩ : ∃ s, s = printT t := ⟨_, rfl⟩
      rw [← hs] at hpr hsl ⊢
      have Hpr := Lib.hid hpr
      clear hs hpr hpn
      obtain ⟨V, hVe, hcV, hk1, hk2⟩ : ∃ V, V = (w3.alloc (.cells #[.string ⟨#[91, 93]⟩, .string ⟨#[60, 62]⟩, .string ⟨#[38, 38]⟩, .string ⟨#[124, 124]⟩] 9)).alloc (.cells #[.string ⟨#[32, 97, 108, 119, 97, 121, 115, 32]⟩, .string ⟨#[32, 101, 118, 101, 110, 116, 117, 97, 108, 108, 121, 32]⟩, .string ⟨#[47, 92]⟩, .string ⟨#[92, 47]⟩] 9) ∧ Chg Nob w3 V ∧
          V.heap[w3.heap.size]? = some (.cells #[.string ⟨#[91, 93]⟩, .string ⟨#[60, 62]⟩, .string ⟨#[38, 38]⟩, .string ⟨#[124, 124]⟩] 9 (0, 0)) ∧ V.heap[w3.heap.size + 1]? = some (.cells #[.string ⟨#[32, 97, 108, 119, 97, 121, 115, 32]⟩, .string ⟨#[32, 101, 118, 101, 110, 116, 117, 97, 108, 108, 121, 32]⟩, .string ⟨#[47, 92]⟩, .string ⟨#[92, 47]⟩] 9 (0, 0)) := by
        have h1 := heap_alloc_new (w3.alloc (.cells #[.string ⟨#[91, 93]⟩, .string ⟨#[60, 62]⟩, .string ⟨#[38, 38]⟩, .string ⟨#[124, 124]⟩] 9)) (.cells #[.string ⟨#[32, 97, 108, 119, 97, 121, 115, 32]⟩, .string ⟨#[32, 101, 118, 101, 110, 116, 117, 97, 108, 108, 121, 32]⟩, .string ⟨#[47, 92]⟩, .string ⟨#[92, 47]⟩] 9)
        rw [World.size_alloc] at h1
        exact ⟨_, rfl, ((Chg.refl _ _).alloc _).alloc _, ((Chg.refl Nob _).alloc _).at (heap_alloc_new w3 _) (fun e => e), h1⟩
      have hwV := (hcw2.trans1 hc3).trans1 hcV
      have HcS := Lib.hid (fun (j : Nat) (y : List UInt8) (hj : spS[j]? = some y) => signs_cell hk1 hj)
      have HcW := Lib.hid (fun (j : Nat) (y : List UInt8) (hj : spS[j]? = some y) => words_cell hk2 hj)
      have HcU : Hid (∀ j, j < len → ∃ a z, au = some a ∧ V.cell? (a.add j) = some (.int .i64 z) ∧ -9223372036854775808 ≤ z ∧ z < 9223372036854775808) := (show ∀ j, j < len → ∃ a z, au = some a ∧ V.cell? (a.add j) = some (.int .i64 z) ∧ -9223372036854775808 ≤ z ∧ z < 9223372036854775808 from fun j hj => by
        obtain ⟨a, z, e, hc, hr⟩ := Hcell.out j hj
        exact ⟨a, z, e, hwV.cell' hc (fun e => e), hr⟩)
      have Hb0V := Lib.hid (((hc2.trans1 hc3).trans1 hcV).at Hb0.out (fun e => e))
      have HtV := Lib.hid (HtW.out.nob ((hc2.trans1 hc3).trans1 hcV))
      clear hk1 hk2
      go_wp2_with fail
      rw [← hVe]
      clear hVe
      have hszs : (⟨s.toArray⟩ : ByteArray).size = s.length := by show s.toArray.size = _; simp
      go_loopw [9, 10, 11] (fun o n i wr => ∃ (q : List UInt8) (m k : Nat), o = .string ⟨q.toArray⟩ ∧ n = .int .i64 (m : Int) ∧ i = .int .i64 (k : Int) ∧ k ≤ s.length ∧ m ≤ k ∧ q.length ≤ 12 * k ∧ Hid (OutS s k q) ∧ Chg Nob V wr) (fun _ _ i _ => s.length - (intOf i).toNat)
      case atStart => exact ⟨[], 0, 0, rfl, rfl, rfl, Nat.zero_le _, Nat.le_refl _, Nat.zero_le _, out_start s, Chg.refl _ _⟩
      case round =>
        obtain ⟨q, m, k, rfl, rfl, rfl, hk, hmk, hql, hO, hcr⟩ := hrel
        by_cases hlt : k < s.length
        · have hlt2 : k < (⟨s.toArray⟩ : ByteArray).size := by omega
          obtain ⟨y, hy⟩ : ∃ y, (⟨s.toArray⟩ : ByteArray)[k]'hlt2 = y := ⟨_, rfl⟩
          have hxk : s[k]? = some y := by
            have h2 := Lib.data_getElem? (⟨s.toArray⟩ : ByteArray) _ hlt2
            rw [hy] at h2
            exact h2
          have hki : (k : Int) < (s.length : Int) := by omega
          have hext : (⟨s.toArray⟩ : ByteArray).extract k (k + 1) = ⟨[y].toArray⟩ := by
            rw [extract_list, drop_at hxk]
            simp
          have Hxk := Lib.hid hxk
          have Hy := Lib.hid hy
          clear hxk hy
          go_wp2_with fail
          go_loopw [10, 11, 12, 13] (fun n i put jv wr' => ∃ j : Nat, jv = .int .i64 (j : Int) ∧ j ≤ 4 ∧ Chg Nob V wr' ∧ ((n = .int .i64 (m : Int) ∧ i = .int .i64 (k : Int) ∧ put = .string ⟨[y].toArray⟩ ∧ Hid (∀ x z, x < j → spS[x]? = some z → ¬ z <+: s.drop k)) ∨
            (n = .int .i64 ((m : Int) + 1) ∧ i = .int .i64 ((k : Int) + 1) ∧ ∃ (x : Nat) (z p : List UInt8), put = .string ⟨p.toArray⟩ ∧ Hid (x < j ∧ spS[x]? = some z ∧ z <+: s.drop k) ∧ (p = z ∨ p = spW z)))) (fun _ _ _ jv _ => 4 - (intOf jv).toNat)
          case atStart => exact ⟨0, rfl, by omega, hcr, .inl ⟨rfl, rfl, rfl, fun x z h => absurd h (Nat.not_lt_zero x)⟩⟩
          case round =>
            obtain ⟨j, rfl, hj, hcj, ⟨rfl, rfl, rfl, hno⟩ | ⟨rfl, rfl, x, z, p, rfl, hz, hp⟩⟩ := hrel
            · by_cases hj4 : j < 4
              · obtain ⟨z, hz⟩ : ∃ z, spS[j]? = some z := ⟨_, List.getElem?_eq_getElem (by show j < 4; exact hj4)⟩
                have hcz := hcj.cell' (HcS.out j z hz) (fun e => e)
                have hwz := hcj.cell' (HcW.out j z hz) (fun e => e)
                have Hz := Lib.hid hz
                have hji : (j : Int) < 4 := by omega
                have hj0 : (0 : Int) ≤ (j : Int) := by omega
                clear hz
                by_cases h2 : k + 2 ≤ s.length
                · have h2i : ((k : Int) + 2 ≤ (s.length : Int)) := by omega
                  have h2d : decide ((k : Int) + 2 ≤ (s.length : Int)) = true := by simpa using h2i
                  have hext2 : (⟨s.toArray⟩ : ByteArray).extract k (k + 2) = ⟨((s.drop k).take 2).toArray⟩ := by
                    rw [extract_list]; congr 3; omega
                  obtain ⟨tk, htk⟩ : ∃ tk, tk = (s.drop k).take 2 := ⟨_, rfl⟩
                  rw [← htk] at hext2
                  have Htk := Lib.hid htk
                  clear htk
                  cases hq : (tk == z) with
                  | true =>
                    have hpre : z <+: s.drop k := (pre_take (List.mem_of_getElem? Hz.out)).2 (Htk.out.symm.trans (beq_iff_eq.1 hq))
                    have Hpre := Lib.hid hpre
                    clear hpre
                    by_cases hl0 : 0 < len
                    · have hl0i : (0 : Int) < (len : Int) := by omega
                      obtain ⟨a, zz, hau, hcc, hz1, hz2⟩ := HcU.out (m % len) (Nat.mod_lt _ hl0)
                      subst hau
                      obtain ⟨r, hr⟩ : ∃ r, r = m % len := ⟨_, rfl⟩
                      have hem : (m : Int) % (len : Int) = (r : Int) := by rw [hr]; rfl
                      have htm : (m : Int).tmod (len : Int) = (r : Int) := by rw [Int.tmod_eq_emod_of_nonneg (by omega), hem]
                      have hrl : (r : Int) < (len : Int) := by rw [hr]; have := Nat.mod_lt m hl0; omega
                      rw [← hr] at hcc
                      have hcc := hcj.cell' hcc (fun e => e)
                      have hln : ¬ (len : Int) = 0 := by omega
                      have hr0 : (0 : Int) ≤ (r : Int) := by omega
                      have hp : ∀ X, Calls Try.prog 35 #[.int .i64 zz, .int .i64 2] X fun e w' => e = .returned (.int .i64 (pickN zz 2)) ∧ w' = X := fun X => pick_lit zz 2 2 rfl X ⟨hz1, hz2⟩ (by omega)
                      clear hr
                      go_wp2_with fail
                      go_quiet (fail)
                      go_wp2_with fail
                      (with_reducible refine (hp _).mono ?_)
                      clear hp
                      rintro e w4 ⟨rfl, rfl⟩
                      cases h1 : ((pickN zz 2 : Int) == 1) with
                      | true =>
                        go_wp2_with fail
                        go_roundw
                        case rel => exact ⟨j + 1, by go_num, by omega, hcj.drewN _, .inr ⟨by go_num, by go_num, j, z, _, rfl, ⟨by omega, Hz.out, Hpre.out⟩, .inr rfl⟩⟩
                        case measure => simp [intOf]; omega
                      | false =>
                        go_wp2_with fail
                        go_roundw
                        case rel => exact ⟨j + 1, by go_num, by omega, hcj.drewN _, .inr ⟨by go_num, by go_num, j, z, _, rfl, ⟨by omega, Hz.out, Hpre.out⟩, .inl rfl⟩⟩
                        case measure => simp [intOf]; omega
                    · obtain rfl : len = 0 := by omega
                      go_wp2_with fail
                      go_quiet (fail)
                      go_wp2_with fail
                      go_roundw
                      case rel => exact ⟨j + 1, by go_num, by omega, hcj.drewN _, .inr ⟨by go_num, by go_num, j, z, _, rfl, ⟨by omega, Hz.out, Hpre.out⟩, .inl rfl⟩⟩
                      case measure => simp [intOf]; omega
                  | false =>
                    have Hno : Hid (∀ x z', x < j + 1 → spS[x]? = some z' → ¬ z' <+: s.drop k) := (show ∀ x z', x < j + 1 → spS[x]? = some z' → ¬ z' <+: s.drop k from fun x z' hx hz' hp => by
                      by_cases e : x = j
                      · subst e
                        rw [Hz.out] at hz'
                        cases hz'
                        exact beq_eq_false_iff_ne.1 hq (Htk.out.trans ((pre_take (List.mem_of_getElem? Hz.out)).1 hp))
                      · exact hno.out x z' (by omega) hz' hp)
                    go_wp2_with fail
                    go_quiet (fail)
                    go_wp2_with fail
                    go_roundw
                    case rel => exact ⟨j + 1, by go_num, by omega, hcj.drewN _, .inl ⟨rfl, rfl, rfl, Hno⟩⟩
                    case measure => simp [intOf]; omega
                · have h2i : ¬ ((k : Int) + 2 ≤ (s.length : Int)) := by omega
                  have h2d : decide ((k : Int) + 2 ≤ (s.length : Int)) = false := by simpa using h2i
                  have Hno : Hid (∀ x z', x < j + 1 → spS[x]? = some z' → ¬ z' <+: s.drop k) := (show ∀ x z', x < j + 1 → spS[x]? = some z' → ¬ z' <+: s.drop k from fun x z' hx hz' hp => h2 (pre_le (List.mem_of_getElem? hz') hp))
                  go_wp2_with fail
                  go_quiet (fail)
                  go_wp2_with fail
                  go_roundw
                  case rel => exact ⟨j + 1, by go_num, by omega, hcj.drewN _, .inl ⟨rfl, rfl, rfl, Hno⟩⟩
                  case measure => simp [intOf]; omega
              · obtain rfl : j = 4 := by omega
                have hy := Hy.out
                have hnone : ∀ w ∈ spS, ¬ w <+: s.drop k := fun w hw hp => by
                  obtain ⟨x, hx⟩ := List.mem_iff_getElem?.1 hw
                  exact hno.out x w (List.getElem?_eq_some_iff.1 hx).1 hx hp
                have Hsame := Lib.hid (out_same hO.out Hxk.out hnone)
                have hadd := add_list q [y] (by simp only [List.length_cons, List.length_nil]; omega)
                clear hnone
                by_cases h32 : y = 32
                · have hyi : ((y.toNat : Int) == 32) = true := by rw [h32]; rfl
                  have Hblank : Hid (OutS s (k + 1) (q ++ [9, 32, 10])) := out_blank hO.out (h32 ▸ Hxk.out)
                  have hadd2 := add_list q [9, 32, 10] (by simp only [List.length_cons, List.length_nil]; omega)
                  clear h32
                  by_cases hl0 : 0 < len
                  · have hl0i : (0 : Int) < (len : Int) := by omega
                    obtain ⟨a, zz, hau, hcc, hz1, hz2⟩ := HcU.out (m % len) (Nat.mod_lt _ hl0)
                    subst hau
                    obtain ⟨r, hr⟩ : ∃ r, r = m % len := ⟨_, rfl⟩
                    have hem : (m : Int) % (len : Int) = (r : Int) := by rw [hr]; rfl
                    have htm : (m : Int).tmod (len : Int) = (r : Int) := by rw [Int.tmod_eq_emod_of_nonneg (by omega), hem]
                    have hrl : (r : Int) < (len : Int) := by rw [hr]; have := Nat.mod_lt m hl0; omega
                    rw [← hr] at hcc
                    have hcc := hcj.cell' hcc (fun e => e)
                    have hln : ¬ (len : Int) = 0 := by omega
                    have hr0 : (0 : Int) ≤ (r : Int) := by omega
                    have hp : ∀ X, Calls Try.prog 35 #[.int .i64 zz, .int .i64 3] X fun e w' => e = .returned (.int .i64 (pickN zz 3)) ∧ w' = X := fun X => pick_lit zz 3 3 rfl X ⟨hz1, hz2⟩ (by omega)
                    clear hr
                    go_wp2_with fail
                    (with_reducible refine (hp _).mono ?_)
                    clear hp
                    rintro e w4 ⟨rfl, rfl⟩
                    cases h1 : ((pickN zz 3 : Int) == 2) with
                    | true =>
                      go_wp2_with fail
                      go_roundw
                      case rel => exact ⟨q ++ [9, 32, 10], m, k + 1, rfl, rfl, by go_num, by omega, by omega, by rw [List.length_append]; simp only [List.length_cons, List.length_nil]; omega, Hblank, hcj⟩
                      case measure => simp [intOf]; omega
                    | false =>
                      go_wp2_with fail
                      go_roundw
                      case rel => exact ⟨q ++ [y], m, k + 1, rfl, rfl, by go_num, by omega, by omega, by rw [List.length_append]; simp only [List.length_cons, List.length_nil]; omega, Hsame, hcj⟩
                      case measure => simp [intOf]; omega
                  · obtain rfl : len = 0 := by omega
                    go_wp2_with fail
                    go_roundw
                    case rel => exact ⟨q ++ [y], m, k + 1, rfl, rfl, by go_num, by omega, by omega, by rw [List.length_append]; simp only [List.length_cons, List.length_nil]; omega, Hsame, hcj⟩
                    case measure => simp [intOf]; omega
                · have hyi : ((y.toNat : Int) == 32) = false := by
                    rw [beq_eq_false_iff_ne]
                    intro e
                    exact h32 (UInt8.toNat_inj.1 (by have : y.toNat = 32 := by omega
                                                     rw [this]; rfl))
                  go_wp2_with fail
                  go_roundw
                  case rel => exact ⟨q ++ [y], m, k + 1, rfl, rfl, by go_num, by omega, by omega, by rw [List.length_append]; simp only [List.length_cons, List.length_nil]; omega, Hsame, hcj⟩
                  case measure => simp [intOf]; omega
            · obtain ⟨hxj, hxz, hpre⟩ := hz.out
              have hzm := List.mem_of_getElem? hxz
              have hk2 := pre_le hzm hpre
              have hk1i : (k : Int) + 1 < (s.length : Int) := by omega
              by_cases hj4 : j < 4
              · obtain ⟨z2, hz2⟩ : ∃ z, spS[j]? = some z := ⟨_, List.getElem?_eq_getElem (by show j < 4; exact hj4)⟩
                have hcz := hcj.cell' (HcS.out j z2 hz2) (fun e => e)
                have hji : (j : Int) < 4 := by omega
                have hj0 : (0 : Int) ≤ (j : Int) := by omega
                have hq := no_again hxj hxz hz2 hpre
                have Hz : Hid (x < j + 1 ∧ spS[x]? = some z ∧ z <+: s.drop k) := ⟨by omega, hxz, hpre⟩
                clear hz2 hz hxz hpre hzm
                by_cases h3 : k + 3 ≤ s.length
                · have h2i : ((k : Int) + 1 + 2 ≤ (s.length : Int)) := by omega
                  have h3i : ((k : Int) + 3 ≤ (s.length : Int)) := by omega
                  have h2d : decide ((k : Int) + 1 + 2 ≤ (s.length : Int)) = true := by simpa using h2i
                  have h3d : decide ((k : Int) + 3 ≤ (s.length : Int)) = true := by simpa using h3i
                  have hext2 : (⟨s.toArray⟩ : ByteArray).extract (k + 1) (k + 3) = ⟨((s.drop (k + 1)).take 2).toArray⟩ := by
                    rw [extract_list]; congr 3; omega
                  have hext3 : (⟨s.toArray⟩ : ByteArray).extract (k + 1) (k + 1 + 2) = ⟨((s.drop (k + 1)).take 2).toArray⟩ := hext2
                  obtain ⟨tk, htk⟩ : ∃ tk, tk = (s.drop (k + 1)).take 2 := ⟨_, rfl⟩
                  rw [← htk] at hext2 hext3 hq
                  clear htk
                  go_wp2_with fail
                  go_quiet (fail)
                  go_wp2_with fail
                  go_roundw
                  case rel => exact ⟨j + 1, by go_num, by omega, hcj.drewN _, .inr ⟨rfl, rfl, x, z, p, rfl, Hz, hp⟩⟩
                  case measure => simp [intOf]; omega
                · have h2i : ¬ ((k : Int) + 1 + 2 ≤ (s.length : Int)) := by omega
                  have h3i : ¬ ((k : Int) + 3 ≤ (s.length : Int)) := by omega
                  have h2d : decide ((k : Int) + 1 + 2 ≤ (s.length : Int)) = false := by simpa using h2i
                  have h3d : decide ((k : Int) + 3 ≤ (s.length : Int)) = false := by simpa using h3i
                  go_wp2_with fail
                  go_quiet (fail)
                  go_wp2_with fail
                  go_roundw
                  case rel => exact ⟨j + 1, by go_num, by omega, hcj.drewN _, .inr ⟨rfl, rfl, x, z, p, rfl, Hz, hp⟩⟩
                  case measure => simp [intOf]; omega
              · obtain rfl : j = 4 := by omega
                have hlt3 : k + 1 < (⟨s.toArray⟩ : ByteArray).size := by omega
                obtain ⟨d, hd⟩ : ∃ d, (⟨s.toArray⟩ : ByteArray)[k + 1]'hlt3 = d := ⟨_, rfl⟩
                have hxd : s[k + 1]? = some d := by
                  have h2 := Lib.data_getElem? (⟨s.toArray⟩ : ByteArray) _ hlt3
                  rw [hd] at h2
                  exact h2
                have hdi : ((d.toNat : Int) == 32) = false := by
                  rw [beq_eq_false_iff_ne]
                  intro e
                  exact sign_second hzm hpre hxd (UInt8.toNat_inj.1 (by have : d.toNat = 32 := by omega
                                                                        rw [this]; rfl))
                have hpl : p.length ≤ 12 := by
                  rcases hp with rfl | rfl
                  · rw [spS_len hzm]; omega
                  · exact spW_len z
                have hadd := add_list q p (by omega)
                have Hout : Hid (OutS s (k + 2) (q ++ p)) := by
                  show OutS _ _ _
                  have := out_sign hO.out hzm hpre
                  rcases hp with rfl | rfl
                  · exact this.1
                  · exact this.2
                clear hz hxz hpre hzm hxd hp
                go_wp2_with fail
                go_roundw
                case rel => exact ⟨q ++ p, m + 1, k + 2, rfl, by go_num, by go_num, by omega, by omega, by rw [List.length_append]; omega, Hout, hcj⟩
                case measure => simp [intOf]; omega
        · obtain rfl : k = s.length := by omega
          have hsp := out_end hO.out
          have hszq : (⟨q.toArray⟩ : ByteArray).size = q.length := by show q.toArray.size = _; simp
          by_cases hl4 : q.length ≤ 4096
          · have hqi : ¬ (4096 : Int) < (q.length : Int) := by omega
            have hpr := PR_respell Hpr.out hsp hl4
            have hpp := (Parse_any q wr).mono (fun _ _ h => parse_ok hpr h)
            clear hpr hsp
            go_wp2_with fail
            (with_reducible refine hpp.mono ?_)
            clear hpp
            rintro e w5 ⟨hc5, a5, cp5, hF5, rfl⟩
            have hF5 := TI.fresh hF5
            obtain ⟨X5, hX5e, hcX5, hb14, hb15⟩ := boxes_two w5 (.int .i64 t.kind) (.string ⟨t.name.toArray⟩) (.slice a5 t.kids.length cp5) (.int .i64 0) (.int .i64 0)
            have h45 := (hcr.trans1 hc5).trans1 hcX5
            obtain ⟨c0, c1, c2, _⟩ := cells_three hb14
            obtain ⟨e0, e1, _⟩ := cell_two hb15
            obtain ⟨d0, d1, d2, _⟩ := cells_three (h45.at Hb0V.out (fun e => e))
            have hsame := same_refl (hF5.nob hcX5) (HtV.out.nob h45)
            subst hX5e
            clear hb14 hb15
            go_wp2_with fail
            (with_reducible refine hsame.mono ?_)
            clear hsame
            rintro e w6 ⟨rfl, hc6⟩
            go_wp2_with fail
            (with_reducible refine (known_any _).mono ?_)
            rintro e w7 ⟨rfl, hc7⟩
            go_wp2
            go_ret
            exact ⟨rfl, (((hwV.trans1 h45).trans1 hc6).trans1 hc7).toBelow⟩
          · have hqi : (4096 : Int) < (q.length : Int) := by omega
            go_wp2_with fail
            (with_reducible refine (known_any _).mono ?_)
            rintro e w5 ⟨rfl, hc5⟩
            go_wp2
            go_ret
            exact ⟨rfl, ((hwV.trans1 hcr).trans1 hc5).toBelow⟩

set_option maxRecDepth 100000 in
theorem lifted (os : Os) (started : os.Started) (H : Type) (enc : TypeId × Value → H) :
    ReturnsInHanded {} Try.checked os 11 .any (Rows.ltlSpellsSpec.pre6 enc Try.prog Try.f11 Rows.ltlSpellsRow.domain false) (Rows.ltlSpellsSpec.post enc Try.prog Try.f11 false true false false) := by
  refine returnsInHanded_of_change_sized (C := Try.checked) own started (by kernel_rfl) Try.func11
    (ChangeSpec.witness6 (enc := enc) (C := Try.checked) false ⟨#[], #[.agg #[.int .i64 0, .string ByteArray.empty, .slice none 0 0], .slice none 0 0], []⟩ 8 (by kernel_rfl) (by kernel_rfl) (by kernel_rfl) (by kernel_rfl)) ?_
  intro W base args ds gs before hval0 hW hcnd hsz0 _
  have hval : ∀ (j : Nat) t v, Try.f11.params[j]? = some t → args[j]? = some v → Value.okWide Try.prog W .any base t v := hval0
  have hsz : (DataW.weightsEach Try.prog (Try.f11.params.toList ++ Rows.ltlSpellsSpec.plain.varTypes Try.prog) (ds ++ gs)).all (· ≤ reachBytes) = true := hsz0
  have hW' := hW
  obtain ⟨p, q, hA0, hV, rfl, hfz, hnd⟩ := hW
  have hA : DataW.TrodAll enc Try.prog W 0 (fun _ => true) true Try.f11.params.toList args.toList ds p := hA0
  rw [Try.params11] at hA hval hsz
  obtain ⟨v0, vs0, d0, ds0, p0, q0, hargs, rfl, rfl, h0, r0⟩ := trodAll_cons hA
  obtain ⟨v1, vs1, d1, ds1, p1, q1, rfl, rfl, rfl, h1, r1⟩ := trodAll_cons r0
  obtain ⟨rfl, rfl, rfl⟩ := trodAll_nil r1
  obtain rfl : args = #[v0, v1] := by cases args; simp_all
  obtain ⟨rfl, rfl⟩ := trodVars_none hV
  have k0 := h0
  have lt0 : ∀ x ∈ p0, x.block < W.heap.size := by obtain ⟨m, hm⟩ := k0; exact DataW.trod_lt m _ _ _ hm
  have k1 := h1
  have lt1 : ∀ x ∈ p1, x.block < W.heap.size := by obtain ⟨m, hm⟩ := k1; exact DataW.trod_lt m _ _ _ hm
  obtain ⟨l0, hl0⟩ := open_tree (hval 0 37 v0 rfl rfl) h0
  obtain ⟨l1, hl1⟩ := open_numbers (hval 1 58 v1 rfl rfl) h1
  clear hA0 hval0
  refine (walk v0 l0 v1 l1 W hl0 hl1).mono fun e W' ⟨he, bel⟩ => ?_
  subst he
  exact ⟨_, rfl, _, _, _, [], _, [], hW', trodAll_mk1 (shut_bool Try.underlying4 _), (trodAll_cons_mk (Below.trod laidOut (by kernel_rfl) (of_decide_eq_true (by kernel_rfl)) k0 bel lt0) (trodAll_cons_mk (Below.trod laidOut (by kernel_rfl) (of_decide_eq_true (by kernel_rfl)) k1 bel lt1) trodAll_mk0)), rfl, bel.frame _, fun h => by cases h⟩

theorem over : Rows.ltlSpellsRow.holds Try.pinned (OpenSpec.ofChange Rows.ltlSpellsSpec) :=
  OpenClaim.holds_of_wide 11 Try.f11 rfl rfl rfl rfl rfl rfl rfl ⟨rfl, rfl, rfl, rfl, rfl⟩ rfl rfl rfl rfl rfl (by kernel_rfl) Try.func11 (by kernel_rfl)
    (of_decide_eq_true (by kernel_rfl)) (by unfold Func.isWrapper; rw [if_neg (of_decide_eq_false (by kernel_rfl))]; exact ⟨rfl, rfl⟩)
    (fun os started H enc _ => lifted os started H enc)

theorem proved : Rows.LtlSpellsSaid :=
  over
end Go.Proofs.Ytkgfdgfhpdhhaaa.ltlSpells
