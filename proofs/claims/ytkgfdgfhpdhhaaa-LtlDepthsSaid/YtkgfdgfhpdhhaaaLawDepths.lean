/- The law LtlDepths: whatever the numbers, it returns true. No condition. -/
import Derived.Test.YtkgfdgfhpdhhaaaTi
import Derived.Test.YtkgfdgfhpdhhaaaWays
import Derived.Test.YtkgfdgfhpdhhaaaPickl
namespace Go.Proofs.Ytkgfdgfhpdhhaaa.ltlDepths
open Go.ChangeShapes Go.WideShapes Go.ChangeAt Go.RowKit
open Go.ChangeMaps (open_string shut_string)

theorem signs_cell {w W : World} (h : W.heap[w.heap.size]? = some (.cells #[.string ⟨#[33]⟩, .string ⟨#[88, 32]⟩, .string ⟨#[91, 93]⟩, .string ⟨#[60, 62]⟩] 9 (0, 0))) {j : Nat} (hj : j < 4) : W.cell? ⟨w.heap.size, j, none⟩ = some (.string ⟨(signT j).toArray⟩) := by
  match j, hj with
  | 0, _ => exact cell_row h 0 rfl
  | 1, _ => exact cell_row h 1 rfl
  | 2, _ => exact cell_row h 2 rfl
  | 3, _ => exact cell_row h 3 rfl

set_option maxRecDepth 100000 in
set_option maxHeartbeats 8000000 in
theorem walk (n : Int) (hn : (Lit.int .i64 n).wf = true) (k : Int) (hk : (Lit.int .i64 k).wf = true) (sign : Int) (_hs : (Lit.int .i64 sign).wf = true) (w : World) :
    Calls Try.prog 7 #[.int .i64 n, .int .i64 k, .int .i64 sign] w fun e w' => e = .returned (.bool true) ∧ Below w.heap.size w w' := by
  have hn' := bounds_i64 hn
  have hk' := bounds_i64 hk
  clear hn hk
  obtain ⟨D, hD⟩ : ∃ D, D = pickN n 200 := ⟨_, rfl⟩
  obtain ⟨A, hA⟩ : ∃ A, A = pickN k 200 := ⟨_, rfl⟩
  have hDl : D < 200 := hD ▸ pickN_lt n (by omega)
  have hAl : A < 200 := hA ▸ pickN_lt k (by omega)
  have hp := pick_lit n 200 200 rfl w (by omega) (by omega)
  have hp2 := pick_lit k 200 200 rfl w (by omega) (by omega)
  rw [← hD] at hp
  rw [← hA] at hp2
  clear hD hA
  obtain ⟨W, hWe, hcW, hb⟩ : ∃ W, W = w.alloc (.cells #[.string ⟨#[33]⟩, .string ⟨#[88, 32]⟩, .string ⟨#[91, 93]⟩, .string ⟨#[60, 62]⟩] 9) ∧ Chg Nob w W ∧ W.heap[w.heap.size]? = some (.cells #[.string ⟨#[33]⟩, .string ⟨#[88, 32]⟩, .string ⟨#[91, 93]⟩, .string ⟨#[60, 62]⟩] 9 (0, 0)) := ⟨_, rfl, (Chg.refl _ _).alloc _, heap_alloc_new _ _⟩
  have Hc := Lib.hid (fun (j : Nat) (hj : j < 4) => signs_cell hb hj)
  clear hb
  go_enter Try.func7, Try.ntmps7
  go_wp2_with fail
  (with_reducible refine hp.mono ?_)
  rintro e w1 ⟨rfl, rfl⟩
  go_wp2_with fail
  (with_reducible refine hp2.mono ?_)
  rintro e w2 ⟨rfl, rfl⟩
  clear hp hp2
  go_wp2_with fail
  rw [← hWe]
  clear hWe
  go_loopw [10, 11] (fun s i wr => ∃ js : List Nat, s = .string ⟨(signsT js).toArray⟩ ∧ i = .int .i64 (js.length : Int) ∧ js.length ≤ D ∧ Hid (∀ j ∈ js, j < 4) ∧ wr = W) (fun _ i _ => D - (intOf i).toNat)
  case atStart => exact ⟨[], rfl, rfl, Nat.zero_le _, (show ∀ j ∈ ([] : List Nat), j < 4 from fun j h => by cases h), rfl⟩
  case round =>
    obtain ⟨js, rfl, rfl, hle, hj4, rfl⟩ := hrel
    have hsl := signsT_length js
    by_cases hlt : js.length < D
    · have hli : (js.length : Int) < (D : Int) := by omega
      obtain ⟨q, hq⟩ : ∃ q, q = pickN (wrap64 (sign + js.length)) 4 := ⟨_, rfl⟩
      have hq4 : q < 4 := hq ▸ pickN_lt _ (by omega)
      have hp := pick_lit (wrap64 (sign + (js.length : Int))) 4 4 rfl wr (wrap_range _) (by omega)
      rw [← hq] at hp
      have hcell := Hc.out q hq4
      have hadd := add_list (signsT js) (signT q) (by have := signT_length q; omega)
      rw [← signsT_snoc] at hadd
      have hq4i : (q : Int) < 4 := by omega
      have hq0i : (0 : Int) ≤ (q : Int) := by omega
      clear hq
      go_wp2_with fail
      (with_reducible refine hp.mono ?_)
      rintro e w3 ⟨rfl, rfl⟩
      go_wp2_with fail
      go_roundw
      case rel => exact ⟨js ++ [q], rfl, by rw [List.length_append]; go_num, by rw [List.length_append]; simp; omega, (show ∀ j ∈ js ++ [q], j < 4 from fun j hj => by
        rcases List.mem_append.1 hj with hj | hj
        · exact hj4.out j hj
        · obtain rfl : j = q := by simpa using hj
          exact hq4), trivial⟩
      case measure => simp [intOf]; omega
    · obtain rfl : D = js.length := by omega
      have hDi : ¬ (js.length : Int) < (js.length : Int) := by omega
      go_wp2_with fail
      go_loopw [10, 12] (fun s i wr' => ∃ m : Nat, s = .string ⟨(signsT js ++ List.replicate m 40).toArray⟩ ∧ i = .int .i64 (m : Int) ∧ m ≤ A ∧ wr' = wr) (fun _ i _ => A - (intOf i).toNat)
      case atStart => exact ⟨0, by rw [List.replicate_zero, List.append_nil], rfl, Nat.zero_le _, rfl⟩
      case round =>
        obtain ⟨m, rfl, rfl, hm, rfl⟩ := hrel
        by_cases hlt2 : m < A
        · have hli : (m : Int) < (A : Int) := by omega
          have hadd := add_list (signsT js ++ List.replicate m 40) [40] (by simp only [List.length_append, List.length_replicate, List.length_cons, List.length_nil]; omega)
          rw [show signsT js ++ List.replicate m 40 ++ [40] = signsT js ++ List.replicate (m + 1) 40 by rw [List.append_assoc, ← List.replicate_succ']] at hadd
          go_wp2_with fail
          go_roundw
          case rel => exact ⟨m + 1, rfl, by go_num, by omega, trivial⟩
          case measure => simp [intOf]; omega
        · obtain rfl : A = m := by omega
          have hAi : ¬ (A : Int) < (A : Int) := by omega
          have hadd := add_list (signsT js ++ List.replicate A 40) [112] (by simp only [List.length_append, List.length_replicate, List.length_cons, List.length_nil]; omega)
          go_wp2_with fail
          go_loopw [10, 13] (fun s i wr' => ∃ m : Nat, s = .string ⟨(signsT js ++ (List.replicate A 40 ++ 112 :: List.replicate m 41)).toArray⟩ ∧ i = .int .i64 (m : Int) ∧ m ≤ A ∧ wr' = wr) (fun _ i _ => A - (intOf i).toNat)
          case atStart => exact ⟨0, by simp, rfl, Nat.zero_le _, rfl⟩
          case round =>
            obtain ⟨m, rfl, rfl, hm2, rfl⟩ := hrel
            by_cases hlt3 : m < A
            · have hli : (m : Int) < (A : Int) := by omega
              have hadd := add_list (signsT js ++ (List.replicate A 40 ++ 112 :: List.replicate m 41)) [41] (by simp only [List.length_append, List.length_replicate, List.length_cons, List.length_nil]; omega)
              rw [show signsT js ++ (List.replicate A 40 ++ 112 :: List.replicate m 41) ++ [41] = signsT js ++ (List.replicate A 40 ++ 112 :: List.replicate (m + 1) 41) by simp [List.replicate_succ']] at hadd
              go_wp2_with fail
              go_roundw
              case rel => exact ⟨m + 1, rfl, by go_num, by omega, trivial⟩
              case measure => simp [intOf]; omega
            · obtain rfl : A = m := by omega
              have hpr := PR_deep hj4.out (n := A) (by omega) (by omega)
              rw [parT_eq, List.append_assoc, List.cons_append, List.nil_append] at hpr
              obtain ⟨s, hs⟩ : ∃ s, s = signsT js ++ (List.replicate A 40 ++ 112 :: List.replicate A 41) := ⟨_, rfl⟩
              rw [← hs] at hpr ⊢
              clear hs hadd
              by_cases hd : 100 ≤ js.length
              · rw [if_pos hd] at hpr
                have hdi : (100 : Int) ≤ (js.length : Int) := by omega
                have hpp := (Parse_any s wr).mono (fun _ _ h => parse_err hpr h)
                go_wp2_with fail
                (with_reducible refine hpp.mono ?_)
                clear hpp
                rintro e w4 ⟨hc4, rfl⟩
                obtain ⟨X, hXe, hcX, _, hb2⟩ := boxes_two w4 (.int .i64 0) (.string ⟨#[]⟩) (.slice none 0 0) (.int .i64 93) (.int .i64 0)
                obtain ⟨e0, e1, _⟩ := cell_two hb2
                subst hXe
                go_wp2_with fail
                (with_reducible refine (known_any _).mono ?_)
                rintro e w5 ⟨rfl, hc5⟩
                go_wp2
                go_ret
                exact ⟨rfl, (((hcW.trans1 hc4).trans1 hcX).trans1 hc5).toBelow⟩
              · rw [if_neg hd] at hpr
                have hdi : ¬ (100 : Int) ≤ (js.length : Int) := by omega
                have hpp := (Parse_any s wr).mono (fun _ _ h => parse_ok hpr h)
                go_wp2_with fail
                (with_reducible refine hpp.mono ?_)
                clear hpp
                rintro e w4 ⟨hc4, ao, cap, _, rfl⟩
                obtain ⟨t, ht⟩ : ∃ t, t = deepT js nameP := ⟨_, rfl⟩
                rw [← ht]
                clear ht
                obtain ⟨X, hXe, hcX, _, hb2⟩ := boxes_two w4 (.int .i64 t.kind) (.string ⟨t.name.toArray⟩) (.slice ao t.kids.length cap) (.int .i64 0) (.int .i64 0)
                obtain ⟨e0, e1, _⟩ := cell_two hb2
                subst hXe
                go_wp2_with fail
                (with_reducible refine (known_any _).mono ?_)
                rintro e w5 ⟨rfl, hc5⟩
                go_wp2
                go_ret
                exact ⟨rfl, (((hcW.trans1 hc4).trans1 hcX).trans1 hc5).toBelow⟩

set_option maxRecDepth 100000 in
theorem lifted (os : Os) (started : os.Started) (H : Type) (enc : TypeId × Value → H) :
    ReturnsInHanded {} Try.checked os 7 .any (Rows.ltlDepthsSpec.pre6 enc Try.prog Try.f7 Rows.ltlDepthsRow.domain false) (Rows.ltlDepthsSpec.post enc Try.prog Try.f7 false true false false) := by
  refine returnsInHanded_of_change_sized (C := Try.checked) own started (by kernel_rfl) Try.func7
    (ChangeSpec.witness6 (enc := enc) (C := Try.checked) false ⟨#[], #[.int .i64 0, .int .i64 0, .int .i64 0], []⟩ 8 (by kernel_rfl) (by kernel_rfl) (by kernel_rfl) (by kernel_rfl)) ?_
  intro W base args ds gs before hval0 hW hcnd hsz0 _
  have hval : ∀ (j : Nat) t v, Try.f7.params[j]? = some t → args[j]? = some v → Value.okWide Try.prog W .any base t v := hval0
  have hsz : (DataW.weightsEach Try.prog (Try.f7.params.toList ++ Rows.ltlDepthsSpec.plain.varTypes Try.prog) (ds ++ gs)).all (· ≤ reachBytes) = true := hsz0
  have hW' := hW
  obtain ⟨p, q, hA0, hV, rfl, hfz, hnd⟩ := hW
  have hA : DataW.TrodAll enc Try.prog W 0 (fun _ => true) true Try.f7.params.toList args.toList ds p := hA0
  rw [Try.params7] at hA hval hsz
  obtain ⟨v0, vs0, d0, ds0, p0, q0, hargs, rfl, rfl, h0, r0⟩ := trodAll_cons hA
  obtain ⟨v1, vs1, d1, ds1, p1, q1, rfl, rfl, rfl, h1, r1⟩ := trodAll_cons r0
  obtain ⟨v2, vs2, d2, ds2, p2, q2, rfl, rfl, rfl, h2, r2⟩ := trodAll_cons r1
  obtain ⟨rfl, rfl, rfl⟩ := trodAll_nil r2
  obtain rfl : args = #[v0, v1, v2] := by cases args; simp_all
  obtain ⟨rfl, rfl⟩ := trodVars_none hV
  have k0 := h0
  have lt0 : ∀ x ∈ p0, x.block < W.heap.size := by obtain ⟨m, hm⟩ := k0; exact DataW.trod_lt m _ _ _ hm
  have k1 := h1
  have lt1 : ∀ x ∈ p1, x.block < W.heap.size := by obtain ⟨m, hm⟩ := k1; exact DataW.trod_lt m _ _ _ hm
  have k2 := h2
  have lt2 : ∀ x ∈ p2, x.block < W.heap.size := by obtain ⟨m, hm⟩ := k2; exact DataW.trod_lt m _ _ _ hm
  obtain ⟨a0, rfl, _, _, w0⟩ := open_int Try.underlying3 (hval 0 3 v0 rfl rfl) h0
  obtain ⟨a1, rfl, _, _, w1⟩ := open_int Try.underlying3 (hval 1 3 v1 rfl rfl) h1
  obtain ⟨a2, rfl, _, _, w2⟩ := open_int Try.underlying3 (hval 2 3 v2 rfl rfl) h2
  clear hA0 hval0
  refine (walk a0 w0 a1 w1 a2 w2 W).mono fun e W' ⟨he, bel⟩ => ?_
  subst he
  exact ⟨_, rfl, _, _, _, [], _, [], hW', trodAll_mk1 (shut_bool Try.underlying4 _), (trodAll_cons_mk (Below.trod laidOut (by kernel_rfl) (of_decide_eq_true (by kernel_rfl)) k0 bel lt0) (trodAll_cons_mk (Below.trod laidOut (by kernel_rfl) (of_decide_eq_true (by kernel_rfl)) k1 bel lt1) (trodAll_cons_mk (Below.trod laidOut (by kernel_rfl) (of_decide_eq_true (by kernel_rfl)) k2 bel lt2) trodAll_mk0))), rfl, bel.frame _, fun h => by cases h⟩

theorem over : Rows.ltlDepthsRow.holds Try.pinned (OpenSpec.ofChange Rows.ltlDepthsSpec) :=
  OpenClaim.holds_of_wide 7 Try.f7 rfl rfl rfl rfl rfl rfl rfl ⟨rfl, rfl, rfl, rfl, rfl⟩ rfl rfl rfl rfl rfl (by kernel_rfl) Try.func7 (by kernel_rfl)
    (of_decide_eq_true (by kernel_rfl)) (by unfold Func.isWrapper; rw [if_neg (of_decide_eq_false (by kernel_rfl))]; exact ⟨rfl, rfl⟩)
    (fun os started H enc _ => lifted os started H enc)

theorem proved : Rows.LtlDepthsSaid :=
  over
end Go.Proofs.Ytkgfdgfhpdhhaaa.ltlDepths
