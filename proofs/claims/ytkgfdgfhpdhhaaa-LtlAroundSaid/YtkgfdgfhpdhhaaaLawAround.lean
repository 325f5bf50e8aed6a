/- The law LtlAround: whatever the texts and the numbers, it returns true. No condition. -/
import Derived.Test.YtkgfdgfhpdhhaaaTi
import Derived.Test.YtkgfdgfhpdhhaaaWays
import Derived.Test.YtkgfdgfhpdhhaaaPickl
import Derived.Test.YtkgfdgfhpdhhaaaFree
namespace Go.Proofs.Ytkgfdgfhpdhhaaa.ltlAround
open Go.ChangeShapes Go.WideShapes Go.ChangeAt Go.RowKit
open Go.ChangeMaps (open_string shut_string)

/-- What a text that is read leaves, in one shape. -/
theorem parse_case {s : List UInt8} {w w' : World} {e : Ending} (h : ParseTi s w e w') : Chg Nob w w' ∧ ∃ (k : Int) (nm : List UInt8) (ao : Option Addr) (len cap : Nat) (c p : Int), e = .returned (.tuple #[.agg #[.int .i64 k, .string ⟨nm.toArray⟩, .slice ao len cap], .agg #[.int .i64 c, .int .i64 p]]) ∧ (c = 0 → p = 0 ∧ ∃ t, PR s (.ok t) ∧ TI w' t (.agg #[.int .i64 k, .string ⟨nm.toArray⟩, .slice ao len cap])) := by
  obtain ⟨hc, ⟨t, ao, cap, hr, ht, rfl⟩ | ⟨c, p, hr, rfl⟩⟩ := h
  · exact ⟨hc, _, _, _, _, _, 0, 0, rfl, fun _ => ⟨rfl, t, hr, ht⟩⟩
  · exact ⟨hc, 0, [], none, 0, 0, c, p, rfl, fun h0 => absurd h0 (PR_err_pos hr).1⟩
theorem words_cell {W : World} {B : Nat} (h : W.heap[B]? = some (.cells #[.string ⟨#[38, 38]⟩, .string ⟨#[124, 124]⟩, .string ⟨#[45, 62]⟩, .string ⟨#[60, 45, 62]⟩, .string ⟨#[85]⟩, .string ⟨#[86]⟩, .string ⟨#[87]⟩] 9 (0, 0))) {j : Nat} (hj : j < 7) : W.cell? ⟨B, j, none⟩ = some (.string ⟨(opText (8 + j)).toArray⟩) := by
  match j, hj with
  | 0, _ => exact cell_row h 0 rfl
  | 1, _ => exact cell_row h 1 rfl
  | 2, _ => exact cell_row h 2 rfl
  | 3, _ => exact cell_row h 3 rfl
  | 4, _ => exact cell_row h 4 rfl
  | 5, _ => exact cell_row h 5 rfl
  | 6, _ => exact cell_row h 6 rfl
theorem kinds_cell {W : World} {B : Nat} (h : W.heap[B]? = some (.cells #[.int .i64 8, .int .i64 9, .int .i64 10, .int .i64 11, .int .i64 12, .int .i64 13, .int .i64 14] 3 (0, 0))) {j : Nat} (hj : j < 7) : W.cell? ⟨B, j, none⟩ = some (.int .i64 (8 + (j : Int))) := by
  match j, hj with
  | 0, _ => exact cell_row h 0 rfl
  | 1, _ => exact cell_row h 1 rfl
  | 2, _ => exact cell_row h 2 rfl
  | 3, _ => exact cell_row h 3 rfl
  | 4, _ => exact cell_row h 4 rfl
  | 5, _ => exact cell_row h 5 rfl
  | 6, _ => exact cell_row h 6 rfl

set_option maxRecDepth 100000 in
set_option maxHeartbeats 8000000 in
theorem walk (a : ByteArray) (_wa : a.size ≤ maxLen) (b : ByteArray) (_wb : b.size ≤ maxLen) (n : Int) (hn : (Lit.int .i64 n).wf = true) (op : Int) (ho : (Lit.int .i64 op).wf = true) (w : World) :
    Calls Try.prog 10 #[.string a, .string b, .int .i64 n, .int .i64 op] w fun e w' => e = .returned (.bool true) ∧ Below w.heap.size w w' := by
  obtain ⟨s, rfl⟩ := text_of a
  obtain ⟨u, rfl⟩ := text_of b
  have hn' := bounds_i64 hn
  have ho' := bounds_i64 ho
  clear hn ho
  go_enter Try.func10, Try.ntmps10
  go_wp2_with fail
  (with_reducible refine ((parse_ti s w).mono fun _ _ h => parse_case h).mono ?_)
  rintro e w1 ⟨hc1, k1, n1, a1, l1, cp1, c, p, rfl, hx⟩
  obtain ⟨X1, hX1e, hcX1, hb9, hb10⟩ := boxes_two w1 (.int .i64 k1) (.string ⟨n1.toArray⟩) (.slice a1 l1 cp1) (.int .i64 c) (.int .i64 p)
  have Hx := Lib.hid hx
  have Hb9 := Lib.hid hb9
  have Hb10 := Lib.hid hb10
  clear hx hb9 hb10
  go_wp2_with fail
  rw [← hX1e]
  clear hX1e
  (with_reducible refine ((parse_ti u X1).mono fun _ _ h => parse_case h).mono ?_)
  rintro e w2 ⟨hc2, k2, n2, a2, l2, cp2, d, q, rfl, hy⟩
  obtain ⟨X2, hX2e, hcX2, hb11, hb12⟩ := boxes_two w2 (.int .i64 k2) (.string ⟨n2.toArray⟩) (.slice a2 l2 cp2) (.int .i64 d) (.int .i64 q)
  have h12 := hc2.trans1 hcX2
  have h10 := h12.at Hb10.out (fun e => e)
  have Hy := Lib.hid hy
  have Hb11 := Lib.hid hb11
  obtain ⟨e0, e1, _⟩ := cell_two h10
  obtain ⟨f0, f1, _⟩ := cell_two hb12
  clear hy hb11 hb12 h10
  subst hX2e
  have hc0 := (hc1.trans1 hcX1).trans1 h12
  cases hcz : (c != 0) with
  | true =>
    go_wp2_with fail
    (with_reducible refine (known_any _).mono ?_)
    rintro e w3 ⟨rfl, hc3⟩
    go_wp2
    go_ret
    exact ⟨rfl, (hc0.trans1 hc3).toBelow⟩
  | false =>
    cases hdz : (d != 0) with
    | true =>
      go_wp2_with fail
      (with_reducible refine (known_any _).mono ?_)
      rintro e w3 ⟨rfl, hc3⟩
      go_wp2
      go_ret
      exact ⟨rfl, (hc0.trans1 hc3).toBelow⟩
    | false =>
      have hc00 : c = 0 := by simpa using hcz
      have hd00 : d = 0 := by simpa using hdz
      obtain ⟨hp0, X, hprX, hTX⟩ := Hx.out hc00
      obtain ⟨hq0, Y, hprY, hTY⟩ := Hy.out hd00
      have HTX := Lib.hid (hTX.nob (hcX1.trans1 h12))
      have HTY := Lib.hid (hTY.nob hcX2)
      have HB9 := Lib.hid (h12.at Hb9.out (fun e => e))
      obtain ⟨hsl, hdX, _, _⟩ := PR_whole hprX
      obtain ⟨hul, hdY, _, _⟩ := PR_whole hprY
      have HX := Lib.hid hprX
      have HY := Lib.hid hprY
      subst hc00 hd00 hp0 hq0
      clear hTX hTY hprX hprY Hx Hy Hb9 Hb10 hcz hdz hc1 hc2 hcX1 hcX2 h12
      go_wp2_with fail
      clear e0 e1 f0 f1
      generalize (w2.alloc (.cells #[.int .i64 k2, .string ⟨n2.toArray⟩, .slice a2 l2 cp2] 37)).alloc (.cells #[.int .i64 0, .int .i64 0] 39) = X2 at *
      go_loopw [13, 14] (fun st i wr => ∃ m : Nat, st = .string ⟨(arT s m).toArray⟩ ∧ i = .int .i64 (m : Int) ∧ m ≤ 20 ∧ wr = X2) (fun _ i _ => 20 - (intOf i).toNat)
      case atStart => exact ⟨0, rfl, rfl, by omega, rfl⟩
      case round =>
        obtain ⟨m, rfl, rfl, hm, rfl⟩ := hrel
        have hp := pick_lit n 20 20 rfl wr (by omega) (by omega)
        obtain ⟨P, hP⟩ : ∃ P, P = pickN n 20 := ⟨_, rfl⟩
        have hPl : P < 20 := hP ▸ pickN_lt n (by omega)
        rw [← hP] at hp
        clear hP
        have hal := arT_length s m
        go_wp2_with fail
        (with_reducible refine hp.mono ?_)
        clear hp
        rintro e w3 ⟨rfl, rfl⟩
        by_cases hlt : m < P
        · have hli : (m : Int) < (P : Int) := by omega
          have hadd1 := add_list [40] (arT s m) (by simp only [List.length_cons, List.length_nil]; omega)
          have hadd2 := add_list ([40] ++ arT s m) [9, 41] (by simp only [List.length_append, List.length_cons, List.length_nil]; omega)
          rw [show [40] ++ arT s m ++ [9, 41] = arT s (m + 1) from rfl] at hadd2
          simp only [List.cons_append, List.nil_append] at hadd1 hadd2
          clear hal
          go_wp2_with fail
          go_roundw
          case rel => exact ⟨m + 1, rfl, by go_num, by omega, trivial⟩
          case measure => simp [intOf]; omega
        · have hli : ¬ (m : Int) < (P : Int) := by omega
          obtain ⟨V, hVe, hcV, hk1, hk2⟩ : ∃ V, V = (w3.alloc (.cells #[.string ⟨#[38, 38]⟩, .string ⟨#[124, 124]⟩, .string ⟨#[45, 62]⟩, .string ⟨#[60, 45, 62]⟩, .string ⟨#[85]⟩, .string ⟨#[86]⟩, .string ⟨#[87]⟩] 9)).alloc (.cells #[.int .i64 8, .int .i64 9, .int .i64 10, .int .i64 11, .int .i64 12, .int .i64 13, .int .i64 14] 3) ∧ Chg Nob w3 V ∧
              V.heap[w3.heap.size]? = some (.cells #[.string ⟨#[38, 38]⟩, .string ⟨#[124, 124]⟩, .string ⟨#[45, 62]⟩, .string ⟨#[60, 45, 62]⟩, .string ⟨#[85]⟩, .string ⟨#[86]⟩, .string ⟨#[87]⟩] 9 (0, 0)) ∧ V.heap[w3.heap.size + 1]? = some (.cells #[.int .i64 8, .int .i64 9, .int .i64 10, .int .i64 11, .int .i64 12, .int .i64 13, .int .i64 14] 3 (0, 0)) := by
            have h1 := heap_alloc_new (w3.alloc (.cells #[.string ⟨#[38, 38]⟩, .string ⟨#[124, 124]⟩, .string ⟨#[45, 62]⟩, .string ⟨#[60, 45, 62]⟩, .string ⟨#[85]⟩, .string ⟨#[86]⟩, .string ⟨#[87]⟩] 9)) (.cells #[.int .i64 8, .int .i64 9, .int .i64 10, .int .i64 11, .int .i64 12, .int .i64 13, .int .i64 14] 3)
            rw [World.size_alloc] at h1
            exact ⟨_, rfl, ((Chg.refl _ _).alloc _).alloc _, ((Chg.refl Nob _).alloc _).at (heap_alloc_new w3 _) (fun e => e), h1⟩
          obtain ⟨O, hO⟩ : ∃ O, O = pickN op 7 := ⟨_, rfl⟩
          have hO7 : O < 7 := hO ▸ pickN_lt op (by omega)
          have hp := pick_lit op 7 7 rfl V (by omega) (by omega)
          rw [← hO] at hp
          clear hO
          have hw1 := words_cell hk1 hO7
          have hw2 := kinds_cell hk2 hO7
          have Hw2 := Lib.hid hw2
          have hOi : (O : Int) < 7 := by omega
          have hO0 : (0 : Int) ≤ (O : Int) := by omega
          obtain ⟨k, hk⟩ : ∃ k : Int, k = 8 + (O : Int) := ⟨_, rfl⟩
          rw [← hk] at hw1
          have hk8 : 8 ≤ k ∧ k ≤ 14 := by omega
          have Hk := Lib.hid hk
          have hopl : (opText k).length ≤ 3 := by unfold opText; repeat' split
                                                  all_goals decide
          obtain ⟨B, hB⟩ : ∃ B, B = [40] ++ s ++ [41] ++ opText k ++ [40] ++ u ++ [41] := ⟨_, rfl⟩
          have hBl := congrArg List.length hB
          simp only [List.length_append, List.length_cons, List.length_nil] at hBl
          have hadd1 := add_list [40] s (by simp only [List.length_cons, List.length_nil]; omega)
          have hadd2 := add_list ([40] ++ s) [41] (by simp only [List.length_append, List.length_cons, List.length_nil]; omega)
          have hadd3 := add_list ([40] ++ s ++ [41]) (opText k) (by simp only [List.length_append, List.length_cons, List.length_nil]; omega)
          have hadd4 := add_list ([40] ++ s ++ [41] ++ opText k) [40] (by simp only [List.length_append, List.length_cons, List.length_nil]; omega)
          have hadd5 := add_list ([40] ++ s ++ [41] ++ opText k ++ [40]) u (by simp only [List.length_append, List.length_cons, List.length_nil]; omega)
          have hadd6 := add_list ([40] ++ s ++ [41] ++ opText k ++ [40] ++ u) [41] (by simp only [List.length_append, List.length_cons, List.length_nil]; omega)
          rw [← hB] at hadd6
          simp only [List.cons_append, List.nil_append, List.append_assoc] at hadd1 hadd2 hadd3 hadd4 hadd5 hadd6
          have HB := Lib.hid hB
          clear hB hw2 hk1 hk2 hk
          go_wp2_with fail
          rw [← hVe]
          clear hVe
          (with_reducible refine hp.mono ?_)
          clear hp
          rintro e w4 ⟨rfl, rfl⟩
          have HA : Hid (∃ A, A = arT s m ∧ A.length = s.length + 3 * m) := ⟨_, rfl, hal⟩
          obtain ⟨A, hA, hAl⟩ := HA.out
          rw [← hA]
          have HA2 := Lib.hid hA
          clear hA HA hal
          have hszA : (⟨A.toArray⟩ : ByteArray).size = A.length := by show A.toArray.size = _; simp
          have hszB : (⟨B.toArray⟩ : ByteArray).size = B.length := by show B.toArray.size = _; simp
          by_cases hlA : A.length ≤ 4096
          · have hlAi : ¬ (4096 : Int) < (A.length : Int) := by omega
            by_cases hlB : B.length ≤ 4096
            · have hlBi : ¬ (4096 : Int) < (B.length : Int) := by omega
              have hpA : PR A (.ok X) := by rw [HA2.out] at hlA ⊢; exact PR_around HX.out hlA
              have hpB := PR_both HX.out HY.out (k := k) hk8 (by rw [← HB.out]; exact hlB)
              rw [← HB.out] at hpB
              have hppA := (Parse_any A w4).mono (fun _ _ h => parse_ok hpA h)
              clear hpA
              have HpB := Lib.hid hpB
              clear hpB
              go_wp2_with fail
              (with_reducible refine hppA.mono ?_)
              clear hppA
              rintro e w5 ⟨hc5, a5, cp5, hF5, rfl⟩
              have hF5 := TI.fresh hF5
              obtain ⟨X5, hX5e, hcX5, hb19, hb20⟩ := boxes_two w5 (.int .i64 X.kind) (.string ⟨X.name.toArray⟩) (.slice a5 X.kids.length cp5) (.int .i64 0) (.int .i64 0)
              have HF5 := Lib.hid (hF5.nob hcX5)
              have Hb19 := Lib.hid hb19
              have Hb20 := Lib.hid hb20
              clear hF5 hb19 hb20
              have h45 := hc5.trans1 hcX5
              by_cases hd : 100 < depthT (two k X Y)
              · have hpB := HpB.out
                rw [if_pos hd] at hpB
                have hppB := (Parse_any B X5).mono (fun _ _ h => parse_err hpB h)
                clear hpB
                go_wp2_with fail
                rw [← hX5e]
                clear hX5e
                (with_reducible refine hppB.mono ?_)
                clear hppB
                rintro e w6 ⟨hc6, rfl⟩
                obtain ⟨X6, hX6e, hcX6, _, hb22⟩ := boxes_two w6 (.int .i64 0) (.string ⟨#[]⟩) (.slice none 0 0) (.int .i64 93) (.int .i64 0)
                have h56 := hc6.trans1 hcX6
                have h36 := (hcV.trans1 h45).trans1 h56
                have Hb22 := Lib.hid hb22
                obtain ⟨c0, c1, c2, _⟩ := cells_three (h36.at HB9.out (fun e => e))
                obtain ⟨d0, d1, d2, _⟩ := cells_three (h56.at Hb19.out (fun e => e))
                obtain ⟨e0, e1, _⟩ := cell_two (h56.at Hb20.out (fun e => e))
                have hsame := same_refl (HF5.out.nob h56) (HTX.out.nob h36)
                subst hX6e
                clear hb22
                go_wp2_with fail
                generalize (w6.alloc (.cells #[.int .i64 0, .string ⟨#[]⟩, .slice none 0 0] 37)).alloc (.cells #[.int .i64 93, .int .i64 0] 39) = X6 at *
                (with_reducible refine hsame.mono ?_)
                clear hsame c0 c1 c2 d0 d1 d2 e0 e1
                rintro e w7 ⟨rfl, hc7⟩
                obtain ⟨f0, f1, _⟩ := cell_two (hc7.at Hb22.out (fun e => e))
                obtain ⟨c0, c1, c2, _⟩ := cells_three ((h36.trans1 hc7).at HB9.out (fun e => e))
                have hxs := (PR_ok_size HX.out).1
                have hys := (PR_ok_size HY.out).1
                have hp := depth_any _ _ X (Nat.le_refl _) (by omega) _ w7 (HTX.out.nob (h36.trans1 hc7))
                go_wp2_with fail
                (with_reducible refine hp.mono ?_)
                clear hp f0 f1 c0 c1 c2
                rintro e w8 ⟨rfl, hc8⟩
                by_cases hx100 : 100 ≤ depthT X
                · have hxi : (100 : Int) ≤ (depthT X : Int) := by omega
                  go_wp2
                  go_ret
                  exact ⟨rfl, (((hc0.trans1 h36).trans1 hc7).trans1 hc8).toBelow⟩
                · have hxi : ¬ (100 : Int) ≤ (depthT X : Int) := by omega
                  have hyi : (100 : Int) ≤ (depthT Y : Int) := by rw [depth_two] at hd; omega
                  have h38 := (h36.trans1 hc7).trans1 hc8
                  obtain ⟨c0, c1, c2, _⟩ := cells_three (h38.at Hb11.out (fun e => e))
                  have hp := depth_any _ _ Y (Nat.le_refl _) (by omega) _ w8 (HTY.out.nob h38)
                  go_wp2_with fail
                  (with_reducible refine hp.mono ?_)
                  clear hp c0 c1 c2
                  rintro e w9 ⟨rfl, hc9⟩
                  go_wp2
                  go_ret
                  exact ⟨rfl, ((hc0.trans1 h38).trans1 hc9).toBelow⟩
              · have hpB := HpB.out
                rw [if_neg hd] at hpB
                have hppB := (Parse_any B X5).mono (fun _ _ h => parse_ok hpB h)
                clear hpB
                go_wp2_with fail
                rw [← hX5e]
                clear hX5e
                (with_reducible refine hppB.mono ?_)
                clear hppB
                rintro e w6 ⟨hc6, a6, cp6, hF6, rfl⟩
                obtain ⟨Z, hZ⟩ : ∃ Z, Z = two k X Y := ⟨_, rfl⟩
                rw [← hZ] at hF6 ⊢
                have hF6 := TI.fresh hF6
                obtain ⟨X6, hX6e, hcX6, hb21, hb22⟩ := boxes_two w6 (.int .i64 Z.kind) (.string ⟨Z.name.toArray⟩) (.slice a6 Z.kids.length cp6) (.int .i64 0) (.int .i64 0)
                have HF6 := Lib.hid (hF6.nob hcX6)
                have HZ := Lib.hid hZ
                have h56 := hc6.trans1 hcX6
                have h36 := (hcV.trans1 h45).trans1 h56
                have Hb21 := Lib.hid hb21
                have Hb22 := Lib.hid hb22
                obtain ⟨c0, c1, c2, _⟩ := cells_three (h36.at HB9.out (fun e => e))
                obtain ⟨d0, d1, d2, _⟩ := cells_three (h56.at Hb19.out (fun e => e))
                obtain ⟨e0, e1, _⟩ := cell_two (h56.at Hb20.out (fun e => e))
                have hsame := same_refl (HF5.out.nob h56) (HTX.out.nob h36)
                subst hX6e
                clear hb21 hb22 hF6 hZ
                go_wp2_with fail
                generalize (w6.alloc (.cells #[.int .i64 Z.kind, .string ⟨Z.name.toArray⟩, .slice a6 Z.kids.length cp6] 37)).alloc (.cells #[.int .i64 0, .int .i64 0] 39) = X6 at *
                (with_reducible refine hsame.mono ?_)
                clear hsame c0 c1 c2 d0 d1 d2 e0 e1
                rintro e w7 ⟨rfl, hc7⟩
                have h37 := h36.trans1 hc7
                obtain ⟨f0, f1, _⟩ := cell_two (hc7.at Hb22.out (fun e => e))
                obtain ⟨c0, c1, c2, _⟩ := cells_three (h37.at HB9.out (fun e => e))
                obtain ⟨g0, g1, g2, _⟩ := cells_three (h37.at Hb11.out (fun e => e))
                obtain ⟨d0, d1, d2, _⟩ := cells_three (hc7.at Hb21.out (fun e => e))
                have hkc := ((h45.trans1 h56).trans1 hc7).cell' Hw2.out (fun e => e)
                go_wp2_with fail
                have hcQ : Chg Nob w7 (w7.alloc (.cells #[.int .i64 k1, .string ⟨n1.toArray⟩, .slice a1 l1 cp1, .int .i64 k2, .string ⟨n2.toArray⟩, .slice a2 l2 cp2] 37)).drew := ((Chg.refl _ _).alloc _).drew
                have hbQ : (w7.alloc (.cells #[.int .i64 k1, .string ⟨n1.toArray⟩, .slice a1 l1 cp1, .int .i64 k2, .string ⟨n2.toArray⟩, .slice a2 l2 cp2] 37)).drew.heap[w7.heap.size]? = some (.cells #[.int .i64 k1, .string ⟨n1.toArray⟩, .slice a1 l1 cp1, .int .i64 k2, .string ⟨n2.toArray⟩, .slice a2 l2 cp2] 37 (0, 0)) := heap_alloc_new w7 _
                have hTZ := Lib.hid (HF6.out.nob (hc7.trans1 hcQ))
                have hTZ2 : Hid (TI (w7.alloc (.cells #[.int .i64 k1, .string ⟨n1.toArray⟩, .slice a1 l1 cp1, .int .i64 k2, .string ⟨n2.toArray⟩, .slice a2 l2 cp2] 37)).drew Z (.agg #[.int .i64 (8 + (O : Int)), .string ⟨#[]⟩, .slice (some ⟨w7.heap.size, 0, none⟩) 2 2])) := (show TI _ Z _ from by rw [HZ.out, Hk.out]; exact TI.two (HTX.out.nob (h37.trans1 hcQ)) (HTY.out.nob (h37.trans1 hcQ)) hbQ)
                have hSx : Hid (∀ X, Chg Nob w7 X → (fun w' => w'.cell? ⟨w6.heap.size + 1, 0, none⟩ = some (.int .i64 0) ∧ w'.cell? ⟨w6.heap.size + 1, 1, none⟩ = some (.int .i64 0) ∧ w'.cell? ⟨w6.heap.size, 0, none⟩ = some (.int .i64 Z.kind) ∧ w'.cell? ⟨w6.heap.size, 1, none⟩ = some (.string ⟨Z.name.toArray⟩) ∧ w'.cell? ⟨w6.heap.size, 2, none⟩ = some (.slice a6 Z.kids.length cp6) ∧ w'.cell? ⟨w1.heap.size, 0, none⟩ = some (.int .i64 k1) ∧ w'.cell? ⟨w1.heap.size, 1, none⟩ = some (.string ⟨n1.toArray⟩) ∧ w'.cell? ⟨w1.heap.size, 2, none⟩ = some (.slice a1 l1 cp1) ∧ w'.cell? ⟨w2.heap.size, 0, none⟩ = some (.int .i64 k2) ∧ w'.cell? ⟨w2.heap.size, 1, none⟩ = some (.string ⟨n2.toArray⟩) ∧ w'.cell? ⟨w2.heap.size, 2, none⟩ = some (.slice a2 l2 cp2) ∧ w'.cell? ⟨w3.heap.size + 1, O, none⟩ = some (.int .i64 (8 + (O : Int)))) X) := fun X hX => ⟨hX.cell' f0 (fun e => e), hX.cell' f1 (fun e => e), hX.cell' d0 (fun e => e), hX.cell' d1 (fun e => e), hX.cell' d2 (fun e => e), hX.cell' c0 (fun e => e), hX.cell' c1 (fun e => e), hX.cell' c2 (fun e => e), hX.cell' g0 (fun e => e), hX.cell' g1 (fun e => e), hX.cell' g2 (fun e => e), hX.cell' hkc (fun e => e)⟩
                clear hbQ
                refine wp_region_free (fun _ => true) (fun w' => w'.cell? ⟨w6.heap.size + 1, 0, none⟩ = some (.int .i64 0) ∧ w'.cell? ⟨w6.heap.size + 1, 1, none⟩ = some (.int .i64 0) ∧ w'.cell? ⟨w6.heap.size, 0, none⟩ = some (.int .i64 Z.kind) ∧ w'.cell? ⟨w6.heap.size, 1, none⟩ = some (.string ⟨Z.name.toArray⟩) ∧ w'.cell? ⟨w6.heap.size, 2, none⟩ = some (.slice a6 Z.kids.length cp6) ∧ w'.cell? ⟨w1.heap.size, 0, none⟩ = some (.int .i64 k1) ∧ w'.cell? ⟨w1.heap.size, 1, none⟩ = some (.string ⟨n1.toArray⟩) ∧ w'.cell? ⟨w1.heap.size, 2, none⟩ = some (.slice a1 l1 cp1) ∧ w'.cell? ⟨w2.heap.size, 0, none⟩ = some (.int .i64 k2) ∧ w'.cell? ⟨w2.heap.size, 1, none⟩ = some (.string ⟨n2.toArray⟩) ∧ w'.cell? ⟨w2.heap.size, 2, none⟩ = some (.slice a2 l2 cp2) ∧ w'.cell? ⟨w3.heap.size + 1, O, none⟩ = some (.int .i64 (8 + (O : Int)))) (by kernel_rfl) ⟨f0, f1, d0, d1, d2, c0, c1, c2, g0, g1, g2, hkc⟩ (fun hHeld => ?_)
                refine wpAnyG_take (i := 0) (v := ?_) rfl (by kernel_rfl) (fun _ _ _ h => h) (Or.inl ⟨by rfl, ?_⟩) hHeld ?_
                rotate_left
                · intro w hSw; obtain ⟨f0, f1, d0, d1, d2, c0, c1, c2, g0, g1, g2, hkc⟩ := hSw; go_simp; try (with_reducible rfl)
                simp only [Act.put, List.setIfInBounds_toArray]
                refine wpAnyG_take (i := 1) (v := ?_) rfl (by kernel_rfl) (fun _ _ _ h => h) (Or.inl ⟨by rfl, ?_⟩) hHeld ?_
                rotate_left
                · intro w hSw; obtain ⟨f0, f1, d0, d1, d2, c0, c1, c2, g0, g1, g2, hkc⟩ := hSw; go_simp; try (with_reducible rfl)
                try simp only [Act.put]
                refine wpAnyG_take (i := 2) (v := ?_) rfl (by kernel_rfl) (fun _ _ _ h => h) (Or.inl ⟨by rfl, ?_⟩) hHeld ?_
                rotate_left
                · intro w hSw; obtain ⟨f0, f1, d0, d1, d2, c0, c1, c2, g0, g1, g2, hkc⟩ := hSw; go_simp; try (with_reducible rfl)
                try simp only [Act.put]
                refine wpAnyG_take (i := 3) (v := ?_) rfl (by kernel_rfl) (fun _ _ _ h => h) (Or.inl ⟨by rfl, ?_⟩) hHeld ?_
                rotate_left
                · intro w hSw; obtain ⟨f0, f1, d0, d1, d2, c0, c1, c2, g0, g1, g2, hkc⟩ := hSw; go_simp; try (with_reducible rfl)
                try simp only [Act.put]
                refine wpAnyG_take (i := 4) (v := ?_) rfl (by kernel_rfl) (fun _ _ _ h => h) (Or.inl ⟨by kernel_rfl, ?_⟩) hHeld ?_
                rotate_left
                · intro w hSw; obtain ⟨f0, f1, d0, d1, d2, c0, c1, c2, g0, g1, g2, hkc⟩ := hSw; go_simp; try (with_reducible rfl)
                try simp only [Act.put]
                refine wpAnyG_take (i := 5) (v := ?_) rfl (by kernel_rfl) (fun _ _ _ h => h) (Or.inl ⟨by kernel_rfl, ?_⟩) hHeld ?_
                rotate_left
                · intro w hSw; obtain ⟨f0, f1, d0, d1, d2, c0, c1, c2, g0, g1, g2, hkc⟩ := hSw; go_simp; try (with_reducible rfl)
                try simp only [Act.put]
                refine wpAnyG_take (i := 6) (v := ?_) rfl (by kernel_rfl) (fun _ _ _ h => h) (Or.inl ⟨by kernel_rfl, ?_⟩) hHeld ?_
                rotate_left
                · intro w hSw; obtain ⟨f0, f1, d0, d1, d2, c0, c1, c2, g0, g1, g2, hkc⟩ := hSw; go_simp; try (with_reducible rfl)
                try simp only [Act.put]
                refine wpAnyG_take (i := 7) (v := ?_) rfl (by kernel_rfl) (fun _ _ _ h => h) (Or.inl ⟨by kernel_rfl, ?_⟩) hHeld ?_
                rotate_left
                · intro w hSw; obtain ⟨f0, f1, d0, d1, d2, c0, c1, c2, g0, g1, g2, hkc⟩ := hSw; go_simp; try (with_reducible rfl)
                try simp only [Act.put]
                refine wpAnyG_take (i := 8) (v := ?_) rfl (by kernel_rfl) (fun _ _ _ h => h) (Or.inl ⟨by kernel_rfl, ?_⟩) hHeld ?_
                rotate_left
                · intro w hSw; obtain ⟨f0, f1, d0, d1, d2, c0, c1, c2, g0, g1, g2, hkc⟩ := hSw; go_simp; try (with_reducible rfl)
                try simp only [Act.put]
                refine wpAnyG_take (i := 9) (v := ?_) rfl (by kernel_rfl) (fun _ _ _ h => h) (Or.inl ⟨by kernel_rfl, ?_⟩) hHeld ?_
                rotate_left
                · intro w hSw; obtain ⟨f0, f1, d0, d1, d2, c0, c1, c2, g0, g1, g2, hkc⟩ := hSw; go_simp; try (with_reducible rfl)
                try simp only [Act.put]
                refine wpAnyG_take (i := 10) (v := ?_) rfl (by kernel_rfl) (fun _ _ _ h => h) (Or.inl ⟨by kernel_rfl, ?_⟩) hHeld ?_
                rotate_left
                · intro w hSw; obtain ⟨f0, f1, d0, d1, d2, c0, c1, c2, g0, g1, g2, hkc⟩ := hSw; go_simp; try (with_reducible rfl)
                try simp only [Act.put]
                refine wpAnyG_ready (rs := [11]) (by kernel_rfl) (by simp) ?_
                refine AllReadyG.cons rfl (fun K hK => ?_) AllReadyG.nil
                rw [if_pos (by kernel_rfl)]
                go_simp
                refine hK.out _ _ (fun _ => hSx.out _ hcQ) ?_
                clear K hK
                try simp only [Act.put]
                refine wpAnyG_ready (rs := [12]) (by kernel_rfl) (by simp) ?_
                refine AllReadyG.cons rfl (fun K hK => ?_) AllReadyG.nil
                rw [if_pos (by kernel_rfl)]
                go_simp
                refine hK.out _ _ (fun _ => hSx.out _ hcQ) ?_
                clear K hK
                try simp only [Act.put]
                refine wpAnyG_ready (rs := [13]) (by kernel_rfl) (by simp) ?_
                refine AllReadyG.cons rfl (fun K hK => ?_) AllReadyG.nil
                rw [if_pos (by kernel_rfl)]
                go_simp
                have hp := same_refl (w := (w7.alloc (.cells #[.int .i64 k1, .string ⟨n1.toArray⟩, .slice a1 l1 cp1, .int .i64 k2, .string ⟨n2.toArray⟩, .slice a2 l2 cp2] 37)).drew) hTZ.out hTZ2.out
                (with_reducible refine hp.mono ?_)
                clear hp
                rintro e w8 ⟨rfl, hc8⟩
                refine hK.out _ _ (fun _ => hSx.out _ (hcQ.trans1 hc8)) ?_
                clear K hK
                try simp only [Act.put]
                refine wpAnyG_ready (rs := [14]) (by kernel_rfl) (by simp) ?_
                refine AllReadyG.cons rfl (fun K hK => ?_) AllReadyG.nil
                rw [if_pos (by kernel_rfl)]
                go_simp
                refine hK.out _ _ (fun _ => hSx.out _ (hcQ.trans1 hc8)) ?_
                clear K hK
                try simp only [Act.put]
                refine wpAnyG_ready (rs := [15]) (by kernel_rfl) (by simp) ?_
                refine AllReadyG.cons rfl (fun K hK => ?_) AllReadyG.nil
                rw [if_pos (by kernel_rfl)]
                go_simp
                refine hK.out _ _ (fun _ => hSx.out _ (hcQ.trans1 hc8)) ?_
                clear K hK
                try simp only [Act.put]
                refine wpAnyG_ready (rs := [16]) (by kernel_rfl) (by simp) ?_
                refine AllReadyG.cons rfl (fun K hK => ?_) AllReadyG.nil
                rw [if_pos (by kernel_rfl)]
                go_simp
                (with_reducible refine (known_any _).mono ?_)
                rintro e w9 ⟨rfl, hc9⟩
                refine hK.out _ _ (fun _ => hSx.out _ ((hcQ.trans1 hc8).trans1 hc9)) ?_
                clear K hK
                try simp only [Act.put]
                refine wpAnyG_ready (rs := [17]) (by kernel_rfl) (by simp) ?_
                refine AllReadyG.cons rfl (fun K hK => ?_) AllReadyG.nil
                rw [if_pos (by kernel_rfl)]
                go_simp
                refine hK.out _ _ (fun _ => hSx.out _ ((hcQ.trans1 hc8).trans1 hc9)) ?_
                clear K hK
                try simp only [Act.put]
                refine wpAnyG_ready (rs := [18]) (by kernel_rfl) (by simp) ?_
                refine AllReadyG.cons rfl (fun K hK => ?_) AllReadyG.nil
                rw [if_pos (by kernel_rfl)]
                go_simp
                refine hK.out _ _ (fun _ => hSx.out _ ((hcQ.trans1 hc8).trans1 hc9)) ?_
                clear K hK
                try simp only [Act.put]
                refine wpAnyG_done (by kernel_rfl) ?_ _
                go_wp2
                go_ret
                exact ⟨rfl, (((((hc0.trans1 h37).trans1 hcQ).trans1 hc8).trans1 hc9)).toBelow⟩
            · have hlBi : (4096 : Int) < (B.length : Int) := by omega
              go_wp2_with fail
              (with_reducible refine (known_any _).mono ?_)
              rintro e w5 ⟨rfl, hc5⟩
              go_wp2
              go_ret
              exact ⟨rfl, ((hc0.trans1 hcV).trans1 hc5).toBelow⟩
          · have hlAi : (4096 : Int) < (A.length : Int) := by omega
            go_wp2_with fail
            (with_reducible refine (known_any _).mono ?_)
            rintro e w5 ⟨rfl, hc5⟩
            go_wp2
            go_ret
            exact ⟨rfl, ((hc0.trans1 hcV).trans1 hc5).toBelow⟩

set_option maxRecDepth 100000 in
theorem lifted (os : Os) (started : os.Started) (H : Type) (enc : TypeId × Value → H) :
    ReturnsInHanded {} Try.checked os 10 .any (Rows.ltlAroundSpec.pre6 enc Try.prog Try.f10 Rows.ltlAroundRow.domain false) (Rows.ltlAroundSpec.post enc Try.prog Try.f10 false true false false) := by
  refine returnsInHanded_of_change_sized (C := Try.checked) own started (by kernel_rfl) Try.func10
    (ChangeSpec.witness6 (enc := enc) (C := Try.checked) false ⟨#[], #[.string ByteArray.empty, .string ByteArray.empty, .int .i64 0, .int .i64 0], []⟩ 8 (by kernel_rfl) (by kernel_rfl) (by kernel_rfl) (by kernel_rfl)) ?_
  intro W base args ds gs before hval0 hW hcnd hsz0 _
  have hval : ∀ (j : Nat) t v, Try.f10.params[j]? = some t → args[j]? = some v → Value.okWide Try.prog W .any base t v := hval0
  have hsz : (DataW.weightsEach Try.prog (Try.f10.params.toList ++ Rows.ltlAroundSpec.plain.varTypes Try.prog) (ds ++ gs)).all (· ≤ reachBytes) = true := hsz0
  have hW' := hW
  obtain ⟨p, q, hA0, hV, rfl, hfz, hnd⟩ := hW
  have hA : DataW.TrodAll enc Try.prog W 0 (fun _ => true) true Try.f10.params.toList args.toList ds p := hA0
  rw [Try.params10] at hA hval hsz
  obtain ⟨v0, vs0, d0, ds0, p0, q0, hargs, rfl, rfl, h0, r0⟩ := trodAll_cons hA
  obtain ⟨v1, vs1, d1, ds1, p1, q1, rfl, rfl, rfl, h1, r1⟩ := trodAll_cons r0
  obtain ⟨v2, vs2, d2, ds2, p2, q2, rfl, rfl, rfl, h2, r2⟩ := trodAll_cons r1
  obtain ⟨v3, vs3, d3, ds3, p3, q3, rfl, rfl, rfl, h3, r3⟩ := trodAll_cons r2
  obtain ⟨rfl, rfl, rfl⟩ := trodAll_nil r3
  obtain rfl : args = #[v0, v1, v2, v3] := by cases args; simp_all
  obtain ⟨rfl, rfl⟩ := trodVars_none hV
  have k0 := h0
  have lt0 : ∀ x ∈ p0, x.block < W.heap.size := by obtain ⟨m, hm⟩ := k0; exact DataW.trod_lt m _ _ _ hm
  have k1 := h1
  have lt1 : ∀ x ∈ p1, x.block < W.heap.size := by obtain ⟨m, hm⟩ := k1; exact DataW.trod_lt m _ _ _ hm
  have k2 := h2
  have lt2 : ∀ x ∈ p2, x.block < W.heap.size := by obtain ⟨m, hm⟩ := k2; exact DataW.trod_lt m _ _ _ hm
  have k3 := h3
  have lt3 : ∀ x ∈ p3, x.block < W.heap.size := by obtain ⟨m, hm⟩ := k3; exact DataW.trod_lt m _ _ _ hm
  obtain ⟨a0, rfl, rfl, _, w0⟩ := open_string Try.underlying9 (hval 0 9 v0 rfl rfl) h0
  obtain ⟨a1, rfl, rfl, _, w1⟩ := open_string Try.underlying9 (hval 1 9 v1 rfl rfl) h1
  obtain ⟨a2, rfl, _, _, w2⟩ := open_int Try.underlying3 (hval 2 3 v2 rfl rfl) h2
  obtain ⟨a3, rfl, _, _, w3⟩ := open_int Try.underlying3 (hval 3 3 v3 rfl rfl) h3
  clear hA0 hval0
  refine (walk a0 w0 a1 w1 a2 w2 a3 w3 W).mono fun e W' ⟨he, bel⟩ => ?_
  subst he
  exact ⟨_, rfl, _, _, _, [], _, [], hW', trodAll_mk1 (shut_bool Try.underlying4 _), (trodAll_cons_mk (Below.trod laidOut (by kernel_rfl) (of_decide_eq_true (by kernel_rfl)) k0 bel lt0) (trodAll_cons_mk (Below.trod laidOut (by kernel_rfl) (of_decide_eq_true (by kernel_rfl)) k1 bel lt1) (trodAll_cons_mk (Below.trod laidOut (by kernel_rfl) (of_decide_eq_true (by kernel_rfl)) k2 bel lt2) (trodAll_cons_mk (Below.trod laidOut (by kernel_rfl) (of_decide_eq_true (by kernel_rfl)) k3 bel lt3) trodAll_mk0)))), rfl, bel.frame _, fun h => by cases h⟩

theorem over : Rows.ltlAroundRow.holds Try.pinned (OpenSpec.ofChange Rows.ltlAroundSpec) :=
  OpenClaim.holds_of_wide 10 Try.f10 rfl rfl rfl rfl rfl rfl rfl ⟨rfl, rfl, rfl, rfl, rfl⟩ rfl rfl rfl rfl rfl (by kernel_rfl) Try.func10 (by kernel_rfl)
    (of_decide_eq_true (by kernel_rfl)) (by unfold Func.isWrapper; rw [if_neg (of_decide_eq_false (by kernel_rfl))]; exact ⟨rfl, rfl⟩)
    (fun os started H enc _ => lifted os started H enc)

theorem proved : Rows.LtlAroundSaid :=
  over
end Go.Proofs.Ytkgfdgfhpdhhaaa.ltlAround
