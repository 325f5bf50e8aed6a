/- The reference's parser: its words, its operators, where it fails. Conditions: it lies in the world. -/
import Derived.Test.YtkgfdgfhpdhhaaaRtoks
import Derived.Test.YtkgfdgfhpdhhaaaRtext
namespace Go.Proofs.Ytkgfdgfhpdhhaaa
open Go.ChangeShapes Go.WideShapes Go.RowKit

/-- A parser at a place of its words; b: the place of the first that can't stand, or none yet. -/
structure Pz (w : World) (pb g : Nat) (v : Value) (L : List Tok) (a : Nat) (b : Int) : Prop where
  box : w.heap[pb]? = some (.cells #[v, .int .i64 (a : Int), .int .i64 b] 74 (0, 0))
  sl : ∃ ao cap, v = .slice ao L.length cap ∧ (L ≠ [] → ao = some ⟨g, 0, none⟩)
  tok : TokAt w g 0 L
  ne : g ≠ pb
  gl : g < w.heap.size
  len : L.length ≤ 5000
theorem Pz.chg {S : Nat → Prop} {w w' : World} {pb g : Nat} {v : Value} {L : List Tok} {a : Nat} {b : Int} (h : Pz w pb g v L a b) (hc : Chg S w w') (h1 : ¬ S pb) (h2 : ¬ S g) : Pz w' pb g v L a b :=
  ⟨hc.at h.box h1, h.sl, h.tok.chg hc h2, h.ne, Nat.lt_of_lt_of_le h.gl hc.size, h.len⟩
theorem Pz.nob {w w' : World} {pb g : Nat} {v : Value} {L : List Tok} {a : Nat} {b : Int} (h : Pz w pb g v L a b) (hc : Chg Nob w w') : Pz w' pb g v L a b := h.chg hc (fun e => e) (fun e => e)
theorem Pz.setAt {w : World} {pb g : Nat} {v : Value} {L : List Tok} {a : Nat} {b : Int} (h : Pz w pb g v L a b) (a' : Nat) (m : Int) (hm : m = (a' : Int)) : Pz (w.setCell ⟨pb, 1, none⟩ (.int .i64 m)) pb g v L a' b := by
  subst hm
  exact ⟨block_three_set1 h.box, h.sl, h.tok.chg ((Chg.refl (At1 pb) w).setCell (p := ⟨pb, 1, none⟩) (fun _ => rfl) _) (fun e => h.ne e), h.ne, by rw [World.size_setCell]; exact h.gl, h.len⟩
theorem Pz.setBad {w : World} {pb g : Nat} {v : Value} {L : List Tok} {a : Nat} {b : Int} (h : Pz w pb g v L a b) (c : Int) : Pz (w.setCell ⟨pb, 2, none⟩ (.int .i64 c)) pb g v L a c :=
  ⟨block_three_set2 h.box, h.sl, h.tok.chg ((Chg.refl (At1 pb) w).setCell (p := ⟨pb, 2, none⟩) (fun _ => rfl) _) (fun e => h.ne e), h.ne, by rw [World.size_setCell]; exact h.gl, h.len⟩
/-- The word at a place. -/
def wordAt (L : List Tok) (a : Nat) : List UInt8 := match L[a]? with
  | some x => x.1
  | none => []
theorem wordAt_at {L : List Tok} {a : Nat} (N : Nat) (h : a ≤ L.length) : ∃ x, (L ++ [([], N)])[a]? = some x ∧ x.1 = wordAt L a ∧ (L ++ [([], N)]).drop a = x :: (L ++ [([], N)]).drop (a + 1) := by
  unfold wordAt
  rcases Nat.lt_or_ge a L.length with hl | hl
  · have e := List.getElem?_eq_getElem hl
    refine ⟨L[a], ?_, by rw [e], ?_⟩
    · rw [List.getElem?_append_left hl, e]
    · exact drop_at' (by rw [List.getElem?_append_left hl, e])
  · have ea : a = L.length := by omega
    subst ea
    refine ⟨([], N), ?_, ?_, ?_⟩
    · rw [List.getElem?_append_right (Nat.le_refl _), Nat.sub_self]; rfl
    · rw [List.getElem?_eq_none_iff.2 (Nat.le_refl _)]
    · exact drop_at' (by rw [List.getElem?_append_right (Nat.le_refl _), Nat.sub_self]; rfl)
theorem wordAt_lt {L : List Tok} {a : Nat} (h : wordAt L a ≠ []) : a < L.length := by
  rcases Nat.lt_or_ge a L.length with hl | hl
  · exact hl
  · exfalso
    apply h
    unfold wordAt
    rw [List.getElem?_eq_none_iff.2 hl]

set_option maxRecDepth 100000 in
set_option maxHeartbeats 2000000 in
theorem word_any {w : World} {pb g : Nat} {v : Value} {L : List Tok} {a : Nat} {b : Int} (h : Pz w pb g v L a b) (ha : a ≤ 100000) : Calls Try.prog 76 #[.pointer (some ⟨pb, 0, none⟩)] w fun e w' => e = .returned (.string ⟨(wordAt L a).toArray⟩) ∧ Chg Nob w w' := by
  obtain ⟨ao, cap, rfl, hao⟩ := h.sl
  obtain ⟨c0, c1, c2, _⟩ := cells_three h.box
  by_cases hl : a < L.length
  · have hL : L ≠ [] := by rintro rfl; simp at hl
    have hao := hao hL
    subst hao
    have hx : wordAt L a = (L[a]'hl).1 := by unfold wordAt; rw [List.getElem?_eq_getElem hl]
    have p0 := (h.tok a _ (List.getElem?_eq_getElem hl)).1
    rw [Nat.zero_add, ← hx] at p0
    have hli : (a : Int) < (L.length : Int) := by omega
    have ha0 : (0 : Int) ≤ (a : Int) := by omega
    clear hx
    go_enter Try.func76, Try.ntmps76
    go_wp2_with fail
    go_quiet (fail)
    go_wp2_with fail
    go_quiet (fail)
    go_wp2_with fail
    go_ret
    exact ⟨rfl, ((Chg.refl _ _).drewN _).drewN _⟩
  · have hli : ¬ (a : Int) < (L.length : Int) := by omega
    have Hw : Hid (wordAt L a = []) := (show wordAt L a = [] by unfold wordAt; rw [List.getElem?_eq_none_iff.2 (by omega)])
    go_enter Try.func76, Try.ntmps76
    go_wp2_with fail
    go_quiet (fail)
    go_wp2_with fail
    go_ret
    exact ⟨by rw [Hw.out]; rfl, (Chg.refl _ _).drewN _⟩
set_option maxRecDepth 100000 in
set_option maxHeartbeats 1000000 in
theorem fail_any {w : World} {pb g : Nat} {v : Value} {L : List Tok} {a : Nat} (h : Pz w pb g v L a (-1)) : Calls Try.prog 49 #[.pointer (some ⟨pb, 0, none⟩)] w fun e w' => e = .returned (.tuple #[]) ∧ w' = w.setCell ⟨pb, 2, none⟩ (.int .i64 (a : Int)) := by
  obtain ⟨c0, c1, c2, f0, f1, f2⟩ := cells_three h.box
  go_enter Try.func49, Try.ntmps49
  go_wp2
  go_end0
  exact ⟨rfl, rfl⟩

def opsW : List (List UInt8) := [[60, 45, 62], [45, 62], [124, 124], [38, 38], [85], [86], [87]]
def opsK (j : Nat) : Int := if j = 0 then 11 else if j = 1 then 10 else if j = 2 then 9 else if j = 3 then 8 else 8 + (j : Int)
/-- What an operator's kind and level say. -/
def OpIs (x : List UInt8) (k l : Int) : Prop := ∀ n : Nat, n ≤ 4 → opOf n x = if l = (n : Int) then some k else none
theorem op_yes {j : Nat} {x : List UInt8} (h : opsW[j]? = some x) : OpIs x (opsK j) (rankK (opsK j)) := by
  have hj : j < 7 := (List.getElem?_eq_some_iff.1 h).1
  have key : ∀ j, j < 7 → ∀ n, n ≤ 4 → opOf n ((opsW[j]?).getD []) = if rankK (opsK j) = (n : Int) then some (opsK j) else none := by decide
  intro n hn
  have := key j hj n hn
  rwa [h] at this
theorem op_no {x : List UInt8} (h : ∀ (j : Nat) (y : List UInt8), opsW[j]? = some y → (y == x) = false) : OpIs x 0 (-1) := by
  intro n hn
  rw [if_neg (by omega)]
  have h0 := beq_eq_false_iff_ne.1 (h 0 _ rfl)
  have h1 := beq_eq_false_iff_ne.1 (h 1 _ rfl)
  have h2 := beq_eq_false_iff_ne.1 (h 2 _ rfl)
  have h3 := beq_eq_false_iff_ne.1 (h 3 _ rfl)
  have h4 := beq_eq_false_iff_ne.1 (h 4 _ rfl)
  have h5 := beq_eq_false_iff_ne.1 (h 5 _ rfl)
  have h6 := beq_eq_false_iff_ne.1 (h 6 _ rfl)
  unfold opOf
  rw [if_neg (Ne.symm h0), if_neg (Ne.symm h1), if_neg (Ne.symm h2), if_neg (Ne.symm h3), if_neg (Ne.symm h4), if_neg (Ne.symm h5), if_neg (Ne.symm h6)]
  repeat' split
  all_goals rfl
theorem kinds7_cell {W : World} {B : Nat} (h : W.heap[B]? = some (.cells #[.int .i64 11, .int .i64 10, .int .i64 9, .int .i64 8, .int .i64 12, .int .i64 13, .int .i64 14] 3 (0, 0))) {j : Nat} (hj : j < 7) : W.cell? ⟨B, j, none⟩ = some (.int .i64 (opsK j)) := by
  match j, hj with
  | 0, _ => exact cell_row h 0 rfl
  | 1, _ => exact cell_row h 1 rfl
  | 2, _ => exact cell_row h 2 rfl
  | 3, _ => exact cell_row h 3 rfl
  | 4, _ => exact cell_row h 4 rfl
  | 5, _ => exact cell_row h 5 rfl
  | 6, _ => exact cell_row h 6 rfl
set_option maxRecDepth 100000 in
set_option maxHeartbeats 2000000 in
theorem operator_any (x : List UInt8) (w : World) : Calls Try.prog 75 #[.string ⟨x.toArray⟩] w fun e w' => Chg Nob w w' ∧ ∃ k l : Int, e = .returned (.tuple #[.int .i64 k, .int .i64 l]) ∧ OpIs x k l := by
  obtain ⟨V, hVe, hcV, hk1, hk2⟩ : ∃ V, V = (w.alloc (.cells (opsW.map (fun x => Value.string ⟨x.toArray⟩)).toArray 9)).alloc (.cells #[.int .i64 11, .int .i64 10, .int .i64 9, .int .i64 8, .int .i64 12, .int .i64 13, .int .i64 14] 3) ∧ Chg Nob w V ∧
      V.heap[w.heap.size]? = some (.cells (opsW.map (fun x => Value.string ⟨x.toArray⟩)).toArray 9 (0, 0)) ∧ V.heap[w.heap.size + 1]? = some (.cells #[.int .i64 11, .int .i64 10, .int .i64 9, .int .i64 8, .int .i64 12, .int .i64 13, .int .i64 14] 3 (0, 0)) := by
    have h1 := heap_alloc_new (w.alloc (.cells (opsW.map (fun x => Value.string ⟨x.toArray⟩)).toArray 9)) (.cells #[.int .i64 11, .int .i64 10, .int .i64 9, .int .i64 8, .int .i64 12, .int .i64 13, .int .i64 14] 3)
    rw [World.size_alloc] at h1
    exact ⟨_, rfl, ((Chg.refl _ _).alloc _).alloc _, ((Chg.refl Nob _).alloc _).at (heap_alloc_new w _) (fun e => e), h1⟩
  have HcS := Lib.hid (row_texts hk1)
  have HcK := Lib.hid (fun (j : Nat) (hj : j < 7) => kinds7_cell hk2 hj)
  rw [show (opsW.map (fun x => Value.string ⟨x.toArray⟩)).toArray = #[Value.string ⟨#[60, 45, 62]⟩, Value.string ⟨#[45, 62]⟩, Value.string ⟨#[124, 124]⟩, Value.string ⟨#[38, 38]⟩, Value.string ⟨#[85]⟩, Value.string ⟨#[86]⟩, Value.string ⟨#[87]⟩] from rfl] at hVe
  clear hk1 hk2
  go_enter Try.func75, Try.ntmps75
  go_wp2_with fail
  rw [← hVe]
  clear hVe
  go_loopw [6] (fun i wr => ∃ j : Nat, i = .int .i64 (j : Int) ∧ j ≤ 7 ∧ Hid (∀ (q : Nat) (y : List UInt8), q < j → opsW[q]? = some y → (y == x) = false) ∧ wr = V) (fun i _ => 7 - (intOf i).toNat)
  case atStart => exact ⟨0, rfl, by omega, fun q y h => absurd h (Nat.not_lt_zero q), rfl⟩
  case round =>
    obtain ⟨j, rfl, hj, hno, rfl⟩ := hrel
    by_cases hj7 : j < 7
    · obtain ⟨y, hy⟩ : ∃ y, opsW[j]? = some y := ⟨_, List.getElem?_eq_getElem (by show j < 7; exact hj7)⟩
      have hcs := HcS.out j y hy
      have hck := HcK.out j hj7
      have hji : (j : Int) < 7 := by omega
      have hj0 : (0 : Int) ≤ (j : Int) := by omega
      have Hy := Lib.hid hy
      clear hy
      cases hq : (y == x) with
      | true =>
        obtain ⟨k, hk⟩ : ∃ k, k = opsK j := ⟨_, rfl⟩
        rw [← hk] at hck
        have Hop : Hid (OpIs x k (rankK k)) := (show OpIs x k (rankK k) by rw [hk]; exact (beq_iff_eq.1 hq) ▸ op_yes Hy.out)
        clear hk
        go_wp2_with fail
        go_quiet ((go_at_call 102; refine Calls.quiet_of_same ((rlevel_any _ _).mono fun _ _ ⟨he, hw⟩ => ⟨he, hw.symm⟩)))
        go_wp2_with fail
        go_ret2
        exact ⟨hcV.drewN _, _, _, rfl, Hop.out⟩
      | false =>
        have Hno : Hid (∀ (q : Nat) (z : List UInt8), q < j + 1 → opsW[q]? = some z → (z == x) = false) := (show ∀ (q : Nat) (z : List UInt8), q < j + 1 → opsW[q]? = some z → (z == x) = false from fun q z h1 h2 => by
          by_cases e : q = j
          · subst e
            rw [Hy.out] at h2
            cases h2
            exact hq
          · exact hno.out q z (by omega) h2)
        go_wp2_with fail
        go_roundw
        case rel => exact ⟨j + 1, by go_num, by omega, Hno, trivial⟩
        case measure => simp [intOf]; omega
    · obtain rfl : j = 7 := by omega
      have Hop : Hid (OpIs x 0 (-1)) := op_no (fun q y h => hno.out q y (List.getElem?_eq_some_iff.1 h).1 h)
      go_wp2
      go_ret2
      exact ⟨hcV, _, _, rfl, Hop.out⟩
end Go.Proofs.Ytkgfdgfhpdhhaaa
