/- Trails: whether a step may be (the program's answer and the reference's). No condition. -/
import Derived.Test.YtickdmalkmgkiaaOpen
import Derived.Test.YtickdmalkmgkiaaBufThree
namespace Go.Proofs.Ytickdmalkmgkiaa
open Go.ChangeShapes Go.WideShapes Go.ChangeAt Go.RowKit

def inR (n : Int) : Bool := !(decide (n < -1) || decide (4000 < n))
def stepOk (a b c d : Int) : Bool := (inR a && inR b && inR c && inR d) && (decide (a < 0) == decide (b < 0) && decide (c < 0) == decide (d < 0) && (decide (0 ≤ a) || decide (c < 0)))

theorem cell_row {w : World} {b t : Nat} {cs : Array Value} {m : Nat × Nat} (h : w.heap[b]? = some (.cells cs t m)) (j : Nat) {v : Value} (hj : cs[j]? = some v) : w.cell? ⟨b, j, none⟩ = some v := by
  unfold World.cell?
  simp [h, hj]

def StepRel (W0 : World) (l : List Int) (i : Value) (wr : World) : Prop :=
  ∃ k : Nat, i = .int .i64 k ∧ wr = W0 ∧ k ≤ 4 ∧ ∀ j x, j < k → l[j]? = some x → inR x = true

set_option maxRecDepth 100000 in
set_option maxHeartbeats 4000000 in
theorem step_any (a b c d : Int) (w : World) :
    Calls Try.prog 67 #[.agg #[.int .i64 a, .int .i64 b, .int .i64 c, .int .i64 d]] w fun e w' => e = .returned (.bool (stepOk a b c d)) ∧ Chg Nob w w' := by
  go_enter Try.func67, Try.ntmps67
  go_wp2_with fail
  obtain ⟨W0, hW0⟩ : ∃ W0, W0 = ((w.alloc (Obj.cells #[.int .i64 a, .int .i64 b, .int .i64 c, .int .i64 d] 83)).alloc (Obj.cells #[.int .i64 a, .int .i64 b, .int .i64 c, .int .i64 d] 3)) := ⟨_, rfl⟩
  rw [← hW0]
  have hc : Chg Nob w W0 := by rw [hW0]; exact ((Chg.refl _ _).alloc _).alloc _
  have h0 : W0.heap[w.heap.size]? = some (Obj.cells #[.int .i64 a, .int .i64 b, .int .i64 c, .int .i64 d] 83) := by
    rw [hW0]; exact ((Chg.refl Nob _).alloc _).at (heap_alloc_new w _) (fun e => e)
  have h1 : W0.heap[w.heap.size + 1]? = some (Obj.cells #[.int .i64 a, .int .i64 b, .int .i64 c, .int .i64 d] 3) := by
    rw [hW0, show w.heap.size + 1 = (w.alloc (Obj.cells #[.int .i64 a, .int .i64 b, .int .i64 c, .int .i64 d] 83)).heap.size by simp]; exact heap_alloc_new _ _
  clear hW0
  have p0 := cell_row h0 0 (v := .int .i64 a) rfl
  have p1 := cell_row h0 1 (v := .int .i64 b) rfl
  have p2 := cell_row h0 2 (v := .int .i64 c) rfl
  have p3 := cell_row h0 3 (v := .int .i64 d) rfl
  have hrow : ∀ (k : Nat) (x : Int), [a, b, c, d][k]? = some x → W0.cell? ⟨w.heap.size + 1, k, none⟩ = some (.int .i64 x) := by
    intro k x hk
    refine cell_row h1 k ?_
    have : k < 4 := (List.getElem?_eq_some_iff.1 hk).1
    match k, this with
    | 0, _ | 1, _ | 2, _ | 3, _ => simp at hk; subst hk; rfl
  have Hrow := Lib.hid hrow
  clear h0 h1 hrow
  generalize w.heap.size = q0 at *
  go_loopw [15] (fun i wr => StepRel W0 [a, b, c, d] i wr) (fun i _ => 4 - (intOf i).toNat)
  case atStart => exact ⟨0, rfl, rfl, by omega, fun j x h => by omega⟩
  case round =>
    obtain ⟨k, rfl, rfl, hk, hall⟩ := hrel
    by_cases hlt : k < 4
    · obtain ⟨x, hx⟩ : ∃ x, [a, b, c, d][k]? = some x := ⟨_, List.getElem?_eq_getElem hlt⟩
      have hcx := Hrow.out k x hx
      have Hx := Lib.hid hx
      have Hall := Lib.hid hall
      clear hx hall
      by_cases hr : inR x = true
      · have hr2 : decide (x < -1) = false ∧ decide (4000 < x) = false := by simpa [inR] using hr
        obtain ⟨hr3, hr4⟩ := hr2
        go_wp2_with fail
        go_roundw
        case rel =>
          refine ⟨k + 1, by go_num, rfl, by omega, fun j y hj hy => ?_⟩
          by_cases hjk : j < k
          · exact Hall.out j y hjk hy
          · obtain rfl : j = k := by omega
            rw [Hx.out] at hy; cases hy; exact hr
        case measure => simp [intOf]; omega
      · have hbad : stepOk a b c d = false := by
          have h2 := Hx.out
          have : (inR a && inR b && inR c && inR d) = false := by
            match k, hlt with
            | 0, _ | 1, _ | 2, _ | 3, _ => simp at h2; subst h2; simp [hr]
          unfold stepOk; rw [this]; rfl
        have hr2 : decide (x < -1) = true ∨ (decide (x < -1) = false ∧ decide (4000 < x) = true) := by
          cases h1 : decide (x < -1)
          · right; refine ⟨rfl, ?_⟩
            cases h2 : decide (4000 < x)
            · exact absurd (by unfold inR; rw [h1, h2]; rfl) hr
            · rfl
          · exact Or.inl rfl
        rcases hr2 with hr3 | ⟨hr3, hr4⟩
        · go_wp2_with fail
          go_ret
          exact ⟨by rw [hbad]; rfl, hc⟩
        · go_wp2_with fail
          go_ret
          exact ⟨by rw [hbad]; rfl, hc⟩
    · obtain rfl : k = 4 := by omega
      have hok : (inR a && inR b && inR c && inR d) = true := by
        rw [hall 0 a (by omega) rfl, hall 1 b (by omega) rfl, hall 2 c (by omega) rfl, hall 3 d (by omega) rfl]; rfl
      have hfin : stepOk a b c d = (decide (a < 0) == decide (b < 0) && decide (c < 0) == decide (d < 0) && (decide (0 ≤ a) || decide (c < 0))) := by unfold stepOk; rw [hok]; rfl
      have Hfin := Lib.hid hfin
      clear hok hfin hall hlt hk
      have hd : ∀ x : Int, ∃ q, decide (x < 0) = q := fun x => ⟨_, rfl⟩
      obtain ⟨qa, ha⟩ := hd a
      obtain ⟨qb, hb⟩ := hd b
      obtain ⟨qc, hc2⟩ := hd c
      obtain ⟨qd, hd2⟩ := hd d
      obtain ⟨qe, he⟩ : ∃ q, decide (0 ≤ a) = q := ⟨_, rfl⟩
      rw [ha, hb, hc2, hd2, he] at Hfin
      cases qa <;> cases qb <;> cases qc <;> cases qd <;> cases qe <;>
      · go_wp2_with fail
        go_ret
        exact ⟨by rw [Hfin.out]; rfl, hc⟩

set_option maxRecDepth 100000 in
set_option maxHeartbeats 4000000 in
theorem rstep_any (a b c d : Int) (w : World) :
    Calls Try.prog 68 #[.agg #[.int .i64 a, .int .i64 b, .int .i64 c, .int .i64 d]] w fun e w' => e = .returned (.bool (stepOk a b c d)) ∧ Chg Nob w w' := by
  go_enter Try.func68, Try.ntmps68
  go_wp2_with fail
  obtain ⟨W0, hW0⟩ : ∃ W0, W0 = ((w.alloc (Obj.cells #[.int .i64 a, .int .i64 b, .int .i64 c, .int .i64 d] 83)).alloc (Obj.cells #[.int .i64 a, .int .i64 b, .int .i64 c, .int .i64 d] 3)) := ⟨_, rfl⟩
  rw [← hW0]
  have hc : Chg Nob w W0 := by rw [hW0]; exact ((Chg.refl _ _).alloc _).alloc _
  have h0 : W0.heap[w.heap.size]? = some (Obj.cells #[.int .i64 a, .int .i64 b, .int .i64 c, .int .i64 d] 83) := by
    rw [hW0]; exact ((Chg.refl Nob _).alloc _).at (heap_alloc_new w _) (fun e => e)
  have h1 : W0.heap[w.heap.size + 1]? = some (Obj.cells #[.int .i64 a, .int .i64 b, .int .i64 c, .int .i64 d] 3) := by
    rw [hW0, show w.heap.size + 1 = (w.alloc (Obj.cells #[.int .i64 a, .int .i64 b, .int .i64 c, .int .i64 d] 83)).heap.size by simp]; exact heap_alloc_new _ _
  clear hW0
  have p0 := cell_row h0 0 (v := .int .i64 a) rfl
  have p1 := cell_row h0 1 (v := .int .i64 b) rfl
  have p2 := cell_row h0 2 (v := .int .i64 c) rfl
  have p3 := cell_row h0 3 (v := .int .i64 d) rfl
  have hrow : ∀ (k : Nat) (x : Int), [a, b, c, d][k]? = some x → W0.cell? ⟨w.heap.size + 1, k, none⟩ = some (.int .i64 x) := by
    intro k x hk
    refine cell_row h1 k ?_
    have : k < 4 := (List.getElem?_eq_some_iff.1 hk).1
    match k, this with
    | 0, _ | 1, _ | 2, _ | 3, _ => simp at hk; subst hk; rfl
  have Hrow := Lib.hid hrow
  clear h0 h1 hrow
  generalize w.heap.size = q0 at *
  go_loopw [4] (fun i wr => StepRel W0 [a, b, c, d] i wr) (fun i _ => 4 - (intOf i).toNat)
  case atStart => exact ⟨0, rfl, rfl, by omega, fun j x h => by omega⟩
  case round =>
    obtain ⟨k, rfl, rfl, hk, hall⟩ := hrel
    by_cases hlt : k < 4
    · obtain ⟨x, hx⟩ : ∃ x, [a, b, c, d][k]? = some x := ⟨_, List.getElem?_eq_getElem hlt⟩
      have hcx := Hrow.out k x hx
      have Hx := Lib.hid hx
      have Hall := Lib.hid hall
      clear hx hall
      by_cases hr : inR x = true
      · have hr2 : decide (x < -1) = false ∧ decide (4000 < x) = false := by simpa [inR] using hr
        obtain ⟨hr3, hr4⟩ := hr2
        go_wp2_with fail
        go_roundw
        case rel =>
          refine ⟨k + 1, by go_num, rfl, by omega, fun j y hj hy => ?_⟩
          by_cases hjk : j < k
          · exact Hall.out j y hjk hy
          · obtain rfl : j = k := by omega
            rw [Hx.out] at hy; cases hy; exact hr
        case measure => simp [intOf]; omega
      · have hbad : stepOk a b c d = false := by
          have h2 := Hx.out
          have : (inR a && inR b && inR c && inR d) = false := by
            match k, hlt with
            | 0, _ | 1, _ | 2, _ | 3, _ => simp at h2; subst h2; simp [hr]
          unfold stepOk; rw [this]; rfl
        have hr2 : decide (x < -1) = true ∨ (decide (x < -1) = false ∧ decide (4000 < x) = true) := by
          cases h1 : decide (x < -1)
          · right; refine ⟨rfl, ?_⟩
            cases h2 : decide (4000 < x)
            · exact absurd (by unfold inR; rw [h1, h2]; rfl) hr
            · rfl
          · exact Or.inl rfl
        rcases hr2 with hr3 | ⟨hr3, hr4⟩
        · go_wp2_with fail
          go_ret
          exact ⟨by rw [hbad]; rfl, hc⟩
        · go_wp2_with fail
          go_ret
          exact ⟨by rw [hbad]; rfl, hc⟩
    · obtain rfl : k = 4 := by omega
      have hok : (inR a && inR b && inR c && inR d) = true := by
        rw [hall 0 a (by omega) rfl, hall 1 b (by omega) rfl, hall 2 c (by omega) rfl, hall 3 d (by omega) rfl]; rfl
      have hfin : stepOk a b c d = (decide (a < 0) == decide (b < 0) && decide (c < 0) == decide (d < 0) && (decide (0 ≤ a) || decide (c < 0))) := by unfold stepOk; rw [hok]; rfl
      have Hfin := Lib.hid hfin
      clear hok hfin hall hlt hk
      have hd : ∀ x : Int, ∃ q, decide (x < 0) = q := fun x => ⟨_, rfl⟩
      obtain ⟨qa, ha⟩ := hd a
      obtain ⟨qb, hb⟩ := hd b
      obtain ⟨qc, hc2⟩ := hd c
      obtain ⟨qd, hd2⟩ := hd d
      obtain ⟨qe, he⟩ : ∃ q, decide (0 ≤ a) = q := ⟨_, rfl⟩
      rw [ha, hb, hc2, hd2, he] at Hfin
      cases qa <;> cases qb <;> cases qc <;> cases qd <;> cases qe <;>
      · go_wp2_with fail
        go_ret
        exact ⟨by rw [Hfin.out]; rfl, hc⟩

end Go.Proofs.Ytickdmalkmgkiaa
