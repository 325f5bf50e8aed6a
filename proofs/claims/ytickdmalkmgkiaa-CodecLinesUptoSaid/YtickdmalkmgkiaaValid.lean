/- Trails: whether one may be (the program's answer and the reference's). Condition: the trail lies in the world. -/
import Derived.Test.YtickdmalkmgkiaaStep
namespace Go.Proofs.Ytickdmalkmgkiaa
open Go.ChangeShapes Go.WideShapes Go.ChangeAt Go.RowKit

abbrev Step := Int × Int × Int × Int
def StepAt (W : World) (ao : Option Addr) (i : Nat) (x : Step) : Prop :=
  ∃ b o, ao = some ⟨b, o, none⟩ ∧ b < W.heap.size ∧ W.cell? ⟨b, o + i * 4, none⟩ = some (.int .i64 x.1) ∧ W.cell? ⟨b, o + i * 4 + 1, none⟩ = some (.int .i64 x.2.1) ∧ W.cell? ⟨b, o + i * 4 + 2, none⟩ = some (.int .i64 x.2.2.1) ∧ W.cell? ⟨b, o + i * 4 + 3, none⟩ = some (.int .i64 x.2.2.2)
theorem StepAt.below {w w' : World} {ao : Option Addr} {i : Nat} {x : Step} (h : StepAt w ao i x) (hc : Chg Nob w w') : StepAt w' ao i x := by
  obtain ⟨b, o, h0, h1, h2, h3, h4, h5⟩ := h
  exact ⟨b, o, h0, Nat.lt_of_lt_of_le h1 hc.size, hc.cell' h2 (fun e => e), hc.cell' h3 (fun e => e), hc.cell' h4 (fun e => e), hc.cell' h5 (fun e => e)⟩
/-- A trail: its steps and where it turns back. -/
def IsTrail (w : World) (ao : Option Addr) (L : List Step) : Prop :=
  L.length ≤ 9223372036854775807 ∧ ∀ i x, L[i]? = some x → StepAt w ao i x
theorem IsTrail.chg {w w' : World} {ao : Option Addr} {L : List Step} (h : IsTrail w ao L) (hc : Chg Nob w w') : IsTrail w' ao L := ⟨h.1, fun i x hx => (h.2 i x hx).below hc⟩
def okStep (x : Step) : Bool := stepOk x.1 x.2.1 x.2.2.1 x.2.2.2
def headOk (c : Int) (n : Nat) : Bool := !(decide (100000 < n) || decide (c < -1) || (decide ((n : Int) ≤ c) && decide (c ≠ -1)))
def mayBe (c : Int) (L : List Step) : Bool := headOk c L.length && L.all okStep

def ValRel (w : World) (L : List Step) (i : Value) (wr : World) : Prop :=
  ∃ k : Nat, i = .int .i64 k ∧ Chg Nob w wr ∧ k ≤ L.length ∧ ∀ j x, j < k → L[j]? = some x → okStep x = true
def ValRel2 (_w w1 : World) (L : List Step) (i : Value) (wr : World) : Prop :=
  ∃ k : Nat, i = .int .i64 k ∧ Chg Nob w1 wr ∧ k ≤ L.length ∧ ∀ j x, j < k → L[j]? = some x → okStep x = true
theorem all_of {L : List Step} (h : ∀ j x, j < L.length → L[j]? = some x → okStep x = true) : L.all okStep = true := by
  rw [List.all_eq_true]; intro x hx
  obtain ⟨j, hj, rfl⟩ := List.getElem_of_mem hx
  exact h j _ hj (List.getElem?_eq_getElem hj)
theorem not_all {L : List Step} {k : Nat} {x : Step} (h : L[k]? = some x) (hb : okStep x = false) : L.all okStep = false := by
  rw [← Bool.not_eq_true, List.all_eq_true]
  intro hh
  have := hh x (List.mem_of_getElem? h)
  rw [hb] at this; cases this

set_option maxRecDepth 100000 in
set_option maxHeartbeats 4000000 in
theorem valid_any (ao : Option Addr) (cap : Nat) (c : Int) (L : List Step) (w : World) (ht : IsTrail w ao L) :
    Calls Try.prog 47 #[.agg #[.slice ao L.length cap, .int .i64 c]] w fun e w' => e = .returned (.bool (mayBe c L)) ∧ Chg Nob w w' := by
  obtain ⟨hlen, hat⟩ := ht
  have Hat := Lib.hid hat
  clear hat
  go_enter Try.func47, Try.ntmps47
  have hb : headOk c L.length = false → mayBe c L = false := fun h => by unfold mayBe; rw [h]; rfl
  have Hb := Lib.hid hb
  clear hb
  cases h1 : decide ((L.length : Int) > 100000)
  · cases h2 : decide (c < -1)
    · cases h3 : decide (c ≥ (L.length : Int))
      · have hok : headOk c L.length = true := by
          have e1 := of_decide_eq_false h1
          have e2 := of_decide_eq_false h2
          have e3 := of_decide_eq_false h3
          have g1 : decide (100000 < L.length) = false := decide_eq_false (by omega)
          have g3 : decide ((L.length : Int) ≤ c) = false := decide_eq_false (by omega)
          unfold headOk; rw [g1, h2, g3]; rfl
        have Hok := Lib.hid hok
        clear hok
        go_wp2_with fail
        clear h1 h2 h3
        have hc0 : Chg Nob w (w.alloc (Obj.cells #[Value.slice ao L.length cap, Value.int IntKind.i64 c] 24)) := (Chg.refl _ _).alloc _
        generalize w.alloc (Obj.cells #[Value.slice ao L.length cap, Value.int IntKind.i64 c] 24) = w1 at *
        go_loopw [31] (fun i wr => ValRel w L i wr) (fun i _ => L.length - (intOf i).toNat)
        case atStart => exact ⟨0, rfl, hc0, by omega, fun j x h => by omega⟩
        case round =>
          clear hc0
          obtain ⟨k, rfl, hc, hk, hall⟩ := hrel
          have Hall := Lib.hid hall
          clear hall
          by_cases hlt : k < L.length
          · obtain ⟨x, hx⟩ : ∃ x, L[k]? = some x := ⟨_, List.getElem?_eq_getElem hlt⟩
            obtain ⟨b, o, hao, hbl, c0, c1, c2, c3⟩ := (Hat.out k x hx).below hc
            subst hao
            have Hx := Lib.hid hx
            clear hx
            obtain ⟨xa, xb, xc, xd⟩ := x
            simp only at c0 c1 c2 c3
            have hki : (k : Int) < (L.length : Int) := by omega
            have hk0 : (0 : Int) ≤ (k : Int) := by omega
            go_wp2_with fail
            (with_reducible refine (step_any xa xb xc xd _).mono ?_)
            rintro e w4 ⟨rfl, hc4⟩
            have hcc : Chg Nob w w4 := (hc.alloc _).trans1 hc4
            cases hs : stepOk xa xb xc xd with
            | true =>
              go_wp2_with fail
              go_roundw
              case rel =>
                refine ⟨k + 1, by go_num, hcc, by omega, fun j y hj hy => ?_⟩
                by_cases hjk : j < k
                · exact Hall.out j y hjk hy
                · obtain rfl : j = k := by omega
                  rw [Hx.out] at hy; cases hy; exact hs
              case measure => simp [intOf]; omega
            | false =>
              have hm : mayBe c L = false := by unfold mayBe; rw [not_all Hx.out (by exact hs), Bool.and_false]
              go_wp2_with fail
              go_ret
              exact ⟨by rw [hm]; rfl, hcc⟩
          · obtain rfl : k = L.length := by omega
            have hm : mayBe c L = true := by unfold mayBe; rw [Hok.out, all_of Hall.out]; rfl
            go_wp2_with fail
            go_ret
            exact ⟨by rw [hm]; rfl, hc⟩
      · have e3 := of_decide_eq_true h3
        have h4 : (c == -1) = false := by rw [beq_eq_false_iff_ne]; omega
        have hm : mayBe c L = false := Hb.out (by
          have g3 : decide ((L.length : Int) ≤ c) = true := decide_eq_true (by omega)
          have g4 : decide (c ≠ -1) = true := decide_eq_true (by omega)
          unfold headOk; rw [g3, g4]; simp)
        clear e3
        go_wp2_with fail
        go_ret
        exact ⟨by rw [hm]; rfl, (Chg.refl _ _).alloc _⟩
    · have hm : mayBe c L = false := Hb.out (by unfold headOk; rw [h2]; simp)
      go_wp2_with fail
      go_ret
      exact ⟨by rw [hm]; rfl, (Chg.refl _ _).alloc _⟩
  · have hm : mayBe c L = false := Hb.out (by
      have e1 := of_decide_eq_true h1
      have g1 : decide (100000 < L.length) = true := decide_eq_true (by omega)
      unfold headOk; rw [g1]; rfl)
    go_wp2_with fail
    go_ret
    exact ⟨by rw [hm]; rfl, (Chg.refl _ _).alloc _⟩

set_option maxRecDepth 100000 in
set_option maxHeartbeats 4000000 in
theorem tmay_any (ao : Option Addr) (cap : Nat) (c : Int) (L : List Step) (w : World) (ht : IsTrail w ao L) :
    Calls Try.prog 49 #[.agg #[.slice ao L.length cap, .int .i64 c]] w fun e w' => e = .returned (.bool (mayBe c L)) ∧ Chg Nob w w' := by
  obtain ⟨hlen, hat⟩ := ht
  have Hat := Lib.hid hat
  clear hat
  go_enter Try.func49, Try.ntmps49
  have hb : headOk c L.length = false → mayBe c L = false := fun h => by unfold mayBe; rw [h]; rfl
  have Hb := Lib.hid hb
  clear hb
  cases h1 : decide ((L.length : Int) > 100000)
  · cases h2 : decide (c < -1)
    · cases h3 : decide (c ≥ (L.length : Int))
      · have hok : headOk c L.length = true := by
          have e1 := of_decide_eq_false h1
          have e2 := of_decide_eq_false h2
          have e3 := of_decide_eq_false h3
          have g1 : decide (100000 < L.length) = false := decide_eq_false (by omega)
          have g3 : decide ((L.length : Int) ≤ c) = false := decide_eq_false (by omega)
          unfold headOk; rw [g1, h2, g3]; rfl
        have Hok := Lib.hid hok
        clear hok
        cases h0 : decide (c ≥ 0)
        all_goals
          go_wp2_with fail
          clear h1 h2 h3 h0
          have hc0 : Chg Nob w (w.alloc (Obj.cells #[Value.slice ao L.length cap, Value.int IntKind.i64 c] 24)) := (Chg.refl _ _).alloc _
          have hb0 : (w.alloc (Obj.cells #[Value.slice ao L.length cap, Value.int IntKind.i64 c] 24)).cell? ⟨w.heap.size, 0, none⟩ = some (.slice ao L.length cap) := (cell_two (heap_alloc_new w _)).1
          have Hb0 := Lib.hid hb0
          clear hb0
          generalize w.alloc (Obj.cells #[Value.slice ao L.length cap, Value.int IntKind.i64 c] 24) = w1 at *
          go_loopw [3] (fun i wr => ValRel2 w w1 L i wr) (fun i _ => L.length - (intOf i).toNat)
          case atStart => exact ⟨0, rfl, Chg.refl _ _, by omega, fun j x h => by omega⟩
          case round =>
            obtain ⟨k, rfl, hc1, hk, hall⟩ := hrel
            have hc : Chg Nob w wr := hc0.trans1 hc1
            have hbx := hc1.cell' Hb0.out (fun e => e)
            have Hall := Lib.hid hall
            clear hall
            by_cases hlt : k < L.length
            · obtain ⟨x, hx⟩ : ∃ x, L[k]? = some x := ⟨_, List.getElem?_eq_getElem hlt⟩
              obtain ⟨b, o, hao, hbl, c0, c1, c2, c3⟩ := (Hat.out k x hx).below hc
              subst hao
              have Hx := Lib.hid hx
              clear hx
              obtain ⟨xa, xb, xc, xd⟩ := x
              simp only at c0 c1 c2 c3
              have hki : (k : Int) < (L.length : Int) := by omega
              have hk0 : (0 : Int) ≤ (k : Int) := by omega
              go_wp2_with fail
              (with_reducible refine (rstep_any xa xb xc xd _).mono ?_)
              rintro e w4 ⟨rfl, hc4⟩
              have hcc : Chg Nob w w4 := hc.trans1 hc4
              have hcc1 := hc1.trans1 hc4
              cases hs : stepOk xa xb xc xd with
              | true =>
                go_wp2_with fail
                go_roundw
                case rel =>
                  refine ⟨k + 1, by go_num, hcc1, by omega, fun j y hj hy => ?_⟩
                  by_cases hjk : j < k
                  · exact Hall.out j y hjk hy
                  · obtain rfl : j = k := by omega
                    rw [Hx.out] at hy; cases hy; exact hs
                case measure => simp [intOf]; omega
              | false =>
                have hm : mayBe c L = false := by unfold mayBe; rw [not_all Hx.out (by exact hs), Bool.and_false]
                go_wp2_with fail
                go_ret
                exact ⟨by rw [hm]; rfl, hcc⟩
            · obtain rfl : k = L.length := by omega
              have hm : mayBe c L = true := by unfold mayBe; rw [Hok.out, all_of Hall.out]; rfl
              go_wp2_with fail
              go_ret
              exact ⟨by rw [hm]; rfl, hc⟩
      · have e3 := of_decide_eq_true h3
        have h4 : (c == -1) = false := by rw [beq_eq_false_iff_ne]; omega
        have hm : mayBe c L = false := Hb.out (by
          have g3 : decide ((L.length : Int) ≤ c) = true := decide_eq_true (by omega)
          have g4 : decide (c ≠ -1) = true := decide_eq_true (by omega)
          unfold headOk; rw [g3, g4]; simp)
        have h0 : decide (c ≥ 0) = true := decide_eq_true (by omega)
        clear e3
        go_wp2_with fail
        go_ret
        exact ⟨by rw [hm]; rfl, (Chg.refl _ _).alloc _⟩
    · have hm : mayBe c L = false := Hb.out (by unfold headOk; rw [h2]; simp)
      go_wp2_with fail
      go_ret
      exact ⟨by rw [hm]; rfl, (Chg.refl _ _).alloc _⟩
  · have hm : mayBe c L = false := Hb.out (by
      have e1 := of_decide_eq_true h1
      have g1 : decide (100000 < L.length) = true := decide_eq_true (by omega)
      unfold headOk; rw [g1]; rfl)
    go_wp2_with fail
    go_ret
    exact ⟨by rw [hm]; rfl, (Chg.refl _ _).alloc _⟩

end Go.Proofs.Ytickdmalkmgkiaa
