/- A formula that came in. Condition: its reading. -/
import Derived.Test.YtkgfdgfhpdhhaaaTree
import Derived.ProofKit
import Derived.OpenShut
import Derived.Deep.Slices
import Derived.Deep.Fields
import Derived.ChangeSame
import Derived.SizedLaws
namespace Go.Proofs.Ytkgfdgfhpdhhaaa
open Go.ChangeShapes Go.WideShapes Go.RowKit

theorem list_of {α : Type} {P : Nat → α → Prop} : ∀ n, (∀ i, i < n → ∃ x, P i x) → ∃ L : List α, L.length = n ∧ ∀ i x, L[i]? = some x → P i x
  | 0, _ => ⟨[], rfl, fun i x h => by simp at h⟩
  | n + 1, h => by
    obtain ⟨L, hl, hp⟩ := list_of n (fun i hi => h i (by omega))
    obtain ⟨x, hx⟩ := h n (by omega)
    refine ⟨L ++ [x], by simp [hl], fun i y hy => ?_⟩
    by_cases hi : i < n
    · rw [List.getElem?_append_left (by omega)] at hy; exact hp i y hy
    · have hi2 : i = n := by
        have := (List.getElem?_eq_some_iff.1 hy).1; simp [hl] at this; omega
      subst hi2
      rw [List.getElem?_append_right (by omega), hl] at hy
      simp at hy; subst hy; exact hx

def Old (W : World) : Nat → Prop := fun b => b < W.heap.size

section
variable {H : Type} {enc : TypeId × Value → H} {W : World}
set_option maxRecDepth 100000 in
theorem tree_of : ∀ (fuel : Nat) (cs : List Value) (x : DataW H × List MemPlace), DataW.trod enc Try.prog W 0 (fun _ => true) true fuel 37 cs = some x →
    ∃ t k nm sl, cs = [.int .i64 k, .string nm, sl] ∧ IsTree (Old W) W t (.agg #[.int .i64 k, .string nm, sl]) := by
  intro fuel
  induction fuel using Nat.strongRecOn with
  | ind fuel ih =>
    intro cs x h
    have c37 : Try.prog.cellsOf 37 = 3 := by kernel_rfl
    have c3 : Try.prog.cellsOf 3 = 1 := by kernel_rfl
    have c9 : Try.prog.cellsOf 9 = 1 := by kernel_rfl
    have c35 : Try.prog.cellsOf 35 = 1 := by kernel_rfl
    obtain ⟨xs, n, rfl, _, hcl, hxl, hf⟩ := DataW.trod_struct Try.underlying37 h
    rw [c37] at hcl
    match cs, hcl with
    | [v0, v1, v2], _ =>
      match xs, hxl with
      | [y0, y1, y2], _ =>
        have h0 : DataW.trod enc Try.prog W 0 (fun _ => true) true n 3 (([v0, v1, v2].drop 0).take (Try.prog.cellsOf 3)) = some y0 := hf 0 _ rfl
        have h1 : DataW.trod enc Try.prog W 0 (fun _ => true) true n 9 (([v0, v1, v2].drop 1).take (Try.prog.cellsOf 9)) = some y1 := hf 1 _ rfl
        have h2 : DataW.trod enc Try.prog W 0 (fun _ => true) true n 35 (([v0, v1, v2].drop 2).take (Try.prog.cellsOf 35)) = some y2 := hf 2 _ rfl
        rw [c3] at h0
        rw [c9] at h1
        rw [c35] at h2
        simp only [List.drop_zero, List.drop_succ_cons, List.take_succ_cons, List.take_zero] at h0 h1 h2
        obtain ⟨k, e0, _, _⟩ := DataW.trod_int Try.underlying3 h0
        obtain ⟨nm, e1, _, _⟩ := DataW.trod_string Try.underlying9 h1
        simp at e0 e1
        subst e0 e1
        rcases DataW.trod_slice Try.underlying35 h2 with ⟨e2, _⟩ | ⟨a, len, cap, elems, rest, m, hm, e2, _, _, hlc, hcm, hel, hi, _⟩
        · simp at e2
          subst e2
          exact ⟨.node k nm.data.toList [], k, nm, _, rfl, by rw [IsTree]; exact ⟨none, 0, rfl, by simp, by rw [IsKids]; trivial⟩⟩
        · simp at e2
          subst e2
          obtain ⟨L, hL, hP⟩ := list_of (P := fun i (t : T) => ∃ b o k nm sl, a = ⟨b, o, none⟩ ∧ b < W.heap.size ∧ W.cell? ⟨b, o + i * 3, none⟩ = some (.int .i64 k) ∧ W.cell? ⟨b, o + i * 3 + 1, none⟩ = some (.string nm) ∧ W.cell? ⟨b, o + i * 3 + 2, none⟩ = some sl ∧ IsTree (Old W) W t (.agg #[.int .i64 k, .string nm, sl])) len (fun i hil => by
            have hb := hi i hil
            rw [List.getElem?_eq_getElem (by omega)] at hb
            obtain ⟨cs', hcs, ht⟩ := Option.bind_eq_some_iff.1 hb
            rw [c37] at hcs
            obtain ⟨t, k', nm', sl', rfl, htree⟩ := ih m (by omega) cs' _ ht
            obtain ⟨_, _, hat⟩ := World.cells?_some hcs
            obtain ⟨b, o, spot⟩ := a
            have hs : spot = none := by
              have hb0 := hi 0 (by omega)
              rw [List.getElem?_eq_getElem (by omega)] at hb0
              obtain ⟨cs0, hcs0, ht0⟩ := Option.bind_eq_some_iff.1 hb0
              rw [c37] at hcs0
              obtain ⟨t0, k0, nm0, sl0, rfl, _⟩ := ih m (by omega) cs0 _ ht0
              obtain ⟨_, _, hat0⟩ := World.cells?_some hcs0
              have h00 := hat0 0 (by decide)
              simp only [List.getElem?_cons_zero] at h00
              simpa [Addr.add] using World.cell?_spot h00
            subst hs
            have a0 := hat 0 (by decide)
            have a1 := hat 1 (by decide)
            have a2 := hat 2 (by decide)
            rw [Go.WideShapes.add_plain, Go.WideShapes.add_plain] at a0 a1 a2
            simp only [List.getElem?_cons_zero, List.getElem?_cons_succ, Nat.add_zero] at a0 a1 a2
            exact ⟨t, b, o, k', nm', sl', rfl, World.block_lt_of_cell? W _ a0, a0, a1, a2, htree⟩)
          refine ⟨.node k nm.data.toList L, k, nm, _, rfl, ?_⟩
          rw [IsTree]
          refine ⟨some a, cap, by rw [hL], by rw [hL]; unfold maxLen at hcm; omega, IsKids.mk L 0 (fun j t ht => ?_)⟩
          obtain ⟨b, o, k', nm', sl', rfl, hb, q0, q1, q2, q3⟩ := hP j t ht
          rw [Nat.zero_add]
          exact ⟨b, o, k', nm', sl', rfl, hb, q0, q1, q2, q3⟩

set_option maxRecDepth 100000 in
theorem open_tree {b0 : Nat} {v : Value} {d : DataW H} {p : List MemPlace} (hv : Value.okWide Try.prog W .any b0 37 v) (h : DataW.Trod enc Try.prog W 0 (fun _ => true) true 37 v d p) : ∃ t, IsTree (Old W) W t v := by
  unfold Value.okWide at hv
  rw [Try.underlying37] at hv
  obtain ⟨cs, rfl, hcs, _⟩ := hv
  obtain ⟨fuel, hf⟩ := h
  obtain ⟨t, k, nm, sl, e, ht⟩ := tree_of fuel _ _ hf
  obtain ⟨l⟩ := cs
  simp [Value.cells] at e
  subst e
  exact ⟨t, ht⟩
end
end Go.Proofs.Ytkgfdgfhpdhhaaa
