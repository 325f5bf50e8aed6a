/- A trail that came in. Condition: its reading. -/
import Derived.Test.YtickdmalkmgkiaaRwrite
namespace Go.Proofs.Ytickdmalkmgkiaa
open Go.ChangeShapes Go.WideShapes Go.ChangeAt Go.RowKit

section
variable {H : Type} {enc : TypeId × Value → H} {P : Program} {w : World} {base : Nat} {held : Bool}
/-- A slice of structs, from its cell. -/
theorem slice_structs_cell {t e : TypeId} {fs : Array Field} {n : Nat} {cs : List Value} {x : DataW H × List MemPlace} (ht : P.underlying t = some (.slice e)) (he : P.underlying e = some (.struct fs)) (hone : Go.Deep.oneCellFields P fs = true) (hC : P.cellsOf e = fs.size)
    (hf : DataW.trod enc P w base (fun _ => true) held n t cs = some x) (hpos : 0 < fs.size) :
    ∃ ao len cap, cs = [.slice ao len cap] ∧ len ≤ cap ∧ cap ≤ maxLen ∧ (ao = none → len = 0) ∧
      ∀ i, i < len → ∃ b o, ao = some ⟨b, o, none⟩ ∧ ∀ (j : Nat) (f : Field), fs[j]? = some f → ∃ (u : Value) (y : DataW H × List MemPlace) (m : Nat), w.cell? ⟨b, o + (i * fs.size + j), none⟩ = some u ∧ DataW.trod enc P w base (fun _ => true) held m f.type [u] = some y := by
  rcases Go.Deep.open_slice ht hf with ⟨hcs, _⟩ | ⟨a, len, cap, m, n, D, Pl, hcs, _, hl, hm, hmm, _, hi⟩
  · exact ⟨none, 0, 0, hcs, Nat.le_refl _, Nat.zero_le _, fun _ => rfl, fun i hi => absurd hi (by omega)⟩
  · simp at hmm
    subst hmm
    refine ⟨some a, len, m, hcs, hl, hm, fun e => by simp at e, fun i hil => ?_⟩
    obtain ⟨cs', hc, ht'⟩ := hi i (by omega)
    rw [hC] at hc
    obtain ⟨_, hcl, hat⟩ := World.cells?_some hc
    obtain ⟨hlen, hfd⟩ := struct_cells he hone hC ht'
    obtain ⟨b, o, spot⟩ := a
    have hspot : spot = none := by
      obtain ⟨cs0, hc0, ht0⟩ := hi 0 (by omega)
      rw [hC] at hc0
      obtain ⟨_, hcl0, hat0⟩ := World.cells?_some hc0
      have h0 := hat0 0 hpos
      rw [List.getElem?_eq_getElem (by omega)] at h0
      simpa [Addr.add] using World.cell?_spot h0
    subst hspot
    refine ⟨b, o, rfl, fun j f hj => ?_⟩
    obtain ⟨u, y, k, hu, hy⟩ := hfd j f hj
    refine ⟨u, y, k, ?_, hy⟩
    have hlt : j < fs.size := (Array.getElem?_eq_some_iff.1 hj).1
    have h1 := hat j hlt
    rw [Go.WideShapes.add_plain, Go.WideShapes.add_plain] at h1
    rw [← Nat.add_assoc, h1, hu]
end

set_option maxRecDepth 100000 in
theorem open_trail {H : Type} {enc : TypeId × Value → H} {W : World} {b0 : Nat} {v : Value} {d : DataW H} {p : List MemPlace} (hv : Value.okWide Try.prog W .any b0 24 v) (h : DataW.Trod enc Try.prog W 0 (fun _ => true) true 24 v d p) :
    ∃ ao L cap c, v = .agg #[.slice ao L.length cap, .int .i64 c] ∧ IsTrail W ao L := by
  unfold Value.okWide at hv
  rw [Try.underlying24] at hv
  obtain ⟨cs, rfl, hcs, _⟩ := hv
  obtain ⟨fuel, hf⟩ := h
  obtain ⟨y0, y1, n, _, hl, h0, h1⟩ := trod_struct2 Try.underlying24 hf
  have hcs2 : cs.size = 2 := hcs.trans (by kernel_rfl)
  obtain ⟨c0, c1, rfl⟩ : ∃ c0 c1, cs = #[c0, c1] := by
    obtain ⟨l⟩ := cs
    match l, hcs2 with
    | [a, b], _ => exact ⟨a, b, rfl⟩
  have e22 : Try.prog.cellsOf 22 = 1 := by kernel_rfl
  have e3 : Try.prog.cellsOf 3 = 1 := by kernel_rfl
  simp only [Value.cells] at h0 h1
  simp only [e22, e3, List.drop_zero, List.drop_succ_cons, List.take_succ_cons, List.take_zero] at h0 h1
  obtain ⟨ao, len, cap, hc, _, hm, _, hi⟩ := slice_structs_cell Try.underlying22 Try.underlying83 (by kernel_rfl) (by kernel_rfl) h0 (by decide)
  obtain ⟨c, hc1, _, _⟩ := DataW.trod_int Try.underlying3 h1
  simp at hc hc1
  subst hc hc1
  obtain ⟨L, hL, hP⟩ := list_of (P := StepAt W ao) len (fun i hi' => by
      obtain ⟨b, o, hao, hf⟩ := hi i hi'
      obtain ⟨u0, y0, m0, k0, t0⟩ := hf 0 _ rfl
      obtain ⟨u1, y1, m1, k1, t1⟩ := hf 1 _ rfl
      obtain ⟨u2, y2, m2, k2, t2⟩ := hf 2 _ rfl
      obtain ⟨u3, y3, m3, k3, t3⟩ := hf 3 _ rfl
      obtain ⟨n0, q0, _, _⟩ := DataW.trod_int Try.underlying3 t0
      obtain ⟨n1, q1, _, _⟩ := DataW.trod_int Try.underlying3 t1
      obtain ⟨n2, q2, _, _⟩ := DataW.trod_int Try.underlying3 t2
      obtain ⟨n3, q3, _, _⟩ := DataW.trod_int Try.underlying3 t3
      simp at q0 q1 q2 q3
      subst q0 q1 q2 q3
      exact ⟨(n0, n1, n2, n3), b, o, hao, World.block_lt_of_cell? W _ k0, k0, k1, k2, k3⟩)
  exact ⟨ao, L, cap, c, by rw [hL], by rw [hL]; unfold maxLen at hm; omega, hP⟩

end Go.Proofs.Ytickdmalkmgkiaa
