/- A lasso that came in. Condition: its reading. -/
import Derived.Test.YtkgfdgfhpdhhaaaOpen
import Derived.ChangeSlices
import Derived.ChangeSame
import Derived.Test.YtkgfdgfhpdhhaaaLasso
namespace Go.Proofs.Ytkgfdgfhpdhhaaa
open Go.ChangeShapes Go.WideShapes Go.ChangeAt Go.RowKit

/-- A lasso's rows stand in the world. -/
structure LasIn (W : World) (v : Value) (ap : Option Addr) (cp : Nat) (P : List Int) (al : Option Addr) (cl : Nat) (L : List Int) : Prop where
  val : v = .agg #[.slice ap P.length cp, .slice al L.length cl]
  hcp : P.length ≤ cp
  hcl : L.length ≤ cl
  mp : P.length ≤ 17592186044416
  ml : L.length ≤ 17592186044416
  rp : URow W ap P
  rl : URow W al L
  np : ap = none → cp = 0
  nl : al = none → cl = 0
section
variable {H : Type} {enc : TypeId × Value → H} {P : Program} {w : World} {base : Nat} {spare : Nat → Bool} {held : Bool}
theorem struct_fields {e : TypeId} {fs : Array Field} {n : Nat} {cs : List Value} {x : DataW H × List MemPlace} (he : P.underlying e = some (.struct fs)) (hone : Go.Deep.oneCellFields P fs = true) (hC : P.cellsOf e = fs.size)
    (h : DataW.trod enc P w base spare held n e cs = some x) (hw : ∀ k, k ∈ x.1.weights P e → k ≤ reachBytes) :
    cs.length = fs.size ∧ ∀ (j : Nat) (f : Field), fs[j]? = some f → ∃ (v : Value) (y : DataW H × List MemPlace) (m : Nat), cs[j]? = some v ∧ DataW.trod enc P w base spare held m f.type [v] = some y ∧ ∀ k, k ∈ y.1.weights P f.type → k ≤ reachBytes := by
  obtain ⟨xs, m, _, hx, hcl, hxl, hf⟩ := DataW.trod_struct he h
  rw [hC] at hcl
  refine ⟨hcl, fun j f hj => ?_⟩
  obtain ⟨ho, hk⟩ := Go.Deep.hone_of hone j f hj
  have hlt : j < fs.size := (Array.getElem?_eq_some_iff.1 hj).1
  have h1 := hf j f hj
  rw [ho, hk, List.drop_eq_getElem_cons (by omega), List.take_succ_cons, List.take_zero] at h1
  refine ⟨cs[j], xs[j], m, List.getElem?_eq_getElem (by omega), h1.trans (List.getElem?_eq_getElem (by omega)), fun k hkk => hw k ?_⟩
  rw [hx]
  simp only [DataW.weights, he]
  refine DataW.weights_mem_each (j := j) (t := f.type) (d := xs[j].1) ?_ ?_ k hkk
  · rw [List.getElem?_map]
    have : fs.toList[j]? = some f := by simpa using hj
    rw [this]; rfl
  · rw [List.getElem?_map, List.getElem?_eq_getElem (by omega)]; rfl
/-- What the reach says of one argument. -/
theorem sized_at {ts : List TypeId} {ds : List (DataW H)} (h : (DataW.weightsEach P ts ds).all (· ≤ reachBytes) = true) {j : Nat} {t : TypeId} {d : DataW H} (ht : ts[j]? = some t) (hd : ds[j]? = some d) : ∀ k, k ∈ d.weights P t → k ≤ reachBytes := fun k hk => by
  have := List.all_eq_true.1 h _ (DataW.weights_mem_each ht hd k hk)
  simpa using this
end
theorem open_uints {H : Type} {enc : TypeId × Value → H} {W : World} {fuel : Nat} {c : Value} {x : DataW H × List MemPlace} (hf : DataW.trod enc Try.prog W 0 (fun _ => true) true fuel 22 [c] = some x) (hw : ∀ k, k ∈ x.1.weights Try.prog 22 → k ≤ reachBytes) :
    ∃ a M cp, c = .slice a M.length cp ∧ M.length ≤ cp ∧ M.length ≤ 17592186044416 ∧ URow W a M ∧ (a = none → cp = 0) := by
  rcases open_ints Try.underlying22 Try.underlying25 (by kernel_rfl) hf with ⟨hcs, _⟩ | ⟨a, len', cap', zs, hcs, _, hl, hm, hz, hx, hc, _⟩
  · simp at hcs
    exact ⟨none, [], 0, hcs, Nat.le_refl _, Nat.zero_le _, fun j x h => by simp at h, fun _ => rfl⟩
  · simp at hcs hz
    have hlen : (zs.take len').length = len' := by rw [List.length_take]; omega
    have hbd : len' ≤ 17592186044416 := by
      have e8 : Try.prog.bytesOf 25 = 8 := by kernel_rfl
      have h1 := hw ((zs.take len').length * 8 + (zs.drop len').length * 8) (by
        rw [hx]
        simp only [DataW.weights, Try.underlying22, List.mem_cons]
        left
        simp only [lits, List.length_map, e8]
        omega)
      unfold reachBytes at h1
      rw [hlen] at h1
      omega
    refine ⟨some a, zs.take len', cap', by rw [hlen]; exact hcs, by omega, by omega, fun j x hj => ⟨a, rfl, ?_⟩, fun e => by simp at e⟩
    have hj1 : j < len' := by
      have := (List.getElem?_eq_some_iff.1 hj).1
      omega
    rw [List.getElem?_take, if_pos hj1] at hj
    have h2 := hc j (by omega)
    rw [List.getD_eq_getElem?_getD, hj] at h2
    exact h2
set_option maxRecDepth 100000 in
theorem open_lasso {H : Type} {enc : TypeId × Value → H} {W : World} {b0 : Nat} {v : Value} {d : DataW H} {p : List MemPlace} (hv : Value.okWide Try.prog W .any b0 24 v) (h : DataW.Trod enc Try.prog W 0 (fun _ => true) true 24 v d p) (hw : ∀ k, k ∈ d.weights Try.prog 24 → k ≤ reachBytes) :
    ∃ ap cp P al cl L, LasIn W v ap cp P al cl L := by
  unfold Value.okWide at hv
  rw [Try.underlying24] at hv
  obtain ⟨cs, rfl, hcs, _⟩ := hv
  obtain ⟨fuel, hf⟩ := h
  have hcs2 : cs.size = 2 := hcs.trans (by kernel_rfl)
  obtain ⟨c0, c1, rfl⟩ : ∃ c0 c1, cs = #[c0, c1] := by
    obtain ⟨l⟩ := cs
    match l, hcs2 with
    | [a, b], _ => exact ⟨a, b, rfl⟩
  obtain ⟨_, hfd⟩ := struct_fields Try.underlying24 (by kernel_rfl) (by kernel_rfl) hf hw
  obtain ⟨u0, y0, m0, e0, t0, w0⟩ := hfd 0 _ rfl
  obtain ⟨u1, y1, m1, e1, t1, w1⟩ := hfd 1 _ rfl
  obtain rfl : c0 = u0 := by simpa [Value.cells] using e0
  obtain rfl : c1 = u1 := by simpa [Value.cells] using e1
  obtain ⟨ap, P, cp, rfl, a1, a2, a3, a4⟩ := open_uints t0 w0
  obtain ⟨al, L, cl, rfl, b1, b2, b3, b4⟩ := open_uints t1 w1
  exact ⟨ap, cp, P, al, cl, L, rfl, a1, b1, a2, b2, a3, b3, a4, b4⟩
end Go.Proofs.Ytkgfdgfhpdhhaaa
