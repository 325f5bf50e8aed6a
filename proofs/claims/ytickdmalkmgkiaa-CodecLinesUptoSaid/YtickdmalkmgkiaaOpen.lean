/- Slices of structs that came in, read as lists: general lemmas. Conditions: as each theorem states. -/
import Derived.Test.YtickdmalkmgkiaaBase
import Derived.ProofKit
import Derived.OpenShut
import Derived.Deep.Slices
import Derived.Deep.Fields
import Derived.ChangeSame
import Derived.SizedLaws
namespace Go.Proofs.Ytickdmalkmgkiaa
open Go.RowKit Go.ChangeShapes Go.WideShapes

theorem list_of {α : Type} {P : Nat → α → Prop} : ∀ n, (∀ i, i < n → ∃ x, P i x) → ∃ L : List α, L.length = n ∧ ∀ i x, L[i]? = some x → P i x
  | 0, _ => ⟨[], rfl, fun i x h => by simp at h⟩
  | n + 1, h => by
    obtain ⟨L, hl, hp⟩ := list_of n (fun i hi => h i (by omega))
    obtain ⟨x, hx⟩ := h n (by omega)
    refine ⟨L ++ [x], by simp [hl], fun i y hy => ?_⟩
    by_cases hi : i < n
    · rw [List.getElem?_append_left (by omega)] at hy; exact hp i y hy
    · have hi2 : i = n := by
        have := (List.getElem?_eq_some_iff.1 hy).1; simp [hl] at this; omega
      subst hi2
      rw [List.getElem?_append_right (by omega), hl] at hy
      simp at hy; subst hy; exact hx

section
variable {H : Type} {enc : TypeId × Value → H} {P : Program} {w : World} {base : Nat} {spare : Nat → Bool} {held : Bool}

/-- The cells of a struct's fields, each of one cell. -/
theorem struct_cells {e : TypeId} {fs : Array Field} {n : Nat} {cs : List Value} {x : DataW H × List MemPlace} (he : P.underlying e = some (.struct fs)) (hone : Go.Deep.oneCellFields P fs = true) (hC : P.cellsOf e = fs.size)
    (h : DataW.trod enc P w base spare held n e cs = some x) :
    cs.length = fs.size ∧ ∀ (j : Nat) (f : Field), fs[j]? = some f → ∃ (v : Value) (y : DataW H × List MemPlace) (m : Nat), cs[j]? = some v ∧ DataW.trod enc P w base spare held m f.type [v] = some y := by
  obtain ⟨xs, m, _, _, hcl, hxl, hf⟩ := DataW.trod_struct he h
  rw [hC] at hcl
  refine ⟨hcl, fun j f hj => ?_⟩
  obtain ⟨ho, hk⟩ := Go.Deep.hone_of hone j f hj
  have hlt : j < fs.size := (Array.getElem?_eq_some_iff.1 hj).1
  have h1 := hf j f hj
  rw [ho, hk, List.drop_eq_getElem_cons (by omega), List.take_succ_cons, List.take_zero] at h1
  exact ⟨cs[j], xs[j], m, List.getElem?_eq_getElem (by omega), h1.trans (List.getElem?_eq_getElem (by omega))⟩

/-- A slice of structs: what each element's cells are. -/
theorem slice_structs {t e : TypeId} {fs : Array Field} {v : Value} {d : DataW H} {p : List MemPlace} (ht : P.underlying t = some (.slice e)) (he : P.underlying e = some (.struct fs)) (hone : Go.Deep.oneCellFields P fs = true) (hC : P.cellsOf e = fs.size)
    {r : Reach} {b0 : Nat} (hv : Value.okWide P w r b0 t v) (h : DataW.Trod enc P w base (fun _ => true) held t v d p) (hpos : 0 < fs.size) :
    ∃ ao len cap, v = .slice ao len cap ∧ len ≤ cap ∧ cap ≤ maxLen ∧ (ao = none → len = 0) ∧
      ∀ i, i < len → ∃ b o, ao = some ⟨b, o, none⟩ ∧ ∀ (j : Nat) (f : Field), fs[j]? = some f → ∃ (u : Value) (y : DataW H × List MemPlace) (m : Nat), w.cell? ⟨b, o + (i * fs.size + j), none⟩ = some u ∧ DataW.trod enc P w base (fun _ => true) held m f.type [u] = some y := by
  obtain ⟨ao, len, cap, rfl⟩ := okWide_slice ht hv
  obtain ⟨fuel, hf⟩ := h
  rcases Go.Deep.open_slice ht hf with ⟨hcs, _⟩ | ⟨a, len', cap', m, n, D, Pl, hcs, _, hl, hm, hmm, _, hi⟩
  · simp [Value.cells] at hcs
    obtain ⟨rfl, rfl, rfl⟩ := hcs
    exact ⟨none, 0, 0, rfl, Nat.le_refl _, Nat.zero_le _, fun _ => rfl, fun i hi => absurd hi (by omega)⟩
  · simp [Value.cells] at hcs
    obtain ⟨rfl, rfl, rfl⟩ := hcs
    simp at hmm
    subst hmm
    refine ⟨some a, len, m, rfl, hl, hm, fun e => by simp at e, fun i hil => ?_⟩
    obtain ⟨cs', hc, ht'⟩ := hi i (by omega)
    rw [hC] at hc
    obtain ⟨_, hcl, hat⟩ := World.cells?_some hc
    obtain ⟨hlen, hfd⟩ := struct_cells he hone hC ht'
    obtain ⟨b, o, spot⟩ := a
    have hspot : spot = none := by
      obtain ⟨cs0, hc0, ht0⟩ := hi 0 (by omega)
      rw [hC] at hc0
      obtain ⟨_, hcl0, hat0⟩ := World.cells?_some hc0
      have h0 := hat0 0 hpos
      rw [List.getElem?_eq_getElem (by omega)] at h0
      simpa [Addr.add] using World.cell?_spot h0
    subst hspot
    refine ⟨b, o, rfl, fun j f hj => ?_⟩
    obtain ⟨u, y, k, hu, hy⟩ := hfd j f hj
    refine ⟨u, y, k, ?_, hy⟩
    have hlt : j < fs.size := (Array.getElem?_eq_some_iff.1 hj).1
    have h1 := hat j hlt
    rw [Go.WideShapes.add_plain, Go.WideShapes.add_plain] at h1
    rw [← Nat.add_assoc, h1, hu]

/-! ### the same, with what the form's own reach says of sizes -/
theorem mem_weightsAll {e : TypeId} {n : Nat} {d : DataW H} : ∀ {l : List (DataW H)}, d ∈ l → n ∈ d.weights P e → n ∈ DataW.weightsAll P e l
  | [], h, _ => by simp at h
  | a :: r, h, hn => by
    rw [DataW.weightsAll, List.mem_append]
    rcases List.mem_cons.1 h with rfl | h
    · exact .inl hn
    · exact .inr (mem_weightsAll h hn)
theorem struct_fields {e : TypeId} {fs : Array Field} {n : Nat} {cs : List Value} {x : DataW H × List MemPlace} (he : P.underlying e = some (.struct fs)) (hone : Go.Deep.oneCellFields P fs = true) (hC : P.cellsOf e = fs.size)
    (h : DataW.trod enc P w base spare held n e cs = some x) (hw : ∀ k, k ∈ x.1.weights P e → k ≤ reachBytes) :
    cs.length = fs.size ∧ ∀ (j : Nat) (f : Field), fs[j]? = some f → ∃ (v : Value) (y : DataW H × List MemPlace) (m : Nat), cs[j]? = some v ∧ DataW.trod enc P w base spare held m f.type [v] = some y ∧ ∀ k, k ∈ y.1.weights P f.type → k ≤ reachBytes := by
  obtain ⟨xs, m, _, hx, hcl, hxl, hf⟩ := DataW.trod_struct he h
  rw [hC] at hcl
  refine ⟨hcl, fun j f hj => ?_⟩
  obtain ⟨ho, hk⟩ := Go.Deep.hone_of hone j f hj
  have hlt : j < fs.size := (Array.getElem?_eq_some_iff.1 hj).1
  have h1 := hf j f hj
  rw [ho, hk, List.drop_eq_getElem_cons (by omega), List.take_succ_cons, List.take_zero] at h1
  refine ⟨cs[j], xs[j], m, List.getElem?_eq_getElem (by omega), h1.trans (List.getElem?_eq_getElem (by omega)), fun k hkk => hw k ?_⟩
  rw [hx]
  simp only [DataW.weights, he]
  refine DataW.weights_mem_each (j := j) (t := f.type) (d := xs[j].1) ?_ ?_ k hkk
  · rw [List.getElem?_map]
    have : fs.toList[j]? = some f := by simpa using hj
    rw [this]; rfl
  · rw [List.getElem?_map, List.getElem?_eq_getElem (by omega)]; rfl
theorem slice_structs_sized {t e : TypeId} {fs : Array Field} {v : Value} {d : DataW H} {p : List MemPlace} (ht : P.underlying t = some (.slice e)) (he : P.underlying e = some (.struct fs)) (hone : Go.Deep.oneCellFields P fs = true) (hC : P.cellsOf e = fs.size)
    {r : Reach} {b0 : Nat} (hv : Value.okWide P w r b0 t v) (h : DataW.Trod enc P w base (fun _ => true) held t v d p) (hpos : 0 < fs.size) (hw : ∀ k, k ∈ d.weights P t → k ≤ reachBytes) :
    ∃ ao len cap, v = .slice ao len cap ∧ len ≤ cap ∧ cap ≤ maxLen ∧ cap * P.bytesOf e ≤ reachBytes ∧ (ao = none → len = 0) ∧
      ∀ i, i < len → ∃ b o, ao = some ⟨b, o, none⟩ ∧ ∀ (j : Nat) (f : Field), fs[j]? = some f → ∃ (u : Value) (y : DataW H × List MemPlace) (m : Nat), w.cell? ⟨b, o + (i * fs.size + j), none⟩ = some u ∧ DataW.trod enc P w base (fun _ => true) held m f.type [u] = some y ∧ ∀ k, k ∈ y.1.weights P f.type → k ≤ reachBytes := by
  obtain ⟨ao, len, cap, rfl⟩ := okWide_slice ht hv
  obtain ⟨fuel, hf⟩ := h
  rcases Go.Deep.open_slice ht hf with ⟨hcs, _⟩ | ⟨a, len', cap', m, n, D, Pl, hcs, _, hl, hm, hmm, hx, hi⟩
  · simp [Value.cells] at hcs
    obtain ⟨rfl, rfl, rfl⟩ := hcs
    exact ⟨none, 0, 0, rfl, Nat.le_refl _, Nat.zero_le _, by simp, fun _ => rfl, fun i hi => absurd hi (by omega)⟩
  · simp [Value.cells] at hcs
    obtain ⟨rfl, rfl, rfl⟩ := hcs
    simp at hmm
    subst hmm
    have hd := congrArg Prod.fst hx
    simp only at hd
    rw [hd] at hw
    simp only [DataW.weights, ht, List.mem_cons, List.mem_append] at hw
    refine ⟨some a, len, m, rfl, hl, hm, ?_, fun e => by simp at e, fun i hil => ?_⟩
    · have h1 := hw _ (.inl rfl)
      simp only [List.length_map, List.length_range] at h1
      rwa [show len + (m - len) = m by omega] at h1
    obtain ⟨cs', hc, ht'⟩ := hi i (by omega)
    rw [hC] at hc
    obtain ⟨_, hcl, hat⟩ := World.cells?_some hc
    obtain ⟨hlen, hfd⟩ := struct_fields he hone hC ht' (fun k hk => hw k (.inr (.inl (mem_weightsAll (List.mem_map.2 ⟨i, List.mem_range.2 hil, rfl⟩) hk))))
    obtain ⟨b, o, spot⟩ := a
    have hspot : spot = none := by
      obtain ⟨cs0, hc0, ht0⟩ := hi 0 (by omega)
      rw [hC] at hc0
      obtain ⟨_, hcl0, hat0⟩ := World.cells?_some hc0
      have h0 := hat0 0 hpos
      rw [List.getElem?_eq_getElem (by omega)] at h0
      simpa [Addr.add] using World.cell?_spot h0
    subst hspot
    refine ⟨b, o, rfl, fun j f hj => ?_⟩
    obtain ⟨u, y, k, hu, hy, hk⟩ := hfd j f hj
    refine ⟨u, y, k, ?_, hy, hk⟩
    have hlt : j < fs.size := (Array.getElem?_eq_some_iff.1 hj).1
    have h1 := hat j hlt
    rw [Go.WideShapes.add_plain, Go.WideShapes.add_plain] at h1
    rw [← Nat.add_assoc, h1, hu]
/-- What the reach says of one argument. -/
theorem sized_at {ts : List TypeId} {ds : List (DataW H)} (h : (DataW.weightsEach P ts ds).all (· ≤ reachBytes) = true) {j : Nat} {t : TypeId} {d : DataW H} (ht : ts[j]? = some t) (hd : ds[j]? = some d) : ∀ k, k ∈ d.weights P t → k ≤ reachBytes := fun k hk => by
  have := List.all_eq_true.1 h _ (DataW.weights_mem_each ht hd k hk)
  simpa using this
end
end Go.Proofs.Ytickdmalkmgkiaa
