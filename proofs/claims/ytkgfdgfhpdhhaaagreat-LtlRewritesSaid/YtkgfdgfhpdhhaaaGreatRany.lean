/- A region that draws its order: what every order keeps. Conditions: as each theorem states. -/
import Derived.Test.YtkgfdgfhpdhhaaaGreatFree
import Derived.Test.YtkgfdgfhpdhhaaaGreatLev
namespace Go.Proofs.YtkgfdgfhpdhhaaaGreat
open Go.ChangeShapes Go.WideShapes Go.RowKit

def box37 : Obj := .cells #[.int .i64 0, .string ⟨#[]⟩, .slice none 0 0] 24
theorem leafF (R : Nat → Prop) (W : World) (k : Int) (nm : List UInt8) : Fresh R W (.node k nm []) (.agg #[.int .i64 k, .string ⟨nm.toArray⟩, .slice none 0 0]) := by
  rw [Fresh]
  exact .inl ⟨rfl, rfl⟩
theorem rowLast {w : World} (o : Obj) (a b c : Value) : ((w.alloc o).alloc (.cells #[a, b, c] 24)).heap[w.heap.size + 1]? = some (.cells #[a, b, c] 24 (0, 0)) := by
  have := heap_alloc_new (w.alloc o) (.cells #[a, b, c] 24)
  rwa [World.size_alloc] at this
theorem countP_less {p p' : Nat → Bool} {i : Nat} (hp : ∀ j, p' j = (p j && (j != i))) (hi : p i = true) : ∀ l : List Nat, i ∈ l → l.countP p' < l.countP p
  | [], h => by cases h
  | x :: l, h => by
    have hle : l.countP p' ≤ l.countP p := List.countP_mono_left (fun j _ hj => by rw [hp, Bool.and_eq_true] at hj; exact hj.1)
    rw [List.countP_cons, List.countP_cons]
    by_cases hx : x = i
    · subst hx
      have e : p' x = false := by rw [hp]; simp
      rw [e, hi]
      simp
      omega
    · have hl : i ∈ l := by
        rcases List.mem_cons.1 h with e | e
        · exact absurd e.symm hx
        · exact e
      have ih := countP_less hp hi l hl
      have e : p' x = p x := by rw [hp]; simp [hx]
      rw [e]
      omega
section
variable {P : Program} {ops : Array Oper} {Q : Exit → Act → World → Prop} {md : Region.Mode}
def unlisted (ops : Array Oper) (listed : Array Bool) : Nat := (List.range ops.size).countP (fun j => !listed.getD j true)
/-- What each operation keeps, every order keeps. -/
theorem wpAny_inv (Inv : Array Bool → Act → World → Prop) (hback : ∀ i o, ops[i]? = some o → ∀ e ∈ o.after, Region.binds md e = true → e.on < i)
    (hstep : ∀ listed a w i o, ops[i]? = some o → (∀ e ∈ o.after, Region.binds md e = true → listed.getD e.on false = true) → Inv listed a w → wpOp P ops Q i (Inv (listed.setIfInBounds i true)) a w)
    (hdone : ∀ listed a w, (∀ i, i < ops.size → listed.getD i false = true) → Inv listed a w → Q .normal a w) :
    ∀ fuel listed a w, listed.size = ops.size → unlisted ops listed ≤ fuel → Inv listed a w → wpAny P md ops Q fuel listed a w := by
  have hall : ∀ listed : Array Bool, listed.size = ops.size → Region.ready md ops listed = [] → ∀ i, i < ops.size → listed.getD i false = true := by
    intro listed hs hr i
    induction i using Nat.strongRecOn with
    | _ i ih =>
      intro hi
      cases h : listed.getD i false with
      | true => rfl
      | false =>
        have h2 : listed.getD i true = false := by
          rw [Array.getD_eq_getD_getElem?] at h ⊢
          rw [Array.getElem?_eq_getElem (by omega)] at h ⊢
          exact h
        have ho := Array.getElem?_eq_getElem hi
        have : i ∈ Region.ready md ops listed := mem_ready.2 ⟨h2, _, ho, fun e he hb => ih e.on (hback i _ ho e he hb) (by have := hback i _ ho e he hb; omega)⟩
        rw [hr] at this
        cases this
  intro fuel
  induction fuel with
  | zero =>
    intro listed a w hs hf hI
    have hr : Region.ready md ops listed = [] := by
      cases hr : Region.ready md ops listed with
      | nil => rfl
      | cons i l =>
        have hi : i ∈ Region.ready md ops listed := by rw [hr]; exact List.mem_cons_self
        obtain ⟨h0, o, ho, _⟩ := mem_ready.1 hi
        have : 0 < unlisted ops listed := List.countP_pos_iff.2 ⟨i, List.mem_range.2 (Array.getElem?_eq_some_iff.1 ho).1, by rw [h0]; rfl⟩
        omega
    exact ⟨hr, hdone _ _ _ (hall _ hs hr) hI⟩
  | succ fuel ih =>
    intro listed a w hs hf hI
    refine ⟨fun hr => hdone _ _ _ (hall _ hs hr) hI, fun i hi => ?_⟩
    obtain ⟨h0, o, ho, hdep⟩ := mem_ready.1 hi
    have hio := (Array.getElem?_eq_some_iff.1 ho).1
    refine wpOp_mono (fun a' w' h => ih _ a' w' (by rw [Array.size_setIfInBounds]; exact hs) ?_ h) (hstep listed a w i o ho hdep hI)
    have hless : unlisted ops (listed.setIfInBounds i true) < unlisted ops listed := by
      refine countP_less (i := i) (fun j => ?_) (by rw [h0]; rfl) _ (List.mem_range.2 hio)
      by_cases hj : j = i
      · subst hj
        rw [Array.getD_eq_getD_getElem?, Array.getElem?_setIfInBounds_self_of_lt (by omega)]
        simp
      · rw [getD_set_ne true (Ne.symm hj)]
        simp [hj]
    omega
theorem unlisted_all : unlisted ops (Array.replicate ops.size false) ≤ ops.size := by
  have := List.countP_le_length (p := fun j => !(Array.replicate ops.size false).getD j true) (l := List.range ops.size)
  rwa [List.length_range] at this
end
end Go.Proofs.YtkgfdgfhpdhhaaaGreat
