/- When bytes are a trail, in plain Lean. Conditions: as each theorem states. -/
import Derived.Test.YtickdmalkmgkiaaTplain
import Derived.Test.YtickdmalkmgkiaaPget
namespace Go.Proofs.Ytickdmalkmgkiaa

def NoTrail (l : List UInt8) : Prop := ∀ c L, mayBe c L = true → l ≠ tl c L
def inStep (x : Step) : Bool := inR x.1 && inR x.2.1 && inR x.2.2.1 && inR x.2.2.2
theorem inStep_in {x : Step} (h : inStep x = true) : (-1 ≤ x.1 ∧ x.1 ≤ 4000) ∧ (-1 ≤ x.2.1 ∧ x.2.1 ≤ 4000) ∧ (-1 ≤ x.2.2.1 ∧ x.2.2.1 ≤ 4000) ∧ (-1 ≤ x.2.2.2 ∧ x.2.2.2 ≤ 4000) := by
  simp only [inStep, Bool.and_eq_true] at h
  exact ⟨inR_iff h.1.1.1, inR_iff h.1.1.2, inR_iff h.1.2, inR_iff h.2⟩
theorem inR_of {n : Int} (h0 : -1 ≤ n) (h1 : n ≤ 4000) : inR n = true := by
  unfold inR
  rw [decide_eq_false (by omega : ¬ n < -1), decide_eq_false (by omega : ¬ 4000 < n)]
  rfl
theorem inStep_of_ok {x : Step} (h : okStep x = true) : inStep x = true := by
  have := okStep_in h
  simp only [inStep, Bool.and_eq_true]
  exact ⟨⟨⟨inR_of this.1.1 this.1.2, inR_of this.2.1.1 this.2.1.2⟩, inR_of this.2.2.1.1 this.2.2.1.2⟩, inR_of this.2.2.2.1 this.2.2.2.2⟩

theorem stepb_in {x y : Step} {r s : List UInt8} (hx : inStep x = true) (hy : inStep y = true) (h : stepb x ++ r = stepb y ++ s) : x = y ∧ r = s := by
  have ox := inStep_in hx
  have oy := inStep_in hy
  unfold stepb at h
  simp only [List.append_assoc] at h
  obtain ⟨e1, h⟩ := numb_cut (by omega) (by omega) h
  obtain ⟨e2, h⟩ := numb_cut (by omega) (by omega) h
  obtain ⟨e3, h⟩ := numb_cut (by omega) (by omega) h
  obtain ⟨e4, h4⟩ := numb_cut (by omega) (by omega) h
  clear h
  obtain ⟨xa, xb, xc, xd⟩ := x
  obtain ⟨ya, yb, yc, yd⟩ := y
  simp only at *
  exact ⟨by simp only [Prod.mk.injEq]; omega, h4⟩

theorem steps_pre : ∀ (M L : List Step) {r : List UInt8}, M.length ≤ L.length → M.all inStep = true → L.all inStep = true → M.flatMap stepb ++ r = L.flatMap stepb → ∃ L2, L = M ++ L2 ∧ r = L2.flatMap stepb
  | [], L, r, _, _, _, h => ⟨L, rfl, by simpa using h⟩
  | _ :: _, [], _, hl, _, _, _ => by simp at hl
  | x :: M, y :: L, r, hl, hx, hy, h => by
    simp only [List.all_cons, Bool.and_eq_true] at hx hy
    simp only [List.flatMap_cons, List.append_assoc] at h
    obtain ⟨rfl, h1⟩ := stepb_in hx.1 hy.1 h
    obtain ⟨L2, rfl, h2⟩ := steps_pre M L (by simpa using hl) hx.2 hy.2 h1
    exact ⟨L2, rfl, h2⟩

theorem may_c {c : Int} {L : List Step} (h : mayBe c L = true) : L.length ≤ 100000 ∧ -1 ≤ c ∧ c + 1 ≤ 100000 := by
  have h1 := may_head h
  unfold mayBe headOk at h
  simp only [Bool.and_eq_true, Bool.not_eq_true', Bool.or_eq_false_iff, Bool.and_eq_false_iff, decide_eq_false_iff_not] at h
  omega
theorem may_in {c : Int} {L : List Step} (h : mayBe c L = true) : L.all inStep = true := by
  rw [List.all_eq_true]
  intro x hx
  exact inStep_of_ok (List.all_eq_true.1 (may_all h) x hx)

/-- So much has been read: the head, some steps; the rest. -/
def tlx (a n : Nat) (M : List Step) (r : List UInt8) : List UInt8 := magic ++ (numb a ++ (numb n ++ (M.flatMap stepb ++ r)))
theorem tl_tlx (c : Int) (L : List Step) : tl c L = tlx (c + 1).toNat L.length L [] := by
  unfold tl tlx
  simp only [List.append_assoc, List.append_nil]

theorem not_magic {l : List UInt8} (h : l.take 4 ≠ magic) : NoTrail l := by
  intro c L _ e
  apply h
  rw [e, tl_tlx]
  unfold tlx
  exact List.take_left' rfl
theorem fail_c {l r : List UInt8} (hl : l = magic ++ r) (h : NoStart 100000 r) : NoTrail l := by
  intro c L hm e
  rw [hl, tl_tlx] at e
  unfold tlx at e
  have e1 := List.append_cancel_left e
  have := may_c hm
  exact h _ _ (by omega) e1
theorem fail_n {l r : List UInt8} {a : Nat} (hl : l = magic ++ (numb a ++ r)) (ha : a ≤ 100000) (h : NoStart 100000 r) : NoTrail l := by
  intro c L hm e
  rw [hl, tl_tlx] at e
  unfold tlx at e
  have e1 := List.append_cancel_left e
  have := may_c hm
  obtain ⟨_, e2⟩ := numb_cut (by omega) (by omega) e1
  exact h _ _ (by omega) e2
theorem read_so {l r : List UInt8} {a n : Nat} {M L : List Step} {c : Int} (hl : l = tlx a n M r) (ha : a ≤ 100000) (hn : n ≤ 100000) (hM : M.all inStep = true) (hk : M.length ≤ n) (hm : mayBe c L = true) (e : l = tl c L) :
    a = (c + 1).toNat ∧ n = L.length ∧ ∃ L2, L = M ++ L2 ∧ r = L2.flatMap stepb := by
  rw [hl, tl_tlx] at e
  unfold tlx at e
  have e1 := List.append_cancel_left e
  have := may_c hm
  obtain ⟨h1, e2⟩ := numb_cut (by omega) (by omega) e1
  obtain ⟨h2, e3⟩ := numb_cut (by omega) (by omega) e2
  rw [List.append_nil] at e3
  exact ⟨h1, h2, steps_pre M L (by omega) hM (may_in hm) e3⟩
theorem fail_step {l r rest : List UInt8} {a n : Nat} {M : List Step} (ys : List Nat) (hl : l = tlx a n M r) (ha : a ≤ 100000) (hn : n ≤ 100000) (hM : M.all inStep = true) (hk : M.length < n)
    (hr : r = ys.flatMap numb ++ rest) (hy : ys.length < 4) (hys : ∀ y ∈ ys, y ≤ 4001) (h : NoStart 4001 rest) : NoTrail l := by
  intro c L hm e
  obtain ⟨_, h2, L2, h3, h4⟩ := read_so hl ha hn hM (by omega) hm e
  have hL := may_in hm
  rw [h3, List.length_append] at h2
  match L2, h2, h3, h4 with
  | [], h2, _, _ => simp at h2; omega
  | x :: L3, _, h3, h4 =>
    have hx := inStep_in (List.all_eq_true.1 hL x (by rw [h3]; simp))
    rw [hr, List.flatMap_cons] at h4
    unfold stepb at h4
    simp only [List.append_assoc] at h4
    match ys, hy, hys, h4 with
    | [], _, _, h4 => exact h _ _ (by omega) h4
    | [a], _, hys, h4 =>
      have := hys a (by simp)
      simp only [List.flatMap_cons, List.flatMap_nil, List.append_nil] at h4
      obtain ⟨_, h5⟩ := numb_cut (by omega) (by omega) h4
      exact h _ _ (by omega) h5
    | [a, b], _, hys, h4 =>
      have := hys a (by simp)
      have := hys b (by simp)
      simp only [List.flatMap_cons, List.flatMap_nil, List.append_nil, List.append_assoc] at h4
      obtain ⟨_, h5⟩ := numb_cut (by omega) (by omega) h4
      obtain ⟨_, h6⟩ := numb_cut (by omega) (by omega) h5
      exact h _ _ (by omega) h6
    | [a, b, d], _, hys, h4 =>
      have := hys a (by simp)
      have := hys b (by simp)
      have := hys d (by simp)
      simp only [List.flatMap_cons, List.flatMap_nil, List.append_nil, List.append_assoc] at h4
      obtain ⟨_, h5⟩ := numb_cut (by omega) (by omega) h4
      obtain ⟨_, h6⟩ := numb_cut (by omega) (by omega) h5
      obtain ⟨_, h7⟩ := numb_cut (by omega) (by omega) h6
      exact h _ _ (by omega) h7
theorem fail_end {l r : List UInt8} {a n : Nat} {M : List Step} (hl : l = tlx a n M r) (ha : a ≤ 100000) (hn : n ≤ 100000) (hM : M.all inStep = true) (hk : M.length = n)
    (h : r ≠ [] ∨ mayBe ((a : Int) - 1) M = false) : NoTrail l := by
  intro c L hm e
  obtain ⟨h1, h2, L2, h3, h4⟩ := read_so hl ha hn hM (by omega) hm e
  rw [h3, List.length_append] at h2
  have : L2 = [] := List.eq_nil_of_length_eq_zero (by omega)
  subst this
  rw [List.append_nil] at h3
  subst h3
  have := may_c hm
  have hc : (a : Int) - 1 = c := by omega
  rcases h with h | h
  · exact h (by simpa using h4)
  · rw [hc, hm] at h; cases h
theorem good_end {l : List UInt8} {a n : Nat} {M : List Step} (hl : l = tlx a n M []) (hk : M.length = n) : l = tl ((a : Int) - 1) M := by
  rw [tl_tlx, hl, hk]
  congr 1
  omega

theorem tlx_next {l r r' : List UInt8} {a n : Nat} {M : List Step} {x : Step} (hl : l = tlx a n M r) (hr : r = stepb x ++ r') : l = tlx a n (M ++ [x]) r' := by
  rw [hl, hr]
  unfold tlx
  simp
end Go.Proofs.Ytickdmalkmgkiaa
