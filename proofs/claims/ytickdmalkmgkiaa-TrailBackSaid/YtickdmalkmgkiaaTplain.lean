/- The bytes of trails, in plain Lean: a trail's bytes are the beginning of no other trail's. No condition. -/
import Derived.Test.YtickdmalkmgkiaaTwrite
import Derived.Test.YtickdmalkmgkiaaLawBack
namespace Go.Proofs.Ytickdmalkmgkiaa

theorem numb_cut {n m : Nat} {r s : List UInt8} (hn : n ≤ 18446744073709551615) (hm : m ≤ 18446744073709551615) (h : numb n ++ r = numb m ++ s) : n = m ∧ r = s := by
  have h1 := codecBack.rd_numb0 r hn
  have h2 := codecBack.rd_numb0 s hm
  rw [h, h2] at h1
  have e : m = n := congrArg Prod.fst h1
  subst e
  exact ⟨rfl, List.append_cancel_left h⟩

theorem stepb_cut {x y : Step} {r s : List UInt8} (hx : okStep x = true) (hy : okStep y = true) (h : stepb x ++ r = stepb y ++ s) : x = y ∧ r = s := by
  have ox := okStep_in hx
  have oy := okStep_in hy
  unfold stepb at h
  simp only [List.append_assoc] at h
  obtain ⟨e1, h⟩ := numb_cut (by omega) (by omega) h
  obtain ⟨e2, h⟩ := numb_cut (by omega) (by omega) h
  obtain ⟨e3, h⟩ := numb_cut (by omega) (by omega) h
  obtain ⟨e4, h4⟩ := numb_cut (by omega) (by omega) h
  clear h
  obtain ⟨xa, xb, xc, xd⟩ := x
  obtain ⟨ya, yb, yc, yd⟩ := y
  simp only at *
  exact ⟨by simp only [Prod.mk.injEq]; omega, h4⟩

theorem steps_cut : ∀ (L L' : List Step) {r s : List UInt8}, L.length = L'.length → L.all okStep = true → L'.all okStep = true → L.flatMap stepb ++ r = L'.flatMap stepb ++ s → L = L' ∧ r = s
  | [], [], r, s, _, _, _, h => ⟨rfl, by simpa using h⟩
  | [], _ :: _, _, _, hl, _, _, _ => by simp at hl
  | _ :: _, [], _, _, hl, _, _, _ => by simp at hl
  | x :: L, y :: L', r, s, hl, hx, hy, h => by
    simp only [List.all_cons, Bool.and_eq_true] at hx hy
    simp only [List.flatMap_cons, List.append_assoc] at h
    obtain ⟨rfl, h1⟩ := stepb_cut hx.1 hy.1 h
    obtain ⟨rfl, h2⟩ := steps_cut L L' (by simpa using hl) hx.2 hy.2 h1
    exact ⟨rfl, h2⟩

theorem may_all {c : Int} {L : List Step} (h : mayBe c L = true) : L.all okStep = true := by
  unfold mayBe at h
  rw [Bool.and_eq_true] at h
  exact h.2

theorem tl_cut {c c' : Int} {L L' : List Step} {r s : List UInt8} (h : mayBe c L = true) (h' : mayBe c' L' = true) (e : tl c L ++ r = tl c' L' ++ s) : c = c' ∧ L = L' ∧ r = s := by
  have h1 := may_head h
  have h2 := may_head h'
  unfold tl at e
  simp only [List.append_assoc] at e
  have e := List.append_cancel_left e
  obtain ⟨e1, e⟩ := numb_cut (by omega) (by omega) e
  obtain ⟨e2, e⟩ := numb_cut (by omega) (by omega) e
  obtain ⟨e3, e⟩ := steps_cut L L' e2 (may_all h) (may_all h') e
  exact ⟨by omega, e3, e⟩

theorem tl_same {c c' : Int} {L L' : List Step} (h : mayBe c L = true) (h' : mayBe c' L' = true) : (tl c L == tl c' L') = (decide (c = c') && decide (L = L')) := by
  by_cases e : tl c L = tl c' L'
  · obtain ⟨e1, e2, _⟩ := tl_cut (r := []) (s := []) h h' (by simp [e])
    simp [e1, e2]
  · rw [beq_eq_false_iff_ne.2 e]
    symm
    rw [Bool.and_eq_false_iff, decide_eq_false_iff_not, decide_eq_false_iff_not]
    by_cases e1 : c = c'
    · right; intro e2; exact e (by rw [e1, e2])
    · left; exact e1

theorem tl_front {c c' : Int} {L L' : List Step} (h : mayBe c L = true) (h' : mayBe c' L' = true) (e : tl c L = (tl c' L').take (tl c L).length) : c = c' ∧ L = L' := by
  obtain ⟨e1, e2, _⟩ := tl_cut (r := (tl c' L').drop (tl c L).length) (s := []) h h' (by
    rw [List.append_nil]
    conv => lhs; lhs; rw [e]
    exact List.take_append_drop _ _)
  exact ⟨e1, e2⟩

end Go.Proofs.Ytickdmalkmgkiaa
