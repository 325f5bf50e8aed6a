/- The lines of a text, in plain Lean. Conditions: as each theorem states. -/
import Derived.Test.YtickdmalkmgkiaaLine
namespace Go.Proofs.Ytickdmalkmgkiaa

/-- The lines of a text, part of the first one having come. -/
def linesL (cur : List UInt8) : List UInt8 → List (List UInt8)
  | [] => if cur = [] then [] else [cur]
  | x :: l => if x = 10 then cur :: linesL [] l else linesL (cur ++ [x]) l

theorem linesL_feed : ∀ (u cur v : List UInt8), ¬ (10 : UInt8) ∈ u → linesL cur (u ++ 10 :: v) = (cur ++ u) :: linesL [] v
  | [], cur, v, _ => by simp [linesL]
  | x :: u, cur, v, h => by
    simp only [List.mem_cons, not_or] at h
    rw [List.cons_append, linesL, if_neg (fun e => h.1 e.symm), linesL_feed u (cur ++ [x]) v h.2]
    simp
theorem linesL_last : ∀ (u cur : List UInt8), ¬ (10 : UInt8) ∈ u → cur ++ u ≠ [] → linesL cur u = [cur ++ u]
  | [], cur, _, h => by
    have hc : cur ≠ [] := by simpa using h
    simp [linesL, hc]
  | x :: u, cur, h, _ => by
    simp only [List.mem_cons, not_or] at h
    rw [linesL, if_neg (fun e => h.1 e.symm), linesL_last u (cur ++ [x]) h.2 (by simp)]
    simp
theorem linesL_nil : linesL [] [] = [] := by simp [linesL]
/-- No line holds a feed. -/
theorem linesL_clean : ∀ (l cur : List UInt8), ¬ (10 : UInt8) ∈ cur → ∀ x ∈ linesL cur l, ¬ (10 : UInt8) ∈ x
  | [], cur, h, x, hx => by
    rw [linesL] at hx
    split at hx
    · simp at hx
    · simp at hx; subst hx; exact h
  | y :: l, cur, h, x, hx => by
    rw [linesL] at hx
    split at hx
    · rcases List.mem_cons.1 hx with rfl | hx
      · exact h
      · exact linesL_clean l [] (by simp) x hx
    · rename_i hy
      exact linesL_clean l (cur ++ [y]) (by simp only [List.mem_append, List.mem_singleton, not_or]; exact ⟨h, fun e => hy e.symm⟩) x hx
/-- Each line ended. -/
def joined (L : List (List UInt8)) : List UInt8 := L.flatMap (· ++ [10])
theorem joined_snoc (L : List (List UInt8)) (x : List UInt8) : joined (L ++ [x]) = joined L ++ (x ++ [10]) := by simp [joined]
theorem joined_lines : ∀ (l cur : List UInt8), joined (linesL cur l) = if (cur ++ l = [] ∨ l.getLast? = some 10) then cur ++ l else cur ++ l ++ [10]
  | [], cur => by
    rw [linesL]
    by_cases h : cur = []
    · simp [h, joined]
    · simp [h, joined]
  | y :: l, cur => by
    rw [linesL]
    by_cases hy : y = 10
    · subst hy
      have ih := joined_lines l []
      rw [if_pos rfl]
      show joined (cur :: linesL [] l) = _
      have e : joined (cur :: linesL [] l) = cur ++ [10] ++ joined (linesL [] l) := by simp [joined]
      rw [e, ih]
      cases l with
      | nil => simp
      | cons z l =>
        have hg : (10 :: z :: l).getLast? = (z :: l).getLast? := by simp [List.getLast?_cons_cons]
        rw [hg]
        by_cases hz : (z :: l).getLast? = some 10
        · simp [hz]
        · simp [hz]
    · have ih := joined_lines l (cur ++ [y])
      rw [if_neg hy, ih]
      cases l with
      | nil => simp [hy]
      | cons z l =>
        have hg : (y :: z :: l).getLast? = (z :: l).getLast? := by simp [List.getLast?_cons_cons]
        rw [hg]
        by_cases hz : (z :: l).getLast? = some 10
        · simp [hz]
        · simp [hz]
theorem joined_len : ∀ (l cur : List UInt8), (joined (linesL cur l)).length ≤ cur.length + l.length + 1 := by
  intro l cur
  rw [joined_lines]
  split <;> simp <;> omega
theorem joined_prefix {L M : List (List UInt8)} (h : L <+: M) : (joined L).length ≤ (joined M).length := by
  obtain ⟨r, rfl⟩ := h
  unfold joined
  rw [List.flatMap_append, List.length_append]
  omega
theorem idx_split : ∀ l : List UInt8, (Lib.indexByte l 10 = -1 ∧ ¬ (10 : UInt8) ∈ l) ∨ ∃ n : Nat, Lib.indexByte l 10 = n ∧ n < l.length ∧ ¬ (10 : UInt8) ∈ l.take n ∧ l = l.take n ++ 10 :: l.drop (n + 1)
  | [] => .inl ⟨rfl, by simp⟩
  | y :: l => by
    rw [Lib.indexByte]
    by_cases hy : y = 10
    · subst hy
      exact .inr ⟨0, by simp, by simp, by simp, by simp⟩
    · have hyb : (y == (10 : UInt8)) = false := by rw [beq_eq_false_iff_ne]; exact hy
      rw [hyb]
      rcases idx_split l with ⟨h1, h2⟩ | ⟨n, h1, h2, h3, h4⟩
      · rw [h1]
        exact .inl ⟨by simp, by simp only [List.mem_cons, not_or]; exact ⟨fun e => hy e.symm, h2⟩⟩
      · have hne : (Lib.indexByte l 10 == -1) = false := by rw [beq_eq_false_iff_ne, h1]; omega
        rw [hne, h1]
        refine .inr ⟨n + 1, by simp, by simp; omega, ?_, ?_⟩
        · rw [List.take_succ_cons]
          simp only [List.mem_cons, not_or]
          exact ⟨fun e => hy e.symm, h3⟩
        · rw [List.take_succ_cons, List.drop_succ_cons, List.cons_append, ← h4]
end Go.Proofs.Ytickdmalkmgkiaa
