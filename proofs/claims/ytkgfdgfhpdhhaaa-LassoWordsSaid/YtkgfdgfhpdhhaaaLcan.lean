/- The shortest telling of a word, found by going back from the loop, plain. Conditions: none. -/
import Derived.Test.YtkgfdgfhpdhhaaaLplain
namespace Go.Proofs.Ytkgfdgfhpdhhaaa

section
variable {α : Type} {P L : List α} {n f k : Nat}
theorem perOk_le (h : perOk L n) (hL : L ≠ []) : n ≤ L.length := by
  rcases Nat.lt_or_ge L.length n with h1 | h1
  · have := h.1
    rw [Nat.mod_eq_of_lt h1] at this
    exact absurd (List.eq_nil_of_length_eq_zero this) hL
  · exact h1
theorem perOk_mod (h : perOk L n) (hn : 1 ≤ n) (hL : L ≠ []) (j : Nat) : L[j % L.length]? = L[j % n]? := by
  have hp : Per (wordO ([] : List α) L) n 0 := h.per
  have e := hp.at_mod (Nat.zero_le j)
  have h1 : j % n < n := Nat.mod_lt _ hn
  have h2 := perOk_le h hL
  simp only [wordO, List.length_nil, Nat.not_lt_zero, if_false, Nat.sub_zero, Nat.zero_add] at e
  rw [Nat.mod_eq_of_lt (show j % n < L.length by omega)] at e
  exact e.symm
/-- Behind f the word is the loop's first n letters, round and round, from k on. -/
structure GoBack (P L : List α) (n f k : Nat) : Prop where
  hk : k < n
  hf : f ≤ P.length
  hw : ∀ j, wordO P L (f + j) = L[(k + j) % n]?
theorem GoBack.start (h : perOk L n) (hn : 1 ≤ n) (hL : L ≠ []) : GoBack P L n P.length 0 := by
  refine ⟨hn, Nat.le_refl _, fun j => ?_⟩
  rw [Nat.zero_add, ← perOk_mod h hn hL]
  unfold wordO
  rw [if_neg (by omega), Nat.add_sub_cancel_left]
theorem GoBack.next (h : GoBack P L n (f + 1) k) (hx : P[f]? = L[(k + n - 1) % n]?) : GoBack P L n f ((k + n - 1) % n) := by
  have hk := h.hk
  have hf := h.hf
  refine ⟨Nat.mod_lt _ (by omega), by omega, fun j => ?_⟩
  cases j with
  | zero =>
    rw [Nat.add_zero, Nat.add_zero, Nat.mod_mod, ← hx]
    unfold wordO
    rw [if_pos (by omega)]
  | succ j =>
    have e := h.hw j
    rw [show f + (j + 1) = f + 1 + j by omega, e, Nat.mod_add_mod, show k + n - 1 + (j + 1) = k + j + n by omega, Nat.add_mod_right]
theorem GoBack.per (h : GoBack P L n f k) : Per (wordO P L) n f := by
  intro i hi
  have e1 := h.hw (i - f)
  have e2 := h.hw (i - f + n)
  rw [show f + (i - f) = i by omega] at e1
  rw [show f + (i - f + n) = i + n by omega, ← Nat.add_assoc, Nat.add_mod_right, ← e1] at e2
  exact e2
theorem GoBack.canon (h : GoBack P L n f k) (hL : L ≠ []) (hn : 1 ≤ n) (hnl : n ≤ L.length) (hl : ∀ m, 1 ≤ m → m < n → ¬ perOk L m) (hs : f = 0 ∨ P[f - 1]? ≠ L[(k + n - 1) % n]?) : IsCanon P L (P.take f) ((L.drop k).take (n - k) ++ L.take k) := by
  have hk := h.hk
  have hf := h.hf
  have hlen : ((L.drop k).take (n - k) ++ L.take k).length = n := by
    rw [List.length_append, List.length_take, List.length_take, List.length_drop]
    omega
  have hlf : (P.take f).length = f := by rw [List.length_take]; omega
  refine ⟨?_, fun i hi => ?_, fun i hi => ?_⟩
  · rw [hlen, hlf]
    refine Can.mk' hL hn hl h.per ?_
    rcases Nat.eq_zero_or_pos f with h0 | h0
    · exact .inl h0
    · refine .inr (fun e => ?_)
      rcases hs with hs | hs
      · omega
      · refine hs ?_
        have e1 := h.hw (n - 1)
        rw [show f + (n - 1) = f - 1 + n by omega, e, show k + (n - 1) = k + n - 1 by omega] at e1
        unfold wordO at e1
        rw [if_pos (by omega)] at e1
        exact e1
  · rw [hlf] at hi
    rw [List.getElem?_take_of_lt hi]
    unfold wordO
    rw [if_pos (by omega)]
  · rw [hlen] at hi
    rw [hlf, h.hw i]
    rcases Nat.lt_or_ge i (n - k) with h1 | h1
    · rw [List.getElem?_append_left (by rw [List.length_take, List.length_drop]; omega), List.getElem?_take_of_lt h1, List.getElem?_drop, Nat.mod_eq_of_lt (by omega)]
    · have hl1 : ((L.drop k).take (n - k)).length = n - k := by rw [List.length_take, List.length_drop]; omega
      rw [List.getElem?_append_right (by omega), hl1, List.getElem?_take_of_lt (by omega), Nat.mod_eq_sub_mod (by omega), Nat.mod_eq_of_lt (by omega)]
      congr 1
      omega
/-- The reference's: the letters of the word from 0 to p, from p on n more. -/
theorem canon_letters {p : Nat} {P' L' : List α} (hL : L ≠ []) (hn : 1 ≤ n) (hl : ∀ m, 1 ≤ m → m < n → ¬ perOk L m) (hper : Per (wordO P L) n p) (hf : p = 0 ∨ wordO P L (p - 1 + n) ≠ wordO P L (p - 1))
    (hP' : P'.length = p) (hPs : ∀ i, i < p → P'[i]? = wordO P L i) (hL' : L'.length = n) (hLs : ∀ i, i < n → L'[i]? = wordO P L (p + i)) : IsCanon P L P' L' := by
  subst hP' hL'
  exact ⟨Can.mk' hL hn hl hper hf, hPs, hLs⟩
theorem Per.back {W : Nat → Option α} {p : Nat} (h : Per W n (p + 1)) (he : W p = W (p + n)) : Per W n p := by
  intro i hi
  rcases Nat.eq_or_lt_of_le hi with e | e
  · rw [← e, he]
  · exact h i e
/-- The suffix's loop: the loop turned. -/
def turned (L : List α) (k : Nat) : List α := L.drop k ++ L.take k
theorem turned_length (L : List α) {k : Nat} (h : k ≤ L.length) : (turned L k).length = L.length := by
  unfold turned
  rw [List.length_append, List.length_drop, List.length_take]
  omega
theorem turned_at (L : List α) {k i : Nat} (hk : k < L.length) (hi : i < L.length) : (turned L k)[i]? = L[(k + i) % L.length]? := by
  unfold turned
  rcases Nat.lt_or_ge (k + i) L.length with h | h
  · rw [List.getElem?_append_left (by rw [List.length_drop]; omega), List.getElem?_drop, Nat.mod_eq_of_lt h]
  · rw [List.getElem?_append_right (by rw [List.length_drop]; omega), List.length_drop, List.getElem?_take_of_lt (by omega), Nat.mod_eq_sub_mod h, Nat.mod_eq_of_lt (by omega)]
    congr 1
    omega
end
end Go.Proofs.Ytkgfdgfhpdhhaaa
