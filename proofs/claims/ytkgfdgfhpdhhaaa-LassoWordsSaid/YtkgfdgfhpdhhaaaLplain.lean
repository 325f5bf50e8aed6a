/- Words that go round: what their shortest telling is, plain. Conditions: none. -/
import Derived.Test.YtkgfdgfhpdhhaaaBase
namespace Go.Proofs.Ytkgfdgfhpdhhaaa

section
variable {α : Type}
/-- The letter at a place of a lasso's word. -/
def wordO (P L : List α) (i : Nat) : Option α := if i < P.length then P[i]? else L[(i - P.length) % L.length]?
/-- From p on the word goes round in n letters. -/
def Per (W : Nat → Option α) (n p : Nat) : Prop := ∀ i, p ≤ i → W (i + n) = W i
variable {W : Nat → Option α} {n m p q : Nat}
theorem Per.mul (h : Per W n p) (c : Nat) : ∀ i, p ≤ i → W (i + c * n) = W i := by
  induction c with
  | zero => intro i _; simp
  | succ c ih => intro i hi; rw [Nat.succ_mul, ← Nat.add_assoc, h _ (by omega), ih i hi]
theorem Per.mono (h : Per W n p) (hp : p ≤ q) : Per W n q := fun i hi => h i (by omega)
theorem Per.rest (h : Per W m p) (h2 : Per W n p) : Per W (m % n) p := by
  intro i hi
  have e := h2.mul (m / n) (i + m % n) (by omega)
  rw [← e, Nat.add_assoc, Nat.mul_comm (m / n) n, Nat.mod_add_div, h i hi]
theorem Per.gcd : ∀ m n : Nat, Per W m p → Per W n p → Per W (Nat.gcd m n) p := by
  intro m n
  refine Nat.gcd.induction (P := fun m n => Per W m p → Per W n p → Per W (Nat.gcd m n) p) m n ?_ ?_
  · intro n _ h; rw [Nat.gcd_zero_left]; exact h
  · intro m n _ ih h1 h2
    rw [Nat.gcd_rec]
    exact ih (h2.rest h1) h1
/-- What goes round early goes round as its later part does. -/
theorem Per.early (h : Per W n q) (hm : 0 < m) (h2 : Per W m p) : Per W n p := by
  intro i hi
  have e1 := h2.mul q i hi
  have e2 := h2.mul q (i + n) (by omega)
  have hq : q ≤ q * m := Nat.le_mul_of_pos_right q hm
  have e3 := h (i + q * m) (by omega)
  rw [← e2, ← e1, ← e3]
  congr 1
  omega
theorem Per.at_mod (h : Per W n p) {i : Nat} (hi : p ≤ i) : W (p + (i - p) % n) = W i := by
  have e := h.mul ((i - p) / n) (p + (i - p) % n) (by omega)
  rw [← e, Nat.mul_comm, Nat.add_assoc, Nat.mod_add_div]
  congr 1
  omega
theorem per_word (P L : List α) : Per (wordO P L) L.length P.length := by
  intro i hi
  unfold wordO
  rw [if_neg (by omega), if_neg (by omega), show i + L.length - P.length = i - P.length + L.length by omega, Nat.add_mod_right]
/-- Two words that go round and are the same for as many letters as both rounds have are the same. -/
theorem words_all {V : Nat → Option α} {N a b : Nat} (ha : Per W a N) (hb : Per V b N) (ha0 : 0 < a) (hb0 : 0 < b) (h : ∀ i, i < N + a + b → W i = V i) : ∀ i, W i = V i := by
  have key : Per W b N := by
    intro i hi
    have r := Nat.mod_lt (i - N) ha0
    have e1 := ha.at_mod hi
    have e2 := ha.mul ((i - N) / a) (N + (i - N) % a + b) (by omega)
    have e3 : N + (i - N) % a + b + (i - N) / a * a = i + b := by
      have := Nat.mod_add_div (i - N) a
      rw [Nat.mul_comm] at this
      omega
    rw [e3] at e2
    rw [e2, h _ (by omega), hb _ (by omega), ← h _ (by omega), e1]
  intro i
  by_cases hi : N ≤ i
  · have r := Nat.mod_lt (i - N) hb0
    rw [← key.at_mod hi, ← hb.at_mod hi]
    exact h _ (by omega)
  · exact h i (by omega)
/-- A row goes round within itself. -/
def perOk (L : List α) (n : Nat) : Prop := L.length % n = 0 ∧ ∀ i, n ≤ i → i < L.length → L[i]? = L[i - n]?
theorem perOk.per {P L : List α} (h : perOk L n) : Per (wordO P L) n P.length := by
  obtain ⟨hd, hs⟩ := h
  intro i hi
  unfold wordO
  rw [if_neg (by omega), if_neg (by omega)]
  by_cases hL : L.length = 0
  · rw [List.eq_nil_of_length_eq_zero hL]; simp
  · obtain ⟨c, hc⟩ := Nat.dvd_of_mod_eq_zero hd
    have hn : n ≤ L.length := by
      rw [hc]
      refine Nat.le_mul_of_pos_right n ?_
      rcases Nat.eq_zero_or_pos c with rfl | h
      · rw [Nat.mul_zero] at hc; exact absurd hc hL
      · exact h
    have r := Nat.mod_lt (i - P.length) (Nat.pos_of_ne_zero hL)
    rw [show i + n - P.length = (i - P.length) + n by omega, Nat.add_mod]
    generalize (i - P.length) % L.length = k at *
    rcases Nat.lt_or_ge n L.length with h1 | h1
    · rw [Nat.mod_eq_of_lt h1]
      rcases Nat.lt_or_ge (k + n) L.length with h2 | h2
      · rw [Nat.mod_eq_of_lt h2, hs (k + n) (by omega) h2]
        congr 1; omega
      · rw [Nat.mod_eq_sub_mod h2, Nat.mod_eq_of_lt (by omega)]
        -- go round: k + n - length, up by n again and again to k
        have go : ∀ j : Nat, k + n - L.length + j * n < L.length → L[k + n - L.length + j * n]? = L[k + n - L.length]? := by
          intro j
          induction j with
          | zero => intro _; simp
          | succ j ih =>
            intro hj
            rw [Nat.succ_mul] at hj ⊢
            rw [hs _ (by omega) hj, show k + n - L.length + (j * n + n) - n = k + n - L.length + j * n by omega]
            exact ih (by omega)
        have hc1 : 1 ≤ c := by
          rcases Nat.eq_zero_or_pos c with rfl | h
          · rw [Nat.mul_zero] at hc; exact absurd hc hL
          · exact h
        have e := go (c - 1) (by
          rw [Nat.sub_mul, Nat.one_mul, Nat.mul_comm c n, ← hc]; omega)
        rw [← e]
        congr 1
        rw [Nat.sub_mul, Nat.one_mul, Nat.mul_comm c n, ← hc]; omega
    · have : n = L.length := by omega
      rw [this, Nat.mod_self, Nat.add_zero, Nat.mod_eq_of_lt r]
theorem perOk.of_per {P L : List α} (hd : L.length % n = 0) (h : Per (wordO P L) n P.length) : perOk L n := by
  refine ⟨hd, fun i h1 h2 => ?_⟩
  have e := h (P.length + (i - n)) (by omega)
  unfold wordO at e
  rw [if_neg (by omega), if_neg (by omega), show P.length + (i - n) + n - P.length = i by omega, show P.length + (i - n) - P.length = i - n by omega, Nat.mod_eq_of_lt h2, Nat.mod_eq_of_lt (by omega)] at e
  exact e
/-- The shortest telling of a word: n letters round, from p on. -/
structure Can (W : Nat → Option α) (n p : Nat) : Prop where
  pos : 1 ≤ n
  per : Per W n p
  least : ∀ n' p', 1 ≤ n' → Per W n' p' → n ≤ n'
  first : ∀ p', Per W n p' → p ≤ p'
theorem Can.same {n' p' : Nat} (h : Can W n p) (h' : Can W n' p') : n = n' ∧ p = p' := by
  have e : n = n' := Nat.le_antisymm (h.least _ _ h'.pos h'.per) (h'.least _ _ h.pos h.per)
  subst e
  exact ⟨rfl, Nat.le_antisymm (h.first _ h'.per) (h'.first _ h.per)⟩
/-- What makes a telling the shortest. -/
theorem Can.mk' {P L : List α} (hL : L ≠ []) (hn : 1 ≤ n) (hl : ∀ m, 1 ≤ m → m < n → ¬ perOk L m) (hper : Per (wordO P L) n p) (hf : p = 0 ∨ wordO P L (p - 1 + n) ≠ wordO P L (p - 1)) : Can (wordO P L) n p := by
  have hl0 : 0 < L.length := List.length_pos_iff.2 hL
  refine ⟨hn, hper, fun n' p' h1 h2 => ?_, fun p' h => ?_⟩
  · have g0 := Per.gcd (p := max p' P.length) n' L.length (h2.mono (by omega)) ((per_word P L).mono (by omega))
    have g1 := g0.early hl0 (per_word P L)
    have gd : L.length % Nat.gcd n' L.length = 0 := Nat.mod_eq_zero_of_dvd (Nat.gcd_dvd_right _ _)
    have gp : 1 ≤ Nat.gcd n' L.length := Nat.gcd_pos_of_pos_left _ h1
    have gl : Nat.gcd n' L.length ≤ n' := Nat.gcd_le_left _ h1
    rcases Nat.lt_or_ge (Nat.gcd n' L.length) n with h | h
    · exact absurd (perOk.of_per gd g1) (hl _ gp h)
    · omega
  · rcases Nat.lt_or_ge p' p with h3 | h3
    · rcases hf with rfl | hf
      · omega
      · exact absurd (h (p - 1) (by omega)) hf
    · exact h3
theorem word_cut {P L : List α} (h : Per W n p) (hn : 1 ≤ n) (hP : P.length = p) (hPs : ∀ i, i < p → P[i]? = W i) (hL : L.length = n) (hLs : ∀ i, i < n → L[i]? = W (p + i)) : ∀ i, wordO P L i = W i := by
  intro i
  unfold wordO
  split
  · exact hPs i (by omega)
  · rw [hL, hP, hLs _ (Nat.mod_lt _ (by omega)), h.at_mod (by omega)]
/-- A lasso's shortest form. -/
structure IsCanon (P L P' L' : List α) : Prop where
  can : Can (wordO P L) L'.length P'.length
  pre : ∀ i, i < P'.length → P'[i]? = wordO P L i
  loop : ∀ i, i < L'.length → L'[i]? = wordO P L (P'.length + i)
theorem rows_same {l l' : List α} (hl : l.length = l'.length) (h : ∀ i, i < l.length → l[i]? = l'[i]?) : l = l' := by
  refine List.ext_getElem? (fun i => ?_)
  rcases Nat.lt_or_ge i l.length with h1 | h1
  · exact h i h1
  · rw [List.getElem?_eq_none_iff.2 h1, List.getElem?_eq_none_iff.2 (by omega)]
theorem IsCanon.words {P L P' L' : List α} (h : IsCanon P L P' L') : ∀ i, wordO P' L' i = wordO P L i :=
  word_cut h.can.per h.can.pos rfl h.pre rfl h.loop
theorem IsCanon.of_words {P L Q M P' L' Q' M' : List α} (h : IsCanon P L P' L') (h' : IsCanon Q M Q' M') (hw : ∀ i, wordO P L i = wordO Q M i) : P' = Q' ∧ L' = M' := by
  have e : wordO P L = wordO Q M := funext hw
  obtain ⟨e1, e2⟩ := h.can.same (e ▸ h'.can)
  refine ⟨rows_same e2 (fun i hi => ?_), rows_same e1 (fun i hi => ?_)⟩
  · rw [h.pre i hi, h'.pre i (by omega), e]
  · rw [h.loop i hi, h'.loop i (by omega), e, e2]
theorem IsCanon.det {P L P1 L1 P2 L2 : List α} (h : IsCanon P L P1 L1) (h' : IsCanon P L P2 L2) : P1 = P2 ∧ L1 = L2 := h.of_words h' (fun _ => rfl)
theorem IsCanon.same_iff {P L Q M P' L' Q' M' : List α} (h : IsCanon P L P' L') (h' : IsCanon Q M Q' M') (hL : L ≠ []) (hM : M ≠ []) : (P' = Q' ∧ L' = M') ↔ ∀ i, i < max P.length Q.length + L.length + M.length → wordO P L i = wordO Q M i := by
  constructor
  · rintro ⟨rfl, rfl⟩ i _
    rw [← h.words, ← h'.words]
  · intro hw
    exact h.of_words h' (words_all ((per_word P L).mono (by omega)) ((per_word Q M).mono (by omega)) (List.length_pos_iff.2 hL) (List.length_pos_iff.2 hM) hw)
end
end Go.Proofs.Ytkgfdgfhpdhhaaa
