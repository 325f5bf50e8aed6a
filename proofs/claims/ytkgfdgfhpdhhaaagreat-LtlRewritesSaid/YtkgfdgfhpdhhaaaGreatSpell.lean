/- Texts that are put together, read word by word, plain. Conditions: none. -/
import Derived.Test.YtkgfdgfhpdhhaaaGreatText
import Derived.Test.YtkgfdgfhpdhhaaaGreatFirst
namespace Go.Proofs.YtkgfdgfhpdhhaaaGreat

/-- A text at whose beginning a word ends. -/
def stopB : List UInt8 → Bool
  | [] => true
  | c :: _ => blankB c || c == 41
/-- A text's words. -/
def Reads (s : List UInt8) (ws : List (List UInt8)) : Prop := ∀ p, ∃ l, toks p s = .ok l ∧ l.map (·.1) = ws
/-- A text is read as words, whatever follows that lets a word end; whatever follows. -/
def LexS (x : List UInt8) (ws : List (List UInt8)) : Prop := ∀ s ls, stopB s = true → Reads s ls → Reads (x ++ s) (ws ++ ls)
def LexA (x : List UInt8) (ws : List (List UInt8)) : Prop := ∀ s ls, Reads s ls → Reads (x ++ s) (ws ++ ls)
theorem reads_nil : Reads [] [] := fun p => ⟨[], toks_nil p, rfl⟩
theorem LexS.reads {x : List UInt8} {ws : List (List UInt8)} (h : LexS x ws) : Reads x ws := by
  have := h [] [] rfl reads_nil
  rwa [List.append_nil, List.append_nil] at this
theorem LexA.s {x : List UInt8} {ws : List (List UInt8)} (h : LexA x ws) : LexS x ws := fun s ls _ hr => h s ls hr
theorem LexA.app {x y : List UInt8} {ws vs : List (List UInt8)} (h : LexA x ws) (k : LexA y vs) : LexA (x ++ y) (ws ++ vs) := fun s ls hr => by
  rw [List.append_assoc, List.append_assoc]; exact h _ _ (k _ _ hr)
theorem LexA.appS {x y : List UInt8} {ws vs : List (List UInt8)} (h : LexA x ws) (k : LexS y vs) : LexS (x ++ y) (ws ++ vs) := fun s ls hs hr => by
  rw [List.append_assoc, List.append_assoc]; exact h _ _ (k _ _ hs hr)
theorem LexS.appS {x y : List UInt8} {ws vs : List (List UInt8)} (h : LexS x ws) (k : LexS y vs) (hy : ∀ s, stopB s = true → stopB (y ++ s) = true) : LexS (x ++ y) (ws ++ vs) := fun s ls hs hr => by
  rw [List.append_assoc, List.append_assoc]; exact h _ _ (hy s hs) (k _ _ hs hr)
theorem LexS.appA {x y : List UInt8} {ws vs : List (List UInt8)} (h : LexS x ws) (k : LexA y vs) (hy : ∀ s, stopB (y ++ s) = true) : LexA (x ++ y) (ws ++ vs) := fun s ls hr => by
  rw [List.append_assoc, List.append_assoc]; exact h _ _ (hy s) (k _ _ hr)
theorem lex_nil : LexA [] [] := fun _ _ h => h
theorem lex_blank {c : UInt8} (h : blankB c = true) : LexA [c] [] := fun s ls hr p => by
  obtain ⟨l, hl, hm⟩ := hr (p + 1)
  exact ⟨l, by rw [List.cons_append, List.nil_append, toks_blank h, hl], hm⟩
theorem lex_blanks : ∀ {x : List UInt8}, (∀ c ∈ x, blankB c = true) → LexA x []
  | [], _ => lex_nil
  | c :: r, h => LexA.app (x := [c]) (ws := []) (vs := []) (lex_blank (h c (by simp))) (lex_blanks (fun d hd => h d (by simp [hd])))
theorem reads_word {x s : List UInt8} {ls : List (List UInt8)} (hx : x ≠ []) (hb : ∀ c, x.head? = some c → blankB c = false) (hf : firstL (x ++ s) = x) (hr : Reads s ls) : Reads (x ++ s) (saidL x :: ls) := by
  intro p
  obtain ⟨l, hl, hm⟩ := hr (p + x.length)
  cases x with
  | nil => exact absurd rfl hx
  | cons c r =>
    refine ⟨(saidL (c :: r), p) :: l, ?_, by rw [List.map_cons, hm]⟩
    rw [List.cons_append] at hf ⊢
    rw [toks_word (hb c rfl) hf (by simp)]
    rw [show (c :: (r ++ s)).drop (c :: r).length = s by rw [List.length_cons, List.drop_succ_cons, List.drop_left]]
    rw [hl]
theorem first_sign {w : List UInt8} (h : w ∈ signsL) (s : List UInt8) : firstL (w ++ s) = w := by
  simp only [signsL, List.mem_cons, List.not_mem_nil, or_false] at h
  rcases h with rfl | rfl | rfl | rfl | rfl | rfl | rfl | rfl | rfl | rfl | rfl <;> simp [firstL, signsL, List.find?, List.isPrefixOf]
theorem lex_sign {w : List UInt8} (h : w ∈ signsL) : LexA w [saidL w] := fun s ls hr => by
  refine reads_word ?_ ?_ (first_sign h s) hr
  · rintro rfl; simp [signsL] at h
  · simp only [signsL, List.mem_cons, List.not_mem_nil, or_false] at h
    rcases h with rfl | rfl | rfl | rfl | rfl | rfl | rfl | rfl | rfl | rfl | rfl <;> (intro c hc; cases hc; rfl)
theorem stop_name {c : UInt8} (h : (blankB c || c == 41) = true) : nameC c = false := by
  unfold nameC letterB digitB
  unfold blankB at h
  rw [Bool.or_eq_true, decide_eq_true_eq, beq_iff_eq] at h
  have h' : c.toNat = 32 ∨ c.toNat = 9 ∨ c.toNat = 10 ∨ c.toNat = 13 ∨ c.toNat = 41 := by
    rcases h with h | h
    · omega
    · subst h; right; right; right; right; rfl
  rw [Bool.or_eq_false_iff, decide_eq_false_iff_not, decide_eq_false_iff_not]
  omega
theorem while_stop {r s : List UInt8} (h : stopB s = true) : (r ++ s).takeWhile nameC = r.takeWhile nameC := by
  induction r with
  | nil =>
    cases s with
    | nil => rfl
    | cons c s => rw [List.nil_append, List.takeWhile_cons, stop_name h]; rfl
  | cons c r ih => rw [List.cons_append, List.takeWhile_cons, List.takeWhile_cons, ih]
theorem run_stop' {u s : List UInt8} (hu : u ≠ []) (h : stopB s = true) : runL (u ++ s) = runL u := by
  cases u with
  | nil => exact absurd rfl hu
  | cons c r =>
    show (if letterB c = true then c :: (r ++ s).takeWhile nameC else []) = (if letterB c = true then c :: r.takeWhile nameC else [])
    rw [while_stop h]
theorem letter_sign {c : UInt8} (h : letterB c = true) (r : List UInt8) : signsL.find? (fun w => w.isPrefixOf (c :: r)) = none := by
  rw [List.find?_eq_none]
  unfold letterB at h
  have h := of_decide_eq_true h
  intro w hw
  simp only [signsL, List.mem_cons, List.not_mem_nil, or_false] at hw
  have key : ∀ d : UInt8, (d.toNat < 65 ∨ (90 < d.toNat ∧ d.toNat < 95) ∨ 122 < d.toNat) → (d == c) = false := by
    intro d hd
    rw [beq_eq_false_iff_ne]
    rintro rfl
    omega
  rcases hw with rfl | rfl | rfl | rfl | rfl | rfl | rfl | rfl | rfl | rfl | rfl <;> (simp only [List.isPrefixOf]; rw [key _ (by decide)]; simp)
theorem while_all : ∀ {r : List UInt8}, r.all nameC = true → r.takeWhile nameC = r
  | [], _ => rfl
  | c :: r, h => by
    rw [List.all_cons, Bool.and_eq_true] at h
    rw [List.takeWhile_cons, h.1, if_pos rfl, while_all h.2]
theorem head_app {x y : List UInt8} {d : UInt8} (h : x.head? = some d) : (x ++ y).head? = some d := by
  cases x with
  | nil => cases h
  | cons a x => exact h
/-- A name, a word of letters. -/
theorem lex_word {c : UInt8} {r : List UInt8} (hc : letterB c = true) (hr : r.all nameC = true) (hl : r.length < 32) : LexS (c :: r) [saidL (c :: r)] := fun s ls hs hrd => by
  refine reads_word (by simp) ?_ ?_ hrd
  · intro d hd
    cases hd
    cases hb : blankB c with
    | false => rfl
    | true =>
      have := stop_name (c := c) (by rw [hb]; rfl)
      unfold nameC at this
      rw [hc] at this
      simp at this
  · have e : runL ((c :: r) ++ s) = c :: r := by
      rw [run_stop' (by simp) hs]
      show (if letterB c = true then c :: r.takeWhile nameC else []) = c :: r
      rw [if_pos hc]
      congr 1
      exact while_all hr
    rw [List.cons_append] at e ⊢
    unfold firstL
    rw [letter_sign hc, e]
    simp only [List.length_cons]
    rw [if_neg (by omega)]
theorem find_congr {α : Type} {p q : α → Bool} : ∀ {l : List α}, (∀ w ∈ l, p w = q w) → l.find? p = l.find? q
  | [], _ => rfl
  | w :: l, h => by
    rw [List.find?_cons, List.find?_cons, h w (by simp), find_congr (fun v hv => h v (by simp [hv]))]
theorem prefix_stop {u s w : List UInt8} (hu : u ≠ []) (hs : stopB s = true) (hw : w ∈ signsL) : w.isPrefixOf (u ++ s) = w.isPrefixOf u := by
  simp only [signsL, List.mem_cons, List.not_mem_nil, or_false] at hw
  have key : ∀ d c : UInt8, (blankB c || c == 41) = true → (d == 45 || d == 62 || d == 93 || d == 38 || d == 92 || d == 124 || d == 47) = true → (d == c) = false := by
    intro d c hc hd
    rw [beq_eq_false_iff_ne]
    rintro rfl
    simp only [Bool.or_eq_true, beq_iff_eq] at hd
    rcases hd with (((((rfl | rfl) | rfl) | rfl) | rfl) | rfl) | rfl <;> revert hc <;> decide
  match u, hu with
  | [a], _ =>
    cases s with
    | nil => rfl
    | cons c s =>
      have hs : (blankB c || c == 41) = true := hs
      rcases hw with rfl | rfl | rfl | rfl | rfl | rfl | rfl | rfl | rfl | rfl | rfl <;> simp [List.isPrefixOf, key 45 c hs (by decide), key 62 c hs (by decide), key 93 c hs (by decide), key 38 c hs (by decide), key 92 c hs (by decide), key 124 c hs (by decide), key 47 c hs (by decide)]
  | [a, b], _ =>
    cases s with
    | nil => rfl
    | cons c s =>
      have hs : (blankB c || c == 41) = true := hs
      rcases hw with rfl | rfl | rfl | rfl | rfl | rfl | rfl | rfl | rfl | rfl | rfl <;> simp [List.isPrefixOf, key 62 c hs (by decide)]
  | a :: b :: c :: u, _ =>
    rcases hw with rfl | rfl | rfl | rfl | rfl | rfl | rfl | rfl | rfl | rfl | rfl <;> simp [List.isPrefixOf]
theorem first_stop {u s : List UInt8} (hu : u ≠ []) (hs : stopB s = true) : firstL (u ++ s) = firstL u := by
  unfold firstL
  rw [find_congr (fun w hw => prefix_stop hu hs hw), run_stop' hu hs]
/-- A text that is read is read so ahead of what lets a word end. -/
theorem lex_toks : ∀ (n : Nat) (u : List UInt8) (p : Nat) (l : List Tok), u.length ≤ n → toks p u = .ok l → LexS u (l.map (·.1))
  | _, [], p, l, _, h => by
    rw [toks_nil] at h
    cases h
    exact lex_nil.s
  | 0, _ :: _, _, _, h, _ => by simp at h
  | n + 1, c :: r, p, l, hn, h => by
    rw [List.length_cons] at hn
    cases hb : blankB c with
    | true =>
      rw [toks_blank hb] at h
      exact LexA.appS (x := [c]) (ws := []) (lex_blank hb) (lex_toks n r _ l (by omega) h)
    | false =>
      by_cases hw : firstL (c :: r) = []
      · rw [toks_err hb hw] at h; cases h
      · rw [toks_word hb rfl hw] at h
        generalize ht : toks (p + (firstL (c :: r)).length) ((c :: r).drop (firstL (c :: r)).length) = q at h
        have hl := List.length_pos_iff.2 hw
        have hle := firstL_length (c :: r)
        cases q with
        | error e => cases h
        | ok l2 =>
          cases h
          intro s ls hs hr
          have ih := lex_toks n _ _ l2 (by rw [List.length_drop, List.length_cons]; omega) ht s ls hs hr
          have e := List.take_append_drop (firstL (c :: r)).length (c :: r)
          have e2 := firstL_take (c :: r)
          have e3 : c :: r = firstL (c :: r) ++ (c :: r).drop (firstL (c :: r)).length := by rw [← e2] at e; exact e.symm
          have hf : firstL ((c :: r) ++ s) = firstL (c :: r) := first_stop (by simp) hs
          have := reads_word (x := firstL (c :: r)) (s := (c :: r).drop (firstL (c :: r)).length ++ s) hw (fun d hd => by
            have e4 := congrArg List.head? e3
            rw [head_app hd] at e4
            cases e4
            exact hb) (by rw [← List.append_assoc, ← e3]; exact hf) ih
          rw [← List.append_assoc, ← e3] at this
          exact this
end Go.Proofs.YtkgfdgfhpdhhaaaGreat
