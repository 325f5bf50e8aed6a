/- Signs and parentheses ahead of a name, a text in parentheses, two with an operator between: what they are read as, plain. Conditions: none. -/
import Derived.Test.YtkgfdgfhpdhhaaaKnown
namespace Go.Proofs.Ytkgfdgfhpdhhaaa

/-- The sign of a number below 4. -/
def signT (j : Nat) : List UInt8 := if j = 0 then [33] else if j = 1 then [88, 32] else if j = 2 then [91, 93] else [60, 62]
def signK (j : Nat) : Int := 4 + (j : Int)
def parT : Nat → List UInt8
  | 0 => [112]
  | n + 1 => [40] ++ parT n ++ [41]
def parW : Nat → List (List UInt8)
  | 0 => [[112]]
  | n + 1 => [[40]] ++ parW n ++ [[41]]
theorem parT_lex : ∀ n, LexS (parT n) (parW n)
  | 0 => lex_word (c := 112) (r := []) (by decide) (by decide) (by decide)
  | n + 1 => (lex_par (parT_lex n)).s
theorem parT_length : ∀ n, (parT n).length = 2 * n + 1
  | 0 => rfl
  | n + 1 => by
    rw [parT, List.length_append, List.length_append, parT_length n]
    simp only [List.length_cons, List.length_nil]; omega
theorem parT_eq : ∀ n, parT n = List.replicate n 40 ++ [112] ++ List.replicate n 41
  | 0 => rfl
  | n + 1 => by
    rw [parT, parT_eq n, List.replicate_succ, List.replicate_succ' (a := (41 : UInt8))]
    simp only [List.cons_append, List.nil_append, List.append_assoc]
/-- At the innermost level, whatever follows. -/
def H5 (t : T) (ws : List (List UInt8)) : Prop := ∀ L : List Tok, L.map (·.1) = ws → ∀ rest, G (.lev 5) (L ++ rest) (.ok t rest)
theorem H5.whole {t : T} {ws : List (List UInt8)} (h : H5 t ws) : Whole t ws := whole_of5 (fun L hL rest _ => h L hL rest)
theorem par_h5 : ∀ n, H5 nameP (parW n)
  | 0 => whole_name (by rfl) (by unfold atomOf; rw [if_neg (by decide), if_neg (by decide), if_pos (by decide)]; rfl)
  | n + 1 => fun _ hL rest => (par_h5 n).whole.par hL rest
theorem H5.pre {t : T} {ws : List (List UInt8)} {k : Int} (hk : 4 ≤ k ∧ k ≤ 7) (h : H5 t ws) : H5 (one k t) ([preW k] ++ ws) := by
  intro L hL rest
  obtain ⟨A, B, rfl, hA, hB⟩ := words_append hL
  obtain ⟨x, rfl, hx⟩ := words_one hA
  refine .pre (x := x) (k := k) ?_ (h B hB rest)
  rw [hx]
  have : k = 4 ∨ k = 5 ∨ k = 6 ∨ k = 7 := by omega
  rcases this with e | e | e | e <;> rw [e] <;> rfl
theorem sign_lex {j : Nat} (hj : j < 4) : LexA (signT j) [preW (signK j)] := by
  match j, hj with
  | 0, _ => exact lex_sign (w := [33]) (by simp [signsL])
  | 1, _ => exact lex_pre 5
  | 2, _ => exact lex_sign (w := [91, 93]) (by simp [signsL])
  | 3, _ => exact lex_sign (w := [60, 62]) (by simp [signsL])
def deepT : List Nat → T → T
  | [], t => t
  | j :: js, t => one (signK j) (deepT js t)
def deepW : List Nat → List (List UInt8) → List (List UInt8)
  | [], ws => ws
  | j :: js, ws => [preW (signK j)] ++ deepW js ws
def signsT : List Nat → List UInt8
  | [] => []
  | j :: js => signT j ++ signsT js
theorem signsT_snoc : ∀ (js : List Nat) (j : Nat), signsT (js ++ [j]) = signsT js ++ signT j
  | [], j => by simp [signsT]
  | i :: js, j => by rw [List.cons_append, signsT, signsT, signsT_snoc js j, List.append_assoc]
theorem signT_length (j : Nat) : (signT j).length ≤ 2 := by
  unfold signT
  repeat' split
  all_goals simp
theorem signsT_length : ∀ js : List Nat, (signsT js).length ≤ 2 * js.length
  | [] => Nat.le_refl _
  | j :: js => by
    have := signT_length j
    have := signsT_length js
    rw [signsT, List.length_append, List.length_cons]; omega
theorem deep_lex : ∀ {js : List Nat} {x : List UInt8} {ws : List (List UInt8)}, (∀ j ∈ js, j < 4) → LexS x ws → LexS (signsT js ++ x) (deepW js ws)
  | [], _, _, _, h => h
  | j :: js, x, ws, hj, h => by
    rw [signsT, List.append_assoc]
    exact LexA.appS (sign_lex (hj j (by simp))) (deep_lex (fun i hi => hj i (by simp [hi])) h)
theorem deep_h5 : ∀ {js : List Nat} {t : T} {ws : List (List UInt8)}, (∀ j ∈ js, j < 4) → H5 t ws → H5 (deepT js t) (deepW js ws)
  | [], _, _, _, h => h
  | j :: js, t, ws, hj, h => by
    have := hj j (by simp)
    exact H5.pre (by unfold signK; omega) (deep_h5 (fun i hi => hj i (by simp [hi])) h)
theorem deep_depth : ∀ (js : List Nat) (t : T), depthT (deepT js t) = depthT t + js.length
  | [], t => by rw [deepT]; simp
  | j :: js, t => by
    rw [deepT, one, depthT, depthL, depthL, deep_depth js t, List.length_cons]; omega
/-- Signs, parentheses and a name. -/
theorem PR_deep {js : List Nat} (hj : ∀ j ∈ js, j < 4) {n : Nat} (h1 : js.length ≤ 200) (h2 : n ≤ 200) : PR (signsT js ++ parT n) (if 100 ≤ js.length then .err (93, 0) else .ok (deepT js nameP)) := by
  have hl := signsT_length js
  have hp := parT_length n
  have h := PR_of_whole (s := signsT js ++ parT n) (by rw [List.length_append]; omega) (deep_lex hj (parT_lex n)).reads (deep_h5 hj (par_h5 n)).whole
  have e : depthT (deepT js nameP) = 1 + js.length := by rw [deep_depth]; rfl
  rw [e] at h
  by_cases hd : 100 ≤ js.length
  · rw [if_pos hd]; rwa [if_pos (by omega)] at h
  · rw [if_neg hd]; rwa [if_neg (by omega)] at h

/-- A text in parentheses, blanks in them. -/
def arT (a : List UInt8) : Nat → List UInt8
  | 0 => a
  | n + 1 => [40] ++ arT a n ++ [9, 41]
def arW (ws : List (List UInt8)) : Nat → List (List UInt8)
  | 0 => ws
  | n + 1 => [[40]] ++ arW ws n ++ [[41]]
theorem lex_around {x : List UInt8} {ws : List (List UInt8)} (h : LexS x ws) : LexA ([40] ++ x ++ [9, 41]) ([[40]] ++ ws ++ [[41]]) := by
  rw [List.append_assoc, List.append_assoc]
  exact LexA.app (lex_sign (w := [40]) (by simp [signsL])) (LexS.appA h (LexA.app (x := [9]) (y := [41]) (ws := []) (lex_blank (by decide)) (lex_sign (w := [41]) (by simp [signsL]))) (fun s => rfl))
theorem arT_lex {a : List UInt8} {ws : List (List UInt8)} (h : LexS a ws) : ∀ n, LexS (arT a n) (arW ws n)
  | 0 => h
  | n + 1 => (lex_around (arT_lex h n)).s
theorem arT_whole {t : T} {ws : List (List UInt8)} (h : Whole t ws) : ∀ n, Whole t (arW ws n)
  | 0 => h
  | n + 1 => (arT_whole h n).around
theorem PR_around {a : List UInt8} {t : T} (h : PR a (.ok t)) {n : Nat} (hl : (arT a n).length ≤ 4096) : PR (arT a n) (.ok t) := by
  obtain ⟨_, hd, _, ws, hs, hw⟩ := PR_whole h
  have := PR_of_whole hl (arT_lex hs n).reads (arT_whole hw n)
  rwa [if_neg (by omega)] at this
theorem arT_length (a : List UInt8) : ∀ n, (arT a n).length = a.length + 3 * n
  | 0 => rfl
  | n + 1 => by
    rw [arT, List.length_append, List.length_append, arT_length a n]
    simp only [List.length_cons, List.length_nil]; omega
/-- An operator ahead of a parenthesis. -/
theorem lex_opP {k : Int} (hk : 8 ≤ k ∧ k ≤ 14) {s : List UInt8} {ls : List (List UInt8)} (h : Reads ([40] ++ s) ls) : Reads (opText k ++ ([40] ++ s)) ([opText k] ++ ls) := by
  have key : ∀ c : UInt8, letterB c = true → blankB c = false → saidL [c] = [c] → Reads ([c] ++ ([40] ++ s)) ([[c]] ++ ls) := by
    intro c hc hb hs
    have := reads_word (x := [c]) (s := [40] ++ s) (by simp) (fun d hd => by cases hd; exact hb) (by
      show firstL (c :: (40 :: s)) = [c]
      unfold firstL
      rw [letter_sign hc]
      have e : runL (c :: (40 :: s)) = [c] := by
        show (if letterB c = true then c :: (40 :: s).takeWhile nameC else []) = [c]
        rw [if_pos hc, List.takeWhile_cons]
        rfl
      rw [e]
      rfl) h
    rwa [hs] at this
  have : k = 8 ∨ k = 9 ∨ k = 10 ∨ k = 11 ∨ k = 12 ∨ k = 13 ∨ k = 14 := by omega
  rcases this with rfl | rfl | rfl | rfl | rfl | rfl | rfl
  · exact lex_sign (w := [38, 38]) (by simp [signsL]) _ _ h
  · exact lex_sign (w := [124, 124]) (by simp [signsL]) _ _ h
  · exact lex_sign (w := [45, 62]) (by simp [signsL]) _ _ h
  · exact lex_sign (w := [60, 45, 62]) (by simp [signsL]) _ _ h
  · exact key 85 (by decide) (by decide) (by decide)
  · exact key 86 (by decide) (by decide) (by decide)
  · exact key 87 (by decide) (by decide) (by decide)
/-- Two in parentheses, an operator between. -/
theorem PR_both {a b : List UInt8} {x y : T} (ha : PR a (.ok x)) (hb : PR b (.ok y)) {k : Int} (hk : 8 ≤ k ∧ k ≤ 14) (hl : ([40] ++ a ++ [41] ++ opText k ++ [40] ++ b ++ [41]).length ≤ 4096) :
    PR ([40] ++ a ++ [41] ++ opText k ++ [40] ++ b ++ [41]) (if 100 < depthT (two k x y) then .err (93, 0) else .ok (two k x y)) := by
  obtain ⟨_, _, _, wa, hsa, hwa⟩ := PR_whole ha
  obtain ⟨_, _, _, wb, hsb, hwb⟩ := PR_whole hb
  refine PR_of_whole hl ?_ (hwa.op hwb hk)
  have h1 : Reads ([40] ++ (b ++ [41])) ([[40]] ++ wb ++ [[41]]) := by
    have := (lex_par hsb).s.reads
    rwa [List.append_assoc] at this
  have h2 := lex_par hsa _ _ (lex_opP hk h1)
  have e : [40] ++ a ++ [41] ++ opText k ++ [40] ++ b ++ [41] = [40] ++ a ++ [41] ++ (opText k ++ ([40] ++ (b ++ [41]))) := by simp only [List.append_assoc]
  have e2 : ([[40]] ++ wa ++ [[41]]) ++ [opText k] ++ ([[40]] ++ wb ++ [[41]]) = ([[40]] ++ wa ++ [[41]]) ++ ([opText k] ++ ([[40]] ++ wb ++ [[41]])) := by rw [List.append_assoc]
  rw [e, e2]
  exact h2
theorem depth_two (k : Int) (x y : T) : depthT (two k x y) = max (depthT x) (depthT y) + 1 := by
  unfold two
  rw [depthT, depthL, depthL, depthL]; omega
end Go.Proofs.Ytkgfdgfhpdhhaaa
