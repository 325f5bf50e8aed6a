/- Words and the grammar of formulas, plain. Conditions: none. -/
import Derived.Test.YtkgfdgfhpdhhaaaTree
namespace Go.Proofs.Ytkgfdgfhpdhhaaa

/-- The signs, in the order in which they are tried. -/
def signsL : List (List UInt8) := [[60, 45, 62], [91, 93], [60, 62], [45, 62], [38, 38], [47, 92], [124, 124], [92, 47], [33], [40], [41]]
def blankB (c : UInt8) : Bool := decide (c.toNat = 32 ∨ c.toNat = 9 ∨ c.toNat = 10 ∨ c.toNat = 13)
def nameC (c : UInt8) : Bool := letterB c || digitB c
/-- The letters and digits with which a text begins, a letter first. -/
def runL : List UInt8 → List UInt8
  | [] => []
  | c :: r => if letterB c then c :: r.takeWhile nameC else []
/-- The word with which a text begins; empty: there is none. -/
def firstL (s : List UInt8) : List UInt8 :=
  match signsL.find? (fun w => w.isPrefixOf s) with
  | some w => w
  | none => if 32 < (runL s).length then [] else runL s
/-- What a word stands for. -/
def saidL (w : List UInt8) : List UInt8 :=
  if w = [47, 92] then [38, 38] else if w = [92, 47] then [124, 124] else if w = [97, 108, 119, 97, 121, 115] then [91, 93] else if w = [101, 118, 101, 110, 116, 117, 97, 108, 108, 121] then [60, 62]
  else if w = [110, 101, 120, 116] then [88] else if w = [117, 110, 116, 105, 108] then [85] else if w = [114, 101, 108, 101, 97, 115, 101] then [86] else if w = [119, 101, 97, 107, 117, 110, 116, 105, 108] then [87] else w
abbrev Tok := List UInt8 × Nat
def toksF : Nat → Nat → List UInt8 → Except Nat (List Tok)
  | _, _, [] => .ok []
  | 0, _, _ :: _ => .ok []
  | f + 1, p, c :: r =>
    if blankB c then toksF f (p + 1) r
    else if firstL (c :: r) = [] then .error p
    else match toksF f (p + (firstL (c :: r)).length) ((c :: r).drop (firstL (c :: r)).length) with
      | .error e => .error e
      | .ok l => .ok ((saidL (firstL (c :: r)), p) :: l)
theorem toksF_fuel : ∀ (f g p : Nat) (s : List UInt8), s.length ≤ f → s.length ≤ g → toksF f p s = toksF g p s
  | f, g, p, [], _, _ => by cases f <;> cases g <;> rfl
  | 0, _, _, _ :: _, h, _ => by simp at h
  | _, 0, _, _ :: _, _, h => by simp at h
  | f + 1, g + 1, p, c :: r, hf, hg => by
    simp only [List.length_cons] at hf hg
    rw [toksF, toksF]
    by_cases hb : blankB c = true
    · rw [if_pos hb, if_pos hb]
      exact toksF_fuel f g _ r (by omega) (by omega)
    · rw [if_neg hb, if_neg hb]
      by_cases hw : firstL (c :: r) = []
      · rw [if_pos hw, if_pos hw]
      · rw [if_neg hw, if_neg hw]
        have hl : 0 < (firstL (c :: r)).length := List.length_pos_iff.2 hw
        rw [toksF_fuel f g _ ((c :: r).drop (firstL (c :: r)).length) (by rw [List.length_drop, List.length_cons]; omega) (by rw [List.length_drop, List.length_cons]; omega)]
/-- A text's words, each with its place; or where none begins. -/
def toks (p : Nat) (s : List UInt8) : Except Nat (List Tok) := toksF s.length p s
theorem toks_nil (p : Nat) : toks p [] = .ok [] := rfl
theorem toks_blank {p : Nat} {c : UInt8} {r : List UInt8} (h : blankB c = true) : toks p (c :: r) = toks (p + 1) r := by
  unfold toks
  rw [List.length_cons, toksF, if_pos h]
theorem toks_err {p : Nat} {c : UInt8} {r : List UInt8} (h : blankB c = false) (hw : firstL (c :: r) = []) : toks p (c :: r) = .error p := by
  unfold toks
  rw [List.length_cons, toksF, if_neg (by rw [h]; simp), if_pos hw]
theorem toks_word {p : Nat} {c : UInt8} {r w : List UInt8} (h : blankB c = false) (hw : firstL (c :: r) = w) (hn : w ≠ []) : toks p (c :: r) = (match toks (p + w.length) ((c :: r).drop w.length) with
      | .error e => .error e
      | .ok l => .ok ((saidL w, p) :: l)) := by
  subst hw
  have hl : 0 < (firstL (c :: r)).length := List.length_pos_iff.2 hn
  unfold toks
  rw [List.length_cons, toksF, if_neg (by rw [h]; simp), if_neg hn, toksF_fuel r.length ((c :: r).drop (firstL (c :: r)).length).length _ _ (by rw [List.length_drop, List.length_cons]; omega) (Nat.le_refl _)]
theorem saidL_nil {w : List UInt8} (h : w ≠ []) : saidL w ≠ [] := by
  unfold saidL
  repeat' split
  all_goals first | exact h | simp
theorem runL_take : ∀ s : List UInt8, runL s = s.take (runL s).length
  | [] => rfl
  | c :: r => by
    by_cases h : letterB c = true
    · have e : runL (c :: r) = c :: r.takeWhile nameC := if_pos h
      rw [e, List.length_cons, List.take_succ_cons]
      congr 1
      exact List.prefix_iff_eq_take.1 (List.takeWhile_prefix _)
    · have e : runL (c :: r) = [] := if_neg h
      rw [e]; rfl
theorem firstL_take (s : List UInt8) : firstL s = s.take (firstL s).length := by
  have key : ∀ w, (firstL s = w) → firstL s <+: s → firstL s = s.take (firstL s).length := fun w _ h => List.prefix_iff_eq_take.1 h
  refine key _ rfl ?_
  unfold firstL
  split
  · rename_i w h
    have := List.find?_some h
    exact List.isPrefixOf_iff_prefix.1 this
  · split
    · exact List.nil_prefix
    · rw [runL_take]; exact List.take_prefix _ _
theorem firstL_length (s : List UInt8) : (firstL s).length ≤ s.length := by
  have h := congrArg List.length (firstL_take s)
  rw [List.length_take] at h
  omega

/- THE GRAMMAR. -/
def two (k : Int) (a b : T) : T := .node k [] [a, b]
def one (k : Int) (a : T) : T := .node k [] [a]
/-- The kind of an operator between two formulas, of a level. -/
def opOf (n : Nat) (w : List UInt8) : Option Int :=
  if n = 0 then (if w = [60, 45, 62] then some 11 else none)
  else if n = 1 then (if w = [45, 62] then some 10 else none)
  else if n = 2 then (if w = [124, 124] then some 9 else none)
  else if n = 3 then (if w = [38, 38] then some 8 else none)
  else if n = 4 then (if w = [85] then some 12 else if w = [86] then some 13 else if w = [87] then some 14 else none)
  else none
def leftOf (n : Nat) : Bool := decide (n = 2 ∨ n = 3)
/-- The kind of a sign ahead of a formula. -/
def preOf (w : List UInt8) : Option Int :=
  if w = [33] then some 4 else if w = [88] then some 5 else if w = [91, 93] then some 6 else if w = [60, 62] then some 7 else none
/-- A word by itself. -/
def atomOf (w : List UInt8) : Option T :=
  if w = [116, 114, 117, 101] then some (.node 1 [] []) else if w = [102, 97, 108, 115, 101] then some (.node 2 [] []) else if nameB w then some (.node 3 w []) else none
/-- What is thrown at a word that can't stand there. -/
def wrongAt (x : Tok) : Int × Nat := (if x.1 = [] then 91 else 92, x.2)
inductive Mode where
  | lev (n : Nat)
  | loop (n : Nat) (t : T)
inductive Out where
  | ok (t : T) (l : List Tok)
  | err (e : Int × Nat)
/-- What words say, by the grammar. -/
inductive G : Mode → List Tok → Out → Prop where
  | down_err {n : Nat} {l : List Tok} {e : Int × Nat} : n ≤ 4 → G (.lev (n + 1)) l (.err e) → G (.lev n) l (.err e)
  | none {n : Nat} {l : List Tok} {t : T} {x : Tok} {l' : List Tok} : n ≤ 4 → leftOf n = false → G (.lev (n + 1)) l (.ok t (x :: l')) → opOf n x.1 = none → G (.lev n) l (.ok t (x :: l'))
  | op_err {n : Nat} {l : List Tok} {t : T} {x : Tok} {l' : List Tok} {k : Int} {e : Int × Nat} : n ≤ 4 → leftOf n = false → G (.lev (n + 1)) l (.ok t (x :: l')) → opOf n x.1 = some k → G (.lev n) l' (.err e) → G (.lev n) l (.err e)
  | op_ok {n : Nat} {l : List Tok} {t u : T} {x : Tok} {l' l2 : List Tok} {k : Int} : n ≤ 4 → leftOf n = false → G (.lev (n + 1)) l (.ok t (x :: l')) → opOf n x.1 = some k → G (.lev n) l' (.ok u l2) → G (.lev n) l (.ok (two k t u) l2)
  | left {n : Nat} {l : List Tok} {t : T} {l' : List Tok} {o : Out} : n ≤ 4 → leftOf n = true → G (.lev (n + 1)) l (.ok t l') → G (.loop n t) l' o → G (.lev n) l o
  | stop {n : Nat} {t : T} {x : Tok} {l : List Tok} : leftOf n = true → opOf n x.1 = none → G (.loop n t) (x :: l) (.ok t (x :: l))
  | go_err {n : Nat} {t : T} {x : Tok} {l : List Tok} {k : Int} {e : Int × Nat} : leftOf n = true → opOf n x.1 = some k → G (.lev (n + 1)) l (.err e) → G (.loop n t) (x :: l) (.err e)
  | go {n : Nat} {t u : T} {x : Tok} {l l' : List Tok} {k : Int} {o : Out} : leftOf n = true → opOf n x.1 = some k → G (.lev (n + 1)) l (.ok u l') → G (.loop n (two k t u)) l' o → G (.loop n t) (x :: l) o
  | pre_err {x : Tok} {l : List Tok} {k : Int} {e : Int × Nat} : preOf x.1 = some k → G (.lev 5) l (.err e) → G (.lev 5) (x :: l) (.err e)
  | pre {x : Tok} {l l' : List Tok} {k : Int} {u : T} : preOf x.1 = some k → G (.lev 5) l (.ok u l') → G (.lev 5) (x :: l) (.ok (one k u) l')
  | atom {x : Tok} {l : List Tok} {t : T} : preOf x.1 = none → atomOf x.1 = some t → G (.lev 5) (x :: l) (.ok t l)
  | par_err {x : Tok} {l : List Tok} {e : Int × Nat} : x.1 = [40] → G (.lev 0) l (.err e) → G (.lev 5) (x :: l) (.err e)
  | par_not {x y : Tok} {l l' : List Tok} {t : T} : x.1 = [40] → G (.lev 0) l (.ok t (y :: l')) → y.1 ≠ [41] → G (.lev 5) (x :: l) (.err (wrongAt y))
  | par {x y : Tok} {l l' : List Tok} {t : T} : x.1 = [40] → G (.lev 0) l (.ok t (y :: l')) → y.1 = [41] → G (.lev 5) (x :: l) (.ok t l')
  | bad {x : Tok} {l : List Tok} : preOf x.1 = none → atomOf x.1 = none → x.1 ≠ [40] → G (.lev 5) (x :: l) (.err (wrongAt x))

theorem pre_not_par {w : List UInt8} {k : Int} (h : preOf w = some k) : w ≠ [40] := by
  rintro rfl
  simp [preOf] at h
theorem atom_not_par {w : List UInt8} {t : T} (h : atomOf w = some t) : w ≠ [40] := by
  rintro rfl
  unfold atomOf at h
  rw [if_neg (by decide), if_neg (by decide), if_neg (by decide)] at h
  cases h
theorem par_pre {w : List UInt8} (h : w = [40]) : preOf w = none := by subst h; rfl
theorem par_atom {w : List UInt8} (h : w = [40]) : atomOf w = none := by
  subst h
  unfold atomOf
  rw [if_neg (by decide), if_neg (by decide), if_neg (by decide)]

/-- The grammar gives one answer. -/
theorem G_det : ∀ {m : Mode} {l : List Tok} {o : Out}, G m l o → ∀ {o' : Out}, G m l o' → o = o' := by
  intro m l o h
  induction h with
  | down_err hn _ ih =>
    intro o' h'
    cases h' with
    | down_err _ h2 => exact ih h2
    | none _ _ h2 _ => exact absurd (ih h2) (by simp)
    | op_err _ _ h2 _ _ => exact absurd (ih h2) (by simp)
    | op_ok _ _ h2 _ _ => exact absurd (ih h2) (by simp)
    | left _ _ h2 _ => exact absurd (ih h2) (by simp)
    | _ => omega
  | none hn hl _ hop ih =>
    intro o' h'
    cases h' with
    | down_err _ h2 => exact absurd (ih h2) (by simp)
    | none _ _ h2 _ => exact ih h2
    | op_err _ _ h2 ho _ => have e := ih h2; simp at e; obtain ⟨rfl, rfl, rfl⟩ := e; rw [hop] at ho; cases ho
    | op_ok _ _ h2 ho _ => have e := ih h2; simp at e; obtain ⟨rfl, rfl, rfl⟩ := e; rw [hop] at ho; cases ho
    | left _ hl2 _ _ => rw [hl] at hl2; cases hl2
    | _ => omega
  | op_err hn hl _ hop _ ih ih2 =>
    intro o' h'
    cases h' with
    | down_err _ h2 => exact absurd (ih h2) (by simp)
    | none _ _ h2 ho => have e := ih h2; simp at e; obtain ⟨rfl, rfl, rfl⟩ := e; rw [hop] at ho; cases ho
    | op_err _ _ h2 ho h3 => have e := ih h2; simp at e; obtain ⟨rfl, rfl, rfl⟩ := e; exact ih2 h3
    | op_ok _ _ h2 ho h3 => have e := ih h2; simp at e; obtain ⟨rfl, rfl, rfl⟩ := e; exact absurd (ih2 h3) (by simp)
    | left _ hl2 _ _ => rw [hl] at hl2; cases hl2
    | _ => omega
  | op_ok hn hl _ hop _ ih ih2 =>
    intro o' h'
    cases h' with
    | down_err _ h2 => exact absurd (ih h2) (by simp)
    | none _ _ h2 ho => have e := ih h2; simp at e; obtain ⟨rfl, rfl, rfl⟩ := e; rw [hop] at ho; cases ho
    | op_err _ _ h2 ho h3 => have e := ih h2; simp at e; obtain ⟨rfl, rfl, rfl⟩ := e; exact absurd (ih2 h3) (by simp)
    | op_ok _ _ h2 ho h3 =>
      have e := ih h2; simp at e; obtain ⟨rfl, rfl, rfl⟩ := e
      have e2 := ih2 h3; simp at e2; obtain ⟨rfl, rfl⟩ := e2
      rw [hop] at ho; cases ho; rfl
    | left _ hl2 _ _ => rw [hl] at hl2; cases hl2
    | _ => omega
  | left hn hl _ _ ih ih2 =>
    intro o' h'
    cases h' with
    | down_err _ h2 => exact absurd (ih h2) (by simp)
    | none _ hl2 _ _ => rw [hl] at hl2; cases hl2
    | op_err _ hl2 _ _ _ => rw [hl] at hl2; cases hl2
    | op_ok _ hl2 _ _ _ => rw [hl] at hl2; cases hl2
    | left _ _ h2 h3 => have e := ih h2; simp at e; obtain ⟨rfl, rfl⟩ := e; exact ih2 h3
    | _ => omega
  | stop hl hop =>
    intro o' h'
    cases h' with
    | stop _ _ => rfl
    | go_err _ ho _ => rw [hop] at ho; cases ho
    | go _ ho _ _ => rw [hop] at ho; cases ho
  | go_err hl hop _ ih =>
    intro o' h'
    cases h' with
    | stop _ ho => rw [hop] at ho; cases ho
    | go_err _ ho h2 => exact ih h2
    | go _ ho h2 _ => exact absurd (ih h2) (by simp)
  | go hl hop _ _ ih ih2 =>
    intro o' h'
    cases h' with
    | stop _ ho => rw [hop] at ho; cases ho
    | go_err _ ho h2 => exact absurd (ih h2) (by simp)
    | go _ ho h2 h3 =>
      have e := ih h2; simp at e; obtain ⟨rfl, rfl⟩ := e
      rw [hop] at ho; cases ho
      exact ih2 h3
  | pre_err hp _ ih =>
    intro o' h'
    cases h' with
    | pre_err _ h2 => exact ih h2
    | pre _ h2 => exact absurd (ih h2) (by simp)
    | atom hp2 _ => rw [hp] at hp2; cases hp2
    | par_err hx _ => exact absurd hx (pre_not_par hp)
    | par_not hx _ _ => exact absurd hx (pre_not_par hp)
    | par hx _ _ => exact absurd hx (pre_not_par hp)
    | bad hp2 _ _ => rw [hp] at hp2; cases hp2
    | _ => omega
  | pre hp _ ih =>
    intro o' h'
    cases h' with
    | pre_err _ h2 => exact absurd (ih h2) (by simp)
    | pre hp2 h2 =>
      have e := ih h2; simp at e; obtain ⟨rfl, rfl⟩ := e
      rw [hp] at hp2; cases hp2; rfl
    | atom hp2 _ => rw [hp] at hp2; cases hp2
    | par_err hx _ => exact absurd hx (pre_not_par hp)
    | par_not hx _ _ => exact absurd hx (pre_not_par hp)
    | par hx _ _ => exact absurd hx (pre_not_par hp)
    | bad hp2 _ _ => rw [hp] at hp2; cases hp2
    | _ => omega
  | atom hp ha =>
    intro o' h'
    cases h' with
    | pre_err hp2 _ => rw [hp] at hp2; cases hp2
    | pre hp2 _ => rw [hp] at hp2; cases hp2
    | atom _ ha2 => rw [ha] at ha2; cases ha2; rfl
    | par_err hx _ => exact absurd hx (atom_not_par ha)
    | par_not hx _ _ => exact absurd hx (atom_not_par ha)
    | par hx _ _ => exact absurd hx (atom_not_par ha)
    | bad _ ha2 _ => rw [ha] at ha2; cases ha2
    | _ => omega
  | par_err hx _ ih =>
    intro o' h'
    cases h' with
    | pre_err hp2 _ => exact absurd hx (pre_not_par hp2)
    | pre hp2 _ => exact absurd hx (pre_not_par hp2)
    | atom _ ha2 => exact absurd hx (atom_not_par ha2)
    | par_err _ h2 => exact ih h2
    | par_not _ h2 _ => exact absurd (ih h2) (by simp)
    | par _ h2 _ => exact absurd (ih h2) (by simp)
    | bad _ _ h2 => exact absurd hx h2
    | _ => omega
  | par_not hx _ hy ih =>
    intro o' h'
    cases h' with
    | pre_err hp2 _ => exact absurd hx (pre_not_par hp2)
    | pre hp2 _ => exact absurd hx (pre_not_par hp2)
    | atom _ ha2 => exact absurd hx (atom_not_par ha2)
    | par_err _ h2 => exact absurd (ih h2) (by simp)
    | par_not _ h2 _ => have e := ih h2; simp at e; obtain ⟨rfl, rfl, rfl⟩ := e; rfl
    | par _ h2 hy2 => have e := ih h2; simp at e; obtain ⟨rfl, rfl, rfl⟩ := e; exact absurd hy2 hy
    | bad _ _ h2 => exact absurd hx h2
    | _ => omega
  | par hx _ hy ih =>
    intro o' h'
    cases h' with
    | pre_err hp2 _ => exact absurd hx (pre_not_par hp2)
    | pre hp2 _ => exact absurd hx (pre_not_par hp2)
    | atom _ ha2 => exact absurd hx (atom_not_par ha2)
    | par_err _ h2 => exact absurd (ih h2) (by simp)
    | par_not _ h2 hy2 => have e := ih h2; simp at e; obtain ⟨rfl, rfl, rfl⟩ := e; exact absurd hy hy2
    | par _ h2 _ => have e := ih h2; simp at e; obtain ⟨rfl, rfl, rfl⟩ := e; rfl
    | bad _ _ h2 => exact absurd hx h2
    | _ => omega
  | bad hp ha hx =>
    intro o' h'
    cases h' with
    | pre_err hp2 _ => rw [hp] at hp2; cases hp2
    | pre hp2 _ => rw [hp] at hp2; cases hp2
    | atom _ ha2 => rw [ha] at ha2; cases ha2
    | par_err hx2 _ => exact absurd hx2 hx
    | par_not hx2 _ _ => exact absurd hx2 hx
    | par hx2 _ _ => exact absurd hx2 hx
    | bad _ _ _ => rfl
    | _ => omega
end Go.Proofs.Ytkgfdgfhpdhhaaa
