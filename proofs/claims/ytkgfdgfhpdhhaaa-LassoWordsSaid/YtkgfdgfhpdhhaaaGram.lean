/- What the grammar gives, plain. Conditions: none. -/
import Derived.Test.YtkgfdgfhpdhhaaaLex
import Derived.Test.YtkgfdgfhpdhhaaaMay
namespace Go.Proofs.Ytkgfdgfhpdhhaaa

theorem opOf_ne {n : Nat} {w : List UInt8} {k : Int} (h : opOf n w = some k) : w ≠ [] := by
  rintro rfl
  unfold opOf at h
  repeat' split at h
  all_goals first | (exfalso; rename_i h2; exact absurd h2 (by decide)) | cases h
theorem preOf_ne {w : List UInt8} {k : Int} (h : preOf w = some k) : w ≠ [] := by
  rintro rfl
  simp [preOf] at h
theorem atomOf_ne {w : List UInt8} {t : T} (h : atomOf w = some t) : w ≠ [] := by
  rintro rfl
  unfold atomOf at h
  rw [if_neg (by decide), if_neg (by decide), if_neg (by decide)] at h
  cases h
/-- The words' last one is empty, and it alone. -/
def Ends (l : List Tok) : Prop := ∃ l0 n, l = l0 ++ [([], n)] ∧ ∀ x ∈ l0, x.1 ≠ []
theorem Ends.tail {x : Tok} {l : List Tok} (h : Ends (x :: l)) (hx : x.1 ≠ []) : Ends l := by
  obtain ⟨l0, n, e, ha⟩ := h
  cases l0 with
  | nil => simp at e; exact absurd (by rw [e.1]) hx
  | cons y l0 =>
    simp at e
    exact ⟨l0, n, e.2, fun z hz => ha z (List.mem_cons_of_mem _ hz)⟩
theorem Ends.cons {l : List Tok} (h : Ends l) : ∃ x r, l = x :: r := by
  obtain ⟨l0, n, rfl, _⟩ := h
  cases l0 with
  | nil => exact ⟨_, _, rfl⟩
  | cons y l0 => exact ⟨_, _, rfl⟩
def Out.ends : Out → Prop
  | .ok _ l => Ends l
  | .err _ => True
theorem G_ends {m : Mode} {l : List Tok} {o : Out} (h : G m l o) : Ends l → o.ends := by
  induction h with
  | down_err => intro _; trivial
  | none _ _ _ _ ih => exact ih
  | op_err => intro _; trivial
  | op_ok _ _ _ ho _ ih ih2 => exact fun he => ih2 ((ih he).tail (opOf_ne ho))
  | left _ _ _ _ ih ih2 => exact fun he => ih2 (ih he)
  | stop => exact fun he => he
  | go_err => intro _; trivial
  | go _ ho _ _ ih ih2 => exact fun he => ih2 (ih (he.tail (opOf_ne ho)))
  | pre_err => intro _; trivial
  | pre hp _ ih => exact fun he => ih (he.tail (preOf_ne hp))
  | atom _ ha => exact fun he => he.tail (atomOf_ne ha)
  | par_err => intro _; trivial
  | par_not => intro _; trivial
  | par hx _ hy ih => exact fun he => (ih (he.tail (by rw [hx]; simp))).tail (by rw [hy]; simp)
  | bad => intro _; trivial
theorem sizeT_pos (t : T) : 1 ≤ sizeT t := by cases t; rw [sizeT]; omega
theorem size_two (k : Int) (a b : T) : sizeT (two k a b) = 1 + (sizeT a + sizeT b) := by
  unfold two
  rw [sizeT, sizeL, sizeL, sizeL]; omega
theorem size_one (k : Int) (a : T) : sizeT (one k a) = 1 + sizeT a := by
  unfold one
  rw [sizeT, sizeL, sizeL]; omega
theorem atom_size {w : List UInt8} {t : T} (h : atomOf w = some t) : sizeT t = 1 := by
  unfold atomOf at h
  repeat' split at h
  all_goals first | (cases h; rw [sizeT, sizeL]) | cases h
def Shrinks (l : List Tok) : Mode → Out → Prop
  | .lev _, .ok t l' => sizeT t + l'.length ≤ l.length
  | .loop _ u, .ok t l' => sizeT t + l'.length ≤ sizeT u + l.length
  | _, .err _ => True
theorem G_size {m : Mode} {l : List Tok} {o : Out} (h : G m l o) : Shrinks l m o := by
  induction h with
  | down_err => trivial
  | none _ _ _ _ ih => exact ih
  | op_err => trivial
  | op_ok _ _ _ _ _ ih ih2 => simp only [Shrinks, size_two, List.length_cons] at ih ih2 ⊢; omega
  | @left n l t l' o _ _ _ _ ih ih2 =>
    cases o with
    | err e => trivial
    | ok u l2 => simp only [Shrinks] at ih ih2 ⊢; omega
  | stop => exact Nat.le_refl _
  | go_err => trivial
  | @go n t u x l l' k o _ _ _ _ ih ih2 =>
    cases o with
    | err e => trivial
    | ok u l2 => simp only [Shrinks, size_two, List.length_cons] at ih ih2 ⊢; omega
  | pre_err => trivial
  | pre _ _ ih => simp only [Shrinks, size_one, List.length_cons] at ih ⊢; omega
  | atom _ ha => simp only [Shrinks, atom_size ha, List.length_cons]; omega
  | par_err => trivial
  | par_not => trivial
  | par _ _ _ ih => simp only [Shrinks, List.length_cons] at ih ⊢; omega
  | bad => trivial
theorem G_lev_size {n : Nat} {l l' : List Tok} {t : T} (h : G (.lev n) l (.ok t l')) : sizeT t + l'.length ≤ l.length := G_size h
/-- What is read may be. -/
theorem kid_op {n : Nat} {w : List UInt8} {k : Int} (h : opOf n w = some k) : 8 ≤ k ∧ k ≤ 14 := by
  unfold opOf at h
  repeat' split at h
  all_goals first | (cases h; omega) | cases h
theorem kid_pre {w : List UInt8} {k : Int} (h : preOf w = some k) : 4 ≤ k ∧ k ≤ 7 := by
  unfold preOf at h
  repeat' split at h
  all_goals first | (cases h; omega) | cases h
theorem may_two {k : Int} {a b : T} (hk : 8 ≤ k ∧ k ≤ 14) (ha : mayT a = true) (hb : mayT b = true) : mayT (two k a b) = true := by
  unfold two
  rw [mayT, mayL, mayL, mayL, ha, hb]
  unfold okNode kidsOf
  rw [if_neg (by omega), if_neg (by omega), if_pos (by omega), if_neg (by omega)]
  rfl
theorem may_one {k : Int} {a : T} (hk : 4 ≤ k ∧ k ≤ 7) (ha : mayT a = true) : mayT (one k a) = true := by
  unfold one
  rw [mayT, mayL, mayL, ha]
  unfold okNode kidsOf
  rw [if_neg (by omega), if_pos (by omega), if_neg (by omega)]
  rfl
theorem may_atom {w : List UInt8} {t : T} (h : atomOf w = some t) : mayT t = true := by
  unfold atomOf at h
  split at h
  · cases h; rfl
  split at h
  · cases h; rfl
  split at h
  · rename_i hn
    cases h
    rw [mayT, mayL]
    unfold okNode
    rw [if_pos rfl, hn]
    rfl
  · cases h
def Out.may : Out → Prop
  | .ok t _ => mayT t = true
  | .err _ => True
def Mode.may : Mode → Prop
  | .lev _ => True
  | .loop _ t => mayT t = true
theorem G_may {m : Mode} {l : List Tok} {o : Out} (h : G m l o) : m.may → o.may := by
  induction h with
  | down_err => intro _; trivial
  | none _ _ _ _ ih => exact ih
  | op_err => intro _; trivial
  | op_ok _ _ _ ho _ ih ih2 => exact fun _ => may_two (kid_op ho) (ih trivial) (ih2 trivial)
  | left _ _ _ _ ih ih2 => exact fun _ => ih2 (ih trivial)
  | stop => exact fun h => h
  | go_err => intro _; trivial
  | go _ ho _ _ ih ih2 => exact fun h => ih2 (may_two (kid_op ho) h (ih trivial))
  | pre_err => intro _; trivial
  | pre hp _ ih => exact fun _ => may_one (kid_pre hp) (ih trivial)
  | atom _ ha => exact fun _ => may_atom ha
  | par_err => intro _; trivial
  | par_not => intro _; trivial
  | par _ _ _ ih => exact ih
  | bad => intro _; trivial
inductive Res where
  | ok (t : T)
  | err (e : Int × Nat)
/-- What a text says, or where and why it is refused. -/
inductive PR (s : List UInt8) : Res → Prop where
  | long : 4096 < s.length → PR s (.err (2, 0))
  | token {p : Nat} : s.length ≤ 4096 → toks 0 s = .error p → PR s (.err (90, p))
  | gram {l : List Tok} {e : Int × Nat} : s.length ≤ 4096 → toks 0 s = .ok l → G (.lev 0) (l ++ [([], s.length)]) (.err e) → PR s (.err e)
  | more {l : List Tok} {t : T} {x : Tok} {l' : List Tok} : s.length ≤ 4096 → toks 0 s = .ok l → G (.lev 0) (l ++ [([], s.length)]) (.ok t (x :: l')) → x.1 ≠ [] → PR s (.err (92, x.2))
  | deep {l : List Tok} {t : T} {x : Tok} {l' : List Tok} : s.length ≤ 4096 → toks 0 s = .ok l → G (.lev 0) (l ++ [([], s.length)]) (.ok t (x :: l')) → x.1 = [] → 100 < depthT t → PR s (.err (93, 0))
  | ok {l : List Tok} {t : T} {x : Tok} {l' : List Tok} : s.length ≤ 4096 → toks 0 s = .ok l → G (.lev 0) (l ++ [([], s.length)]) (.ok t (x :: l')) → x.1 = [] → depthT t ≤ 100 → PR s (.ok t)
theorem PR_det {s : List UInt8} {r r' : Res} (h : PR s r) (h' : PR s r') : r = r' := by
  cases h with
  | long h1 => cases h' <;> first | rfl | omega
  | token h1 h2 =>
    cases h' with
    | long => omega
    | token _ g2 => rw [h2] at g2; cases g2; rfl
    | gram _ g2 _ => rw [h2] at g2; cases g2
    | more _ g2 _ _ => rw [h2] at g2; cases g2
    | deep _ g2 _ _ _ => rw [h2] at g2; cases g2
    | ok _ g2 _ _ _ => rw [h2] at g2; cases g2
  | gram h1 h2 h3 =>
    cases h' with
    | long => omega
    | token _ g2 => rw [h2] at g2; cases g2
    | gram _ g2 g3 => rw [h2] at g2; cases g2; have e := G_det h3 g3; cases e; rfl
    | more _ g2 g3 _ => rw [h2] at g2; cases g2; have e := G_det h3 g3; cases e
    | deep _ g2 g3 _ _ => rw [h2] at g2; cases g2; have e := G_det h3 g3; cases e
    | ok _ g2 g3 _ _ => rw [h2] at g2; cases g2; have e := G_det h3 g3; cases e
  | more h1 h2 h3 h4 =>
    cases h' with
    | long => omega
    | token _ g2 => rw [h2] at g2; cases g2
    | gram _ g2 g3 => rw [h2] at g2; cases g2; have e := G_det h3 g3; cases e
    | more _ g2 g3 _ => rw [h2] at g2; cases g2; have e := G_det h3 g3; cases e; rfl
    | deep _ g2 g3 g4 _ => rw [h2] at g2; cases g2; have e := G_det h3 g3; cases e; exact absurd g4 h4
    | ok _ g2 g3 g4 _ => rw [h2] at g2; cases g2; have e := G_det h3 g3; cases e; exact absurd g4 h4
  | deep h1 h2 h3 h4 h5 =>
    cases h' with
    | long => omega
    | token _ g2 => rw [h2] at g2; cases g2
    | gram _ g2 g3 => rw [h2] at g2; cases g2; have e := G_det h3 g3; cases e
    | more _ g2 g3 g4 => rw [h2] at g2; cases g2; have e := G_det h3 g3; cases e; exact absurd h4 g4
    | deep _ g2 g3 g4 _ => rfl
    | ok _ g2 g3 g4 g5 => rw [h2] at g2; cases g2; have e := G_det h3 g3; cases e; omega
  | ok h1 h2 h3 h4 h5 =>
    cases h' with
    | long => omega
    | token _ g2 => rw [h2] at g2; cases g2
    | gram _ g2 g3 => rw [h2] at g2; cases g2; have e := G_det h3 g3; cases e
    | more _ g2 g3 g4 => rw [h2] at g2; cases g2; have e := G_det h3 g3; cases e; exact absurd h4 g4
    | deep _ g2 g3 g4 g5 => rw [h2] at g2; cases g2; have e := G_det h3 g3; cases e; omega
    | ok _ g2 g3 g4 g5 => rw [h2] at g2; cases g2; have e := G_det h3 g3; cases e; rfl
theorem toksF_ne : ∀ (f p : Nat) (s : List UInt8) (l : List Tok), toksF f p s = .ok l → ∀ x ∈ l, x.1 ≠ []
  | f, p, [], l, h, x, hx => by
    have : toksF f p ([] : List UInt8) = .ok [] := by cases f <;> rfl
    rw [this] at h; cases h; cases hx
  | 0, _, _ :: _, l, h, x, hx => by cases h; cases hx
  | f + 1, p, c :: r, l, h, x, hx => by
    rw [toksF] at h
    split at h
    · exact toksF_ne f _ r l h x hx
    · split at h
      · cases h
      · rename_i hw
        generalize ht : toksF f (p + (firstL (c :: r)).length) ((c :: r).drop (firstL (c :: r)).length) = q at h
        cases q with
        | error e => cases h
        | ok l2 =>
          cases h
          rcases List.mem_cons.1 hx with rfl | hx
          · exact saidL_nil hw
          · exact toksF_ne f _ _ l2 ht x hx
theorem toks_ends {s : List UInt8} {l : List Tok} (h : toks 0 s = .ok l) (n : Nat) : Ends (l ++ [([], n)]) := ⟨l, n, rfl, toksF_ne _ _ _ _ h⟩
theorem toksF_count : ∀ (f p : Nat) (s : List UInt8) (l : List Tok), toksF f p s = .ok l → l.length ≤ s.length
  | f, p, [], l, h => by
    have : toksF f p ([] : List UInt8) = .ok [] := by cases f <;> rfl
    rw [this] at h; cases h; exact Nat.le_refl _
  | 0, _, _ :: _, l, h => by cases h; exact Nat.zero_le _
  | f + 1, p, c :: r, l, h => by
    rw [toksF] at h
    split at h
    · have := toksF_count f _ r l h
      rw [List.length_cons]; omega
    · split at h
      · cases h
      · rename_i hw
        generalize ht : toksF f (p + (firstL (c :: r)).length) ((c :: r).drop (firstL (c :: r)).length) = q at h
        have hl := List.length_pos_iff.2 hw
        cases q with
        | error e => cases h
        | ok l2 =>
          cases h
          have := toksF_count f _ _ l2 ht
          rw [List.length_drop] at this
          rw [List.length_cons] at this ⊢
          rw [List.length_cons]
          omega
end Go.Proofs.Ytkgfdgfhpdhhaaa
