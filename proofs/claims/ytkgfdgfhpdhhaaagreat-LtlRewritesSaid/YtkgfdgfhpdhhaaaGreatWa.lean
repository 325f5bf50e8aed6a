/- Plain formulas: what they are made, how great that is, and that it says the same. No condition. Plain formulas as trees. Condition: their names may be. ltl's small tests on plain formulas: truth, falsity, kin, opposite; one and two. Conditions: the formulas lie in the world. ltl's until: what a plain until is made. Conditions: the formula lies in the world. ltl's release: what a plain release is made. Conditions: the formula lies in the world. -/
import Derived.Test.YtkgfdgfhpdhhaaaGreatTree
import Derived.Test.YtkgfdgfhpdhhaaaGreatTi
import Derived.Deep.DeepCutAuto
import Derived.Deep.RegionHeld3
import Derived.Test.YtkgfdgfhpdhhaaaGreatFree
namespace Go.Proofs.YtkgfdgfhpdhhaaaGreat.PL

/-- A plain formula. -/
inductive F where
  | tt | ff
  | pr (n : List UInt8)
  | np (n : List UInt8)
  | nx (a : F)
  | an (a b : F)
  | or (a b : F)
  | un (a b : F)
  | re (a b : F)
def eqF : F → F → Bool
  | .tt, .tt => true
  | .ff, .ff => true
  | .pr n, .pr m => n == m
  | .np n, .np m => n == m
  | .nx a, .nx b => eqF a b
  | .an a b, .an c d => eqF a c && eqF b d
  | .or a b, .or c d => eqF a c && eqF b d
  | .un a b, .un c d => eqF a c && eqF b d
  | .re a b, .re c d => eqF a c && eqF b d
  | _, _ => false
theorem eqF_refl : ∀ a : F, eqF a a = true
  | .tt | .ff => rfl
  | .pr n | .np n => by simp [eqF]
  | .nx a => by simp [eqF, eqF_refl a]
  | .an a b | .or a b | .un a b | .re a b => by simp [eqF, eqF_refl a, eqF_refl b]
theorem eqF_eq : ∀ a b : F, eqF a b = true → a = b := by
  intro a
  induction a <;> intro b h <;> cases b <;> simp_all [eqF]
  all_goals first | (rename_i h1 h2 _ _; exact ⟨h1 _ h.1, h2 _ h.2⟩) | (rename_i h1 _; exact h1 _ h)
theorem eqF_iff (a b : F) : eqF a b = true ↔ a = b := ⟨eqF_eq a b, fun h => h ▸ eqF_refl a⟩
instance : DecidableEq F := fun a b => decidable_of_iff _ (eqF_iff a b)
def fgf : F → Bool
  | .re .ff (.un .tt _) => true
  | _ => false
def gfg : F → Bool
  | .un .tt (.re .ff _) => true
  | _ => false
def untilF (a : F) : F → F
  | .un x y => if a = .ff ∨ a = .un x y then .un x y else if a = .tt then (if x = .tt then .un x y else untilF a y) else .un a (.un x y)
  | b => if b = .tt ∨ b = .ff ∨ a = .ff ∨ a = b then b else if a = .tt ∧ fgf b = true then b else .un a b
def releaseF (a : F) : F → F
  | .re x y => if a = .tt ∨ a = .re x y then .re x y else if a = .ff then (if x = .ff then .re x y else releaseF a y) else .re a (.re x y)
  | b => if b = .tt ∨ b = .ff ∨ a = .tt ∨ a = b then b else if a = .ff ∧ gfg b = true then b else .re a b
def oppF : F → F → Bool
  | .np n, .pr m => n == m
  | .pr n, .np m => n == m
  | _, _ => false
def jn (c : Bool) (a b : F) : F := if c then .an a b else .or a b
def noF (c : Bool) : F := if c then .ff else .tt
def yesF (c : Bool) : F := if c then .tt else .ff
def baseF (c : Bool) (a b : F) : Option F :=
  if a = noF c ∨ b = yesF c then some a else if b = noF c ∨ a = yesF c then some b else if a = b then some a else if oppF a b = true then some (noF c) else none
def joinedF (c : Bool) : F → F → F
  | .nx x, .nx y => (baseF c (.nx x) (.nx y)).getD (.nx (joinedF c x y))
  | .re .ff x, .re .ff y => (baseF c (.re .ff x) (.re .ff y)).getD (if c then releaseF .ff (joinedF c x y) else jn c (.re .ff x) (.re .ff y))
  | .un .tt x, .un .tt y => (baseF c (.un .tt x) (.un .tt y)).getD (if c then jn c (.un .tt x) (.un .tt y) else untilF .tt (joinedF c x y))
  | a, b => (baseF c a b).getD (jn c a b)
def smallF : F → F
  | .nx a => if smallF a = .tt ∨ smallF a = .ff then smallF a else .nx (smallF a)
  | .an a b => joinedF true (smallF a) (smallF b)
  | .or a b => joinedF false (smallF a) (smallF b)
  | .un a b => untilF (smallF a) (smallF b)
  | .re a b => releaseF (smallF a) (smallF b)
  | t => t
def sizeF : F → Nat
  | .tt | .ff | .pr _ => 1
  | .np _ => 2
  | .nx a => sizeF a + 1
  | .an a b | .or a b | .un a b | .re a b => sizeF a + sizeF b + 1
def namesF : F → List (List UInt8)
  | .tt | .ff => []
  | .pr n | .np n => [n]
  | .nx a => namesF a
  | .an a b | .or a b | .un a b | .re a b => namesF a ++ namesF b
def nextF : F → Bool
  | .tt | .ff | .pr _ | .np _ => false
  | .nx _ => true
  | .an a b | .or a b | .un a b | .re a b => nextF a || nextF b
/-- No greater, no new name, no new next. -/
structure Le (r n : F) : Prop where
  size : sizeF r ≤ sizeF n
  names : ∀ x, x ∈ namesF r → x ∈ namesF n
  next : nextF r = true → nextF n = true
theorem Le.refl (a : F) : Le a a := ⟨Nat.le_refl _, fun _ h => h, fun h => h⟩
theorem Le.trans {a b c : F} (h : Le a b) (k : Le b c) : Le a c := ⟨Nat.le_trans h.size k.size, fun x hx => k.names x (h.names x hx), fun hx => k.next (h.next hx)⟩
theorem sizeF_pos (a : F) : 1 ≤ sizeF a := by cases a <;> simp [sizeF]
theorem Le.tt (a : F) : Le .tt a := ⟨sizeF_pos a, fun _ h => by simp [namesF] at h, fun h => by simp [nextF] at h⟩
theorem Le.ff (a : F) : Le .ff a := ⟨sizeF_pos a, fun _ h => by simp [namesF] at h, fun h => by simp [nextF] at h⟩
theorem Le.nx {a b : F} (h : Le a b) : Le (.nx a) (.nx b) := ⟨by simp [sizeF]; exact h.size, h.names, fun _ => rfl⟩
theorem Le.an {a b c d : F} (h : Le a b) (k : Le c d) : Le (.an a c) (.an b d) :=
  ⟨by have := h.size; have := k.size; simp [sizeF]; omega, fun x hx => by simp [namesF] at hx ⊢; exact hx.imp (h.names x) (k.names x), fun hx => by simp [nextF] at hx ⊢; exact hx.imp h.next k.next⟩
theorem Le.or {a b c d : F} (h : Le a b) (k : Le c d) : Le (.or a c) (.or b d) :=
  ⟨by have := h.size; have := k.size; simp [sizeF]; omega, fun x hx => by simp [namesF] at hx ⊢; exact hx.imp (h.names x) (k.names x), fun hx => by simp [nextF] at hx ⊢; exact hx.imp h.next k.next⟩
theorem Le.un {a b c d : F} (h : Le a b) (k : Le c d) : Le (.un a c) (.un b d) :=
  ⟨by have := h.size; have := k.size; simp [sizeF]; omega, fun x hx => by simp [namesF] at hx ⊢; exact hx.imp (h.names x) (k.names x), fun hx => by simp [nextF] at hx ⊢; exact hx.imp h.next k.next⟩
theorem Le.re {a b c d : F} (h : Le a b) (k : Le c d) : Le (.re a c) (.re b d) :=
  ⟨by have := h.size; have := k.size; simp [sizeF]; omega, fun x hx => by simp [namesF] at hx ⊢; exact hx.imp (h.names x) (k.names x), fun hx => by simp [nextF] at hx ⊢; exact hx.imp h.next k.next⟩
theorem Le.jn (c : Bool) {a b d e : F} (h : Le a b) (k : Le d e) : Le (jn c a d) (jn c b e) := by
  cases c
  · exact h.or k
  · exact h.an k
theorem Le.left (c : Bool) (a b : F) : Le a (PL.jn c a b) := by
  cases c <;> exact ⟨by simp [PL.jn, sizeF]; omega, fun x hx => by simp [PL.jn, namesF]; exact .inl hx, fun hx => by simp [PL.jn, nextF]; exact .inl hx⟩
theorem Le.right (c : Bool) (a b : F) : Le b (PL.jn c a b) := by
  cases c <;> exact ⟨by simp [PL.jn, sizeF]; omega, fun x hx => by simp [PL.jn, namesF]; exact .inr hx, fun hx => by simp [PL.jn, nextF]; exact .inr hx⟩
theorem Le.unR (a b : F) : Le b (.un a b) := ⟨by simp [sizeF]; omega, fun x hx => by simp [namesF]; exact .inr hx, fun hx => by simp [nextF]; exact .inr hx⟩
theorem Le.reR (a b : F) : Le b (.re a b) := ⟨by simp [sizeF]; omega, fun x hx => by simp [namesF]; exact .inr hx, fun hx => by simp [nextF]; exact .inr hx⟩
theorem Le.nxR (a : F) : Le a (.nx a) := ⟨by simp [sizeF], fun x hx => hx, fun _ => rfl⟩
theorem untilF_le (a : F) : ∀ b, Le (untilF a b) (.un a b) := by
  intro b
  induction b with
  | un x y _ ih =>
    rw [untilF]
    split
    · exact .unR _ _
    · split
      · split
        · exact .unR _ _
        · exact ih.trans ((Le.refl a).un (.unR x y))
      · exact .refl _
  | _ =>
    rw [untilF]
    · split
      · exact .unR _ _
      · split
        · exact .unR _ _
        · exact .refl _
    · intro _ _ h; cases h
theorem releaseF_le (a : F) : ∀ b, Le (releaseF a b) (.re a b) := by
  intro b
  induction b with
  | re x y _ ih =>
    rw [releaseF]
    split
    · exact .reR _ _
    · split
      · split
        · exact .reR _ _
        · exact ih.trans ((Le.refl a).re (.reR x y))
      · exact .refl _
  | _ =>
    rw [releaseF]
    · split
      · exact .reR _ _
      · split
        · exact .reR _ _
        · exact .refl _
    · intro _ _ h; cases h
theorem baseF_le {c : Bool} {a b r : F} (h : baseF c a b = some r) : Le r (jn c a b) := by
  unfold baseF at h
  split at h
  · cases h; exact .left c _ _
  · split at h
    · cases h; exact .right c _ _
    · split at h
      · cases h; exact .left c _ _
      · split at h
        · cases h; cases c
          · exact .tt _
          · exact .ff _
        · cases h
theorem getD_le {c : Bool} {a b r : F} (h : Le r (jn c a b)) : Le ((baseF c a b).getD r) (jn c a b) := by
  cases hb : baseF c a b with
  | none => exact h
  | some x => exact baseF_le hb
theorem joinedF_le (c : Bool) : ∀ a b, Le (joinedF c a b) (jn c a b) := by
  intro a b
  induction a, b using joinedF.induct with
  | case1 x y ih =>
    rw [joinedF]
    refine getD_le (ih.nx.trans ?_)
    cases c <;> exact ⟨by simp [jn, sizeF]; omega, fun x hx => by simpa [jn, namesF] using hx, fun _ => rfl⟩
  | case2 x y ih =>
    rw [joinedF]
    refine getD_le ?_
    cases c
    · exact .refl _
    · exact (releaseF_le _ _).trans (((Le.refl _).re ih).trans ⟨by simp [jn, sizeF]; omega, fun x hx => by simpa [jn, namesF] using hx, fun hx => by simpa [jn, nextF] using hx⟩)
  | case3 x y ih =>
    rw [joinedF]
    refine getD_le ?_
    cases c
    · exact (untilF_le _ _).trans (((Le.refl _).un ih).trans ⟨by simp [jn, sizeF]; omega, fun x hx => by simpa [jn, namesF] using hx, fun hx => by simpa [jn, nextF] using hx⟩)
    · exact .refl _
  | case4 a b h1 h2 h3 =>
    rw [joinedF]
    · exact getD_le (.refl _)
    · exact h1
    · exact h2
    · exact h3
theorem smallF_le : ∀ t, Le (smallF t) t := by
  intro t
  induction t with
  | nx a ih =>
    rw [smallF]
    split
    · exact ih.trans (.nxR _)
    · exact ih.nx
  | an a b iha ihb => exact (joinedF_le true _ _).trans (iha.an ihb)
  | or a b iha ihb => exact (joinedF_le false _ _).trans (iha.or ihb)
  | un a b iha ihb => exact (untilF_le _ _).trans (iha.un ihb)
  | re a b iha ihb => exact (releaseF_le _ _).trans (iha.re ihb)
  | _ => exact .refl _

/-- What a plain formula says at a place, names standing for what holds there. -/
def semF (σ : Nat → List UInt8 → Prop) : F → Nat → Prop
  | .tt, _ => True
  | .ff, _ => False
  | .pr n, i => σ i n
  | .np n, i => ¬ σ i n
  | .nx a, i => semF σ a (i + 1)
  | .an a b, i => semF σ a i ∧ semF σ b i
  | .or a b, i => semF σ a i ∨ semF σ b i
  | .un a b, i => ∃ d, semF σ b (i + d) ∧ ∀ j, j < d → semF σ a (i + j)
  | .re a b, i => ∀ d, semF σ b (i + d) ∨ ∃ j, j < d ∧ semF σ a (i + j)
section
variable {σ : Nat → List UInt8 → Prop}
def Eqv (σ : Nat → List UInt8 → Prop) (a b : F) : Prop := ∀ i, semF σ a i ↔ semF σ b i
theorem Eqv.refl (a : F) : Eqv σ a a := fun _ => Iff.rfl
theorem Eqv.symm {a b : F} (h : Eqv σ a b) : Eqv σ b a := fun i => (h i).symm
theorem Eqv.trans {a b c : F} (h : Eqv σ a b) (k : Eqv σ b c) : Eqv σ a c := fun i => (h i).trans (k i)
theorem Eqv.nx {a b : F} (h : Eqv σ a b) : Eqv σ (.nx a) (.nx b) := fun i => h (i + 1)
theorem Eqv.an {a b c d : F} (h : Eqv σ a b) (k : Eqv σ c d) : Eqv σ (.an a c) (.an b d) := fun i => and_congr (h i) (k i)
theorem Eqv.or {a b c d : F} (h : Eqv σ a b) (k : Eqv σ c d) : Eqv σ (.or a c) (.or b d) := fun i => or_congr (h i) (k i)
theorem Eqv.jn (c : Bool) {a b d e : F} (h : Eqv σ a b) (k : Eqv σ d e) : Eqv σ (jn c a d) (jn c b e) := by
  cases c
  · exact h.or k
  · exact h.an k
theorem Eqv.un {a b c d : F} (h : Eqv σ a b) (k : Eqv σ c d) : Eqv σ (.un a c) (.un b d) := fun i => by
  simp only [semF]
  exact ⟨fun ⟨n, x, y⟩ => ⟨n, (k _).1 x, fun j hj => (h _).1 (y j hj)⟩, fun ⟨n, x, y⟩ => ⟨n, (k _).2 x, fun j hj => (h _).2 (y j hj)⟩⟩
theorem Eqv.re {a b c d : F} (h : Eqv σ a b) (k : Eqv σ c d) : Eqv σ (.re a c) (.re b d) := fun i => by
  simp only [semF]
  exact ⟨fun H n => (H n).imp (k _).1 (fun ⟨j, x, y⟩ => ⟨j, x, (h _).1 y⟩), fun H n => (H n).imp (k _).2 (fun ⟨j, x, y⟩ => ⟨j, x, (h _).2 y⟩)⟩
theorem un_now {a b : F} {i : Nat} (h : semF σ b i) : semF σ (.un a b) i := by
  rw [semF]; exact ⟨0, h, fun j hj => absurd hj (Nat.not_lt_zero j)⟩
theorem re_now {a b : F} {i : Nat} (h : semF σ (.re a b) i) : semF σ b i := by
  rw [semF] at h
  exact (h 0).elim (fun x => x) (fun ⟨j, hj, _⟩ => absurd hj (Nat.not_lt_zero j))
theorem un_tt {b : F} {i : Nat} : semF σ (.un .tt b) i ↔ ∃ d, semF σ b (i + d) := by
  simp [semF]
theorem re_ff {b : F} {i : Nat} : semF σ (.re .ff b) i ↔ ∀ d, semF σ b (i + d) := by
  simp [semF]
theorem un_const {a b : F} (h : ∀ i j, semF σ b i ↔ semF σ b j) : Eqv σ (.un a b) b := fun i => by
  refine ⟨fun H => ?_, un_now⟩
  rw [semF] at H
  obtain ⟨d, x, _⟩ := H
  exact (h _ _).1 x
theorem re_const {a b : F} (h : ∀ i j, semF σ b i ↔ semF σ b j) : Eqv σ (.re a b) b := fun i => by
  refine ⟨re_now, fun H => ?_⟩
  rw [semF]
  exact fun d => .inl ((h _ _).1 H)
theorem un_ff (b : F) : Eqv σ (.un .ff b) b := fun i => by
  refine ⟨fun H => ?_, un_now⟩
  rw [semF] at H
  obtain ⟨d, x, y⟩ := H
  cases d with
  | zero => exact x
  | succ d => exact (y 0 (by omega)).elim
theorem re_tt (b : F) : Eqv σ (.re .tt b) b := fun i => by
  refine ⟨re_now, fun H => ?_⟩
  rw [semF]
  intro d
  cases d with
  | zero => exact .inl H
  | succ d => exact .inr ⟨0, by omega, trivial⟩
theorem un_self (b : F) : Eqv σ (.un b b) b := fun i => by
  refine ⟨fun H => ?_, un_now⟩
  rw [semF] at H
  obtain ⟨d, x, y⟩ := H
  cases d with
  | zero => exact x
  | succ d => exact y 0 (by omega)
theorem re_self (b : F) : Eqv σ (.re b b) b := fun i => by
  refine ⟨re_now, fun H => ?_⟩
  rw [semF]
  intro d
  cases d with
  | zero => exact .inl H
  | succ d => exact .inr ⟨0, by omega, H⟩
theorem ev_un (x y : F) : Eqv σ (.un .tt (.un x y)) (.un .tt y) := fun i => by
  rw [un_tt, un_tt]
  constructor
  · rintro ⟨d, h⟩
    rw [semF] at h
    obtain ⟨e, h, _⟩ := h
    exact ⟨d + e, by rwa [← Nat.add_assoc]⟩
  · rintro ⟨d, h⟩
    exact ⟨d, un_now h⟩
theorem al_re (x y : F) : Eqv σ (.re .ff (.re x y)) (.re .ff y) := fun i => by
  rw [re_ff, re_ff]
  constructor
  · exact fun h d => re_now (h d)
  · intro h d
    rw [semF]
    exact fun e => .inl (by rw [Nat.add_assoc]; exact h _)
theorem ev_fgf {b : F} (h : fgf b = true) : Eqv σ (.un .tt b) b := fun i => by
  unfold fgf at h
  split at h
  · rename_i x
    rw [un_tt]
    constructor
    · rintro ⟨d, h⟩
      rw [re_ff] at h ⊢
      intro e
      have h := h e
      rw [un_tt] at h ⊢
      obtain ⟨f, h⟩ := h
      exact ⟨d + f, by rwa [show i + e + (d + f) = i + d + e + f by omega]⟩
    · exact fun h => ⟨0, h⟩
  · cases h
theorem al_gfg {b : F} (h : gfg b = true) : Eqv σ (.re .ff b) b := fun i => by
  unfold gfg at h
  split at h
  · rename_i x
    rw [re_ff]
    constructor
    · exact fun h => h 0
    · intro h d
      rw [un_tt] at h ⊢
      obtain ⟨e, h⟩ := h
      rw [re_ff] at h
      refine ⟨e, ?_⟩
      rw [re_ff]
      intro f
      have := h (d + f)
      rwa [show i + e + (d + f) = i + d + e + f by omega] at this
  · cases h
theorem untilF_sem (a : F) : ∀ b, Eqv σ (untilF a b) (.un a b) := by
  intro b
  induction b with
  | un x y _ ih =>
    rw [untilF]
    split
    · rename_i h
      rcases h with rfl | rfl
      · exact (un_ff _).symm
      · exact (un_self _).symm
    · split
      · rename_i h; subst h
        split
        · rename_i h; subst h
          exact ((ev_un _ _).trans (Eqv.refl _)).symm
        · exact ih.trans (ev_un x y).symm
      · exact .refl _
  | _ =>
    rw [untilF]
    · split
      · rename_i h
        rcases h with h | h | h | h
        · first | (rw [h]; exact (un_const fun i j => Iff.rfl).symm) | cases h
        · first | (rw [h]; exact (un_const fun i j => Iff.rfl).symm) | cases h
        · rw [h]; exact (un_ff _).symm
        · rw [h]; exact (un_self _).symm
      · split
        · rename_i h
          rw [h.1]
          exact (ev_fgf h.2).symm
        · exact .refl _
    · intro _ _ h; cases h
theorem releaseF_sem (a : F) : ∀ b, Eqv σ (releaseF a b) (.re a b) := by
  intro b
  induction b with
  | re x y _ ih =>
    rw [releaseF]
    split
    · rename_i h
      rcases h with rfl | rfl
      · exact (re_tt _).symm
      · exact (re_self _).symm
    · split
      · rename_i h; subst h
        split
        · rename_i h; subst h
          exact (al_re _ _).symm
        · exact ih.trans (al_re x y).symm
      · exact .refl _
  | _ =>
    rw [releaseF]
    · split
      · rename_i h
        rcases h with h | h | h | h
        · first | (rw [h]; exact (re_const fun i j => Iff.rfl).symm) | cases h
        · first | (rw [h]; exact (re_const fun i j => Iff.rfl).symm) | cases h
        · rw [h]; exact (re_tt _).symm
        · rw [h]; exact (re_self _).symm
      · split
        · rename_i h
          rw [h.1]
          exact (al_gfg h.2).symm
        · exact .refl _
    · intro _ _ h; cases h
theorem noF_sem (c : Bool) (x : F) (y : F) : (Eqv σ (jn c (noF c) x) (noF c)) ∧ (Eqv σ (jn c x (noF c)) (noF c)) ∧ (Eqv σ (jn c (yesF c) y) y) ∧ (Eqv σ (jn c y (yesF c)) y) := by
  cases c <;> simp [Eqv, jn, noF, yesF, semF]
theorem opp_sem {a b : F} (h : oppF a b = true) (i : Nat) : semF σ a i ↔ ¬ semF σ b i := by
  unfold oppF at h
  split at h
  · simp at h; subst h; rw [semF, semF]
  · simp at h; subst h; rw [semF, semF]; exact ⟨fun h k => k h, fun h => Classical.not_not.1 h⟩
  · cases h
theorem baseF_sem {c : Bool} {a b r : F} (h : baseF c a b = some r) : Eqv σ r (jn c a b) := by
  unfold baseF at h
  split at h
  · rename_i h1
    cases h
    rcases h1 with rfl | rfl
    · exact (noF_sem c b b).1.symm
    · exact (noF_sem c a a).2.2.2.symm
  · split at h
    · rename_i h1
      cases h
      rcases h1 with rfl | rfl
      · exact (noF_sem c a a).2.1.symm
      · exact (noF_sem c b b).2.2.1.symm
    · split at h
      · rename_i h1
        cases h; subst h1
        cases c <;> intro i <;> simp [jn, semF]
      · split at h
        · rename_i h1
          cases h
          intro i
          have := opp_sem (σ := σ) h1 i
          cases c
          · simp only [noF, jn, semF, Bool.false_eq_true, if_false, true_iff]
            rw [this]; exact (Classical.em _).symm
          · simp only [noF, jn, semF, if_true, false_iff]
            rw [this]; exact fun h => h.1 h.2
        · cases h
theorem getD_sem {c : Bool} {a b r : F} (h : Eqv σ r (jn c a b)) : Eqv σ ((baseF c a b).getD r) (jn c a b) := by
  cases hb : baseF c a b with
  | none => exact h
  | some x => exact baseF_sem hb
theorem joinedF_sem (c : Bool) : ∀ a b, Eqv σ (joinedF c a b) (jn c a b) := by
  intro a b
  induction a, b using joinedF.induct with
  | case1 x y ih =>
    rw [joinedF]
    refine getD_sem (ih.nx.trans ?_)
    cases c <;> exact fun i => Iff.rfl
  | case2 x y ih =>
    rw [joinedF]
    refine getD_sem ?_
    cases c
    · exact .refl _
    · refine (releaseF_sem _ _).trans (((Eqv.refl _).re ih).trans (fun i => ?_))
      simp only [jn, if_true]
      rw [re_ff, semF, re_ff, re_ff]
      simp only [semF]
      exact ⟨fun h => ⟨fun d => (h d).1, fun d => (h d).2⟩, fun h d => ⟨h.1 d, h.2 d⟩⟩
  | case3 x y ih =>
    rw [joinedF]
    refine getD_sem ?_
    cases c
    · refine (untilF_sem _ _).trans (((Eqv.refl _).un ih).trans (fun i => ?_))
      simp only [jn, Bool.false_eq_true, if_false]
      rw [un_tt, semF, un_tt, un_tt]
      simp only [semF]
      exact ⟨fun ⟨d, h⟩ => h.imp (fun h => ⟨d, h⟩) (fun h => ⟨d, h⟩), fun h => h.elim (fun ⟨d, h⟩ => ⟨d, .inl h⟩) (fun ⟨d, h⟩ => ⟨d, .inr h⟩)⟩
    · exact .refl _
  | case4 a b h1 h2 h3 =>
    rw [joinedF]
    · exact getD_sem (.refl _)
    · exact h1
    · exact h2
    · exact h3
/-- What a formula is made is the same for every word. -/
theorem smallF_sem : ∀ t, Eqv σ (smallF t) t := by
  intro t
  induction t with
  | nx a ih =>
    rw [smallF]
    split
    · rename_i h
      intro i
      have := ih (i + 1)
      rw [semF, ← this]
      rcases h with h | h <;> rw [h] <;> rfl
    · exact ih.nx
  | an a b iha ihb => exact (joinedF_sem true _ _).trans (iha.an ihb)
  | or a b iha ihb => exact (joinedF_sem false _ _).trans (iha.or ihb)
  | un a b iha ihb => exact (untilF_sem _ _).trans (iha.un ihb)
  | re a b iha ihb => exact (releaseF_sem _ _).trans (iha.re ihb)
  | _ => exact .refl _
end
end Go.Proofs.YtkgfdgfhpdhhaaaGreat.PL
namespace Go.Proofs.YtkgfdgfhpdhhaaaGreat
open PL (F)

def tF : F → T
  | .tt => .node 1 [] []
  | .ff => .node 2 [] []
  | .pr n => .node 3 n []
  | .np n => .node 4 [] [.node 3 n []]
  | .nx a => .node 5 [] [tF a]
  | .an a b => .node 8 [] [tF a, tF b]
  | .or a b => .node 9 [] [tF a, tF b]
  | .un a b => .node 12 [] [tF a, tF b]
  | .re a b => .node 13 [] [tF a, tF b]
theorem tF_inj : ∀ a b : F, tF a = tF b → a = b := by
  intro a
  induction a with
  | tt => intro b h; cases b <;> simp_all [tF]
  | ff => intro b h; cases b <;> simp_all [tF]
  | pr n => intro b h; cases b <;> simp_all [tF]
  | np n => intro b h; cases b <;> simp_all [tF]
  | nx a ih =>
    intro b h
    cases b <;> simp [tF] at h
    rw [ih _ h]
  | an a b iha ihb =>
    intro c h
    cases c <;> simp [tF] at h
    rw [iha _ h.1, ihb _ h.2]
  | or a b iha ihb =>
    intro c h
    cases c <;> simp [tF] at h
    rw [iha _ h.1, ihb _ h.2]
  | un a b iha ihb =>
    intro c h
    cases c <;> simp [tF] at h
    rw [iha _ h.1, ihb _ h.2]
  | re a b iha ihb =>
    intro c h
    cases c <;> simp [tF] at h
    rw [iha _ h.1, ihb _ h.2]
theorem sameT_tF (a b : F) : sameT (tF a) (tF b) = decide (a = b) := by
  by_cases h : a = b
  · rw [h, sameT_refl]; simp
  · rw [decide_eq_false h, Bool.eq_false_iff]
    intro e
    exact h (tF_inj _ _ ((sameT_iff _ _).1 e))
/-- Its names may be. -/
def okF (f : F) : Prop := ∀ n, n ∈ PL.namesF f → nameB n = true
theorem okF.an {a b : F} : okF (.an a b) ↔ okF a ∧ okF b := by
  unfold okF; simp only [PL.namesF, List.mem_append]
  exact ⟨fun h => ⟨fun n hn => h n (.inl hn), fun n hn => h n (.inr hn)⟩, fun h n hn => hn.elim (h.1 n) (h.2 n)⟩
theorem okF.or {a b : F} : okF (.or a b) ↔ okF a ∧ okF b := okF.an (a := a) (b := b)
theorem okF.un {a b : F} : okF (.un a b) ↔ okF a ∧ okF b := okF.an (a := a) (b := b)
theorem okF.re {a b : F} : okF (.re a b) ↔ okF a ∧ okF b := okF.an (a := a) (b := b)
theorem okF.nx {a : F} : okF (.nx a) ↔ okF a := Iff.rfl
theorem tF_PN : ∀ f : F, okF f → PN (tF f) := by
  intro f
  induction f with
  | tt => intro _; exact .leaf (.inl rfl)
  | ff => intro _; exact .leaf (.inr rfl)
  | pr n => intro h; exact .name (h n (by simp [PL.namesF]))
  | np n => intro h; exact .noName (h n (by simp [PL.namesF]))
  | nx a ih => intro h; exact (ih (okF.nx.1 h)).next
  | an a b iha ihb => intro h; exact .two (by omega) (iha (okF.an.1 h).1) (ihb (okF.an.1 h).2)
  | or a b iha ihb => intro h; exact .two (by omega) (iha (okF.or.1 h).1) (ihb (okF.or.1 h).2)
  | un a b iha ihb => intro h; exact .two (by omega) (iha (okF.un.1 h).1) (ihb (okF.un.1 h).2)
  | re a b iha ihb => intro h; exact .two (by omega) (iha (okF.re.1 h).1) (ihb (okF.re.1 h).2)
def flipF (c : Bool) (a b : F) : F := PL.jn c a b
/-- A formula's normal form, as a plain formula. -/
theorem nf_tF : ∀ t : T, mayT t = true → ∀ no, ∃ f, nfT t no = tF f ∧ okF f := by
  have leaf : ∀ k : Int, k = 1 ∨ k = 2 → ∃ f, T.node k [] [] = tF f ∧ okF f := by
    rintro k (rfl | rfl)
    · exact ⟨.tt, rfl, fun n hn => by simp [PL.namesF] at hn⟩
    · exact ⟨.ff, rfl, fun n hn => by simp [PL.namesF] at hn⟩
  have two : ∀ (k : Int) (a b : T), (k = 8 ∨ k = 9 ∨ k = 12 ∨ k = 13) → (∃ f, a = tF f ∧ okF f) → (∃ f, b = tF f ∧ okF f) → ∃ f, T.node k [] [a, b] = tF f ∧ okF f := by
    rintro k _ _ hk ⟨f, rfl, hf⟩ ⟨g, rfl, hg⟩
    rcases hk with rfl | rfl | rfl | rfl
    · exact ⟨.an f g, rfl, okF.an.2 ⟨hf, hg⟩⟩
    · exact ⟨.or f g, rfl, okF.or.2 ⟨hf, hg⟩⟩
    · exact ⟨.un f g, rfl, okF.un.2 ⟨hf, hg⟩⟩
    · exact ⟨.re f g, rfl, okF.re.2 ⟨hf, hg⟩⟩
  refine kid_induct ?_
  intro t ih h no
  rw [nfT_eq]
  rcases may_shape h with ⟨hk, hn, hl⟩ | ⟨hk, hn, hl⟩ | ⟨hk, hn, a, hl, ha⟩ | ⟨hk, hn, a, b, hl, ha, hb⟩
  · rw [if_pos hk]
    rcases hk with e | e
    · rw [e]; exact leaf _ (flip_1 no)
    · rw [e]; exact leaf _ (flip_2 no)
  · rw [if_neg (by omega), if_pos hk]
    cases no
    · exact ⟨.pr t.name, rfl, fun n h => by simp [PL.namesF] at h; rw [h]; exact hn⟩
    · exact ⟨.np t.name, rfl, fun n h => by simp [PL.namesF] at h; rw [h]; exact hn⟩
  · rw [if_neg (by omega), if_neg (by omega), hl, nfL_one]
    have fa := ih a (by rw [hl]; simp) ha
    have hk' : t.kind = 4 ∨ t.kind = 5 ∨ t.kind = 6 ∨ t.kind = 7 := by omega
    rcases hk' with e | e | e | e
    · rw [e]; exact fa _
    · rw [e]
      obtain ⟨f, h1, h2⟩ := fa no
      exact ⟨.nx f, by show T.node 5 [] [nfT a no] = _; rw [h1]; rfl, okF.nx.2 h2⟩
    · rw [e]; exact two _ _ _ (flip_two (by omega) no) (leaf _ (flip_2 no)) (fa _)
    · rw [e]; exact two _ _ _ (flip_two (by omega) no) (leaf _ (flip_1 no)) (fa _)
  · rw [if_neg (by omega), if_neg (by omega), hl, nfL_two]
    have fa := ih a (by rw [hl]; simp) ha
    have fb := ih b (by rw [hl]; simp) hb
    have hk' : t.kind = 8 ∨ t.kind = 9 ∨ t.kind = 10 ∨ t.kind = 11 ∨ t.kind = 12 ∨ t.kind = 13 ∨ t.kind = 14 := by omega
    rcases hk' with e | e | e | e | e | e | e
    · rw [e]; exact two _ _ _ (flip_two (by omega) no) (fa _) (fb _)
    · rw [e]; exact two _ _ _ (flip_two (by omega) no) (fa _) (fb _)
    · rw [e]; exact two _ _ _ (flip_two (by omega) no) (fa _) (fb _)
    · rw [e]; exact two _ _ _ (by omega) (two _ _ _ (by omega) (fa _) (fb _)) (two _ _ _ (by omega) (fa _) (fb _))
    · rw [e]; exact two _ _ _ (flip_two (by omega) no) (fa _) (fb _)
    · rw [e]; exact two _ _ _ (flip_two (by omega) no) (fa _) (fb _)
    · rw [e]; exact two _ _ _ (flip_two (by omega) no) (fb _) (two _ _ _ (flip_two (by omega) no) (fa _) (fb _))
theorem tF_size (f : F) : sizeT (tF f) = PL.sizeF f := by
  induction f with
  | tt | ff | pr _ | np _ => simp [tF, sizeT, sizeL, PL.sizeF]
  | nx a ih => simp [tF, sizeT, sizeL, PL.sizeF, ih]; omega
  | an a b iha ihb | or a b iha ihb | un a b iha ihb | re a b iha ihb => simp [tF, sizeT, sizeL, PL.sizeF, iha, ihb]; omega
end Go.Proofs.YtkgfdgfhpdhhaaaGreat
namespace Go.Proofs.YtkgfdgfhpdhhaaaGreat
open Go.ChangeShapes Go.WideShapes Go.RowKit
open PL (F)

theorem truth_any {t : T} {v : Value} {w : World} (h : TI w t v) : Calls Tryz.prog 86 #[v] w fun e w' => e = .returned (.bool (t.kind == 1)) ∧ Chg Nob w w' := by
  obtain ⟨ao, cap, rfl⟩ := h.agg
  have hc : Chg Nob w (w.alloc (.cells #[.int .i64 t.kind, .string ⟨t.name.toArray⟩, .slice ao t.kids.length cap] 24)) := (Chg.refl _ _).alloc _
  clear h
  go_enter Tryz.func86, Tryz.ntmps86
  go_wp2
  go_ret
  exact ⟨rfl, hc⟩
theorem falsity_any {t : T} {v : Value} {w : World} (h : TI w t v) : Calls Tryz.prog 87 #[v] w fun e w' => e = .returned (.bool (t.kind == 2)) ∧ Chg Nob w w' := by
  obtain ⟨ao, cap, rfl⟩ := h.agg
  have hc : Chg Nob w (w.alloc (.cells #[.int .i64 t.kind, .string ⟨t.name.toArray⟩, .slice ao t.kids.length cap] 24)) := (Chg.refl _ _).alloc _
  clear h
  go_enter Tryz.func87, Tryz.ntmps87
  go_wp2
  go_ret
  exact ⟨rfl, hc⟩
/-- A kid: where it lies. -/
theorem TI.kid {w : World} {t x : T} {ao : Option Addr} {cap j : Nat} {a b : Value} (h : TI w t (.agg #[a, b, .slice ao t.kids.length cap])) (hx : t.kids[j]? = some x) :
    ∃ bk o sx cx, ao = some ⟨bk, o, none⟩ ∧ w.cell? ⟨bk, o + j * 3, none⟩ = some (.int .i64 x.kind) ∧ w.cell? ⟨bk, o + j * 3 + 1, none⟩ = some (.string ⟨x.name.toArray⟩) ∧ w.cell? ⟨bk, o + j * 3 + 2, none⟩ = some (.slice sx x.kids.length cx) ∧
      TI w x (.agg #[.int .i64 x.kind, .string ⟨x.name.toArray⟩, .slice sx x.kids.length cx]) := by
  obtain ⟨ao', cap', e, _, hk⟩ := h.parts
  simp at e
  obtain ⟨-, -, rfl, rfl⟩ := e
  obtain ⟨bk, o, ak, cx, h1, _, h2, h3, h4, _, _, h5⟩ := hk.kid hx
  exact ⟨bk, o, ak, cx, h1, h2, h3, h4, h5⟩
def kinB (t : T) (k c : Int) : Bool := (t.kind == k) && (headK t.kids == c)
set_option maxRecDepth 100000 in
set_option maxHeartbeats 1000000 in
theorem kin_any {t : T} {v : Value} {w : World} {k c : Int} {g : Nat} (hg : (g = 86 ∧ c = 1) ∨ (g = 87 ∧ c = 2)) (h : TI w t v) (hk : t.kind = k → t.kids ≠ []) :
    Calls Tryz.prog 141 #[v, .int .i64 k, .func (.func g) #[] #[]] w fun e w' => e = .returned (.bool (kinB t k c)) ∧ Chg Nob w w' := by
  obtain ⟨ao, cap, rfl⟩ := h.agg
  have hc : Chg Nob w (w.alloc (.cells #[.int .i64 t.kind, .string ⟨t.name.toArray⟩, .slice ao t.kids.length cap] 24)) := (Chg.refl _ _).alloc _
  cases hkk : (t.kind == k) with
  | false =>
    have Hr : Hid (kinB t k c = false) := (show kinB t k c = false by unfold kinB; rw [hkk]; rfl)
    clear h hk
    go_enter Tryz.func141, Tryz.ntmps141
    go_wp2
    go_ret
    exact ⟨by rw [Hr.out]; rfl, hc⟩
  | true =>
    have hne := hk (by simpa using hkk)
    obtain ⟨x, l, hl⟩ : ∃ x l, t.kids = x :: l := by
      cases hq : t.kids with
      | nil => exact absurd hq hne
      | cons x l => exact ⟨x, l, rfl⟩
    have Hr : Hid (kinB t k c = (x.kind == c)) := (show kinB t k c = (x.kind == c) by unfold kinB; rw [hkk, hl]; rfl)
    obtain ⟨bk, o, sx, cx, rfl, c0, c1, c2, hx⟩ := h.kid (j := 0) (x := x) (by rw [hl]; rfl)
    have d0 := hc.cell' c0 (fun e => e)
    have d1 := hc.cell' c1 (fun e => e)
    have d2 := hc.cell' c2 (fun e => e)
    have hx' := hx.nob hc
    have hlen : (0 : Int) < (t.kids.length : Int) := by rw [hl]; simp
    have hp1 := truth_any hx'
    have hp2 := falsity_any hx'
    have Hc := Lib.hid hc
    clear h hk hne hl c0 c1 c2 hx hx' hc
    rw [Nat.zero_mul, Nat.add_zero] at d0 d1 d2
    rcases hg with ⟨rfl, rfl⟩ | ⟨rfl, rfl⟩
    · clear hp2
      go_enter Tryz.func141, Tryz.ntmps141
      go_wp2_with fail
      (with_reducible refine hp1.mono ?_)
      clear hp1
      rintro e w' ⟨rfl, hc'⟩
      go_wp2
      go_ret
      exact ⟨by rw [Hr.out]; rfl, Hc.out.trans1 hc'⟩
    · clear hp1
      go_enter Tryz.func141, Tryz.ntmps141
      go_wp2_with fail
      (with_reducible refine hp2.mono ?_)
      clear hp2
      rintro e w' ⟨rfl, hc'⟩
      go_wp2
      go_ret
      exact ⟨by rw [Hr.out]; rfl, Hc.out.trans1 hc'⟩
end Go.Proofs.YtkgfdgfhpdhhaaaGreat
namespace Go.Proofs.YtkgfdgfhpdhhaaaGreat
open Go.ChangeShapes Go.WideShapes Go.RowKit
open PL (F)

def agT (t : T) (sa : Option Addr) (ca : Nat) : Value := .agg #[.int .i64 t.kind, .string ⟨t.name.toArray⟩, .slice sa t.kids.length ca]
/-- What a call that makes a formula leaves: its parts lie where the call's own did, or in new memory. -/
def NewIn (R : Nat → Prop) (w w' : World) : Nat → Prop := fun b => R b ∨ (w.heap.size ≤ b ∧ b < w'.heap.size)
def FPost (R : Nat → Prop) (f : F) (w : World) (e : Ending) (w' : World) : Prop := Chg Nob w w' ∧ ∃ v', e = .returned v' ∧ IsTree (NewIn R w w') w' (tF f) v'
theorem IsTree.ti {R : Nat → Prop} {w : World} {t : T} {v : Value} (h : IsTree R w t v) (hR : ∀ b, R b → b < w.heap.size) : TI w t v := IsTree.mono (fun _ _ _ h => h) hR t v h
theorem IsTree.agg' {R : Nat → Prop} {w : World} {t : T} {v : Value} (h : IsTree R w t v) : ∃ ao cap, v = .agg #[.int .i64 t.kind, .string ⟨t.name.toArray⟩, .slice ao t.kids.length cap] := by
  obtain ⟨ao, cap, e, _, _⟩ := h.parts
  exact ⟨ao, cap, e⟩
theorem IsTree.kid' {R : Nat → Prop} {w : World} {t x : T} {ao : Option Addr} {cap j : Nat} {a b : Value} (h : IsTree R w t (.agg #[a, b, .slice ao t.kids.length cap])) (hx : t.kids[j]? = some x) :
    ∃ bk o sx cx, ao = some ⟨bk, o, none⟩ ∧ w.cell? ⟨bk, o + j * 3, none⟩ = some (.int .i64 x.kind) ∧ w.cell? ⟨bk, o + j * 3 + 1, none⟩ = some (.string ⟨x.name.toArray⟩) ∧ w.cell? ⟨bk, o + j * 3 + 2, none⟩ = some (.slice sx x.kids.length cx) ∧
      IsTree R w x (.agg #[.int .i64 x.kind, .string ⟨x.name.toArray⟩, .slice sx x.kids.length cx]) := by
  obtain ⟨ao', cap', e, _, hk⟩ := h.parts
  simp at e
  obtain ⟨-, -, rfl, rfl⟩ := e
  obtain ⟨bk, o, ak, cx, h1, _, h2, h3, h4, _, _, h5⟩ := hk.kid hx
  exact ⟨bk, o, ak, cx, h1, h2, h3, h4, h5⟩
theorem IsTree.two' {R : Nat → Prop} {w : World} {t u : T} {a b c d e f : Value} {S : Nat} {k : Int} (h : IsTree R w t (.agg #[a, b, c])) (h2 : IsTree R w u (.agg #[d, e, f])) (hS : w.heap[S]? = some (.cells #[a, b, c, d, e, f] 24 (0, 0))) (hRS : R S) : IsTree R w (.node k [] [t, u]) (.agg #[.int .i64 k, .string ⟨#[]⟩, .slice (some ⟨S, 0, none⟩) 2 2]) := by
  obtain ⟨ao, cap, e1, _, _⟩ := h.parts
  cases e1
  obtain ⟨ao2, cap2, e2, _, _⟩ := h2.parts
  cases e2
  rw [IsTree]
  refine ⟨_, 2, rfl, by simp, IsKids.mk _ _ (fun j x hj => ?_)⟩
  match j, hj with
  | 0, hj =>
    obtain rfl : t = x := by simpa using hj
    exact ⟨S, 0, _, _, _, rfl, hRS, cell_row hS 0 rfl, cell_row hS 1 rfl, cell_row hS 2 rfl, h⟩
  | 1, hj =>
    obtain rfl : u = x := by simpa using hj
    exact ⟨S, 0, _, _, _, rfl, hRS, cell_row hS 3 rfl, cell_row hS 4 rfl, cell_row hS 5 rfl, h2⟩
theorem IsTree.one' {R : Nat → Prop} {w : World} {t : T} {a b c : Value} {S : Nat} {k : Int} (h : IsTree R w t (.agg #[a, b, c])) (hS : w.heap[S]? = some (.cells #[a, b, c] 24 (0, 0))) (hRS : R S) : IsTree R w (.node k [] [t]) (.agg #[.int .i64 k, .string ⟨#[]⟩, .slice (some ⟨S, 0, none⟩) 1 1]) := by
  obtain ⟨ao, cap, e, _, _⟩ := h.parts
  cases e
  rw [IsTree]
  refine ⟨_, 1, rfl, by simp, IsKids.mk _ _ (fun j u hj => ?_)⟩
  match j, hj with
  | 0, hj =>
    obtain rfl : t = u := by simpa using hj
    obtain ⟨c0, c1, c2, _⟩ := cells_three hS
    exact ⟨S, 0, _, _, _, rfl, hRS, c0, c1, c2, h⟩
theorem kF_un {b : F} (h : (tF b).kind = 12) : ∃ x y, b = .un x y := by
  cases b <;> first | exact ⟨_, _, rfl⟩ | (simp [tF, T.kind] at h)
theorem kF_re {b : F} (h : (tF b).kind = 13) : ∃ x y, b = .re x y := by
  cases b <;> first | exact ⟨_, _, rfl⟩ | (simp [tF, T.kind] at h)
theorem kF_tt {b : F} : (tF b).kind = 1 ↔ b = .tt := by
  cases b <;> simp [tF, T.kind]
theorem kF_ff {b : F} : (tF b).kind = 2 ↔ b = .ff := by
  cases b <;> simp [tF, T.kind]
theorem kinB_un {b : F} : kinB (tF b) 12 1 = true ↔ ∃ y, b = .un .tt y := by
  unfold kinB
  rw [Bool.and_eq_true, beq_iff_eq, beq_iff_eq]
  constructor
  · rintro ⟨h1, h2⟩
    obtain ⟨x, y, rfl⟩ := kF_un h1
    exact ⟨y, by rw [kF_tt.1 (show (tF x).kind = 1 from h2)]⟩
  · rintro ⟨y, rfl⟩; exact ⟨rfl, rfl⟩
theorem kinB_re {b : F} : kinB (tF b) 13 2 = true ↔ ∃ y, b = .re .ff y := by
  unfold kinB
  rw [Bool.and_eq_true, beq_iff_eq, beq_iff_eq]
  constructor
  · rintro ⟨h1, h2⟩
    obtain ⟨x, y, rfl⟩ := kF_re h1
    exact ⟨y, by rw [kF_ff.1 (show (tF x).kind = 2 from h2)]⟩
  · rintro ⟨y, rfl⟩; exact ⟨rfl, rfl⟩
/-- The second kid, or the formula itself. -/
def kid2 (t : T) : T := t.kids.getD 1 t
def u1 (a b : F) : Bool := ((tF b).kind == 1) || ((tF b).kind == 2) || ((tF a).kind == 2) || sameT (tF a) (tF b)
def u2 (a b : F) : Bool := ((tF a).kind == 1) && kinB (tF b) 12 1
def u3 (a b : F) : Bool := ((tF a).kind == 1) && kinB (tF b) 13 2 && kinB (kid2 (tF b)) 12 1
def u4 (a b : F) : Bool := ((tF a).kind == 1) && ((tF b).kind == 12)
theorem u1_iff {a b : F} : u1 a b = true ↔ (b = .tt ∨ b = .ff ∨ a = .ff ∨ a = b) := by
  unfold u1
  rw [Bool.or_eq_true, Bool.or_eq_true, Bool.or_eq_true, beq_iff_eq, beq_iff_eq, beq_iff_eq, kF_tt, kF_ff, kF_ff, sameT_tF, decide_eq_true_iff, or_assoc, or_assoc]
theorem until_1 {a b : F} (h : u1 a b = true) : PL.untilF a b = b := by
  rw [u1_iff] at h
  cases b with
  | un x y =>
    rw [PL.untilF, if_pos]
    rcases h with h | h | h | h
    · cases h
    · cases h
    · exact .inl h
    · exact .inr h
  | _ =>
    rw [PL.untilF, if_pos h]
    intro _ _ e; cases e
theorem until_2 {a b : F} (h : u2 a b = true) (h1 : u1 a b = false) : PL.untilF a b = b := by
  unfold u2 at h
  rw [Bool.and_eq_true, beq_iff_eq, kF_tt, kinB_un] at h
  obtain ⟨rfl, y, rfl⟩ := h
  rw [Bool.eq_false_iff, Ne, u1_iff] at h1
  rw [PL.untilF, if_neg (fun e => h1 (.inr (.inr e))), if_pos rfl, if_pos rfl]
theorem until_3 {a b : F} (h : u3 a b = true) (h1 : u1 a b = false) : PL.untilF a b = b := by
  unfold u3 at h
  rw [Bool.and_eq_true, Bool.and_eq_true, beq_iff_eq, kF_tt, kinB_re] at h
  obtain ⟨⟨rfl, y, rfl⟩, h3⟩ := h
  have h3 : kinB (tF y) 12 1 = true := h3
  rw [kinB_un] at h3
  obtain ⟨z, rfl⟩ := h3
  rw [Bool.eq_false_iff, Ne, u1_iff] at h1
  rw [PL.untilF, if_neg h1, if_pos ⟨rfl, rfl⟩]
  intro _ _ e; cases e
theorem until_4 {a b : F} (h : u4 a b = true) (h1 : u1 a b = false) (h2 : u2 a b = false) : ∃ x y, a = .tt ∧ b = .un x y ∧ PL.untilF a b = PL.untilF .tt y := by
  unfold u4 at h
  rw [Bool.and_eq_true, beq_iff_eq, beq_iff_eq, kF_tt] at h
  obtain ⟨rfl, hb⟩ := h
  obtain ⟨x, y, rfl⟩ := kF_un hb
  refine ⟨x, y, rfl, rfl, ?_⟩
  rw [Bool.eq_false_iff, Ne, u1_iff] at h1
  rw [PL.untilF, if_neg (fun e => h1 (.inr (.inr e))), if_pos rfl, if_neg]
  rintro rfl
  unfold u2 at h2
  rw [kinB_un.2 ⟨y, rfl⟩] at h2
  cases h2
theorem until_5 {a b : F} (h1 : u1 a b = false) (h2 : u2 a b = false) (h3 : u3 a b = false) (h4 : u4 a b = false) : PL.untilF a b = .un a b := by
  rw [Bool.eq_false_iff, Ne, u1_iff] at h1
  cases b with
  | un x y =>
    rw [PL.untilF, if_neg (fun e => h1 (.inr (.inr e))), if_neg]
    rintro rfl
    cases h4
  | _ =>
    rw [PL.untilF, if_neg h1, if_neg]
    · rintro ⟨rfl, hf⟩
      unfold PL.fgf at hf
      split at hf
      · rename_i e
        first
        | exact absurd h3 (by show ¬ (true = false); decide)
        | (cases e; exact absurd h3 (by show ¬ (true = false); decide))
        | (cases e; done)
      · cases hf
    · intro _ _ e; cases e
theorem kids_ne {f : F} (h : (tF f).kind = 12 ∨ (tF f).kind = 13) : (tF f).kids ≠ [] := by
  rcases h with h | h
  · obtain ⟨x, y, rfl⟩ := kF_un h
    intro e; cases e
  · obtain ⟨x, y, rfl⟩ := kF_re h
    intro e; cases e
theorem results88 {rb : Nat} {tm : Array Value} {w : World} {x y z : Value} (h2 : tm[2]? = some (.pointer (some ⟨rb, 0, none⟩))) (hb : w.heap[rb]? = some (.cells #[x, y, z] 24 (0, 0))) : (results Tryz.f88 tm).run Tryz.prog w = .ok (.agg #[x, y, z]) w := by
  obtain ⟨c0, c1, c2, _⟩ := cells_three hb
  simp [results, Tryz.results88, go_sem, h2, c0, c1, c2]
/-- A box's cells, as long as nothing old is changed. -/
def Box (W : World) (p : Nat) (t : T) (sa : Option Addr) (ca : Nat) : Prop := ∀ w', Chg Nob W w' → w'.cell? ⟨p, 0, none⟩ = some (.int .i64 t.kind) ∧ w'.cell? ⟨p, 1, none⟩ = some (.string ⟨t.name.toArray⟩) ∧ w'.cell? ⟨p, 2, none⟩ = some (.slice sa t.kids.length ca) ∧ TI w' t (agT t sa ca)
theorem box_two' (w : World) (a b c : Value) : ∃ X, X = (w.alloc (.cells #[a, b, c] 24)).alloc (.cells #[.int .i64 0, .string ⟨#[]⟩, .slice none 0 0] 24) ∧ Chg Nob w X ∧ X.heap[w.heap.size]? = some (.cells #[a, b, c] 24 (0, 0)) ∧ X.heap[w.heap.size + 1]? = some (.cells #[.int .i64 0, .string ⟨#[]⟩, .slice none 0 0] 24 (0, 0)) ∧ X.heap.size = w.heap.size + 2 := by
  refine ⟨_, rfl, ((Chg.refl _ _).alloc _).alloc _, ((Chg.refl Nob _).alloc _).at (heap_alloc_new w _) (fun e => e), ?_, by simp⟩
  have := heap_alloc_new (w.alloc (.cells #[a, b, c] 24)) (.cells #[.int .i64 0, .string ⟨#[]⟩, .slice none 0 0] 24)
  rwa [World.size_alloc] at this
set_option maxRecDepth 100000 in
set_option maxHeartbeats 8000000 in
theorem until_step {R : Nat → Prop} {a b : F} {v : Value} {w : World} (hR : ∀ b, R b → b < w.heap.size) (hv : IsTree R w (.node 12 [] [tF a, tF b]) v)
    (hrec : ∀ x y, b = .un x y → ∀ R' w' v', (∀ b, R' b → b < w'.heap.size) → IsTree R' w' (.node 12 [] [tF .tt, tF y]) v' → Calls Tryz.prog 88 #[v'] w' (FPost R' (PL.untilF .tt y) w')) :
    Calls Tryz.prog 88 #[v] w (FPost R (PL.untilF a b) w) := by
  obtain ⟨ao, cap, e0⟩ := hv.agg'
  have e1 : v = .agg #[.int .i64 12, .string ⟨#[]⟩, .slice ao 2 cap] := e0
  clear e0
  subst e1
  obtain ⟨bk, o, sa, ca, rfl, x0, x1, x2, ha⟩ := hv.kid' (j := 0) (x := tF a) rfl
  obtain ⟨bk', o', sb, cb, e, y0, y1, y2, hb⟩ := hv.kid' (j := 1) (x := tF b) rfl
  cases e
  obtain ⟨W1, hW1e, hW1, hbv, hbr, hsz⟩ := box_two' w (.int .i64 12) (.string ⟨#[]⟩) (.slice (some ⟨bk, o, none⟩) 2 cap)
  rw [Nat.zero_mul, Nat.add_zero] at x0 x1 x2
  rw [Nat.one_mul] at y0 y1 y2
  have Hv := Lib.hid hv
  have HR := Lib.hid hR
  have Ha := Lib.hid ha
  have Hb := Lib.hid hb
  have HW1 := Lib.hid hW1
  have Hbv := Lib.hid hbv
  have Hbr := Lib.hid hbr
  have Hsz := Lib.hid hsz
  have Hrec := Lib.hid hrec
  have x0' := hW1.cell' x0 (fun e => e)
  have x1' := hW1.cell' x1 (fun e => e)
  have x2' := hW1.cell' x2 (fun e => e)
  have y0' := hW1.cell' y0 (fun e => e)
  have y1' := hW1.cell' y1 (fun e => e)
  have y2' := hW1.cell' y2 (fun e => e)
  have v2' := cell_row hbv 2 (v := .slice (some ⟨bk, o, none⟩) 2 cap) rfl
  have hx : ∀ w', Chg Nob W1 w' → w'.cell? ⟨bk, o, none⟩ = some (.int .i64 (tF a).kind) ∧ w'.cell? ⟨bk, o + 1, none⟩ = some (.string ⟨(tF a).name.toArray⟩) ∧ w'.cell? ⟨bk, o + 2, none⟩ = some (.slice sa (tF a).kids.length ca) ∧
      w'.cell? ⟨bk, o + 3, none⟩ = some (.int .i64 (tF b).kind) ∧ w'.cell? ⟨bk, o + 3 + 1, none⟩ = some (.string ⟨(tF b).name.toArray⟩) ∧ w'.cell? ⟨bk, o + 3 + 2, none⟩ = some (.slice sb (tF b).kids.length cb) ∧ w'.cell? ⟨w.heap.size, 2, none⟩ = some (.slice (some ⟨bk, o, none⟩) 2 cap) := fun w' h =>
    ⟨h.cell' x0' (fun e => e), h.cell' x1' (fun e => e), h.cell' x2' (fun e => e), h.cell' y0' (fun e => e), h.cell' y1' (fun e => e), h.cell' y2' (fun e => e), h.cell' v2' (fun e => e)⟩
  have hA : Chg Nob W1 (W1.alloc (.cells #[.int .i64 0, .string ⟨#[]⟩, .slice none 0 0] 24)) := (Chg.refl _ _).alloc _
  obtain ⟨p0, p1, p2, p3, p4, p5, p6⟩ := hx W1.drew (Chg.refl _ _).drew
  have hSx := Lib.hid hx
  clear hR hv ha hb hbv hbr hsz hrec x0 x1 x2 y0 y1 y2 hW1 hx hA x0' x1' x2' y0' y1' y2' v2'
  go_enter Tryz.func88, Tryz.ntmps88
  go_upto_region 1 with fail
  rw [← hW1e]
  clear hW1e
  go_cut [3, 4] from 5 to 12 (fun t3 t4 wx => ∃ p q : Nat, t3 = .pointer (some ⟨p, 0, none⟩) ∧ t4 = .pointer (some ⟨q, 0, none⟩) ∧ Hid (Chg Nob W1 wx ∧ wx.heap[p]? = some (.cells #[.int .i64 (tF a).kind, .string ⟨(tF a).name.toArray⟩, .slice sa (tF a).kids.length ca] 24 (0, 0)) ∧ wx.heap[q]? = some (.cells #[.int .i64 (tF b).kind, .string ⟨(tF b).name.toArray⟩, .slice sb (tF b).kids.length cb] 24 (0, 0))))
  case first =>
    go_wp2_with fail
    refine wp_region_free (fun j => j != 11) (fun w' => w'.cell? ⟨bk, o, none⟩ = some (.int .i64 (tF a).kind) ∧ w'.cell? ⟨bk, o + 1, none⟩ = some (.string ⟨(tF a).name.toArray⟩) ∧ w'.cell? ⟨bk, o + 2, none⟩ = some (.slice sa (tF a).kids.length ca) ∧ w'.cell? ⟨bk, o + 3, none⟩ = some (.int .i64 (tF b).kind) ∧ w'.cell? ⟨bk, o + 3 + 1, none⟩ = some (.string ⟨(tF b).name.toArray⟩) ∧ w'.cell? ⟨bk, o + 3 + 2, none⟩ = some (.slice sb (tF b).kids.length cb) ∧ w'.cell? ⟨w.heap.size, 2, none⟩ = some (.slice (some ⟨bk, o, none⟩) 2 cap)) (by kernel_rfl) ⟨p0, p1, p2, p3, p4, p5, p6⟩ (fun hHeld => ?_)
    refine wpAnyG_take (i := 0) (v := ?_) rfl (by kernel_rfl) (fun _ _ _ h => h) (Or.inl ⟨by rfl, ?_⟩) hHeld ?_
    rotate_left
    · intro w hSw; obtain ⟨p0, p1, p2, p3, p4, p5, p6⟩ := hSw; go_simp; (try (with_reducible rfl))
    simp only [Act.put, List.setIfInBounds_toArray]
    refine wpAnyG_take (i := 1) (v := ?_) rfl (by kernel_rfl) (fun _ _ _ h => h) (Or.inl ⟨by rfl, ?_⟩) hHeld ?_
    rotate_left
    · intro w hSw; obtain ⟨p0, p1, p2, p3, p4, p5, p6⟩ := hSw; go_simp; (try (with_reducible rfl))
    try simp only [Act.put]
    refine wpAnyG_take (i := 2) (v := ?_) rfl (by kernel_rfl) (fun _ _ _ h => h) (Or.inl ⟨by rfl, ?_⟩) hHeld ?_
    rotate_left
    · intro w hSw; obtain ⟨p0, p1, p2, p3, p4, p5, p6⟩ := hSw; go_simp; (try (with_reducible rfl))
    try simp only [Act.put]
    refine wpAnyG_take (i := 3) (v := ?_) rfl (by kernel_rfl) (fun _ _ _ h => h) (Or.inl ⟨by rfl, ?_⟩) hHeld ?_
    rotate_left
    · intro w hSw; obtain ⟨p0, p1, p2, p3, p4, p5, p6⟩ := hSw; go_simp; (try (with_reducible rfl))
    try simp only [Act.put]
    refine wpAnyG_take (i := 4) (v := ?_) rfl (by kernel_rfl) (fun _ _ _ h => h) (Or.inl ⟨by kernel_rfl, ?_⟩) hHeld ?_
    rotate_left
    · intro w hSw; obtain ⟨p0, p1, p2, p3, p4, p5, p6⟩ := hSw; go_simp; (try (with_reducible rfl))
    try simp only [Act.put]
    refine wpAnyG_take (i := 5) (v := ?_) rfl (by kernel_rfl) (fun _ _ _ h => h) (Or.inl ⟨by kernel_rfl, ?_⟩) hHeld ?_
    rotate_left
    · intro w hSw; obtain ⟨p0, p1, p2, p3, p4, p5, p6⟩ := hSw; go_simp; (try (with_reducible rfl))
    try simp only [Act.put]
    refine wpAnyG_take (i := 6) (v := ?_) rfl (by kernel_rfl) (fun _ _ _ h => h) (Or.inl ⟨by kernel_rfl, ?_⟩) hHeld ?_
    rotate_left
    · intro w hSw; obtain ⟨p0, p1, p2, p3, p4, p5, p6⟩ := hSw; go_simp; (try (with_reducible rfl))
    try simp only [Act.put]
    refine wpAnyG_take (i := 7) (v := ?_) rfl (by kernel_rfl) (fun _ _ _ h => h) (Or.inl ⟨by kernel_rfl, ?_⟩) hHeld ?_
    rotate_left
    · intro w hSw; obtain ⟨p0, p1, p2, p3, p4, p5, p6⟩ := hSw; go_simp; (try (with_reducible rfl))
    try simp only [Act.put]
    refine wpAnyG_ready (rs := [8, 9]) (by kernel_rfl) (by simp) ?_
    refine AllReadyG.cons rfl (fun K hK => ?_) (AllReadyG.cons rfl (fun K hK => ?_) AllReadyG.nil)
    · rw [if_pos (by kernel_rfl)]
      have hS1 := hSx.out ((W1.alloc (.cells #[.int .i64 0, .string ⟨#[]⟩, .slice none 0 0] 24)).drew) (((Chg.refl _ _).alloc _).drew)
      go_simp
      refine hK.out _ _ (fun _ => hS1) ?_
      clear hK K
      try simp only [Act.put]
      refine wpAnyG_ready (rs := [9]) (by kernel_rfl) (by simp) ?_
      refine AllReadyG.cons rfl (fun K hK => ?_) AllReadyG.nil
      rw [if_pos (by kernel_rfl)]
      have hS2 := hSx.out (((W1.alloc (.cells #[.int .i64 0, .string ⟨#[]⟩, .slice none 0 0] 24)).alloc (.cells #[.int .i64 0, .string ⟨#[]⟩, .slice none 0 0] 24)).drew) ((((Chg.refl _ _).alloc _).alloc _).drew)
      go_simp
      refine hK.out _ _ (fun _ => hS2) ?_
      clear hK K
      try simp only [Act.put]
      refine wpAnyG_ready (rs := [10]) (by kernel_rfl) (by simp) ?_
      refine AllReadyG.cons rfl (fun K hK => ?_) AllReadyG.nil
      rw [if_pos (by kernel_rfl)]
      have hS3 := hSx.out (((W1.alloc (.cells #[(.int .i64 (tF a).kind), (.string ⟨(tF a).name.toArray⟩), (.slice sa (tF a).kids.length ca)] 24)).alloc (.cells #[.int .i64 0, .string ⟨#[]⟩, .slice none 0 0] 24)).drew) ((((Chg.refl _ _).alloc _).alloc _).drew)
      go_simp
      refine hK.out _ _ (fun _ => hS3) ?_
      clear hK K
      try simp only [Act.put]
      refine wpAnyG_ready (rs := [11]) (by kernel_rfl) (by simp) ?_
      refine AllReadyG.cons rfl (fun K hK => ?_) AllReadyG.nil
      rw [if_pos (by kernel_rfl)]
      go_simp
      refine hK.out _ _ (fun h => absurd h (by decide)) ?_
      clear hK K
      try simp only [Act.put]
      refine wpAnyG_done (by kernel_rfl) ?_ _
      go_simp
      have h0 : Chg Nob W1 ((W1.alloc (.cells #[(.int .i64 (tF a).kind), (.string ⟨(tF a).name.toArray⟩), (.slice sa (tF a).kids.length ca)] 24)).alloc (.cells #[(.int .i64 (tF b).kind), (.string ⟨(tF b).name.toArray⟩), (.slice sb (tF b).kids.length cb)] 24)).drew := (((Chg.refl _ _).alloc _).alloc _).drew
      have h1 : ((W1.alloc (.cells #[(.int .i64 (tF a).kind), (.string ⟨(tF a).name.toArray⟩), (.slice sa (tF a).kids.length ca)] 24)).alloc (.cells #[(.int .i64 (tF b).kind), (.string ⟨(tF b).name.toArray⟩), (.slice sb (tF b).kids.length cb)] 24)).drew.heap[W1.heap.size]? = some (.cells #[(.int .i64 (tF a).kind), (.string ⟨(tF a).name.toArray⟩), (.slice sa (tF a).kids.length ca)] 24 (0, 0)) := ((Chg.refl Nob _).alloc (.cells #[(.int .i64 (tF b).kind), (.string ⟨(tF b).name.toArray⟩), (.slice sb (tF b).kids.length cb)] 24)).at (heap_alloc_new W1 (.cells #[(.int .i64 (tF a).kind), (.string ⟨(tF a).name.toArray⟩), (.slice sa (tF a).kids.length ca)] 24)) (fun e => e)
      have h2 : ((W1.alloc (.cells #[(.int .i64 (tF a).kind), (.string ⟨(tF a).name.toArray⟩), (.slice sa (tF a).kids.length ca)] 24)).alloc (.cells #[(.int .i64 (tF b).kind), (.string ⟨(tF b).name.toArray⟩), (.slice sb (tF b).kids.length cb)] 24)).drew.heap[W1.heap.size + 1]? = some (.cells #[(.int .i64 (tF b).kind), (.string ⟨(tF b).name.toArray⟩), (.slice sb (tF b).kids.length cb)] 24 (0, 0)) := by
        have h := heap_alloc_new (W1.alloc (.cells #[(.int .i64 (tF a).kind), (.string ⟨(tF a).name.toArray⟩), (.slice sa (tF a).kids.length ca)] 24)) (.cells #[(.int .i64 (tF b).kind), (.string ⟨(tF b).name.toArray⟩), (.slice sb (tF b).kids.length cb)] 24)
        rwa [World.size_alloc] at h
      go_wp2_with fail
      go_meet
      case rel => exact ⟨W1.heap.size, W1.heap.size + 1, rfl, rfl, h0, h1, h2⟩
    · rw [if_pos (by kernel_rfl)]
      have hS1 := hSx.out ((W1.alloc (.cells #[.int .i64 0, .string ⟨#[]⟩, .slice none 0 0] 24)).drew) (((Chg.refl _ _).alloc _).drew)
      go_simp
      refine hK.out _ _ (fun _ => hS1) ?_
      clear hK K
      try simp only [Act.put]
      refine wpAnyG_ready (rs := [8]) (by kernel_rfl) (by simp) ?_
      refine AllReadyG.cons rfl (fun K hK => ?_) AllReadyG.nil
      rw [if_pos (by kernel_rfl)]
      have hS2 := hSx.out (((W1.alloc (.cells #[.int .i64 0, .string ⟨#[]⟩, .slice none 0 0] 24)).alloc (.cells #[.int .i64 0, .string ⟨#[]⟩, .slice none 0 0] 24)).drew) ((((Chg.refl _ _).alloc _).alloc _).drew)
      go_simp
      refine hK.out _ _ (fun _ => hS2) ?_
      clear hK K
      try simp only [Act.put]
      refine wpAnyG_ready (rs := [10]) (by kernel_rfl) (by simp) ?_
      refine AllReadyG.cons rfl (fun K hK => ?_) AllReadyG.nil
      rw [if_pos (by kernel_rfl)]
      have hS3 := hSx.out (((W1.alloc (.cells #[.int .i64 0, .string ⟨#[]⟩, .slice none 0 0] 24)).alloc (.cells #[(.int .i64 (tF a).kind), (.string ⟨(tF a).name.toArray⟩), (.slice sa (tF a).kids.length ca)] 24)).drew) ((((Chg.refl _ _).alloc _).alloc _).drew)
      go_simp
      refine hK.out _ _ (fun _ => hS3) ?_
      clear hK K
      try simp only [Act.put]
      refine wpAnyG_ready (rs := [11]) (by kernel_rfl) (by simp) ?_
      refine AllReadyG.cons rfl (fun K hK => ?_) AllReadyG.nil
      rw [if_pos (by kernel_rfl)]
      go_simp
      refine hK.out _ _ (fun h => absurd h (by decide)) ?_
      clear hK K
      try simp only [Act.put]
      refine wpAnyG_done (by kernel_rfl) ?_ _
      go_simp
      have h0 : Chg Nob W1 ((W1.alloc (.cells #[(.int .i64 (tF b).kind), (.string ⟨(tF b).name.toArray⟩), (.slice sb (tF b).kids.length cb)] 24)).alloc (.cells #[(.int .i64 (tF a).kind), (.string ⟨(tF a).name.toArray⟩), (.slice sa (tF a).kids.length ca)] 24)).drew := (((Chg.refl _ _).alloc _).alloc _).drew
      have h1 : ((W1.alloc (.cells #[(.int .i64 (tF b).kind), (.string ⟨(tF b).name.toArray⟩), (.slice sb (tF b).kids.length cb)] 24)).alloc (.cells #[(.int .i64 (tF a).kind), (.string ⟨(tF a).name.toArray⟩), (.slice sa (tF a).kids.length ca)] 24)).drew.heap[W1.heap.size]? = some (.cells #[(.int .i64 (tF b).kind), (.string ⟨(tF b).name.toArray⟩), (.slice sb (tF b).kids.length cb)] 24 (0, 0)) := ((Chg.refl Nob _).alloc (.cells #[(.int .i64 (tF a).kind), (.string ⟨(tF a).name.toArray⟩), (.slice sa (tF a).kids.length ca)] 24)).at (heap_alloc_new W1 (.cells #[(.int .i64 (tF b).kind), (.string ⟨(tF b).name.toArray⟩), (.slice sb (tF b).kids.length cb)] 24)) (fun e => e)
      have h2 : ((W1.alloc (.cells #[(.int .i64 (tF b).kind), (.string ⟨(tF b).name.toArray⟩), (.slice sb (tF b).kids.length cb)] 24)).alloc (.cells #[(.int .i64 (tF a).kind), (.string ⟨(tF a).name.toArray⟩), (.slice sa (tF a).kids.length ca)] 24)).drew.heap[W1.heap.size + 1]? = some (.cells #[(.int .i64 (tF a).kind), (.string ⟨(tF a).name.toArray⟩), (.slice sa (tF a).kids.length ca)] 24 (0, 0)) := by
        have h := heap_alloc_new (W1.alloc (.cells #[(.int .i64 (tF b).kind), (.string ⟨(tF b).name.toArray⟩), (.slice sb (tF b).kids.length cb)] 24)) (.cells #[(.int .i64 (tF a).kind), (.string ⟨(tF a).name.toArray⟩), (.slice sa (tF a).kids.length ca)] 24)
        rwa [World.size_alloc] at h
      go_wp2_with fail
      go_meet
      case rel => exact ⟨W1.heap.size + 1, W1.heap.size, rfl, rfl, h0, h2, h1⟩
  case rest =>
    obtain ⟨p, q, rfl, rfl, hcut2⟩ := hcut
    obtain ⟨W2, hW2⟩ : ∃ X, X = wc := ⟨_, rfl⟩
    subst hW2
    have hcb := hcut2.out.1
    have hcut1 := Lib.hid hcb
    have hpb := hcut2.out.2.1
    have hqb := hcut2.out.2.2
    have HcW : Hid (Chg Nob w W2) := (show Chg Nob w W2 from HW1.out.trans1 hcb)
    have Hv2 : Hid (∀ w', Chg Nob W2 w' → w'.heap[w.heap.size]? = some (.cells #[.int .i64 12, .string ⟨#[]⟩, .slice (some ⟨bk, o, none⟩) 2 cap] 24 (0, 0)) ∧ w'.heap[w.heap.size + 1]? = some (.cells #[.int .i64 0, .string ⟨#[]⟩, .slice none 0 0] 24 (0, 0))) :=
      (show ∀ w', Chg Nob W2 w' → _ from fun w' h => ⟨(hcb.trans1 h).at Hbv.out (fun e => e), (hcb.trans1 h).at Hbr.out (fun e => e)⟩)
    have HS : Hid (∀ w', Chg Nob W2 w' → w'.cell? ⟨p, 0, none⟩ = some (.int .i64 (tF a).kind) ∧ w'.cell? ⟨p, 1, none⟩ = some (.string ⟨(tF a).name.toArray⟩) ∧ w'.cell? ⟨p, 2, none⟩ = some (.slice sa (tF a).kids.length ca) ∧
        w'.cell? ⟨q, 0, none⟩ = some (.int .i64 (tF b).kind) ∧ w'.cell? ⟨q, 1, none⟩ = some (.string ⟨(tF b).name.toArray⟩) ∧ w'.cell? ⟨q, 2, none⟩ = some (.slice sb (tF b).kids.length cb) ∧
        TI w' (tF a) (.agg #[.int .i64 (tF a).kind, .string ⟨(tF a).name.toArray⟩, .slice sa (tF a).kids.length ca]) ∧ TI w' (tF b) (.agg #[.int .i64 (tF b).kind, .string ⟨(tF b).name.toArray⟩, .slice sb (tF b).kids.length cb])) :=
      (show ∀ w', Chg Nob W2 w' → _ from fun w' h => by
        obtain ⟨a0, a1, a2, _⟩ := cells_three (h.at hpb (fun e => e))
        obtain ⟨b0, b1, b2, _⟩ := cells_three (h.at hqb (fun e => e))
        exact ⟨a0, a1, a2, b0, b1, b2, (Ha.out.ti HR.out).nob (HcW.out.trans1 h), (Hb.out.ti HR.out).nob (HcW.out.trans1 h)⟩)
    have hcur := Chg.refl Nob W2
    obtain ⟨x0, x1, x2, y0, y1, y2, ta, tb⟩ := HS.out _ hcur
    clear hcut2 hcb hpb hqb hSx p0 p1 p2 p3 p4 p5 p6
    go_upto_region 2 with fail
    go_cut [13] from 14 to 28 (fun t13 wx => t13 = .bool (u1 a b) ∧ Hid (Chg Nob W2 wx))
    case first =>
      cases h1 : ((tF b).kind == 1) with
      | true =>
        go_wp2_with (first | (go_at_call 86; (with_reducible refine (truth_any tb).mono ?_); rintro e w' ⟨rfl, hc'⟩; replace hcur := hcur.trans1 hc'; clear hc' x0 x1 x2 y0 y1 y2 ta tb; obtain ⟨x0, x1, x2, y0, y1, y2, ta, tb⟩ := HS.out _ hcur) | (go_at_call 87; (with_reducible refine (falsity_any tb).mono ?_); rintro e w' ⟨rfl, hc'⟩; replace hcur := hcur.trans1 hc'; clear hc' x0 x1 x2 y0 y1 y2 ta tb; obtain ⟨x0, x1, x2, y0, y1, y2, ta, tb⟩ := HS.out _ hcur) | (go_at_call 87; (with_reducible refine (falsity_any ta).mono ?_); rintro e w' ⟨rfl, hc'⟩; replace hcur := hcur.trans1 hc'; clear hc' x0 x1 x2 y0 y1 y2 ta tb; obtain ⟨x0, x1, x2, y0, y1, y2, ta, tb⟩ := HS.out _ hcur) | (go_at_call 138; (with_reducible refine (same_ti ta tb).mono ?_); rintro e w' ⟨rfl, hc'⟩; replace hcur := hcur.trans1 hc'; clear hc' x0 x1 x2 y0 y1 y2 ta tb; obtain ⟨x0, x1, x2, y0, y1, y2, ta, tb⟩ := HS.out _ hcur))
        go_meet
        case rel => exact ⟨congrArg Value.bool (by unfold u1; rw [h1]; rfl), hcur⟩
      | false =>
        cases h2 : ((tF b).kind == 2) with
        | true =>
          go_wp2_with (first | (go_at_call 86; (with_reducible refine (truth_any tb).mono ?_); rintro e w' ⟨rfl, hc'⟩; replace hcur := hcur.trans1 hc'; clear hc' x0 x1 x2 y0 y1 y2 ta tb; obtain ⟨x0, x1, x2, y0, y1, y2, ta, tb⟩ := HS.out _ hcur) | (go_at_call 87; (with_reducible refine (falsity_any tb).mono ?_); rintro e w' ⟨rfl, hc'⟩; replace hcur := hcur.trans1 hc'; clear hc' x0 x1 x2 y0 y1 y2 ta tb; obtain ⟨x0, x1, x2, y0, y1, y2, ta, tb⟩ := HS.out _ hcur) | (go_at_call 87; (with_reducible refine (falsity_any ta).mono ?_); rintro e w' ⟨rfl, hc'⟩; replace hcur := hcur.trans1 hc'; clear hc' x0 x1 x2 y0 y1 y2 ta tb; obtain ⟨x0, x1, x2, y0, y1, y2, ta, tb⟩ := HS.out _ hcur) | (go_at_call 138; (with_reducible refine (same_ti ta tb).mono ?_); rintro e w' ⟨rfl, hc'⟩; replace hcur := hcur.trans1 hc'; clear hc' x0 x1 x2 y0 y1 y2 ta tb; obtain ⟨x0, x1, x2, y0, y1, y2, ta, tb⟩ := HS.out _ hcur))
          go_meet
          case rel => exact ⟨congrArg Value.bool (by unfold u1; rw [h1, h2]; rfl), hcur⟩
        | false =>
          cases h3 : ((tF a).kind == 2) with
          | true =>
            go_wp2_with (first | (go_at_call 86; (with_reducible refine (truth_any tb).mono ?_); rintro e w' ⟨rfl, hc'⟩; replace hcur := hcur.trans1 hc'; clear hc' x0 x1 x2 y0 y1 y2 ta tb; obtain ⟨x0, x1, x2, y0, y1, y2, ta, tb⟩ := HS.out _ hcur) | (go_at_call 87; (with_reducible refine (falsity_any tb).mono ?_); rintro e w' ⟨rfl, hc'⟩; replace hcur := hcur.trans1 hc'; clear hc' x0 x1 x2 y0 y1 y2 ta tb; obtain ⟨x0, x1, x2, y0, y1, y2, ta, tb⟩ := HS.out _ hcur) | (go_at_call 87; (with_reducible refine (falsity_any ta).mono ?_); rintro e w' ⟨rfl, hc'⟩; replace hcur := hcur.trans1 hc'; clear hc' x0 x1 x2 y0 y1 y2 ta tb; obtain ⟨x0, x1, x2, y0, y1, y2, ta, tb⟩ := HS.out _ hcur) | (go_at_call 138; (with_reducible refine (same_ti ta tb).mono ?_); rintro e w' ⟨rfl, hc'⟩; replace hcur := hcur.trans1 hc'; clear hc' x0 x1 x2 y0 y1 y2 ta tb; obtain ⟨x0, x1, x2, y0, y1, y2, ta, tb⟩ := HS.out _ hcur))
            go_meet
            case rel => exact ⟨congrArg Value.bool (by unfold u1; rw [h1, h2, h3]; rfl), hcur⟩
          | false =>
            go_wp2_with (first | (go_at_call 86; (with_reducible refine (truth_any tb).mono ?_); rintro e w' ⟨rfl, hc'⟩; replace hcur := hcur.trans1 hc'; clear hc' x0 x1 x2 y0 y1 y2 ta tb; obtain ⟨x0, x1, x2, y0, y1, y2, ta, tb⟩ := HS.out _ hcur) | (go_at_call 87; (with_reducible refine (falsity_any tb).mono ?_); rintro e w' ⟨rfl, hc'⟩; replace hcur := hcur.trans1 hc'; clear hc' x0 x1 x2 y0 y1 y2 ta tb; obtain ⟨x0, x1, x2, y0, y1, y2, ta, tb⟩ := HS.out _ hcur) | (go_at_call 87; (with_reducible refine (falsity_any ta).mono ?_); rintro e w' ⟨rfl, hc'⟩; replace hcur := hcur.trans1 hc'; clear hc' x0 x1 x2 y0 y1 y2 ta tb; obtain ⟨x0, x1, x2, y0, y1, y2, ta, tb⟩ := HS.out _ hcur) | (go_at_call 138; (with_reducible refine (same_ti ta tb).mono ?_); rintro e w' ⟨rfl, hc'⟩; replace hcur := hcur.trans1 hc'; clear hc' x0 x1 x2 y0 y1 y2 ta tb; obtain ⟨x0, x1, x2, y0, y1, y2, ta, tb⟩ := HS.out _ hcur))
            go_meet
            case rel => exact ⟨congrArg Value.bool (by unfold u1; rw [h1, h2, h3]; rfl), hcur⟩
    case rest =>
    obtain ⟨rfl, hcw⟩ := hcut
    replace hcur := hcw.out
    clear hcw x0 x1 x2 y0 y1 y2 ta tb
    obtain ⟨x0, x1, x2, y0, y1, y2, ta, tb⟩ := HS.out _ hcur
    cases hu1 : u1 a b with
    | true =>
      have hRb := (Hv2.out _ hcur).2
      obtain ⟨r0, r1, r2, f0, f1, f2⟩ := cells_three hRb
      have hfin : Chg Nob w _ := ((HcW.out.trans1 hcur).any (S := At1 (w.heap.size + 1))).trans1 (chg_three wc (w.heap.size + 1) (.int .i64 (tF b).kind) (.string ⟨(tF b).name.toArray⟩) (.slice sb (tF b).kids.length cb)) |>.mono (fun i hi e => by have e : i = w.heap.size + 1 := e; omega)
      have Hfin := Lib.hid hfin
      have HR3 := Lib.hid (block_three_all hRb (.int .i64 (tF b).kind) (.string ⟨(tF b).name.toArray⟩) (.slice sb (tF b).kids.length cb))
      clear hRb hfin ta tb
      go_wp2_with fail
      refine bodyPost_ret (results88 rfl HR3.out) rfl ⟨Hfin.out, _, rfl, ?_⟩
      rw [until_1 hu1]
      exact IsTree.mono (fun _ _ _ h => Hfin.out.cell' h (fun e => e)) (fun _ hb => .inl hb) _ _ Hb.out
    | false =>
    go_upto_region 4 with fail
    go_cut [30] from 31 to 36 (fun t30 wx => t30 = .bool (u2 a b) ∧ Hid (Chg Nob W2 wx))
    case first =>
      cases h1 : ((tF a).kind == 1) with
      | true =>
        go_wp2_with (first | (go_at_call 86; (with_reducible refine (truth_any ta).mono ?_); rintro e w' ⟨rfl, hc'⟩; replace hcur := hcur.trans1 hc'; clear hc' x0 x1 x2 y0 y1 y2 ta tb; obtain ⟨x0, x1, x2, y0, y1, y2, ta, tb⟩ := HS.out _ hcur) | (go_at_call 141; (with_reducible refine (kin_any (.inl ⟨rfl, rfl⟩) tb (fun h => kids_ne (.inl h))).mono ?_); rintro e w' ⟨rfl, hc'⟩; replace hcur := hcur.trans1 hc'; clear hc' x0 x1 x2 y0 y1 y2 ta tb; obtain ⟨x0, x1, x2, y0, y1, y2, ta, tb⟩ := HS.out _ hcur))
        go_meet
        case rel => exact ⟨congrArg Value.bool (by unfold u2; rw [h1]; rfl), hcur⟩
      | false =>
        go_wp2_with (first | (go_at_call 86; (with_reducible refine (truth_any ta).mono ?_); rintro e w' ⟨rfl, hc'⟩; replace hcur := hcur.trans1 hc'; clear hc' x0 x1 x2 y0 y1 y2 ta tb; obtain ⟨x0, x1, x2, y0, y1, y2, ta, tb⟩ := HS.out _ hcur) | (go_at_call 141; (with_reducible refine (kin_any (.inl ⟨rfl, rfl⟩) tb (fun h => kids_ne (.inl h))).mono ?_); rintro e w' ⟨rfl, hc'⟩; replace hcur := hcur.trans1 hc'; clear hc' x0 x1 x2 y0 y1 y2 ta tb; obtain ⟨x0, x1, x2, y0, y1, y2, ta, tb⟩ := HS.out _ hcur))
        go_meet
        case rel => exact ⟨congrArg Value.bool (by unfold u2; rw [h1]; rfl), hcur⟩
    case rest =>
    obtain ⟨rfl, hcw⟩ := hcut
    replace hcur := hcw.out
    clear hcw x0 x1 x2 y0 y1 y2 ta tb
    obtain ⟨x0, x1, x2, y0, y1, y2, ta, tb⟩ := HS.out _ hcur
    cases hu2 : u2 a b with
    | true =>
      have hRb := (Hv2.out _ hcur).2
      obtain ⟨r0, r1, r2, f0, f1, f2⟩ := cells_three hRb
      have hfin : Chg Nob w _ := ((HcW.out.trans1 hcur).any (S := At1 (w.heap.size + 1))).trans1 (chg_three wc (w.heap.size + 1) (.int .i64 (tF b).kind) (.string ⟨(tF b).name.toArray⟩) (.slice sb (tF b).kids.length cb)) |>.mono (fun i hi e => by have e : i = w.heap.size + 1 := e; omega)
      have Hfin := Lib.hid hfin
      have HR3 := Lib.hid (block_three_all hRb (.int .i64 (tF b).kind) (.string ⟨(tF b).name.toArray⟩) (.slice sb (tF b).kids.length cb))
      clear hRb hfin ta tb
      go_wp2_with fail
      refine bodyPost_ret (results88 rfl HR3.out) rfl ⟨Hfin.out, _, rfl, ?_⟩
      rw [until_2 hu2 hu1]
      exact IsTree.mono (fun _ _ _ h => Hfin.out.cell' h (fun e => e)) (fun _ hb => .inl hb) _ _ Hb.out
    | false =>
    go_upto_region 6 with fail
    go_cut [38] from 39 to 51 (fun t38 wx => t38 = .bool (u3 a b) ∧ Hid (Chg Nob W2 wx))
    case first =>
      cases h1 : ((tF a).kind == 1) with
      | false =>
        go_wp2_with (first | (go_at_call 86; (with_reducible refine (truth_any ta).mono ?_); rintro e w' ⟨rfl, hc'⟩; replace hcur := hcur.trans1 hc'; clear hc' x0 x1 x2 y0 y1 y2 ta tb; obtain ⟨x0, x1, x2, y0, y1, y2, ta, tb⟩ := HS.out _ hcur))
        go_meet
        case rel => exact ⟨congrArg Value.bool (by unfold u3; rw [h1]; rfl), hcur⟩
      | true =>
        cases h2 : kinB (tF b) 13 2 with
        | false =>
          go_wp2_with (first | (go_at_call 86; (with_reducible refine (truth_any ta).mono ?_); rintro e w' ⟨rfl, hc'⟩; replace hcur := hcur.trans1 hc'; clear hc' x0 x1 x2 y0 y1 y2 ta tb; obtain ⟨x0, x1, x2, y0, y1, y2, ta, tb⟩ := HS.out _ hcur) | (go_at_call 141; (with_reducible refine (kin_any (.inr ⟨rfl, rfl⟩) tb (fun h => kids_ne (.inr h))).mono ?_); rintro e w' ⟨rfl, hc'⟩; replace hcur := hcur.trans1 hc'; clear hc' x0 x1 x2 y0 y1 y2 ta tb; obtain ⟨x0, x1, x2, y0, y1, y2, ta, tb⟩ := HS.out _ hcur))
          go_meet
          case rel => exact ⟨congrArg Value.bool (by unfold u3; rw [h1, h2]; rfl), hcur⟩
        | true =>
          obtain ⟨y, hby⟩ := kinB_re.1 h2
          obtain ⟨bk2, o2, s2, c2, hsb, z0, z1, z2, hty⟩ := Hb.out.kid' (j := 1) (x := tF y) (by rw [hby]; rfl)
          have hlen : (1 : Int) < ((tF b).kids.length : Int) := by rw [hby]; simp [tF, T.kids]
          have Hk3 : Hid (kinB (kid2 (tF b)) 12 1 = kinB (tF y) 12 1) := (show kinB (kid2 (tF b)) 12 1 = kinB (tF y) 12 1 by rw [hby]; rfl)
          have HY : Hid (∀ w', Chg Nob W2 w' → w'.cell? ⟨bk2, o2 + 1 * 3, none⟩ = some (.int .i64 (tF y).kind) ∧ w'.cell? ⟨bk2, o2 + 1 * 3 + 1, none⟩ = some (.string ⟨(tF y).name.toArray⟩) ∧ w'.cell? ⟨bk2, o2 + 1 * 3 + 2, none⟩ = some (.slice s2 (tF y).kids.length c2) ∧ TI w' (tF y) (.agg #[.int .i64 (tF y).kind, .string ⟨(tF y).name.toArray⟩, .slice s2 (tF y).kids.length c2])) :=
            (show ∀ w', Chg Nob W2 w' → _ from fun w' h => ⟨(HcW.out.trans1 h).cell' z0 (fun e => e), (HcW.out.trans1 h).cell' z1 (fun e => e), (HcW.out.trans1 h).cell' z2 (fun e => e), (hty.ti HR.out).nob (HcW.out.trans1 h)⟩)
          clear z0 z1 z2 hty hby
          rw [Nat.one_mul] at HY
          obtain ⟨z0, z1, z2, ty⟩ := HY.out _ hcur
          subst hsb
          go_wp2_with (first | (go_at_call 141; (with_reducible refine (kin_any (.inl ⟨rfl, rfl⟩) ty (fun h => kids_ne (.inl h))).mono ?_); rintro e w' ⟨rfl, hc'⟩; replace hcur := hcur.trans1 hc'; clear hc' x0 x1 x2 y0 y1 y2 ta tb; obtain ⟨x0, x1, x2, y0, y1, y2, ta, tb⟩ := HS.out _ hcur; clear z0 z1 z2 ty; obtain ⟨z0, z1, z2, ty⟩ := HY.out _ hcur) | (go_at_call 86; (with_reducible refine (truth_any ta).mono ?_); rintro e w' ⟨rfl, hc'⟩; replace hcur := hcur.trans1 hc'; clear hc' x0 x1 x2 y0 y1 y2 ta tb; obtain ⟨x0, x1, x2, y0, y1, y2, ta, tb⟩ := HS.out _ hcur; clear z0 z1 z2 ty; obtain ⟨z0, z1, z2, ty⟩ := HY.out _ hcur) | (go_at_call 141; (with_reducible refine (kin_any (.inr ⟨rfl, rfl⟩) tb (fun h => kids_ne (.inr h))).mono ?_); rintro e w' ⟨rfl, hc'⟩; replace hcur := hcur.trans1 hc'; clear hc' x0 x1 x2 y0 y1 y2 ta tb; obtain ⟨x0, x1, x2, y0, y1, y2, ta, tb⟩ := HS.out _ hcur; clear z0 z1 z2 ty; obtain ⟨z0, z1, z2, ty⟩ := HY.out _ hcur))
          go_meet
          case rel => exact ⟨congrArg Value.bool (by unfold u3; rw [h1, h2, Hk3.out]; rfl), hcur⟩
    case rest =>
    obtain ⟨rfl, hcw⟩ := hcut
    replace hcur := hcw.out
    clear hcw x0 x1 x2 y0 y1 y2 ta tb
    obtain ⟨x0, x1, x2, y0, y1, y2, ta, tb⟩ := HS.out _ hcur
    cases hu3 : u3 a b with
    | true =>
      have hRb := (Hv2.out _ hcur).2
      obtain ⟨r0, r1, r2, f0, f1, f2⟩ := cells_three hRb
      have hfin : Chg Nob w _ := ((HcW.out.trans1 hcur).any (S := At1 (w.heap.size + 1))).trans1 (chg_three wc (w.heap.size + 1) (.int .i64 (tF b).kind) (.string ⟨(tF b).name.toArray⟩) (.slice sb (tF b).kids.length cb)) |>.mono (fun i hi e => by have e : i = w.heap.size + 1 := e; omega)
      have Hfin := Lib.hid hfin
      have HR3 := Lib.hid (block_three_all hRb (.int .i64 (tF b).kind) (.string ⟨(tF b).name.toArray⟩) (.slice sb (tF b).kids.length cb))
      clear hRb hfin ta tb
      go_wp2_with fail
      refine bodyPost_ret (results88 rfl HR3.out) rfl ⟨Hfin.out, _, rfl, ?_⟩
      rw [until_3 hu3 hu1]
      exact IsTree.mono (fun _ _ _ h => Hfin.out.cell' h (fun e => e)) (fun _ hb => .inl hb) _ _ Hb.out
    | false =>
    go_upto_region 8 with fail
    go_cut [53] from 54 to 60 (fun t53 wx => t53 = .bool (u4 a b) ∧ Hid (Chg Nob W2 wx))
    case first =>
      cases h1 : ((tF a).kind == 1) with
      | true =>
        go_wp2_with (first | (go_at_call 86; (with_reducible refine (truth_any ta).mono ?_); rintro e w' ⟨rfl, hc'⟩; replace hcur := hcur.trans1 hc'; clear hc' x0 x1 x2 y0 y1 y2 ta tb; obtain ⟨x0, x1, x2, y0, y1, y2, ta, tb⟩ := HS.out _ hcur))
        go_meet
        case rel => exact ⟨congrArg Value.bool (by unfold u4; rw [h1]; rfl), hcur⟩
      | false =>
        go_wp2_with (first | (go_at_call 86; (with_reducible refine (truth_any ta).mono ?_); rintro e w' ⟨rfl, hc'⟩; replace hcur := hcur.trans1 hc'; clear hc' x0 x1 x2 y0 y1 y2 ta tb; obtain ⟨x0, x1, x2, y0, y1, y2, ta, tb⟩ := HS.out _ hcur))
        go_meet
        case rel => exact ⟨congrArg Value.bool (by unfold u4; rw [h1]; rfl), hcur⟩
    case rest =>
    obtain ⟨rfl, hcw⟩ := hcut
    replace hcur := hcw.out
    clear hcw x0 x1 x2 y0 y1 y2 ta tb
    obtain ⟨x0, x1, x2, y0, y1, y2, ta, tb⟩ := HS.out _ hcur
    cases hu4 : u4 a b with
    | false =>
      have hE := until_5 hu1 hu2 hu3 hu4
      have hRb := (Hv2.out _ hcur).2
      obtain ⟨r0, r1, r2, f0, f1, f2⟩ := cells_three hRb
      obtain ⟨v0, v1, v2, _⟩ := cells_three (Hv2.out _ hcur).1
      have hfin : Chg Nob w _ := ((HcW.out.trans1 hcur).any (S := At1 (w.heap.size + 1))).trans1 (chg_three wc (w.heap.size + 1) (.int .i64 12) (.string ⟨#[]⟩) (.slice (some ⟨bk, o, none⟩) 2 cap)) |>.mono (fun i hi e => by have e : i = w.heap.size + 1 := e; omega)
      have Hfin := Lib.hid hfin
      have HR3 := Lib.hid (block_three_all hRb (.int .i64 12) (.string ⟨#[]⟩) (.slice (some ⟨bk, o, none⟩) 2 cap))
      clear hRb hfin ta tb
      go_wp2_with fail
      refine bodyPost_ret (results88 rfl HR3.out) rfl ⟨Hfin.out, _, rfl, ?_⟩
      rw [hE]
      exact IsTree.mono (fun _ _ _ h => Hfin.out.cell' h (fun e => e)) (fun _ hb => .inl hb) _ _ Hv.out
    | true =>
      obtain ⟨x, y, ha1, hby, hE⟩ := until_4 hu4 hu1 hu2
      obtain ⟨bk2, o2, s2, c2, hsb, z0, z1, z2, hty⟩ := Hb.out.kid' (j := 1) (x := tF y) (by rw [hby]; rfl)
      have hlen : (1 : Int) < ((tF b).kids.length : Int) := by rw [hby]; simp [tF, T.kids]
      have HY : Hid (∀ w', Chg Nob W2 w' → w'.cell? ⟨bk2, o2 + 1 * 3, none⟩ = some (.int .i64 (tF y).kind) ∧ w'.cell? ⟨bk2, o2 + 1 * 3 + 1, none⟩ = some (.string ⟨(tF y).name.toArray⟩) ∧ w'.cell? ⟨bk2, o2 + 1 * 3 + 2, none⟩ = some (.slice s2 (tF y).kids.length c2) ∧ IsTree R w' (tF y) (.agg #[.int .i64 (tF y).kind, .string ⟨(tF y).name.toArray⟩, .slice s2 (tF y).kids.length c2])) :=
        (show ∀ w', Chg Nob W2 w' → _ from fun w' h => ⟨(HcW.out.trans1 h).cell' z0 (fun e => e), (HcW.out.trans1 h).cell' z1 (fun e => e), (HcW.out.trans1 h).cell' z2 (fun e => e), hty.nob (HcW.out.trans1 h)⟩)
      have HA2 : Hid (∀ w', Chg Nob W2 w' → IsTree R w' (tF .tt) (.agg #[.int .i64 (tF a).kind, .string ⟨(tF a).name.toArray⟩, .slice sa (tF a).kids.length ca])) :=
        (show ∀ w', Chg Nob W2 w' → _ from fun w' h => by rw [← ha1]; exact Ha.out.nob (HcW.out.trans1 h))
      have HrecY := Lib.hid (Hrec.out x y hby)
      have HE := Lib.hid hE
      clear z0 z1 z2 hty hby ha1 hE
      rw [Nat.one_mul] at HY
      obtain ⟨z0, z1, z2, ty⟩ := HY.out _ hcur
      clear ty
      subst hsb
      have hS0 := (⟨x0, x1, x2, y2, z0, z1, z2⟩ : wc.cell? ⟨p, 0, none⟩ = some (.int .i64 (tF a).kind) ∧ wc.cell? ⟨p, 1, none⟩ = some (.string ⟨(tF a).name.toArray⟩) ∧ wc.cell? ⟨p, 2, none⟩ = some (.slice sa (tF a).kids.length ca) ∧ wc.cell? ⟨q, 2, none⟩ = some (.slice (some ⟨bk2, o2, none⟩) (tF b).kids.length cb) ∧ wc.cell? ⟨bk2, o2 + 3, none⟩ = some (.int .i64 (tF y).kind) ∧ wc.cell? ⟨bk2, o2 + 3 + 1, none⟩ = some (.string ⟨(tF y).name.toArray⟩) ∧ wc.cell? ⟨bk2, o2 + 3 + 2, none⟩ = some (.slice s2 (tF y).kids.length c2))
      have Hcur := Lib.hid hcur
      clear x0 x1 x2 y0 y1 y2 z0 z1 z2 ta tb hcur
      have hS9 : Hid (∀ w', Chg Nob wc w' → w'.cell? ⟨p, 0, none⟩ = some (.int .i64 (tF a).kind) ∧ w'.cell? ⟨p, 1, none⟩ = some (.string ⟨(tF a).name.toArray⟩) ∧ w'.cell? ⟨p, 2, none⟩ = some (.slice sa (tF a).kids.length ca) ∧ w'.cell? ⟨q, 2, none⟩ = some (.slice (some ⟨bk2, o2, none⟩) (tF b).kids.length cb) ∧ w'.cell? ⟨bk2, o2 + 3, none⟩ = some (.int .i64 (tF y).kind) ∧ w'.cell? ⟨bk2, o2 + 3 + 1, none⟩ = some (.string ⟨(tF y).name.toArray⟩) ∧ w'.cell? ⟨bk2, o2 + 3 + 2, none⟩ = some (.slice s2 (tF y).kids.length c2)) := (show ∀ w', Chg Nob wc w' → _ from fun w' h => by
        obtain ⟨g0, g1, g2, g3, g4, g5, g6⟩ := hS0
        exact ⟨h.cell' g0 (fun e => e), h.cell' g1 (fun e => e), h.cell' g2 (fun e => e), h.cell' g3 (fun e => e), h.cell' g4 (fun e => e), h.cell' g5 (fun e => e), h.cell' g6 (fun e => e)⟩)
      obtain ⟨g0, g1, g2, g3, g4, g5, g6⟩ := hS9.out wc.drew (Chg.refl _ _).drew
      clear hS0
      go_wp2_with fail
      refine wp_region_free (fun j => j != 7) (fun w' => w'.cell? ⟨p, 0, none⟩ = some (.int .i64 (tF a).kind) ∧ w'.cell? ⟨p, 1, none⟩ = some (.string ⟨(tF a).name.toArray⟩) ∧ w'.cell? ⟨p, 2, none⟩ = some (.slice sa (tF a).kids.length ca) ∧ w'.cell? ⟨q, 2, none⟩ = some (.slice (some ⟨bk2, o2, none⟩) (tF b).kids.length cb) ∧ w'.cell? ⟨bk2, o2 + 3, none⟩ = some (.int .i64 (tF y).kind) ∧ w'.cell? ⟨bk2, o2 + 3 + 1, none⟩ = some (.string ⟨(tF y).name.toArray⟩) ∧ w'.cell? ⟨bk2, o2 + 3 + 2, none⟩ = some (.slice s2 (tF y).kids.length c2)) (by kernel_rfl) ⟨g0, g1, g2, g3, g4, g5, g6⟩ (fun hHeld => ?_)
      refine wpAnyG_take (i := 0) (v := ?_) rfl (by kernel_rfl) (fun _ _ _ h => h) (Or.inl ⟨by rfl, ?_⟩) hHeld ?_
      rotate_left
      · intro w hSw; obtain ⟨g0, g1, g2, g3, g4, g5, g6⟩ := hSw; go_simp; (try (with_reducible rfl))
      simp only [Act.put, List.setIfInBounds_toArray]
      refine wpAnyG_take (i := 1) (v := ?_) rfl (by kernel_rfl) (fun _ _ _ h => h) (Or.inl ⟨by rfl, ?_⟩) hHeld ?_
      rotate_left
      · intro w hSw; obtain ⟨g0, g1, g2, g3, g4, g5, g6⟩ := hSw; go_simp; (try (with_reducible rfl))
      try simp only [Act.put]
      refine wpAnyG_take (i := 2) (v := ?_) rfl (by kernel_rfl) (fun _ _ _ h => h) (Or.inl ⟨by rfl, ?_⟩) hHeld ?_
      rotate_left
      · intro w hSw; obtain ⟨g0, g1, g2, g3, g4, g5, g6⟩ := hSw; go_simp; (try (with_reducible rfl))
      try simp only [Act.put]
      refine wpAnyG_take (i := 3) (v := ?_) rfl (by kernel_rfl) (fun _ _ _ h => h) (Or.inl ⟨by rfl, ?_⟩) hHeld ?_
      rotate_left
      · intro w hSw; obtain ⟨g0, g1, g2, g3, g4, g5, g6⟩ := hSw; go_simp; (try (with_reducible rfl))
      try simp only [Act.put]
      refine wpAnyG_take (i := 4) (v := ?_) rfl (by kernel_rfl) (fun _ _ _ h => h) (Or.inl ⟨by kernel_rfl, ?_⟩) hHeld ?_
      rotate_left
      · intro w hSw; obtain ⟨g0, g1, g2, g3, g4, g5, g6⟩ := hSw; go_simp; (try (with_reducible rfl))
      try simp only [Act.put]
      refine wpAnyG_ready (rs := [5]) (by kernel_rfl) (by simp) ?_
      refine AllReadyG.cons rfl (fun K hK => ?_) AllReadyG.nil
      rw [if_pos (by kernel_rfl)]
      go_simp
      (with_reducible refine (two_any 12 _ _ _ _ _ _ _).mono ?_)
      rintro e w5 ⟨rfl, hc5, hn5⟩
      have hc5' : Chg Nob wc w5 := (Chg.refl Nob wc).drew.trans1 hc5
      have hsz5 := (Array.getElem?_eq_some_iff.1 hn5).1
      have hlt5 : w.heap.size + 2 ≤ wc.heap.size := by have h1 := HcW.out.size; have h2 := Hcur.out.size; have h3 := Hsz.out; have h4 := hcut1.out.size; omega
      have hwd : wc.drew.heap.size = wc.heap.size := rfl
      rw [hwd] at hn5 hsz5 ⊢
      have hT5 : IsTree (fun b => R b ∨ (wc.heap.size ≤ b ∧ b < w5.heap.size)) w5 (.node 12 [] [tF .tt, tF y]) _ := IsTree.two' (k := 12) (IsTree.mono (fun _ _ _ h => h) (fun _ hb => .inl hb) _ _ (HA2.out w5 (Hcur.out.trans1 hc5'))) (IsTree.mono (fun _ _ _ h => h) (fun _ hb => .inl hb) _ _ ((HY.out w5 (Hcur.out.trans1 hc5')).2.2.2)) hn5 (.inr ⟨by omega, hsz5⟩)
      have hp6 := HrecY.out _ w5 _ (fun b hb => by rcases hb with hb | hb; have h1 := HR.out b hb; have h2 := HcW.out.size; have h3 := Hcur.out.size; have h4 := hc5'.size; omega; exact hb.2) hT5
      have Hp6 := Lib.hid hp6
      have Hc5 := Lib.hid hc5'
      have Hlt5 := Lib.hid hlt5
      clear hp6 hT5 hc5 hc5' hn5 hsz5 hlt5 hwd
      have hS5 := hS9.out w5 Hc5.out
      refine hK.out _ _ (fun _ => hS5) ?_
      clear hK K
      try simp only [Act.put]
      refine wpAnyG_ready (rs := [6]) (by kernel_rfl) (by simp) ?_
      refine AllReadyG.cons rfl (fun K hK => ?_) AllReadyG.nil
      rw [if_pos (by kernel_rfl)]
      go_simp
      (with_reducible refine Hp6.out.mono ?_)
      rintro e w6 ⟨hc6, v6, rfl, hT6⟩
      obtain ⟨a6, k6, e6⟩ := hT6.agg'
      subst e6
      have Hc6 := Lib.hid (Hc5.out.trans1 hc6)
      have HT6 := Lib.hid hT6
      have Hs6 := Lib.hid hc6.size
      clear hc6 hT6
      have hS6 := hS9.out w6 Hc6.out
      refine hK.out _ _ (fun _ => hS6) ?_
      clear hK K
      try simp only [Act.put]
      refine wpAnyG_ready (rs := [7]) (by kernel_rfl) (by simp) ?_
      refine AllReadyG.cons rfl (fun K hK => ?_) AllReadyG.nil
      rw [if_pos (by kernel_rfl)]
      have hRb := (Hv2.out _ (Hcur.out.trans1 Hc6.out)).2
      obtain ⟨r0, r1, r2, f0, f1, f2⟩ := cells_three hRb
      have k7 := chg_three w6 (w.heap.size + 1) (.int .i64 (tF (PL.untilF .tt y)).kind) (.string ⟨(tF (PL.untilF .tt y)).name.toArray⟩) (.slice a6 (tF (PL.untilF .tt y)).kids.length k6)
      have hfin : Chg Nob w _ := ((((HcW.out.trans1 Hcur.out).trans1 Hc6.out).any (S := At1 (w.heap.size + 1))).trans1 k7).mono (fun i hi e => by have e : i = w.heap.size + 1 := e; omega)
      have HT7 : Hid (IsTree _ _ _ _) := (show IsTree _ _ _ _ from IsTree.mono (R' := NewIn R w ((((w6.setCell ⟨w.heap.size + 1, 0, none⟩ (.int .i64 (tF (PL.untilF .tt y)).kind)).setCell ⟨w.heap.size + 1, 1, none⟩ (.string ⟨(tF (PL.untilF .tt y)).name.toArray⟩)).setCell ⟨w.heap.size + 1, 2, none⟩ (.slice a6 (tF (PL.untilF .tt y)).kids.length k6)))) (fun a v hb h => k7.cell' h (fun e => by have e : a.block = w.heap.size + 1 := e; have h1 := Hlt5.out; have h2 := Hc5.out.size; rcases hb with (hb | hb) | hb; have h3 := HR.out _ hb; omega; omega; omega)) (fun b hb => by have h1 := Hlt5.out; have h2 := Hc5.out.size; have h4 := Hs6.out; have h5 := k7.size; rcases hb with (hb | hb) | hb; exact .inl hb; exact .inr ⟨by omega, by omega⟩; exact .inr ⟨by omega, by omega⟩) _ _ HT6.out)
      have Hfin := Lib.hid hfin
      have HR3 := Lib.hid (block_three_all hRb (.int .i64 (tF (PL.untilF .tt y)).kind) (.string ⟨(tF (PL.untilF .tt y)).name.toArray⟩) (.slice a6 (tF (PL.untilF .tt y)).kids.length k6))
      clear hRb hfin k7
      go_simp
      refine hK.out _ _ (fun h => absurd h (by decide)) ?_
      clear hK K r0 r1 r2 f0 f1 f2
      try simp only [Act.put]
      refine wpAnyG_done (by kernel_rfl) ?_ _
      go_simp
      go_wp2_with fail
      refine bodyPost_ret (results88 rfl HR3.out) rfl ⟨Hfin.out, _, rfl, ?_⟩
      rw [HE.out]
      exact HT7.out
/-- ltl.until, of any plain formulas. -/
theorem untilP_any (a : F) : ∀ (b : F) (R : Nat → Prop) (w : World) (v : Value), (∀ b, R b → b < w.heap.size) → IsTree R w (.node 12 [] [tF a, tF b]) v → Calls Tryz.prog 88 #[v] w (FPost R (PL.untilF a b) w) := by
  have key : ∀ (b : F) (a : F) (R : Nat → Prop) (w : World) (v : Value), (∀ b, R b → b < w.heap.size) → IsTree R w (.node 12 [] [tF a, tF b]) v → Calls Tryz.prog 88 #[v] w (FPost R (PL.untilF a b) w) := by
    intro b
    induction b with
    | un x y _ ih => exact fun a R w v hR hv => until_step hR hv (fun x' y' e => by cases e; exact ih .tt)
    | _ => exact fun a R w v hR hv => until_step hR hv (fun x' y' e => by cases e)
  exact fun b => key b a
end Go.Proofs.YtkgfdgfhpdhhaaaGreat
namespace Go.Proofs.YtkgfdgfhpdhhaaaGreat
open Go.ChangeShapes Go.WideShapes Go.RowKit
open PL (F)

def ru1 (a b : F) : Bool := ((tF b).kind == 1) || ((tF b).kind == 2) || ((tF a).kind == 1) || sameT (tF a) (tF b)
def ru2 (a b : F) : Bool := ((tF a).kind == 2) && kinB (tF b) 13 2
def ru3 (a b : F) : Bool := ((tF a).kind == 2) && kinB (tF b) 12 1 && kinB (kid2 (tF b)) 13 2
def ru4 (a b : F) : Bool := ((tF a).kind == 2) && ((tF b).kind == 13)
theorem ru1_iff {a b : F} : ru1 a b = true ↔ (b = .tt ∨ b = .ff ∨ a = .tt ∨ a = b) := by
  unfold ru1
  rw [Bool.or_eq_true, Bool.or_eq_true, Bool.or_eq_true, beq_iff_eq, beq_iff_eq, beq_iff_eq, kF_ff, kF_tt, kF_tt, sameT_tF, decide_eq_true_iff, or_assoc, or_assoc]
theorem release_1 {a b : F} (h : ru1 a b = true) : PL.releaseF a b = b := by
  rw [ru1_iff] at h
  cases b with
  | re x y =>
    rw [PL.releaseF, if_pos]
    rcases h with h | h | h | h
    · cases h
    · cases h
    · exact .inl h
    · exact .inr h
  | _ =>
    rw [PL.releaseF, if_pos h]
    intro _ _ e; cases e
theorem release_2 {a b : F} (h : ru2 a b = true) (h1 : ru1 a b = false) : PL.releaseF a b = b := by
  unfold ru2 at h
  rw [Bool.and_eq_true, beq_iff_eq, kF_ff, kinB_re] at h
  obtain ⟨rfl, y, rfl⟩ := h
  rw [Bool.eq_false_iff, Ne, ru1_iff] at h1
  rw [PL.releaseF, if_neg (fun e => h1 (.inr (.inr e))), if_pos rfl, if_pos rfl]
theorem release_3 {a b : F} (h : ru3 a b = true) (h1 : ru1 a b = false) : PL.releaseF a b = b := by
  unfold ru3 at h
  rw [Bool.and_eq_true, Bool.and_eq_true, beq_iff_eq, kF_ff, kinB_un] at h
  obtain ⟨⟨rfl, y, rfl⟩, h3⟩ := h
  have h3 : kinB (tF y) 13 2 = true := h3
  rw [kinB_re] at h3
  obtain ⟨z, rfl⟩ := h3
  rw [Bool.eq_false_iff, Ne, ru1_iff] at h1
  rw [PL.releaseF, if_neg h1, if_pos ⟨rfl, rfl⟩]
  intro _ _ e; cases e
theorem release_4 {a b : F} (h : ru4 a b = true) (h1 : ru1 a b = false) (h2 : ru2 a b = false) : ∃ x y, a = .ff ∧ b = .re x y ∧ PL.releaseF a b = PL.releaseF .ff y := by
  unfold ru4 at h
  rw [Bool.and_eq_true, beq_iff_eq, beq_iff_eq, kF_ff] at h
  obtain ⟨rfl, hb⟩ := h
  obtain ⟨x, y, rfl⟩ := kF_re hb
  refine ⟨x, y, rfl, rfl, ?_⟩
  rw [Bool.eq_false_iff, Ne, ru1_iff] at h1
  rw [PL.releaseF, if_neg (fun e => h1 (.inr (.inr e))), if_pos rfl, if_neg]
  rintro rfl
  unfold ru2 at h2
  rw [kinB_re.2 ⟨y, rfl⟩] at h2
  cases h2
theorem release_5 {a b : F} (h1 : ru1 a b = false) (h2 : ru2 a b = false) (h3 : ru3 a b = false) (h4 : ru4 a b = false) : PL.releaseF a b = .re a b := by
  rw [Bool.eq_false_iff, Ne, ru1_iff] at h1
  cases b with
  | re x y =>
    rw [PL.releaseF, if_neg (fun e => h1 (.inr (.inr e))), if_neg]
    rintro rfl
    cases h4
  | _ =>
    rw [PL.releaseF, if_neg h1, if_neg]
    · rintro ⟨rfl, hf⟩
      unfold PL.gfg at hf
      split at hf
      · rename_i e
        first
        | exact absurd h3 (by show ¬ (true = false); decide)
        | (cases e; exact absurd h3 (by show ¬ (true = false); decide))
        | (cases e; done)
      · cases hf
    · intro _ _ e; cases e
theorem results89 {rb : Nat} {tm : Array Value} {w : World} {x y z : Value} (h2 : tm[2]? = some (.pointer (some ⟨rb, 0, none⟩))) (hb : w.heap[rb]? = some (.cells #[x, y, z] 24 (0, 0))) : (results Tryz.f89 tm).run Tryz.prog w = .ok (.agg #[x, y, z]) w := by
  obtain ⟨c0, c1, c2, _⟩ := cells_three hb
  simp [results, Tryz.results89, go_sem, h2, c0, c1, c2]
set_option maxRecDepth 100000 in
set_option maxHeartbeats 8000000 in
theorem release_step {R : Nat → Prop} {a b : F} {v : Value} {w : World} (hR : ∀ b, R b → b < w.heap.size) (hv : IsTree R w (.node 13 [] [tF a, tF b]) v)
    (hrec : ∀ x y, b = .re x y → ∀ R' w' v', (∀ b, R' b → b < w'.heap.size) → IsTree R' w' (.node 13 [] [tF .ff, tF y]) v' → Calls Tryz.prog 89 #[v'] w' (FPost R' (PL.releaseF .ff y) w')) :
    Calls Tryz.prog 89 #[v] w (FPost R (PL.releaseF a b) w) := by
  obtain ⟨ao, cap, e0⟩ := hv.agg'
  have e1 : v = .agg #[.int .i64 13, .string ⟨#[]⟩, .slice ao 2 cap] := e0
  clear e0
  subst e1
  obtain ⟨bk, o, sa, ca, rfl, x0, x1, x2, ha⟩ := hv.kid' (j := 0) (x := tF a) rfl
  obtain ⟨bk', o', sb, cb, e, y0, y1, y2, hb⟩ := hv.kid' (j := 1) (x := tF b) rfl
  cases e
  obtain ⟨W1, hW1e, hW1, hbv, hbr, hsz⟩ := box_two' w (.int .i64 13) (.string ⟨#[]⟩) (.slice (some ⟨bk, o, none⟩) 2 cap)
  rw [Nat.zero_mul, Nat.add_zero] at x0 x1 x2
  rw [Nat.one_mul] at y0 y1 y2
  have Hv := Lib.hid hv
  have HR := Lib.hid hR
  have Ha := Lib.hid ha
  have Hb := Lib.hid hb
  have HW1 := Lib.hid hW1
  have Hbv := Lib.hid hbv
  have Hbr := Lib.hid hbr
  have Hsz := Lib.hid hsz
  have Hrec := Lib.hid hrec
  have x0' := hW1.cell' x0 (fun e => e)
  have x1' := hW1.cell' x1 (fun e => e)
  have x2' := hW1.cell' x2 (fun e => e)
  have y0' := hW1.cell' y0 (fun e => e)
  have y1' := hW1.cell' y1 (fun e => e)
  have y2' := hW1.cell' y2 (fun e => e)
  have v2' := cell_row hbv 2 (v := .slice (some ⟨bk, o, none⟩) 2 cap) rfl
  have hx : ∀ w', Chg Nob W1 w' → w'.cell? ⟨bk, o, none⟩ = some (.int .i64 (tF a).kind) ∧ w'.cell? ⟨bk, o + 1, none⟩ = some (.string ⟨(tF a).name.toArray⟩) ∧ w'.cell? ⟨bk, o + 2, none⟩ = some (.slice sa (tF a).kids.length ca) ∧
      w'.cell? ⟨bk, o + 3, none⟩ = some (.int .i64 (tF b).kind) ∧ w'.cell? ⟨bk, o + 3 + 1, none⟩ = some (.string ⟨(tF b).name.toArray⟩) ∧ w'.cell? ⟨bk, o + 3 + 2, none⟩ = some (.slice sb (tF b).kids.length cb) ∧ w'.cell? ⟨w.heap.size, 2, none⟩ = some (.slice (some ⟨bk, o, none⟩) 2 cap) := fun w' h =>
    ⟨h.cell' x0' (fun e => e), h.cell' x1' (fun e => e), h.cell' x2' (fun e => e), h.cell' y0' (fun e => e), h.cell' y1' (fun e => e), h.cell' y2' (fun e => e), h.cell' v2' (fun e => e)⟩
  have hA : Chg Nob W1 (W1.alloc (.cells #[.int .i64 0, .string ⟨#[]⟩, .slice none 0 0] 24)) := (Chg.refl _ _).alloc _
  obtain ⟨p0, p1, p2, p3, p4, p5, p6⟩ := hx W1.drew (Chg.refl _ _).drew
  have hSx := Lib.hid hx
  clear hR hv ha hb hbv hbr hsz hrec x0 x1 x2 y0 y1 y2 hW1 hx hA x0' x1' x2' y0' y1' y2' v2'
  go_enter Tryz.func89, Tryz.ntmps89
  go_upto_region 1 with fail
  rw [← hW1e]
  clear hW1e
  go_cut [3, 4] from 5 to 12 (fun t3 t4 wx => ∃ p q : Nat, t3 = .pointer (some ⟨p, 0, none⟩) ∧ t4 = .pointer (some ⟨q, 0, none⟩) ∧ Hid (Chg Nob W1 wx ∧ wx.heap[p]? = some (.cells #[.int .i64 (tF a).kind, .string ⟨(tF a).name.toArray⟩, .slice sa (tF a).kids.length ca] 24 (0, 0)) ∧ wx.heap[q]? = some (.cells #[.int .i64 (tF b).kind, .string ⟨(tF b).name.toArray⟩, .slice sb (tF b).kids.length cb] 24 (0, 0))))
  case first =>
    go_wp2_with fail
    refine wp_region_free (fun j => j != 11) (fun w' => w'.cell? ⟨bk, o, none⟩ = some (.int .i64 (tF a).kind) ∧ w'.cell? ⟨bk, o + 1, none⟩ = some (.string ⟨(tF a).name.toArray⟩) ∧ w'.cell? ⟨bk, o + 2, none⟩ = some (.slice sa (tF a).kids.length ca) ∧ w'.cell? ⟨bk, o + 3, none⟩ = some (.int .i64 (tF b).kind) ∧ w'.cell? ⟨bk, o + 3 + 1, none⟩ = some (.string ⟨(tF b).name.toArray⟩) ∧ w'.cell? ⟨bk, o + 3 + 2, none⟩ = some (.slice sb (tF b).kids.length cb) ∧ w'.cell? ⟨w.heap.size, 2, none⟩ = some (.slice (some ⟨bk, o, none⟩) 2 cap)) (by kernel_rfl) ⟨p0, p1, p2, p3, p4, p5, p6⟩ (fun hHeld => ?_)
    refine wpAnyG_take (i := 0) (v := ?_) rfl (by kernel_rfl) (fun _ _ _ h => h) (Or.inl ⟨by rfl, ?_⟩) hHeld ?_
    rotate_left
    · intro w hSw; obtain ⟨p0, p1, p2, p3, p4, p5, p6⟩ := hSw; go_simp; (try (with_reducible rfl))
    simp only [Act.put, List.setIfInBounds_toArray]
    refine wpAnyG_take (i := 1) (v := ?_) rfl (by kernel_rfl) (fun _ _ _ h => h) (Or.inl ⟨by rfl, ?_⟩) hHeld ?_
    rotate_left
    · intro w hSw; obtain ⟨p0, p1, p2, p3, p4, p5, p6⟩ := hSw; go_simp; (try (with_reducible rfl))
    try simp only [Act.put]
    refine wpAnyG_take (i := 2) (v := ?_) rfl (by kernel_rfl) (fun _ _ _ h => h) (Or.inl ⟨by rfl, ?_⟩) hHeld ?_
    rotate_left
    · intro w hSw; obtain ⟨p0, p1, p2, p3, p4, p5, p6⟩ := hSw; go_simp; (try (with_reducible rfl))
    try simp only [Act.put]
    refine wpAnyG_take (i := 3) (v := ?_) rfl (by kernel_rfl) (fun _ _ _ h => h) (Or.inl ⟨by rfl, ?_⟩) hHeld ?_
    rotate_left
    · intro w hSw; obtain ⟨p0, p1, p2, p3, p4, p5, p6⟩ := hSw; go_simp; (try (with_reducible rfl))
    try simp only [Act.put]
    refine wpAnyG_take (i := 4) (v := ?_) rfl (by kernel_rfl) (fun _ _ _ h => h) (Or.inl ⟨by kernel_rfl, ?_⟩) hHeld ?_
    rotate_left
    · intro w hSw; obtain ⟨p0, p1, p2, p3, p4, p5, p6⟩ := hSw; go_simp; (try (with_reducible rfl))
    try simp only [Act.put]
    refine wpAnyG_take (i := 5) (v := ?_) rfl (by kernel_rfl) (fun _ _ _ h => h) (Or.inl ⟨by kernel_rfl, ?_⟩) hHeld ?_
    rotate_left
    · intro w hSw; obtain ⟨p0, p1, p2, p3, p4, p5, p6⟩ := hSw; go_simp; (try (with_reducible rfl))
    try simp only [Act.put]
    refine wpAnyG_take (i := 6) (v := ?_) rfl (by kernel_rfl) (fun _ _ _ h => h) (Or.inl ⟨by kernel_rfl, ?_⟩) hHeld ?_
    rotate_left
    · intro w hSw; obtain ⟨p0, p1, p2, p3, p4, p5, p6⟩ := hSw; go_simp; (try (with_reducible rfl))
    try simp only [Act.put]
    refine wpAnyG_take (i := 7) (v := ?_) rfl (by kernel_rfl) (fun _ _ _ h => h) (Or.inl ⟨by kernel_rfl, ?_⟩) hHeld ?_
    rotate_left
    · intro w hSw; obtain ⟨p0, p1, p2, p3, p4, p5, p6⟩ := hSw; go_simp; (try (with_reducible rfl))
    try simp only [Act.put]
    refine wpAnyG_ready (rs := [8, 9]) (by kernel_rfl) (by simp) ?_
    refine AllReadyG.cons rfl (fun K hK => ?_) (AllReadyG.cons rfl (fun K hK => ?_) AllReadyG.nil)
    · rw [if_pos (by kernel_rfl)]
      have hS1 := hSx.out ((W1.alloc (.cells #[.int .i64 0, .string ⟨#[]⟩, .slice none 0 0] 24)).drew) (((Chg.refl _ _).alloc _).drew)
      go_simp
      refine hK.out _ _ (fun _ => hS1) ?_
      clear hK K
      try simp only [Act.put]
      refine wpAnyG_ready (rs := [9]) (by kernel_rfl) (by simp) ?_
      refine AllReadyG.cons rfl (fun K hK => ?_) AllReadyG.nil
      rw [if_pos (by kernel_rfl)]
      have hS2 := hSx.out (((W1.alloc (.cells #[.int .i64 0, .string ⟨#[]⟩, .slice none 0 0] 24)).alloc (.cells #[.int .i64 0, .string ⟨#[]⟩, .slice none 0 0] 24)).drew) ((((Chg.refl _ _).alloc _).alloc _).drew)
      go_simp
      refine hK.out _ _ (fun _ => hS2) ?_
      clear hK K
      try simp only [Act.put]
      refine wpAnyG_ready (rs := [10]) (by kernel_rfl) (by simp) ?_
      refine AllReadyG.cons rfl (fun K hK => ?_) AllReadyG.nil
      rw [if_pos (by kernel_rfl)]
      have hS3 := hSx.out (((W1.alloc (.cells #[(.int .i64 (tF a).kind), (.string ⟨(tF a).name.toArray⟩), (.slice sa (tF a).kids.length ca)] 24)).alloc (.cells #[.int .i64 0, .string ⟨#[]⟩, .slice none 0 0] 24)).drew) ((((Chg.refl _ _).alloc _).alloc _).drew)
      go_simp
      refine hK.out _ _ (fun _ => hS3) ?_
      clear hK K
      try simp only [Act.put]
      refine wpAnyG_ready (rs := [11]) (by kernel_rfl) (by simp) ?_
      refine AllReadyG.cons rfl (fun K hK => ?_) AllReadyG.nil
      rw [if_pos (by kernel_rfl)]
      go_simp
      refine hK.out _ _ (fun h => absurd h (by decide)) ?_
      clear hK K
      try simp only [Act.put]
      refine wpAnyG_done (by kernel_rfl) ?_ _
      go_simp
      have h0 : Chg Nob W1 ((W1.alloc (.cells #[(.int .i64 (tF a).kind), (.string ⟨(tF a).name.toArray⟩), (.slice sa (tF a).kids.length ca)] 24)).alloc (.cells #[(.int .i64 (tF b).kind), (.string ⟨(tF b).name.toArray⟩), (.slice sb (tF b).kids.length cb)] 24)).drew := (((Chg.refl _ _).alloc _).alloc _).drew
      have h1 : ((W1.alloc (.cells #[(.int .i64 (tF a).kind), (.string ⟨(tF a).name.toArray⟩), (.slice sa (tF a).kids.length ca)] 24)).alloc (.cells #[(.int .i64 (tF b).kind), (.string ⟨(tF b).name.toArray⟩), (.slice sb (tF b).kids.length cb)] 24)).drew.heap[W1.heap.size]? = some (.cells #[(.int .i64 (tF a).kind), (.string ⟨(tF a).name.toArray⟩), (.slice sa (tF a).kids.length ca)] 24 (0, 0)) := ((Chg.refl Nob _).alloc (.cells #[(.int .i64 (tF b).kind), (.string ⟨(tF b).name.toArray⟩), (.slice sb (tF b).kids.length cb)] 24)).at (heap_alloc_new W1 (.cells #[(.int .i64 (tF a).kind), (.string ⟨(tF a).name.toArray⟩), (.slice sa (tF a).kids.length ca)] 24)) (fun e => e)
      have h2 : ((W1.alloc (.cells #[(.int .i64 (tF a).kind), (.string ⟨(tF a).name.toArray⟩), (.slice sa (tF a).kids.length ca)] 24)).alloc (.cells #[(.int .i64 (tF b).kind), (.string ⟨(tF b).name.toArray⟩), (.slice sb (tF b).kids.length cb)] 24)).drew.heap[W1.heap.size + 1]? = some (.cells #[(.int .i64 (tF b).kind), (.string ⟨(tF b).name.toArray⟩), (.slice sb (tF b).kids.length cb)] 24 (0, 0)) := by
        have h := heap_alloc_new (W1.alloc (.cells #[(.int .i64 (tF a).kind), (.string ⟨(tF a).name.toArray⟩), (.slice sa (tF a).kids.length ca)] 24)) (.cells #[(.int .i64 (tF b).kind), (.string ⟨(tF b).name.toArray⟩), (.slice sb (tF b).kids.length cb)] 24)
        rwa [World.size_alloc] at h
      go_wp2_with fail
      go_meet
      case rel => exact ⟨W1.heap.size, W1.heap.size + 1, rfl, rfl, h0, h1, h2⟩
    · rw [if_pos (by kernel_rfl)]
      have hS1 := hSx.out ((W1.alloc (.cells #[.int .i64 0, .string ⟨#[]⟩, .slice none 0 0] 24)).drew) (((Chg.refl _ _).alloc _).drew)
      go_simp
      refine hK.out _ _ (fun _ => hS1) ?_
      clear hK K
      try simp only [Act.put]
      refine wpAnyG_ready (rs := [8]) (by kernel_rfl) (by simp) ?_
      refine AllReadyG.cons rfl (fun K hK => ?_) AllReadyG.nil
      rw [if_pos (by kernel_rfl)]
      have hS2 := hSx.out (((W1.alloc (.cells #[.int .i64 0, .string ⟨#[]⟩, .slice none 0 0] 24)).alloc (.cells #[.int .i64 0, .string ⟨#[]⟩, .slice none 0 0] 24)).drew) ((((Chg.refl _ _).alloc _).alloc _).drew)
      go_simp
      refine hK.out _ _ (fun _ => hS2) ?_
      clear hK K
      try simp only [Act.put]
      refine wpAnyG_ready (rs := [10]) (by kernel_rfl) (by simp) ?_
      refine AllReadyG.cons rfl (fun K hK => ?_) AllReadyG.nil
      rw [if_pos (by kernel_rfl)]
      have hS3 := hSx.out (((W1.alloc (.cells #[.int .i64 0, .string ⟨#[]⟩, .slice none 0 0] 24)).alloc (.cells #[(.int .i64 (tF a).kind), (.string ⟨(tF a).name.toArray⟩), (.slice sa (tF a).kids.length ca)] 24)).drew) ((((Chg.refl _ _).alloc _).alloc _).drew)
      go_simp
      refine hK.out _ _ (fun _ => hS3) ?_
      clear hK K
      try simp only [Act.put]
      refine wpAnyG_ready (rs := [11]) (by kernel_rfl) (by simp) ?_
      refine AllReadyG.cons rfl (fun K hK => ?_) AllReadyG.nil
      rw [if_pos (by kernel_rfl)]
      go_simp
      refine hK.out _ _ (fun h => absurd h (by decide)) ?_
      clear hK K
      try simp only [Act.put]
      refine wpAnyG_done (by kernel_rfl) ?_ _
      go_simp
      have h0 : Chg Nob W1 ((W1.alloc (.cells #[(.int .i64 (tF b).kind), (.string ⟨(tF b).name.toArray⟩), (.slice sb (tF b).kids.length cb)] 24)).alloc (.cells #[(.int .i64 (tF a).kind), (.string ⟨(tF a).name.toArray⟩), (.slice sa (tF a).kids.length ca)] 24)).drew := (((Chg.refl _ _).alloc _).alloc _).drew
      have h1 : ((W1.alloc (.cells #[(.int .i64 (tF b).kind), (.string ⟨(tF b).name.toArray⟩), (.slice sb (tF b).kids.length cb)] 24)).alloc (.cells #[(.int .i64 (tF a).kind), (.string ⟨(tF a).name.toArray⟩), (.slice sa (tF a).kids.length ca)] 24)).drew.heap[W1.heap.size]? = some (.cells #[(.int .i64 (tF b).kind), (.string ⟨(tF b).name.toArray⟩), (.slice sb (tF b).kids.length cb)] 24 (0, 0)) := ((Chg.refl Nob _).alloc (.cells #[(.int .i64 (tF a).kind), (.string ⟨(tF a).name.toArray⟩), (.slice sa (tF a).kids.length ca)] 24)).at (heap_alloc_new W1 (.cells #[(.int .i64 (tF b).kind), (.string ⟨(tF b).name.toArray⟩), (.slice sb (tF b).kids.length cb)] 24)) (fun e => e)
      have h2 : ((W1.alloc (.cells #[(.int .i64 (tF b).kind), (.string ⟨(tF b).name.toArray⟩), (.slice sb (tF b).kids.length cb)] 24)).alloc (.cells #[(.int .i64 (tF a).kind), (.string ⟨(tF a).name.toArray⟩), (.slice sa (tF a).kids.length ca)] 24)).drew.heap[W1.heap.size + 1]? = some (.cells #[(.int .i64 (tF a).kind), (.string ⟨(tF a).name.toArray⟩), (.slice sa (tF a).kids.length ca)] 24 (0, 0)) := by
        have h := heap_alloc_new (W1.alloc (.cells #[(.int .i64 (tF b).kind), (.string ⟨(tF b).name.toArray⟩), (.slice sb (tF b).kids.length cb)] 24)) (.cells #[(.int .i64 (tF a).kind), (.string ⟨(tF a).name.toArray⟩), (.slice sa (tF a).kids.length ca)] 24)
        rwa [World.size_alloc] at h
      go_wp2_with fail
      go_meet
      case rel => exact ⟨W1.heap.size + 1, W1.heap.size, rfl, rfl, h0, h2, h1⟩
  case rest =>
    obtain ⟨p, q, rfl, rfl, hcut2⟩ := hcut
    obtain ⟨W2, hW2⟩ : ∃ X, X = wc := ⟨_, rfl⟩
    subst hW2
    have hcb := hcut2.out.1
    have hcut1 := Lib.hid hcb
    have hpb := hcut2.out.2.1
    have hqb := hcut2.out.2.2
    have HcW : Hid (Chg Nob w W2) := (show Chg Nob w W2 from HW1.out.trans1 hcb)
    have Hv2 : Hid (∀ w', Chg Nob W2 w' → w'.heap[w.heap.size]? = some (.cells #[.int .i64 13, .string ⟨#[]⟩, .slice (some ⟨bk, o, none⟩) 2 cap] 24 (0, 0)) ∧ w'.heap[w.heap.size + 1]? = some (.cells #[.int .i64 0, .string ⟨#[]⟩, .slice none 0 0] 24 (0, 0))) :=
      (show ∀ w', Chg Nob W2 w' → _ from fun w' h => ⟨(hcb.trans1 h).at Hbv.out (fun e => e), (hcb.trans1 h).at Hbr.out (fun e => e)⟩)
    have HS : Hid (∀ w', Chg Nob W2 w' → w'.cell? ⟨p, 0, none⟩ = some (.int .i64 (tF a).kind) ∧ w'.cell? ⟨p, 1, none⟩ = some (.string ⟨(tF a).name.toArray⟩) ∧ w'.cell? ⟨p, 2, none⟩ = some (.slice sa (tF a).kids.length ca) ∧
        w'.cell? ⟨q, 0, none⟩ = some (.int .i64 (tF b).kind) ∧ w'.cell? ⟨q, 1, none⟩ = some (.string ⟨(tF b).name.toArray⟩) ∧ w'.cell? ⟨q, 2, none⟩ = some (.slice sb (tF b).kids.length cb) ∧
        TI w' (tF a) (.agg #[.int .i64 (tF a).kind, .string ⟨(tF a).name.toArray⟩, .slice sa (tF a).kids.length ca]) ∧ TI w' (tF b) (.agg #[.int .i64 (tF b).kind, .string ⟨(tF b).name.toArray⟩, .slice sb (tF b).kids.length cb])) :=
      (show ∀ w', Chg Nob W2 w' → _ from fun w' h => by
        obtain ⟨a0, a1, a2, _⟩ := cells_three (h.at hpb (fun e => e))
        obtain ⟨b0, b1, b2, _⟩ := cells_three (h.at hqb (fun e => e))
        exact ⟨a0, a1, a2, b0, b1, b2, (Ha.out.ti HR.out).nob (HcW.out.trans1 h), (Hb.out.ti HR.out).nob (HcW.out.trans1 h)⟩)
    have hcur := Chg.refl Nob W2
    obtain ⟨x0, x1, x2, y0, y1, y2, ta, tb⟩ := HS.out _ hcur
    clear hcut2 hcb hpb hqb hSx p0 p1 p2 p3 p4 p5 p6
    go_upto_region 2 with fail
    go_cut [13] from 14 to 28 (fun t13 wx => t13 = .bool (ru1 a b) ∧ Hid (Chg Nob W2 wx))
    case first =>
      cases h1 : ((tF b).kind == 1) with
      | true =>
        go_wp2_with (first | (go_at_call 87; (with_reducible refine (falsity_any tb).mono ?_); rintro e w' ⟨rfl, hc'⟩; replace hcur := hcur.trans1 hc'; clear hc' x0 x1 x2 y0 y1 y2 ta tb; obtain ⟨x0, x1, x2, y0, y1, y2, ta, tb⟩ := HS.out _ hcur) | (go_at_call 86; (with_reducible refine (truth_any tb).mono ?_); rintro e w' ⟨rfl, hc'⟩; replace hcur := hcur.trans1 hc'; clear hc' x0 x1 x2 y0 y1 y2 ta tb; obtain ⟨x0, x1, x2, y0, y1, y2, ta, tb⟩ := HS.out _ hcur) | (go_at_call 86; (with_reducible refine (truth_any ta).mono ?_); rintro e w' ⟨rfl, hc'⟩; replace hcur := hcur.trans1 hc'; clear hc' x0 x1 x2 y0 y1 y2 ta tb; obtain ⟨x0, x1, x2, y0, y1, y2, ta, tb⟩ := HS.out _ hcur) | (go_at_call 138; (with_reducible refine (same_ti ta tb).mono ?_); rintro e w' ⟨rfl, hc'⟩; replace hcur := hcur.trans1 hc'; clear hc' x0 x1 x2 y0 y1 y2 ta tb; obtain ⟨x0, x1, x2, y0, y1, y2, ta, tb⟩ := HS.out _ hcur))
        go_meet
        case rel => exact ⟨congrArg Value.bool (by unfold ru1; rw [h1]; rfl), hcur⟩
      | false =>
        cases h2 : ((tF b).kind == 2) with
        | true =>
          go_wp2_with (first | (go_at_call 87; (with_reducible refine (falsity_any tb).mono ?_); rintro e w' ⟨rfl, hc'⟩; replace hcur := hcur.trans1 hc'; clear hc' x0 x1 x2 y0 y1 y2 ta tb; obtain ⟨x0, x1, x2, y0, y1, y2, ta, tb⟩ := HS.out _ hcur) | (go_at_call 86; (with_reducible refine (truth_any tb).mono ?_); rintro e w' ⟨rfl, hc'⟩; replace hcur := hcur.trans1 hc'; clear hc' x0 x1 x2 y0 y1 y2 ta tb; obtain ⟨x0, x1, x2, y0, y1, y2, ta, tb⟩ := HS.out _ hcur) | (go_at_call 86; (with_reducible refine (truth_any ta).mono ?_); rintro e w' ⟨rfl, hc'⟩; replace hcur := hcur.trans1 hc'; clear hc' x0 x1 x2 y0 y1 y2 ta tb; obtain ⟨x0, x1, x2, y0, y1, y2, ta, tb⟩ := HS.out _ hcur) | (go_at_call 138; (with_reducible refine (same_ti ta tb).mono ?_); rintro e w' ⟨rfl, hc'⟩; replace hcur := hcur.trans1 hc'; clear hc' x0 x1 x2 y0 y1 y2 ta tb; obtain ⟨x0, x1, x2, y0, y1, y2, ta, tb⟩ := HS.out _ hcur))
          go_meet
          case rel => exact ⟨congrArg Value.bool (by unfold ru1; rw [h1, h2]; rfl), hcur⟩
        | false =>
          cases h3 : ((tF a).kind == 1) with
          | true =>
            go_wp2_with (first | (go_at_call 87; (with_reducible refine (falsity_any tb).mono ?_); rintro e w' ⟨rfl, hc'⟩; replace hcur := hcur.trans1 hc'; clear hc' x0 x1 x2 y0 y1 y2 ta tb; obtain ⟨x0, x1, x2, y0, y1, y2, ta, tb⟩ := HS.out _ hcur) | (go_at_call 86; (with_reducible refine (truth_any tb).mono ?_); rintro e w' ⟨rfl, hc'⟩; replace hcur := hcur.trans1 hc'; clear hc' x0 x1 x2 y0 y1 y2 ta tb; obtain ⟨x0, x1, x2, y0, y1, y2, ta, tb⟩ := HS.out _ hcur) | (go_at_call 86; (with_reducible refine (truth_any ta).mono ?_); rintro e w' ⟨rfl, hc'⟩; replace hcur := hcur.trans1 hc'; clear hc' x0 x1 x2 y0 y1 y2 ta tb; obtain ⟨x0, x1, x2, y0, y1, y2, ta, tb⟩ := HS.out _ hcur) | (go_at_call 138; (with_reducible refine (same_ti ta tb).mono ?_); rintro e w' ⟨rfl, hc'⟩; replace hcur := hcur.trans1 hc'; clear hc' x0 x1 x2 y0 y1 y2 ta tb; obtain ⟨x0, x1, x2, y0, y1, y2, ta, tb⟩ := HS.out _ hcur))
            go_meet
            case rel => exact ⟨congrArg Value.bool (by unfold ru1; rw [h1, h2, h3]; rfl), hcur⟩
          | false =>
            go_wp2_with (first | (go_at_call 87; (with_reducible refine (falsity_any tb).mono ?_); rintro e w' ⟨rfl, hc'⟩; replace hcur := hcur.trans1 hc'; clear hc' x0 x1 x2 y0 y1 y2 ta tb; obtain ⟨x0, x1, x2, y0, y1, y2, ta, tb⟩ := HS.out _ hcur) | (go_at_call 86; (with_reducible refine (truth_any tb).mono ?_); rintro e w' ⟨rfl, hc'⟩; replace hcur := hcur.trans1 hc'; clear hc' x0 x1 x2 y0 y1 y2 ta tb; obtain ⟨x0, x1, x2, y0, y1, y2, ta, tb⟩ := HS.out _ hcur) | (go_at_call 86; (with_reducible refine (truth_any ta).mono ?_); rintro e w' ⟨rfl, hc'⟩; replace hcur := hcur.trans1 hc'; clear hc' x0 x1 x2 y0 y1 y2 ta tb; obtain ⟨x0, x1, x2, y0, y1, y2, ta, tb⟩ := HS.out _ hcur) | (go_at_call 138; (with_reducible refine (same_ti ta tb).mono ?_); rintro e w' ⟨rfl, hc'⟩; replace hcur := hcur.trans1 hc'; clear hc' x0 x1 x2 y0 y1 y2 ta tb; obtain ⟨x0, x1, x2, y0, y1, y2, ta, tb⟩ := HS.out _ hcur))
            go_meet
            case rel => exact ⟨congrArg Value.bool (by unfold ru1; rw [h1, h2, h3]; rfl), hcur⟩
    case rest =>
    obtain ⟨rfl, hcw⟩ := hcut
    replace hcur := hcw.out
    clear hcw x0 x1 x2 y0 y1 y2 ta tb
    obtain ⟨x0, x1, x2, y0, y1, y2, ta, tb⟩ := HS.out _ hcur
    cases hu1 : ru1 a b with
    | true =>
      have hRb := (Hv2.out _ hcur).2
      obtain ⟨r0, r1, r2, f0, f1, f2⟩ := cells_three hRb
      have hfin : Chg Nob w _ := ((HcW.out.trans1 hcur).any (S := At1 (w.heap.size + 1))).trans1 (chg_three wc (w.heap.size + 1) (.int .i64 (tF b).kind) (.string ⟨(tF b).name.toArray⟩) (.slice sb (tF b).kids.length cb)) |>.mono (fun i hi e => by have e : i = w.heap.size + 1 := e; omega)
      have Hfin := Lib.hid hfin
      have HR3 := Lib.hid (block_three_all hRb (.int .i64 (tF b).kind) (.string ⟨(tF b).name.toArray⟩) (.slice sb (tF b).kids.length cb))
      clear hRb hfin ta tb
      go_wp2_with fail
      refine bodyPost_ret (results89 rfl HR3.out) rfl ⟨Hfin.out, _, rfl, ?_⟩
      rw [release_1 hu1]
      exact IsTree.mono (fun _ _ _ h => Hfin.out.cell' h (fun e => e)) (fun _ hb => .inl hb) _ _ Hb.out
    | false =>
    go_upto_region 4 with fail
    go_cut [30] from 31 to 36 (fun t30 wx => t30 = .bool (ru2 a b) ∧ Hid (Chg Nob W2 wx))
    case first =>
      cases h1 : ((tF a).kind == 2) with
      | true =>
        go_wp2_with (first | (go_at_call 87; (with_reducible refine (falsity_any ta).mono ?_); rintro e w' ⟨rfl, hc'⟩; replace hcur := hcur.trans1 hc'; clear hc' x0 x1 x2 y0 y1 y2 ta tb; obtain ⟨x0, x1, x2, y0, y1, y2, ta, tb⟩ := HS.out _ hcur) | (go_at_call 141; (with_reducible refine (kin_any (.inr ⟨rfl, rfl⟩) tb (fun h => kids_ne (.inr h))).mono ?_); rintro e w' ⟨rfl, hc'⟩; replace hcur := hcur.trans1 hc'; clear hc' x0 x1 x2 y0 y1 y2 ta tb; obtain ⟨x0, x1, x2, y0, y1, y2, ta, tb⟩ := HS.out _ hcur))
        go_meet
        case rel => exact ⟨congrArg Value.bool (by unfold ru2; rw [h1]; rfl), hcur⟩
      | false =>
        go_wp2_with (first | (go_at_call 87; (with_reducible refine (falsity_any ta).mono ?_); rintro e w' ⟨rfl, hc'⟩; replace hcur := hcur.trans1 hc'; clear hc' x0 x1 x2 y0 y1 y2 ta tb; obtain ⟨x0, x1, x2, y0, y1, y2, ta, tb⟩ := HS.out _ hcur) | (go_at_call 141; (with_reducible refine (kin_any (.inr ⟨rfl, rfl⟩) tb (fun h => kids_ne (.inr h))).mono ?_); rintro e w' ⟨rfl, hc'⟩; replace hcur := hcur.trans1 hc'; clear hc' x0 x1 x2 y0 y1 y2 ta tb; obtain ⟨x0, x1, x2, y0, y1, y2, ta, tb⟩ := HS.out _ hcur))
        go_meet
        case rel => exact ⟨congrArg Value.bool (by unfold ru2; rw [h1]; rfl), hcur⟩
    case rest =>
    obtain ⟨rfl, hcw⟩ := hcut
    replace hcur := hcw.out
    clear hcw x0 x1 x2 y0 y1 y2 ta tb
    obtain ⟨x0, x1, x2, y0, y1, y2, ta, tb⟩ := HS.out _ hcur
    cases hu2 : ru2 a b with
    | true =>
      have hRb := (Hv2.out _ hcur).2
      obtain ⟨r0, r1, r2, f0, f1, f2⟩ := cells_three hRb
      have hfin : Chg Nob w _ := ((HcW.out.trans1 hcur).any (S := At1 (w.heap.size + 1))).trans1 (chg_three wc (w.heap.size + 1) (.int .i64 (tF b).kind) (.string ⟨(tF b).name.toArray⟩) (.slice sb (tF b).kids.length cb)) |>.mono (fun i hi e => by have e : i = w.heap.size + 1 := e; omega)
      have Hfin := Lib.hid hfin
      have HR3 := Lib.hid (block_three_all hRb (.int .i64 (tF b).kind) (.string ⟨(tF b).name.toArray⟩) (.slice sb (tF b).kids.length cb))
      clear hRb hfin ta tb
      go_wp2_with fail
      refine bodyPost_ret (results89 rfl HR3.out) rfl ⟨Hfin.out, _, rfl, ?_⟩
      rw [release_2 hu2 hu1]
      exact IsTree.mono (fun _ _ _ h => Hfin.out.cell' h (fun e => e)) (fun _ hb => .inl hb) _ _ Hb.out
    | false =>
    go_upto_region 6 with fail
    go_cut [38] from 39 to 51 (fun t38 wx => t38 = .bool (ru3 a b) ∧ Hid (Chg Nob W2 wx))
    case first =>
      cases h1 : ((tF a).kind == 2) with
      | false =>
        go_wp2_with (first | (go_at_call 87; (with_reducible refine (falsity_any ta).mono ?_); rintro e w' ⟨rfl, hc'⟩; replace hcur := hcur.trans1 hc'; clear hc' x0 x1 x2 y0 y1 y2 ta tb; obtain ⟨x0, x1, x2, y0, y1, y2, ta, tb⟩ := HS.out _ hcur))
        go_meet
        case rel => exact ⟨congrArg Value.bool (by unfold ru3; rw [h1]; rfl), hcur⟩
      | true =>
        cases h2 : kinB (tF b) 12 1 with
        | false =>
          go_wp2_with (first | (go_at_call 87; (with_reducible refine (falsity_any ta).mono ?_); rintro e w' ⟨rfl, hc'⟩; replace hcur := hcur.trans1 hc'; clear hc' x0 x1 x2 y0 y1 y2 ta tb; obtain ⟨x0, x1, x2, y0, y1, y2, ta, tb⟩ := HS.out _ hcur) | (go_at_call 141; (with_reducible refine (kin_any (.inl ⟨rfl, rfl⟩) tb (fun h => kids_ne (.inl h))).mono ?_); rintro e w' ⟨rfl, hc'⟩; replace hcur := hcur.trans1 hc'; clear hc' x0 x1 x2 y0 y1 y2 ta tb; obtain ⟨x0, x1, x2, y0, y1, y2, ta, tb⟩ := HS.out _ hcur))
          go_meet
          case rel => exact ⟨congrArg Value.bool (by unfold ru3; rw [h1, h2]; rfl), hcur⟩
        | true =>
          obtain ⟨y, hby⟩ := kinB_un.1 h2
          obtain ⟨bk2, o2, s2, c2, hsb, z0, z1, z2, hty⟩ := Hb.out.kid' (j := 1) (x := tF y) (by rw [hby]; rfl)
          have hlen : (1 : Int) < ((tF b).kids.length : Int) := by rw [hby]; simp [tF, T.kids]
          have Hk3 : Hid (kinB (kid2 (tF b)) 13 2 = kinB (tF y) 13 2) := (show kinB (kid2 (tF b)) 13 2 = kinB (tF y) 13 2 by rw [hby]; rfl)
          have HY : Hid (∀ w', Chg Nob W2 w' → w'.cell? ⟨bk2, o2 + 1 * 3, none⟩ = some (.int .i64 (tF y).kind) ∧ w'.cell? ⟨bk2, o2 + 1 * 3 + 1, none⟩ = some (.string ⟨(tF y).name.toArray⟩) ∧ w'.cell? ⟨bk2, o2 + 1 * 3 + 2, none⟩ = some (.slice s2 (tF y).kids.length c2) ∧ TI w' (tF y) (.agg #[.int .i64 (tF y).kind, .string ⟨(tF y).name.toArray⟩, .slice s2 (tF y).kids.length c2])) :=
            (show ∀ w', Chg Nob W2 w' → _ from fun w' h => ⟨(HcW.out.trans1 h).cell' z0 (fun e => e), (HcW.out.trans1 h).cell' z1 (fun e => e), (HcW.out.trans1 h).cell' z2 (fun e => e), (hty.ti HR.out).nob (HcW.out.trans1 h)⟩)
          clear z0 z1 z2 hty hby
          rw [Nat.one_mul] at HY
          obtain ⟨z0, z1, z2, ty⟩ := HY.out _ hcur
          subst hsb
          go_wp2_with (first | (go_at_call 141; (with_reducible refine (kin_any (.inr ⟨rfl, rfl⟩) ty (fun h => kids_ne (.inr h))).mono ?_); rintro e w' ⟨rfl, hc'⟩; replace hcur := hcur.trans1 hc'; clear hc' x0 x1 x2 y0 y1 y2 ta tb; obtain ⟨x0, x1, x2, y0, y1, y2, ta, tb⟩ := HS.out _ hcur; clear z0 z1 z2 ty; obtain ⟨z0, z1, z2, ty⟩ := HY.out _ hcur) | (go_at_call 87; (with_reducible refine (falsity_any ta).mono ?_); rintro e w' ⟨rfl, hc'⟩; replace hcur := hcur.trans1 hc'; clear hc' x0 x1 x2 y0 y1 y2 ta tb; obtain ⟨x0, x1, x2, y0, y1, y2, ta, tb⟩ := HS.out _ hcur; clear z0 z1 z2 ty; obtain ⟨z0, z1, z2, ty⟩ := HY.out _ hcur) | (go_at_call 141; (with_reducible refine (kin_any (.inl ⟨rfl, rfl⟩) tb (fun h => kids_ne (.inl h))).mono ?_); rintro e w' ⟨rfl, hc'⟩; replace hcur := hcur.trans1 hc'; clear hc' x0 x1 x2 y0 y1 y2 ta tb; obtain ⟨x0, x1, x2, y0, y1, y2, ta, tb⟩ := HS.out _ hcur; clear z0 z1 z2 ty; obtain ⟨z0, z1, z2, ty⟩ := HY.out _ hcur))
          go_meet
          case rel => exact ⟨congrArg Value.bool (by unfold ru3; rw [h1, h2, Hk3.out]; rfl), hcur⟩
    case rest =>
    obtain ⟨rfl, hcw⟩ := hcut
    replace hcur := hcw.out
    clear hcw x0 x1 x2 y0 y1 y2 ta tb
    obtain ⟨x0, x1, x2, y0, y1, y2, ta, tb⟩ := HS.out _ hcur
    cases hu3 : ru3 a b with
    | true =>
      have hRb := (Hv2.out _ hcur).2
      obtain ⟨r0, r1, r2, f0, f1, f2⟩ := cells_three hRb
      have hfin : Chg Nob w _ := ((HcW.out.trans1 hcur).any (S := At1 (w.heap.size + 1))).trans1 (chg_three wc (w.heap.size + 1) (.int .i64 (tF b).kind) (.string ⟨(tF b).name.toArray⟩) (.slice sb (tF b).kids.length cb)) |>.mono (fun i hi e => by have e : i = w.heap.size + 1 := e; omega)
      have Hfin := Lib.hid hfin
      have HR3 := Lib.hid (block_three_all hRb (.int .i64 (tF b).kind) (.string ⟨(tF b).name.toArray⟩) (.slice sb (tF b).kids.length cb))
      clear hRb hfin ta tb
      go_wp2_with fail
      refine bodyPost_ret (results89 rfl HR3.out) rfl ⟨Hfin.out, _, rfl, ?_⟩
      rw [release_3 hu3 hu1]
      exact IsTree.mono (fun _ _ _ h => Hfin.out.cell' h (fun e => e)) (fun _ hb => .inl hb) _ _ Hb.out
    | false =>
    go_upto_region 8 with fail
    go_cut [53] from 54 to 60 (fun t53 wx => t53 = .bool (ru4 a b) ∧ Hid (Chg Nob W2 wx))
    case first =>
      cases h1 : ((tF a).kind == 2) with
      | true =>
        go_wp2_with (first | (go_at_call 87; (with_reducible refine (falsity_any ta).mono ?_); rintro e w' ⟨rfl, hc'⟩; replace hcur := hcur.trans1 hc'; clear hc' x0 x1 x2 y0 y1 y2 ta tb; obtain ⟨x0, x1, x2, y0, y1, y2, ta, tb⟩ := HS.out _ hcur))
        go_meet
        case rel => exact ⟨congrArg Value.bool (by unfold ru4; rw [h1]; rfl), hcur⟩
      | false =>
        go_wp2_with (first | (go_at_call 87; (with_reducible refine (falsity_any ta).mono ?_); rintro e w' ⟨rfl, hc'⟩; replace hcur := hcur.trans1 hc'; clear hc' x0 x1 x2 y0 y1 y2 ta tb; obtain ⟨x0, x1, x2, y0, y1, y2, ta, tb⟩ := HS.out _ hcur))
        go_meet
        case rel => exact ⟨congrArg Value.bool (by unfold ru4; rw [h1]; rfl), hcur⟩
    case rest =>
    obtain ⟨rfl, hcw⟩ := hcut
    replace hcur := hcw.out
    clear hcw x0 x1 x2 y0 y1 y2 ta tb
    obtain ⟨x0, x1, x2, y0, y1, y2, ta, tb⟩ := HS.out _ hcur
    cases hu4 : ru4 a b with
    | false =>
      have hE := release_5 hu1 hu2 hu3 hu4
      have hRb := (Hv2.out _ hcur).2
      obtain ⟨r0, r1, r2, f0, f1, f2⟩ := cells_three hRb
      obtain ⟨v0, v1, v2, _⟩ := cells_three (Hv2.out _ hcur).1
      have hfin : Chg Nob w _ := ((HcW.out.trans1 hcur).any (S := At1 (w.heap.size + 1))).trans1 (chg_three wc (w.heap.size + 1) (.int .i64 13) (.string ⟨#[]⟩) (.slice (some ⟨bk, o, none⟩) 2 cap)) |>.mono (fun i hi e => by have e : i = w.heap.size + 1 := e; omega)
      have Hfin := Lib.hid hfin
      have HR3 := Lib.hid (block_three_all hRb (.int .i64 13) (.string ⟨#[]⟩) (.slice (some ⟨bk, o, none⟩) 2 cap))
      clear hRb hfin ta tb
      go_wp2_with fail
      refine bodyPost_ret (results89 rfl HR3.out) rfl ⟨Hfin.out, _, rfl, ?_⟩
      rw [hE]
      exact IsTree.mono (fun _ _ _ h => Hfin.out.cell' h (fun e => e)) (fun _ hb => .inl hb) _ _ Hv.out
    | true =>
      obtain ⟨x, y, ha1, hby, hE⟩ := release_4 hu4 hu1 hu2
      obtain ⟨bk2, o2, s2, c2, hsb, z0, z1, z2, hty⟩ := Hb.out.kid' (j := 1) (x := tF y) (by rw [hby]; rfl)
      have hlen : (1 : Int) < ((tF b).kids.length : Int) := by rw [hby]; simp [tF, T.kids]
      have HY : Hid (∀ w', Chg Nob W2 w' → w'.cell? ⟨bk2, o2 + 1 * 3, none⟩ = some (.int .i64 (tF y).kind) ∧ w'.cell? ⟨bk2, o2 + 1 * 3 + 1, none⟩ = some (.string ⟨(tF y).name.toArray⟩) ∧ w'.cell? ⟨bk2, o2 + 1 * 3 + 2, none⟩ = some (.slice s2 (tF y).kids.length c2) ∧ IsTree R w' (tF y) (.agg #[.int .i64 (tF y).kind, .string ⟨(tF y).name.toArray⟩, .slice s2 (tF y).kids.length c2])) :=
        (show ∀ w', Chg Nob W2 w' → _ from fun w' h => ⟨(HcW.out.trans1 h).cell' z0 (fun e => e), (HcW.out.trans1 h).cell' z1 (fun e => e), (HcW.out.trans1 h).cell' z2 (fun e => e), hty.nob (HcW.out.trans1 h)⟩)
      have HA2 : Hid (∀ w', Chg Nob W2 w' → IsTree R w' (tF .ff) (.agg #[.int .i64 (tF a).kind, .string ⟨(tF a).name.toArray⟩, .slice sa (tF a).kids.length ca])) :=
        (show ∀ w', Chg Nob W2 w' → _ from fun w' h => by rw [← ha1]; exact Ha.out.nob (HcW.out.trans1 h))
      have HrecY := Lib.hid (Hrec.out x y hby)
      have HE := Lib.hid hE
      clear z0 z1 z2 hty hby ha1 hE
      rw [Nat.one_mul] at HY
      obtain ⟨z0, z1, z2, ty⟩ := HY.out _ hcur
      clear ty
      subst hsb
      have hS0 := (⟨x0, x1, x2, y2, z0, z1, z2⟩ : wc.cell? ⟨p, 0, none⟩ = some (.int .i64 (tF a).kind) ∧ wc.cell? ⟨p, 1, none⟩ = some (.string ⟨(tF a).name.toArray⟩) ∧ wc.cell? ⟨p, 2, none⟩ = some (.slice sa (tF a).kids.length ca) ∧ wc.cell? ⟨q, 2, none⟩ = some (.slice (some ⟨bk2, o2, none⟩) (tF b).kids.length cb) ∧ wc.cell? ⟨bk2, o2 + 3, none⟩ = some (.int .i64 (tF y).kind) ∧ wc.cell? ⟨bk2, o2 + 3 + 1, none⟩ = some (.string ⟨(tF y).name.toArray⟩) ∧ wc.cell? ⟨bk2, o2 + 3 + 2, none⟩ = some (.slice s2 (tF y).kids.length c2))
      have Hcur := Lib.hid hcur
      clear x0 x1 x2 y0 y1 y2 z0 z1 z2 ta tb hcur
      have hS9 : Hid (∀ w', Chg Nob wc w' → w'.cell? ⟨p, 0, none⟩ = some (.int .i64 (tF a).kind) ∧ w'.cell? ⟨p, 1, none⟩ = some (.string ⟨(tF a).name.toArray⟩) ∧ w'.cell? ⟨p, 2, none⟩ = some (.slice sa (tF a).kids.length ca) ∧ w'.cell? ⟨q, 2, none⟩ = some (.slice (some ⟨bk2, o2, none⟩) (tF b).kids.length cb) ∧ w'.cell? ⟨bk2, o2 + 3, none⟩ = some (.int .i64 (tF y).kind) ∧ w'.cell? ⟨bk2, o2 + 3 + 1, none⟩ = some (.string ⟨(tF y).name.toArray⟩) ∧ w'.cell? ⟨bk2, o2 + 3 + 2, none⟩ = some (.slice s2 (tF y).kids.length c2)) := (show ∀ w', Chg Nob wc w' → _ from fun w' h => by
        obtain ⟨g0, g1, g2, g3, g4, g5, g6⟩ := hS0
        exact ⟨h.cell' g0 (fun e => e), h.cell' g1 (fun e => e), h.cell' g2 (fun e => e), h.cell' g3 (fun e => e), h.cell' g4 (fun e => e), h.cell' g5 (fun e => e), h.cell' g6 (fun e => e)⟩)
      obtain ⟨g0, g1, g2, g3, g4, g5, g6⟩ := hS9.out wc.drew (Chg.refl _ _).drew
      clear hS0
      go_wp2_with fail
      refine wp_region_free (fun j => j != 7) (fun w' => w'.cell? ⟨p, 0, none⟩ = some (.int .i64 (tF a).kind) ∧ w'.cell? ⟨p, 1, none⟩ = some (.string ⟨(tF a).name.toArray⟩) ∧ w'.cell? ⟨p, 2, none⟩ = some (.slice sa (tF a).kids.length ca) ∧ w'.cell? ⟨q, 2, none⟩ = some (.slice (some ⟨bk2, o2, none⟩) (tF b).kids.length cb) ∧ w'.cell? ⟨bk2, o2 + 3, none⟩ = some (.int .i64 (tF y).kind) ∧ w'.cell? ⟨bk2, o2 + 3 + 1, none⟩ = some (.string ⟨(tF y).name.toArray⟩) ∧ w'.cell? ⟨bk2, o2 + 3 + 2, none⟩ = some (.slice s2 (tF y).kids.length c2)) (by kernel_rfl) ⟨g0, g1, g2, g3, g4, g5, g6⟩ (fun hHeld => ?_)
      refine wpAnyG_take (i := 0) (v := ?_) rfl (by kernel_rfl) (fun _ _ _ h => h) (Or.inl ⟨by rfl, ?_⟩) hHeld ?_
      rotate_left
      · intro w hSw; obtain ⟨g0, g1, g2, g3, g4, g5, g6⟩ := hSw; go_simp; (try (with_reducible rfl))
      simp only [Act.put, List.setIfInBounds_toArray]
      refine wpAnyG_take (i := 1) (v := ?_) rfl (by kernel_rfl) (fun _ _ _ h => h) (Or.inl ⟨by rfl, ?_⟩) hHeld ?_
      rotate_left
      · intro w hSw; obtain ⟨g0, g1, g2, g3, g4, g5, g6⟩ := hSw; go_simp; (try (with_reducible rfl))
      try simp only [Act.put]
      refine wpAnyG_take (i := 2) (v := ?_) rfl (by kernel_rfl) (fun _ _ _ h => h) (Or.inl ⟨by rfl, ?_⟩) hHeld ?_
      rotate_left
      · intro w hSw; obtain ⟨g0, g1, g2, g3, g4, g5, g6⟩ := hSw; go_simp; (try (with_reducible rfl))
      try simp only [Act.put]
      refine wpAnyG_take (i := 3) (v := ?_) rfl (by kernel_rfl) (fun _ _ _ h => h) (Or.inl ⟨by rfl, ?_⟩) hHeld ?_
      rotate_left
      · intro w hSw; obtain ⟨g0, g1, g2, g3, g4, g5, g6⟩ := hSw; go_simp; (try (with_reducible rfl))
      try simp only [Act.put]
      refine wpAnyG_take (i := 4) (v := ?_) rfl (by kernel_rfl) (fun _ _ _ h => h) (Or.inl ⟨by kernel_rfl, ?_⟩) hHeld ?_
      rotate_left
      · intro w hSw; obtain ⟨g0, g1, g2, g3, g4, g5, g6⟩ := hSw; go_simp; (try (with_reducible rfl))
      try simp only [Act.put]
      refine wpAnyG_ready (rs := [5]) (by kernel_rfl) (by simp) ?_
      refine AllReadyG.cons rfl (fun K hK => ?_) AllReadyG.nil
      rw [if_pos (by kernel_rfl)]
      go_simp
      (with_reducible refine (two_any 13 _ _ _ _ _ _ _).mono ?_)
      rintro e w5 ⟨rfl, hc5, hn5⟩
      have hc5' : Chg Nob wc w5 := (Chg.refl Nob wc).drew.trans1 hc5
      have hsz5 := (Array.getElem?_eq_some_iff.1 hn5).1
      have hlt5 : w.heap.size + 2 ≤ wc.heap.size := by have h1 := HcW.out.size; have h2 := Hcur.out.size; have h3 := Hsz.out; have h4 := hcut1.out.size; omega
      have hwd : wc.drew.heap.size = wc.heap.size := rfl
      rw [hwd] at hn5 hsz5 ⊢
      have hT5 : IsTree (fun b => R b ∨ (wc.heap.size ≤ b ∧ b < w5.heap.size)) w5 (.node 13 [] [tF .ff, tF y]) _ := IsTree.two' (k := 13) (IsTree.mono (fun _ _ _ h => h) (fun _ hb => .inl hb) _ _ (HA2.out w5 (Hcur.out.trans1 hc5'))) (IsTree.mono (fun _ _ _ h => h) (fun _ hb => .inl hb) _ _ ((HY.out w5 (Hcur.out.trans1 hc5')).2.2.2)) hn5 (.inr ⟨by omega, hsz5⟩)
      have hp6 := HrecY.out _ w5 _ (fun b hb => by rcases hb with hb | hb; have h1 := HR.out b hb; have h2 := HcW.out.size; have h3 := Hcur.out.size; have h4 := hc5'.size; omega; exact hb.2) hT5
      have Hp6 := Lib.hid hp6
      have Hc5 := Lib.hid hc5'
      have Hlt5 := Lib.hid hlt5
      clear hp6 hT5 hc5 hc5' hn5 hsz5 hlt5 hwd
      have hS5 := hS9.out w5 Hc5.out
      refine hK.out _ _ (fun _ => hS5) ?_
      clear hK K
      try simp only [Act.put]
      refine wpAnyG_ready (rs := [6]) (by kernel_rfl) (by simp) ?_
      refine AllReadyG.cons rfl (fun K hK => ?_) AllReadyG.nil
      rw [if_pos (by kernel_rfl)]
      go_simp
      (with_reducible refine Hp6.out.mono ?_)
      rintro e w6 ⟨hc6, v6, rfl, hT6⟩
      obtain ⟨a6, k6, e6⟩ := hT6.agg'
      subst e6
      have Hc6 := Lib.hid (Hc5.out.trans1 hc6)
      have HT6 := Lib.hid hT6
      have Hs6 := Lib.hid hc6.size
      clear hc6 hT6
      have hS6 := hS9.out w6 Hc6.out
      refine hK.out _ _ (fun _ => hS6) ?_
      clear hK K
      try simp only [Act.put]
      refine wpAnyG_ready (rs := [7]) (by kernel_rfl) (by simp) ?_
      refine AllReadyG.cons rfl (fun K hK => ?_) AllReadyG.nil
      rw [if_pos (by kernel_rfl)]
      have hRb := (Hv2.out _ (Hcur.out.trans1 Hc6.out)).2
      obtain ⟨r0, r1, r2, f0, f1, f2⟩ := cells_three hRb
      have k7 := chg_three w6 (w.heap.size + 1) (.int .i64 (tF (PL.releaseF .ff y)).kind) (.string ⟨(tF (PL.releaseF .ff y)).name.toArray⟩) (.slice a6 (tF (PL.releaseF .ff y)).kids.length k6)
      have hfin : Chg Nob w _ := ((((HcW.out.trans1 Hcur.out).trans1 Hc6.out).any (S := At1 (w.heap.size + 1))).trans1 k7).mono (fun i hi e => by have e : i = w.heap.size + 1 := e; omega)
      have HT7 : Hid (IsTree _ _ _ _) := (show IsTree _ _ _ _ from IsTree.mono (R' := NewIn R w ((((w6.setCell ⟨w.heap.size + 1, 0, none⟩ (.int .i64 (tF (PL.releaseF .ff y)).kind)).setCell ⟨w.heap.size + 1, 1, none⟩ (.string ⟨(tF (PL.releaseF .ff y)).name.toArray⟩)).setCell ⟨w.heap.size + 1, 2, none⟩ (.slice a6 (tF (PL.releaseF .ff y)).kids.length k6)))) (fun a v hb h => k7.cell' h (fun e => by have e : a.block = w.heap.size + 1 := e; have h1 := Hlt5.out; have h2 := Hc5.out.size; rcases hb with (hb | hb) | hb; have h3 := HR.out _ hb; omega; omega; omega)) (fun b hb => by have h1 := Hlt5.out; have h2 := Hc5.out.size; have h4 := Hs6.out; have h5 := k7.size; rcases hb with (hb | hb) | hb; exact .inl hb; exact .inr ⟨by omega, by omega⟩; exact .inr ⟨by omega, by omega⟩) _ _ HT6.out)
      have Hfin := Lib.hid hfin
      have HR3 := Lib.hid (block_three_all hRb (.int .i64 (tF (PL.releaseF .ff y)).kind) (.string ⟨(tF (PL.releaseF .ff y)).name.toArray⟩) (.slice a6 (tF (PL.releaseF .ff y)).kids.length k6))
      clear hRb hfin k7
      go_simp
      refine hK.out _ _ (fun h => absurd h (by decide)) ?_
      clear hK K r0 r1 r2 f0 f1 f2
      try simp only [Act.put]
      refine wpAnyG_done (by kernel_rfl) ?_ _
      go_simp
      go_wp2_with fail
      refine bodyPost_ret (results89 rfl HR3.out) rfl ⟨Hfin.out, _, rfl, ?_⟩
      rw [HE.out]
      exact HT7.out
/-- ltl.release, of any plain formulas. -/
theorem releaseP_any (a : F) : ∀ (b : F) (R : Nat → Prop) (w : World) (v : Value), (∀ b, R b → b < w.heap.size) → IsTree R w (.node 13 [] [tF a, tF b]) v → Calls Tryz.prog 89 #[v] w (FPost R (PL.releaseF a b) w) := by
  have key : ∀ (b : F) (a : F) (R : Nat → Prop) (w : World) (v : Value), (∀ b, R b → b < w.heap.size) → IsTree R w (.node 13 [] [tF a, tF b]) v → Calls Tryz.prog 89 #[v] w (FPost R (PL.releaseF a b) w) := by
    intro b
    induction b with
    | re x y _ ih => exact fun a R w v hR hv => release_step hR hv (fun x' y' e => by cases e; exact ih .ff)
    | _ => exact fun a R w v hR hv => release_step hR hv (fun x' y' e => by cases e)
  exact fun b => key b a
end Go.Proofs.YtkgfdgfhpdhhaaaGreat
