/- The reference's columns: a formula's normal form and its opposite's. Conditions: the formula may be. -/
import Derived.Test.YtkgfdgfhpdhhaaaGreatRcol
import Derived.Test.YtkgfdgfhpdhhaaaGreatTi
namespace Go.Proofs.YtkgfdgfhpdhhaaaGreat
open Go.ChangeShapes Go.WideShapes Go.RowKit

/-- A formula's value, by its parts. -/
structure Bv where
  k : Int
  nm : ByteArray
  ao : Option Addr
  len : Nat
  cap : Nat
def Bv.agg (v : Bv) : Value := .agg #[.int .i64 v.k, .string v.nm, .slice v.ao v.len v.cap]
def Bv.zero : Bv := ⟨0, ⟨#[]⟩, none, 0, 0⟩
/-- What both columns leave. -/
def ColPost (t : T) (w : World) (e : Ending) (w' : World) : Prop := Chg Nob w w' ∧ ∃ u v : Bv, e = .returned (.tuple #[.agg #[.int .i64 u.k, .string u.nm, .slice u.ao u.len u.cap], .agg #[.int .i64 v.k, .string v.nm, .slice v.ao v.len v.cap]]) ∧
  Fresh (Ge w.heap.size) w' (nfT t false) (.agg #[.int .i64 u.k, .string u.nm, .slice u.ao u.len u.cap]) ∧ Fresh (Ge w.heap.size) w' (nfT t true) (.agg #[.int .i64 v.k, .string v.nm, .slice v.ao v.len v.cap])
def assoc {α : Type} : List (Nat × α) → Nat → Option α
  | [], _ => none
  | q :: l, d => if q.1 = d then some q.2 else assoc l d
def AllQ {α : Type} (E : Nat → α → Prop) : List (Nat × α) → Prop
  | [] => True
  | q :: l => E q.1 q.2 ∧ AllQ E l
theorem AllQ.at {α : Type} {E : Nat → α → Prop} : ∀ {l : List (Nat × α)}, AllQ E l → ∀ p t, assoc l p = some t → E p t
  | [], _, p, t, h => by cases h
  | q :: l, hl, p, t, h => by
    unfold assoc at h
    split at h
    · rename_i e; subst e; cases h; exact hl.1
    · exact AllQ.at hl.2 p t h
def depB (l : List Oper) (o : Oper) (x : Nat) : Bool := (List.range o.after.size).any fun q => match o.after[q]? with
  | some e => Region.binds .any e && (match l[e.on]? with
    | some o' => o'.dst == some x
    | none => false)
  | none => false
theorem dep_of {l : List Oper} {o : Oper} {x : Nat} (h : depB l o x = true) : Dep l.toArray o x := by
  unfold depB at h
  obtain ⟨q, _, hq⟩ := List.any_eq_true.1 h
  cases he : o.after[q]? with
  | none => rw [he] at hq; cases hq
  | some e =>
    rw [he] at hq
    simp only [Bool.and_eq_true] at hq
    obtain ⟨hb, ho⟩ := hq
    cases ho' : l[e.on]? with
    | none => rw [ho'] at ho; cases ho
    | some o' =>
      rw [ho'] at ho
      exact ⟨q, e, o', he, hb, by simpa using ho', by simpa using ho⟩
theorem boxes7 (w : World) (a0 a1 a2 : Value) : ∃ X, X = ((((((w.alloc (.cells #[a0, a1, a2] 24)).alloc box37).alloc box37).alloc box37).alloc box37).alloc box37).alloc box37 ∧ Chg Nob w X ∧ X.heap.size = w.heap.size + 7 ∧ X.heap[w.heap.size]? = some (.cells #[a0, a1, a2] 24 (0, 0)) ∧
    ∀ j, 1 ≤ j → j ≤ 6 → X.heap[w.heap.size + j]? = some (.cells #[.int .i64 0, .string ⟨#[]⟩, .slice none 0 0] 24 (0, 0)) := by
  have h0 := heap_alloc_new w (.cells #[a0, a1, a2] 24)
  have step : ∀ (V : World), Chg Nob V (V.alloc box37) ∧ (V.alloc box37).heap.size = V.heap.size + 1 ∧ (V.alloc box37).heap[V.heap.size]? = some (.cells #[.int .i64 0, .string ⟨#[]⟩, .slice none 0 0] 24 (0, 0)) := fun V => ⟨(Chg.refl _ _).alloc _, World.size_alloc _ _, heap_alloc_new V _⟩
  have s0 : (w.alloc (.cells #[a0, a1, a2] 24)).heap.size = w.heap.size + 1 := World.size_alloc _ _
  have c0 : Chg Nob w (w.alloc (.cells #[a0, a1, a2] 24)) := (Chg.refl _ _).alloc _
  generalize w.alloc (.cells #[a0, a1, a2] 24) = V0 at *
  obtain ⟨c1, s1, h1⟩ := step V0
  generalize V0.alloc box37 = V1 at *
  obtain ⟨c2, s2, h2⟩ := step V1
  generalize V1.alloc box37 = V2 at *
  obtain ⟨c3, s3, h3⟩ := step V2
  generalize V2.alloc box37 = V3 at *
  obtain ⟨c4, s4, h4⟩ := step V3
  generalize V3.alloc box37 = V4 at *
  obtain ⟨c5, s5, h5⟩ := step V4
  generalize V4.alloc box37 = V5 at *
  obtain ⟨c6, s6, h6⟩ := step V5
  refine ⟨_, rfl, (((((c0.trans1 c1).trans1 c2).trans1 c3).trans1 c4).trans1 c5).trans1 c6, by omega, (((((c1.trans1 c2).trans1 c3).trans1 c4).trans1 c5).trans1 c6).at h0 (fun e => e), fun j hj1 hj2 => ?_⟩
  have hj : j = 1 ∨ j = 2 ∨ j = 3 ∨ j = 4 ∨ j = 5 ∨ j = 6 := by omega
  rcases hj with rfl | rfl | rfl | rfl | rfl | rfl
  · rw [show w.heap.size + 1 = V0.heap.size by omega]; exact ((((c2.trans1 c3).trans1 c4).trans1 c5).trans1 c6).at h1 (fun e => e)
  · rw [show w.heap.size + 2 = V1.heap.size by omega]; exact (((c3.trans1 c4).trans1 c5).trans1 c6).at h2 (fun e => e)
  · rw [show w.heap.size + 3 = V2.heap.size by omega]; exact ((c4.trans1 c5).trans1 c6).at h3 (fun e => e)
  · rw [show w.heap.size + 4 = V3.heap.size by omega]; exact (c5.trans1 c6).at h4 (fun e => e)
  · rw [show w.heap.size + 5 = V4.heap.size by omega]; exact c6.at h5 (fun e => e)
  · rw [show w.heap.size + 6 = V5.heap.size by omega]; exact h6
/-- The boxes of a call: the formula's, both results', the kids' columns'. -/
structure Cs (w W : World) (tv v4 v5 v6 v7 : Bv) (t4 t5 t6 t7 : T) : Prop where
  c : Chg Nob w W
  s : w.heap.size + 7 ≤ W.heap.size
  b0 : W.heap[w.heap.size]? = some (.cells #[.int .i64 tv.k, .string tv.nm, .slice tv.ao tv.len tv.cap] 24 (0, 0))
  b2 : W.heap[w.heap.size + 1]? = some (.cells #[.int .i64 0, .string ⟨#[]⟩, .slice none 0 0] 24 (0, 0))
  b3 : W.heap[w.heap.size + 1 + 1]? = some (.cells #[.int .i64 0, .string ⟨#[]⟩, .slice none 0 0] 24 (0, 0))
  b4 : W.heap[w.heap.size + 1 + 1 + 1]? = some (.cells #[.int .i64 v4.k, .string v4.nm, .slice v4.ao v4.len v4.cap] 24 (0, 0))
  b5 : W.heap[w.heap.size + 1 + 1 + 1 + 1]? = some (.cells #[.int .i64 v5.k, .string v5.nm, .slice v5.ao v5.len v5.cap] 24 (0, 0))
  b6 : W.heap[w.heap.size + 1 + 1 + 1 + 1 + 1]? = some (.cells #[.int .i64 v6.k, .string v6.nm, .slice v6.ao v6.len v6.cap] 24 (0, 0))
  b7 : W.heap[w.heap.size + 1 + 1 + 1 + 1 + 1 + 1]? = some (.cells #[.int .i64 v7.k, .string v7.nm, .slice v7.ao v7.len v7.cap] 24 (0, 0))
  f4 : Fresh (Ge (w.heap.size + 7)) W t4 (.agg #[.int .i64 v4.k, .string v4.nm, .slice v4.ao v4.len v4.cap])
  f5 : Fresh (Ge (w.heap.size + 7)) W t5 (.agg #[.int .i64 v5.k, .string v5.nm, .slice v5.ao v5.len v5.cap])
  f6 : Fresh (Ge (w.heap.size + 7)) W t6 (.agg #[.int .i64 v6.k, .string v6.nm, .slice v6.ao v6.len v6.cap])
  f7 : Fresh (Ge (w.heap.size + 7)) W t7 (.agg #[.int .i64 v7.k, .string v7.nm, .slice v7.ao v7.len v7.cap])
section
variable {w W W' : World} {tv v4 v5 v6 v7 u1 u2 : Bv} {t4 t5 t6 t7 x1 x2 : T}
theorem Cs.first (w : World) (tv : Bv) : ∃ X, X = ((((((w.alloc (.cells #[.int .i64 tv.k, .string tv.nm, .slice tv.ao tv.len tv.cap] 24)).alloc box37).alloc box37).alloc box37).alloc box37).alloc box37).alloc box37 ∧ X.heap.size = w.heap.size + 7 ∧ Cs w X tv Bv.zero Bv.zero Bv.zero Bv.zero (.node 0 [] []) (.node 0 [] []) (.node 0 [] []) (.node 0 [] []) := by
  obtain ⟨X, hX, hc, hs, h0, hj⟩ := boxes7 w (.int .i64 tv.k) (.string tv.nm) (.slice tv.ao tv.len tv.cap)
  exact ⟨X, hX, hs, hc, Nat.le_of_eq hs.symm, h0, hj 1 (by omega) (by omega), hj 2 (by omega) (by omega), hj 3 (by omega) (by omega), hj 4 (by omega) (by omega), hj 5 (by omega) (by omega), hj 6 (by omega) (by omega), leafF _ _ 0 [], leafF _ _ 0 [], leafF _ _ 0 [], leafF _ _ 0 []⟩
theorem Cs.chg (h : Cs w W tv v4 v5 v6 v7 t4 t5 t6 t7) (hc : Chg Nob W W') : Cs w W' tv v4 v5 v6 v7 t4 t5 t6 t7 :=
  have hn : ∀ b, ¬ Nob b := fun _ e => e
  ⟨h.c.trans1 hc, Nat.le_trans h.s hc.size, hc.at h.b0 (hn _), hc.at h.b2 (hn _), hc.at h.b3 (hn _), hc.at h.b4 (hn _), hc.at h.b5 (hn _), hc.at h.b6 (hn _), hc.at h.b7 (hn _), h.f4.chg hc (fun _ _ _ e => e) (fun _ h => h), h.f5.chg hc (fun _ _ _ e => e) (fun _ h => h), h.f6.chg hc (fun _ _ _ e => e) (fun _ h => h), h.f7.chg hc (fun _ _ _ e => e) (fun _ h => h)⟩
theorem Cs.set46 (h : Cs w W tv v4 v5 v6 v7 t4 t5 t6 t7) (h1 : Fresh (Ge (w.heap.size + 7)) W x1 (.agg #[.int .i64 u1.k, .string u1.nm, .slice u1.ao u1.len u1.cap])) (h2 : Fresh (Ge (w.heap.size + 7)) W x2 (.agg #[.int .i64 u2.k, .string u2.nm, .slice u2.ao u2.len u2.cap])) :
    Cs w ((((((W.setCell ⟨w.heap.size + 1 + 1 + 1, 0, none⟩ (.int .i64 u1.k)).setCell ⟨w.heap.size + 1 + 1 + 1, 1, none⟩ (.string u1.nm)).setCell ⟨w.heap.size + 1 + 1 + 1, 2, none⟩ (.slice u1.ao u1.len u1.cap)).setCell ⟨w.heap.size + 1 + 1 + 1 + 1 + 1, 0, none⟩ (.int .i64 u2.k)).setCell ⟨w.heap.size + 1 + 1 + 1 + 1 + 1, 1, none⟩ (.string u2.nm)).setCell ⟨w.heap.size + 1 + 1 + 1 + 1 + 1, 2, none⟩ (.slice u2.ao u2.len u2.cap)) tv u1 v5 u2 v7 x1 t5 x2 t7 := by
  have k1 := chg_three W (w.heap.size + 1 + 1 + 1) (.int .i64 u1.k) (.string u1.nm) (.slice u1.ao u1.len u1.cap)
  have d1 := block_three_all h.b4 (.int .i64 u1.k) (.string u1.nm) (.slice u1.ao u1.len u1.cap)
  have d2 := k1.at h.b6 (fun e => by have e : w.heap.size + 1 + 1 + 1 + 1 + 1 = w.heap.size + 1 + 1 + 1 := e; omega)
  generalize ((W.setCell ⟨w.heap.size + 1 + 1 + 1, 0, none⟩ (.int .i64 u1.k)).setCell ⟨w.heap.size + 1 + 1 + 1, 1, none⟩ (.string u1.nm)).setCell ⟨w.heap.size + 1 + 1 + 1, 2, none⟩ (.slice u1.ao u1.len u1.cap) = V at *
  have k2 := chg_three V (w.heap.size + 1 + 1 + 1 + 1 + 1) (.int .i64 u2.k) (.string u2.nm) (.slice u2.ao u2.len u2.cap)
  have d3 := block_three_all d2 (.int .i64 u2.k) (.string u2.nm) (.slice u2.ao u2.len u2.cap)
  have d4 := k2.at d1 (fun e => by have e : w.heap.size + 1 + 1 + 1 = w.heap.size + 1 + 1 + 1 + 1 + 1 := e; omega)
  generalize ((V.setCell ⟨w.heap.size + 1 + 1 + 1 + 1 + 1, 0, none⟩ (.int .i64 u2.k)).setCell ⟨w.heap.size + 1 + 1 + 1 + 1 + 1, 1, none⟩ (.string u2.nm)).setCell ⟨w.heap.size + 1 + 1 + 1 + 1 + 1, 2, none⟩ (.slice u2.ao u2.len u2.cap) = U at *
  have kk : Chg (fun b => b = w.heap.size + 1 + 1 + 1 ∨ b = w.heap.size + 1 + 1 + 1 + 1 + 1) W U := (k1.mono (fun _ _ e => .inl e)).trans k2 (fun _ _ e => .inr e)
  have kF : ∀ {t : T} {v : Value}, Fresh (Ge (w.heap.size + 7)) W t v → Fresh (Ge (w.heap.size + 7)) U t v := fun hf => hf.chg kk (fun b hb _ e => by unfold Ge at hb; rcases e with e | e <;> omega) (fun _ h => h)
  exact ⟨h.c.trans kk (fun i hi e => by rcases e with e | e <;> omega), Nat.le_trans h.s kk.size, kk.at h.b0 (fun e => by rcases e with e | e <;> omega), kk.at h.b2 (fun e => by rcases e with e | e <;> omega), kk.at h.b3 (fun e => by rcases e with e | e <;> omega), d4, kk.at h.b5 (fun e => by rcases e with e | e <;> omega), d3, kk.at h.b7 (fun e => by rcases e with e | e <;> omega), kF h1, kF h.f5, kF h2, kF h.f7⟩
theorem Cs.set57 (h : Cs w W tv v4 v5 v6 v7 t4 t5 t6 t7) (h1 : Fresh (Ge (w.heap.size + 7)) W x1 (.agg #[.int .i64 u1.k, .string u1.nm, .slice u1.ao u1.len u1.cap])) (h2 : Fresh (Ge (w.heap.size + 7)) W x2 (.agg #[.int .i64 u2.k, .string u2.nm, .slice u2.ao u2.len u2.cap])) :
    Cs w ((((((W.setCell ⟨w.heap.size + 1 + 1 + 1 + 1, 0, none⟩ (.int .i64 u1.k)).setCell ⟨w.heap.size + 1 + 1 + 1 + 1, 1, none⟩ (.string u1.nm)).setCell ⟨w.heap.size + 1 + 1 + 1 + 1, 2, none⟩ (.slice u1.ao u1.len u1.cap)).setCell ⟨w.heap.size + 1 + 1 + 1 + 1 + 1 + 1, 0, none⟩ (.int .i64 u2.k)).setCell ⟨w.heap.size + 1 + 1 + 1 + 1 + 1 + 1, 1, none⟩ (.string u2.nm)).setCell ⟨w.heap.size + 1 + 1 + 1 + 1 + 1 + 1, 2, none⟩ (.slice u2.ao u2.len u2.cap)) tv v4 u1 v6 u2 t4 x1 t6 x2 := by
  have k1 := chg_three W (w.heap.size + 1 + 1 + 1 + 1) (.int .i64 u1.k) (.string u1.nm) (.slice u1.ao u1.len u1.cap)
  have d1 := block_three_all h.b5 (.int .i64 u1.k) (.string u1.nm) (.slice u1.ao u1.len u1.cap)
  have d2 := k1.at h.b7 (fun e => by have e : w.heap.size + 1 + 1 + 1 + 1 + 1 + 1 = w.heap.size + 1 + 1 + 1 + 1 := e; omega)
  generalize ((W.setCell ⟨w.heap.size + 1 + 1 + 1 + 1, 0, none⟩ (.int .i64 u1.k)).setCell ⟨w.heap.size + 1 + 1 + 1 + 1, 1, none⟩ (.string u1.nm)).setCell ⟨w.heap.size + 1 + 1 + 1 + 1, 2, none⟩ (.slice u1.ao u1.len u1.cap) = V at *
  have k2 := chg_three V (w.heap.size + 1 + 1 + 1 + 1 + 1 + 1) (.int .i64 u2.k) (.string u2.nm) (.slice u2.ao u2.len u2.cap)
  have d3 := block_three_all d2 (.int .i64 u2.k) (.string u2.nm) (.slice u2.ao u2.len u2.cap)
  have d4 := k2.at d1 (fun e => by have e : w.heap.size + 1 + 1 + 1 + 1 = w.heap.size + 1 + 1 + 1 + 1 + 1 + 1 := e; omega)
  generalize ((V.setCell ⟨w.heap.size + 1 + 1 + 1 + 1 + 1 + 1, 0, none⟩ (.int .i64 u2.k)).setCell ⟨w.heap.size + 1 + 1 + 1 + 1 + 1 + 1, 1, none⟩ (.string u2.nm)).setCell ⟨w.heap.size + 1 + 1 + 1 + 1 + 1 + 1, 2, none⟩ (.slice u2.ao u2.len u2.cap) = U at *
  have kk : Chg (fun b => b = w.heap.size + 1 + 1 + 1 + 1 ∨ b = w.heap.size + 1 + 1 + 1 + 1 + 1 + 1) W U := (k1.mono (fun _ _ e => .inl e)).trans k2 (fun _ _ e => .inr e)
  have kF : ∀ {t : T} {v : Value}, Fresh (Ge (w.heap.size + 7)) W t v → Fresh (Ge (w.heap.size + 7)) U t v := fun hf => hf.chg kk (fun b hb _ e => by unfold Ge at hb; rcases e with e | e <;> omega) (fun _ h => h)
  exact ⟨h.c.trans kk (fun i hi e => by rcases e with e | e <;> omega), Nat.le_trans h.s kk.size, kk.at h.b0 (fun e => by rcases e with e | e <;> omega), kk.at h.b2 (fun e => by rcases e with e | e <;> omega), kk.at h.b3 (fun e => by rcases e with e | e <;> omega), kk.at h.b4 (fun e => by rcases e with e | e <;> omega), d4, kk.at h.b6 (fun e => by rcases e with e | e <;> omega), d3, kF h.f4, kF h1, kF h.f6, kF h2⟩
end
theorem results64 {B : Nat} {tm : Array Value} {w : World} {a0 a1 a2 m0 m1 m2 : Value} (h2 : tm[2]? = some (.pointer (some ⟨B, 0, none⟩))) (h3 : tm[3]? = some (.pointer (some ⟨B + 1, 0, none⟩))) (hb : w.heap[B]? = some (.cells #[a0, a1, a2] 24 (0, 0))) (hb1 : w.heap[B + 1]? = some (.cells #[m0, m1, m2] 24 (0, 0))) :
    (results Tryz.f50 tm).run Tryz.prog w = .ok (.tuple #[.agg #[a0, a1, a2], .agg #[m0, m1, m2]]) w := by
  obtain ⟨c0, c1, c2, _⟩ := cells_three hb
  obtain ⟨d0, d1, d2, _⟩ := cells_three hb1
  simp [results, Tryz.results50, go_sem, h2, h3, c0, c1, c2, d0, d1, d2]
theorem drew_chg {W : World} : Chg Nob W W.drew := (Chg.refl _ _).drew
theorem col_end {t : T} {w W : World} {a : Act} {w' : World} (hc : Chg Nob w W) (h : CEnd (nfT t false) (nfT t true) (w.heap.size + 1) (w.heap.size + 7) W.drew a w') : bodyPost Tryz.prog Tryz.f50 (ColPost t w) Exit.ret a w' := by
  obtain ⟨k, nm, ao, len, cap, e1, e2⟩ := h.r2
  obtain ⟨k', nm', ao', len', cap', f1, f2⟩ := h.r3
  refine bodyPost_ret (results64 h.s2 h.s3 e1 f1) h.defers ⟨(hc.trans1 drew_chg).trans h.chg (fun i hi e => by rcases e with e | e <;> omega), ⟨k, nm, ao, len, cap⟩, ⟨k', nm', ao', len', cap'⟩, rfl, ?_, ?_⟩
  · exact e2.chg (Chg.refl Nob _) (fun _ _ _ e => e) (fun b hb => by unfold Ge at hb ⊢; omega)
  · exact f2.chg (Chg.refl Nob _) (fun _ _ _ e => e) (fun b hb => by unfold Ge at hb ⊢; omega)
/-- A box that the region reads. -/
def PtE (w W : World) (a : Act) (p : Nat) (t : T) : Prop := ∃ b k nm ao len cap, a.tmps[p]? = some (.pointer (some ⟨b, 0, none⟩)) ∧ b ≠ w.heap.size + 1 ∧ b ≠ w.heap.size + 1 + 1 ∧ W.heap[b]? = some (.cells #[.int .i64 k, .string nm, .slice ao len cap] 24 (0, 0)) ∧ Fresh (Ge (w.heap.size + 7)) W t (.agg #[.int .i64 k, .string nm, .slice ao len cap])
theorem cinv_start {w W : World} {tv v4 v5 v6 v7 : Bv} {t4 t5 t6 t7 t2 t3 : T} {ops : Array Oper} {ann : Nat → Option Ann} {ptl : List (Nat × T)} {a : Act} (h : Cs w W tv v4 v5 v6 v7 t4 t5 t6 t7) (hsz : a.tmps.size = 174) (hd : a.defers = []) (s2 : a.tmps[2]? = some (.pointer (some ⟨w.heap.size + 1, 0, none⟩))) (s3 : a.tmps[3]? = some (.pointer (some ⟨w.heap.size + 1 + 1, 0, none⟩)))
    (hp : AllQ (PtE w W a) ptl) : CInv ops ann (assoc ptl) t2 t3 (w.heap.size + 1) (w.heap.size + 7) W.drew (Array.replicate ops.size false) a W.drew := by
  have h' := h.chg (drew_chg (W := W))
  have hno : ∀ j, (Array.replicate ops.size false).getD j false = true → False := fun j hj => by
    rw [Array.getD_eq_getD_getElem?, Array.getElem?_replicate] at hj
    split at hj <;> cases hj
  refine ⟨hsz, hd, s2, s3, by omega, Chg.refl _ _, fun p t hpt => ?_, fun j o d _ hl _ => (hno j hl).elim, ⟨_, _, _, _, _, h'.b2, fun ⟨j, _, _, _, _, hl⟩ => (hno j hl).elim⟩, ⟨_, _, _, _, _, h'.b3, fun ⟨j, _, _, _, _, hl⟩ => (hno j hl).elim⟩⟩
  obtain ⟨b, k, nm, ao, len, cap, e1, e2, e3, e4, e5⟩ := hp.at p t hpt
  exact ⟨b, k, nm, ao, len, cap, e1, e2, e3, e4, e5.chg drew_chg (fun _ _ _ e => e) (fun _ h => h)⟩

def ColC (t : T) : Prop := ∀ (v : Value) (w : World), TI w t v → Calls Tryz.prog 50 #[v] w (ColPost t w)

theorem nf_eq1  : nfT (T.node 1 [] []) false = (T.node 1 [] []) ∧ nfT (T.node 1 [] []) true = (T.node 2 [] []) := by
  constructor
  all_goals rw [nfT_eq]; simp [T.kind, flipK]
set_option maxRecDepth 100000 in
set_option maxHeartbeats 16000000 in
theorem col1  : ColC (T.node 1 [] []) := by
  intro v w ht
  obtain ⟨ao, cap, rfl, hlen, hkids⟩ := ht.parts
  simp only [T.kind, T.name, T.kids, List.length_nil] at hlen hkids ⊢
  have HN := Lib.hid (nf_eq1)
  obtain ⟨X, hX, hsX, hS⟩ := Cs.first w ⟨1, ⟨#[]⟩, ao, 0, cap⟩
  simp only [box37] at hX
  have HS := Lib.hid hS
  obtain ⟨c0, c1, c2, _⟩ := cells_three HS.out.b0
  rw [hX] at c0 c1 c2
  clear hS hsX ht hkids
  go_enter Tryz.func50, Tryz.ntmps50
  go_wp2_with fail
  rw [← hX]
  clear hX c0 c1 c2
  (with_reducible refine (rpart_any _ _ _ _ _).mono ?_)
  rintro e w3 ⟨rfl, hc3⟩
  have hA3 : Chg Nob w3 (w3.alloc (.cells #[.int .i64 1, .string ⟨#[]⟩, .slice none 0 0] 24)) := (Chg.refl _ _).alloc _
  have HS3 := Lib.hid ((HS.out.chg hc3).chg hA3)
  have H8 := Lib.hid (heap_alloc_new w3 (.cells #[.int .i64 1, .string ⟨#[]⟩, .slice none 0 0] 24))
  have Hlo3 := Lib.hid (HS.out.chg hc3).s
  clear HS hA3 hc3
  go_wp2_with fail
  generalize w3.alloc (.cells #[.int .i64 1, .string ⟨#[]⟩, .slice none 0 0] 24) = X3 at *
  (with_reducible refine (rpart_any _ _ _ _ _).mono ?_)
  rintro e w4 ⟨rfl, hc4⟩
  have hA4 : Chg Nob w4 (w4.alloc (.cells #[.int .i64 2, .string ⟨#[]⟩, .slice none 0 0] 24)) := (Chg.refl _ _).alloc _
  have HS4 := Lib.hid ((HS3.out.chg hc4).chg hA4)
  have H84 := Lib.hid ((hc4.trans1 hA4).at H8.out (fun e => e))
  have H9 := Lib.hid (heap_alloc_new w4 (.cells #[.int .i64 2, .string ⟨#[]⟩, .slice none 0 0] 24))
  have Hlo4 := Lib.hid (HS3.out.chg hc4).s
  obtain ⟨c0, c1, c2, _⟩ := cells_three HS4.out.b0
  clear HS3 hA4 hc4 H8
  go_wp2_with fail
  generalize w4.alloc (.cells #[.int .i64 2, .string ⟨#[]⟩, .slice none 0 0] 24) = X4 at *
  clear c0 c1 c2
  refine region_good (ann := assoc [(41, Ann.t (T.node 1 [] [])), (42, Ann.t (T.node 2 [] []))]) (pt := assoc [(4, (T.node 0 [] [])), (5, (T.node 0 [] [])), (6, (T.node 0 [] [])), (7, (T.node 0 [] [])), (8, T.node 1 [] []), (9, T.node 2 [] [])]) (t2 := (T.node 1 [] [])) (t3 := (T.node 2 [] [])) (B := w.heap.size + 1) (lo := w.heap.size + 7) (by kernel_rfl) (AllQ.at (l := [(4, (T.node 0 [] [])), (5, (T.node 0 [] [])), (6, (T.node 0 [] [])), (7, (T.node 0 [] [])), (8, T.node 1 [] []), (9, T.node 2 [] [])]) (⟨rfl, rfl, rfl, rfl, rfl, rfl, trivial⟩)) rfl rfl (AllQ.at (l := [(41, Ann.t (T.node 1 [] [])), (42, Ann.t (T.node 2 [] []))]) (⟨(show (41 : Nat) < 174 by decide), (show (42 : Nat) < 174 by decide), trivial⟩)) HS4.out.s (by kernel_rfl)
    (.cons ⟨rfl, .load 41 8 (T.node 1 [] []) rfl rfl rfl rfl⟩ (.cons ⟨rfl, .load 42 9 (T.node 2 [] []) rfl rfl rfl rfl⟩ (.cons ⟨rfl, .store2 41 rfl rfl rfl (dep_of (x := 41) (by kernel_rfl))⟩ (.cons ⟨rfl, .store3 42 rfl rfl rfl (dep_of (x := 42) (by kernel_rfl))⟩ .nil)))) ⟨2, _, 41, rfl, rfl⟩ ⟨3, _, 42, rfl, rfl⟩ (cinv_start HS4.out rfl rfl rfl rfl ⟨⟨_, _, _, _, _, _, rfl, by omega, by omega, HS4.out.b4, HS4.out.f4⟩, ⟨_, _, _, _, _, _, rfl, by omega, by omega, HS4.out.b5, HS4.out.f5⟩, ⟨_, _, _, _, _, _, rfl, by omega, by omega, HS4.out.b6, HS4.out.f6⟩, ⟨_, _, _, _, _, _, rfl, by omega, by omega, HS4.out.b7, HS4.out.f7⟩, ⟨_, _, _, _, _, _, rfl, by have := Hlo3.out; omega, by have := Hlo3.out; omega, H84.out, leafF _ _ 1 []⟩, ⟨_, _, _, _, _, _, rfl, by have := Hlo4.out; omega, by have := Hlo4.out; omega, H9.out, leafF _ _ 2 []⟩, trivial⟩) (fun a' w' hE => ?_)
  have Hc := Lib.hid HS4.out.c
  clear HS4 H84 H9
  have hfin := col_end (t := T.node 1 [] []) Hc.out (by rw [HN.out.1, HN.out.2]; exact hE)
  clear hE HN Hc
  go_wp2
  exact hfin

theorem nf_eq2  : nfT (T.node 2 [] []) false = (T.node 2 [] []) ∧ nfT (T.node 2 [] []) true = (T.node 1 [] []) := by
  constructor
  all_goals rw [nfT_eq]; simp [T.kind, flipK]
set_option maxRecDepth 100000 in
set_option maxHeartbeats 16000000 in
theorem col2  : ColC (T.node 2 [] []) := by
  intro v w ht
  obtain ⟨ao, cap, rfl, hlen, hkids⟩ := ht.parts
  simp only [T.kind, T.name, T.kids, List.length_nil] at hlen hkids ⊢
  have HN := Lib.hid (nf_eq2)
  obtain ⟨X, hX, hsX, hS⟩ := Cs.first w ⟨2, ⟨#[]⟩, ao, 0, cap⟩
  simp only [box37] at hX
  have HS := Lib.hid hS
  obtain ⟨c0, c1, c2, _⟩ := cells_three HS.out.b0
  rw [hX] at c0 c1 c2
  clear hS hsX ht hkids
  go_enter Tryz.func50, Tryz.ntmps50
  go_wp2_with fail
  rw [← hX]
  clear hX c0 c1 c2
  (with_reducible refine (rpart_any _ _ _ _ _).mono ?_)
  rintro e w3 ⟨rfl, hc3⟩
  have hA3 : Chg Nob w3 (w3.alloc (.cells #[.int .i64 1, .string ⟨#[]⟩, .slice none 0 0] 24)) := (Chg.refl _ _).alloc _
  have HS3 := Lib.hid ((HS.out.chg hc3).chg hA3)
  have H8 := Lib.hid (heap_alloc_new w3 (.cells #[.int .i64 1, .string ⟨#[]⟩, .slice none 0 0] 24))
  have Hlo3 := Lib.hid (HS.out.chg hc3).s
  clear HS hA3 hc3
  go_wp2_with fail
  generalize w3.alloc (.cells #[.int .i64 1, .string ⟨#[]⟩, .slice none 0 0] 24) = X3 at *
  (with_reducible refine (rpart_any _ _ _ _ _).mono ?_)
  rintro e w4 ⟨rfl, hc4⟩
  have hA4 : Chg Nob w4 (w4.alloc (.cells #[.int .i64 2, .string ⟨#[]⟩, .slice none 0 0] 24)) := (Chg.refl _ _).alloc _
  have HS4 := Lib.hid ((HS3.out.chg hc4).chg hA4)
  have H84 := Lib.hid ((hc4.trans1 hA4).at H8.out (fun e => e))
  have H9 := Lib.hid (heap_alloc_new w4 (.cells #[.int .i64 2, .string ⟨#[]⟩, .slice none 0 0] 24))
  have Hlo4 := Lib.hid (HS3.out.chg hc4).s
  obtain ⟨c0, c1, c2, _⟩ := cells_three HS4.out.b0
  clear HS3 hA4 hc4 H8
  go_wp2_with fail
  generalize w4.alloc (.cells #[.int .i64 2, .string ⟨#[]⟩, .slice none 0 0] 24) = X4 at *
  clear c0 c1 c2
  refine region_good (ann := assoc [(45, Ann.t (T.node 2 [] [])), (46, Ann.t (T.node 1 [] []))]) (pt := assoc [(4, (T.node 0 [] [])), (5, (T.node 0 [] [])), (6, (T.node 0 [] [])), (7, (T.node 0 [] [])), (8, T.node 1 [] []), (9, T.node 2 [] [])]) (t2 := (T.node 2 [] [])) (t3 := (T.node 1 [] [])) (B := w.heap.size + 1) (lo := w.heap.size + 7) (by kernel_rfl) (AllQ.at (l := [(4, (T.node 0 [] [])), (5, (T.node 0 [] [])), (6, (T.node 0 [] [])), (7, (T.node 0 [] [])), (8, T.node 1 [] []), (9, T.node 2 [] [])]) (⟨rfl, rfl, rfl, rfl, rfl, rfl, trivial⟩)) rfl rfl (AllQ.at (l := [(45, Ann.t (T.node 2 [] [])), (46, Ann.t (T.node 1 [] []))]) (⟨(show (45 : Nat) < 174 by decide), (show (46 : Nat) < 174 by decide), trivial⟩)) HS4.out.s (by kernel_rfl)
    (.cons ⟨rfl, .load 45 9 (T.node 2 [] []) rfl rfl rfl rfl⟩ (.cons ⟨rfl, .load 46 8 (T.node 1 [] []) rfl rfl rfl rfl⟩ (.cons ⟨rfl, .store2 45 rfl rfl rfl (dep_of (x := 45) (by kernel_rfl))⟩ (.cons ⟨rfl, .store3 46 rfl rfl rfl (dep_of (x := 46) (by kernel_rfl))⟩ .nil)))) ⟨2, _, 45, rfl, rfl⟩ ⟨3, _, 46, rfl, rfl⟩ (cinv_start HS4.out rfl rfl rfl rfl ⟨⟨_, _, _, _, _, _, rfl, by omega, by omega, HS4.out.b4, HS4.out.f4⟩, ⟨_, _, _, _, _, _, rfl, by omega, by omega, HS4.out.b5, HS4.out.f5⟩, ⟨_, _, _, _, _, _, rfl, by omega, by omega, HS4.out.b6, HS4.out.f6⟩, ⟨_, _, _, _, _, _, rfl, by omega, by omega, HS4.out.b7, HS4.out.f7⟩, ⟨_, _, _, _, _, _, rfl, by have := Hlo3.out; omega, by have := Hlo3.out; omega, H84.out, leafF _ _ 1 []⟩, ⟨_, _, _, _, _, _, rfl, by have := Hlo4.out; omega, by have := Hlo4.out; omega, H9.out, leafF _ _ 2 []⟩, trivial⟩) (fun a' w' hE => ?_)
  have Hc := Lib.hid HS4.out.c
  clear HS4 H84 H9
  have hfin := col_end (t := T.node 2 [] []) Hc.out (by rw [HN.out.1, HN.out.2]; exact hE)
  clear hE HN Hc
  go_wp2
  exact hfin

theorem nf_eq3 {nm : List UInt8} : nfT (T.node 3 nm []) false = (T.node 3 nm []) ∧ nfT (T.node 3 nm []) true = (T.node 4 [] [(T.node 3 nm [])]) := by
  constructor
  all_goals rw [nfT_eq]; simp [T.kind, T.name]
set_option maxRecDepth 100000 in
set_option maxHeartbeats 16000000 in
theorem col3 {nm : List UInt8} : ColC (T.node 3 nm []) := by
  intro v w ht
  obtain ⟨ao, cap, rfl, hlen, hkids⟩ := ht.parts
  simp only [T.kind, T.name, T.kids, List.length_nil] at hlen hkids ⊢
  have HN := Lib.hid (nf_eq3 (nm := nm))
  obtain ⟨X, hX, hsX, hS⟩ := Cs.first w ⟨3, ⟨nm.toArray⟩, ao, 0, cap⟩
  simp only [box37] at hX
  have HS := Lib.hid hS
  obtain ⟨c0, c1, c2, _⟩ := cells_three HS.out.b0
  rw [hX] at c0 c1 c2
  clear hS hsX ht hkids
  go_enter Tryz.func50, Tryz.ntmps50
  go_wp2_with fail
  rw [← hX]
  clear hX c0 c1 c2
  (with_reducible refine (rpart_any _ _ _ _ _).mono ?_)
  rintro e w3 ⟨rfl, hc3⟩
  have hA3 : Chg Nob w3 (w3.alloc (.cells #[.int .i64 1, .string ⟨#[]⟩, .slice none 0 0] 24)) := (Chg.refl _ _).alloc _
  have HS3 := Lib.hid ((HS.out.chg hc3).chg hA3)
  have H8 := Lib.hid (heap_alloc_new w3 (.cells #[.int .i64 1, .string ⟨#[]⟩, .slice none 0 0] 24))
  have Hlo3 := Lib.hid (HS.out.chg hc3).s
  clear HS hA3 hc3
  go_wp2_with fail
  generalize w3.alloc (.cells #[.int .i64 1, .string ⟨#[]⟩, .slice none 0 0] 24) = X3 at *
  (with_reducible refine (rpart_any _ _ _ _ _).mono ?_)
  rintro e w4 ⟨rfl, hc4⟩
  have hA4 : Chg Nob w4 (w4.alloc (.cells #[.int .i64 2, .string ⟨#[]⟩, .slice none 0 0] 24)) := (Chg.refl _ _).alloc _
  have HS4 := Lib.hid ((HS3.out.chg hc4).chg hA4)
  have H84 := Lib.hid ((hc4.trans1 hA4).at H8.out (fun e => e))
  have H9 := Lib.hid (heap_alloc_new w4 (.cells #[.int .i64 2, .string ⟨#[]⟩, .slice none 0 0] 24))
  have Hlo4 := Lib.hid (HS3.out.chg hc4).s
  obtain ⟨c0, c1, c2, _⟩ := cells_three HS4.out.b0
  clear HS3 hA4 hc4 H8
  have hlt4 : w.heap.size < w4.heap.size := by have := Hlo4.out; omega
  have hA5 : Chg Nob (w4.alloc (.cells #[.int .i64 2, .string ⟨#[]⟩, .slice none 0 0] 24)) ((w4.alloc (.cells #[.int .i64 2, .string ⟨#[]⟩, .slice none 0 0] 24)).alloc (.cells #[.int .i64 3, .string ⟨nm.toArray⟩, .slice none 0 0] 24)) := (Chg.refl _ _).alloc _
  have HS5 := Lib.hid (HS4.out.chg hA5)
  have H85 := Lib.hid (hA5.at H84.out (fun e => e))
  have H95 := Lib.hid (hA5.at H9.out (fun e => e))
  have H10 := Lib.hid (rowLast (w := w4) (.cells #[.int .i64 2, .string ⟨#[]⟩, .slice none 0 0] 24) (.int .i64 3) (.string ⟨nm.toArray⟩) (.slice none 0 0))
  clear hA5 HS4 H84 H9
  go_wp2_with fail
  generalize (w4.alloc (.cells #[.int .i64 2, .string ⟨#[]⟩, .slice none 0 0] 24)).alloc (.cells #[.int .i64 3, .string ⟨nm.toArray⟩, .slice none 0 0] 24) = X4 at *
  have HS4 := Lib.hid HS5.out
  have H84 := Lib.hid H85.out
  have H9 := Lib.hid H95.out
  clear c0 c1 c2
  refine region_good (ann := assoc [(52, Ann.t (T.node 3 nm [])), (53, Ann.t (T.node 3 nm [])), (54, Ann.l [(T.node 3 nm [])]), (55, Ann.t (T.node 4 [] [(T.node 3 nm [])]))]) (pt := assoc [(4, (T.node 0 [] [])), (5, (T.node 0 [] [])), (6, (T.node 0 [] [])), (7, (T.node 0 [] [])), (8, T.node 1 [] []), (9, T.node 2 [] []), (10, T.node 3 nm [])]) (t2 := (T.node 3 nm [])) (t3 := (T.node 4 [] [(T.node 3 nm [])])) (B := w.heap.size + 1) (lo := w.heap.size + 7) (by kernel_rfl) (AllQ.at (l := [(4, (T.node 0 [] [])), (5, (T.node 0 [] [])), (6, (T.node 0 [] [])), (7, (T.node 0 [] [])), (8, T.node 1 [] []), (9, T.node 2 [] []), (10, T.node 3 nm [])]) (⟨rfl, rfl, rfl, rfl, rfl, rfl, rfl, trivial⟩)) rfl rfl (AllQ.at (l := [(52, Ann.t (T.node 3 nm [])), (53, Ann.t (T.node 3 nm [])), (54, Ann.l [(T.node 3 nm [])]), (55, Ann.t (T.node 4 [] [(T.node 3 nm [])]))]) (⟨(show (52 : Nat) < 174 by decide), (show (53 : Nat) < 174 by decide), (show (54 : Nat) < 174 by decide), (show (55 : Nat) < 174 by decide), trivial⟩)) HS4.out.s (by kernel_rfl)
    (.cons ⟨rfl, .load 52 10 (T.node 3 nm []) rfl rfl rfl rfl⟩ (.cons ⟨rfl, .load 53 10 (T.node 3 nm []) rfl rfl rfl rfl⟩ (.cons ⟨rfl, .one 54 53 (T.node 3 nm []) rfl rfl rfl (dep_of (x := 53) (by kernel_rfl)) rfl⟩ (.cons ⟨rfl, .part 55 54 4 [(T.node 3 nm [])] rfl rfl rfl (dep_of (x := 54) (by kernel_rfl)) rfl⟩ (.cons ⟨rfl, .store2 52 rfl rfl rfl (dep_of (x := 52) (by kernel_rfl))⟩ (.cons ⟨rfl, .store3 55 rfl rfl rfl (dep_of (x := 55) (by kernel_rfl))⟩ .nil)))))) ⟨4, _, 52, rfl, rfl⟩ ⟨5, _, 55, rfl, rfl⟩ (cinv_start HS4.out rfl rfl rfl rfl ⟨⟨_, _, _, _, _, _, rfl, by omega, by omega, HS4.out.b4, HS4.out.f4⟩, ⟨_, _, _, _, _, _, rfl, by omega, by omega, HS4.out.b5, HS4.out.f5⟩, ⟨_, _, _, _, _, _, rfl, by omega, by omega, HS4.out.b6, HS4.out.f6⟩, ⟨_, _, _, _, _, _, rfl, by omega, by omega, HS4.out.b7, HS4.out.f7⟩, ⟨_, _, _, _, _, _, rfl, by have := Hlo3.out; omega, by have := Hlo3.out; omega, H84.out, leafF _ _ 1 []⟩, ⟨_, _, _, _, _, _, rfl, by have := Hlo4.out; omega, by have := Hlo4.out; omega, H9.out, leafF _ _ 2 []⟩, ⟨_, _, _, _, _, _, rfl, by have := Hlo4.out; omega, by have := Hlo4.out; omega, H10.out, leafF _ _ 3 nm⟩, trivial⟩) (fun a' w' hE => ?_)
  have Hc := Lib.hid HS4.out.c
  clear HS4 H84 H9
  have hfin := col_end (t := T.node 3 nm []) Hc.out (by rw [HN.out.1, HN.out.2]; exact hE)
  clear hE HN Hc
  go_wp2
  exact hfin

theorem nf_eq4 {a : T} : nfT (T.node 4 [] [a]) false = (nfT a true) ∧ nfT (T.node 4 [] [a]) true = (nfT a false) := by
  constructor
  all_goals rw [nfT_eq]; simp [T.kind, T.kids, nfL_one]
set_option maxRecDepth 100000 in
set_option maxHeartbeats 16000000 in
theorem col4 {a : T} (ha : ColC a) : ColC (T.node 4 [] [a]) := by
  intro v w ht
  obtain ⟨ao, cap, rfl, hlen, hkids⟩ := ht.parts
  simp only [T.kind, T.name, T.kids, List.length_cons, List.length_nil, Nat.zero_add] at hlen hkids ⊢
  have HN := Lib.hid (nf_eq4 (a := a))
  obtain ⟨X, hX, hsX, hS⟩ := Cs.first w ⟨4, ⟨#[]⟩, ao, 1, cap⟩
  simp only [box37] at hX
  have HS := Lib.hid hS
  obtain ⟨c0, c1, c2, _⟩ := cells_three HS.out.b0
  rw [hX] at c0 c1 c2
  obtain ⟨b1, o1, ak, capk, hao, hRb, p0, p1, p2, _, _, hta⟩ := hkids.kid (j := 0) (t := a) rfl
  subst hao
  rw [Nat.zero_mul, Nat.add_zero] at p0 p1 p2
  have Hta := Lib.hid hta
  have HP := Lib.hid (And.intro p0 (And.intro p1 p2))
  obtain ⟨p0, p1, p2⟩ := And.intro (HS.out.c.cell' p0 (fun e => e)) (And.intro (HS.out.c.cell' p1 (fun e => e)) (HS.out.c.cell' p2 (fun e => e)))
  rw [hX] at p0 p1 p2
  clear hS hsX ht hkids hta hRb
  go_enter Tryz.func50, Tryz.ntmps50
  go_wp2_with fail
  rw [← hX]
  clear hX c0 c1 c2 p0 p1 p2
  have hcall := ha _ X (IsTree.mono (fun _ _ _ h => h) (fun b hb => Nat.lt_of_lt_of_le hb HS.out.c.size) _ _ (IsTree.nob Hta.out HS.out.c))
  (with_reducible refine hcall.mono ?_)
  clear hcall
  rintro e w1 ⟨hc1, u1, u2, rfl, hF1, hF2⟩
  have hlo := HS.out.s
  have HS1 := Lib.hid (Cs.set46 (HS.out.chg hc1) (hF1.chg (Chg.refl Nob _) (fun _ _ _ e => e) (fun b hb => Nat.le_trans hlo hb)) (hF2.chg (Chg.refl Nob _) (fun _ _ _ e => e) (fun b hb => Nat.le_trans hlo hb)))
  obtain ⟨d0, d1, d2, g0, g1, g2⟩ := cells_three (HS.out.chg hc1).b4
  obtain ⟨e0, e1, e2, h0, h1, h2⟩ := cells_three (HS.out.chg hc1).b6
  obtain ⟨c0, c1, c2, _⟩ := cells_three HS1.out.b0
  clear hF1 hF2 hc1 hlo HS
  go_wp2_with fail
  generalize (((((w1.setCell ⟨w.heap.size + 1 + 1 + 1, 0, none⟩ (.int .i64 u1.k)).setCell ⟨w.heap.size + 1 + 1 + 1, 1, none⟩ (.string u1.nm)).setCell ⟨w.heap.size + 1 + 1 + 1, 2, none⟩ (.slice u1.ao u1.len u1.cap)).setCell ⟨w.heap.size + 1 + 1 + 1 + 1 + 1, 0, none⟩ (.int .i64 u2.k)).setCell ⟨w.heap.size + 1 + 1 + 1 + 1 + 1, 1, none⟩ (.string u2.nm)).setCell ⟨w.heap.size + 1 + 1 + 1 + 1 + 1, 2, none⟩ (.slice u2.ao u2.len u2.cap) = X1 at *
  clear d0 d1 d2 g0 g1 g2 e0 e1 e2 h0 h1 h2 c0 c1 c2
  (with_reducible refine (rpart_any _ _ _ _ _).mono ?_)
  rintro e w3 ⟨rfl, hc3⟩
  have hA3 : Chg Nob w3 (w3.alloc (.cells #[.int .i64 1, .string ⟨#[]⟩, .slice none 0 0] 24)) := (Chg.refl _ _).alloc _
  have HS3 := Lib.hid ((HS1.out.chg hc3).chg hA3)
  have H8 := Lib.hid (heap_alloc_new w3 (.cells #[.int .i64 1, .string ⟨#[]⟩, .slice none 0 0] 24))
  have Hlo3 := Lib.hid (HS1.out.chg hc3).s
  clear HS1 hA3 hc3
  go_wp2_with fail
  generalize w3.alloc (.cells #[.int .i64 1, .string ⟨#[]⟩, .slice none 0 0] 24) = X3 at *
  (with_reducible refine (rpart_any _ _ _ _ _).mono ?_)
  rintro e w4 ⟨rfl, hc4⟩
  have hA4 : Chg Nob w4 (w4.alloc (.cells #[.int .i64 2, .string ⟨#[]⟩, .slice none 0 0] 24)) := (Chg.refl _ _).alloc _
  have HS4 := Lib.hid ((HS3.out.chg hc4).chg hA4)
  have H84 := Lib.hid ((hc4.trans1 hA4).at H8.out (fun e => e))
  have H9 := Lib.hid (heap_alloc_new w4 (.cells #[.int .i64 2, .string ⟨#[]⟩, .slice none 0 0] 24))
  have Hlo4 := Lib.hid (HS3.out.chg hc4).s
  obtain ⟨c0, c1, c2, _⟩ := cells_three HS4.out.b0
  clear HS3 hA4 hc4 H8
  go_wp2_with fail
  generalize w4.alloc (.cells #[.int .i64 2, .string ⟨#[]⟩, .slice none 0 0] 24) = X4 at *
  clear c0 c1 c2
  refine region_good (ann := assoc [(58, Ann.t (nfT a true)), (59, Ann.t (nfT a false))]) (pt := assoc [(4, (nfT a false)), (5, (T.node 0 [] [])), (6, (nfT a true)), (7, (T.node 0 [] [])), (8, T.node 1 [] []), (9, T.node 2 [] [])]) (t2 := (nfT a true)) (t3 := (nfT a false)) (B := w.heap.size + 1) (lo := w.heap.size + 7) (by kernel_rfl) (AllQ.at (l := [(4, (nfT a false)), (5, (T.node 0 [] [])), (6, (nfT a true)), (7, (T.node 0 [] [])), (8, T.node 1 [] []), (9, T.node 2 [] [])]) (⟨rfl, rfl, rfl, rfl, rfl, rfl, trivial⟩)) rfl rfl (AllQ.at (l := [(58, Ann.t (nfT a true)), (59, Ann.t (nfT a false))]) (⟨(show (58 : Nat) < 174 by decide), (show (59 : Nat) < 174 by decide), trivial⟩)) HS4.out.s (by kernel_rfl)
    (.cons ⟨rfl, .load 58 6 (nfT a true) rfl rfl rfl rfl⟩ (.cons ⟨rfl, .load 59 4 (nfT a false) rfl rfl rfl rfl⟩ (.cons ⟨rfl, .store2 58 rfl rfl rfl (dep_of (x := 58) (by kernel_rfl))⟩ (.cons ⟨rfl, .store3 59 rfl rfl rfl (dep_of (x := 59) (by kernel_rfl))⟩ .nil)))) ⟨2, _, 58, rfl, rfl⟩ ⟨3, _, 59, rfl, rfl⟩ (cinv_start HS4.out rfl rfl rfl rfl ⟨⟨_, _, _, _, _, _, rfl, by omega, by omega, HS4.out.b4, HS4.out.f4⟩, ⟨_, _, _, _, _, _, rfl, by omega, by omega, HS4.out.b5, HS4.out.f5⟩, ⟨_, _, _, _, _, _, rfl, by omega, by omega, HS4.out.b6, HS4.out.f6⟩, ⟨_, _, _, _, _, _, rfl, by omega, by omega, HS4.out.b7, HS4.out.f7⟩, ⟨_, _, _, _, _, _, rfl, by have := Hlo3.out; omega, by have := Hlo3.out; omega, H84.out, leafF _ _ 1 []⟩, ⟨_, _, _, _, _, _, rfl, by have := Hlo4.out; omega, by have := Hlo4.out; omega, H9.out, leafF _ _ 2 []⟩, trivial⟩) (fun a' w' hE => ?_)
  have Hc := Lib.hid HS4.out.c
  clear HS4 H84 H9
  have hfin := col_end (t := T.node 4 [] [a]) Hc.out (by rw [HN.out.1, HN.out.2]; exact hE)
  clear hE HN Hc
  go_wp2
  exact hfin

theorem nf_eq5 {a : T} : nfT (T.node 5 [] [a]) false = (T.node 5 [] [(nfT a false)]) ∧ nfT (T.node 5 [] [a]) true = (T.node 5 [] [(nfT a true)]) := by
  constructor
  all_goals rw [nfT_eq]; simp [T.kind, T.kids, nfL_one]
set_option maxRecDepth 100000 in
set_option maxHeartbeats 16000000 in
theorem col5 {a : T} (ha : ColC a) : ColC (T.node 5 [] [a]) := by
  intro v w ht
  obtain ⟨ao, cap, rfl, hlen, hkids⟩ := ht.parts
  simp only [T.kind, T.name, T.kids, List.length_cons, List.length_nil, Nat.zero_add] at hlen hkids ⊢
  have HN := Lib.hid (nf_eq5 (a := a))
  obtain ⟨X, hX, hsX, hS⟩ := Cs.first w ⟨5, ⟨#[]⟩, ao, 1, cap⟩
  simp only [box37] at hX
  have HS := Lib.hid hS
  obtain ⟨c0, c1, c2, _⟩ := cells_three HS.out.b0
  rw [hX] at c0 c1 c2
  obtain ⟨b1, o1, ak, capk, hao, hRb, p0, p1, p2, _, _, hta⟩ := hkids.kid (j := 0) (t := a) rfl
  subst hao
  rw [Nat.zero_mul, Nat.add_zero] at p0 p1 p2
  have Hta := Lib.hid hta
  have HP := Lib.hid (And.intro p0 (And.intro p1 p2))
  obtain ⟨p0, p1, p2⟩ := And.intro (HS.out.c.cell' p0 (fun e => e)) (And.intro (HS.out.c.cell' p1 (fun e => e)) (HS.out.c.cell' p2 (fun e => e)))
  rw [hX] at p0 p1 p2
  clear hS hsX ht hkids hta hRb
  go_enter Tryz.func50, Tryz.ntmps50
  go_wp2_with fail
  rw [← hX]
  clear hX c0 c1 c2 p0 p1 p2
  have hcall := ha _ X (IsTree.mono (fun _ _ _ h => h) (fun b hb => Nat.lt_of_lt_of_le hb HS.out.c.size) _ _ (IsTree.nob Hta.out HS.out.c))
  (with_reducible refine hcall.mono ?_)
  clear hcall
  rintro e w1 ⟨hc1, u1, u2, rfl, hF1, hF2⟩
  have hlo := HS.out.s
  have HS1 := Lib.hid (Cs.set46 (HS.out.chg hc1) (hF1.chg (Chg.refl Nob _) (fun _ _ _ e => e) (fun b hb => Nat.le_trans hlo hb)) (hF2.chg (Chg.refl Nob _) (fun _ _ _ e => e) (fun b hb => Nat.le_trans hlo hb)))
  obtain ⟨d0, d1, d2, g0, g1, g2⟩ := cells_three (HS.out.chg hc1).b4
  obtain ⟨e0, e1, e2, h0, h1, h2⟩ := cells_three (HS.out.chg hc1).b6
  obtain ⟨c0, c1, c2, _⟩ := cells_three HS1.out.b0
  clear hF1 hF2 hc1 hlo HS
  go_wp2_with fail
  generalize (((((w1.setCell ⟨w.heap.size + 1 + 1 + 1, 0, none⟩ (.int .i64 u1.k)).setCell ⟨w.heap.size + 1 + 1 + 1, 1, none⟩ (.string u1.nm)).setCell ⟨w.heap.size + 1 + 1 + 1, 2, none⟩ (.slice u1.ao u1.len u1.cap)).setCell ⟨w.heap.size + 1 + 1 + 1 + 1 + 1, 0, none⟩ (.int .i64 u2.k)).setCell ⟨w.heap.size + 1 + 1 + 1 + 1 + 1, 1, none⟩ (.string u2.nm)).setCell ⟨w.heap.size + 1 + 1 + 1 + 1 + 1, 2, none⟩ (.slice u2.ao u2.len u2.cap) = X1 at *
  clear d0 d1 d2 g0 g1 g2 e0 e1 e2 h0 h1 h2 c0 c1 c2
  (with_reducible refine (rpart_any _ _ _ _ _).mono ?_)
  rintro e w3 ⟨rfl, hc3⟩
  have hA3 : Chg Nob w3 (w3.alloc (.cells #[.int .i64 1, .string ⟨#[]⟩, .slice none 0 0] 24)) := (Chg.refl _ _).alloc _
  have HS3 := Lib.hid ((HS1.out.chg hc3).chg hA3)
  have H8 := Lib.hid (heap_alloc_new w3 (.cells #[.int .i64 1, .string ⟨#[]⟩, .slice none 0 0] 24))
  have Hlo3 := Lib.hid (HS1.out.chg hc3).s
  clear HS1 hA3 hc3
  go_wp2_with fail
  generalize w3.alloc (.cells #[.int .i64 1, .string ⟨#[]⟩, .slice none 0 0] 24) = X3 at *
  (with_reducible refine (rpart_any _ _ _ _ _).mono ?_)
  rintro e w4 ⟨rfl, hc4⟩
  have hA4 : Chg Nob w4 (w4.alloc (.cells #[.int .i64 2, .string ⟨#[]⟩, .slice none 0 0] 24)) := (Chg.refl _ _).alloc _
  have HS4 := Lib.hid ((HS3.out.chg hc4).chg hA4)
  have H84 := Lib.hid ((hc4.trans1 hA4).at H8.out (fun e => e))
  have H9 := Lib.hid (heap_alloc_new w4 (.cells #[.int .i64 2, .string ⟨#[]⟩, .slice none 0 0] 24))
  have Hlo4 := Lib.hid (HS3.out.chg hc4).s
  obtain ⟨c0, c1, c2, _⟩ := cells_three HS4.out.b0
  clear HS3 hA4 hc4 H8
  go_wp2_with fail
  generalize w4.alloc (.cells #[.int .i64 2, .string ⟨#[]⟩, .slice none 0 0] 24) = X4 at *
  clear c0 c1 c2
  refine region_good (ann := assoc [(62, Ann.t (nfT a false)), (63, Ann.l [(nfT a false)]), (64, Ann.t (T.node 5 [] [(nfT a false)])), (65, Ann.t (nfT a true)), (66, Ann.l [(nfT a true)]), (67, Ann.t (T.node 5 [] [(nfT a true)]))]) (pt := assoc [(4, (nfT a false)), (5, (T.node 0 [] [])), (6, (nfT a true)), (7, (T.node 0 [] [])), (8, T.node 1 [] []), (9, T.node 2 [] [])]) (t2 := (T.node 5 [] [(nfT a false)])) (t3 := (T.node 5 [] [(nfT a true)])) (B := w.heap.size + 1) (lo := w.heap.size + 7) (by kernel_rfl) (AllQ.at (l := [(4, (nfT a false)), (5, (T.node 0 [] [])), (6, (nfT a true)), (7, (T.node 0 [] [])), (8, T.node 1 [] []), (9, T.node 2 [] [])]) (⟨rfl, rfl, rfl, rfl, rfl, rfl, trivial⟩)) rfl rfl (AllQ.at (l := [(62, Ann.t (nfT a false)), (63, Ann.l [(nfT a false)]), (64, Ann.t (T.node 5 [] [(nfT a false)])), (65, Ann.t (nfT a true)), (66, Ann.l [(nfT a true)]), (67, Ann.t (T.node 5 [] [(nfT a true)]))]) (⟨(show (62 : Nat) < 174 by decide), (show (63 : Nat) < 174 by decide), (show (64 : Nat) < 174 by decide), (show (65 : Nat) < 174 by decide), (show (66 : Nat) < 174 by decide), (show (67 : Nat) < 174 by decide), trivial⟩)) HS4.out.s (by kernel_rfl)
    (.cons ⟨rfl, .load 62 4 (nfT a false) rfl rfl rfl rfl⟩ (.cons ⟨rfl, .one 63 62 (nfT a false) rfl rfl rfl (dep_of (x := 62) (by kernel_rfl)) rfl⟩ (.cons ⟨rfl, .part 64 63 5 [(nfT a false)] rfl rfl rfl (dep_of (x := 63) (by kernel_rfl)) rfl⟩ (.cons ⟨rfl, .load 65 6 (nfT a true) rfl rfl rfl rfl⟩ (.cons ⟨rfl, .one 66 65 (nfT a true) rfl rfl rfl (dep_of (x := 65) (by kernel_rfl)) rfl⟩ (.cons ⟨rfl, .part 67 66 5 [(nfT a true)] rfl rfl rfl (dep_of (x := 66) (by kernel_rfl)) rfl⟩ (.cons ⟨rfl, .store2 64 rfl rfl rfl (dep_of (x := 64) (by kernel_rfl))⟩ (.cons ⟨rfl, .store3 67 rfl rfl rfl (dep_of (x := 67) (by kernel_rfl))⟩ .nil)))))))) ⟨6, _, 64, rfl, rfl⟩ ⟨7, _, 67, rfl, rfl⟩ (cinv_start HS4.out rfl rfl rfl rfl ⟨⟨_, _, _, _, _, _, rfl, by omega, by omega, HS4.out.b4, HS4.out.f4⟩, ⟨_, _, _, _, _, _, rfl, by omega, by omega, HS4.out.b5, HS4.out.f5⟩, ⟨_, _, _, _, _, _, rfl, by omega, by omega, HS4.out.b6, HS4.out.f6⟩, ⟨_, _, _, _, _, _, rfl, by omega, by omega, HS4.out.b7, HS4.out.f7⟩, ⟨_, _, _, _, _, _, rfl, by have := Hlo3.out; omega, by have := Hlo3.out; omega, H84.out, leafF _ _ 1 []⟩, ⟨_, _, _, _, _, _, rfl, by have := Hlo4.out; omega, by have := Hlo4.out; omega, H9.out, leafF _ _ 2 []⟩, trivial⟩) (fun a' w' hE => ?_)
  have Hc := Lib.hid HS4.out.c
  clear HS4 H84 H9
  have hfin := col_end (t := T.node 5 [] [a]) Hc.out (by rw [HN.out.1, HN.out.2]; exact hE)
  clear hE HN Hc
  go_wp2
  exact hfin

theorem nf_eq6 {a : T} : nfT (T.node 6 [] [a]) false = (T.node 13 [] [(T.node 2 [] []), (nfT a false)]) ∧ nfT (T.node 6 [] [a]) true = (T.node 12 [] [(T.node 1 [] []), (nfT a true)]) := by
  constructor
  all_goals rw [nfT_eq]; simp [T.kind, T.kids, nfL_one, flipK]
set_option maxRecDepth 100000 in
set_option maxHeartbeats 16000000 in
theorem col6 {a : T} (ha : ColC a) : ColC (T.node 6 [] [a]) := by
  intro v w ht
  obtain ⟨ao, cap, rfl, hlen, hkids⟩ := ht.parts
  simp only [T.kind, T.name, T.kids, List.length_cons, List.length_nil, Nat.zero_add] at hlen hkids ⊢
  have HN := Lib.hid (nf_eq6 (a := a))
  obtain ⟨X, hX, hsX, hS⟩ := Cs.first w ⟨6, ⟨#[]⟩, ao, 1, cap⟩
  simp only [box37] at hX
  have HS := Lib.hid hS
  obtain ⟨c0, c1, c2, _⟩ := cells_three HS.out.b0
  rw [hX] at c0 c1 c2
  obtain ⟨b1, o1, ak, capk, hao, hRb, p0, p1, p2, _, _, hta⟩ := hkids.kid (j := 0) (t := a) rfl
  subst hao
  rw [Nat.zero_mul, Nat.add_zero] at p0 p1 p2
  have Hta := Lib.hid hta
  have HP := Lib.hid (And.intro p0 (And.intro p1 p2))
  obtain ⟨p0, p1, p2⟩ := And.intro (HS.out.c.cell' p0 (fun e => e)) (And.intro (HS.out.c.cell' p1 (fun e => e)) (HS.out.c.cell' p2 (fun e => e)))
  rw [hX] at p0 p1 p2
  clear hS hsX ht hkids hta hRb
  go_enter Tryz.func50, Tryz.ntmps50
  go_wp2_with fail
  rw [← hX]
  clear hX c0 c1 c2 p0 p1 p2
  have hcall := ha _ X (IsTree.mono (fun _ _ _ h => h) (fun b hb => Nat.lt_of_lt_of_le hb HS.out.c.size) _ _ (IsTree.nob Hta.out HS.out.c))
  (with_reducible refine hcall.mono ?_)
  clear hcall
  rintro e w1 ⟨hc1, u1, u2, rfl, hF1, hF2⟩
  have hlo := HS.out.s
  have HS1 := Lib.hid (Cs.set46 (HS.out.chg hc1) (hF1.chg (Chg.refl Nob _) (fun _ _ _ e => e) (fun b hb => Nat.le_trans hlo hb)) (hF2.chg (Chg.refl Nob _) (fun _ _ _ e => e) (fun b hb => Nat.le_trans hlo hb)))
  obtain ⟨d0, d1, d2, g0, g1, g2⟩ := cells_three (HS.out.chg hc1).b4
  obtain ⟨e0, e1, e2, h0, h1, h2⟩ := cells_three (HS.out.chg hc1).b6
  obtain ⟨c0, c1, c2, _⟩ := cells_three HS1.out.b0
  clear hF1 hF2 hc1 hlo HS
  go_wp2_with fail
  generalize (((((w1.setCell ⟨w.heap.size + 1 + 1 + 1, 0, none⟩ (.int .i64 u1.k)).setCell ⟨w.heap.size + 1 + 1 + 1, 1, none⟩ (.string u1.nm)).setCell ⟨w.heap.size + 1 + 1 + 1, 2, none⟩ (.slice u1.ao u1.len u1.cap)).setCell ⟨w.heap.size + 1 + 1 + 1 + 1 + 1, 0, none⟩ (.int .i64 u2.k)).setCell ⟨w.heap.size + 1 + 1 + 1 + 1 + 1, 1, none⟩ (.string u2.nm)).setCell ⟨w.heap.size + 1 + 1 + 1 + 1 + 1, 2, none⟩ (.slice u2.ao u2.len u2.cap) = X1 at *
  clear d0 d1 d2 g0 g1 g2 e0 e1 e2 h0 h1 h2 c0 c1 c2
  (with_reducible refine (rpart_any _ _ _ _ _).mono ?_)
  rintro e w3 ⟨rfl, hc3⟩
  have hA3 : Chg Nob w3 (w3.alloc (.cells #[.int .i64 1, .string ⟨#[]⟩, .slice none 0 0] 24)) := (Chg.refl _ _).alloc _
  have HS3 := Lib.hid ((HS1.out.chg hc3).chg hA3)
  have H8 := Lib.hid (heap_alloc_new w3 (.cells #[.int .i64 1, .string ⟨#[]⟩, .slice none 0 0] 24))
  have Hlo3 := Lib.hid (HS1.out.chg hc3).s
  clear HS1 hA3 hc3
  go_wp2_with fail
  generalize w3.alloc (.cells #[.int .i64 1, .string ⟨#[]⟩, .slice none 0 0] 24) = X3 at *
  (with_reducible refine (rpart_any _ _ _ _ _).mono ?_)
  rintro e w4 ⟨rfl, hc4⟩
  have hA4 : Chg Nob w4 (w4.alloc (.cells #[.int .i64 2, .string ⟨#[]⟩, .slice none 0 0] 24)) := (Chg.refl _ _).alloc _
  have HS4 := Lib.hid ((HS3.out.chg hc4).chg hA4)
  have H84 := Lib.hid ((hc4.trans1 hA4).at H8.out (fun e => e))
  have H9 := Lib.hid (heap_alloc_new w4 (.cells #[.int .i64 2, .string ⟨#[]⟩, .slice none 0 0] 24))
  have Hlo4 := Lib.hid (HS3.out.chg hc4).s
  obtain ⟨c0, c1, c2, _⟩ := cells_three HS4.out.b0
  clear HS3 hA4 hc4 H8
  go_wp2_with fail
  generalize w4.alloc (.cells #[.int .i64 2, .string ⟨#[]⟩, .slice none 0 0] 24) = X4 at *
  clear c0 c1 c2
  refine region_good (ann := assoc [(70, Ann.t (T.node 2 [] [])), (71, Ann.t (nfT a false)), (72, Ann.l [(T.node 2 [] []), (nfT a false)]), (73, Ann.t (T.node 13 [] [(T.node 2 [] []), (nfT a false)])), (74, Ann.t (T.node 1 [] [])), (75, Ann.t (nfT a true)), (76, Ann.l [(T.node 1 [] []), (nfT a true)]), (77, Ann.t (T.node 12 [] [(T.node 1 [] []), (nfT a true)]))]) (pt := assoc [(4, (nfT a false)), (5, (T.node 0 [] [])), (6, (nfT a true)), (7, (T.node 0 [] [])), (8, T.node 1 [] []), (9, T.node 2 [] [])]) (t2 := (T.node 13 [] [(T.node 2 [] []), (nfT a false)])) (t3 := (T.node 12 [] [(T.node 1 [] []), (nfT a true)])) (B := w.heap.size + 1) (lo := w.heap.size + 7) (by kernel_rfl) (AllQ.at (l := [(4, (nfT a false)), (5, (T.node 0 [] [])), (6, (nfT a true)), (7, (T.node 0 [] [])), (8, T.node 1 [] []), (9, T.node 2 [] [])]) (⟨rfl, rfl, rfl, rfl, rfl, rfl, trivial⟩)) rfl rfl (AllQ.at (l := [(70, Ann.t (T.node 2 [] [])), (71, Ann.t (nfT a false)), (72, Ann.l [(T.node 2 [] []), (nfT a false)]), (73, Ann.t (T.node 13 [] [(T.node 2 [] []), (nfT a false)])), (74, Ann.t (T.node 1 [] [])), (75, Ann.t (nfT a true)), (76, Ann.l [(T.node 1 [] []), (nfT a true)]), (77, Ann.t (T.node 12 [] [(T.node 1 [] []), (nfT a true)]))]) (⟨(show (70 : Nat) < 174 by decide), (show (71 : Nat) < 174 by decide), (show (72 : Nat) < 174 by decide), (show (73 : Nat) < 174 by decide), (show (74 : Nat) < 174 by decide), (show (75 : Nat) < 174 by decide), (show (76 : Nat) < 174 by decide), (show (77 : Nat) < 174 by decide), trivial⟩)) HS4.out.s (by kernel_rfl)
    (.cons ⟨rfl, .load 70 9 (T.node 2 [] []) rfl rfl rfl rfl⟩ (.cons ⟨rfl, .load 71 4 (nfT a false) rfl rfl rfl rfl⟩ (.cons ⟨rfl, .two 72 70 71 (T.node 2 [] []) (nfT a false) rfl rfl rfl (dep_of (x := 70) (by kernel_rfl)) rfl (dep_of (x := 71) (by kernel_rfl)) rfl⟩ (.cons ⟨rfl, .part 73 72 13 [(T.node 2 [] []), (nfT a false)] rfl rfl rfl (dep_of (x := 72) (by kernel_rfl)) rfl⟩ (.cons ⟨rfl, .load 74 8 (T.node 1 [] []) rfl rfl rfl rfl⟩ (.cons ⟨rfl, .load 75 6 (nfT a true) rfl rfl rfl rfl⟩ (.cons ⟨rfl, .two 76 74 75 (T.node 1 [] []) (nfT a true) rfl rfl rfl (dep_of (x := 74) (by kernel_rfl)) rfl (dep_of (x := 75) (by kernel_rfl)) rfl⟩ (.cons ⟨rfl, .part 77 76 12 [(T.node 1 [] []), (nfT a true)] rfl rfl rfl (dep_of (x := 76) (by kernel_rfl)) rfl⟩ (.cons ⟨rfl, .store2 73 rfl rfl rfl (dep_of (x := 73) (by kernel_rfl))⟩ (.cons ⟨rfl, .store3 77 rfl rfl rfl (dep_of (x := 77) (by kernel_rfl))⟩ .nil)))))))))) ⟨8, _, 73, rfl, rfl⟩ ⟨9, _, 77, rfl, rfl⟩ (cinv_start HS4.out rfl rfl rfl rfl ⟨⟨_, _, _, _, _, _, rfl, by omega, by omega, HS4.out.b4, HS4.out.f4⟩, ⟨_, _, _, _, _, _, rfl, by omega, by omega, HS4.out.b5, HS4.out.f5⟩, ⟨_, _, _, _, _, _, rfl, by omega, by omega, HS4.out.b6, HS4.out.f6⟩, ⟨_, _, _, _, _, _, rfl, by omega, by omega, HS4.out.b7, HS4.out.f7⟩, ⟨_, _, _, _, _, _, rfl, by have := Hlo3.out; omega, by have := Hlo3.out; omega, H84.out, leafF _ _ 1 []⟩, ⟨_, _, _, _, _, _, rfl, by have := Hlo4.out; omega, by have := Hlo4.out; omega, H9.out, leafF _ _ 2 []⟩, trivial⟩) (fun a' w' hE => ?_)
  have Hc := Lib.hid HS4.out.c
  clear HS4 H84 H9
  have hfin := col_end (t := T.node 6 [] [a]) Hc.out (by rw [HN.out.1, HN.out.2]; exact hE)
  clear hE HN Hc
  go_wp2
  exact hfin

theorem nf_eq7 {a : T} : nfT (T.node 7 [] [a]) false = (T.node 12 [] [(T.node 1 [] []), (nfT a false)]) ∧ nfT (T.node 7 [] [a]) true = (T.node 13 [] [(T.node 2 [] []), (nfT a true)]) := by
  constructor
  all_goals rw [nfT_eq]; simp [T.kind, T.kids, nfL_one, flipK]
set_option maxRecDepth 100000 in
set_option maxHeartbeats 16000000 in
theorem col7 {a : T} (ha : ColC a) : ColC (T.node 7 [] [a]) := by
  intro v w ht
  obtain ⟨ao, cap, rfl, hlen, hkids⟩ := ht.parts
  simp only [T.kind, T.name, T.kids, List.length_cons, List.length_nil, Nat.zero_add] at hlen hkids ⊢
  have HN := Lib.hid (nf_eq7 (a := a))
  obtain ⟨X, hX, hsX, hS⟩ := Cs.first w ⟨7, ⟨#[]⟩, ao, 1, cap⟩
  simp only [box37] at hX
  have HS := Lib.hid hS
  obtain ⟨c0, c1, c2, _⟩ := cells_three HS.out.b0
  rw [hX] at c0 c1 c2
  obtain ⟨b1, o1, ak, capk, hao, hRb, p0, p1, p2, _, _, hta⟩ := hkids.kid (j := 0) (t := a) rfl
  subst hao
  rw [Nat.zero_mul, Nat.add_zero] at p0 p1 p2
  have Hta := Lib.hid hta
  have HP := Lib.hid (And.intro p0 (And.intro p1 p2))
  obtain ⟨p0, p1, p2⟩ := And.intro (HS.out.c.cell' p0 (fun e => e)) (And.intro (HS.out.c.cell' p1 (fun e => e)) (HS.out.c.cell' p2 (fun e => e)))
  rw [hX] at p0 p1 p2
  clear hS hsX ht hkids hta hRb
  go_enter Tryz.func50, Tryz.ntmps50
  go_wp2_with fail
  rw [← hX]
  clear hX c0 c1 c2 p0 p1 p2
  have hcall := ha _ X (IsTree.mono (fun _ _ _ h => h) (fun b hb => Nat.lt_of_lt_of_le hb HS.out.c.size) _ _ (IsTree.nob Hta.out HS.out.c))
  (with_reducible refine hcall.mono ?_)
  clear hcall
  rintro e w1 ⟨hc1, u1, u2, rfl, hF1, hF2⟩
  have hlo := HS.out.s
  have HS1 := Lib.hid (Cs.set46 (HS.out.chg hc1) (hF1.chg (Chg.refl Nob _) (fun _ _ _ e => e) (fun b hb => Nat.le_trans hlo hb)) (hF2.chg (Chg.refl Nob _) (fun _ _ _ e => e) (fun b hb => Nat.le_trans hlo hb)))
  obtain ⟨d0, d1, d2, g0, g1, g2⟩ := cells_three (HS.out.chg hc1).b4
  obtain ⟨e0, e1, e2, h0, h1, h2⟩ := cells_three (HS.out.chg hc1).b6
  obtain ⟨c0, c1, c2, _⟩ := cells_three HS1.out.b0
  clear hF1 hF2 hc1 hlo HS
  go_wp2_with fail
  generalize (((((w1.setCell ⟨w.heap.size + 1 + 1 + 1, 0, none⟩ (.int .i64 u1.k)).setCell ⟨w.heap.size + 1 + 1 + 1, 1, none⟩ (.string u1.nm)).setCell ⟨w.heap.size + 1 + 1 + 1, 2, none⟩ (.slice u1.ao u1.len u1.cap)).setCell ⟨w.heap.size + 1 + 1 + 1 + 1 + 1, 0, none⟩ (.int .i64 u2.k)).setCell ⟨w.heap.size + 1 + 1 + 1 + 1 + 1, 1, none⟩ (.string u2.nm)).setCell ⟨w.heap.size + 1 + 1 + 1 + 1 + 1, 2, none⟩ (.slice u2.ao u2.len u2.cap) = X1 at *
  clear d0 d1 d2 g0 g1 g2 e0 e1 e2 h0 h1 h2 c0 c1 c2
  (with_reducible refine (rpart_any _ _ _ _ _).mono ?_)
  rintro e w3 ⟨rfl, hc3⟩
  have hA3 : Chg Nob w3 (w3.alloc (.cells #[.int .i64 1, .string ⟨#[]⟩, .slice none 0 0] 24)) := (Chg.refl _ _).alloc _
  have HS3 := Lib.hid ((HS1.out.chg hc3).chg hA3)
  have H8 := Lib.hid (heap_alloc_new w3 (.cells #[.int .i64 1, .string ⟨#[]⟩, .slice none 0 0] 24))
  have Hlo3 := Lib.hid (HS1.out.chg hc3).s
  clear HS1 hA3 hc3
  go_wp2_with fail
  generalize w3.alloc (.cells #[.int .i64 1, .string ⟨#[]⟩, .slice none 0 0] 24) = X3 at *
  (with_reducible refine (rpart_any _ _ _ _ _).mono ?_)
  rintro e w4 ⟨rfl, hc4⟩
  have hA4 : Chg Nob w4 (w4.alloc (.cells #[.int .i64 2, .string ⟨#[]⟩, .slice none 0 0] 24)) := (Chg.refl _ _).alloc _
  have HS4 := Lib.hid ((HS3.out.chg hc4).chg hA4)
  have H84 := Lib.hid ((hc4.trans1 hA4).at H8.out (fun e => e))
  have H9 := Lib.hid (heap_alloc_new w4 (.cells #[.int .i64 2, .string ⟨#[]⟩, .slice none 0 0] 24))
  have Hlo4 := Lib.hid (HS3.out.chg hc4).s
  obtain ⟨c0, c1, c2, _⟩ := cells_three HS4.out.b0
  clear HS3 hA4 hc4 H8
  go_wp2_with fail
  generalize w4.alloc (.cells #[.int .i64 2, .string ⟨#[]⟩, .slice none 0 0] 24) = X4 at *
  clear c0 c1 c2
  refine region_good (ann := assoc [(80, Ann.t (T.node 1 [] [])), (81, Ann.t (nfT a false)), (82, Ann.l [(T.node 1 [] []), (nfT a false)]), (83, Ann.t (T.node 12 [] [(T.node 1 [] []), (nfT a false)])), (84, Ann.t (T.node 2 [] [])), (85, Ann.t (nfT a true)), (86, Ann.l [(T.node 2 [] []), (nfT a true)]), (87, Ann.t (T.node 13 [] [(T.node 2 [] []), (nfT a true)]))]) (pt := assoc [(4, (nfT a false)), (5, (T.node 0 [] [])), (6, (nfT a true)), (7, (T.node 0 [] [])), (8, T.node 1 [] []), (9, T.node 2 [] [])]) (t2 := (T.node 12 [] [(T.node 1 [] []), (nfT a false)])) (t3 := (T.node 13 [] [(T.node 2 [] []), (nfT a true)])) (B := w.heap.size + 1) (lo := w.heap.size + 7) (by kernel_rfl) (AllQ.at (l := [(4, (nfT a false)), (5, (T.node 0 [] [])), (6, (nfT a true)), (7, (T.node 0 [] [])), (8, T.node 1 [] []), (9, T.node 2 [] [])]) (⟨rfl, rfl, rfl, rfl, rfl, rfl, trivial⟩)) rfl rfl (AllQ.at (l := [(80, Ann.t (T.node 1 [] [])), (81, Ann.t (nfT a false)), (82, Ann.l [(T.node 1 [] []), (nfT a false)]), (83, Ann.t (T.node 12 [] [(T.node 1 [] []), (nfT a false)])), (84, Ann.t (T.node 2 [] [])), (85, Ann.t (nfT a true)), (86, Ann.l [(T.node 2 [] []), (nfT a true)]), (87, Ann.t (T.node 13 [] [(T.node 2 [] []), (nfT a true)]))]) (⟨(show (80 : Nat) < 174 by decide), (show (81 : Nat) < 174 by decide), (show (82 : Nat) < 174 by decide), (show (83 : Nat) < 174 by decide), (show (84 : Nat) < 174 by decide), (show (85 : Nat) < 174 by decide), (show (86 : Nat) < 174 by decide), (show (87 : Nat) < 174 by decide), trivial⟩)) HS4.out.s (by kernel_rfl)
    (.cons ⟨rfl, .load 80 8 (T.node 1 [] []) rfl rfl rfl rfl⟩ (.cons ⟨rfl, .load 81 4 (nfT a false) rfl rfl rfl rfl⟩ (.cons ⟨rfl, .two 82 80 81 (T.node 1 [] []) (nfT a false) rfl rfl rfl (dep_of (x := 80) (by kernel_rfl)) rfl (dep_of (x := 81) (by kernel_rfl)) rfl⟩ (.cons ⟨rfl, .part 83 82 12 [(T.node 1 [] []), (nfT a false)] rfl rfl rfl (dep_of (x := 82) (by kernel_rfl)) rfl⟩ (.cons ⟨rfl, .load 84 9 (T.node 2 [] []) rfl rfl rfl rfl⟩ (.cons ⟨rfl, .load 85 6 (nfT a true) rfl rfl rfl rfl⟩ (.cons ⟨rfl, .two 86 84 85 (T.node 2 [] []) (nfT a true) rfl rfl rfl (dep_of (x := 84) (by kernel_rfl)) rfl (dep_of (x := 85) (by kernel_rfl)) rfl⟩ (.cons ⟨rfl, .part 87 86 13 [(T.node 2 [] []), (nfT a true)] rfl rfl rfl (dep_of (x := 86) (by kernel_rfl)) rfl⟩ (.cons ⟨rfl, .store2 83 rfl rfl rfl (dep_of (x := 83) (by kernel_rfl))⟩ (.cons ⟨rfl, .store3 87 rfl rfl rfl (dep_of (x := 87) (by kernel_rfl))⟩ .nil)))))))))) ⟨8, _, 83, rfl, rfl⟩ ⟨9, _, 87, rfl, rfl⟩ (cinv_start HS4.out rfl rfl rfl rfl ⟨⟨_, _, _, _, _, _, rfl, by omega, by omega, HS4.out.b4, HS4.out.f4⟩, ⟨_, _, _, _, _, _, rfl, by omega, by omega, HS4.out.b5, HS4.out.f5⟩, ⟨_, _, _, _, _, _, rfl, by omega, by omega, HS4.out.b6, HS4.out.f6⟩, ⟨_, _, _, _, _, _, rfl, by omega, by omega, HS4.out.b7, HS4.out.f7⟩, ⟨_, _, _, _, _, _, rfl, by have := Hlo3.out; omega, by have := Hlo3.out; omega, H84.out, leafF _ _ 1 []⟩, ⟨_, _, _, _, _, _, rfl, by have := Hlo4.out; omega, by have := Hlo4.out; omega, H9.out, leafF _ _ 2 []⟩, trivial⟩) (fun a' w' hE => ?_)
  have Hc := Lib.hid HS4.out.c
  clear HS4 H84 H9
  have hfin := col_end (t := T.node 7 [] [a]) Hc.out (by rw [HN.out.1, HN.out.2]; exact hE)
  clear hE HN Hc
  go_wp2
  exact hfin

theorem nf_eq8 {a b : T} : nfT (T.node 8 [] [a, b]) false = (T.node 8 [] [(nfT a false), (nfT b false)]) ∧ nfT (T.node 8 [] [a, b]) true = (T.node 9 [] [(nfT a true), (nfT b true)]) := by
  constructor
  all_goals rw [nfT_eq]; simp [T.kind, T.kids, nfL_two, flipK]
set_option maxRecDepth 100000 in
set_option maxHeartbeats 16000000 in
theorem col8 {a b : T} (ha : ColC a) (hb : ColC b) : ColC (T.node 8 [] [a, b]) := by
  intro v w ht
  obtain ⟨ao, cap, rfl, hlen, hkids⟩ := ht.parts
  simp only [T.kind, T.name, T.kids, List.length_cons, List.length_nil, Nat.zero_add] at hlen hkids ⊢
  have HN := Lib.hid (nf_eq8 (a := a) (b := b))
  obtain ⟨X, hX, hsX, hS⟩ := Cs.first w ⟨8, ⟨#[]⟩, ao, 2, cap⟩
  simp only [box37] at hX
  have HS := Lib.hid hS
  obtain ⟨c0, c1, c2, _⟩ := cells_three HS.out.b0
  rw [hX] at c0 c1 c2
  obtain ⟨b1, o1, ak, capk, hao, hRb, p0, p1, p2, _, _, hta⟩ := hkids.kid (j := 0) (t := a) rfl
  subst hao
  rw [Nat.zero_mul, Nat.add_zero] at p0 p1 p2
  have Hta := Lib.hid hta
  have HP := Lib.hid (And.intro p0 (And.intro p1 p2))
  obtain ⟨p0, p1, p2⟩ := And.intro (HS.out.c.cell' p0 (fun e => e)) (And.intro (HS.out.c.cell' p1 (fun e => e)) (HS.out.c.cell' p2 (fun e => e)))
  rw [hX] at p0 p1 p2
  obtain ⟨b2, o2, bk, bcapk, hao2, hRb2, q0, q1, q2, _, _, htb⟩ := hkids.kid (j := 1) (t := b) rfl
  cases hao2
  rw [Nat.one_mul] at q0 q1 q2
  have Htb := Lib.hid htb
  have HQ := Lib.hid (And.intro q0 (And.intro q1 q2))
  clear q0 q1 q2 htb hRb2
  clear hS hsX ht hkids hta hRb
  go_enter Tryz.func50, Tryz.ntmps50
  go_wp2_with fail
  rw [← hX]
  clear hX c0 c1 c2 p0 p1 p2
  have hcall := ha _ X (IsTree.mono (fun _ _ _ h => h) (fun b hb => Nat.lt_of_lt_of_le hb HS.out.c.size) _ _ (IsTree.nob Hta.out HS.out.c))
  (with_reducible refine hcall.mono ?_)
  clear hcall
  rintro e w1 ⟨hc1, u1, u2, rfl, hF1, hF2⟩
  have hlo := HS.out.s
  have HS1 := Lib.hid (Cs.set46 (HS.out.chg hc1) (hF1.chg (Chg.refl Nob _) (fun _ _ _ e => e) (fun b hb => Nat.le_trans hlo hb)) (hF2.chg (Chg.refl Nob _) (fun _ _ _ e => e) (fun b hb => Nat.le_trans hlo hb)))
  obtain ⟨d0, d1, d2, g0, g1, g2⟩ := cells_three (HS.out.chg hc1).b4
  obtain ⟨e0, e1, e2, h0, h1, h2⟩ := cells_three (HS.out.chg hc1).b6
  obtain ⟨c0, c1, c2, _⟩ := cells_three HS1.out.b0
  clear hF1 hF2 hc1 hlo HS
  obtain ⟨q0, q1, q2⟩ := HQ.out
  obtain ⟨q0, q1, q2⟩ := And.intro (HS1.out.c.cell' q0 (fun e => e)) (And.intro (HS1.out.c.cell' q1 (fun e => e)) (HS1.out.c.cell' q2 (fun e => e)))
  go_wp2_with fail
  generalize (((((w1.setCell ⟨w.heap.size + 1 + 1 + 1, 0, none⟩ (.int .i64 u1.k)).setCell ⟨w.heap.size + 1 + 1 + 1, 1, none⟩ (.string u1.nm)).setCell ⟨w.heap.size + 1 + 1 + 1, 2, none⟩ (.slice u1.ao u1.len u1.cap)).setCell ⟨w.heap.size + 1 + 1 + 1 + 1 + 1, 0, none⟩ (.int .i64 u2.k)).setCell ⟨w.heap.size + 1 + 1 + 1 + 1 + 1, 1, none⟩ (.string u2.nm)).setCell ⟨w.heap.size + 1 + 1 + 1 + 1 + 1, 2, none⟩ (.slice u2.ao u2.len u2.cap) = X1 at *
  clear d0 d1 d2 g0 g1 g2 e0 e1 e2 h0 h1 h2 c0 c1 c2 q0 q1 q2
  have hcall := hb _ X1 (IsTree.mono (fun _ _ _ h => h) (fun b hb => Nat.lt_of_lt_of_le hb HS1.out.c.size) _ _ (IsTree.nob Htb.out HS1.out.c))
  (with_reducible refine hcall.mono ?_)
  clear hcall
  rintro e w2 ⟨hc1, u3, u4, rfl, hF1, hF2⟩
  have hlo := HS1.out.s
  have HS2 := Lib.hid (Cs.set57 (HS1.out.chg hc1) (hF1.chg (Chg.refl Nob _) (fun _ _ _ e => e) (fun b hb => Nat.le_trans hlo hb)) (hF2.chg (Chg.refl Nob _) (fun _ _ _ e => e) (fun b hb => Nat.le_trans hlo hb)))
  obtain ⟨d0, d1, d2, g0, g1, g2⟩ := cells_three (HS1.out.chg hc1).b5
  obtain ⟨e0, e1, e2, h0, h1, h2⟩ := cells_three (HS1.out.chg hc1).b7
  clear hF1 hF2 hc1 hlo HS1
  go_wp2_with fail
  generalize (((((w2.setCell ⟨w.heap.size + 1 + 1 + 1 + 1, 0, none⟩ (.int .i64 u3.k)).setCell ⟨w.heap.size + 1 + 1 + 1 + 1, 1, none⟩ (.string u3.nm)).setCell ⟨w.heap.size + 1 + 1 + 1 + 1, 2, none⟩ (.slice u3.ao u3.len u3.cap)).setCell ⟨w.heap.size + 1 + 1 + 1 + 1 + 1 + 1, 0, none⟩ (.int .i64 u4.k)).setCell ⟨w.heap.size + 1 + 1 + 1 + 1 + 1 + 1, 1, none⟩ (.string u4.nm)).setCell ⟨w.heap.size + 1 + 1 + 1 + 1 + 1 + 1, 2, none⟩ (.slice u4.ao u4.len u4.cap) = X2 at *
  clear d0 d1 d2 g0 g1 g2 e0 e1 e2 h0 h1 h2
  (with_reducible refine (rpart_any _ _ _ _ _).mono ?_)
  rintro e w3 ⟨rfl, hc3⟩
  have hA3 : Chg Nob w3 (w3.alloc (.cells #[.int .i64 1, .string ⟨#[]⟩, .slice none 0 0] 24)) := (Chg.refl _ _).alloc _
  have HS3 := Lib.hid ((HS2.out.chg hc3).chg hA3)
  have H8 := Lib.hid (heap_alloc_new w3 (.cells #[.int .i64 1, .string ⟨#[]⟩, .slice none 0 0] 24))
  have Hlo3 := Lib.hid (HS2.out.chg hc3).s
  clear HS2 hA3 hc3
  go_wp2_with fail
  generalize w3.alloc (.cells #[.int .i64 1, .string ⟨#[]⟩, .slice none 0 0] 24) = X3 at *
  (with_reducible refine (rpart_any _ _ _ _ _).mono ?_)
  rintro e w4 ⟨rfl, hc4⟩
  have hA4 : Chg Nob w4 (w4.alloc (.cells #[.int .i64 2, .string ⟨#[]⟩, .slice none 0 0] 24)) := (Chg.refl _ _).alloc _
  have HS4 := Lib.hid ((HS3.out.chg hc4).chg hA4)
  have H84 := Lib.hid ((hc4.trans1 hA4).at H8.out (fun e => e))
  have H9 := Lib.hid (heap_alloc_new w4 (.cells #[.int .i64 2, .string ⟨#[]⟩, .slice none 0 0] 24))
  have Hlo4 := Lib.hid (HS3.out.chg hc4).s
  obtain ⟨c0, c1, c2, _⟩ := cells_three HS4.out.b0
  clear HS3 hA4 hc4 H8
  go_wp2_with fail
  generalize w4.alloc (.cells #[.int .i64 2, .string ⟨#[]⟩, .slice none 0 0] 24) = X4 at *
  clear c0 c1 c2
  refine region_good (ann := assoc [(90, Ann.t (nfT a false)), (91, Ann.t (nfT b false)), (92, Ann.l [(nfT a false), (nfT b false)]), (93, Ann.t (T.node 8 [] [(nfT a false), (nfT b false)])), (94, Ann.t (nfT a true)), (95, Ann.t (nfT b true)), (96, Ann.l [(nfT a true), (nfT b true)]), (97, Ann.t (T.node 9 [] [(nfT a true), (nfT b true)]))]) (pt := assoc [(4, (nfT a false)), (5, (nfT b false)), (6, (nfT a true)), (7, (nfT b true)), (8, T.node 1 [] []), (9, T.node 2 [] [])]) (t2 := (T.node 8 [] [(nfT a false), (nfT b false)])) (t3 := (T.node 9 [] [(nfT a true), (nfT b true)])) (B := w.heap.size + 1) (lo := w.heap.size + 7) (by kernel_rfl) (AllQ.at (l := [(4, (nfT a false)), (5, (nfT b false)), (6, (nfT a true)), (7, (nfT b true)), (8, T.node 1 [] []), (9, T.node 2 [] [])]) (⟨rfl, rfl, rfl, rfl, rfl, rfl, trivial⟩)) rfl rfl (AllQ.at (l := [(90, Ann.t (nfT a false)), (91, Ann.t (nfT b false)), (92, Ann.l [(nfT a false), (nfT b false)]), (93, Ann.t (T.node 8 [] [(nfT a false), (nfT b false)])), (94, Ann.t (nfT a true)), (95, Ann.t (nfT b true)), (96, Ann.l [(nfT a true), (nfT b true)]), (97, Ann.t (T.node 9 [] [(nfT a true), (nfT b true)]))]) (⟨(show (90 : Nat) < 174 by decide), (show (91 : Nat) < 174 by decide), (show (92 : Nat) < 174 by decide), (show (93 : Nat) < 174 by decide), (show (94 : Nat) < 174 by decide), (show (95 : Nat) < 174 by decide), (show (96 : Nat) < 174 by decide), (show (97 : Nat) < 174 by decide), trivial⟩)) HS4.out.s (by kernel_rfl)
    (.cons ⟨rfl, .load 90 4 (nfT a false) rfl rfl rfl rfl⟩ (.cons ⟨rfl, .load 91 5 (nfT b false) rfl rfl rfl rfl⟩ (.cons ⟨rfl, .two 92 90 91 (nfT a false) (nfT b false) rfl rfl rfl (dep_of (x := 90) (by kernel_rfl)) rfl (dep_of (x := 91) (by kernel_rfl)) rfl⟩ (.cons ⟨rfl, .part 93 92 8 [(nfT a false), (nfT b false)] rfl rfl rfl (dep_of (x := 92) (by kernel_rfl)) rfl⟩ (.cons ⟨rfl, .load 94 6 (nfT a true) rfl rfl rfl rfl⟩ (.cons ⟨rfl, .load 95 7 (nfT b true) rfl rfl rfl rfl⟩ (.cons ⟨rfl, .two 96 94 95 (nfT a true) (nfT b true) rfl rfl rfl (dep_of (x := 94) (by kernel_rfl)) rfl (dep_of (x := 95) (by kernel_rfl)) rfl⟩ (.cons ⟨rfl, .part 97 96 9 [(nfT a true), (nfT b true)] rfl rfl rfl (dep_of (x := 96) (by kernel_rfl)) rfl⟩ (.cons ⟨rfl, .store2 93 rfl rfl rfl (dep_of (x := 93) (by kernel_rfl))⟩ (.cons ⟨rfl, .store3 97 rfl rfl rfl (dep_of (x := 97) (by kernel_rfl))⟩ .nil)))))))))) ⟨8, _, 93, rfl, rfl⟩ ⟨9, _, 97, rfl, rfl⟩ (cinv_start HS4.out rfl rfl rfl rfl ⟨⟨_, _, _, _, _, _, rfl, by omega, by omega, HS4.out.b4, HS4.out.f4⟩, ⟨_, _, _, _, _, _, rfl, by omega, by omega, HS4.out.b5, HS4.out.f5⟩, ⟨_, _, _, _, _, _, rfl, by omega, by omega, HS4.out.b6, HS4.out.f6⟩, ⟨_, _, _, _, _, _, rfl, by omega, by omega, HS4.out.b7, HS4.out.f7⟩, ⟨_, _, _, _, _, _, rfl, by have := Hlo3.out; omega, by have := Hlo3.out; omega, H84.out, leafF _ _ 1 []⟩, ⟨_, _, _, _, _, _, rfl, by have := Hlo4.out; omega, by have := Hlo4.out; omega, H9.out, leafF _ _ 2 []⟩, trivial⟩) (fun a' w' hE => ?_)
  have Hc := Lib.hid HS4.out.c
  clear HS4 H84 H9
  have hfin := col_end (t := T.node 8 [] [a, b]) Hc.out (by rw [HN.out.1, HN.out.2]; exact hE)
  clear hE HN Hc
  go_wp2
  exact hfin

theorem nf_eq9 {a b : T} : nfT (T.node 9 [] [a, b]) false = (T.node 9 [] [(nfT a false), (nfT b false)]) ∧ nfT (T.node 9 [] [a, b]) true = (T.node 8 [] [(nfT a true), (nfT b true)]) := by
  constructor
  all_goals rw [nfT_eq]; simp [T.kind, T.kids, nfL_two, flipK]
set_option maxRecDepth 100000 in
set_option maxHeartbeats 16000000 in
theorem col9 {a b : T} (ha : ColC a) (hb : ColC b) : ColC (T.node 9 [] [a, b]) := by
  intro v w ht
  obtain ⟨ao, cap, rfl, hlen, hkids⟩ := ht.parts
  simp only [T.kind, T.name, T.kids, List.length_cons, List.length_nil, Nat.zero_add] at hlen hkids ⊢
  have HN := Lib.hid (nf_eq9 (a := a) (b := b))
  obtain ⟨X, hX, hsX, hS⟩ := Cs.first w ⟨9, ⟨#[]⟩, ao, 2, cap⟩
  simp only [box37] at hX
  have HS := Lib.hid hS
  obtain ⟨c0, c1, c2, _⟩ := cells_three HS.out.b0
  rw [hX] at c0 c1 c2
  obtain ⟨b1, o1, ak, capk, hao, hRb, p0, p1, p2, _, _, hta⟩ := hkids.kid (j := 0) (t := a) rfl
  subst hao
  rw [Nat.zero_mul, Nat.add_zero] at p0 p1 p2
  have Hta := Lib.hid hta
  have HP := Lib.hid (And.intro p0 (And.intro p1 p2))
  obtain ⟨p0, p1, p2⟩ := And.intro (HS.out.c.cell' p0 (fun e => e)) (And.intro (HS.out.c.cell' p1 (fun e => e)) (HS.out.c.cell' p2 (fun e => e)))
  rw [hX] at p0 p1 p2
  obtain ⟨b2, o2, bk, bcapk, hao2, hRb2, q0, q1, q2, _, _, htb⟩ := hkids.kid (j := 1) (t := b) rfl
  cases hao2
  rw [Nat.one_mul] at q0 q1 q2
  have Htb := Lib.hid htb
  have HQ := Lib.hid (And.intro q0 (And.intro q1 q2))
  clear q0 q1 q2 htb hRb2
  clear hS hsX ht hkids hta hRb
  go_enter Tryz.func50, Tryz.ntmps50
  go_wp2_with fail
  rw [← hX]
  clear hX c0 c1 c2 p0 p1 p2
  have hcall := ha _ X (IsTree.mono (fun _ _ _ h => h) (fun b hb => Nat.lt_of_lt_of_le hb HS.out.c.size) _ _ (IsTree.nob Hta.out HS.out.c))
  (with_reducible refine hcall.mono ?_)
  clear hcall
  rintro e w1 ⟨hc1, u1, u2, rfl, hF1, hF2⟩
  have hlo := HS.out.s
  have HS1 := Lib.hid (Cs.set46 (HS.out.chg hc1) (hF1.chg (Chg.refl Nob _) (fun _ _ _ e => e) (fun b hb => Nat.le_trans hlo hb)) (hF2.chg (Chg.refl Nob _) (fun _ _ _ e => e) (fun b hb => Nat.le_trans hlo hb)))
  obtain ⟨d0, d1, d2, g0, g1, g2⟩ := cells_three (HS.out.chg hc1).b4
  obtain ⟨e0, e1, e2, h0, h1, h2⟩ := cells_three (HS.out.chg hc1).b6
  obtain ⟨c0, c1, c2, _⟩ := cells_three HS1.out.b0
  clear hF1 hF2 hc1 hlo HS
  obtain ⟨q0, q1, q2⟩ := HQ.out
  obtain ⟨q0, q1, q2⟩ := And.intro (HS1.out.c.cell' q0 (fun e => e)) (And.intro (HS1.out.c.cell' q1 (fun e => e)) (HS1.out.c.cell' q2 (fun e => e)))
  go_wp2_with fail
  generalize (((((w1.setCell ⟨w.heap.size + 1 + 1 + 1, 0, none⟩ (.int .i64 u1.k)).setCell ⟨w.heap.size + 1 + 1 + 1, 1, none⟩ (.string u1.nm)).setCell ⟨w.heap.size + 1 + 1 + 1, 2, none⟩ (.slice u1.ao u1.len u1.cap)).setCell ⟨w.heap.size + 1 + 1 + 1 + 1 + 1, 0, none⟩ (.int .i64 u2.k)).setCell ⟨w.heap.size + 1 + 1 + 1 + 1 + 1, 1, none⟩ (.string u2.nm)).setCell ⟨w.heap.size + 1 + 1 + 1 + 1 + 1, 2, none⟩ (.slice u2.ao u2.len u2.cap) = X1 at *
  clear d0 d1 d2 g0 g1 g2 e0 e1 e2 h0 h1 h2 c0 c1 c2 q0 q1 q2
  have hcall := hb _ X1 (IsTree.mono (fun _ _ _ h => h) (fun b hb => Nat.lt_of_lt_of_le hb HS1.out.c.size) _ _ (IsTree.nob Htb.out HS1.out.c))
  (with_reducible refine hcall.mono ?_)
  clear hcall
  rintro e w2 ⟨hc1, u3, u4, rfl, hF1, hF2⟩
  have hlo := HS1.out.s
  have HS2 := Lib.hid (Cs.set57 (HS1.out.chg hc1) (hF1.chg (Chg.refl Nob _) (fun _ _ _ e => e) (fun b hb => Nat.le_trans hlo hb)) (hF2.chg (Chg.refl Nob _) (fun _ _ _ e => e) (fun b hb => Nat.le_trans hlo hb)))
  obtain ⟨d0, d1, d2, g0, g1, g2⟩ := cells_three (HS1.out.chg hc1).b5
  obtain ⟨e0, e1, e2, h0, h1, h2⟩ := cells_three (HS1.out.chg hc1).b7
  clear hF1 hF2 hc1 hlo HS1
  go_wp2_with fail
  generalize (((((w2.setCell ⟨w.heap.size + 1 + 1 + 1 + 1, 0, none⟩ (.int .i64 u3.k)).setCell ⟨w.heap.size + 1 + 1 + 1 + 1, 1, none⟩ (.string u3.nm)).setCell ⟨w.heap.size + 1 + 1 + 1 + 1, 2, none⟩ (.slice u3.ao u3.len u3.cap)).setCell ⟨w.heap.size + 1 + 1 + 1 + 1 + 1 + 1, 0, none⟩ (.int .i64 u4.k)).setCell ⟨w.heap.size + 1 + 1 + 1 + 1 + 1 + 1, 1, none⟩ (.string u4.nm)).setCell ⟨w.heap.size + 1 + 1 + 1 + 1 + 1 + 1, 2, none⟩ (.slice u4.ao u4.len u4.cap) = X2 at *
  clear d0 d1 d2 g0 g1 g2 e0 e1 e2 h0 h1 h2
  (with_reducible refine (rpart_any _ _ _ _ _).mono ?_)
  rintro e w3 ⟨rfl, hc3⟩
  have hA3 : Chg Nob w3 (w3.alloc (.cells #[.int .i64 1, .string ⟨#[]⟩, .slice none 0 0] 24)) := (Chg.refl _ _).alloc _
  have HS3 := Lib.hid ((HS2.out.chg hc3).chg hA3)
  have H8 := Lib.hid (heap_alloc_new w3 (.cells #[.int .i64 1, .string ⟨#[]⟩, .slice none 0 0] 24))
  have Hlo3 := Lib.hid (HS2.out.chg hc3).s
  clear HS2 hA3 hc3
  go_wp2_with fail
  generalize w3.alloc (.cells #[.int .i64 1, .string ⟨#[]⟩, .slice none 0 0] 24) = X3 at *
  (with_reducible refine (rpart_any _ _ _ _ _).mono ?_)
  rintro e w4 ⟨rfl, hc4⟩
  have hA4 : Chg Nob w4 (w4.alloc (.cells #[.int .i64 2, .string ⟨#[]⟩, .slice none 0 0] 24)) := (Chg.refl _ _).alloc _
  have HS4 := Lib.hid ((HS3.out.chg hc4).chg hA4)
  have H84 := Lib.hid ((hc4.trans1 hA4).at H8.out (fun e => e))
  have H9 := Lib.hid (heap_alloc_new w4 (.cells #[.int .i64 2, .string ⟨#[]⟩, .slice none 0 0] 24))
  have Hlo4 := Lib.hid (HS3.out.chg hc4).s
  obtain ⟨c0, c1, c2, _⟩ := cells_three HS4.out.b0
  clear HS3 hA4 hc4 H8
  go_wp2_with fail
  generalize w4.alloc (.cells #[.int .i64 2, .string ⟨#[]⟩, .slice none 0 0] 24) = X4 at *
  clear c0 c1 c2
  refine region_good (ann := assoc [(100, Ann.t (nfT a false)), (101, Ann.t (nfT b false)), (102, Ann.l [(nfT a false), (nfT b false)]), (103, Ann.t (T.node 9 [] [(nfT a false), (nfT b false)])), (104, Ann.t (nfT a true)), (105, Ann.t (nfT b true)), (106, Ann.l [(nfT a true), (nfT b true)]), (107, Ann.t (T.node 8 [] [(nfT a true), (nfT b true)]))]) (pt := assoc [(4, (nfT a false)), (5, (nfT b false)), (6, (nfT a true)), (7, (nfT b true)), (8, T.node 1 [] []), (9, T.node 2 [] [])]) (t2 := (T.node 9 [] [(nfT a false), (nfT b false)])) (t3 := (T.node 8 [] [(nfT a true), (nfT b true)])) (B := w.heap.size + 1) (lo := w.heap.size + 7) (by kernel_rfl) (AllQ.at (l := [(4, (nfT a false)), (5, (nfT b false)), (6, (nfT a true)), (7, (nfT b true)), (8, T.node 1 [] []), (9, T.node 2 [] [])]) (⟨rfl, rfl, rfl, rfl, rfl, rfl, trivial⟩)) rfl rfl (AllQ.at (l := [(100, Ann.t (nfT a false)), (101, Ann.t (nfT b false)), (102, Ann.l [(nfT a false), (nfT b false)]), (103, Ann.t (T.node 9 [] [(nfT a false), (nfT b false)])), (104, Ann.t (nfT a true)), (105, Ann.t (nfT b true)), (106, Ann.l [(nfT a true), (nfT b true)]), (107, Ann.t (T.node 8 [] [(nfT a true), (nfT b true)]))]) (⟨(show (100 : Nat) < 174 by decide), (show (101 : Nat) < 174 by decide), (show (102 : Nat) < 174 by decide), (show (103 : Nat) < 174 by decide), (show (104 : Nat) < 174 by decide), (show (105 : Nat) < 174 by decide), (show (106 : Nat) < 174 by decide), (show (107 : Nat) < 174 by decide), trivial⟩)) HS4.out.s (by kernel_rfl)
    (.cons ⟨rfl, .load 100 4 (nfT a false) rfl rfl rfl rfl⟩ (.cons ⟨rfl, .load 101 5 (nfT b false) rfl rfl rfl rfl⟩ (.cons ⟨rfl, .two 102 100 101 (nfT a false) (nfT b false) rfl rfl rfl (dep_of (x := 100) (by kernel_rfl)) rfl (dep_of (x := 101) (by kernel_rfl)) rfl⟩ (.cons ⟨rfl, .part 103 102 9 [(nfT a false), (nfT b false)] rfl rfl rfl (dep_of (x := 102) (by kernel_rfl)) rfl⟩ (.cons ⟨rfl, .load 104 6 (nfT a true) rfl rfl rfl rfl⟩ (.cons ⟨rfl, .load 105 7 (nfT b true) rfl rfl rfl rfl⟩ (.cons ⟨rfl, .two 106 104 105 (nfT a true) (nfT b true) rfl rfl rfl (dep_of (x := 104) (by kernel_rfl)) rfl (dep_of (x := 105) (by kernel_rfl)) rfl⟩ (.cons ⟨rfl, .part 107 106 8 [(nfT a true), (nfT b true)] rfl rfl rfl (dep_of (x := 106) (by kernel_rfl)) rfl⟩ (.cons ⟨rfl, .store2 103 rfl rfl rfl (dep_of (x := 103) (by kernel_rfl))⟩ (.cons ⟨rfl, .store3 107 rfl rfl rfl (dep_of (x := 107) (by kernel_rfl))⟩ .nil)))))))))) ⟨8, _, 103, rfl, rfl⟩ ⟨9, _, 107, rfl, rfl⟩ (cinv_start HS4.out rfl rfl rfl rfl ⟨⟨_, _, _, _, _, _, rfl, by omega, by omega, HS4.out.b4, HS4.out.f4⟩, ⟨_, _, _, _, _, _, rfl, by omega, by omega, HS4.out.b5, HS4.out.f5⟩, ⟨_, _, _, _, _, _, rfl, by omega, by omega, HS4.out.b6, HS4.out.f6⟩, ⟨_, _, _, _, _, _, rfl, by omega, by omega, HS4.out.b7, HS4.out.f7⟩, ⟨_, _, _, _, _, _, rfl, by have := Hlo3.out; omega, by have := Hlo3.out; omega, H84.out, leafF _ _ 1 []⟩, ⟨_, _, _, _, _, _, rfl, by have := Hlo4.out; omega, by have := Hlo4.out; omega, H9.out, leafF _ _ 2 []⟩, trivial⟩) (fun a' w' hE => ?_)
  have Hc := Lib.hid HS4.out.c
  clear HS4 H84 H9
  have hfin := col_end (t := T.node 9 [] [a, b]) Hc.out (by rw [HN.out.1, HN.out.2]; exact hE)
  clear hE HN Hc
  go_wp2
  exact hfin

theorem nf_eq10 {a b : T} : nfT (T.node 10 [] [a, b]) false = (T.node 9 [] [(nfT a true), (nfT b false)]) ∧ nfT (T.node 10 [] [a, b]) true = (T.node 8 [] [(nfT a false), (nfT b true)]) := by
  constructor
  all_goals rw [nfT_eq]; simp [T.kind, T.kids, nfL_two, flipK]
set_option maxRecDepth 100000 in
set_option maxHeartbeats 16000000 in
theorem col10 {a b : T} (ha : ColC a) (hb : ColC b) : ColC (T.node 10 [] [a, b]) := by
  intro v w ht
  obtain ⟨ao, cap, rfl, hlen, hkids⟩ := ht.parts
  simp only [T.kind, T.name, T.kids, List.length_cons, List.length_nil, Nat.zero_add] at hlen hkids ⊢
  have HN := Lib.hid (nf_eq10 (a := a) (b := b))
  obtain ⟨X, hX, hsX, hS⟩ := Cs.first w ⟨10, ⟨#[]⟩, ao, 2, cap⟩
  simp only [box37] at hX
  have HS := Lib.hid hS
  obtain ⟨c0, c1, c2, _⟩ := cells_three HS.out.b0
  rw [hX] at c0 c1 c2
  obtain ⟨b1, o1, ak, capk, hao, hRb, p0, p1, p2, _, _, hta⟩ := hkids.kid (j := 0) (t := a) rfl
  subst hao
  rw [Nat.zero_mul, Nat.add_zero] at p0 p1 p2
  have Hta := Lib.hid hta
  have HP := Lib.hid (And.intro p0 (And.intro p1 p2))
  obtain ⟨p0, p1, p2⟩ := And.intro (HS.out.c.cell' p0 (fun e => e)) (And.intro (HS.out.c.cell' p1 (fun e => e)) (HS.out.c.cell' p2 (fun e => e)))
  rw [hX] at p0 p1 p2
  obtain ⟨b2, o2, bk, bcapk, hao2, hRb2, q0, q1, q2, _, _, htb⟩ := hkids.kid (j := 1) (t := b) rfl
  cases hao2
  rw [Nat.one_mul] at q0 q1 q2
  have Htb := Lib.hid htb
  have HQ := Lib.hid (And.intro q0 (And.intro q1 q2))
  clear q0 q1 q2 htb hRb2
  clear hS hsX ht hkids hta hRb
  go_enter Tryz.func50, Tryz.ntmps50
  go_wp2_with fail
  rw [← hX]
  clear hX c0 c1 c2 p0 p1 p2
  have hcall := ha _ X (IsTree.mono (fun _ _ _ h => h) (fun b hb => Nat.lt_of_lt_of_le hb HS.out.c.size) _ _ (IsTree.nob Hta.out HS.out.c))
  (with_reducible refine hcall.mono ?_)
  clear hcall
  rintro e w1 ⟨hc1, u1, u2, rfl, hF1, hF2⟩
  have hlo := HS.out.s
  have HS1 := Lib.hid (Cs.set46 (HS.out.chg hc1) (hF1.chg (Chg.refl Nob _) (fun _ _ _ e => e) (fun b hb => Nat.le_trans hlo hb)) (hF2.chg (Chg.refl Nob _) (fun _ _ _ e => e) (fun b hb => Nat.le_trans hlo hb)))
  obtain ⟨d0, d1, d2, g0, g1, g2⟩ := cells_three (HS.out.chg hc1).b4
  obtain ⟨e0, e1, e2, h0, h1, h2⟩ := cells_three (HS.out.chg hc1).b6
  obtain ⟨c0, c1, c2, _⟩ := cells_three HS1.out.b0
  clear hF1 hF2 hc1 hlo HS
  obtain ⟨q0, q1, q2⟩ := HQ.out
  obtain ⟨q0, q1, q2⟩ := And.intro (HS1.out.c.cell' q0 (fun e => e)) (And.intro (HS1.out.c.cell' q1 (fun e => e)) (HS1.out.c.cell' q2 (fun e => e)))
  go_wp2_with fail
  generalize (((((w1.setCell ⟨w.heap.size + 1 + 1 + 1, 0, none⟩ (.int .i64 u1.k)).setCell ⟨w.heap.size + 1 + 1 + 1, 1, none⟩ (.string u1.nm)).setCell ⟨w.heap.size + 1 + 1 + 1, 2, none⟩ (.slice u1.ao u1.len u1.cap)).setCell ⟨w.heap.size + 1 + 1 + 1 + 1 + 1, 0, none⟩ (.int .i64 u2.k)).setCell ⟨w.heap.size + 1 + 1 + 1 + 1 + 1, 1, none⟩ (.string u2.nm)).setCell ⟨w.heap.size + 1 + 1 + 1 + 1 + 1, 2, none⟩ (.slice u2.ao u2.len u2.cap) = X1 at *
  clear d0 d1 d2 g0 g1 g2 e0 e1 e2 h0 h1 h2 c0 c1 c2 q0 q1 q2
  have hcall := hb _ X1 (IsTree.mono (fun _ _ _ h => h) (fun b hb => Nat.lt_of_lt_of_le hb HS1.out.c.size) _ _ (IsTree.nob Htb.out HS1.out.c))
  (with_reducible refine hcall.mono ?_)
  clear hcall
  rintro e w2 ⟨hc1, u3, u4, rfl, hF1, hF2⟩
  have hlo := HS1.out.s
  have HS2 := Lib.hid (Cs.set57 (HS1.out.chg hc1) (hF1.chg (Chg.refl Nob _) (fun _ _ _ e => e) (fun b hb => Nat.le_trans hlo hb)) (hF2.chg (Chg.refl Nob _) (fun _ _ _ e => e) (fun b hb => Nat.le_trans hlo hb)))
  obtain ⟨d0, d1, d2, g0, g1, g2⟩ := cells_three (HS1.out.chg hc1).b5
  obtain ⟨e0, e1, e2, h0, h1, h2⟩ := cells_three (HS1.out.chg hc1).b7
  clear hF1 hF2 hc1 hlo HS1
  go_wp2_with fail
  generalize (((((w2.setCell ⟨w.heap.size + 1 + 1 + 1 + 1, 0, none⟩ (.int .i64 u3.k)).setCell ⟨w.heap.size + 1 + 1 + 1 + 1, 1, none⟩ (.string u3.nm)).setCell ⟨w.heap.size + 1 + 1 + 1 + 1, 2, none⟩ (.slice u3.ao u3.len u3.cap)).setCell ⟨w.heap.size + 1 + 1 + 1 + 1 + 1 + 1, 0, none⟩ (.int .i64 u4.k)).setCell ⟨w.heap.size + 1 + 1 + 1 + 1 + 1 + 1, 1, none⟩ (.string u4.nm)).setCell ⟨w.heap.size + 1 + 1 + 1 + 1 + 1 + 1, 2, none⟩ (.slice u4.ao u4.len u4.cap) = X2 at *
  clear d0 d1 d2 g0 g1 g2 e0 e1 e2 h0 h1 h2
  (with_reducible refine (rpart_any _ _ _ _ _).mono ?_)
  rintro e w3 ⟨rfl, hc3⟩
  have hA3 : Chg Nob w3 (w3.alloc (.cells #[.int .i64 1, .string ⟨#[]⟩, .slice none 0 0] 24)) := (Chg.refl _ _).alloc _
  have HS3 := Lib.hid ((HS2.out.chg hc3).chg hA3)
  have H8 := Lib.hid (heap_alloc_new w3 (.cells #[.int .i64 1, .string ⟨#[]⟩, .slice none 0 0] 24))
  have Hlo3 := Lib.hid (HS2.out.chg hc3).s
  clear HS2 hA3 hc3
  go_wp2_with fail
  generalize w3.alloc (.cells #[.int .i64 1, .string ⟨#[]⟩, .slice none 0 0] 24) = X3 at *
  (with_reducible refine (rpart_any _ _ _ _ _).mono ?_)
  rintro e w4 ⟨rfl, hc4⟩
  have hA4 : Chg Nob w4 (w4.alloc (.cells #[.int .i64 2, .string ⟨#[]⟩, .slice none 0 0] 24)) := (Chg.refl _ _).alloc _
  have HS4 := Lib.hid ((HS3.out.chg hc4).chg hA4)
  have H84 := Lib.hid ((hc4.trans1 hA4).at H8.out (fun e => e))
  have H9 := Lib.hid (heap_alloc_new w4 (.cells #[.int .i64 2, .string ⟨#[]⟩, .slice none 0 0] 24))
  have Hlo4 := Lib.hid (HS3.out.chg hc4).s
  obtain ⟨c0, c1, c2, _⟩ := cells_three HS4.out.b0
  clear HS3 hA4 hc4 H8
  go_wp2_with fail
  generalize w4.alloc (.cells #[.int .i64 2, .string ⟨#[]⟩, .slice none 0 0] 24) = X4 at *
  clear c0 c1 c2
  refine region_good (ann := assoc [(110, Ann.t (nfT a true)), (111, Ann.t (nfT b false)), (112, Ann.l [(nfT a true), (nfT b false)]), (113, Ann.t (T.node 9 [] [(nfT a true), (nfT b false)])), (114, Ann.t (nfT a false)), (115, Ann.t (nfT b true)), (116, Ann.l [(nfT a false), (nfT b true)]), (117, Ann.t (T.node 8 [] [(nfT a false), (nfT b true)]))]) (pt := assoc [(4, (nfT a false)), (5, (nfT b false)), (6, (nfT a true)), (7, (nfT b true)), (8, T.node 1 [] []), (9, T.node 2 [] [])]) (t2 := (T.node 9 [] [(nfT a true), (nfT b false)])) (t3 := (T.node 8 [] [(nfT a false), (nfT b true)])) (B := w.heap.size + 1) (lo := w.heap.size + 7) (by kernel_rfl) (AllQ.at (l := [(4, (nfT a false)), (5, (nfT b false)), (6, (nfT a true)), (7, (nfT b true)), (8, T.node 1 [] []), (9, T.node 2 [] [])]) (⟨rfl, rfl, rfl, rfl, rfl, rfl, trivial⟩)) rfl rfl (AllQ.at (l := [(110, Ann.t (nfT a true)), (111, Ann.t (nfT b false)), (112, Ann.l [(nfT a true), (nfT b false)]), (113, Ann.t (T.node 9 [] [(nfT a true), (nfT b false)])), (114, Ann.t (nfT a false)), (115, Ann.t (nfT b true)), (116, Ann.l [(nfT a false), (nfT b true)]), (117, Ann.t (T.node 8 [] [(nfT a false), (nfT b true)]))]) (⟨(show (110 : Nat) < 174 by decide), (show (111 : Nat) < 174 by decide), (show (112 : Nat) < 174 by decide), (show (113 : Nat) < 174 by decide), (show (114 : Nat) < 174 by decide), (show (115 : Nat) < 174 by decide), (show (116 : Nat) < 174 by decide), (show (117 : Nat) < 174 by decide), trivial⟩)) HS4.out.s (by kernel_rfl)
    (.cons ⟨rfl, .load 110 6 (nfT a true) rfl rfl rfl rfl⟩ (.cons ⟨rfl, .load 111 5 (nfT b false) rfl rfl rfl rfl⟩ (.cons ⟨rfl, .two 112 110 111 (nfT a true) (nfT b false) rfl rfl rfl (dep_of (x := 110) (by kernel_rfl)) rfl (dep_of (x := 111) (by kernel_rfl)) rfl⟩ (.cons ⟨rfl, .part 113 112 9 [(nfT a true), (nfT b false)] rfl rfl rfl (dep_of (x := 112) (by kernel_rfl)) rfl⟩ (.cons ⟨rfl, .load 114 4 (nfT a false) rfl rfl rfl rfl⟩ (.cons ⟨rfl, .load 115 7 (nfT b true) rfl rfl rfl rfl⟩ (.cons ⟨rfl, .two 116 114 115 (nfT a false) (nfT b true) rfl rfl rfl (dep_of (x := 114) (by kernel_rfl)) rfl (dep_of (x := 115) (by kernel_rfl)) rfl⟩ (.cons ⟨rfl, .part 117 116 8 [(nfT a false), (nfT b true)] rfl rfl rfl (dep_of (x := 116) (by kernel_rfl)) rfl⟩ (.cons ⟨rfl, .store2 113 rfl rfl rfl (dep_of (x := 113) (by kernel_rfl))⟩ (.cons ⟨rfl, .store3 117 rfl rfl rfl (dep_of (x := 117) (by kernel_rfl))⟩ .nil)))))))))) ⟨8, _, 113, rfl, rfl⟩ ⟨9, _, 117, rfl, rfl⟩ (cinv_start HS4.out rfl rfl rfl rfl ⟨⟨_, _, _, _, _, _, rfl, by omega, by omega, HS4.out.b4, HS4.out.f4⟩, ⟨_, _, _, _, _, _, rfl, by omega, by omega, HS4.out.b5, HS4.out.f5⟩, ⟨_, _, _, _, _, _, rfl, by omega, by omega, HS4.out.b6, HS4.out.f6⟩, ⟨_, _, _, _, _, _, rfl, by omega, by omega, HS4.out.b7, HS4.out.f7⟩, ⟨_, _, _, _, _, _, rfl, by have := Hlo3.out; omega, by have := Hlo3.out; omega, H84.out, leafF _ _ 1 []⟩, ⟨_, _, _, _, _, _, rfl, by have := Hlo4.out; omega, by have := Hlo4.out; omega, H9.out, leafF _ _ 2 []⟩, trivial⟩) (fun a' w' hE => ?_)
  have Hc := Lib.hid HS4.out.c
  clear HS4 H84 H9
  have hfin := col_end (t := T.node 10 [] [a, b]) Hc.out (by rw [HN.out.1, HN.out.2]; exact hE)
  clear hE HN Hc
  go_wp2
  exact hfin

theorem nf_eq11 {a b : T} : nfT (T.node 11 [] [a, b]) false = (T.node 9 [] [(T.node 8 [] [(nfT a false), (nfT b false)]), (T.node 8 [] [(nfT a true), (nfT b true)])]) ∧ nfT (T.node 11 [] [a, b]) true = (T.node 9 [] [(T.node 8 [] [(nfT a false), (nfT b true)]), (T.node 8 [] [(nfT a true), (nfT b false)])]) := by
  constructor
  all_goals rw [nfT_eq]; simp [T.kind, T.kids, nfL_two]
set_option maxRecDepth 100000 in
set_option maxHeartbeats 16000000 in
theorem col11 {a b : T} (ha : ColC a) (hb : ColC b) : ColC (T.node 11 [] [a, b]) := by
  intro v w ht
  obtain ⟨ao, cap, rfl, hlen, hkids⟩ := ht.parts
  simp only [T.kind, T.name, T.kids, List.length_cons, List.length_nil, Nat.zero_add] at hlen hkids ⊢
  have HN := Lib.hid (nf_eq11 (a := a) (b := b))
  obtain ⟨X, hX, hsX, hS⟩ := Cs.first w ⟨11, ⟨#[]⟩, ao, 2, cap⟩
  simp only [box37] at hX
  have HS := Lib.hid hS
  obtain ⟨c0, c1, c2, _⟩ := cells_three HS.out.b0
  rw [hX] at c0 c1 c2
  obtain ⟨b1, o1, ak, capk, hao, hRb, p0, p1, p2, _, _, hta⟩ := hkids.kid (j := 0) (t := a) rfl
  subst hao
  rw [Nat.zero_mul, Nat.add_zero] at p0 p1 p2
  have Hta := Lib.hid hta
  have HP := Lib.hid (And.intro p0 (And.intro p1 p2))
  obtain ⟨p0, p1, p2⟩ := And.intro (HS.out.c.cell' p0 (fun e => e)) (And.intro (HS.out.c.cell' p1 (fun e => e)) (HS.out.c.cell' p2 (fun e => e)))
  rw [hX] at p0 p1 p2
  obtain ⟨b2, o2, bk, bcapk, hao2, hRb2, q0, q1, q2, _, _, htb⟩ := hkids.kid (j := 1) (t := b) rfl
  cases hao2
  rw [Nat.one_mul] at q0 q1 q2
  have Htb := Lib.hid htb
  have HQ := Lib.hid (And.intro q0 (And.intro q1 q2))
  clear q0 q1 q2 htb hRb2
  clear hS hsX ht hkids hta hRb
  go_enter Tryz.func50, Tryz.ntmps50
  go_wp2_with fail
  rw [← hX]
  clear hX c0 c1 c2 p0 p1 p2
  have hcall := ha _ X (IsTree.mono (fun _ _ _ h => h) (fun b hb => Nat.lt_of_lt_of_le hb HS.out.c.size) _ _ (IsTree.nob Hta.out HS.out.c))
  (with_reducible refine hcall.mono ?_)
  clear hcall
  rintro e w1 ⟨hc1, u1, u2, rfl, hF1, hF2⟩
  have hlo := HS.out.s
  have HS1 := Lib.hid (Cs.set46 (HS.out.chg hc1) (hF1.chg (Chg.refl Nob _) (fun _ _ _ e => e) (fun b hb => Nat.le_trans hlo hb)) (hF2.chg (Chg.refl Nob _) (fun _ _ _ e => e) (fun b hb => Nat.le_trans hlo hb)))
  obtain ⟨d0, d1, d2, g0, g1, g2⟩ := cells_three (HS.out.chg hc1).b4
  obtain ⟨e0, e1, e2, h0, h1, h2⟩ := cells_three (HS.out.chg hc1).b6
  obtain ⟨c0, c1, c2, _⟩ := cells_three HS1.out.b0
  clear hF1 hF2 hc1 hlo HS
  obtain ⟨q0, q1, q2⟩ := HQ.out
  obtain ⟨q0, q1, q2⟩ := And.intro (HS1.out.c.cell' q0 (fun e => e)) (And.intro (HS1.out.c.cell' q1 (fun e => e)) (HS1.out.c.cell' q2 (fun e => e)))
  go_wp2_with fail
  generalize (((((w1.setCell ⟨w.heap.size + 1 + 1 + 1, 0, none⟩ (.int .i64 u1.k)).setCell ⟨w.heap.size + 1 + 1 + 1, 1, none⟩ (.string u1.nm)).setCell ⟨w.heap.size + 1 + 1 + 1, 2, none⟩ (.slice u1.ao u1.len u1.cap)).setCell ⟨w.heap.size + 1 + 1 + 1 + 1 + 1, 0, none⟩ (.int .i64 u2.k)).setCell ⟨w.heap.size + 1 + 1 + 1 + 1 + 1, 1, none⟩ (.string u2.nm)).setCell ⟨w.heap.size + 1 + 1 + 1 + 1 + 1, 2, none⟩ (.slice u2.ao u2.len u2.cap) = X1 at *
  clear d0 d1 d2 g0 g1 g2 e0 e1 e2 h0 h1 h2 c0 c1 c2 q0 q1 q2
  have hcall := hb _ X1 (IsTree.mono (fun _ _ _ h => h) (fun b hb => Nat.lt_of_lt_of_le hb HS1.out.c.size) _ _ (IsTree.nob Htb.out HS1.out.c))
  (with_reducible refine hcall.mono ?_)
  clear hcall
  rintro e w2 ⟨hc1, u3, u4, rfl, hF1, hF2⟩
  have hlo := HS1.out.s
  have HS2 := Lib.hid (Cs.set57 (HS1.out.chg hc1) (hF1.chg (Chg.refl Nob _) (fun _ _ _ e => e) (fun b hb => Nat.le_trans hlo hb)) (hF2.chg (Chg.refl Nob _) (fun _ _ _ e => e) (fun b hb => Nat.le_trans hlo hb)))
  obtain ⟨d0, d1, d2, g0, g1, g2⟩ := cells_three (HS1.out.chg hc1).b5
  obtain ⟨e0, e1, e2, h0, h1, h2⟩ := cells_three (HS1.out.chg hc1).b7
  clear hF1 hF2 hc1 hlo HS1
  go_wp2_with fail
  generalize (((((w2.setCell ⟨w.heap.size + 1 + 1 + 1 + 1, 0, none⟩ (.int .i64 u3.k)).setCell ⟨w.heap.size + 1 + 1 + 1 + 1, 1, none⟩ (.string u3.nm)).setCell ⟨w.heap.size + 1 + 1 + 1 + 1, 2, none⟩ (.slice u3.ao u3.len u3.cap)).setCell ⟨w.heap.size + 1 + 1 + 1 + 1 + 1 + 1, 0, none⟩ (.int .i64 u4.k)).setCell ⟨w.heap.size + 1 + 1 + 1 + 1 + 1 + 1, 1, none⟩ (.string u4.nm)).setCell ⟨w.heap.size + 1 + 1 + 1 + 1 + 1 + 1, 2, none⟩ (.slice u4.ao u4.len u4.cap) = X2 at *
  clear d0 d1 d2 g0 g1 g2 e0 e1 e2 h0 h1 h2
  (with_reducible refine (rpart_any _ _ _ _ _).mono ?_)
  rintro e w3 ⟨rfl, hc3⟩
  have hA3 : Chg Nob w3 (w3.alloc (.cells #[.int .i64 1, .string ⟨#[]⟩, .slice none 0 0] 24)) := (Chg.refl _ _).alloc _
  have HS3 := Lib.hid ((HS2.out.chg hc3).chg hA3)
  have H8 := Lib.hid (heap_alloc_new w3 (.cells #[.int .i64 1, .string ⟨#[]⟩, .slice none 0 0] 24))
  have Hlo3 := Lib.hid (HS2.out.chg hc3).s
  clear HS2 hA3 hc3
  go_wp2_with fail
  generalize w3.alloc (.cells #[.int .i64 1, .string ⟨#[]⟩, .slice none 0 0] 24) = X3 at *
  (with_reducible refine (rpart_any _ _ _ _ _).mono ?_)
  rintro e w4 ⟨rfl, hc4⟩
  have hA4 : Chg Nob w4 (w4.alloc (.cells #[.int .i64 2, .string ⟨#[]⟩, .slice none 0 0] 24)) := (Chg.refl _ _).alloc _
  have HS4 := Lib.hid ((HS3.out.chg hc4).chg hA4)
  have H84 := Lib.hid ((hc4.trans1 hA4).at H8.out (fun e => e))
  have H9 := Lib.hid (heap_alloc_new w4 (.cells #[.int .i64 2, .string ⟨#[]⟩, .slice none 0 0] 24))
  have Hlo4 := Lib.hid (HS3.out.chg hc4).s
  obtain ⟨c0, c1, c2, _⟩ := cells_three HS4.out.b0
  clear HS3 hA4 hc4 H8
  go_wp2_with fail
  generalize w4.alloc (.cells #[.int .i64 2, .string ⟨#[]⟩, .slice none 0 0] 24) = X4 at *
  clear c0 c1 c2
  refine region_good (ann := assoc [(120, Ann.t (nfT a false)), (121, Ann.t (nfT b false)), (122, Ann.l [(nfT a false), (nfT b false)]), (123, Ann.t (T.node 8 [] [(nfT a false), (nfT b false)])), (124, Ann.t (nfT a true)), (125, Ann.t (nfT b true)), (126, Ann.l [(nfT a true), (nfT b true)]), (127, Ann.t (T.node 8 [] [(nfT a true), (nfT b true)])), (128, Ann.l [(T.node 8 [] [(nfT a false), (nfT b false)]), (T.node 8 [] [(nfT a true), (nfT b true)])]), (129, Ann.t (T.node 9 [] [(T.node 8 [] [(nfT a false), (nfT b false)]), (T.node 8 [] [(nfT a true), (nfT b true)])])), (130, Ann.t (nfT a false)), (131, Ann.t (nfT b true)), (132, Ann.l [(nfT a false), (nfT b true)]), (133, Ann.t (T.node 8 [] [(nfT a false), (nfT b true)])), (134, Ann.t (nfT a true)), (135, Ann.t (nfT b false)), (136, Ann.l [(nfT a true), (nfT b false)]), (137, Ann.t (T.node 8 [] [(nfT a true), (nfT b false)])), (138, Ann.l [(T.node 8 [] [(nfT a false), (nfT b true)]), (T.node 8 [] [(nfT a true), (nfT b false)])]), (139, Ann.t (T.node 9 [] [(T.node 8 [] [(nfT a false), (nfT b true)]), (T.node 8 [] [(nfT a true), (nfT b false)])]))]) (pt := assoc [(4, (nfT a false)), (5, (nfT b false)), (6, (nfT a true)), (7, (nfT b true)), (8, T.node 1 [] []), (9, T.node 2 [] [])]) (t2 := (T.node 9 [] [(T.node 8 [] [(nfT a false), (nfT b false)]), (T.node 8 [] [(nfT a true), (nfT b true)])])) (t3 := (T.node 9 [] [(T.node 8 [] [(nfT a false), (nfT b true)]), (T.node 8 [] [(nfT a true), (nfT b false)])])) (B := w.heap.size + 1) (lo := w.heap.size + 7) (by kernel_rfl) (AllQ.at (l := [(4, (nfT a false)), (5, (nfT b false)), (6, (nfT a true)), (7, (nfT b true)), (8, T.node 1 [] []), (9, T.node 2 [] [])]) (⟨rfl, rfl, rfl, rfl, rfl, rfl, trivial⟩)) rfl rfl (AllQ.at (l := [(120, Ann.t (nfT a false)), (121, Ann.t (nfT b false)), (122, Ann.l [(nfT a false), (nfT b false)]), (123, Ann.t (T.node 8 [] [(nfT a false), (nfT b false)])), (124, Ann.t (nfT a true)), (125, Ann.t (nfT b true)), (126, Ann.l [(nfT a true), (nfT b true)]), (127, Ann.t (T.node 8 [] [(nfT a true), (nfT b true)])), (128, Ann.l [(T.node 8 [] [(nfT a false), (nfT b false)]), (T.node 8 [] [(nfT a true), (nfT b true)])]), (129, Ann.t (T.node 9 [] [(T.node 8 [] [(nfT a false), (nfT b false)]), (T.node 8 [] [(nfT a true), (nfT b true)])])), (130, Ann.t (nfT a false)), (131, Ann.t (nfT b true)), (132, Ann.l [(nfT a false), (nfT b true)]), (133, Ann.t (T.node 8 [] [(nfT a false), (nfT b true)])), (134, Ann.t (nfT a true)), (135, Ann.t (nfT b false)), (136, Ann.l [(nfT a true), (nfT b false)]), (137, Ann.t (T.node 8 [] [(nfT a true), (nfT b false)])), (138, Ann.l [(T.node 8 [] [(nfT a false), (nfT b true)]), (T.node 8 [] [(nfT a true), (nfT b false)])]), (139, Ann.t (T.node 9 [] [(T.node 8 [] [(nfT a false), (nfT b true)]), (T.node 8 [] [(nfT a true), (nfT b false)])]))]) (⟨(show (120 : Nat) < 174 by decide), (show (121 : Nat) < 174 by decide), (show (122 : Nat) < 174 by decide), (show (123 : Nat) < 174 by decide), (show (124 : Nat) < 174 by decide), (show (125 : Nat) < 174 by decide), (show (126 : Nat) < 174 by decide), (show (127 : Nat) < 174 by decide), (show (128 : Nat) < 174 by decide), (show (129 : Nat) < 174 by decide), (show (130 : Nat) < 174 by decide), (show (131 : Nat) < 174 by decide), (show (132 : Nat) < 174 by decide), (show (133 : Nat) < 174 by decide), (show (134 : Nat) < 174 by decide), (show (135 : Nat) < 174 by decide), (show (136 : Nat) < 174 by decide), (show (137 : Nat) < 174 by decide), (show (138 : Nat) < 174 by decide), (show (139 : Nat) < 174 by decide), trivial⟩)) HS4.out.s (by kernel_rfl)
    (.cons ⟨rfl, .load 120 4 (nfT a false) rfl rfl rfl rfl⟩ (.cons ⟨rfl, .load 121 5 (nfT b false) rfl rfl rfl rfl⟩ (.cons ⟨rfl, .two 122 120 121 (nfT a false) (nfT b false) rfl rfl rfl (dep_of (x := 120) (by kernel_rfl)) rfl (dep_of (x := 121) (by kernel_rfl)) rfl⟩ (.cons ⟨rfl, .part 123 122 8 [(nfT a false), (nfT b false)] rfl rfl rfl (dep_of (x := 122) (by kernel_rfl)) rfl⟩ (.cons ⟨rfl, .load 124 6 (nfT a true) rfl rfl rfl rfl⟩ (.cons ⟨rfl, .load 125 7 (nfT b true) rfl rfl rfl rfl⟩ (.cons ⟨rfl, .two 126 124 125 (nfT a true) (nfT b true) rfl rfl rfl (dep_of (x := 124) (by kernel_rfl)) rfl (dep_of (x := 125) (by kernel_rfl)) rfl⟩ (.cons ⟨rfl, .part 127 126 8 [(nfT a true), (nfT b true)] rfl rfl rfl (dep_of (x := 126) (by kernel_rfl)) rfl⟩ (.cons ⟨rfl, .two 128 123 127 (T.node 8 [] [(nfT a false), (nfT b false)]) (T.node 8 [] [(nfT a true), (nfT b true)]) rfl rfl rfl (dep_of (x := 123) (by kernel_rfl)) rfl (dep_of (x := 127) (by kernel_rfl)) rfl⟩ (.cons ⟨rfl, .part 129 128 9 [(T.node 8 [] [(nfT a false), (nfT b false)]), (T.node 8 [] [(nfT a true), (nfT b true)])] rfl rfl rfl (dep_of (x := 128) (by kernel_rfl)) rfl⟩ (.cons ⟨rfl, .load 130 4 (nfT a false) rfl rfl rfl rfl⟩ (.cons ⟨rfl, .load 131 7 (nfT b true) rfl rfl rfl rfl⟩ (.cons ⟨rfl, .two 132 130 131 (nfT a false) (nfT b true) rfl rfl rfl (dep_of (x := 130) (by kernel_rfl)) rfl (dep_of (x := 131) (by kernel_rfl)) rfl⟩ (.cons ⟨rfl, .part 133 132 8 [(nfT a false), (nfT b true)] rfl rfl rfl (dep_of (x := 132) (by kernel_rfl)) rfl⟩ (.cons ⟨rfl, .load 134 6 (nfT a true) rfl rfl rfl rfl⟩ (.cons ⟨rfl, .load 135 5 (nfT b false) rfl rfl rfl rfl⟩ (.cons ⟨rfl, .two 136 134 135 (nfT a true) (nfT b false) rfl rfl rfl (dep_of (x := 134) (by kernel_rfl)) rfl (dep_of (x := 135) (by kernel_rfl)) rfl⟩ (.cons ⟨rfl, .part 137 136 8 [(nfT a true), (nfT b false)] rfl rfl rfl (dep_of (x := 136) (by kernel_rfl)) rfl⟩ (.cons ⟨rfl, .two 138 133 137 (T.node 8 [] [(nfT a false), (nfT b true)]) (T.node 8 [] [(nfT a true), (nfT b false)]) rfl rfl rfl (dep_of (x := 133) (by kernel_rfl)) rfl (dep_of (x := 137) (by kernel_rfl)) rfl⟩ (.cons ⟨rfl, .part 139 138 9 [(T.node 8 [] [(nfT a false), (nfT b true)]), (T.node 8 [] [(nfT a true), (nfT b false)])] rfl rfl rfl (dep_of (x := 138) (by kernel_rfl)) rfl⟩ (.cons ⟨rfl, .store2 129 rfl rfl rfl (dep_of (x := 129) (by kernel_rfl))⟩ (.cons ⟨rfl, .store3 139 rfl rfl rfl (dep_of (x := 139) (by kernel_rfl))⟩ .nil)))))))))))))))))))))) ⟨20, _, 129, rfl, rfl⟩ ⟨21, _, 139, rfl, rfl⟩ (cinv_start HS4.out rfl rfl rfl rfl ⟨⟨_, _, _, _, _, _, rfl, by omega, by omega, HS4.out.b4, HS4.out.f4⟩, ⟨_, _, _, _, _, _, rfl, by omega, by omega, HS4.out.b5, HS4.out.f5⟩, ⟨_, _, _, _, _, _, rfl, by omega, by omega, HS4.out.b6, HS4.out.f6⟩, ⟨_, _, _, _, _, _, rfl, by omega, by omega, HS4.out.b7, HS4.out.f7⟩, ⟨_, _, _, _, _, _, rfl, by have := Hlo3.out; omega, by have := Hlo3.out; omega, H84.out, leafF _ _ 1 []⟩, ⟨_, _, _, _, _, _, rfl, by have := Hlo4.out; omega, by have := Hlo4.out; omega, H9.out, leafF _ _ 2 []⟩, trivial⟩) (fun a' w' hE => ?_)
  have Hc := Lib.hid HS4.out.c
  clear HS4 H84 H9
  have hfin := col_end (t := T.node 11 [] [a, b]) Hc.out (by rw [HN.out.1, HN.out.2]; exact hE)
  clear hE HN Hc
  go_wp2
  exact hfin

theorem nf_eq12 {a b : T} : nfT (T.node 12 [] [a, b]) false = (T.node 12 [] [(nfT a false), (nfT b false)]) ∧ nfT (T.node 12 [] [a, b]) true = (T.node 13 [] [(nfT a true), (nfT b true)]) := by
  constructor
  all_goals rw [nfT_eq]; simp [T.kind, T.kids, nfL_two, flipK]
set_option maxRecDepth 100000 in
set_option maxHeartbeats 16000000 in
theorem col12 {a b : T} (ha : ColC a) (hb : ColC b) : ColC (T.node 12 [] [a, b]) := by
  intro v w ht
  obtain ⟨ao, cap, rfl, hlen, hkids⟩ := ht.parts
  simp only [T.kind, T.name, T.kids, List.length_cons, List.length_nil, Nat.zero_add] at hlen hkids ⊢
  have HN := Lib.hid (nf_eq12 (a := a) (b := b))
  obtain ⟨X, hX, hsX, hS⟩ := Cs.first w ⟨12, ⟨#[]⟩, ao, 2, cap⟩
  simp only [box37] at hX
  have HS := Lib.hid hS
  obtain ⟨c0, c1, c2, _⟩ := cells_three HS.out.b0
  rw [hX] at c0 c1 c2
  obtain ⟨b1, o1, ak, capk, hao, hRb, p0, p1, p2, _, _, hta⟩ := hkids.kid (j := 0) (t := a) rfl
  subst hao
  rw [Nat.zero_mul, Nat.add_zero] at p0 p1 p2
  have Hta := Lib.hid hta
  have HP := Lib.hid (And.intro p0 (And.intro p1 p2))
  obtain ⟨p0, p1, p2⟩ := And.intro (HS.out.c.cell' p0 (fun e => e)) (And.intro (HS.out.c.cell' p1 (fun e => e)) (HS.out.c.cell' p2 (fun e => e)))
  rw [hX] at p0 p1 p2
  obtain ⟨b2, o2, bk, bcapk, hao2, hRb2, q0, q1, q2, _, _, htb⟩ := hkids.kid (j := 1) (t := b) rfl
  cases hao2
  rw [Nat.one_mul] at q0 q1 q2
  have Htb := Lib.hid htb
  have HQ := Lib.hid (And.intro q0 (And.intro q1 q2))
  clear q0 q1 q2 htb hRb2
  clear hS hsX ht hkids hta hRb
  go_enter Tryz.func50, Tryz.ntmps50
  go_wp2_with fail
  rw [← hX]
  clear hX c0 c1 c2 p0 p1 p2
  have hcall := ha _ X (IsTree.mono (fun _ _ _ h => h) (fun b hb => Nat.lt_of_lt_of_le hb HS.out.c.size) _ _ (IsTree.nob Hta.out HS.out.c))
  (with_reducible refine hcall.mono ?_)
  clear hcall
  rintro e w1 ⟨hc1, u1, u2, rfl, hF1, hF2⟩
  have hlo := HS.out.s
  have HS1 := Lib.hid (Cs.set46 (HS.out.chg hc1) (hF1.chg (Chg.refl Nob _) (fun _ _ _ e => e) (fun b hb => Nat.le_trans hlo hb)) (hF2.chg (Chg.refl Nob _) (fun _ _ _ e => e) (fun b hb => Nat.le_trans hlo hb)))
  obtain ⟨d0, d1, d2, g0, g1, g2⟩ := cells_three (HS.out.chg hc1).b4
  obtain ⟨e0, e1, e2, h0, h1, h2⟩ := cells_three (HS.out.chg hc1).b6
  obtain ⟨c0, c1, c2, _⟩ := cells_three HS1.out.b0
  clear hF1 hF2 hc1 hlo HS
  obtain ⟨q0, q1, q2⟩ := HQ.out
  obtain ⟨q0, q1, q2⟩ := And.intro (HS1.out.c.cell' q0 (fun e => e)) (And.intro (HS1.out.c.cell' q1 (fun e => e)) (HS1.out.c.cell' q2 (fun e => e)))
  go_wp2_with fail
  generalize (((((w1.setCell ⟨w.heap.size + 1 + 1 + 1, 0, none⟩ (.int .i64 u1.k)).setCell ⟨w.heap.size + 1 + 1 + 1, 1, none⟩ (.string u1.nm)).setCell ⟨w.heap.size + 1 + 1 + 1, 2, none⟩ (.slice u1.ao u1.len u1.cap)).setCell ⟨w.heap.size + 1 + 1 + 1 + 1 + 1, 0, none⟩ (.int .i64 u2.k)).setCell ⟨w.heap.size + 1 + 1 + 1 + 1 + 1, 1, none⟩ (.string u2.nm)).setCell ⟨w.heap.size + 1 + 1 + 1 + 1 + 1, 2, none⟩ (.slice u2.ao u2.len u2.cap) = X1 at *
  clear d0 d1 d2 g0 g1 g2 e0 e1 e2 h0 h1 h2 c0 c1 c2 q0 q1 q2
  have hcall := hb _ X1 (IsTree.mono (fun _ _ _ h => h) (fun b hb => Nat.lt_of_lt_of_le hb HS1.out.c.size) _ _ (IsTree.nob Htb.out HS1.out.c))
  (with_reducible refine hcall.mono ?_)
  clear hcall
  rintro e w2 ⟨hc1, u3, u4, rfl, hF1, hF2⟩
  have hlo := HS1.out.s
  have HS2 := Lib.hid (Cs.set57 (HS1.out.chg hc1) (hF1.chg (Chg.refl Nob _) (fun _ _ _ e => e) (fun b hb => Nat.le_trans hlo hb)) (hF2.chg (Chg.refl Nob _) (fun _ _ _ e => e) (fun b hb => Nat.le_trans hlo hb)))
  obtain ⟨d0, d1, d2, g0, g1, g2⟩ := cells_three (HS1.out.chg hc1).b5
  obtain ⟨e0, e1, e2, h0, h1, h2⟩ := cells_three (HS1.out.chg hc1).b7
  clear hF1 hF2 hc1 hlo HS1
  go_wp2_with fail
  generalize (((((w2.setCell ⟨w.heap.size + 1 + 1 + 1 + 1, 0, none⟩ (.int .i64 u3.k)).setCell ⟨w.heap.size + 1 + 1 + 1 + 1, 1, none⟩ (.string u3.nm)).setCell ⟨w.heap.size + 1 + 1 + 1 + 1, 2, none⟩ (.slice u3.ao u3.len u3.cap)).setCell ⟨w.heap.size + 1 + 1 + 1 + 1 + 1 + 1, 0, none⟩ (.int .i64 u4.k)).setCell ⟨w.heap.size + 1 + 1 + 1 + 1 + 1 + 1, 1, none⟩ (.string u4.nm)).setCell ⟨w.heap.size + 1 + 1 + 1 + 1 + 1 + 1, 2, none⟩ (.slice u4.ao u4.len u4.cap) = X2 at *
  clear d0 d1 d2 g0 g1 g2 e0 e1 e2 h0 h1 h2
  (with_reducible refine (rpart_any _ _ _ _ _).mono ?_)
  rintro e w3 ⟨rfl, hc3⟩
  have hA3 : Chg Nob w3 (w3.alloc (.cells #[.int .i64 1, .string ⟨#[]⟩, .slice none 0 0] 24)) := (Chg.refl _ _).alloc _
  have HS3 := Lib.hid ((HS2.out.chg hc3).chg hA3)
  have H8 := Lib.hid (heap_alloc_new w3 (.cells #[.int .i64 1, .string ⟨#[]⟩, .slice none 0 0] 24))
  have Hlo3 := Lib.hid (HS2.out.chg hc3).s
  clear HS2 hA3 hc3
  go_wp2_with fail
  generalize w3.alloc (.cells #[.int .i64 1, .string ⟨#[]⟩, .slice none 0 0] 24) = X3 at *
  (with_reducible refine (rpart_any _ _ _ _ _).mono ?_)
  rintro e w4 ⟨rfl, hc4⟩
  have hA4 : Chg Nob w4 (w4.alloc (.cells #[.int .i64 2, .string ⟨#[]⟩, .slice none 0 0] 24)) := (Chg.refl _ _).alloc _
  have HS4 := Lib.hid ((HS3.out.chg hc4).chg hA4)
  have H84 := Lib.hid ((hc4.trans1 hA4).at H8.out (fun e => e))
  have H9 := Lib.hid (heap_alloc_new w4 (.cells #[.int .i64 2, .string ⟨#[]⟩, .slice none 0 0] 24))
  have Hlo4 := Lib.hid (HS3.out.chg hc4).s
  obtain ⟨c0, c1, c2, _⟩ := cells_three HS4.out.b0
  clear HS3 hA4 hc4 H8
  go_wp2_with fail
  generalize w4.alloc (.cells #[.int .i64 2, .string ⟨#[]⟩, .slice none 0 0] 24) = X4 at *
  clear c0 c1 c2
  refine region_good (ann := assoc [(142, Ann.t (nfT a false)), (143, Ann.t (nfT b false)), (144, Ann.l [(nfT a false), (nfT b false)]), (145, Ann.t (T.node 12 [] [(nfT a false), (nfT b false)])), (146, Ann.t (nfT a true)), (147, Ann.t (nfT b true)), (148, Ann.l [(nfT a true), (nfT b true)]), (149, Ann.t (T.node 13 [] [(nfT a true), (nfT b true)]))]) (pt := assoc [(4, (nfT a false)), (5, (nfT b false)), (6, (nfT a true)), (7, (nfT b true)), (8, T.node 1 [] []), (9, T.node 2 [] [])]) (t2 := (T.node 12 [] [(nfT a false), (nfT b false)])) (t3 := (T.node 13 [] [(nfT a true), (nfT b true)])) (B := w.heap.size + 1) (lo := w.heap.size + 7) (by kernel_rfl) (AllQ.at (l := [(4, (nfT a false)), (5, (nfT b false)), (6, (nfT a true)), (7, (nfT b true)), (8, T.node 1 [] []), (9, T.node 2 [] [])]) (⟨rfl, rfl, rfl, rfl, rfl, rfl, trivial⟩)) rfl rfl (AllQ.at (l := [(142, Ann.t (nfT a false)), (143, Ann.t (nfT b false)), (144, Ann.l [(nfT a false), (nfT b false)]), (145, Ann.t (T.node 12 [] [(nfT a false), (nfT b false)])), (146, Ann.t (nfT a true)), (147, Ann.t (nfT b true)), (148, Ann.l [(nfT a true), (nfT b true)]), (149, Ann.t (T.node 13 [] [(nfT a true), (nfT b true)]))]) (⟨(show (142 : Nat) < 174 by decide), (show (143 : Nat) < 174 by decide), (show (144 : Nat) < 174 by decide), (show (145 : Nat) < 174 by decide), (show (146 : Nat) < 174 by decide), (show (147 : Nat) < 174 by decide), (show (148 : Nat) < 174 by decide), (show (149 : Nat) < 174 by decide), trivial⟩)) HS4.out.s (by kernel_rfl)
    (.cons ⟨rfl, .load 142 4 (nfT a false) rfl rfl rfl rfl⟩ (.cons ⟨rfl, .load 143 5 (nfT b false) rfl rfl rfl rfl⟩ (.cons ⟨rfl, .two 144 142 143 (nfT a false) (nfT b false) rfl rfl rfl (dep_of (x := 142) (by kernel_rfl)) rfl (dep_of (x := 143) (by kernel_rfl)) rfl⟩ (.cons ⟨rfl, .part 145 144 12 [(nfT a false), (nfT b false)] rfl rfl rfl (dep_of (x := 144) (by kernel_rfl)) rfl⟩ (.cons ⟨rfl, .load 146 6 (nfT a true) rfl rfl rfl rfl⟩ (.cons ⟨rfl, .load 147 7 (nfT b true) rfl rfl rfl rfl⟩ (.cons ⟨rfl, .two 148 146 147 (nfT a true) (nfT b true) rfl rfl rfl (dep_of (x := 146) (by kernel_rfl)) rfl (dep_of (x := 147) (by kernel_rfl)) rfl⟩ (.cons ⟨rfl, .part 149 148 13 [(nfT a true), (nfT b true)] rfl rfl rfl (dep_of (x := 148) (by kernel_rfl)) rfl⟩ (.cons ⟨rfl, .store2 145 rfl rfl rfl (dep_of (x := 145) (by kernel_rfl))⟩ (.cons ⟨rfl, .store3 149 rfl rfl rfl (dep_of (x := 149) (by kernel_rfl))⟩ .nil)))))))))) ⟨8, _, 145, rfl, rfl⟩ ⟨9, _, 149, rfl, rfl⟩ (cinv_start HS4.out rfl rfl rfl rfl ⟨⟨_, _, _, _, _, _, rfl, by omega, by omega, HS4.out.b4, HS4.out.f4⟩, ⟨_, _, _, _, _, _, rfl, by omega, by omega, HS4.out.b5, HS4.out.f5⟩, ⟨_, _, _, _, _, _, rfl, by omega, by omega, HS4.out.b6, HS4.out.f6⟩, ⟨_, _, _, _, _, _, rfl, by omega, by omega, HS4.out.b7, HS4.out.f7⟩, ⟨_, _, _, _, _, _, rfl, by have := Hlo3.out; omega, by have := Hlo3.out; omega, H84.out, leafF _ _ 1 []⟩, ⟨_, _, _, _, _, _, rfl, by have := Hlo4.out; omega, by have := Hlo4.out; omega, H9.out, leafF _ _ 2 []⟩, trivial⟩) (fun a' w' hE => ?_)
  have Hc := Lib.hid HS4.out.c
  clear HS4 H84 H9
  have hfin := col_end (t := T.node 12 [] [a, b]) Hc.out (by rw [HN.out.1, HN.out.2]; exact hE)
  clear hE HN Hc
  go_wp2
  exact hfin

theorem nf_eq13 {a b : T} : nfT (T.node 13 [] [a, b]) false = (T.node 13 [] [(nfT a false), (nfT b false)]) ∧ nfT (T.node 13 [] [a, b]) true = (T.node 12 [] [(nfT a true), (nfT b true)]) := by
  constructor
  all_goals rw [nfT_eq]; simp [T.kind, T.kids, nfL_two, flipK]
set_option maxRecDepth 100000 in
set_option maxHeartbeats 16000000 in
theorem col13 {a b : T} (ha : ColC a) (hb : ColC b) : ColC (T.node 13 [] [a, b]) := by
  intro v w ht
  obtain ⟨ao, cap, rfl, hlen, hkids⟩ := ht.parts
  simp only [T.kind, T.name, T.kids, List.length_cons, List.length_nil, Nat.zero_add] at hlen hkids ⊢
  have HN := Lib.hid (nf_eq13 (a := a) (b := b))
  obtain ⟨X, hX, hsX, hS⟩ := Cs.first w ⟨13, ⟨#[]⟩, ao, 2, cap⟩
  simp only [box37] at hX
  have HS := Lib.hid hS
  obtain ⟨c0, c1, c2, _⟩ := cells_three HS.out.b0
  rw [hX] at c0 c1 c2
  obtain ⟨b1, o1, ak, capk, hao, hRb, p0, p1, p2, _, _, hta⟩ := hkids.kid (j := 0) (t := a) rfl
  subst hao
  rw [Nat.zero_mul, Nat.add_zero] at p0 p1 p2
  have Hta := Lib.hid hta
  have HP := Lib.hid (And.intro p0 (And.intro p1 p2))
  obtain ⟨p0, p1, p2⟩ := And.intro (HS.out.c.cell' p0 (fun e => e)) (And.intro (HS.out.c.cell' p1 (fun e => e)) (HS.out.c.cell' p2 (fun e => e)))
  rw [hX] at p0 p1 p2
  obtain ⟨b2, o2, bk, bcapk, hao2, hRb2, q0, q1, q2, _, _, htb⟩ := hkids.kid (j := 1) (t := b) rfl
  cases hao2
  rw [Nat.one_mul] at q0 q1 q2
  have Htb := Lib.hid htb
  have HQ := Lib.hid (And.intro q0 (And.intro q1 q2))
  clear q0 q1 q2 htb hRb2
  clear hS hsX ht hkids hta hRb
  go_enter Tryz.func50, Tryz.ntmps50
  go_wp2_with fail
  rw [← hX]
  clear hX c0 c1 c2 p0 p1 p2
  have hcall := ha _ X (IsTree.mono (fun _ _ _ h => h) (fun b hb => Nat.lt_of_lt_of_le hb HS.out.c.size) _ _ (IsTree.nob Hta.out HS.out.c))
  (with_reducible refine hcall.mono ?_)
  clear hcall
  rintro e w1 ⟨hc1, u1, u2, rfl, hF1, hF2⟩
  have hlo := HS.out.s
  have HS1 := Lib.hid (Cs.set46 (HS.out.chg hc1) (hF1.chg (Chg.refl Nob _) (fun _ _ _ e => e) (fun b hb => Nat.le_trans hlo hb)) (hF2.chg (Chg.refl Nob _) (fun _ _ _ e => e) (fun b hb => Nat.le_trans hlo hb)))
  obtain ⟨d0, d1, d2, g0, g1, g2⟩ := cells_three (HS.out.chg hc1).b4
  obtain ⟨e0, e1, e2, h0, h1, h2⟩ := cells_three (HS.out.chg hc1).b6
  obtain ⟨c0, c1, c2, _⟩ := cells_three HS1.out.b0
  clear hF1 hF2 hc1 hlo HS
  obtain ⟨q0, q1, q2⟩ := HQ.out
  obtain ⟨q0, q1, q2⟩ := And.intro (HS1.out.c.cell' q0 (fun e => e)) (And.intro (HS1.out.c.cell' q1 (fun e => e)) (HS1.out.c.cell' q2 (fun e => e)))
  go_wp2_with fail
  generalize (((((w1.setCell ⟨w.heap.size + 1 + 1 + 1, 0, none⟩ (.int .i64 u1.k)).setCell ⟨w.heap.size + 1 + 1 + 1, 1, none⟩ (.string u1.nm)).setCell ⟨w.heap.size + 1 + 1 + 1, 2, none⟩ (.slice u1.ao u1.len u1.cap)).setCell ⟨w.heap.size + 1 + 1 + 1 + 1 + 1, 0, none⟩ (.int .i64 u2.k)).setCell ⟨w.heap.size + 1 + 1 + 1 + 1 + 1, 1, none⟩ (.string u2.nm)).setCell ⟨w.heap.size + 1 + 1 + 1 + 1 + 1, 2, none⟩ (.slice u2.ao u2.len u2.cap) = X1 at *
  clear d0 d1 d2 g0 g1 g2 e0 e1 e2 h0 h1 h2 c0 c1 c2 q0 q1 q2
  have hcall := hb _ X1 (IsTree.mono (fun _ _ _ h => h) (fun b hb => Nat.lt_of_lt_of_le hb HS1.out.c.size) _ _ (IsTree.nob Htb.out HS1.out.c))
  (with_reducible refine hcall.mono ?_)
  clear hcall
  rintro e w2 ⟨hc1, u3, u4, rfl, hF1, hF2⟩
  have hlo := HS1.out.s
  have HS2 := Lib.hid (Cs.set57 (HS1.out.chg hc1) (hF1.chg (Chg.refl Nob _) (fun _ _ _ e => e) (fun b hb => Nat.le_trans hlo hb)) (hF2.chg (Chg.refl Nob _) (fun _ _ _ e => e) (fun b hb => Nat.le_trans hlo hb)))
  obtain ⟨d0, d1, d2, g0, g1, g2⟩ := cells_three (HS1.out.chg hc1).b5
  obtain ⟨e0, e1, e2, h0, h1, h2⟩ := cells_three (HS1.out.chg hc1).b7
  clear hF1 hF2 hc1 hlo HS1
  go_wp2_with fail
  generalize (((((w2.setCell ⟨w.heap.size + 1 + 1 + 1 + 1, 0, none⟩ (.int .i64 u3.k)).setCell ⟨w.heap.size + 1 + 1 + 1 + 1, 1, none⟩ (.string u3.nm)).setCell ⟨w.heap.size + 1 + 1 + 1 + 1, 2, none⟩ (.slice u3.ao u3.len u3.cap)).setCell ⟨w.heap.size + 1 + 1 + 1 + 1 + 1 + 1, 0, none⟩ (.int .i64 u4.k)).setCell ⟨w.heap.size + 1 + 1 + 1 + 1 + 1 + 1, 1, none⟩ (.string u4.nm)).setCell ⟨w.heap.size + 1 + 1 + 1 + 1 + 1 + 1, 2, none⟩ (.slice u4.ao u4.len u4.cap) = X2 at *
  clear d0 d1 d2 g0 g1 g2 e0 e1 e2 h0 h1 h2
  (with_reducible refine (rpart_any _ _ _ _ _).mono ?_)
  rintro e w3 ⟨rfl, hc3⟩
  have hA3 : Chg Nob w3 (w3.alloc (.cells #[.int .i64 1, .string ⟨#[]⟩, .slice none 0 0] 24)) := (Chg.refl _ _).alloc _
  have HS3 := Lib.hid ((HS2.out.chg hc3).chg hA3)
  have H8 := Lib.hid (heap_alloc_new w3 (.cells #[.int .i64 1, .string ⟨#[]⟩, .slice none 0 0] 24))
  have Hlo3 := Lib.hid (HS2.out.chg hc3).s
  clear HS2 hA3 hc3
  go_wp2_with fail
  generalize w3.alloc (.cells #[.int .i64 1, .string ⟨#[]⟩, .slice none 0 0] 24) = X3 at *
  (with_reducible refine (rpart_any _ _ _ _ _).mono ?_)
  rintro e w4 ⟨rfl, hc4⟩
  have hA4 : Chg Nob w4 (w4.alloc (.cells #[.int .i64 2, .string ⟨#[]⟩, .slice none 0 0] 24)) := (Chg.refl _ _).alloc _
  have HS4 := Lib.hid ((HS3.out.chg hc4).chg hA4)
  have H84 := Lib.hid ((hc4.trans1 hA4).at H8.out (fun e => e))
  have H9 := Lib.hid (heap_alloc_new w4 (.cells #[.int .i64 2, .string ⟨#[]⟩, .slice none 0 0] 24))
  have Hlo4 := Lib.hid (HS3.out.chg hc4).s
  obtain ⟨c0, c1, c2, _⟩ := cells_three HS4.out.b0
  clear HS3 hA4 hc4 H8
  go_wp2_with fail
  generalize w4.alloc (.cells #[.int .i64 2, .string ⟨#[]⟩, .slice none 0 0] 24) = X4 at *
  clear c0 c1 c2
  refine region_good (ann := assoc [(152, Ann.t (nfT a false)), (153, Ann.t (nfT b false)), (154, Ann.l [(nfT a false), (nfT b false)]), (155, Ann.t (T.node 13 [] [(nfT a false), (nfT b false)])), (156, Ann.t (nfT a true)), (157, Ann.t (nfT b true)), (158, Ann.l [(nfT a true), (nfT b true)]), (159, Ann.t (T.node 12 [] [(nfT a true), (nfT b true)]))]) (pt := assoc [(4, (nfT a false)), (5, (nfT b false)), (6, (nfT a true)), (7, (nfT b true)), (8, T.node 1 [] []), (9, T.node 2 [] [])]) (t2 := (T.node 13 [] [(nfT a false), (nfT b false)])) (t3 := (T.node 12 [] [(nfT a true), (nfT b true)])) (B := w.heap.size + 1) (lo := w.heap.size + 7) (by kernel_rfl) (AllQ.at (l := [(4, (nfT a false)), (5, (nfT b false)), (6, (nfT a true)), (7, (nfT b true)), (8, T.node 1 [] []), (9, T.node 2 [] [])]) (⟨rfl, rfl, rfl, rfl, rfl, rfl, trivial⟩)) rfl rfl (AllQ.at (l := [(152, Ann.t (nfT a false)), (153, Ann.t (nfT b false)), (154, Ann.l [(nfT a false), (nfT b false)]), (155, Ann.t (T.node 13 [] [(nfT a false), (nfT b false)])), (156, Ann.t (nfT a true)), (157, Ann.t (nfT b true)), (158, Ann.l [(nfT a true), (nfT b true)]), (159, Ann.t (T.node 12 [] [(nfT a true), (nfT b true)]))]) (⟨(show (152 : Nat) < 174 by decide), (show (153 : Nat) < 174 by decide), (show (154 : Nat) < 174 by decide), (show (155 : Nat) < 174 by decide), (show (156 : Nat) < 174 by decide), (show (157 : Nat) < 174 by decide), (show (158 : Nat) < 174 by decide), (show (159 : Nat) < 174 by decide), trivial⟩)) HS4.out.s (by kernel_rfl)
    (.cons ⟨rfl, .load 152 4 (nfT a false) rfl rfl rfl rfl⟩ (.cons ⟨rfl, .load 153 5 (nfT b false) rfl rfl rfl rfl⟩ (.cons ⟨rfl, .two 154 152 153 (nfT a false) (nfT b false) rfl rfl rfl (dep_of (x := 152) (by kernel_rfl)) rfl (dep_of (x := 153) (by kernel_rfl)) rfl⟩ (.cons ⟨rfl, .part 155 154 13 [(nfT a false), (nfT b false)] rfl rfl rfl (dep_of (x := 154) (by kernel_rfl)) rfl⟩ (.cons ⟨rfl, .load 156 6 (nfT a true) rfl rfl rfl rfl⟩ (.cons ⟨rfl, .load 157 7 (nfT b true) rfl rfl rfl rfl⟩ (.cons ⟨rfl, .two 158 156 157 (nfT a true) (nfT b true) rfl rfl rfl (dep_of (x := 156) (by kernel_rfl)) rfl (dep_of (x := 157) (by kernel_rfl)) rfl⟩ (.cons ⟨rfl, .part 159 158 12 [(nfT a true), (nfT b true)] rfl rfl rfl (dep_of (x := 158) (by kernel_rfl)) rfl⟩ (.cons ⟨rfl, .store2 155 rfl rfl rfl (dep_of (x := 155) (by kernel_rfl))⟩ (.cons ⟨rfl, .store3 159 rfl rfl rfl (dep_of (x := 159) (by kernel_rfl))⟩ .nil)))))))))) ⟨8, _, 155, rfl, rfl⟩ ⟨9, _, 159, rfl, rfl⟩ (cinv_start HS4.out rfl rfl rfl rfl ⟨⟨_, _, _, _, _, _, rfl, by omega, by omega, HS4.out.b4, HS4.out.f4⟩, ⟨_, _, _, _, _, _, rfl, by omega, by omega, HS4.out.b5, HS4.out.f5⟩, ⟨_, _, _, _, _, _, rfl, by omega, by omega, HS4.out.b6, HS4.out.f6⟩, ⟨_, _, _, _, _, _, rfl, by omega, by omega, HS4.out.b7, HS4.out.f7⟩, ⟨_, _, _, _, _, _, rfl, by have := Hlo3.out; omega, by have := Hlo3.out; omega, H84.out, leafF _ _ 1 []⟩, ⟨_, _, _, _, _, _, rfl, by have := Hlo4.out; omega, by have := Hlo4.out; omega, H9.out, leafF _ _ 2 []⟩, trivial⟩) (fun a' w' hE => ?_)
  have Hc := Lib.hid HS4.out.c
  clear HS4 H84 H9
  have hfin := col_end (t := T.node 13 [] [a, b]) Hc.out (by rw [HN.out.1, HN.out.2]; exact hE)
  clear hE HN Hc
  go_wp2
  exact hfin

theorem nf_eq14 {a b : T} : nfT (T.node 14 [] [a, b]) false = (T.node 13 [] [(nfT b false), (T.node 9 [] [(nfT a false), (nfT b false)])]) ∧ nfT (T.node 14 [] [a, b]) true = (T.node 12 [] [(nfT b true), (T.node 8 [] [(nfT a true), (nfT b true)])]) := by
  constructor
  all_goals rw [nfT_eq]; simp [T.kind, T.kids, nfL_two, flipK]
set_option maxRecDepth 100000 in
set_option maxHeartbeats 16000000 in
theorem col14 {a b : T} (ha : ColC a) (hb : ColC b) : ColC (T.node 14 [] [a, b]) := by
  intro v w ht
  obtain ⟨ao, cap, rfl, hlen, hkids⟩ := ht.parts
  simp only [T.kind, T.name, T.kids, List.length_cons, List.length_nil, Nat.zero_add] at hlen hkids ⊢
  have HN := Lib.hid (nf_eq14 (a := a) (b := b))
  obtain ⟨X, hX, hsX, hS⟩ := Cs.first w ⟨14, ⟨#[]⟩, ao, 2, cap⟩
  simp only [box37] at hX
  have HS := Lib.hid hS
  obtain ⟨c0, c1, c2, _⟩ := cells_three HS.out.b0
  rw [hX] at c0 c1 c2
  obtain ⟨b1, o1, ak, capk, hao, hRb, p0, p1, p2, _, _, hta⟩ := hkids.kid (j := 0) (t := a) rfl
  subst hao
  rw [Nat.zero_mul, Nat.add_zero] at p0 p1 p2
  have Hta := Lib.hid hta
  have HP := Lib.hid (And.intro p0 (And.intro p1 p2))
  obtain ⟨p0, p1, p2⟩ := And.intro (HS.out.c.cell' p0 (fun e => e)) (And.intro (HS.out.c.cell' p1 (fun e => e)) (HS.out.c.cell' p2 (fun e => e)))
  rw [hX] at p0 p1 p2
  obtain ⟨b2, o2, bk, bcapk, hao2, hRb2, q0, q1, q2, _, _, htb⟩ := hkids.kid (j := 1) (t := b) rfl
  cases hao2
  rw [Nat.one_mul] at q0 q1 q2
  have Htb := Lib.hid htb
  have HQ := Lib.hid (And.intro q0 (And.intro q1 q2))
  clear q0 q1 q2 htb hRb2
  clear hS hsX ht hkids hta hRb
  go_enter Tryz.func50, Tryz.ntmps50
  go_wp2_with fail
  rw [← hX]
  clear hX c0 c1 c2 p0 p1 p2
  have hcall := ha _ X (IsTree.mono (fun _ _ _ h => h) (fun b hb => Nat.lt_of_lt_of_le hb HS.out.c.size) _ _ (IsTree.nob Hta.out HS.out.c))
  (with_reducible refine hcall.mono ?_)
  clear hcall
  rintro e w1 ⟨hc1, u1, u2, rfl, hF1, hF2⟩
  have hlo := HS.out.s
  have HS1 := Lib.hid (Cs.set46 (HS.out.chg hc1) (hF1.chg (Chg.refl Nob _) (fun _ _ _ e => e) (fun b hb => Nat.le_trans hlo hb)) (hF2.chg (Chg.refl Nob _) (fun _ _ _ e => e) (fun b hb => Nat.le_trans hlo hb)))
  obtain ⟨d0, d1, d2, g0, g1, g2⟩ := cells_three (HS.out.chg hc1).b4
  obtain ⟨e0, e1, e2, h0, h1, h2⟩ := cells_three (HS.out.chg hc1).b6
  obtain ⟨c0, c1, c2, _⟩ := cells_three HS1.out.b0
  clear hF1 hF2 hc1 hlo HS
  obtain ⟨q0, q1, q2⟩ := HQ.out
  obtain ⟨q0, q1, q2⟩ := And.intro (HS1.out.c.cell' q0 (fun e => e)) (And.intro (HS1.out.c.cell' q1 (fun e => e)) (HS1.out.c.cell' q2 (fun e => e)))
  go_wp2_with fail
  generalize (((((w1.setCell ⟨w.heap.size + 1 + 1 + 1, 0, none⟩ (.int .i64 u1.k)).setCell ⟨w.heap.size + 1 + 1 + 1, 1, none⟩ (.string u1.nm)).setCell ⟨w.heap.size + 1 + 1 + 1, 2, none⟩ (.slice u1.ao u1.len u1.cap)).setCell ⟨w.heap.size + 1 + 1 + 1 + 1 + 1, 0, none⟩ (.int .i64 u2.k)).setCell ⟨w.heap.size + 1 + 1 + 1 + 1 + 1, 1, none⟩ (.string u2.nm)).setCell ⟨w.heap.size + 1 + 1 + 1 + 1 + 1, 2, none⟩ (.slice u2.ao u2.len u2.cap) = X1 at *
  clear d0 d1 d2 g0 g1 g2 e0 e1 e2 h0 h1 h2 c0 c1 c2 q0 q1 q2
  have hcall := hb _ X1 (IsTree.mono (fun _ _ _ h => h) (fun b hb => Nat.lt_of_lt_of_le hb HS1.out.c.size) _ _ (IsTree.nob Htb.out HS1.out.c))
  (with_reducible refine hcall.mono ?_)
  clear hcall
  rintro e w2 ⟨hc1, u3, u4, rfl, hF1, hF2⟩
  have hlo := HS1.out.s
  have HS2 := Lib.hid (Cs.set57 (HS1.out.chg hc1) (hF1.chg (Chg.refl Nob _) (fun _ _ _ e => e) (fun b hb => Nat.le_trans hlo hb)) (hF2.chg (Chg.refl Nob _) (fun _ _ _ e => e) (fun b hb => Nat.le_trans hlo hb)))
  obtain ⟨d0, d1, d2, g0, g1, g2⟩ := cells_three (HS1.out.chg hc1).b5
  obtain ⟨e0, e1, e2, h0, h1, h2⟩ := cells_three (HS1.out.chg hc1).b7
  clear hF1 hF2 hc1 hlo HS1
  go_wp2_with fail
  generalize (((((w2.setCell ⟨w.heap.size + 1 + 1 + 1 + 1, 0, none⟩ (.int .i64 u3.k)).setCell ⟨w.heap.size + 1 + 1 + 1 + 1, 1, none⟩ (.string u3.nm)).setCell ⟨w.heap.size + 1 + 1 + 1 + 1, 2, none⟩ (.slice u3.ao u3.len u3.cap)).setCell ⟨w.heap.size + 1 + 1 + 1 + 1 + 1 + 1, 0, none⟩ (.int .i64 u4.k)).setCell ⟨w.heap.size + 1 + 1 + 1 + 1 + 1 + 1, 1, none⟩ (.string u4.nm)).setCell ⟨w.heap.size + 1 + 1 + 1 + 1 + 1 + 1, 2, none⟩ (.slice u4.ao u4.len u4.cap) = X2 at *
  clear d0 d1 d2 g0 g1 g2 e0 e1 e2 h0 h1 h2
  (with_reducible refine (rpart_any _ _ _ _ _).mono ?_)
  rintro e w3 ⟨rfl, hc3⟩
  have hA3 : Chg Nob w3 (w3.alloc (.cells #[.int .i64 1, .string ⟨#[]⟩, .slice none 0 0] 24)) := (Chg.refl _ _).alloc _
  have HS3 := Lib.hid ((HS2.out.chg hc3).chg hA3)
  have H8 := Lib.hid (heap_alloc_new w3 (.cells #[.int .i64 1, .string ⟨#[]⟩, .slice none 0 0] 24))
  have Hlo3 := Lib.hid (HS2.out.chg hc3).s
  clear HS2 hA3 hc3
  go_wp2_with fail
  generalize w3.alloc (.cells #[.int .i64 1, .string ⟨#[]⟩, .slice none 0 0] 24) = X3 at *
  (with_reducible refine (rpart_any _ _ _ _ _).mono ?_)
  rintro e w4 ⟨rfl, hc4⟩
  have hA4 : Chg Nob w4 (w4.alloc (.cells #[.int .i64 2, .string ⟨#[]⟩, .slice none 0 0] 24)) := (Chg.refl _ _).alloc _
  have HS4 := Lib.hid ((HS3.out.chg hc4).chg hA4)
  have H84 := Lib.hid ((hc4.trans1 hA4).at H8.out (fun e => e))
  have H9 := Lib.hid (heap_alloc_new w4 (.cells #[.int .i64 2, .string ⟨#[]⟩, .slice none 0 0] 24))
  have Hlo4 := Lib.hid (HS3.out.chg hc4).s
  obtain ⟨c0, c1, c2, _⟩ := cells_three HS4.out.b0
  clear HS3 hA4 hc4 H8
  go_wp2_with fail
  generalize w4.alloc (.cells #[.int .i64 2, .string ⟨#[]⟩, .slice none 0 0] 24) = X4 at *
  clear c0 c1 c2
  refine region_good (ann := assoc [(160, Ann.t (nfT b false)), (161, Ann.t (nfT a false)), (162, Ann.t (nfT b false)), (163, Ann.l [(nfT a false), (nfT b false)]), (164, Ann.t (T.node 9 [] [(nfT a false), (nfT b false)])), (165, Ann.l [(nfT b false), (T.node 9 [] [(nfT a false), (nfT b false)])]), (166, Ann.t (T.node 13 [] [(nfT b false), (T.node 9 [] [(nfT a false), (nfT b false)])])), (167, Ann.t (nfT b true)), (168, Ann.t (nfT a true)), (169, Ann.t (nfT b true)), (170, Ann.l [(nfT a true), (nfT b true)]), (171, Ann.t (T.node 8 [] [(nfT a true), (nfT b true)])), (172, Ann.l [(nfT b true), (T.node 8 [] [(nfT a true), (nfT b true)])]), (173, Ann.t (T.node 12 [] [(nfT b true), (T.node 8 [] [(nfT a true), (nfT b true)])]))]) (pt := assoc [(4, (nfT a false)), (5, (nfT b false)), (6, (nfT a true)), (7, (nfT b true)), (8, T.node 1 [] []), (9, T.node 2 [] [])]) (t2 := (T.node 13 [] [(nfT b false), (T.node 9 [] [(nfT a false), (nfT b false)])])) (t3 := (T.node 12 [] [(nfT b true), (T.node 8 [] [(nfT a true), (nfT b true)])])) (B := w.heap.size + 1) (lo := w.heap.size + 7) (by kernel_rfl) (AllQ.at (l := [(4, (nfT a false)), (5, (nfT b false)), (6, (nfT a true)), (7, (nfT b true)), (8, T.node 1 [] []), (9, T.node 2 [] [])]) (⟨rfl, rfl, rfl, rfl, rfl, rfl, trivial⟩)) rfl rfl (AllQ.at (l := [(160, Ann.t (nfT b false)), (161, Ann.t (nfT a false)), (162, Ann.t (nfT b false)), (163, Ann.l [(nfT a false), (nfT b false)]), (164, Ann.t (T.node 9 [] [(nfT a false), (nfT b false)])), (165, Ann.l [(nfT b false), (T.node 9 [] [(nfT a false), (nfT b false)])]), (166, Ann.t (T.node 13 [] [(nfT b false), (T.node 9 [] [(nfT a false), (nfT b false)])])), (167, Ann.t (nfT b true)), (168, Ann.t (nfT a true)), (169, Ann.t (nfT b true)), (170, Ann.l [(nfT a true), (nfT b true)]), (171, Ann.t (T.node 8 [] [(nfT a true), (nfT b true)])), (172, Ann.l [(nfT b true), (T.node 8 [] [(nfT a true), (nfT b true)])]), (173, Ann.t (T.node 12 [] [(nfT b true), (T.node 8 [] [(nfT a true), (nfT b true)])]))]) (⟨(show (160 : Nat) < 174 by decide), (show (161 : Nat) < 174 by decide), (show (162 : Nat) < 174 by decide), (show (163 : Nat) < 174 by decide), (show (164 : Nat) < 174 by decide), (show (165 : Nat) < 174 by decide), (show (166 : Nat) < 174 by decide), (show (167 : Nat) < 174 by decide), (show (168 : Nat) < 174 by decide), (show (169 : Nat) < 174 by decide), (show (170 : Nat) < 174 by decide), (show (171 : Nat) < 174 by decide), (show (172 : Nat) < 174 by decide), (show (173 : Nat) < 174 by decide), trivial⟩)) HS4.out.s (by kernel_rfl)
    (.cons ⟨rfl, .load 160 5 (nfT b false) rfl rfl rfl rfl⟩ (.cons ⟨rfl, .load 161 4 (nfT a false) rfl rfl rfl rfl⟩ (.cons ⟨rfl, .load 162 5 (nfT b false) rfl rfl rfl rfl⟩ (.cons ⟨rfl, .two 163 161 162 (nfT a false) (nfT b false) rfl rfl rfl (dep_of (x := 161) (by kernel_rfl)) rfl (dep_of (x := 162) (by kernel_rfl)) rfl⟩ (.cons ⟨rfl, .part 164 163 9 [(nfT a false), (nfT b false)] rfl rfl rfl (dep_of (x := 163) (by kernel_rfl)) rfl⟩ (.cons ⟨rfl, .two 165 160 164 (nfT b false) (T.node 9 [] [(nfT a false), (nfT b false)]) rfl rfl rfl (dep_of (x := 160) (by kernel_rfl)) rfl (dep_of (x := 164) (by kernel_rfl)) rfl⟩ (.cons ⟨rfl, .part 166 165 13 [(nfT b false), (T.node 9 [] [(nfT a false), (nfT b false)])] rfl rfl rfl (dep_of (x := 165) (by kernel_rfl)) rfl⟩ (.cons ⟨rfl, .load 167 7 (nfT b true) rfl rfl rfl rfl⟩ (.cons ⟨rfl, .load 168 6 (nfT a true) rfl rfl rfl rfl⟩ (.cons ⟨rfl, .load 169 7 (nfT b true) rfl rfl rfl rfl⟩ (.cons ⟨rfl, .two 170 168 169 (nfT a true) (nfT b true) rfl rfl rfl (dep_of (x := 168) (by kernel_rfl)) rfl (dep_of (x := 169) (by kernel_rfl)) rfl⟩ (.cons ⟨rfl, .part 171 170 8 [(nfT a true), (nfT b true)] rfl rfl rfl (dep_of (x := 170) (by kernel_rfl)) rfl⟩ (.cons ⟨rfl, .two 172 167 171 (nfT b true) (T.node 8 [] [(nfT a true), (nfT b true)]) rfl rfl rfl (dep_of (x := 167) (by kernel_rfl)) rfl (dep_of (x := 171) (by kernel_rfl)) rfl⟩ (.cons ⟨rfl, .part 173 172 12 [(nfT b true), (T.node 8 [] [(nfT a true), (nfT b true)])] rfl rfl rfl (dep_of (x := 172) (by kernel_rfl)) rfl⟩ (.cons ⟨rfl, .store2 166 rfl rfl rfl (dep_of (x := 166) (by kernel_rfl))⟩ (.cons ⟨rfl, .store3 173 rfl rfl rfl (dep_of (x := 173) (by kernel_rfl))⟩ .nil)))))))))))))))) ⟨14, _, 166, rfl, rfl⟩ ⟨15, _, 173, rfl, rfl⟩ (cinv_start HS4.out rfl rfl rfl rfl ⟨⟨_, _, _, _, _, _, rfl, by omega, by omega, HS4.out.b4, HS4.out.f4⟩, ⟨_, _, _, _, _, _, rfl, by omega, by omega, HS4.out.b5, HS4.out.f5⟩, ⟨_, _, _, _, _, _, rfl, by omega, by omega, HS4.out.b6, HS4.out.f6⟩, ⟨_, _, _, _, _, _, rfl, by omega, by omega, HS4.out.b7, HS4.out.f7⟩, ⟨_, _, _, _, _, _, rfl, by have := Hlo3.out; omega, by have := Hlo3.out; omega, H84.out, leafF _ _ 1 []⟩, ⟨_, _, _, _, _, _, rfl, by have := Hlo4.out; omega, by have := Hlo4.out; omega, H9.out, leafF _ _ 2 []⟩, trivial⟩) (fun a' w' hE => ?_)
  have Hc := Lib.hid HS4.out.c
  clear HS4 H84 H9
  have hfin := col_end (t := T.node 14 [] [a, b]) Hc.out (by rw [HN.out.1, HN.out.2]; exact hE)
  clear hE HN Hc
  go_wp2
  exact hfin

theorem columns_any : ∀ t : T, mayT t = true → ColC t := by
  refine kid_induct ?_
  intro t ih hmay
  obtain ⟨k, nm, kids⟩ := t
  rcases may_shape hmay with ⟨hk, hn, hkd⟩ | ⟨hk, hn, hkd⟩ | ⟨hk, hn, a, hkd, hma⟩ | ⟨hk, hn, a, b, hkd, hma, hmb⟩
  all_goals simp only [T.kind, T.name, T.kids] at hk hn hkd ih
  all_goals subst hkd
  · subst hn
    rcases hk with rfl | rfl
    · exact col1
    · exact col2
  · subst hk
    exact col3
  · subst hn
    have ha := ih a List.mem_cons_self hma
    have hk4 : k = 4 ∨ k = 5 ∨ k = 6 ∨ k = 7 := by omega
    rcases hk4 with rfl | rfl | rfl | rfl
    · exact col4 ha
    · exact col5 ha
    · exact col6 ha
    · exact col7 ha
  · subst hn
    have ha := ih a List.mem_cons_self hma
    have hb := ih b (by simp) hmb
    have hk7 : k = 8 ∨ k = 9 ∨ k = 10 ∨ k = 11 ∨ k = 12 ∨ k = 13 ∨ k = 14 := by omega
    rcases hk7 with rfl | rfl | rfl | rfl | rfl | rfl | rfl
    · exact col8 ha hb
    · exact col9 ha hb
    · exact col10 ha hb
    · exact col11 ha hb
    · exact col12 ha hb
    · exact col13 ha hb
    · exact col14 ha hb
end Go.Proofs.YtkgfdgfhpdhhaaaGreat
