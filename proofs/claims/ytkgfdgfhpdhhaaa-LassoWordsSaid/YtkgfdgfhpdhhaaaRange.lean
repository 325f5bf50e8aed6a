/- A range over an iterator that keeps cells of its own: what the iterator and the round promise one another, and the statement's law. Conditions: as each theorem states. -/
import Derived.Test.YtkgfdgfhpdhhaaaBase
import Derived.RangeFuncNested
import Derived.RangeFuncBound
import Derived.RangeFuncCalls
import Derived.RangeFuncLeaves
import Derived.Shelf.Abstract
import Derived.OwnWalkIn
import Derived.TacticsInMore
import Derived.LoopNIn
import Derived.LoopIn
namespace Go.Proofs.Ytkgfdgfhpdhhaaa
open Go.ChangeShapes Go.WideShapes Go.RowKit Go.Shelf

/-- A row, of those that were laid since, of a kind that rounds may write. -/
def isStr (E : Nat → Prop) (n0 k : Nat) (o : Obj) : Prop := n0 ≤ k ∧ ∃ cs t m, o = .cells cs t m ∧ E t
/-- An iterator's step: what lies below n1 stays, rows of texts stay. -/
def Steps (E : Nat → Prop) (n0 n1 : Nat) (W W' : World) : Prop := Chg (fun k => n1 ≤ k ∧ ¬ ∃ o, W.heap[k]? = some o ∧ isStr E n0 k o) W W'
/-- A round: what is not V's stays, rows of texts aside. -/
structure Keeps (E : Nat → Prop) (n0 : Nat) (V : Nat → Prop) (W W' : World) : Prop where
  size : W.heap.size ≤ W'.heap.size
  same : ∀ k o, W.heap[k]? = some o → ¬ V k → ¬ isStr E n0 k o → W'.heap[k]? = some o

theorem Steps.refl (E : Nat → Prop) (n0 n1 : Nat) (W : World) : Steps E n0 n1 W W := Chg.refl _ _
theorem Steps.trans {E : Nat → Prop} {n0 n1 : Nat} {A B C : World} (h : Steps E n0 n1 A B) (k : Steps E n0 n1 B C) : Steps E n0 n1 A C :=
  Chg.trans h k (fun i hi hs => by
    refine ⟨hs.1, fun ⟨o, ho, hst⟩ => hs.2 ⟨o, ?_, hst⟩⟩
    exact Chg.at h ho (fun e => e.2 ⟨o, ho, hst⟩))
theorem Steps.mono {E : Nat → Prop} {n0 n1 n2 : Nat} {A B : World} (h : Steps E n0 n1 A B) (hn : n2 ≤ n1) : Steps E n0 n2 A B := Chg.mono h (fun _ _ e => ⟨Nat.le_trans hn e.1, e.2⟩)
theorem Steps.alloc {E : Nat → Prop} {n0 n1 : Nat} {A B : World} (h : Steps E n0 n1 A B) (o : Obj) : Steps E n0 n1 A (B.alloc o) := Chg.alloc h o
theorem Steps.nob {E : Nat → Prop} {n0 n1 : Nat} {A B : World} (h : Chg Nob A B) : Steps E n0 n1 A B := Chg.any h
theorem Steps.put {E : Nat → Prop} {n0 n1 l : Nat} {A : World} {o o' : Obj} (hl : n1 ≤ l) (ho : A.heap[l]? = some o) (hs : ¬ isStr E n0 l o) : Steps E n0 n1 A (A.putObj l o') :=
  ⟨rfl, rfl, rfl, by simp, fun k _ hk => World.putObj_heap_other (fun e => hk (by subst e; exact ⟨hl, fun ⟨o2, h2, h3⟩ => by rw [ho] at h2; cases h2; exact hs h3⟩))⟩
theorem Keeps.refl (E : Nat → Prop) (n0 : Nat) (V : Nat → Prop) (W : World) : Keeps E n0 V W W := ⟨Nat.le_refl _, fun _ _ h _ _ => h⟩
theorem Keeps.trans {E : Nat → Prop} {n0 : Nat} {V : Nat → Prop} {A B C : World} (h : Keeps E n0 V A B) (k : Keeps E n0 V B C) : Keeps E n0 V A C :=
  ⟨Nat.le_trans h.size k.size, fun i o ho hv hs => k.same i o (h.same i o ho hv hs) hv hs⟩
theorem Keeps.mono {E : Nat → Prop} {n0 : Nat} {V V' : Nat → Prop} {A B : World} (h : Keeps E n0 V A B) (hv : ∀ k, V k → V' k) : Keeps E n0 V' A B :=
  ⟨h.size, fun i o ho hn hs => h.same i o ho (fun e => hn (hv i e)) hs⟩
theorem Keeps.of_chg {E : Nat → Prop} {n0 : Nat} {V : Nat → Prop} {A B : World} (h : Chg V A B) : Keeps E n0 V A B := ⟨h.size, fun _ _ ho hv _ => h.at ho hv⟩
theorem Keeps.put {E : Nat → Prop} {n0 : Nat} {V : Nat → Prop} {l : Nat} {A : World} {o' : Obj} (hv : V l) : Keeps E n0 V A (A.putObj l o') :=
  ⟨by simp, fun k o ho hn _ => (World.putObj_heap_other (fun e => hn (by subst e; exact hv))).trans ho⟩
theorem loop_not_str {E : Nat → Prop} {n0 k : Nat} (r : Loop) : ¬ isStr E n0 k (.loop r) := fun ⟨_, _, _, _, h, _⟩ => by cases h
theorem deferred_not_str {E : Nat → Prop} {n0 k : Nat} (r : Option (List Deferred)) : ¬ isStr E n0 k (.deferred r) := fun ⟨_, _, _, _, h, _⟩ => by cases h

/-- WHAT AN ITERATOR PROMISES: it hands xs over, one behind the other, unless a round says no more. -/
def Iter {α : Type} (E : Nat → Prop) (n0 n : Nat) (g : Nat) (lb : Array Value) (encs : α → Array Value) (V0 : Nat → Prop) (xs : List α) (w : World) : Prop :=
  ∀ (l : Nat) (J Jx : List α → World → Prop) (W : World), Chg Nob w W → w.heap.size ≤ l → l < W.heap.size →
    (∀ pre A B, J pre A → Steps E n0 W.heap.size A B → J pre B) → (∀ pre A B, Jx pre A → Steps E n0 W.heap.size A B → Jx pre B) →
    (∀ pre x W1, J pre W1 → (pre ++ [x]) <+: xs → YieldAt Fence.wide (n - 1) Try.prog l (encs x) W1 fun e W' =>
      (e = .returned (.bool true) ∧ J (pre ++ [x]) W' ∧ Keeps E n0 (fun k => k = l ∨ V0 k) W1 W') ∨ (e = .returned (.bool false) ∧ Jx (pre ++ [x]) W' ∧ Keeps E n0 (fun k => k = l ∨ V0 k) W1 W')) →
    J [] W →
    CallsIn Fence.wide n Try.prog g (#[.func (.yield l) #[] #[]] ++ lb) W fun e W' => (∃ v, e = .returned v) ∧ (J xs W' ∨ (∃ pre, pre <+: xs ∧ Jx pre W'))

/-- How a round's body may be left. -/
def rPost {α : Type} (E : Nat → Prop) (n0 : Nat) (V0 : Nat → Prop) (I : List α → World → Prop) (Ix : Code → List α → World → Prop) (xs : List α) (W : World) : Exit → Act → World → Prop
  | .normal, _, W' => Keeps E n0 V0 W W' ∧ I xs W'
  | .ret, _, W' => Keeps E n0 V0 W W' ∧ Ix .ret xs W'
  | .exit id, _, W' => Keeps E n0 V0 W W' ∧ Ix (.exit id) xs W'
  | .goto t, _, W' => Keeps E n0 V0 W W' ∧ Ix (.goto t) xs W'
  | .panic _, _, _ => False
  | .outgrown, _, _ => False

set_option maxHeartbeats 1000000 in
theorem range_iter {α : Type} {E : Nat → Prop} {n0 n : Nat} {g : Operand} {ps : Array Tmp} {assign body : Code} {Q : Exit → Act → World → Prop} {a : Act} {w : World} (h1 : 1 ≤ n)
    {gf : Nat} {lb : Array Value} (hg : a.eval g = .func (.func gf) #[] lb) (eg : ∀ args w, (callFunc gf args).run Try.prog w = .ok (.enter gf args) w)
    {encs : α → Array Value} {V0 : Nat → Prop} {xs : List α} (hit : Iter E n0 (n - 1) gf lb encs V0 xs w) (hV : ∀ k, V0 k → k < w.heap.size) (hps : ∀ x, (encs x).size = ps.size)
    (I : List α → World → Prop) (Ix : Code → List α → World → Prop) (hI : ∀ pre A B, I pre A → Steps E n0 (w.heap.size + 1) A B → I pre B) (hIx : ∀ c pre A B, Ix c pre A → Steps E n0 (w.heap.size + 1) A B → Ix c pre B) (h0 : I [] w)
    (hround : ∀ (l : Nat) (pre : List α) (x : α) (W : World), I pre W → (pre ++ [x]) <+: xs → w.heap.size + 1 < W.heap.size →
      assign.wpIn (Fence.wide.inRound l) (n - 1 - 1) Try.prog (Exit.then (fun a₁ w₁ => Keeps E n0 V0 W w₁ ∧ ∀ w₂, Chg (At1 (w.heap.size + 1)) w₁ w₂ → Steps E n0 (w.heap.size + 1) w₁ w₂ → body.wpIn (Fence.wide.inRound l) (n - 1 - 1) Try.prog (rPost E n0 V0 I Ix (pre ++ [x]) w₂) a₁ w₂) (fun _ _ _ => False))
        { tmps := (ps.zip (encs x)).foldl (fun t (p, v) => t.setIfInBounds p v) a.tmps, defers := [] } W)
    (hdone : ∀ (W : World), I xs W → W.heap[w.heap.size]? = some (.deferred (some [])) → Q .normal { a with defers := { target := .collected w.heap.size, args := #[] } :: a.defers } W)
    (hstop : ∀ (c : Code) (pre : List α) (W : World), pre <+: xs → Ix c pre W → W.heap[w.heap.size]? = some (.deferred (some [])) → c.wpIn Fence.wide n Try.prog Q { a with defers := { target := .collected w.heap.size, args := #[] } :: a.defers } W) :
    (Code.rangeFunc g ps assign body).wpIn Fence.wide n Try.prog Q a w := by
  refine wpIn_rangeFunc fun fn hfn => ?_
  let rec0 : LoopState → Option Code → Loop := fun st pe => { state := st, pending := pe, fn, tmps := a.tmps, params := ps, assign, body, defers := w.heap.size }
  obtain ⟨W1, hW1⟩ : ∃ W1, (w.alloc (.deferred (some []))).alloc (.loop (rec0 .ready none)) = W1 := ⟨_, rfl⟩
  have hsz : W1.heap.size = w.heap.size + 2 := by rw [← hW1]; simp
  have hcW : Chg Nob w W1 := by rw [← hW1]; exact ((Chg.refl _ _).alloc _).alloc _
  have hL1 : W1.heap[w.heap.size + 1]? = some (.loop (rec0 .ready none)) := by
    rw [← hW1]
    have := World.alloc_heap_new (w.alloc (.deferred (some []))) (.loop (rec0 .ready none))
    rwa [World.size_alloc] at this
  have hD1 : W1.heap[w.heap.size]? = some (.deferred (some [])) := by
    rw [← hW1]
    exact ((Chg.refl Nob (w.alloc (.deferred (some [])))).alloc _).at (World.alloc_heap_new w _) (fun e => e)
  refine ⟨w.heap.size + 1, [{ target := .collected w.heap.size, args := #[] }], W1, { target := .fn (.func gf) lb, args := #[.func (.yield (w.heap.size + 1)) #[] #[]] }, W1, gf,
    #[.func (.yield (w.heap.size + 1)) #[] #[]] ++ lb, W1, ?_, ?_, fun _ _ => trivial, ?_, fun _ => h1, ?_⟩
  · rw [← hW1]; exact run_enterLoop_outer _ _ _ _ _
  · simp only [resolve, hg]
    simp [go_sem]
  · simp [invoke, go_sem, eg]
  · have hstep : ∀ (pre : List α) (A B : World), (I pre A ∧ A.heap[w.heap.size + 1]? = some (.loop (rec0 .ready none)) ∧ A.heap[w.heap.size]? = some (.deferred (some []))) → Steps E n0 W1.heap.size A B →
        (I pre B ∧ B.heap[w.heap.size + 1]? = some (.loop (rec0 .ready none)) ∧ B.heap[w.heap.size]? = some (.deferred (some []))) := fun pre A B h hs =>
      ⟨hI pre A B h.1 (hs.mono (by omega)), Chg.at hs h.2.1 (fun e => by have := e.1; omega), Chg.at hs h.2.2 (fun e => by have := e.1; omega)⟩
    refine (hit (w.heap.size + 1)
      (fun pre W => I pre W ∧ W.heap[w.heap.size + 1]? = some (.loop (rec0 .ready none)) ∧ W.heap[w.heap.size]? = some (.deferred (some [])))
      (fun pre W => ∃ c, Ix c pre W ∧ W.heap[w.heap.size + 1]? = some (.loop (rec0 .done (some c))) ∧ W.heap[w.heap.size]? = some (.deferred (some [])))
      W1 hcW (by omega) (by omega) hstep
      (fun pre A B h hs => by
        obtain ⟨c, h1, h2, h3⟩ := h
        exact ⟨c, hIx c pre A B h1 (hs.mono (by omega)), Chg.at hs h2 (fun e => by have := e.1; omega), Chg.at hs h3 (fun e => by have := e.1; omega)⟩)
      ?_ ⟨hI [] w W1 h0 (Steps.nob hcW), hL1, hD1⟩).mono ?_
    · rintro pre x W ⟨hi, hl, hd⟩ hpre
      have hy := run_yield (P := Try.prog) (args := encs x) hl (hps x)
      refine ⟨fn, _, assign, body, hy, roundIn_of_wpIn hfn ?_⟩
      have hWs : w.heap.size + 1 < W.heap.size := (Array.getElem?_eq_some_iff.1 hl).1
      refine wpIn_mono (hround _ pre x W hi hpre hWs) ?_
      intro e a₁ w₁ hq
      cases e with
      | normal =>
        obtain ⟨hk1, hbody⟩ := hq
        have hl1 := hk1.same _ _ hl (fun hv => by have := hV _ hv; omega) (loop_not_str _)
        have hd1 := hk1.same _ _ hd (fun hv => by have := hV _ hv; omega) (deferred_not_str _)
        refine ⟨_, run_beginRound hl1 rfl, ?_⟩
        have hlt : w.heap.size + 1 < w₁.heap.size := (Array.getElem?_eq_some_iff.1 hl1).1
        have hc2 : Chg (At1 (w.heap.size + 1)) w₁ (w₁.putObj (w.heap.size + 1) (.loop { rec0 .ready none with state := .busy })) :=
          ⟨rfl, rfl, rfl, by simp, fun k _ hk => World.putObj_heap_other hk⟩
        have hl2 : (w₁.putObj (w.heap.size + 1) (.loop { rec0 .ready none with state := .busy })).heap[w.heap.size + 1]? = some (.loop { rec0 .ready none with state := .busy }) := World.putObj_heap_same hlt
        have hd2 := hc2.at hd1 (fun e => by have e : w.heap.size = w.heap.size + 1 := e; omega)
        refine wpIn_mono (hbody _ hc2 (Steps.put (Nat.le_refl _) hl1 (loop_not_str _))) ?_
        have fin : ∀ (jump : Option Code) (W3 : World), Keeps E n0 V0 (w₁.putObj (w.heap.size + 1) (.loop { rec0 .ready none with state := .busy })) W3 →
            (Instr.endRound (w.heap.size + 1) jump).run Try.prog W3 = .ok (.bool jump.isNone) (W3.putObj (w.heap.size + 1) (.loop (rec0 (if jump.isNone then .ready else .done) jump))) ∧
            W3.heap[w.heap.size + 1]? = some (.loop { rec0 .ready none with state := .busy }) ∧
            (W3.putObj (w.heap.size + 1) (.loop (rec0 (if jump.isNone then .ready else .done) jump))).heap[w.heap.size + 1]? = some (.loop (rec0 (if jump.isNone then .ready else .done) jump)) ∧
            (W3.putObj (w.heap.size + 1) (.loop (rec0 (if jump.isNone then .ready else .done) jump))).heap[w.heap.size]? = some (.deferred (some [])) ∧
            Keeps E n0 (fun k => k = w.heap.size + 1 ∨ V0 k) W (W3.putObj (w.heap.size + 1) (.loop (rec0 (if jump.isNone then .ready else .done) jump))) := fun jump W3 hk3 => by
          have hl3 := hk3.same _ _ hl2 (fun hv => by have := hV _ hv; omega) (loop_not_str _)
          have hd3 := hk3.same _ _ hd2 (fun hv => by have := hV _ hv; omega) (deferred_not_str _)
          refine ⟨run_endRound (P := Try.prog) jump hl3, hl3, World.putObj_heap_same (Array.getElem?_eq_some_iff.1 hl3).1, (World.putObj_heap_other (by omega)).trans hd3, ?_⟩
          exact (((hk1.mono (fun _ h => .inr h)).trans (Keeps.put (.inl rfl))).trans (hk3.mono (fun _ h => .inr h))).trans (Keeps.put (.inl rfl))
        intro e a3 W3 hp
        cases e with
        | normal =>
          obtain ⟨hk3, hi3⟩ := hp
          obtain ⟨hr, hl3, hl4, hd4, hkk⟩ := fin none W3 hk3
          exact ⟨_, _, hr, .inl ⟨rfl, ⟨hI _ _ _ hi3 (Steps.put (Nat.le_refl _) hl3 (loop_not_str _)), hl4, hd4⟩, hkk⟩⟩
        | ret =>
          obtain ⟨hk3, hi3⟩ := hp
          obtain ⟨hr, hl3, hl4, hd4, hkk⟩ := fin (some .ret) W3 hk3
          exact ⟨_, _, hr, .inr ⟨rfl, ⟨.ret, hIx _ _ _ _ hi3 (Steps.put (Nat.le_refl _) hl3 (loop_not_str _)), hl4, hd4⟩, hkk⟩⟩
        | exit id =>
          obtain ⟨hk3, hi3⟩ := hp
          obtain ⟨hr, hl3, hl4, hd4, hkk⟩ := fin (some (.exit id)) W3 hk3
          exact ⟨_, _, hr, .inr ⟨rfl, ⟨.exit id, hIx _ _ _ _ hi3 (Steps.put (Nat.le_refl _) hl3 (loop_not_str _)), hl4, hd4⟩, hkk⟩⟩
        | goto t =>
          obtain ⟨hk3, hi3⟩ := hp
          obtain ⟨hr, hl3, hl4, hd4, hkk⟩ := fin (some (.goto t)) W3 hk3
          exact ⟨_, _, hr, .inr ⟨rfl, ⟨.goto t, hIx _ _ _ _ hi3 (Steps.put (Nat.le_refl _) hl3 (loop_not_str _)), hl4, hd4⟩, hkk⟩⟩
        | panic ch => exact hp.elim
        | outgrown => exact hp.elim
      | ret => exact hq
      | exit id => exact hq
      | goto t => exact hq
      | panic ch => exact hq
      | outgrown => exact hq
    · rintro e W2 ⟨⟨v, rfl⟩, (⟨hi, hl, hd⟩ | ⟨pre, hpre, c, hi, hl, hd⟩)⟩
      · exact ⟨none, _, run_endLoop (P := Try.prog) hl (by simp [rec0]), hdone _ (hI _ _ _ hi (Steps.put (Nat.le_refl _) hl (loop_not_str _))) ((World.putObj_heap_other (by omega)).trans hd)⟩
      · exact ⟨some c, _, run_endLoop (P := Try.prog) hl (by simp [rec0]), hstop c pre _ hpre (hIx c _ _ _ hi (Steps.put (Nat.le_refl _) hl (loop_not_str _))) ((World.putObj_heap_other (by omega)).trans hd)⟩
end Go.Proofs.Ytkgfdgfhpdhhaaa
