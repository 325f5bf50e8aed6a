/- What holds within the iterator over a formula's parts. Conditions: as each theorem states. -/
import Derived.Test.YtkgfdgfhpdhhaaaBack
namespace Go.Proofs.Ytkgfdgfhpdhhaaa
open Go.ChangeShapes Go.WideShapes Go.RowKit

def E9 : Nat → Prop := fun t => t = 9
def E79 : Nat → Prop := fun t => t = 9 ∨ t = 37
theorem steps_79 {n0 n1 n2 : Nat} {A B : World} (h : Steps E79 n0 n2 A B) (hn : n1 ≤ n2) : Steps E9 n0 n1 A B :=
  Chg.mono h (fun _ _ e => ⟨Nat.le_trans hn e.1, fun ⟨o, h1, h2, cs, t, m, h3, h4⟩ => e.2 ⟨o, h1, h2, cs, t, m, h3, .inl h4⟩⟩)

/-- pre is handed over, st is still to come (its last one first). -/
structure Core (n0 : Nat) (R : Nat → Prop) (J : List (T × Value) → World → Prop) (W : World) (pre st : List (T × Value)) (rv : Value) (mb : Nat) (ds : List Deferred) (wr : World) : Prop where
  trees : ∀ x ∈ st, IsTree R W x.1 x.2
  row : wr.ownsRow W.heap.size 37 3 rv st.length (cellsOf st)
  box : wr.heap[W.heap.size + 1]? = some (.cells #[rv] 35 (0, 0))
  kp : Kp R W wr
  j : J pre wr
  marks : Marks wr mb ds
  mbl : mb ≤ wr.heap.size
  fromW : From (W.heap.size + 2) ds

theorem Kp.chg' {S C : Nat → Prop} {w A B : World} (h : Kp S w A) (hk : Chg C A B) (hs : ∀ b, S b → b < w.heap.size → ¬ C b) : Kp S w B :=
  fun b o hS ho => hk.at (h b o hS ho) (hs b hS (Array.getElem?_eq_some_iff.1 ho).1)
def Jst (n0 : Nat) (J : List (T × Value) → World → Prop) (W : World) : Prop := ∀ (pre : List (T × Value)) (A B : World), J pre A → Steps E9 n0 W.heap.size A B → J pre B

section
variable {n0 : Nat} {R : Nat → Prop} {J : List (T × Value) → World → Prop} {W : World} {pre st : List (T × Value)} {rv : Value} {mb : Nat} {ds : List Deferred} {A B : World}

theorem Core.nob (h : Core n0 R J W pre st rv mb ds A) (hJ : Jst n0 J W) (hc : Chg Nob A B) : Core n0 R J W pre st rv mb ds B where
  trees := h.trees
  row := ownsRow_chg h.row hc (fun _ _ e => e)
  box := hc.at h.box (fun e => e)
  kp := h.kp.chg hc (fun _ _ e => e)
  j := hJ _ _ _ h.j (Chg.any hc)
  marks := h.marks.kp (fun _ _ ho _ => hc.at ho (fun e => e))
  mbl := Nat.le_trans h.mbl hc.size
  fromW := h.fromW
/-- The row is cut. -/
theorem Core.cut {g m cap : Nat} {st0 st1 : List (T × Value)} (h : Core n0 R J W pre (st0 ++ st1) (.slice (some ⟨g, 0, none⟩) m cap) mb ds A) (hJ : Jst n0 J W) (hm : m = (st0 ++ st1).length) :
    Core n0 R J W pre st0 (.slice (some ⟨g, 0, none⟩) st0.length cap) mb ds (A.setCell ⟨W.heap.size + 1, 0, none⟩ (.slice (some ⟨g, 0, none⟩) st0.length cap)) := by
  subst hm
  have hc : Chg (At1 (W.heap.size + 1)) A (A.setCell ⟨W.heap.size + 1, 0, none⟩ (.slice (some ⟨g, 0, none⟩) st0.length cap)) := (Chg.refl (At1 (W.heap.size + 1)) A).setCell (p := ⟨W.heap.size + 1, 0, none⟩) (fun _ => rfl) _
  have hlt := (Array.getElem?_eq_some_iff.1 h.box).1
  have h0 : ∀ p ∈ st0, (vc p.2).length = 3 := fun p hp => vc_tree (h.trees p (List.mem_append_left _ hp))
  have hr := ownsRow_cut h.row (m := st0.length) (by simp)
  have ht : (cellsOf (st0 ++ st1)).take (st0.length * 3) = cellsOf st0 := by
    rw [cellsOf_append, ← cellsOf_length h0, List.take_left]
  rw [ht] at hr
  refine ⟨fun x hx => h.trees x (List.mem_append_left _ hx), ownsRow_setCell_type hr h.box (by decide) _, block_one_set h.box, h.kp.chg' hc (fun b _ hb e => by have e : b = W.heap.size + 1 := e; omega), ?_, ?_, Nat.le_trans h.mbl hc.size, h.fromW⟩
  · refine hJ _ _ _ h.j (hc.mono ?_)
    rintro i _ rfl
    refine ⟨by omega, ?_⟩
    rintro ⟨o, ho, _, cs, t, m, e1, e2⟩
    rw [h.box] at ho
    cases ho
    cases e1
    cases e2
  · refine h.marks.kp (fun r _ ho _ => hc.at ho ?_)
    intro e
    have e : r = W.heap.size + 1 := e
    subst e
    rw [h.box] at ho
    cases ho
/-- A round of the iterator's user. -/
theorem Core.keeps {V : Nat → Prop} {pre' : List (T × Value)} (h : Core n0 R J W pre st rv mb ds A) (hk : Keeps E9 n0 V A B) (hV : ∀ k, V k → k < W.heap.size ∧ ¬ R k) (_hn0 : n0 ≤ W.heap.size) (hR : ∀ b, R b → b < n0) (hj : J pre' B) : Core n0 R J W pre' st rv mb ds B where
  trees := h.trees
  row := by
    refine ⟨h.row.1, ?_⟩
    rcases h.row.2 with h2 | ⟨g, cap, cur, hv, hb, hg, rest⟩
    · exact .inl h2
    · refine .inr ⟨g, cap, cur, hv, hb, hk.same _ _ hg (fun e => by have := (hV _ e).1; omega) ?_, rest⟩
      rintro ⟨_, cs, t, m, e1, e2⟩
      cases e1
      cases e2
  box := hk.same _ _ h.box (fun e => by have := (hV _ e).1; omega) (by rintro ⟨_, cs, t, m, e1, e2⟩; cases e1; cases e2)
  kp := fun b o hb ho => hk.same b o (h.kp b o hb ho) (fun e => (hV _ e).2 hb) (fun e => by have := e.1; have := hR b hb; omega)
  j := hj
  marks := by
    refine h.marks.kp (fun r _ ho hd => hk.same _ _ ho ?_ (deferred_not_str _))
    obtain ⟨d, hd, e⟩ := hd
    obtain ⟨r', e2, hr⟩ := h.fromW d hd
    rw [e2] at e
    cases e
    exact fun e => by have := (hV _ e).1; omega
  mbl := Nat.le_trans h.mbl hk.size
  fromW := h.fromW
/-- An iterator within takes a step. -/
theorem Core.steps {m : Nat} (h : Core n0 R J W pre st rv mb ds A) (hJ : Jst n0 J W) (hc : Steps E79 n0 m A B) (hm : mb ≤ m) (hb : W.heap.size + 1 < m) (hn0 : n0 ≤ W.heap.size) (hR : ∀ b, R b → b < n0) : Core n0 R J W pre st rv mb ds B where
  trees := h.trees
  row := by
    refine ⟨h.row.1, ?_⟩
    rcases h.row.2 with h2 | ⟨g, cap, cur, hv, hbg, hg, rest⟩
    · exact .inl h2
    · refine .inr ⟨g, cap, cur, hv, hbg, Chg.at hc hg (fun e => e.2 ⟨_, hg, by omega, _, _, _, rfl, .inr rfl⟩), rest⟩
  box := Chg.at hc h.box (fun e => by have := e.1; omega)
  kp := h.kp.chg hc (fun b hb e => by have := hR b hb; have := e.1; omega)
  j := hJ _ _ _ h.j (steps_79 hc (by omega))
  marks := h.marks.kp (fun _ hr ho _ => Chg.at hc ho (fun e => by have := e.1; omega))
  mbl := Nat.le_trans h.mbl (Chg.size hc)
  fromW := h.fromW
/-- The bound of the marks may grow. -/
theorem Core.up {mb' : Nat} (h : Core n0 R J W pre st rv mb ds A) (h1 : mb ≤ mb') (h2 : mb' ≤ A.heap.size) : Core n0 R J W pre st rv mb' ds A := { h with marks := h.marks.le h1, mbl := h2 }
/-- A formula is pushed. -/
theorem Core.push {rv' : Value} {q : T × Value} (h : Core n0 R J W pre st rv mb ds A) (hJ : Jst n0 J W) (hq : IsTree R W q.1 q.2) (hc : Chg (fun k => k = W.heap.size + 1 ∨ rv.ownBlock = some k) A B)
    (hrow : B.ownsRow W.heap.size 37 3 rv' (st.length + 1) (cellsOf (st ++ [q]))) (hbox : B.heap[W.heap.size + 1]? = some (.cells #[rv'] 35 (0, 0))) (hn0 : n0 ≤ W.heap.size) (hR : ∀ b, R b → b < n0) :
    Core n0 R J W pre (st ++ [q]) rv' mb ds B ∧ Keeps E79 n0 (fun k => k = W.heap.size + 1) A B := by
  have hne := ownsRow_ne_type h.row h.box (by decide)
  have hbl := ownsRow_block h.row
  have hob : ∀ k o, A.heap[k]? = some o → (k = W.heap.size + 1 ∨ rv.ownBlock = some k) → W.heap.size ≤ k ∧ ((k = W.heap.size + 1 ∧ o = .cells #[rv] 35 (0, 0)) ∨ ∃ cs m, o = .cells cs 37 m) := by
    rintro k o ho (rfl | hk)
    · rw [h.box] at ho; cases ho; exact ⟨by omega, .inl ⟨rfl, rfl⟩⟩
    · obtain ⟨cs, m, hg⟩ := hbl k hk
      rw [hg] at ho; cases ho
      exact ⟨(hne k hk).1, .inr ⟨cs, m, rfl⟩⟩
  refine ⟨⟨fun x hx => ?_, by rw [List.length_append]; exact hrow, hbox, fun b o hb ho => ?_, ?_, ?_, Nat.le_trans h.mbl hc.size, h.fromW⟩, ⟨hc.size, fun k o ho hv hs => hc.at ho ?_⟩⟩
  · rcases List.mem_append.1 hx with hx | hx
    · exact h.trees x hx
    · obtain rfl : x = q := by simpa using hx
      exact hq
  · have h1 := h.kp b o hb ho
    refine hc.at h1 (fun e => ?_)
    have := (hob b o h1 e).1
    have := hR b hb
    omega
  · refine hJ _ _ _ h.j (Chg.mono hc (fun i hi e => ?_))
    obtain ⟨o, ho⟩ : ∃ o, A.heap[i]? = some o := ⟨_, Array.getElem?_eq_getElem hi⟩
    obtain ⟨h1, h2⟩ := hob i o ho e
    refine ⟨h1, ?_⟩
    rintro ⟨o', ho', _, cs, t, m, e1, e2⟩
    rw [ho] at ho'
    cases ho'
    rcases h2 with ⟨_, h2⟩ | ⟨cs', m', h2⟩
    · rw [e1] at h2; cases h2; cases e2
    · rw [e1] at h2; cases h2; cases e2
  · refine h.marks.kp (fun r _ ho _ => hc.at ho (fun e => ?_))
    rcases (hob r _ ho e).2 with ⟨_, h2⟩ | ⟨cs', m', h2⟩
    · cases h2
    · cases h2
  · intro e
    obtain ⟨h1, h2⟩ := hob k o ho e
    rcases h2 with ⟨h2, _⟩ | ⟨cs', m', h2⟩
    · exact hv h2
    · exact hs ⟨by omega, cs', 37, m', h2, .inr rfl⟩
end
theorem zip2 (t : Array Value) (p q : Nat) (x y : Value) : ((#[p, q] : Array Nat).zip #[x, y]).foldl (fun t (p, v) => t.setIfInBounds p v) t = (t.setIfInBounds p x).setIfInBounds q y := by simp [Array.zip]
theorem zip1 (t : Array Value) (p : Nat) (x : Value) : ((#[p] : Array Nat).zip #[x]).foldl (fun t (p, v) => t.setIfInBounds p v) t = t.setIfInBounds p x := by simp [Array.zip]
theorem ownsRow_cap {w : World} {B : Nat} {e : TypeId} {z g n cap : Nat} {xs : List Value} (h : w.ownsRow B e z (.slice (some ⟨g, 0, none⟩) n cap) n xs) : n ≤ cap := by
  rcases h.2 with ⟨h2, _⟩ | ⟨g', cap', cur, h2, hb, hg, hnc, hcm, hcs, ht⟩
  · cases h2
  · cases h2; exact hnc
theorem kidV_kp {R : Nat → Prop} {w W : World} (h : Kp R w W) {ao : Option Addr} {kids : List T} (hk : IsKids R w ao 0 kids) {j : Nat} {t : T} (ht : kids[j]? = some t) : kidV W ao j = kidV w ao j := by
  obtain ⟨b, o, ak, cap, rfl, hb, q0, q1, q2, e, _⟩ := kidV_eq hk ht
  rw [e]
  simp only [kidV, h.cell hb q0, h.cell hb q1, h.cell hb q2, Option.getD_some]
theorem IsKids.kp {R : Nat → Prop} {w W : World} (h : Kp R w W) {ao : Option Addr} {i : Nat} {l : List T} (hk : IsKids R w ao i l) : IsKids R W ao i l :=
  IsKids.mono (fun _a _v hb hc => h.cell hb hc) (fun _ e => e) l ao i hk
theorem IsTree.kp {R : Nat → Prop} {w W : World} (h : Kp R w W) {t : T} {v : Value} (ht : IsTree R w t v) : IsTree R W t v :=
  IsTree.mono (fun _a _v hb hc => h.cell hb hc) (fun _ e => e) t v ht
end Go.Proofs.Ytkgfdgfhpdhhaaa
