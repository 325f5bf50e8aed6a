/- The reference's columns: what its regions make. Conditions: as each theorem states. -/
import Derived.Test.YtkgfdgfhpdhhaaaGreatRany
namespace Go.Proofs.YtkgfdgfhpdhhaaaGreat
open Go.ChangeShapes Go.WideShapes Go.RowKit

set_option maxHeartbeats 1000000 in
theorem rpart_any (k : Int) (ao : Option Addr) (n c : Nat) (w : World) : Calls Tryz.prog 84 #[.int .i64 k, .slice ao n c] w fun e w' => e = .returned (.agg #[.int .i64 k, .string ⟨#[]⟩, .slice ao n c]) ∧ Chg Nob w w' := by
  go_enter Tryz.func84, Tryz.ntmps84
  go_wp2
  exact bodyPost_ret (v := .agg #[.int .i64 k, .string ⟨#[]⟩, .slice ao n c]) (by simp [results, Tryz.results84, go_sem]) rfl ⟨rfl, (Chg.refl _ _).alloc _⟩
section
variable {o : Oper} {a : Act} {w : World} {K : Act → World → Prop} {Q : Exit → Act → World → Prop}
set_option maxHeartbeats 1000000 in
theorem wp_load37 {p b : Nat} {x y z : Value} (ho : o.op = .load 24 (.tmp p)) (ha : a.tmps[p]? = some (.pointer (some ⟨b, 0, none⟩))) (hb : w.heap[b]? = some (.cells #[x, y, z] 24 (0, 0))) (h : K (a.put o.dst (.agg #[x, y, z])) w) : o.wp Tryz.prog a w K Q := by
  obtain ⟨c0, c1, c2, _⟩ := cells_three hb
  unfold Oper.wp execOp
  simp only [ho]
  go_simp
  exact h
set_option maxHeartbeats 1000000 in
theorem wp_slice1 {p : Nat} {x y z : Value} (ho : o.op = .buildSlice 22 1 #[(0, .tmp p)]) (ha : a.tmps[p]? = some (.agg #[x, y, z]))
    (h : K (a.put o.dst (.slice (some ⟨w.heap.size, 0, none⟩) 1 1)) (w.alloc (.cells #[x, y, z] 24))) : o.wp Tryz.prog a w K Q := by
  unfold Oper.wp execOp
  simp only [ho]
  go_simp
  exact h
set_option maxHeartbeats 1000000 in
theorem wp_slice2 {p q : Nat} {x y z x' y' z' : Value} (ho : o.op = .buildSlice 22 2 #[(0, .tmp p), (1, .tmp q)]) (ha : a.tmps[p]? = some (.agg #[x, y, z])) (hb : a.tmps[q]? = some (.agg #[x', y', z']))
    (h : K (a.put o.dst (.slice (some ⟨w.heap.size, 0, none⟩) 2 2)) (w.alloc (.cells #[x, y, z, x', y', z'] 24))) : o.wp Tryz.prog a w K Q := by
  unfold Oper.wp execOp
  simp only [ho]
  go_simp
  exact h
set_option maxHeartbeats 1000000 in
theorem wp_part {s : Nat} {k : Int} {ao : Option Addr} {n c : Nat} (ho : o.op = .call { callee := .value (.func 84), args := #[.const (.int .i64 k), .tmp s], argTypes := #[3, 22] }) (ha : a.tmps[s]? = some (.slice ao n c))
    (h : ∀ w', Chg Nob w w' → K (a.put o.dst (.agg #[.int .i64 k, .string ⟨#[]⟩, .slice ao n c])) w') : o.wp Tryz.prog a w K Q := by
  unfold Oper.wp execOp
  simp only [ho]
  go_simp
  refine (rpart_any k ao n c w).mono ?_
  rintro e w' ⟨rfl, hc⟩
  exact h w' hc
set_option maxHeartbeats 1000000 in
theorem wp_store37 {p b s : Nat} {x y z : Value} {k : Int} {nm : ByteArray} {ao : Option Addr} {len cap : Nat} (ho : o.op = .store 24 (.tmp p) (.tmp s)) (ha : a.tmps[p]? = some (.pointer (some ⟨b, 0, none⟩))) (hb : w.heap[b]? = some (.cells #[x, y, z] 24 (0, 0))) (hs : a.tmps[s]? = some (.agg #[.int .i64 k, .string nm, .slice ao len cap]))
    (h : K (a.put o.dst undef) (((w.setCell ⟨b, 0, none⟩ (.int .i64 k)).setCell ⟨b, 1, none⟩ (.string nm)).setCell ⟨b, 2, none⟩ (.slice ao len cap))) : o.wp Tryz.prog a w K Q := by
  obtain ⟨c0, c1, c2, f0, f1, f2⟩ := cells_three hb
  unfold Oper.wp execOp
  simp only [ho]
  go_simp
  exact h
end
/-- What a slot may hold: a formula, or a row of formulas. -/
inductive Ann where
  | t (t : T)
  | l (ts : List T)
def Good (lo : Nat) (w : World) : Ann → Value → Prop
  | .t t, v => ∃ k nm ao len cap, v = .agg #[.int .i64 k, .string nm, .slice ao len cap] ∧ Fresh (Ge lo) w t v
  | .l ts, v => ∃ b cs, v = .slice (some ⟨b, 0, none⟩) ts.length ts.length ∧ lo ≤ b ∧ w.heap[b]? = some (.cells cs 24 (0, 0)) ∧ ts.length ≤ 2 ∧ FreshL (Ge lo) w ts cs.toList
theorem Good.chg {lo : Nat} {S : Nat → Prop} {w w' : World} (hc : Chg S w w') (hs : ∀ b, S b → b < lo) {A : Ann} {v : Value} (h : Good lo w A v) : Good lo w' A v := by
  have hn : ∀ b, lo ≤ b → ¬ S b := fun b hb e => by have := hs b e; omega
  cases A with
  | t t =>
    obtain ⟨k, nm, ao, len, cap, rfl, hF⟩ := h
    exact ⟨k, nm, ao, len, cap, rfl, hF.chg hc (fun b hb _ => hn b hb) (fun _ h => h)⟩
  | l ts =>
    obtain ⟨b, cs, rfl, hb, hcs, hl, hF⟩ := h
    exact ⟨b, cs, rfl, hb, hc.at hcs (hn b hb), hl, FreshL.chg hc (fun b hb _ => hn b hb) (fun _ h => h) _ _ hF⟩
/-- An operand that an operation has to wait for. -/
def Dep (ops : Array Oper) (o : Oper) (x : Nat) : Prop := ∃ (q : Nat) (e : Edge) (o' : Oper), o.after[q]? = some e ∧ Region.binds .any e = true ∧ ops[e.on]? = some o' ∧ o'.dst = some x
/-- What an operation of such a region does; ann: what the slots hold; pt: the boxes' slots; t2, t3: the results. -/
inductive OpGood (ops : Array Oper) (ann : Nat → Option Ann) (pt : Nat → Option T) (t2 t3 : T) (o : Oper) : Prop where
  | load (d p : Nat) (t : T) : o.op = .load 24 (.tmp p) → o.dst = some d → pt p = some t → ann d = some (.t t) → OpGood ops ann pt t2 t3 o
  | one (d x : Nat) (t : T) : o.op = .buildSlice 22 1 #[(0, .tmp x)] → o.dst = some d → ann x = some (.t t) → Dep ops o x → ann d = some (.l [t]) → OpGood ops ann pt t2 t3 o
  | two (d x y : Nat) (t u : T) : o.op = .buildSlice 22 2 #[(0, .tmp x), (1, .tmp y)] → o.dst = some d → ann x = some (.t t) → Dep ops o x → ann y = some (.t u) → Dep ops o y → ann d = some (.l [t, u]) → OpGood ops ann pt t2 t3 o
  | part (d s : Nat) (k : Int) (ts : List T) : o.op = .call { callee := .value (.func 84), args := #[.const (.int .i64 k), .tmp s], argTypes := #[3, 22] } → o.dst = some d → ann s = some (.l ts) → Dep ops o s → ann d = some (.t (.node k [] ts)) → OpGood ops ann pt t2 t3 o
  | store2 (x : Nat) : o.op = .store 24 (.tmp 2) (.tmp x) → o.dst = none → ann x = some (.t t2) → Dep ops o x → OpGood ops ann pt t2 t3 o
  | store3 (x : Nat) : o.op = .store 24 (.tmp 3) (.tmp x) → o.dst = none → ann x = some (.t t3) → Dep ops o x → OpGood ops ann pt t2 t3 o
/-- What every order keeps. -/
structure CInv (ops : Array Oper) (ann : Nat → Option Ann) (pt : Nat → Option T) (t2 t3 : T) (B lo : Nat) (w0 : World) (listed : Array Bool) (a : Act) (w : World) : Prop where
  size : a.tmps.size = 174
  defers : a.defers = []
  s2 : a.tmps[2]? = some (.pointer (some ⟨B, 0, none⟩))
  s3 : a.tmps[3]? = some (.pointer (some ⟨B + 1, 0, none⟩))
  lo2 : B + 1 < lo
  chg : Chg (fun b => b = B ∨ b = B + 1) w0 w
  pts : ∀ p t, pt p = some t → ∃ b k nm ao len cap, a.tmps[p]? = some (.pointer (some ⟨b, 0, none⟩)) ∧ b ≠ B ∧ b ≠ B + 1 ∧ w.heap[b]? = some (.cells #[.int .i64 k, .string nm, .slice ao len cap] 24 (0, 0)) ∧ Fresh (Ge lo) w t (.agg #[.int .i64 k, .string nm, .slice ao len cap])
  done : ∀ (j : Nat) (o : Oper) (d : Nat), ops[j]? = some o → listed.getD j false = true → o.dst = some d → ∃ A v, ann d = some A ∧ a.tmps[d]? = some v ∧ Good lo w A v
  r2 : ∃ k nm ao len cap, w.heap[B]? = some (.cells #[.int .i64 k, .string nm, .slice ao len cap] 24 (0, 0)) ∧ ((∃ (j : Nat) (o : Oper) (x : Nat), ops[j]? = some o ∧ o.op = .store 24 (.tmp 2) (.tmp x) ∧ listed.getD j false = true) → Fresh (Ge lo) w t2 (.agg #[.int .i64 k, .string nm, .slice ao len cap]))
  r3 : ∃ k nm ao len cap, w.heap[B + 1]? = some (.cells #[.int .i64 k, .string nm, .slice ao len cap] 24 (0, 0)) ∧ ((∃ (j : Nat) (o : Oper) (x : Nat), ops[j]? = some o ∧ o.op = .store 24 (.tmp 3) (.tmp x) ∧ listed.getD j false = true) → Fresh (Ge lo) w t3 (.agg #[.int .i64 k, .string nm, .slice ao len cap]))
theorem CInv.dep {ops : Array Oper} {ann : Nat → Option Ann} {pt : Nat → Option T} {t2 t3 : T} {B lo : Nat} {w0 : World} {listed : Array Bool} {a : Act} {w : World} (h : CInv ops ann pt t2 t3 B lo w0 listed a w) {o : Oper} {x : Nat} (hd : Dep ops o x)
    (hdep : ∀ e ∈ o.after, Region.binds .any e = true → listed.getD e.on false = true) {A : Ann} (hA : ann x = some A) : ∃ v, a.tmps[x]? = some v ∧ Good lo w A v := by
  obtain ⟨q, e, o', he, hb, ho', hdst⟩ := hd
  obtain ⟨A', v, h1, h2, h3⟩ := h.done _ _ _ ho' (hdep e (Array.mem_of_getElem? he) hb) hdst
  rw [hA] at h1
  cases h1
  exact ⟨v, h2, h3⟩
section
variable {ops : Array Oper} {ann : Nat → Option Ann} {pt : Nat → Option T} {t2 t3 : T} {B lo : Nat} {w0 : World} {listed : Array Bool} {a : Act} {w w' : World} {i d : Nat} {o : Oper} {A : Ann} {v : Value}
theorem CInv.put (hpt : ∀ p t, pt p = some t → ann p = none) (h2 : ann 2 = none) (h3 : ann 3 = none) (hlt : ∀ d A, ann d = some A → d < 174)
    (h : CInv ops ann pt t2 t3 B lo w0 listed a w) (hc : Chg Nob w w') (ho : ops[i]? = some o) (hd : o.dst = some d) (hA : ann d = some A) (hg : Good lo w' A v) (hop : ∀ p x, o.op ≠ .store 24 (.tmp p) (.tmp x)) : CInv ops ann pt t2 t3 B lo w0 (listed.setIfInBounds i true) (a.put o.dst v) w' := by
  have hput : a.put o.dst v = { a with tmps := a.tmps.setIfInBounds d v } := by rw [hd]; rfl
  rw [hput]
  have hne : ∀ p, ann p = none → (a.tmps.setIfInBounds d v)[p]? = a.tmps[p]? := fun p hp => Array.getElem?_setIfInBounds_ne (fun e => by rw [← e, hA] at hp; cases hp)
  have hold : ∀ j o', ops[j]? = some o' → (listed.setIfInBounds i true).getD j false = true → j = i ∨ listed.getD j false = true := fun j o' _ hl => by
    by_cases hj : j = i
    · exact .inl hj
    · rw [getD_set_ne false (Ne.symm hj)] at hl; exact .inr hl
  refine ⟨by rw [Array.size_setIfInBounds]; exact h.size, h.defers, by rw [hne 2 h2]; exact h.s2, by rw [hne 3 h3]; exact h.s3, h.lo2, h.chg.trans1 hc.any, ?_, ?_, ?_, ?_⟩
  · intro p t hp
    obtain ⟨b, k, nm, ao, len, cap, e1, e2, e3, e4, e5⟩ := h.pts p t hp
    exact ⟨b, k, nm, ao, len, cap, by rw [hne p (hpt p t hp)]; exact e1, e2, e3, hc.at e4 (fun e => e), e5.chg hc (fun _ _ _ e => e) (fun _ h => h)⟩
  · intro j o' d' ho' hl hd'
    by_cases hdd : d' = d
    · subst hdd
      exact ⟨A, v, hA, Array.getElem?_setIfInBounds_self_of_lt (by rw [h.size]; exact hlt _ _ hA), hg⟩
    · rcases hold j o' ho' hl with rfl | hl
      · rw [ho] at ho'
        cases ho'
        rw [hd] at hd'
        cases hd'
        exact absurd rfl hdd
      · obtain ⟨A', v', e1, e2, e3⟩ := h.done j o' d' ho' hl hd'
        exact ⟨A', v', e1, by rw [Array.getElem?_setIfInBounds_ne (Ne.symm hdd)]; exact e2, e3.chg hc (fun _ e => e.elim)⟩
  · obtain ⟨k, nm, ao, len, cap, e1, e2⟩ := h.r2
    refine ⟨k, nm, ao, len, cap, hc.at e1 (fun e => e), fun ⟨j, o', x, ho', hx, hl⟩ => ?_⟩
    rcases hold j o' ho' hl with rfl | hl
    · rw [ho] at ho'; cases ho'; exact absurd hx (hop _ _)
    · exact (e2 ⟨j, o', x, ho', hx, hl⟩).chg hc (fun _ _ _ e => e) (fun _ h => h)
  · obtain ⟨k, nm, ao, len, cap, e1, e2⟩ := h.r3
    refine ⟨k, nm, ao, len, cap, hc.at e1 (fun e => e), fun ⟨j, o', x, ho', hx, hl⟩ => ?_⟩
    rcases hold j o' ho' hl with rfl | hl
    · rw [ho] at ho'; cases ho'; exact absurd hx (hop _ _)
    · exact (e2 ⟨j, o', x, ho', hx, hl⟩).chg hc (fun _ _ _ e => e) (fun _ h => h)
theorem put_none (a : Act) (v : Value) : a.put none v = a := rfl
theorem CInv.store2 (h : CInv ops ann pt t2 t3 B lo w0 listed a w) {x : Nat} (ho : ops[i]? = some o) (hop : o.op = .store 24 (.tmp 2) (.tmp x)) (hd : o.dst = none) {k : Int} {nm : ByteArray} {ao : Option Addr} {len cap : Nat} (hF : Fresh (Ge lo) w t2 (.agg #[.int .i64 k, .string nm, .slice ao len cap])) :
    CInv ops ann pt t2 t3 B lo w0 (listed.setIfInBounds i true) (a.put o.dst undef) (((w.setCell ⟨B, 0, none⟩ (.int .i64 k)).setCell ⟨B, 1, none⟩ (.string nm)).setCell ⟨B, 2, none⟩ (.slice ao len cap)) := by
  rw [hd, put_none]
  have hlo := h.lo2
  have k3 := chg_three w B (.int .i64 k) (.string nm) (.slice ao len cap)
  have kF : ∀ {t : T} {v : Value}, Fresh (Ge lo) w t v → Fresh (Ge lo) (((w.setCell ⟨B, 0, none⟩ (.int .i64 k)).setCell ⟨B, 1, none⟩ (.string nm)).setCell ⟨B, 2, none⟩ (.slice ao len cap)) t v := fun hf => hf.chg k3 (fun b hb _ e => by have e : b = B := e; unfold Ge at hb; omega) (fun _ h => h)
  have hold : ∀ j o', ops[j]? = some o' → (listed.setIfInBounds i true).getD j false = true → j = i ∨ listed.getD j false = true := fun j o' _ hl => by
    by_cases hj : j = i
    · exact .inl hj
    · rw [getD_set_ne false (Ne.symm hj)] at hl; exact .inr hl
  refine ⟨h.size, h.defers, h.s2, h.s3, h.lo2, h.chg.trans k3 (fun _ _ e => .inl e), ?_, ?_, ?_, ?_⟩
  · intro p t hp
    obtain ⟨b, k, nm, ao, len, cap, e1, e2, e3, e4, e5⟩ := h.pts p t hp
    exact ⟨b, k, nm, ao, len, cap, e1, e2, e3, k3.at e4 e2, kF e5⟩
  · intro j o' d' ho' hl hd'
    rcases hold j o' ho' hl with rfl | hl
    · rw [ho] at ho'; cases ho'; rw [hd] at hd'; cases hd'
    · obtain ⟨A', v', e1, e2, e3⟩ := h.done j o' d' ho' hl hd'
      exact ⟨A', v', e1, e2, e3.chg k3 (fun b e => by have e : b = B := e; omega)⟩
  · obtain ⟨k', nm', ao', len', cap', e1, _⟩ := h.r2
    exact ⟨k, nm, ao, len, cap, block_three_all e1 _ _ _, fun _ => kF hF⟩
  · obtain ⟨k', nm', ao', len', cap', e1, e2⟩ := h.r3
    refine ⟨k', nm', ao', len', cap', k3.at e1 (fun e => by have e : B + 1 = B := e; omega), fun ⟨j, o', x, ho', hx, hl⟩ => ?_⟩
    rcases hold j o' ho' hl with rfl | hl
    · rw [ho] at ho'; cases ho'; rw [hop] at hx; cases hx
    · exact kF (e2 ⟨j, o', x, ho', hx, hl⟩)
theorem CInv.store3 (h : CInv ops ann pt t2 t3 B lo w0 listed a w) {x : Nat} (ho : ops[i]? = some o) (hop : o.op = .store 24 (.tmp 3) (.tmp x)) (hd : o.dst = none) {k : Int} {nm : ByteArray} {ao : Option Addr} {len cap : Nat} (hF : Fresh (Ge lo) w t3 (.agg #[.int .i64 k, .string nm, .slice ao len cap])) :
    CInv ops ann pt t2 t3 B lo w0 (listed.setIfInBounds i true) (a.put o.dst undef) (((w.setCell ⟨B + 1, 0, none⟩ (.int .i64 k)).setCell ⟨B + 1, 1, none⟩ (.string nm)).setCell ⟨B + 1, 2, none⟩ (.slice ao len cap)) := by
  rw [hd, put_none]
  have hlo := h.lo2
  have k3 := chg_three w (B + 1) (.int .i64 k) (.string nm) (.slice ao len cap)
  have kF : ∀ {t : T} {v : Value}, Fresh (Ge lo) w t v → Fresh (Ge lo) (((w.setCell ⟨B + 1, 0, none⟩ (.int .i64 k)).setCell ⟨B + 1, 1, none⟩ (.string nm)).setCell ⟨B + 1, 2, none⟩ (.slice ao len cap)) t v := fun hf => hf.chg k3 (fun b hb _ e => by have e : b = B + 1 := e; unfold Ge at hb; omega) (fun _ h => h)
  have hold : ∀ j o', ops[j]? = some o' → (listed.setIfInBounds i true).getD j false = true → j = i ∨ listed.getD j false = true := fun j o' _ hl => by
    by_cases hj : j = i
    · exact .inl hj
    · rw [getD_set_ne false (Ne.symm hj)] at hl; exact .inr hl
  refine ⟨h.size, h.defers, h.s2, h.s3, h.lo2, h.chg.trans k3 (fun _ _ e => .inr e), ?_, ?_, ?_, ?_⟩
  · intro p t hp
    obtain ⟨b, k, nm, ao, len, cap, e1, e2, e3, e4, e5⟩ := h.pts p t hp
    exact ⟨b, k, nm, ao, len, cap, e1, e2, e3, k3.at e4 e3, kF e5⟩
  · intro j o' d' ho' hl hd'
    rcases hold j o' ho' hl with rfl | hl
    · rw [ho] at ho'; cases ho'; rw [hd] at hd'; cases hd'
    · obtain ⟨A', v', e1, e2, e3⟩ := h.done j o' d' ho' hl hd'
      exact ⟨A', v', e1, e2, e3.chg k3 (fun b e => by have e : b = B + 1 := e; omega)⟩
  · obtain ⟨k', nm', ao', len', cap', e1, e2⟩ := h.r2
    refine ⟨k', nm', ao', len', cap', k3.at e1 (fun e => by have e : B = B + 1 := e; omega), fun ⟨j, o', x, ho', hx, hl⟩ => ?_⟩
    rcases hold j o' ho' hl with rfl | hl
    · rw [ho] at ho'; cases ho'; rw [hop] at hx; cases hx
    · exact kF (e2 ⟨j, o', x, ho', hx, hl⟩)
  · obtain ⟨k', nm', ao', len', cap', e1, _⟩ := h.r3
    exact ⟨k, nm, ao, len, cap, block_three_all e1 _ _ _, fun _ => kF hF⟩
/-- One operation. -/
theorem CInv.step {Q : Exit → Act → World → Prop} (hpt : ∀ p t, pt p = some t → ann p = none) (h2 : ann 2 = none) (h3 : ann 3 = none) (hlt : ∀ d A, ann d = some A → d < 174) (hgd : o.guard = none) (hlo : lo ≤ w0.heap.size)
    (hg : OpGood ops ann pt t2 t3 o) (ho : ops[i]? = some o) (hdep : ∀ e ∈ o.after, Region.binds .any e = true → listed.getD e.on false = true) (h : CInv ops ann pt t2 t3 B lo w0 listed a w) :
    wpOp Tryz.prog ops Q i (CInv ops ann pt t2 t3 B lo w0 (listed.setIfInBounds i true)) a w := by
  refine wpOp_step ho (fun K hK => ?_)
  have hw : Region.wanted o (yielded ops a.tmps) = true := by unfold Region.wanted; rw [hgd]
  rw [if_pos hw]
  have hlw : lo ≤ w.heap.size := Nat.le_trans hlo h.chg.size
  cases hg with
  | load d p t hop hd hp hA =>
    obtain ⟨b, k, nm, ao, len, cap, e1, e2, e3, e4, e5⟩ := h.pts p t hp
    exact wp_load37 hop e1 e4 (hK _ _ (h.put hpt h2 h3 hlt (Chg.refl _ _) ho hd hA ⟨k, nm, ao, len, cap, rfl, e5⟩ (fun _ _ e => by rw [hop] at e; cases e)))
  | one d x t hop hd hx hdx hA =>
    obtain ⟨v, e1, k, nm, ao, len, cap, rfl, e2⟩ := h.dep hdx hdep hx
    have hc : Chg Nob w (w.alloc (.cells #[.int .i64 k, .string nm, .slice ao len cap] 24)) := (Chg.refl _ _).alloc _
    refine wp_slice1 hop e1 (hK _ _ (h.put hpt h2 h3 hlt hc ho hd hA ⟨w.heap.size, _, rfl, hlw, heap_alloc_new w _, by simp, ?_⟩ (fun _ _ e => by rw [hop] at e; cases e)))
    rw [FreshL, FreshL]
    exact ⟨e2.chg hc (fun _ _ _ e => e) (fun _ h => h), trivial⟩
  | two d x y t u hop hd hx hdx hy hdy hA =>
    obtain ⟨v, e1, k, nm, ao, len, cap, rfl, e2⟩ := h.dep hdx hdep hx
    obtain ⟨v, f1, k', nm', ao', len', cap', rfl, f2⟩ := h.dep hdy hdep hy
    have hc : Chg Nob w (w.alloc (.cells #[.int .i64 k, .string nm, .slice ao len cap, .int .i64 k', .string nm', .slice ao' len' cap'] 24)) := (Chg.refl _ _).alloc _
    refine wp_slice2 hop e1 f1 (hK _ _ (h.put hpt h2 h3 hlt hc ho hd hA ⟨w.heap.size, _, rfl, hlw, heap_alloc_new w _, by simp, ?_⟩ (fun _ _ e => by rw [hop] at e; cases e)))
    rw [FreshL, FreshL, FreshL]
    exact ⟨e2.chg hc (fun _ _ _ e => e) (fun _ h => h), f2.chg hc (fun _ _ _ e => e) (fun _ h => h), trivial⟩
  | part d s k ts hop hd hs hds hA =>
    obtain ⟨v, e1, b, cs, rfl, e2, e3, e4, e5⟩ := h.dep hds hdep hs
    refine wp_part hop e1 (fun w' hc => hK _ _ (h.put hpt h2 h3 hlt hc ho hd hA ⟨k, ⟨#[]⟩, _, _, _, rfl, ?_⟩ (fun _ _ e => by rw [hop] at e; cases e)))
    rw [Fresh]
    exact .inr ⟨b, cs, e2, rfl, hc.at e3 (fun e => e), e4, FreshL.chg hc (fun _ _ _ e => e) (fun _ h => h) _ _ e5⟩
  | store2 x hop hd hx hdx =>
    obtain ⟨v, e1, k, nm, ao, len, cap, rfl, e2⟩ := h.dep hdx hdep hx
    obtain ⟨k', nm', ao', len', cap', f1, _⟩ := h.r2
    exact wp_store37 hop h.s2 f1 e1 (hK _ _ (h.store2 ho hop hd e2))
  | store3 x hop hd hx hdx =>
    obtain ⟨v, e1, k, nm, ao, len, cap, rfl, e2⟩ := h.dep hdx hdep hx
    obtain ⟨k', nm', ao', len', cap', f1, _⟩ := h.r3
    exact wp_store37 hop h.s3 f1 e1 (hK _ _ (h.store3 ho hop hd e2))
end
/-- Each of a row of operations. -/
inductive AllOps (p : Oper → Prop) : List Oper → Prop where
  | nil : AllOps p []
  | cons {o : Oper} {l : List Oper} : p o → AllOps p l → AllOps p (o :: l)
theorem AllOps.at {p : Oper → Prop} : ∀ {l : List Oper}, AllOps p l → ∀ (i : Nat) (o : Oper), l[i]? = some o → p o
  | _, .nil, i, o, h => by simp at h
  | _, .cons h0 hl, i, o, h => by
    cases i with
    | zero => simp at h; subst h; exact h0
    | succ i => exact hl.at i o (by simpa using h)
def backB (l : List Oper) : Bool := (List.range l.length).all fun i => match l[i]? with
  | some o => o.after.all fun e => !Region.binds .any e || decide (e.on < i)
  | none => true
/-- What is left when all is done. -/
structure CEnd (t2 t3 : T) (B lo : Nat) (w0 : World) (a : Act) (w : World) : Prop where
  defers : a.defers = []
  s2 : a.tmps[2]? = some (.pointer (some ⟨B, 0, none⟩))
  s3 : a.tmps[3]? = some (.pointer (some ⟨B + 1, 0, none⟩))
  chg : Chg (fun b => b = B ∨ b = B + 1) w0 w
  r2 : ∃ k nm ao len cap, w.heap[B]? = some (.cells #[.int .i64 k, .string nm, .slice ao len cap] 24 (0, 0)) ∧ Fresh (Ge lo) w t2 (.agg #[.int .i64 k, .string nm, .slice ao len cap])
  r3 : ∃ k nm ao len cap, w.heap[B + 1]? = some (.cells #[.int .i64 k, .string nm, .slice ao len cap] 24 (0, 0)) ∧ Fresh (Ge lo) w t3 (.agg #[.int .i64 k, .string nm, .slice ao len cap])
theorem region_good {l : List Oper} {ann : Nat → Option Ann} {pt : Nat → Option T} {t2 t3 : T} {B lo : Nat} {w : World} {a : Act} {id : Nat} {Q : Exit → Act → World → Prop} (hm : Tryz.prog.follows .mixedOrders = true)
    (hpt : ∀ p t, pt p = some t → ann p = none) (h2 : ann 2 = none) (h3 : ann 3 = none) (hlt : ∀ d A, ann d = some A → d < 174) (hlo : lo ≤ w.heap.size) (hback : backB l = true)
    (hops : AllOps (fun o => o.guard = none ∧ OpGood l.toArray ann pt t2 t3 o) l) (x2 : ∃ (j : Nat) (o : Oper) (x : Nat), l[j]? = some o ∧ o.op = .store 24 (.tmp 2) (.tmp x)) (j2 : ∃ (j : Nat) (o : Oper) (x : Nat), l[j]? = some o ∧ o.op = .store 24 (.tmp 3) (.tmp x))
    (h : CInv l.toArray ann pt t2 t3 B lo w.drew (Array.replicate l.toArray.size false) a w.drew)
    (hQ : ∀ a' w', CEnd t2 t3 B lo w.drew a' w' → Q .normal a' w') : (Code.region id l.toArray true).wp Tryz.prog Q a w := by
  refine wp_region_any hm ?_
  have hback' : ∀ (i : Nat) (o : Oper), l.toArray[i]? = some o → ∀ e ∈ o.after, Region.binds .any e = true → e.on < i := by
    intro i o ho e he hb
    have ho : l[i]? = some o := by simpa using ho
    unfold backB at hback
    rw [List.all_eq_true] at hback
    have := hback i (List.mem_range.2 (List.getElem?_eq_some_iff.1 ho).1)
    rw [ho] at this
    have := Array.all_eq_true_iff_forall_mem.1 this e he
    rw [hb] at this
    simpa using this
  refine wpAny_inv (CInv l.toArray ann pt t2 t3 B lo w.drew) hback' (fun listed a w' i o ho hdep hI => ?_) (fun listed a w' hall hI => ?_) _ _ _ _ (by rw [Array.size_replicate]) unlisted_all h
  · have ho' : l[i]? = some o := by simpa using ho
    obtain ⟨hg, hop⟩ := hops.at i o ho'
    exact hI.step hpt h2 h3 hlt hg hlo hop ho hdep
  · refine hQ a w' ⟨hI.defers, hI.s2, hI.s3, hI.chg, ?_, ?_⟩
    · obtain ⟨k, nm, ao, len, cap, e1, e2⟩ := hI.r2
      obtain ⟨j, o, x, ho, hx⟩ := x2
      exact ⟨k, nm, ao, len, cap, e1, e2 ⟨j, o, x, by simpa using ho, hx, hall j (by have := (List.getElem?_eq_some_iff.1 ho).1; simpa using this)⟩⟩
    · obtain ⟨k, nm, ao, len, cap, e1, e2⟩ := hI.r3
      obtain ⟨j, o, x, ho, hx⟩ := j2
      exact ⟨k, nm, ao, len, cap, e1, e2 ⟨j, o, x, by simpa using ho, hx, hall j (by have := (List.getElem?_eq_some_iff.1 ho).1; simpa using this)⟩⟩
end Go.Proofs.YtkgfdgfhpdhhaaaGreat
