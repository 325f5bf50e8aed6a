/- The reader's levels together; what ltl.Parse does with what is thrown. Conditions: as each theorem states. -/
import Derived.Test.YtkgfdgfhpdhhaaaGreatLevLoop
import Derived.Test.YtkgfdgfhpdhhaaaGreatLevUntil
import Derived.Test.YtkgfdgfhpdhhaaaGreatLevUnary
import Derived.Defers
import Derived.Recover
import Derived.Laws.Pointers
import Derived.WideLaws
import Derived.BigRegion
namespace Go.Proofs.YtkgfdgfhpdhhaaaGreat
open Go.ChangeShapes Go.WideShapes Go.ChangeAt Go.RowKit

theorem levels_any : ∀ (N : Nat) (L : List Tok), L.length ≤ N → Ends L → LevC 71 0 L ∧ LevC 202 4 L ∧ LevC 205 5 L ∧ LevC 123 1 L ∧ LevC 190 3 L := by
  intro N
  induction N with
  | zero => intro L hL hE; obtain ⟨x, r, rfl⟩ := hE.cons; simp at hL
  | succ N ih =>
    intro L hL hE
    have ih := fun L' (h : L'.length < L.length) hE' => ih L' (by omega) hE'
    have h5 := unary_any L hE (fun L' h hE' => (ih L' h hE').2.2.1) (fun L' h hE' => (ih L' h hE').1)
    have h4 := until_any L hE h5 (fun L' h hE' => (ih L' h hE').2.1)
    have h3 := and_any L hE h4 (fun L' h hE' => (ih L' h hE').2.1)
    have h2 := or_any L hE h3 (fun L' h hE' => (ih L' h hE').2.2.2.2)
    have h1 := implies_any L hE h2 (fun L' h hE' => (ih L' h hE').2.2.2.1)
    have h0 := iff_any L hE h1 (fun L' h hE' => (ih L' h hE').1)
    exact ⟨h0, h4, h5, h1, h3⟩

set_option maxRecDepth 100000 in
set_option maxHeartbeats 1000000 in
theorem pcatch_idle (p q : Addr) (w : World) :
    CallsD Tryz.prog 68 #[.pointer (some p), .pointer (some q)] .returning w fun e u' w' => e = .returned (.tuple #[]) ∧ u' = .returning ∧ w' = w := by
  have h20 : Tryz.prog.underlying 20 = some (.interface (Tryz.prog.methodsAt 20)) := by kernel_rfl
  have hne : ∀ w : World, (Go.binOp .neq 20 .nilIface .nilIface).run Tryz.prog w = .ok (.bool false) w := fun w => Go.run_neq_nil_nil w 20 h20
  refine callsD_of_wpS Tryz.func68 rfl fun c₀ cs hu => ?_
  apply wpS_seq
  apply wpS_region
  simp [wpOpsS, go_sem, recoverD, hu, Tryz.ntmps68, Exit.thenS]
  simp only [Array.replicate_succ, Array.replicate_zero, List.push_toArray, List.append_toArray, List.nil_append, List.cons_append, List.setIfInBounds_toArray, List.set_cons_succ, List.set_cons_zero]
  refine wpS_of_wp ?_
  go_wp2
  cases c₀
  simp_all [bodyPostS, results, Tryz.results68]

set_option maxRecDepth 100000 in
set_option maxHeartbeats 1000000 in
theorem pcatch_stop (p q : Nat) (c z : Int) (a0 a1 a2 m0 m1 : Value) (w : World) (hp : w.heap[p]? = some (.cells #[a0, a1, a2] 24)) (hq : w.heap[q]? = some (.cells #[m0, m1] 83)) (hpq : p ≠ q) :
    CallsD Tryz.prog 68 #[.pointer (some ⟨p, 0, none⟩), .pointer (some ⟨q, 0, none⟩)] (.panicking (stopE c z)) w fun e u' w' =>
      e = .returned (.tuple #[]) ∧ u' = .panicking [{ v := .iface 112 (.agg #[.int .i64 c, .int .i64 z]), recovered := true }] ∧
        Chg (fun k => k = p ∨ k = q) w w' ∧ w'.heap[p]? = some (.cells #[.int .i64 0, .string ⟨#[]⟩, .slice none 0 0] 24) ∧ w'.heap[q]? = some (.cells #[.int .i64 c, .int .i64 z] 83) := by
  have hta : ∀ w : World, (Instr.typeAssert (.iface 112 (.agg #[.int .i64 c, .int .i64 z])) 20 112 true).run Tryz.prog w = .ok (.tuple #[.agg #[.int .i64 c, .int .i64 z], .bool true]) w := fun _ => by kernel_rfl
  have h20 : Tryz.prog.underlying 20 = some (.interface (Tryz.prog.methodsAt 20)) := by kernel_rfl
  have hne : ∀ w : World, (Go.binOp .neq 20 (.iface 112 (.agg #[.int .i64 c, .int .i64 z])) .nilIface).run Tryz.prog w = .ok (.bool true) w := fun w => Go.run_neq_held_nil w 20 112 _ h20
  have hp1 := ((Chg.refl Nob w).alloc (.cells #[.int .i64 c, .int .i64 z] 112)).at hp (fun e => e)
  have hq1 := ((Chg.refl Nob w).alloc (.cells #[.int .i64 c, .int .i64 z] 112)).at hq (fun e => e)
  have ht1 := heap_alloc_new w (.cells #[.int .i64 c, .int .i64 z] 112)
  have hpl := (Array.getElem?_eq_some_iff.1 hp).1
  have hql := (Array.getElem?_eq_some_iff.1 hq).1
  have hc1 : Chg Nob w (w.alloc (.cells #[.int .i64 c, .int .i64 z] 112)) := (Chg.refl _ _).alloc _
  clear hp hq
  refine callsD_of_wpS Tryz.func68 rfl fun c₀ cs hu => ?_
  apply wpS_seq
  apply wpS_region
  unfold stopE at hu
  simp [wpOpsS, go_sem, recoverD, hu, Tryz.ntmps68, Exit.thenS]
  simp only [Array.replicate_succ, Array.replicate_zero, List.push_toArray, List.append_toArray, List.nil_append, List.cons_append, List.setIfInBounds_toArray, List.set_cons_succ, List.set_cons_zero]
  refine wpS_of_wp ?_
  go_wp2
  generalize w.alloc (.cells #[.int .i64 c, .int .i64 z] 112) = W1 at *
  obtain ⟨c0, c1, c2, f0, f1, f2⟩ := cells_three hp1
  obtain ⟨d0, d1, g0, g1⟩ := cell_two hq1
  obtain ⟨e0, e1, _⟩ := cell_two ht1
  have hn1 : w.heap.size ≠ p := by omega
  have hn2 : w.heap.size ≠ q := by omega
  have hn3 : q ≠ p := fun e => hpq e.symm
  go_region
  cases c₀
  have hcF : Chg (fun k => k = p ∨ k = q) w (((((W1.setCell ⟨p, 0, none⟩ (.int .i64 0)).setCell ⟨p, 1, none⟩ (.string ⟨#[]⟩)).setCell ⟨p, 2, none⟩ (.slice none 0 0)).setCell ⟨q, 0, none⟩ (.int .i64 c)).setCell ⟨q, 1, none⟩ (.int .i64 z)).drew :=
    ((((((hc1.any (S := fun k => k = p ∨ k = q)).setCell (p := ⟨p, 0, none⟩) (fun _ => .inl rfl) _).setCell (p := ⟨p, 1, none⟩) (fun _ => .inl rfl) _).setCell (p := ⟨p, 2, none⟩) (fun _ => .inl rfl) _).setCell (p := ⟨q, 0, none⟩) (fun _ => .inr rfl) _).setCell (p := ⟨q, 1, none⟩) (fun _ => .inr rfl) _).drew
  have h3 := block_three_all hp1 (.int .i64 0) (.string ⟨#[]⟩) (.slice none 0 0)
  have k3 := (chg_three W1 p (.int .i64 0) (.string ⟨#[]⟩) (.slice none 0 0)).at hq1 hn3
  have h5 := (((Chg.refl (At1 q) (((W1.setCell ⟨p, 0, none⟩ (.int .i64 0)).setCell ⟨p, 1, none⟩ (.string ⟨#[]⟩)).setCell ⟨p, 2, none⟩ (.slice none 0 0))).setCell (p := ⟨q, 0, none⟩) (fun _ => rfl) (.int .i64 c)).setCell (p := ⟨q, 1, none⟩) (fun _ => rfl) (.int .i64 z)).at h3 hpq
  have k5 := block_two_set1 (u := .int .i64 z) (block_two_set0 (u := .int .i64 c) k3)
  exact ⟨rfl, _, rfl, .tuple #[], by simp [results, Tryz.results68], rfl, rfl, hcF, h5, k5⟩
end Go.Proofs.YtkgfdgfhpdhhaaaGreat
