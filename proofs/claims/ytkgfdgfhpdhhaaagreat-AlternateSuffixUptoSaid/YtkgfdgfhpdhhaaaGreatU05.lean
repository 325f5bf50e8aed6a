/- Parts of the walks and of the plain theory: The reader's levels together; what ltl.Parse does with what is thrown. Conditions: as each theorem states. -/
import Derived.Test.YtkgfdgfhpdhhaaaGreatU04
import Derived.Defers
import Derived.Recover
import Derived.Laws.Pointers
import Derived.WideLaws
import Derived.BigRegion
import Derived.Lib.Builder
import Derived.Lib.UnsafeStr
import Derived.RegionTactic
import Derived.Laws.Externs
import Derived.Deep.RegionWith
import Derived.Deep.RegionHeld3
namespace Go.Proofs.YtkgfdgfhpdhhaaaGreat
open Go.ChangeShapes Go.WideShapes Go.ChangeAt Go.RowKit
set_option maxRecDepth 100000 in
set_option maxHeartbeats 1000000 in
theorem pcatch_stop (p q : Nat) (c z : Int) (a0 a1 a2 m0 m1 : Value) (w : World) (hp : w.heap[p]? = some (.cells #[a0, a1, a2] 24)) (hq : w.heap[q]? = some (.cells #[m0, m1] 83)) (hpq : p ≠ q) :
    CallsD Tryz.prog 68 #[.pointer (some ⟨p, 0, none⟩), .pointer (some ⟨q, 0, none⟩)] (.panicking (stopE c z)) w fun e u' w' =>
      e = .returned (.tuple #[]) ∧ u' = .panicking [{ v := .iface 112 (.agg #[.int .i64 c, .int .i64 z]), recovered := true }] ∧
        Chg (fun k => k = p ∨ k = q) w w' ∧ w'.heap[p]? = some (.cells #[.int .i64 0, .string ⟨#[]⟩, .slice none 0 0] 24) ∧ w'.heap[q]? = some (.cells #[.int .i64 c, .int .i64 z] 83) := by
  have hta : ∀ w : World, (Instr.typeAssert (.iface 112 (.agg #[.int .i64 c, .int .i64 z])) 20 112 true).run Tryz.prog w = .ok (.tuple #[.agg #[.int .i64 c, .int .i64 z], .bool true]) w := fun _ => by kernel_rfl
  have h20 : Tryz.prog.underlying 20 = some (.interface (Tryz.prog.methodsAt 20)) := by kernel_rfl
  have hne : ∀ w : World, (Go.binOp .neq 20 (.iface 112 (.agg #[.int .i64 c, .int .i64 z])) .nilIface).run Tryz.prog w = .ok (.bool true) w := fun w => Go.run_neq_held_nil w 20 112 _ h20
  have hp1 := ((Chg.refl Nob w).alloc (.cells #[.int .i64 c, .int .i64 z] 112)).at hp (fun e => e)
  have hq1 := ((Chg.refl Nob w).alloc (.cells #[.int .i64 c, .int .i64 z] 112)).at hq (fun e => e)
  have ht1 := heap_alloc_new w (.cells #[.int .i64 c, .int .i64 z] 112)
  have hpl := (Array.getElem?_eq_some_iff.1 hp).1
  have hql := (Array.getElem?_eq_some_iff.1 hq).1
  have hc1 : Chg Nob w (w.alloc (.cells #[.int .i64 c, .int .i64 z] 112)) := (Chg.refl _ _).alloc _
  clear hp hq
  refine callsD_of_wpS Tryz.func68 rfl fun c₀ cs hu => ?_
  apply wpS_seq
  apply wpS_region
  unfold stopE at hu
  simp [wpOpsS, go_sem, recoverD, hu, Tryz.ntmps68, Exit.thenS]
  simp only [Array.replicate_succ, Array.replicate_zero, List.push_toArray, List.append_toArray, List.nil_append, List.cons_append, List.setIfInBounds_toArray, List.set_cons_succ, List.set_cons_zero]
  refine wpS_of_wp ?_
  go_wp2
  generalize w.alloc (.cells #[.int .i64 c, .int .i64 z] 112) = W1 at *
  obtain ⟨c0, c1, c2, f0, f1, f2⟩ := cells_three hp1
  obtain ⟨d0, d1, g0, g1⟩ := cell_two hq1
  obtain ⟨e0, e1, _⟩ := cell_two ht1
  have hn1 : w.heap.size ≠ p := by omega
  have hn2 : w.heap.size ≠ q := by omega
  have hn3 : q ≠ p := fun e => hpq e.symm
  go_region
  cases c₀
  have hcF : Chg (fun k => k = p ∨ k = q) w (((((W1.setCell ⟨p, 0, none⟩ (.int .i64 0)).setCell ⟨p, 1, none⟩ (.string ⟨#[]⟩)).setCell ⟨p, 2, none⟩ (.slice none 0 0)).setCell ⟨q, 0, none⟩ (.int .i64 c)).setCell ⟨q, 1, none⟩ (.int .i64 z)).drew :=
    ((((((hc1.any (S := fun k => k = p ∨ k = q)).setCell (p := ⟨p, 0, none⟩) (fun _ => .inl rfl) _).setCell (p := ⟨p, 1, none⟩) (fun _ => .inl rfl) _).setCell (p := ⟨p, 2, none⟩) (fun _ => .inl rfl) _).setCell (p := ⟨q, 0, none⟩) (fun _ => .inr rfl) _).setCell (p := ⟨q, 1, none⟩) (fun _ => .inr rfl) _).drew
  have h3 := block_three_all hp1 (.int .i64 0) (.string ⟨#[]⟩) (.slice none 0 0)
  have k3 := (chg_three W1 p (.int .i64 0) (.string ⟨#[]⟩) (.slice none 0 0)).at hq1 hn3
  have h5 := (((Chg.refl (At1 q) (((W1.setCell ⟨p, 0, none⟩ (.int .i64 0)).setCell ⟨p, 1, none⟩ (.string ⟨#[]⟩)).setCell ⟨p, 2, none⟩ (.slice none 0 0))).setCell (p := ⟨q, 0, none⟩) (fun _ => rfl) (.int .i64 c)).setCell (p := ⟨q, 1, none⟩) (fun _ => rfl) (.int .i64 z)).at h3 hpq
  have k5 := block_two_set1 (u := .int .i64 z) (block_two_set0 (u := .int .i64 c) k3)
  exact ⟨rfl, _, rfl, .tuple #[], by simp [results, Tryz.results68], rfl, rfl, hcF, h5, k5⟩
end Go.Proofs.YtkgfdgfhpdhhaaaGreat
namespace Go.Proofs.YtkgfdgfhpdhhaaaGreat
open Go.ChangeShapes Go.WideShapes Go.ChangeAt Go.RowKit
def ParseEnd (lo : Nat) (w' : World) (e : Ending) : Res → Prop
  | .ok t => ∃ v, Fresh (Ge lo) w' t v ∧ e = .returned (.tuple #[v, .agg #[.int .i64 0, .int .i64 0]])
  | .err x => e = .returned (.tuple #[.agg #[.int .i64 0, .string ⟨#[]⟩, .slice none 0 0], .agg #[.int .i64 x.1, .int .i64 x.2]])
def ParsePost (s : List UInt8) (w : World) (e : Ending) (w' : World) : Prop := Chg Nob w w' ∧ ∃ r, PR s r ∧ ParseEnd w.heap.size w' e r
set_option maxRecDepth 100000 in
theorem results25 {B : Nat} {tm : Array Value} {w : World} {a0 a1 a2 m0 m1 : Value} (h2 : tm[2]? = some (.pointer (some ⟨B, 0, none⟩))) (h3 : tm[3]? = some (.pointer (some ⟨B + 1, 0, none⟩))) (hb : w.heap[B]? = some (.cells #[a0, a1, a2] 24)) (hb1 : w.heap[B + 1]? = some (.cells #[m0, m1] 83)) :
    (results Tryz.f42 tm).run Tryz.prog w = .ok (.tuple #[.agg #[a0, a1, a2], .agg #[m0, m1]]) w := by
  obtain ⟨c0, c1, c2, _⟩ := cells_three hb
  obtain ⟨d0, d1, _⟩ := cell_two hb1
  simp [results, Tryz.results42, go_sem, h2, h3, c0, c1, c2, d0, d1]
theorem thrown {s : List UInt8} {w wr : World} {B : Nat} {c z : Int} {y : Int × Nat} {tm : Array Value} (hp : PR s (.err y)) (hc1 : c = y.1) (hz1 : z = y.2) (hB : B = w.heap.size) (hc : Chg Nob w wr) (hb : ∃ a0 a1 a2, wr.heap[B]? = some (.cells #[a0, a1, a2] 24)) (hb1 : ∃ m0 m1, wr.heap[B + 1]? = some (.cells #[m0, m1] 83))
    (h2 : tm[2]? = some (.pointer (some ⟨B, 0, none⟩))) (h3 : tm[3]? = some (.pointer (some ⟨B + 1, 0, none⟩))) :
    bodyPostD Tryz.prog Tryz.f42 (ParsePost s w) (Exit.panic (stopE c z)) { tmps := tm, defers := [{ target := .fn (.func 68) #[.pointer (some ⟨B, 0, none⟩), .pointer (some ⟨B + 1, 0, none⟩)], args := #[] }] } wr := by
  obtain ⟨a0, a1, a2, hb⟩ := hb
  obtain ⟨m0, m1, hb1⟩ := hb1
  subst hc1 hz1
  refine leaves_cons (f := 68) (args := #[.pointer (some ⟨B, 0, none⟩), .pointer (some ⟨B + 1, 0, none⟩)]) (by simp) (by simp [go_sem]) ?_
  refine (pcatch_stop B (B + 1) _ _ a0 a1 a2 m0 m1 _ hb hb1 (by omega)).mono ?_
  rintro e u' w'' ⟨rfl, rfl, hc2, hb2, hb3⟩
  exact ⟨_, results25 h2 h3 hb2 hb3, hc.trans hc2 (fun i hi e => by rcases e with e | e <;> omega), .err y, hp, rfl⟩
end Go.Proofs.YtkgfdgfhpdhhaaaGreat
namespace Go.Proofs.YtkgfdgfhpdhhaaaGreat
open Go.ChangeShapes Go.WideShapes Go.RowKit
end Go.Proofs.YtkgfdgfhpdhhaaaGreat
namespace Go.Proofs.YtkgfdgfhpdhhaaaGreat
open Go.ChangeShapes Go.WideShapes Go.RowKit
end Go.Proofs.YtkgfdgfhpdhhaaaGreat
namespace Go.Proofs.YtkgfdgfhpdhhaaaGreat
open Go.ChangeShapes Go.WideShapes Go.RowKit Go.Shelf Go.Sort
attribute [local go_sem] Oper.semAt_some
def nodeOk (t : T) : Bool := okNode t.kind t.name t.kids.length
mutual
theorem mayT_allT : ∀ t : T, mayT t = (allT t).all nodeOk
  | .node k nm kids => by
    rw [mayT, allT, List.all_cons, mayL_allL]; rfl
theorem mayL_allL : ∀ l : List T, mayL l = (allL l).all nodeOk
  | [] => by rw [mayL, allL]; rfl
  | t :: ts => by rw [mayL, allL, List.all_append, mayT_allT, mayL_allL]
end
set_option maxRecDepth 100000 in
theorem results68 {rb : Nat} {tm : Array Value} {w : World} {x : Bool} (h2 : tm[2]? = some (.pointer (some ⟨rb, 0, none⟩))) (hb : w.heap[rb]? = some (.cells #[.bool x] 4 (0, 0))) : (results Tryz.f82 tm).run Tryz.prog w = .ok (.bool x) w := by
  have c0 := cell_row hb 0 (v := .bool x) rfl
  simp [results, Tryz.results82, go_sem, h2, c0]
set_option maxRecDepth 100000 in
set_option maxHeartbeats 4000000 in
theorem made_any (R : Nat → Prop) (t : T) (v : Value) (w : World) (ht : IsTree R w t v) (hN : sizeT t ≤ 1000000) (hR : ∀ b, R b → b < w.heap.size) :
    Calls Tryz.prog 82 #[v] w fun e w' => e = .returned (.bool (mayT t)) ∧ Chg Nob w w' := by
  obtain ⟨a, b, c, hv⟩ := ht.agg
  have Ht := Lib.hid ht
  clear ht
  subst hv
  refine (callsIn_wide (n := 5)).1 (callsIn_of_wp_marks Tryz.func82 rfl trivial ?_ rfl)
  simp only [Tryz.ntmps82, List.size_toArray, List.length_cons, List.length_nil, Nat.reduceAdd, Nat.reduceSub, Array.replicate_succ, Array.replicate_zero, List.push_toArray, List.append_toArray, List.nil_append, List.cons_append]
  gi_wp2
  refine ⟨trivial, (callsIn_wide.2 (parts_any (.agg #[a, b, c]) a b c rfl _)).mono ?_⟩
  rintro e w1 ⟨rfl, rfl⟩
  gi_wp2
  have hw2 : Chg Nob w ((w.alloc (.cells #[a, b, c] 24)).alloc (.cells #[.bool false] 4)) := ((Chg.refl _ _).alloc _).alloc _
  have hs2 : ((w.alloc (.cells #[a, b, c] 24)).alloc (.cells #[.bool false] 4)).heap.size = w.heap.size + 1 + 1 := by simp
  have hit := parts_of (n := 4) (by omega) (V0 := fun k => k = w.heap.size + 1) (rfl : Value.agg #[a, b, c] = _) Ht.out hN hR hw2 hs2 (by rintro k rfl; omega)
  have hcnt := heap_alloc_new (w.alloc (.cells #[a, b, c] 24)) (.cells #[.bool false] 4)
  rw [World.size_alloc] at hcnt
  have hcnt3 := ((Chg.refl Nob _).alloc (.cells #[a, b, c] 24)).at hcnt (fun e => e)
  have hw3 : Chg Nob w (((w.alloc (.cells #[a, b, c] 24)).alloc (.cells #[.bool false] 4)).alloc (.cells #[a, b, c] 24)) := hw2.alloc _
  have hs3 : (((w.alloc (.cells #[a, b, c] 24)).alloc (.cells #[.bool false] 4)).alloc (.cells #[a, b, c] 24)).heap.size = w.heap.size + 3 := by simp
  have htr := preT_tree t (.agg #[a, b, c]) (Ht.out.nob hw3)
  have hall := preT_all (((w.alloc (.cells #[a, b, c] 24)).alloc (.cells #[.bool false] 4)).alloc (.cells #[a, b, c] 24)) t (.agg #[a, b, c])
  clear hcnt
  generalize (((w.alloc (.cells #[a, b, c] 24)).alloc (.cells #[.bool false] 4)).alloc (.cells #[a, b, c] 24)) = W3 at *
  have Htr := Lib.hid htr
  have Hall := Lib.hid hall
  clear htr hall
  refine range_iter (E := E9) (n0 := w.heap.size) (gf := 133) (by omega) rfl (enters_of Tryz.func133 (by kernel_rfl) rfl) hit (by rintro k rfl; omega) (fun _ => rfl)
    (fun pre W => W.heap[w.heap.size + 1]? = some (.cells #[.bool false] 4 (0, 0)) ∧ (∀ x ∈ pre, nodeOk x.1 = true) ∧ Chg Nob w W)
    (fun c pre W => c = .ret ∧ W.heap[w.heap.size + 1]? = some (.cells #[.bool false] 4 (0, 0)) ∧ (∃ x ∈ pre, nodeOk x.1 = false) ∧ Chg Nob w W) ?_ ?_ ⟨hcnt3, (fun _ h => by cases h), hw3⟩ ?_ ?_ ?_
  · rintro pre A B ⟨h1, h2, h3⟩ hs
    exact ⟨Chg.at hs h1 (fun e => by have := e.1; omega), h2, chg_steps h3 hs (by omega)⟩
  · rintro c pre A B ⟨h0, h1, h2, h3⟩ hs
    exact ⟨h0, Chg.at hs h1 (fun e => by have := e.1; omega), h2, chg_steps h3 hs (by omega)⟩
  · rintro l pre ⟨x, xv⟩ W ⟨h1, h2, h3⟩ hpre hsz
    have hxm : (x, xv) ∈ preT W3 t (.agg #[a, b, c]) := hpre.subset (by simp)
    have htx : IsTree R W3 x xv := Htr.out _ hxm
    obtain ⟨ao, cap, rfl, hxl, _⟩ := htx.parts
    have Htx := Lib.hid htx
    clear htx hxm
    simp only [zip1, List.setIfInBounds_toArray, List.set_cons_succ, List.set_cons_zero]
    gi_wp2
    refine ⟨Keeps.of_chg ((Chg.refl _ _).alloc _), fun w₂ hc2 hst2 => ?_⟩
    have hbx := Chg.at hc2 (heap_alloc_new W _) (fun e => by have e : W.heap.size = W3.heap.size + 1 := e; omega)
    obtain ⟨c0, c1, c2, _⟩ := cells_three hbx
    have hres := Chg.at hc2 (((Chg.refl Nob W).alloc (.cells #[.int .i64 x.kind, .string ⟨x.name.toArray⟩, .slice ao x.kids.length cap] 24)).at h1 (fun e => e)) (fun e => by have e : w.heap.size + 1 = W3.heap.size + 1 := e; omega)
    have hcw : Chg Nob w w₂ := chg_steps (h3.alloc _) hst2 (by omega)
    have Hno : Hid (nodeOk x = false → ∀ w', Chg Nob w₂ w' → Keeps E9 w.heap.size (fun k => k = w.heap.size + 1) w₂ (w'.setCell ⟨w.heap.size + 1, 0, none⟩ (.bool false)) ∧ Code.ret = Code.ret ∧ (w'.setCell ⟨w.heap.size + 1, 0, none⟩ (.bool false)).heap[w.heap.size + 1]? = some (.cells #[.bool false] 4 (0, 0)) ∧
        (∃ y ∈ pre ++ [(x, Value.agg #[.int .i64 x.kind, .string ⟨x.name.toArray⟩, .slice ao x.kids.length cap])], nodeOk y.1 = false) ∧ Chg Nob w (w'.setCell ⟨w.heap.size + 1, 0, none⟩ (.bool false))) := fun hbad w' hw' => by
      have hset : Chg (fun k => k = w.heap.size + 1) w₂ (w'.setCell ⟨w.heap.size + 1, 0, none⟩ (.bool false)) := (hw'.any (S := fun k => k = w.heap.size + 1)).setCell (p := ⟨w.heap.size + 1, 0, none⟩) (fun _ => rfl) _
      exact ⟨Keeps.of_chg hset, rfl, block_one_set (hw'.at hres (fun e => e)), ⟨_, List.mem_append_right _ List.mem_cons_self, hbad⟩, hcw.trans hset (fun i hi e => by omega)⟩
    have Hyes : Hid (nodeOk x = true → ∀ w', Chg Nob w₂ w' → Keeps E9 w.heap.size (fun k => k = w.heap.size + 1) w₂ w' ∧ w'.heap[w.heap.size + 1]? = some (.cells #[.bool false] 4 (0, 0)) ∧
        (∀ y ∈ pre ++ [(x, Value.agg #[.int .i64 x.kind, .string ⟨x.name.toArray⟩, .slice ao x.kids.length cap])], nodeOk y.1 = true) ∧ Chg Nob w w') := fun hok w' hw' => by
      refine ⟨Keeps.of_chg (hw'.any), hw'.at hres (fun e => e), fun y hy => ?_, hcw.trans1 hw'⟩
      rcases List.mem_append.1 hy with hy | hy
      · exact h2 y hy
      · obtain rfl : y = _ := by simpa using hy
        exact hok
    have Hres := Lib.hid hres
    clear hbx hres hcw hc2 hst2 h1 h2 h3 hit hw2 hs2 hpre hcnt3 hw3 hs3
    have q0 := fun d os => cell_regrown c0 d os
    have q1 := fun d os => cell_regrown c1 d os
    have q2 := fun d os => cell_regrown c2 d os
    have hok : nodeOk x = okNode x.kind x.name x.kids.length := rfl
    rw [hok] at Hno Hyes
    clear hok c0 c1 c2
    cases hA : (kidsOf x.kind == (x.kids.length : Int)) with
    | false =>
      have hA2 : (kidsOf x.kind != (x.kids.length : Int)) = true := by rw [bne, hA]; rfl
      have Hbad : Hid (okNode x.kind x.name x.kids.length = false) := by
        show _ = _
        unfold okNode
        rw [decide_eq_false (beq_eq_false_iff_ne.1 hA)]; rfl
      gi_wp2_with fail
      refine quiet_below_round (by kernel_rfl) (by kernel_rfl) (by kernel_rfl) ?_
      repeat (go_big_quiet_step ((first | (go_at_call 137; exact regrown_same (kids_any _ _)) | (go_at_call 94; exact regrown_chg (isname_any _ _)))))
      refine wpQuiet_nil ?_
      intro _ hw'
      obtain ⟨⟨dq, osq⟩, hw''⟩ := hw'
      subst hw''
      clear q0 q1 q2
      have hcq := Chg.of_below (below_regrown w₂ dq osq)
      generalize grow (redrawn w₂ dq) osq = w5 at *
      have r0 := cell_row (hcq.at Hres.out (fun e => e)) 0 (v := .bool false) rfl
      have r1 : w5.frozen? ⟨w.heap.size + 1, 0, none⟩ = false := by simp [World.frozen?, hcq.at Hres.out (fun e => e)]
      gi_wp2
      exact ⟨(Hno.out Hbad.out w5 hcq).1, rfl, (Hno.out Hbad.out w5 hcq).2.2⟩
    | true =>
      have hA2 : (kidsOf x.kind != (x.kids.length : Int)) = false := by rw [bne, hA]; rfl
      cases h3 : (x.kind == 3) with
      | true =>
        have h32 : (x.kind != 3) = false := by rw [bne, h3]; rfl
        cases hN : nameB x.name with
        | false =>
          have Hbad : Hid (okNode x.kind x.name x.kids.length = false) := by
            show _ = _
            unfold okNode
            rw [if_pos (beq_iff_eq.1 h3), hN]; simp
          gi_wp2_with fail
          refine quiet_below_round (by kernel_rfl) (by kernel_rfl) (by kernel_rfl) ?_
          repeat (go_big_quiet_step ((first | (go_at_call 137; exact regrown_same (kids_any _ _)) | (go_at_call 94; exact regrown_chg (isname_any _ _)))))
          refine wpQuiet_nil ?_
          intro _ hw'
          obtain ⟨⟨dq, osq⟩, hw''⟩ := hw'
          subst hw''
          clear q0 q1 q2
          have hcq := Chg.of_below (below_regrown w₂ dq osq)
          generalize grow (redrawn w₂ dq) osq = w5 at *
          have r0 := cell_row (hcq.at Hres.out (fun e => e)) 0 (v := .bool false) rfl
          have r1 : w5.frozen? ⟨w.heap.size + 1, 0, none⟩ = false := by simp [World.frozen?, hcq.at Hres.out (fun e => e)]
          gi_wp2
          exact ⟨(Hno.out Hbad.out w5 hcq).1, rfl, (Hno.out Hbad.out w5 hcq).2.2⟩
        | true =>
          have Hok : Hid (okNode x.kind x.name x.kids.length = true) := by
            show _ = _
            unfold okNode
            rw [if_pos (beq_iff_eq.1 h3), hN, decide_eq_true (beq_iff_eq.1 hA)]; rfl
          gi_wp2_with fail
          refine quiet_below_round (by kernel_rfl) (by kernel_rfl) (by kernel_rfl) ?_
          repeat (go_big_quiet_step ((first | (go_at_call 137; exact regrown_same (kids_any _ _)) | (go_at_call 94; exact regrown_chg (isname_any _ _)))))
          refine wpQuiet_nil ?_
          intro _ hw'
          obtain ⟨⟨dq, osq⟩, hw''⟩ := hw'
          subst hw''
          clear q0 q1 q2
          have hcq := Chg.of_below (below_regrown w₂ dq osq)
          generalize grow (redrawn w₂ dq) osq = w5 at *
          gi_wp2
          exact Hyes.out Hok.out w5 hcq
      | false =>
        have h32 : (x.kind != 3) = true := by rw [bne, h3]; rfl
        cases hE : (x.name == []) with
        | false =>
          have hE2 : (x.name != []) = true := by rw [bne, hE]; rfl
          have hE3 : x.name.isEmpty = false := by
            cases hh : x.name with
            | nil => rw [hh] at hE; cases hE
            | cons _ _ => rfl
          have Hbad : Hid (okNode x.kind x.name x.kids.length = false) := by
            show _ = _
            unfold okNode
            rw [if_neg (beq_eq_false_iff_ne.1 h3), decide_eq_false (beq_eq_false_iff_ne.1 hE)]; simp
          cases hN : nameB x.name with
          | false =>
            gi_wp2_with fail
            refine quiet_below_round (by kernel_rfl) (by kernel_rfl) (by kernel_rfl) ?_
            repeat (go_big_quiet_step ((first | (go_at_call 137; exact regrown_same (kids_any _ _)) | (go_at_call 94; exact regrown_chg (isname_any _ _)))))
            refine wpQuiet_nil ?_
            intro _ hw'
            obtain ⟨⟨dq, osq⟩, hw''⟩ := hw'
            subst hw''
            clear q0 q1 q2
            have hcq := Chg.of_below (below_regrown w₂ dq osq)
            generalize grow (redrawn w₂ dq) osq = w5 at *
            have r0 := cell_row (hcq.at Hres.out (fun e => e)) 0 (v := .bool false) rfl
            have r1 : w5.frozen? ⟨w.heap.size + 1, 0, none⟩ = false := by simp [World.frozen?, hcq.at Hres.out (fun e => e)]
            gi_wp2
            exact ⟨(Hno.out Hbad.out w5 hcq).1, rfl, (Hno.out Hbad.out w5 hcq).2.2⟩
          | true =>
            gi_wp2_with fail
            refine quiet_below_round (by kernel_rfl) (by kernel_rfl) (by kernel_rfl) ?_
            repeat (go_big_quiet_step ((first | (go_at_call 137; exact regrown_same (kids_any _ _)) | (go_at_call 94; exact regrown_chg (isname_any _ _)))))
            refine wpQuiet_nil ?_
            intro _ hw'
            obtain ⟨⟨dq, osq⟩, hw''⟩ := hw'
            subst hw''
            clear q0 q1 q2
            have hcq := Chg.of_below (below_regrown w₂ dq osq)
            generalize grow (redrawn w₂ dq) osq = w5 at *
            have r0 := cell_row (hcq.at Hres.out (fun e => e)) 0 (v := .bool false) rfl
            have r1 : w5.frozen? ⟨w.heap.size + 1, 0, none⟩ = false := by simp [World.frozen?, hcq.at Hres.out (fun e => e)]
            gi_wp2
            exact ⟨(Hno.out Hbad.out w5 hcq).1, rfl, (Hno.out Hbad.out w5 hcq).2.2⟩
        | true =>
          have hE2 : (x.name != []) = false := by rw [bne, hE]; rfl
          have hE3 : x.name.isEmpty = true := by rw [beq_iff_eq.1 hE]; rfl
          have hN : nameB x.name = false := by rw [beq_iff_eq.1 hE]; rfl
          have Hok : Hid (okNode x.kind x.name x.kids.length = true) := by
            show _ = _
            unfold okNode
            rw [if_neg (beq_eq_false_iff_ne.1 h3), decide_eq_true (beq_iff_eq.1 hE), decide_eq_true (beq_iff_eq.1 hA)]; rfl
          have hE4 : x.name = [] := beq_iff_eq.1 hE
          rw [hE4] at q1 hN
          clear hE hE2 hE3
          gi_wp2_with fail
          refine quiet_below_round (by kernel_rfl) (by kernel_rfl) (by kernel_rfl) ?_
          repeat (go_big_quiet_step ((first | (go_at_call 137; exact regrown_same (kids_any _ _)) | (go_at_call 94; exact regrown_chg (isname_any _ _)))))
          refine wpQuiet_nil ?_
          intro _ hw'
          obtain ⟨⟨dq, osq⟩, hw''⟩ := hw'
          subst hw''
          clear q0 q1 q2
          have hcq := Chg.of_below (below_regrown w₂ dq osq)
          generalize grow (redrawn w₂ dq) osq = w5 at *
          gi_wp2
          exact Hyes.out Hok.out w5 hcq
  · rintro W ⟨h1, h2, h3⟩ hd
    have hm : mayT t = true := by
      rw [mayT_allT, List.all_eq_true]
      intro y hy
      rw [← Hall.out] at hy
      obtain ⟨z, hz, rfl⟩ := List.mem_map.1 hy
      exact h2 z hz
    have r0 := cell_row h1 0 (v := .bool false) rfl
    have r1 : W.frozen? ⟨w.heap.size + 1, 0, none⟩ = false := by simp [World.frozen?, h1]
    have hb1 := block_one_set (u := .bool true) h1
    have r2 := cell_row hb1 0 (v := .bool true) rfl
    have hcF : Chg Nob w (W.setCell ⟨w.heap.size + 1, 0, none⟩ (.bool true)) := h3.trans (S' := fun k => k = w.heap.size + 1) ((Chg.refl (fun k => k = w.heap.size + 1) _).setCell (p := ⟨w.heap.size + 1, 0, none⟩) (fun _ => rfl) _) (fun i hi e => by omega)
    have hdF : (W.setCell ⟨w.heap.size + 1, 0, none⟩ (.bool true)).heap[W3.heap.size]? = some (.deferred (some [])) := ((Chg.refl (fun k => k = w.heap.size + 1) W).setCell (p := ⟨w.heap.size + 1, 0, none⟩) (fun _ => rfl) (.bool true)).at hd (fun e => by omega)
    have Hm := Lib.hid hm
    have Hd := Lib.hid hdF
    have Hc := Lib.hid hcF
    have Hb1 := Lib.hid hb1
    clear hm hd hdF hcF hb1 h2 h3
    gi_wp2
    refine leaves_one Hd.out (fun W' hc' => ⟨_, results68 rfl (hc'.at Hb1.out (fun e => by have e : w.heap.size + 1 = W3.heap.size := e; omega)), by rw [Hm.out], Hc.out.trans hc' (fun i hi e => by have e : i = W3.heap.size := e; omega)⟩)
  · rintro c pre W hpre ⟨rfl, h1, ⟨y, hy, hbad⟩, h3⟩ hd
    have hm : mayT t = false := by
      rw [mayT_allT, Bool.eq_false_iff]
      intro h
      rw [List.all_eq_true] at h
      have := h y.1 (by rw [← Hall.out]; exact List.mem_map.2 ⟨y, hpre.subset hy, rfl⟩)
      rw [hbad] at this
      cases this
    have Hm := Lib.hid hm
    have H1 := Lib.hid h1
    have H3 := Lib.hid h3
    have Hd := Lib.hid hd
    clear hm h1 h3 hd
    gi_wp2
    refine leaves_one Hd.out (fun W' hc' => ⟨_, results68 rfl (hc'.at H1.out (fun e => by have e : w.heap.size + 1 = W3.heap.size := e; omega)), by rw [Hm.out], H3.out.trans hc' (fun i hi e => by have e : i = W3.heap.size := e; omega)⟩)
set_option maxRecDepth 100000 in
set_option maxHeartbeats 1000000 in
theorem check_any' (R : Nat → Prop) (t : T) (v : Value) (w : World) (ht : IsTree R w t v) (hN : sizeT t ≤ 1000000) (hR : ∀ b, R b → b < w.heap.size) :
    Calls Tryz.prog 73 #[v] w fun e w' => e = .returned (.int .i64 (checkN t)) ∧ Chg Nob w w' := by
  have Ht := Lib.hid ht
  obtain ⟨ao, cap, rfl, hlen, _⟩ := ht.parts
  clear ht
  go_enter Tryz.func73, Tryz.ntmps73
  go_wp2_with fail
  have hcW : Chg Nob w (w.alloc (.cells #[.int .i64 t.kind, .string ⟨t.name.toArray⟩, .slice ao t.kids.length cap] 24)) := (Chg.refl _ _).alloc _
  have hbox := heap_alloc_new w (.cells #[.int .i64 t.kind, .string ⟨t.name.toArray⟩, .slice ao t.kids.length cap] 24)
  have Hbox := Lib.hid hbox
  clear hbox
  generalize (w.alloc (.cells #[.int .i64 t.kind, .string ⟨t.name.toArray⟩, .slice ao t.kids.length cap] 24)) = W at *
  (with_reducible refine (made_any R t _ W (Ht.out.nob hcW) hN (fun b hb => Nat.lt_of_lt_of_le (hR b hb) hcW.size)).mono ?_)
  rintro e w1 ⟨rfl, hc1⟩
  cases hm : mayT t with
  | false =>
    have Hres : Hid (checkN t = 92) := if_pos hm
    go_wp2_with fail
    go_ret
    exact ⟨by rw [Hres.out]; rfl, hcW.trans1 hc1⟩
  | true =>
    obtain ⟨c0, c1, c2, _⟩ := cells_three (hc1.at Hbox.out (fun e => e))
    go_wp2_with fail
    (with_reducible refine (pdepth_any R t _ w1 (Ht.out.nob (hcW.trans1 hc1)) hN).mono ?_)
    rintro e w2 ⟨rfl, hc2⟩
    by_cases hd : 100 < depthT t
    · have hdi : (100 : Int) < (depthT t : Int) := by omega
      have Hres : Hid (checkN t = 93) := by show _ = _; unfold checkN; rw [hm, if_neg (by simp), if_pos hd]
      go_wp2_with fail
      go_ret
      exact ⟨by rw [Hres.out]; rfl, (hcW.trans1 hc1).trans1 hc2⟩
    · have hdi : ¬ (100 : Int) < (depthT t : Int) := by omega
      have Hres : Hid (checkN t = 0) := by show _ = _; unfold checkN; rw [hm, if_neg (by simp), if_neg hd]
      go_wp2_with fail
      go_ret
      exact ⟨by rw [Hres.out]; rfl, (hcW.trans1 hc1).trans1 hc2⟩
end Go.Proofs.YtkgfdgfhpdhhaaaGreat
namespace Go.Proofs.YtkgfdgfhpdhhaaaGreat
open Go.ChangeShapes Go.WideShapes Go.RowKit
theorem checkN_zero {t : T} (h : checkN t = 0) : mayT t = true ∧ depthT t ≤ 100 := by
  unfold checkN at h
  split at h
  · cases h
  · rename_i h1
    split at h
    · cases h
    · rename_i h2
      exact ⟨by simpa using h1, by omega⟩
end Go.Proofs.YtkgfdgfhpdhhaaaGreat
namespace Go.Proofs.YtkgfdgfhpdhhaaaGreat
open Go.ChangeShapes Go.WideShapes Go.RowKit
mutual
def sameT : T → T → Bool
  | .node k nm kids, .node k2 nm2 kids2 => (k == k2) && (nm == nm2) && sameL kids kids2
def sameL : List T → List T → Bool
  | [], [] => true
  | t :: ts, u :: us => sameT t u && sameL ts us
  | _, _ => false
end
theorem sameT_eq (t u : T) : sameT t u = ((t.kind == u.kind) && (t.name == u.name) && sameL t.kids u.kids) := by
  cases t; cases u; rw [sameT]; rfl
mutual
theorem sameT_iff : ∀ t u : T, sameT t u = true ↔ t = u
  | .node k nm kids, .node k2 nm2 kids2 => by
    rw [sameT, Bool.and_eq_true, Bool.and_eq_true, beq_iff_eq, beq_iff_eq, sameL_iff kids kids2]
    constructor
    · rintro ⟨⟨rfl, rfl⟩, rfl⟩; rfl
    · intro h; cases h; exact ⟨⟨rfl, rfl⟩, rfl⟩
theorem sameL_iff : ∀ l m : List T, sameL l m = true ↔ l = m
  | [], [] => by rw [sameL]; simp
  | t :: ts, u :: us => by
    rw [sameL, Bool.and_eq_true, sameT_iff t u, sameL_iff ts us]
    constructor
    · rintro ⟨rfl, rfl⟩; rfl
    · intro h; cases h; exact ⟨rfl, rfl⟩
  | [], _ :: _ => by rw [sameL] <;> simp
  | _ :: _, [] => by rw [sameL] <;> simp
end
theorem sameT_refl (t : T) : sameT t t = true := (sameT_iff t t).2 rfl
theorem sameL_len {l m : List T} (h : l.length ≠ m.length) : sameL l m = false := by
  rw [Bool.eq_false_iff]
  intro e
  exact h (by rw [(sameL_iff l m).1 e])
theorem sameL_at {l m : List T} {j : Nat} {t u : T} (ht : l[j]? = some t) (hu : m[j]? = some u) (h : sameT t u = false) : sameL l m = false := by
  rw [Bool.eq_false_iff]
  intro e
  have := (sameL_iff l m).1 e
  subst this
  rw [ht] at hu
  cases hu
  rw [sameT_refl] at h
  cases h
theorem sameL_all {l m : List T} (hl : l.length = m.length) (h : ∀ j t u, j < l.length → l[j]? = some t → m[j]? = some u → sameT t u = true) : sameL l m = true := by
  rw [sameL_iff]
  apply List.ext_getElem?
  intro j
  rcases Nat.lt_or_ge j l.length with hj | hj
  · have h1 := List.getElem?_eq_getElem hj
    have h2 := List.getElem?_eq_getElem (l := m) (i := j) (by omega)
    rw [h1, h2, (sameT_iff _ _).1 (h j _ _ hj h1 h2)]
  · rw [List.getElem?_eq_none hj, List.getElem?_eq_none (by omega)]
def SameC (f : Nat) (t : T) : Prop := ∀ (R1 R2 : Nat → Prop) (u : T) (v1 v2 : Value) (w : World), IsTree R1 w t v1 → IsTree R2 w u v2 → Calls Tryz.prog f #[v1, v2] w fun e w' => e = .returned (.bool (sameT t u)) ∧ Chg Nob w w'
set_option maxRecDepth 100000 in
set_option maxHeartbeats 2000000 in
theorem equal_any (ts us : List T) (h : ∀ t ∈ ts, SameC 138 t) (R1 R2 : Nat → Prop) (a1 a2 : Option Addr) (c1 c2 : Nat) (w : World) (hk1 : IsKids R1 w a1 0 ts) (hk2 : IsKids R2 w a2 0 us) (hl1 : ts.length ≤ 9223372036854775807) (_hl2 : us.length ≤ 9223372036854775807) :
    Calls Tryz.prog 176 #[.slice a1 ts.length c1, .slice a2 us.length c2, .func (.func 138) #[] #[]] w fun e w' => e = .returned (.bool (sameL ts us)) ∧ Chg Nob w w' := by
  have Hk1 := Lib.hid hk1
  have Hk2 := Lib.hid hk2
  have Hh := Lib.hid h
  clear hk1 hk2 h
  by_cases hlen : ts.length = us.length
  · have hle : ((ts.length : Int) != (us.length : Int)) = false := by rw [hlen]; simp
    have hle2 : ((ts.length : Int) == (us.length : Int)) = true := by rw [hlen]; simp
    have Hlen := Lib.hid hlen
    clear hlen
    go_enter Tryz.func176, Tryz.ntmps176
    go_wp2_with fail
    go_loopw [17] (fun i wr => ∃ j : Nat, i = .int .i64 j ∧ j ≤ ts.length ∧ Hid (∀ q t u, q < j → ts[q]? = some t → us[q]? = some u → sameT t u = true) ∧ Chg Nob w wr) (fun i _ => ts.length - (intOf i).toNat)
    case atStart => exact ⟨0, rfl, Nat.zero_le _, fun q t u h => absurd h (Nat.not_lt_zero q), Chg.refl _ _⟩
    case round =>
      obtain ⟨j, rfl, hj, hall, hc⟩ := hrel
      by_cases hlt : j < ts.length
      · obtain ⟨t, ht⟩ : ∃ t, ts[j]? = some t := ⟨_, List.getElem?_eq_getElem hlt⟩
        have hltu : j < us.length := by have := Hlen.out; omega
        obtain ⟨u, hu⟩ : ∃ u, us[j]? = some u := ⟨_, List.getElem?_eq_getElem hltu⟩
        obtain ⟨b1, o1, ak1, cap1, hao1, _, p0, p1, p2, _, _, htr1⟩ := Hk1.out.kid ht
        obtain ⟨b2, o2, ak2, cap2, hao2, _, q0, q1, q2, _, _, htr2⟩ := Hk2.out.kid hu
        have p0' := hc.cell' p0 (fun e => e)
        have p1' := hc.cell' p1 (fun e => e)
        have p2' := hc.cell' p2 (fun e => e)
        have hA : Chg Nob wr (wr.alloc (.cells #[.int .i64 t.kind, .string ⟨t.name.toArray⟩, .slice ak1 t.kids.length cap1] 24)) := (Chg.refl _ _).alloc _
        have hA2 : Chg Nob wr ((wr.alloc (.cells #[.int .i64 t.kind, .string ⟨t.name.toArray⟩, .slice ak1 t.kids.length cap1] 24)).alloc (.cells #[.int .i64 u.kind, .string ⟨u.name.toArray⟩, .slice ak2 u.kids.length cap2] 24)) := hA.alloc _
        have q0' := (hc.trans1 hA).cell' q0 (fun e => e)
        have q1' := (hc.trans1 hA).cell' q1 (fun e => e)
        have q2' := (hc.trans1 hA).cell' q2 (fun e => e)
        have hcall := Hh.out t (List.mem_of_getElem? ht) R1 R2 u _ _ _ (htr1.nob (hc.trans1 hA2)) (htr2.nob (hc.trans1 hA2))
        have hki : (j : Int) < (ts.length : Int) := by omega
        have hku : (j : Int) < (us.length : Int) := by omega
        have hk0 : (0 : Int) ≤ (j : Int) := by omega
        have Ht := Lib.hid ht
        have Hu := Lib.hid hu
        clear p0 p1 p2 q0 q1 q2 htr1 htr2 ht hu
        subst hao1 hao2
        go_wp2_with fail
        (with_reducible refine hcall.mono ?_)
        clear hcall
        rintro e w3 ⟨rfl, hc3⟩
        have hcw := (hc.trans1 hA2).trans1 hc3
        cases hs : sameT t u with
        | true =>
          clear p0' p1' p2' q0' q1' q2'
          go_wp2_with fail
          go_roundw
          case rel => first | exact ⟨j + 1, by go_num, by omega, (show ∀ q t u, q < j + 1 → ts[q]? = some t → us[q]? = some u → sameT t u = true from fun q t' u' hq h1 h2 => by
              by_cases e : q = j
              · subst e
                rw [Ht.out] at h1; cases h1
                rw [Hu.out] at h2; cases h2
                exact hs
              · exact hall.out q t' u' (by omega) h1 h2), hcw⟩ | ((repeat apply Exists.intro); exact ⟨⟨j + 1, by go_num, by omega, (show ∀ q t u, q < j + 1 → ts[q]? = some t → us[q]? = some u → sameT t u = true from fun q t' u' hq h1 h2 => by
              by_cases e : q = j
              · subst e
                rw [Ht.out] at h1; cases h1
                rw [Hu.out] at h2; cases h2
                exact hs
              · exact hall.out q t' u' (by omega) h1 h2), hcw⟩, rfl⟩)
          case measure => simp [intOf]; omega
        | false =>
          have Hr := Lib.hid (sameL_at Ht.out Hu.out hs)
          clear p0' p1' p2' q0' q1' q2'
          go_wp2
          go_ret
          exact ⟨by rw [Hr.out]; rfl, hcw⟩
      · obtain rfl : j = ts.length := by omega
        have Hr := Lib.hid (sameL_all Hlen.out (fun q t u hq h1 h2 => hall.out q t u hq h1 h2))
        go_wp2
        go_ret
        exact ⟨by rw [Hr.out]; rfl, hc⟩
  · have hle : ((ts.length : Int) != (us.length : Int)) = true := by simp; omega
    have hle2 : ((ts.length : Int) == (us.length : Int)) = false := by simp; omega
    have Hr := Lib.hid (sameL_len hlen)
    clear hlen
    go_enter Tryz.func176, Tryz.ntmps176
    go_wp2
    go_ret
    exact ⟨by rw [Hr.out]; rfl, Chg.refl _ _⟩
set_option maxRecDepth 100000 in
set_option maxHeartbeats 2000000 in
theorem same_any : ∀ t : T, SameC 138 t := by
  refine kid_induct ?_
  intro t ih R1 R2 u v1 v2 w ht hu
  obtain ⟨a1, c1, rfl, hl1, hk1⟩ := ht.parts
  obtain ⟨a2, c2, rfl, hl2, hk2⟩ := hu.parts
  have hA2 : Chg Nob w ((w.alloc (.cells #[.int .i64 t.kind, .string ⟨t.name.toArray⟩, .slice a1 t.kids.length c1] 24)).alloc (.cells #[.int .i64 u.kind, .string ⟨u.name.toArray⟩, .slice a2 u.kids.length c2] 24)) := ((Chg.refl _ _).alloc _).alloc _
  have hcall := equal_any t.kids u.kids ih R1 R2 a1 a2 c1 c2 _ (IsKids.mono (fun _a _ _ hv => hA2.cell' hv (fun e => e)) (fun _ e => e) _ _ _ hk1) (IsKids.mono (fun _a _ _ hv => hA2.cell' hv (fun e => e)) (fun _ e => e) _ _ _ hk2) hl1 hl2
  have Heq := Lib.hid (sameT_eq t u)
  clear ih ht hu hk1 hk2
  cases hk : (t.kind == u.kind) with
  | false =>
    have Hr : Hid (sameT t u = false) := by show _ = _; rw [Heq.out, hk]; rfl
    go_enter Tryz.func138, Tryz.ntmps138
    go_wp2
    go_ret
    exact ⟨by rw [Hr.out]; rfl, hA2⟩
  | true =>
    cases hn : (t.name == u.name) with
    | false =>
      have Hr : Hid (sameT t u = false) := by show _ = _; rw [Heq.out, hk, hn]; rfl
      go_enter Tryz.func138, Tryz.ntmps138
      go_wp2
      go_ret
      exact ⟨by rw [Hr.out]; rfl, hA2⟩
    | true =>
      have Hr : Hid (sameT t u = sameL t.kids u.kids) := by show _ = _; rw [Heq.out, hk, hn]; rfl
      go_enter Tryz.func138, Tryz.ntmps138
      go_wp2_with fail
      (with_reducible refine hcall.mono ?_)
      clear hcall
      rintro e w3 ⟨rfl, hc3⟩
      go_wp2
      go_ret
      exact ⟨by rw [Hr.out]; rfl, hA2.trans1 hc3⟩
end Go.Proofs.YtkgfdgfhpdhhaaaGreat
namespace Go.Proofs.YtkgfdgfhpdhhaaaGreat
open Go.ChangeShapes Go.WideShapes Go.RowKit
def much : List PanicEntry := [{ v := .iface 132 (.agg #[]), recovered := false }]
structure Nb (w : World) (nb L : Nat) : Prop where
  blk : w.heap[nb]? = some (.cells #[.int .i64 (L : Int)] 136 (0, 0))
  le : L ≤ 20000
theorem Nb.nob {w w' : World} {nb L : Nat} (h : Nb w nb L) (hc : Chg Nob w w') : Nb w' nb L := ⟨hc.at h.blk (fun e => e), h.le⟩
theorem Nb.lt {w : World} {nb L : Nat} (h : Nb w nb L) : nb < w.heap.size := (Array.getElem?_eq_some_iff.1 h.blk).1
theorem Nb.at1 {w w' : World} {nb L b : Nat} (h : Nb w nb L) (hc : Chg (At1 b) w w') (hb : nb ≠ b) : Nb w' nb L := ⟨hc.at h.blk hb, h.le⟩
theorem ret_int' {a b : Int} (h : a = b) : Ending.returned (Value.int .i64 a) = Ending.returned (Value.int .i64 b) := by rw [h]
set_option maxHeartbeats 1000000 in
theorem flip_any (k : Int) (no : Bool) (w : World) : Calls Tryz.prog 131 #[.int .i64 k, .bool no] w (Rets (.int .i64 (flipK k no)) w) := by
  cases no
  · go_enter Tryz.func131, Tryz.ntmps131
    go_wp2
    all_goals go_ret
    all_goals exact ⟨rfl, rfl⟩
  · go_enter Tryz.func131, Tryz.ntmps131
    go_wp2
    all_goals go_ret
    all_goals (refine ⟨ret_int' ?_, rfl⟩; unfold flipK; rw [if_neg (by decide)]; simp_all)
def NpPost (nb L : Nat) (v : Value) (w : World) (e : Ending) (w' : World) : Prop := Chg (At1 nb) w w' ∧ ((∃ m, L = m + 1 ∧ e = .returned v ∧ Nb w' nb m) ∨ (L = 0 ∧ e = .panicked much))
set_option maxHeartbeats 1000000 in
theorem npart_any (w : World) (nb L : Nat) (k : Int) (ao : Option Addr) (n c : Nat) (h : Nb w nb L) : Calls Tryz.prog 130 #[.pointer (some ⟨nb, 0, none⟩), .int .i64 k, .slice ao n c] w (NpPost nb L (.agg #[.int .i64 k, .string ⟨#[]⟩, .slice ao n c]) w) := by
  have hlt := h.lt
  have hle := h.le
  have hA := ((Chg.refl Nob w).alloc (.cells #[.int .i64 0, .string ⟨#[]⟩, .slice none 0 0] 24)).at h.blk (fun e => e)
  have hnew := heap_alloc_new w (.cells #[.int .i64 0, .string ⟨#[]⟩, .slice none 0 0] 24)
  have hcA : Chg Nob w (w.alloc (.cells #[.int .i64 0, .string ⟨#[]⟩, .slice none 0 0] 24)) := (Chg.refl _ _).alloc _
  have c0 := cell_row hA 0 (v := .int .i64 (L : Int)) rfl
  have f0 : (w.alloc (.cells #[.int .i64 0, .string ⟨#[]⟩, .slice none 0 0] 24)).frozen? ⟨nb, 0, none⟩ = false := by simp [World.frozen?, hA]
  have HA := Lib.hid hA
  have HB := Lib.hid h.blk
  have Hnew := Lib.hid hnew
  clear hA hnew h
  have hset : ∀ z : Int, ((w.setCell ⟨nb, 0, none⟩ (.int .i64 z)).alloc (.cells #[.int .i64 0, .string ⟨#[]⟩, .slice none 0 0] 24)).heap[nb]? = some (.cells #[.int .i64 z] 136 (0, 0)) := fun z =>
    ((Chg.refl Nob _).alloc _).at (block_one_set HB.out) (fun e => e)
  have hcs : ∀ (z : Int) (o : Obj), Chg (At1 nb) w ((w.setCell ⟨nb, 0, none⟩ (.int .i64 z)).alloc o) := fun z o => ((Chg.refl (At1 nb) w).setCell (p := ⟨nb, 0, none⟩) (fun _ => rfl) _).alloc _
  have Hset := Lib.hid hset
  have Hcs := Lib.hid hcs
  clear hset hcs
  cases L with
  | zero =>
    have c1 := cell_row (Hset.out (-1)) 0 (v := .int .i64 (-1)) rfl
    go_enter Tryz.func130, Tryz.ntmps130
    go_wp2
    exact ⟨rfl, Hcs.out _ _, .inr ⟨rfl, rfl⟩⟩
  | succ m =>
    have c1 := cell_row (Hset.out (m : Int)) 0 (v := .int .i64 (m : Int)) rfl
    have hm0 : ¬ (m : Int) < 0 := by omega
    go_enter Tryz.func130, Tryz.ntmps130
    go_wp2
    obtain ⟨e0, e1, e2, _⟩ := cells_three (heap_alloc_new (w.setCell ⟨nb, 0, none⟩ (.int .i64 (m : Int))) (.cells #[.int .i64 k, .string ⟨#[]⟩, .slice ao n c] 24))
    have hsz : (w.setCell ⟨nb, 0, none⟩ (.int .i64 (m : Int))).heap.size = w.heap.size := by simp [World.setCell]
    rw [hsz] at e0 e1 e2
    refine bodyPost_ret (v := .agg #[.int .i64 k, .string ⟨#[]⟩, .slice ao n c]) (by simp [results, Tryz.results130, go_sem, e0, e1, e2]) rfl ⟨Hcs.out _ _, .inl ⟨m, rfl, rfl, ⟨?_, by omega⟩⟩⟩
    exact ((Chg.refl Nob _).alloc _).at (block_one_set HB.out) (fun e => e)
def NfPost (nb L : Nat) (u : T) (w : World) (e : Ending) (w' : World) : Prop :=
  Chg (At1 nb) w w' ∧ ((∃ v, sizeT u ≤ L ∧ e = .returned v ∧ Fresh (Ge w.heap.size) w' u v ∧ Nb w' nb (L - sizeT u)) ∨ (L < sizeT u ∧ e = .panicked much))
def FormC (t : T) : Prop := ∀ (R : Nat → Prop) (w : World) (nb L : Nat) (no : Bool) (v : Value), IsTree R w t v → (∀ b, R b → b ≠ nb) → Nb w nb L → Calls Tryz.prog 78 #[.pointer (some ⟨nb, 0, none⟩), v, .bool no] w (NfPost nb L (nfT t no) w)
theorem IsTree.at1 {R : Nat → Prop} {w w' : World} {t : T} {v : Value} {b : Nat} (h : IsTree R w t v) (hc : Chg (At1 b) w w') (hR : ∀ k, R k → k ≠ b) : IsTree R w' t v := h.chg hc (fun k hk e => hR k hk e)
theorem kid_at1 {R : Nat → Prop} {w w' : World} {nb : Nat} {b : Nat} (hc : Chg (At1 nb) w w') (hR : ∀ k, R k → k ≠ nb) (hb : R b) {o : Nat} {u : Value} (h : w.cell? ⟨b, o, none⟩ = some u) : w'.cell? ⟨b, o, none⟩ = some u := hc.cell' h (hR b hb)
theorem nf_two {k : Int} {a b : T} {w w1 w2 wF : World} {a0 a1 a2 b0 b1 b2 : Value} {lo1 lo2 D : Nat} (h1 : Fresh (Ge lo1) w1 a (.agg #[a0, a1, a2])) (h2 : Fresh (Ge lo2) w2 b (.agg #[b0, b1, b2])) (hl1 : w.heap.size ≤ lo1) (hl2 : w.heap.size ≤ lo2)
    (S : Nat → Prop) (hS1 : ∀ q, S q → q < lo1 ∨ w1.heap.size ≤ q) (hS2 : ∀ q, S q → q < lo2 ∨ w2.heap.size ≤ q) (c1 : Chg S w1 wF) (c2 : Chg S w2 wF) (hD : wF.heap[D]? = some (.cells #[a0, a1, a2, b0, b1, b2] 24 (0, 0))) (hDl : w.heap.size ≤ D) :
    Fresh (Ge w.heap.size) wF (.node k [] [a, b]) (.agg #[.int .i64 k, .string ⟨#[]⟩, .slice (some ⟨D, 0, none⟩) 2 2]) := by
  rw [Fresh]
  refine .inr ⟨D, _, hDl, rfl, hD, by simp, ?_⟩
  rw [FreshL, FreshL, FreshL]
  refine ⟨h1.chg c1 (fun q hq hq2 e => ?_) (fun q hq => Nat.le_trans hl1 hq), h2.chg c2 (fun q hq hq2 e => ?_) (fun q hq => Nat.le_trans hl2 hq), trivial⟩
  · have hq : lo1 ≤ q := hq
    rcases hS1 q e with h | h <;> omega
  · have hq : lo2 ≤ q := hq
    rcases hS2 q e with h | h <;> omega
theorem nf_one {k : Int} {a : T} {w w1 wF : World} {a0 a1 a2 : Value} {lo1 D : Nat} (h1 : Fresh (Ge lo1) w1 a (.agg #[a0, a1, a2])) (hl1 : w.heap.size ≤ lo1)
    (S : Nat → Prop) (hS1 : ∀ q, S q → q < lo1 ∨ w1.heap.size ≤ q) (c1 : Chg S w1 wF) (hD : wF.heap[D]? = some (.cells #[a0, a1, a2] 24 (0, 0))) (hDl : w.heap.size ≤ D) :
    Fresh (Ge w.heap.size) wF (.node k [] [a]) (.agg #[.int .i64 k, .string ⟨#[]⟩, .slice (some ⟨D, 0, none⟩) 1 1]) := by
  rw [Fresh]
  refine .inr ⟨D, _, hDl, rfl, hD, by simp, ?_⟩
  rw [FreshL, FreshL]
  refine ⟨h1.chg c1 (fun q hq hq2 e => ?_) (fun q hq => Nat.le_trans hl1 hq), trivial⟩
  have hq : lo1 ≤ q := hq
  rcases hS1 q e with h | h <;> omega
set_option maxRecDepth 100000 in
set_option maxHeartbeats 4000000 in
theorem pair_any (t a b : T) (hkids : t.kids = [a, b]) (hfa : FormC a) (hfb : FormC b) (R : Nat → Prop) (w : World) (nb L : Nat) (k : Int) (no not : Bool) (v : Value) (ht : IsTree R w t v) (hR : ∀ b, R b → b ≠ nb) (hN : Nb w nb L) :
    Calls Tryz.prog 132 #[.pointer (some ⟨nb, 0, none⟩), .int .i64 k, v, .bool no, .bool not] w (NfPost nb L (.node k [] [nfT a no, nfT b not]) w) := by
  obtain ⟨ao, cap, rfl, hlen, hk⟩ := ht.parts
  rw [hkids] at hk
  obtain ⟨b1, o1, ak, capk, hao, hRb, p0, p1, p2, _, _, hta⟩ := hk.kid (j := 0) (t := a) rfl
  obtain ⟨b2, o2, bk, bcapk, hao2, hRb2, q0, q1, q2, _, _, htb⟩ := hk.kid (j := 1) (t := b) rfl
  subst hao
  cases hao2
  have hlen2 : t.kids.length = 2 := by rw [hkids]; rfl
  rw [hlen2]
  rw [Nat.zero_mul, Nat.add_zero] at p0 p1 p2
  rw [Nat.one_mul] at q0 q1 q2
  have hW : Hid (∃ W, W = (w.alloc (.cells #[.int .i64 t.kind, .string ⟨t.name.toArray⟩, .slice (some ⟨b1, o1, none⟩) 2 cap] 24)).alloc (.cells #[.int .i64 0, .string ⟨#[]⟩, .slice none 0 0] 24) ∧ Chg Nob w W ∧ W.heap.size = w.heap.size + 2 ∧
      W.heap[w.heap.size]? = some (.cells #[.int .i64 t.kind, .string ⟨t.name.toArray⟩, .slice (some ⟨b1, o1, none⟩) 2 cap] 24 (0, 0)) ∧ W.heap[w.heap.size + 1]? = some (.cells #[.int .i64 0, .string ⟨#[]⟩, .slice none 0 0] 24 (0, 0))) := by
    refine ⟨_, rfl, ((Chg.refl _ _).alloc _).alloc _, by rw [World.size_alloc, World.size_alloc], ((Chg.refl Nob _).alloc _).at (heap_alloc_new w _) (fun e => e), ?_⟩
    have := heap_alloc_new (w.alloc (.cells #[.int .i64 t.kind, .string ⟨t.name.toArray⟩, .slice (some ⟨b1, o1, none⟩) 2 cap] 24)) (.cells #[.int .i64 0, .string ⟨#[]⟩, .slice none 0 0] 24)
    rwa [World.size_alloc] at this
  have Hp := Lib.hid (And.intro p0 (And.intro p1 p2))
  have Hq := Lib.hid (And.intro q0 (And.intro q1 q2))
  have Hta := Lib.hid hta
  have Htb := Lib.hid htb
  have Hfa := Lib.hid hfa
  have Hfb := Lib.hid hfb
  have hnb := hN.lt
  have HN := Lib.hid hN
  clear ht hk hkids p0 p1 p2 q0 q1 q2 hta htb hfa hfb hN hlen2
  go_enter Tryz.func132, Tryz.ntmps132
  go_wp2_with fail
  obtain ⟨W, hWe, hcW, hsW, hbx, hres⟩ := hW.out
  rw [← hWe]
  clear hWe hW
  have Hbx := Lib.hid hbx
  have Hres := Lib.hid hres
  have HsW := Lib.hid hsW
  clear hbx hres hsW
  (with_reducible refine (npart_any W nb L k none 0 0 (HN.out.nob hcW)).mono ?_)
  rintro e w1 ⟨hc1, ⟨m, rfl, rfl, hN1⟩ | ⟨rfl, rfl⟩⟩
  · have hle := HN.out.le
    have g0 := cell_row hN1.blk 0 (v := .int .i64 (m : Int)) rfl
    have g1 : w1.frozen? ⟨nb, 0, none⟩ = false := by simp [World.frozen?, hN1.blk]
    have hN2 : Nb (w1.setCell ⟨nb, 0, none⟩ (.int .i64 ((m : Int) + 1))) nb (m + 1) := ⟨block_one_set hN1.blk, hle⟩
    have hc2 : Chg (At1 nb) W (w1.setCell ⟨nb, 0, none⟩ (.int .i64 ((m : Int) + 1))) := hc1.setCell (p := ⟨nb, 0, none⟩) (fun _ => rfl) _
    have ew : wrap64 ((m : Int) + 1) = (m : Int) + 1 := by unfold wrap64; omega
    have hbx2 := hc2.at Hbx.out (fun e => by have e : w.heap.size = nb := e; omega)
    obtain ⟨c0, c1, c2, _⟩ := cells_three hbx2
    have hcw2 : Chg (At1 nb) w (w1.setCell ⟨nb, 0, none⟩ (.int .i64 ((m : Int) + 1))) := hcW.any.trans1 hc2
    have p0 := kid_at1 hcw2 hR hRb Hp.out.1
    have p1 := kid_at1 hcw2 hR hRb Hp.out.2.1
    have p2 := kid_at1 hcw2 hR hRb Hp.out.2.2
    have hs1 := hc2.size
    have hcallA := Hfa.out R _ nb (m + 1) no _ (Hta.out.at1 hcw2 hR) hR hN2
    have HN2 := Lib.hid hN2
    have Hbx2 := Lib.hid hbx2
    clear hN1 hN2 hbx2
    go_wp2_with fail
    generalize w1.setCell ⟨nb, 0, none⟩ (.int .i64 ((m : Int) + 1)) = w2 at *
    (with_reducible refine hcallA.mono ?_)
    clear hcallA g0 g1 c0 c1 c2 p0 p1 p2
    rintro e w3 ⟨hc3, ⟨va, hsa, rfl, hFa, hN3⟩ | ⟨hsa, rfl⟩⟩
    · obtain ⟨a5, acap, rfl⟩ := hFa.agg
      obtain ⟨na, hna⟩ : ∃ na, na = nfT a no := ⟨_, rfl⟩
      rw [← hna] at hsa hFa hN3 ⊢
      have Hna := Lib.hid hna
      clear hna
      have hA : Chg Nob w3 (w3.alloc (.cells #[.int .i64 na.kind, .string ⟨na.name.toArray⟩, .slice a5 na.kids.length acap] 24)) := (Chg.refl _ _).alloc _
      have hta3 := heap_alloc_new w3 (.cells #[.int .i64 na.kind, .string ⟨na.name.toArray⟩, .slice a5 na.kids.length acap] 24)
      have hs3 : (w3.alloc (.cells #[.int .i64 na.kind, .string ⟨na.name.toArray⟩, .slice a5 na.kids.length acap] 24)).heap.size = w3.heap.size + 1 := World.size_alloc _ _
      have hN3A := hN3.nob hA
      have hc23 := hc3.trans1 hA.any
      have hcw3 := hcw2.trans1 hc23
      have hs23 := hc3.size
      have hsW := HsW.out
      have hbx3 := hc23.at Hbx2.out (fun e => by have e : w.heap.size = nb := e; omega)
      obtain ⟨c0, c1, c2, _⟩ := cells_three hbx3
      have q0 := kid_at1 hcw3 hR hRb Hq.out.1
      have q1 := kid_at1 hcw3 hR hRb Hq.out.2.1
      have q2 := kid_at1 hcw3 hR hRb Hq.out.2.2
      have hcallB := Hfb.out R _ nb _ not _ (Htb.out.at1 hcw3 hR) hR hN3A
      have Hta3 := Lib.hid hta3
      have Hs3 := Lib.hid hs3
      clear hN3 hN3A hbx3 hta3 hs3
      go_wp2_with fail
      generalize w3.alloc (.cells #[.int .i64 na.kind, .string ⟨na.name.toArray⟩, .slice a5 na.kids.length acap] 24) = W3 at *
      (with_reducible refine hcallB.mono ?_)
      clear hcallB c0 c1 c2 q0 q1 q2
      rintro e w4 ⟨hc4, ⟨vb, hsb, rfl, hFb, hN4⟩ | ⟨hsb, rfl⟩⟩
      · obtain ⟨b5, bcap, rfl⟩ := hFb.agg
        obtain ⟨nb', hnb'⟩ : ∃ n', n' = nfT b not := ⟨_, rfl⟩
        rw [← hnb'] at hsb hFb hN4 ⊢
        have Hnb' := Lib.hid hnb'
        clear hnb'
        have hB : Chg Nob w4 (w4.alloc (.cells #[.int .i64 nb'.kind, .string ⟨nb'.name.toArray⟩, .slice b5 nb'.kids.length bcap] 24)) := (Chg.refl _ _).alloc _
        have htb4 := heap_alloc_new w4 (.cells #[.int .i64 nb'.kind, .string ⟨nb'.name.toArray⟩, .slice b5 nb'.kids.length bcap] 24)
        have hs4 : (w4.alloc (.cells #[.int .i64 nb'.kind, .string ⟨nb'.name.toArray⟩, .slice b5 nb'.kids.length bcap] 24)).heap.size = w4.heap.size + 1 := World.size_alloc _ _
        have hN4B := hN4.nob hB
        have hc34 := hc4.trans1 hB.any
        have hz4 := hc4.size
        have hs3' := Hs3.out
        have hta4 := hc34.at Hta3.out (fun e => by have e : w3.heap.size = nb := e; omega)
        have hres4 := hc34.at (hc23.at (hc2.at Hres.out (fun e => by have e : w.heap.size + 1 = nb := e; omega)) (fun e => by have e : w.heap.size + 1 = nb := e; omega)) (fun e => by have e : w.heap.size + 1 = nb := e; omega)
        obtain ⟨c0, c1, c2, _⟩ := cells_three hta4
        obtain ⟨d0, d1, d2, _⟩ := cells_three htb4
        have hD : Chg Nob (w4.alloc (.cells #[.int .i64 nb'.kind, .string ⟨nb'.name.toArray⟩, .slice b5 nb'.kids.length bcap] 24)) ((w4.alloc (.cells #[.int .i64 nb'.kind, .string ⟨nb'.name.toArray⟩, .slice b5 nb'.kids.length bcap] 24)).alloc (.cells #[.int .i64 na.kind, .string ⟨na.name.toArray⟩, .slice a5 na.kids.length acap, .int .i64 nb'.kind, .string ⟨nb'.name.toArray⟩, .slice b5 nb'.kids.length bcap] 24)) := (Chg.refl _ _).alloc _
        have hDn := heap_alloc_new (w4.alloc (.cells #[.int .i64 nb'.kind, .string ⟨nb'.name.toArray⟩, .slice b5 nb'.kids.length bcap] 24)) (.cells #[.int .i64 na.kind, .string ⟨na.name.toArray⟩, .slice a5 na.kids.length acap, .int .i64 nb'.kind, .string ⟨nb'.name.toArray⟩, .slice b5 nb'.kids.length bcap] 24)
        rw [hs4] at hDn
        have hcallP := npart_any _ nb _ k (some ⟨w4.heap.size + 1, 0, none⟩) 2 2 (hN4B.nob hD)
        have Hres4 := Lib.hid (hD.at hres4 (fun e => e))
        have HDn := Lib.hid hDn
        have Hc4D := Lib.hid (hB.trans1 hD)
        have Hs4 := Lib.hid hs4
        clear hN4 hN4B hta4 htb4 hres4 hDn hs4 hD
        go_wp2_with fail
        generalize (w4.alloc (.cells #[.int .i64 nb'.kind, .string ⟨nb'.name.toArray⟩, .slice b5 nb'.kids.length bcap] 24)).alloc (.cells #[.int .i64 na.kind, .string ⟨na.name.toArray⟩, .slice a5 na.kids.length acap, .int .i64 nb'.kind, .string ⟨nb'.name.toArray⟩, .slice b5 nb'.kids.length bcap] 24) = W5 at *
        (with_reducible refine hcallP.mono ?_)
        clear hcallP c0 c1 c2 d0 d1 d2
        rintro e w6 ⟨hc6, ⟨m2, hm2, rfl, hN6⟩ | ⟨hm2, rfl⟩⟩
        · have hz5 := Hc4D.out.size
          have hres6 := hc6.at Hres4.out (fun e => by have e : w.heap.size + 1 = nb := e; omega)
          obtain ⟨c0, c1, c2, f0, f1, f2⟩ := cells_three hres6
          have k7 := chg_three w6 (w.heap.size + 1) (.int .i64 k) (.string ⟨#[]⟩) (.slice (some ⟨w4.heap.size + 1, 0, none⟩) 2 2)
          have hb7 := block_three_all hres6 (.int .i64 k) (.string ⟨#[]⟩) (.slice (some ⟨w4.heap.size + 1, 0, none⟩) 2 2)
          obtain ⟨e0, e1, e2, _⟩ := cells_three hb7
          have h46 : Chg (At1 nb) w4 w6 := Hc4D.out.any.trans1 hc6
          have h47 : Chg (fun q => q = nb ∨ q = w.heap.size + 1) w4 _ := (h46.mono (fun _ _ e => .inl e)).trans k7 (fun _ _ e => .inr e)
          have h37 : Chg (fun q => q = nb ∨ q = w.heap.size + 1) w3 _ := (((hA.any).trans1 hc4).mono (fun _ _ e => .inl e)).trans h47 (fun _ _ e => e)
          have hc7 : Chg (At1 nb) w _ := ((hcw3.trans1 hc4).mono (fun _ _ e => .inl e) : Chg (fun q => q = nb ∨ q = w.heap.size + 1) w w4).trans1 h47 |>.mono (fun i hi e => by rcases e with e | e; exact e; omega)
          have hF := nf_two (k := k) hFa hFb (by omega) (by omega) (fun q => q = nb ∨ q = w.heap.size + 1) (fun q e => by rcases e with e | e <;> omega) (fun q e => by rcases e with e | e <;> omega) h37 h47
            (k7.at (hc6.at HDn.out (fun e => by have e : w4.heap.size + 1 = nb := e; omega)) (fun e => by have e : w4.heap.size + 1 = w.heap.size + 1 := e; omega)) (by omega : w.heap.size ≤ w4.heap.size + 1)
          have hN7 := hN6.at1 k7 (by omega)
          have hsize : sizeT (T.node k [] [na, nb']) = 1 + (sizeT na + sizeT nb') := by rw [sizeT, sizeL, sizeL, sizeL]; omega
          have Hpost : Hid (NfPost nb (m + 1) (T.node k [] [nfT a no, nfT b not]) w (.returned (.agg #[.int .i64 k, .string ⟨#[]⟩, .slice (some ⟨w4.heap.size + 1, 0, none⟩) 2 2])) (((w6.setCell ⟨w.heap.size + 1, 0, none⟩ (.int .i64 k)).setCell ⟨w.heap.size + 1, 1, none⟩ (.string ⟨#[]⟩)).setCell ⟨w.heap.size + 1, 2, none⟩ (.slice (some ⟨w4.heap.size + 1, 0, none⟩) 2 2))) := by
            show NfPost _ _ _ _ _ _
            rw [← Hna.out, ← Hnb'.out]
            exact ⟨hc7, .inl ⟨_, by omega, rfl, hF, by rw [show m + 1 - sizeT (T.node k [] [na, nb']) = m2 by omega]; exact hN7⟩⟩
          have He := Lib.hid (And.intro e0 (And.intro e1 e2))
          clear k7 hb7 h47 h37 hc7 hF hN7 hres6 e0 e1 e2 hN6 hsize hFa hFb
          go_wp2
          obtain ⟨e0, e1, e2⟩ := He.out
          exact bodyPost_ret (v := .agg #[.int .i64 k, .string ⟨#[]⟩, .slice (some ⟨w4.heap.size + 1, 0, none⟩) 2 2]) (by simp [results, Tryz.results132, go_sem, e0, e1, e2]) rfl Hpost.out
        · go_wp2
          refine ⟨rfl, (hcw3.trans1 hc4).trans1 (Hc4D.out.any.trans1 hc6), .inr ⟨?_, rfl⟩⟩
          rw [← Hna.out, ← Hnb'.out, sizeT, sizeL, sizeL, sizeL]; omega
      · go_wp2
        refine ⟨rfl, hcw3.trans1 hc4, .inr ⟨?_, rfl⟩⟩
        rw [← Hna.out, sizeT, sizeL, sizeL, sizeL]; omega
    · go_wp2
      exact ⟨rfl, hcw2.trans1 hc3, .inr ⟨by rw [sizeT, sizeL, sizeL, sizeL]; omega, rfl⟩⟩
  · go_wp2
    exact ⟨rfl, hcW.any.trans1 hc1, .inr ⟨by rw [sizeT]; omega, rfl⟩⟩
end Go.Proofs.YtkgfdgfhpdhhaaaGreat
namespace Go.Proofs.YtkgfdgfhpdhhaaaGreat
open Go.ChangeShapes Go.WideShapes Go.RowKit Go.Shelf Go.Sort
end Go.Proofs.YtkgfdgfhpdhhaaaGreat
namespace Go.Proofs.YtkgfdgfhpdhhaaaGreat
section
variable {P : Program} {md : Region.Mode} {ops : Array Oper} {Q : Exit → Act → World → Prop} {F : Nat → Bool} {S : World → Prop}
def wpAnyG (P : Program) (md : Region.Mode) (ops : Array Oper) (Q : Exit → Act → World → Prop) (F : Nat → Bool) (S : World → Prop) : Nat → Array Bool → Act → World → Prop
  | 0, listed, a, w => Region.ready md ops listed = [] ∧ Q .normal a w
  | fuel + 1, listed, a, w =>
    (Region.ready md ops listed = [] → Q .normal a w) ∧
    ∀ i ∈ Region.ready md ops listed, wpOp P ops Q i (fun a' w' => (F i = true → S w') ∧ wpAnyG P md ops Q F S fuel (listed.setIfInBounds i true) a' w') a w
theorem wpAny_of_free : ∀ (fuel : Nat) (listed : Array Bool) (a : Act) (w : World), wpAnyG P md ops Q F S fuel listed a w → wpAny P md ops Q fuel listed a w
  | 0, _, _, _, h => h
  | fuel + 1, _, _, _, h => ⟨h.1, fun i hi => wpOp_mono (fun a' w' h' => wpAny_of_free fuel _ a' w' h'.2) (h.2 i hi)⟩
def waitsB (md : Region.Mode) (ops : Array Oper) (F : Nat → Bool) (i : Nat) : Bool :=
  (List.range ops.size).all fun j => F j || match ops[j]? with
    | some oj => oj.after.any (fun e => Region.binds md e && e.on == i)
    | none => true
theorem waitsB_spec {i j : Nat} {oj : Oper} (h : waitsB md ops F i = true) (hj : ops[j]? = some oj) (hF : F j = false) : ∃ e ∈ oj.after, Region.binds md e = true ∧ e.on = i := by
  unfold waitsB at h
  rw [List.all_eq_true] at h
  have h1 := h j (List.mem_range.2 (Array.getElem?_eq_some_iff.1 hj).1)
  rw [hF, hj, Bool.false_or] at h1
  obtain ⟨e, he, hb⟩ := Array.any_eq_true'.1 h1
  rw [Bool.and_eq_true, beq_iff_eq] at hb
  exact ⟨e, he, hb⟩
theorem wpAnyG_first {i : Nat} {oi : Oper} {v : Value} (hi : ops[i]? = some oi) (hsel : ∀ (j : Nat) (o : Oper) cs b, ops[j]? = some o → o.op ≠ .select cs b)
    (hQ : ∀ c a w, Q (.panic c) (a.put oi.dst v) w → Q (.panic c) a w) (hw : waitsB md ops F i = true) :
    ∀ (fuel : Nat) (listed : Array Bool) (a : Act) (w : World),
      (∀ j oj, ops[j]? = some oj → j ≠ i → listed.getD j true = false → (∀ e ∈ oj.after, Region.binds md e = true → e.on ≠ i) → oi.apart ops oj = true) →
      i ∈ Region.ready md ops listed → YieldsIf P ops S oi v a → S w →
      wpAnyG P md ops Q F S fuel (listed.setIfInBounds i true) (a.put oi.dst v) w → wpAnyG P md ops Q F S (fuel + 1) listed a w := by
  intro fuel
  induction fuel with
  | zero =>
    intro listed a w _ hr hy hS H
    refine ⟨fun h => (by rw [h] at hr; cases hr), fun j hj => ?_⟩
    by_cases hji : j = i
    · subst hji; exact hy.wpOp hi hS ⟨fun _ => hS, H⟩
    · have := ready_mono hj hji
      rw [H.1] at this
      cases this
  | succ fuel ih =>
    intro listed a w hfree hr hy hS H
    refine ⟨fun h => (by rw [h] at hr; cases hr), fun j hj => ?_⟩
    by_cases hji : j = i
    · subst hji; exact hy.wpOp hi hS ⟨fun _ => hS, H⟩
    · have h1 := H.2 j (ready_mono hj hji)
      obtain ⟨hjun, oj, hoj, hall⟩ := mem_ready.1 hj
      have hnot : ∀ e ∈ oj.after, Region.binds md e = true → e.on ≠ i := fun e he hb heq => by
        have h1 := hall e he hb
        have h0 := (mem_ready.1 hr).1
        rw [heq] at h1
        rcases Nat.lt_or_ge i listed.size with h' | h'
        · simp [h'] at h0 h1; rw [h0] at h1; cases h1
        · simp [Array.getElem?_eq_none h'] at h1
      have hF : F j = true := by
        cases hF : F j with
        | true => rfl
        | false =>
          obtain ⟨e, he, hb, heq⟩ := waitsB_spec hw hoj hF
          exact absurd heq (hnot e he hb)
      have h2 := wpOp_putIf hoj (hfree j oj hoj hji hjun hnot) (fun cs b => hsel i oi cs b hi) (fun cs b => hsel j oj cs b hoj) hQ hy h1
      have hfree' : ∀ k ok, ops[k]? = some ok → k ≠ i → (listed.setIfInBounds j true).getD k true = false →
          (∀ e ∈ ok.after, Region.binds md e = true → e.on ≠ i) → oi.apart ops ok = true := fun k ok hk hki hun hno => by
        refine hfree k ok hk hki ?_ hno
        by_cases hjk : j = k
        · subst hjk; exact hjun
        · rw [getD_set_ne true hjk] at hun; exact hun
      refine wpOp_mono (fun a' w' h3 => ⟨fun _ => h3.2.1 hF, ih (listed.setIfInBounds j true) a' w' hfree' (ready_mono hr (Ne.symm hji)) h3.1 (h3.2.1 hF) ?_⟩) h2
      rw [Array.setIfInBounds_comm _ _ hji]
      exact h3.2.2
theorem wpAnyG_take {i : Nat} {oi : Oper} {v : Value} {fuel : Nat} {listed : Array Bool} {a : Act} {w : World} (hi : ops[i]? = some oi)
    (hs : (Region.noSelect ops && waitsB md ops F i && Region.free md ops listed i && (Region.ready md ops listed).contains i) = true)
    (hQ : ∀ c a w, Q (.panic c) (a.put oi.dst v) w → Q (.panic c) a w) (hy : YieldsIf P ops S oi v a) (hS : S w)
    (h : wpAnyG P md ops Q F S fuel (listed.setIfInBounds i true) (a.put oi.dst v) w) : wpAnyG P md ops Q F S (fuel + 1) listed a w := by
  simp only [Bool.and_eq_true] at hs
  exact wpAnyG_first hi (Region.noSelect_spec hs.1.1.1) hQ hs.1.1.2 fuel listed a w (Region.free_spec hi hs.1.2) (by simpa using hs.2) hy hS h
theorem wpAnyG_done {listed : Array Bool} {a : Act} {w : World} (hr : Region.ready md ops listed = []) (h : Q .normal a w) : ∀ fuel, wpAnyG P md ops Q F S fuel listed a w
  | 0 => ⟨hr, h⟩
  | _ + 1 => ⟨fun _ => h, by rw [hr]; simp⟩
def AllReadyG (P : Program) (md : Region.Mode) (ops : Array Oper) (Q : Exit → Act → World → Prop) (F : Nat → Bool) (S : World → Prop) (fuel : Nat) (listed : Array Bool) (a : Act) (w : World) (rs : List Nat) : Prop :=
  ∀ i ∈ rs, wpOp P ops Q i (fun a' w' => (F i = true → S w') ∧ wpAnyG P md ops Q F S fuel (listed.setIfInBounds i true) a' w') a w
theorem AllReadyG.nil {fuel : Nat} {listed : Array Bool} {a : Act} {w : World} : AllReadyG P md ops Q F S fuel listed a w [] := fun _ h => by cases h
theorem AllReadyG.cons {fuel : Nat} {listed : Array Bool} {a : Act} {w : World} {i : Nat} {o : Oper} {rs : List Nat} (ho : ops[i]? = some o)
    (h : ∀ K' : Act → World → Prop, Shut (∀ a w, (F i = true → S w) → wpAnyG P md ops Q F S fuel (listed.setIfInBounds i true) a w → K' a w) → if Region.wanted o (yielded ops a.tmps) = true then Oper.wp P o a w K' Q else K' (a.put o.dst undef) w)
    (hs : AllReadyG P md ops Q F S fuel listed a w rs) : AllReadyG P md ops Q F S fuel listed a w (i :: rs) := fun j hj => by
  rcases List.mem_cons.1 hj with rfl | hj
  · exact wpOp_step ho (fun K' hK => h K' (fun a w hS hW => hK a w ⟨hS, hW⟩))
  · exact hs j hj
theorem wpAnyG_ready {rs : List Nat} {fuel : Nat} {listed : Array Bool} {a : Act} {w : World} (hr : Region.ready md ops listed = rs) (hne : rs ≠ [])
    (h : AllReadyG P md ops Q F S fuel listed a w rs) : wpAnyG P md ops Q F S (fuel + 1) listed a w := ⟨fun h0 => absurd (hr ▸ h0) hne, hr ▸ h⟩
theorem wp_region_free (F : Nat → Bool) (S : World → Prop) {id : Nat} {a : Act} {w : World} (hm : P.follows .mixedOrders = true) (hS : S w.drew)
    (h : S w.drew → wpAnyG P .any ops Q F S ops.size (Array.replicate ops.size false) a w.drew) : (Code.region id ops true).wp P Q a w :=
  wp_region_any hm (wpAny_of_free _ _ _ _ (h hS))
end
end Go.Proofs.YtkgfdgfhpdhhaaaGreat
namespace Go.Proofs.YtkgfdgfhpdhhaaaGreat
open Go.ChangeShapes Go.WideShapes Go.RowKit Go.Shelf Go.Sort
attribute [local go_sem] Oper.semAt_some
def headK : List T → Int
  | [] => 0
  | a :: _ => a.kind
end Go.Proofs.YtkgfdgfhpdhhaaaGreat
