/- The deferred closure of trail.Parse: what it does to a frame that returns, and to one that panics with a broken. Conditions: as each theorem states. -/
import Derived.Test.YtickdmalkmgkiaaValid
import Derived.Test.YtickdmalkmgkiaaRuint
import Derived.Defers
import Derived.Recover
import Derived.Laws.Pointers
namespace Go.Proofs.Ytickdmalkmgkiaa
open Go.ChangeShapes Go.WideShapes Go.ChangeAt Go.RowKit

theorem block_one_set {w : World} {b : Nat} {x u : Value} {t : TypeId} (h : w.heap[b]? = some (.cells #[x] t (0, 0))) : (w.setCell ⟨b, 0, none⟩ u).heap[b]? = some (.cells #[u] t (0, 0)) := by
  simp [World.setCell, Array.getElem?_modify, h]

set_option maxRecDepth 100000 in
set_option maxHeartbeats 1000000 in
theorem pcatch_idle (p q : Addr) (w : World) :
    CallsD Try.prog 64 #[.pointer (some p), .pointer (some q)] .returning w fun e u' w' => e = .returned (.tuple #[]) ∧ u' = .returning ∧ w' = w := by
  refine callsD_of_wpS Try.func64 rfl fun c₀ cs hu => ?_
  apply wpS_seq
  apply wpS_region
  simp [wpOpsS, go_sem, recoverD, hu, Try.ntmps64, Exit.thenS]
  refine wpS_of_wp ?_
  go_wp2
  cases c₀
  simp_all [bodyPostS, results, Try.results64]

set_option maxRecDepth 100000 in
set_option maxHeartbeats 1000000 in
theorem pcatch_broken (p q : Nat) (v c e0 : Value) (older : List PanicEntry) (w : World) (hp : w.heap[p]? = some (.cells #[v, c] 24)) (hq : w.heap[q]? = some (.cells #[e0] 27)) (hpq : p ≠ q) :
    CallsD Try.prog 64 #[.pointer (some ⟨p, 0, none⟩), .pointer (some ⟨q, 0, none⟩)] (.panicking ({ v := .iface 102 (.agg #[]), recovered := false } :: older)) w fun e u' w' =>
      e = .returned (.tuple #[]) ∧ u' = .panicking ({ v := .iface 102 (.agg #[]), recovered := true } :: older) ∧
        Chg (fun k => k = p ∨ k = q) w w' ∧ w'.heap[p]? = some (.cells #[.slice none 0 0, .int .i64 0] 24) ∧ w'.heap[q]? = some (.cells #[.int .i64 230] 27) := by
  have hta : ∀ w : World, (Instr.typeAssert (.iface 102 (.agg #[])) 20 102 true).run Try.prog w = .ok (.tuple #[.agg #[], .bool true]) w := fun _ => by kernel_rfl
  refine callsD_of_wpS Try.func64 rfl fun c₀ cs hu => ?_
  apply wpS_seq
  apply wpS_region
  simp [wpOpsS, go_sem, recoverD, hu, Try.ntmps64, Exit.thenS]
  refine wpS_of_wp ?_
  have hp1 := ((Chg.refl Nob w).alloc (.cells #[] 102)).at hp (fun e => e)
  have hq1 := ((Chg.refl Nob w).alloc (.cells #[] 102)).at hq (fun e => e)
  obtain ⟨c0, c1, f0, f1⟩ := cell_two hp1
  have d0 : (w.alloc (.cells #[] 102)).cell? ⟨q, 0, none⟩ = some e0 := cell_row hq1 0 rfl
  have g0 : (w.alloc (.cells #[] 102)).frozen? ⟨q, 0, none⟩ = false := by unfold World.frozen?; simp [hq1]
  go_wp2
  cases c₀
  have hc : Chg (fun k => k = p ∨ k = q) w ((((w.alloc (Obj.cells #[] 102)).setCell ⟨p, 0, none⟩ (.slice none 0 0)).setCell ⟨p, 1, none⟩ (.int .i64 0)).setCell ⟨q, 0, none⟩ (.int .i64 230)) :=
    ((((Chg.refl _ _).alloc _).setCell (p := ⟨p, 0, none⟩) (fun _ => .inl rfl) _).setCell (p := ⟨p, 1, none⟩) (fun _ => .inl rfl) _).setCell (p := ⟨q, 0, none⟩) (fun _ => .inr rfl) _
  have h3 := block_two_set1 (u := .int .i64 0) (block_two_set0 (u := .slice none 0 0) hp1)
  have h4 := ((Chg.refl (At1 q) (((w.alloc (Obj.cells #[] 102)).setCell ⟨p, 0, none⟩ (.slice none 0 0)).setCell ⟨p, 1, none⟩ (.int .i64 0))).setCell (p := ⟨q, 0, none⟩) (fun _ => rfl) (.int .i64 230)).at h3 hpq
  have k3 := (((Chg.refl (At1 p) (w.alloc (Obj.cells #[] 102))).setCell (p := ⟨p, 0, none⟩) (fun _ => rfl) (.slice none 0 0)).setCell (p := ⟨p, 1, none⟩) (fun _ => rfl) (.int .i64 0)).at hq1 (fun e => hpq e.symm)
  have k4 := block_one_set (u := .int .i64 230) k3
  exact ⟨rfl, _, rfl, .tuple #[], by simp [results, Try.results64], rfl, rfl, hc, h4, k4⟩
end Go.Proofs.Ytickdmalkmgkiaa
