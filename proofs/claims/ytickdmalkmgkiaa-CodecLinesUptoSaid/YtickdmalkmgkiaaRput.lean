/- ref23.put: a number's bytes behind a row of bytes. Conditions: as each theorem states. -/
import Derived.Test.YtickdmalkmgkiaaTwrite
import Derived.Test.YtickdmalkmgkiaaRefOne
import Derived.Lib.AppendStr
namespace Go.Proofs.Ytickdmalkmgkiaa
open Go.ChangeShapes Go.WideShapes Go.ChangeAt Go.RowKit

/-- An append whose run is known. -/
theorem wpList_append_known {P : Program} {w : World} {ops : Array Oper} {rest : List Oper} {o : Oper} {a : Act} {Q : Exit → Act → World → Prop} (hgd : o.guard = none) (sl x : Operand) (t u : TypeId)
    (ho : o.op = .call { callee := .builtin .append, args := #[sl, x], argTypes := #[t, u] }) (v xv : Value) (hs : a.eval sl = v) (hx : a.eval x = xv) (v' : Value) (w' : World)
    (hr : (Builtin.append_ #[t, u] o.type #[v, xv]).run P w = .ok v' w') (h : wpList P ops Q rest (a.put o.dst v') w') : wpList P ops Q (o :: rest) a w := by
  refine wpList_plain hgd fun K hK => ?_
  unfold Oper.wp execOp
  simp only [ho, resolve, invoke, builtin, Sem.run_bind, Sem.run_pure, Result.andThen_ok, List.map_toArray, List.map_cons, List.map_nil, hs, hx, hr]
  exact hK _ _ h

theorem strCells_mk (l : List UInt8) : Lib.strCells ⟨l.toArray⟩ = l.map bv := by
  unfold Lib.strCells; rfl

/-- A full row of bytes that is appended to: a new row. -/
theorem append_full (w : World) (g : Nat) (l s : List UInt8) (hc : ∀ j u, (l.map bv)[j]? = some u → w.cell? ⟨g, j, none⟩ = some u) (hs : 0 < s.length) (hl : l.length + s.length ≤ 1000000000) :
    ∃ v' w', (Builtin.append_ #[26, 9] 26 #[.slice (some ⟨g, 0, none⟩) l.length l.length, .string ⟨s.toArray⟩]).run Try.prog w = .ok v' w' ∧ w'.ownsRow w.heap.size 5 1 v' (l ++ s).length ((l ++ s).map bv) ∧ Chg Nob w w' := by
  obtain ⟨i0, hi, hz0, hz1, hz2⟩ := info_parts Try.info5
  have hsz : (⟨s.toArray⟩ : ByteArray).size = s.length := by show s.toArray.size = _; simp
  have hr := Lib.run_append_grow_string (P := Try.prog) w 26 9 26 5 i0 (.int .u8 0) Try.underlying26 Try.underlying9 hi hz0 ⟨g, 0, none⟩ l.length l.length (l.map bv) (by rw [hz1]; simp) (fun j u h => by rw [Go.WideShapes.add_plain]; simpa using hc j u h) ⟨s.toArray⟩ (by omega) (by omega) (by rw [hz2]; exact growslice_fits (by omega) (by omega))
  refine ⟨_, _, hr, ?_, ?_⟩
  · rw [hsz, List.length_append]
    have hge := grownCap_ge w (l.length + s.length) l.length 5
    have hcm : grownCap w (l.length + s.length) l.length 5 ≤ maxLen := grownCap_le_maxLen w (l.length + s.length) l.length 5 (by unfold maxLen; omega)
    have hlen : ((l ++ s).map bv).length = (l.length + s.length) * 1 := by simp
    have hst : (Lib.strCells ⟨s.toArray⟩).length = s.length := by rw [strCells_mk]; simp
    refine ⟨hlen, .inr ⟨w.heap.size, _, _, rfl, Nat.le_refl _, heap_alloc_new w.drew _, hge, hcm, ?_, ?_⟩⟩
    · have hz1 : (Value.int IntKind.u8 0).cells.size = 1 := rfl
      simp only [Array.size_append, List.size_toArray, size_zeroCells, hz1, List.length_map, hst]
      omega
    · simp only [Array.toList_append, List.append_assoc]
      rw [← List.append_assoc, ← hlen, strCells_mk, ← List.map_append]
      exact List.take_left
  · exact ((Chg.refl _ _).drew).alloc _

set_option maxRecDepth 100000 in
set_option maxHeartbeats 400000 in
theorem rput_any (v : Value) (n : Nat) (wr : World) (hn : n ≤ 1000000) (Post : World → Value → World → Prop)
    (hap : ∀ w1, Chg Nob wr w1 → ∃ v' w', (Builtin.append_ #[26, 9] 26 #[v, .string ⟨(numb n).toArray⟩]).run Try.prog w1 = .ok v' w' ∧ Post w1 v' w') :
    Calls Try.prog 50 #[v, .int .i64 n] wr fun e w' => ∃ v' w1, e = .returned v' ∧ Chg Nob wr w1 ∧ Post w1 v' w' := by
  have Hap := Lib.hid hap
  clear hap
  have hnum := Number_all n wr (by omega)
  go_enter Try.func50, Try.ntmps50
  go_wp2_with fail
  (with_reducible refine hnum.mono ?_)
  rintro e w1 ⟨rfl, hc⟩
  obtain ⟨v', w', hr, hp⟩ := Hap.out w1 hc
  go_wp2_with (refine wpList_append_known rfl _ _ 26 9 rfl _ _ rfl rfl v' w' hr ?_)
  go_wp2_with fail
  go_ret
  exact ⟨v', w1, rfl, hc, hp⟩

theorem row_le {w : World} {base base' size n : Nat} {e : TypeId} {v : Value} {xs : List Value} (h : w.ownsRow base e size v n xs) (hb : base' ≤ base) : w.ownsRow base' e size v n xs := by
  refine ⟨h.1, ?_⟩
  rcases h.2 with hn | ⟨g, cap, cur, hv, hbg, rest⟩
  · exact .inl hn
  · exact .inr ⟨g, cap, cur, hv, Nat.le_trans hb hbg, rest⟩
/-- The reference's bytes so far, in a row of its own. -/
def RP (W0 : World) (l : List UInt8) (v : Value) (wr : World) : Prop := wr.ownsRow W0.heap.size 5 1 v l.length (l.map bv) ∧ Chg Nob W0 wr
theorem RP.keep {W0 w w' : World} {l : List UInt8} {v : Value} (h : RP W0 l v w) (hc : Chg Nob w w') : RP W0 l v w' := ⟨ownsRow_chg h.1 hc (fun _ _ e => e), h.2.trans hc (fun _ _ e => e)⟩
/-- What is no row of bytes stays. -/
def Keep5 (w w' : World) : Prop := ∀ (k : Nat) (cs : Array Value) (t : TypeId) (m : Nat × Nat), t ≠ 5 → w.heap[k]? = some (Obj.cells cs t m) → w'.heap[k]? = some (Obj.cells cs t m)
theorem rput_first {W0 wr : World} {g n : Nat} {l : List UInt8} (hn : n ≤ 1000000) (hl : l.length ≤ 1000) (hc : ∀ j u, (l.map bv)[j]? = some u → wr.cell? ⟨g, j, none⟩ = some u) (h0 : Chg Nob W0 wr) :
    Calls Try.prog 50 #[.slice (some ⟨g, 0, none⟩) l.length l.length, .int .i64 n] wr fun e w' => ∃ v', e = .returned v' ∧ RP W0 (l ++ numb n) v' w' ∧ Keep5 wr w' := by
  have h10 := numb_len10 (n := n) (by omega)
  refine (rput_any _ n wr hn (fun w1 v' w' => w'.ownsRow w1.heap.size 5 1 v' (l ++ numb n).length ((l ++ numb n).map bv) ∧ Chg Nob w1 w') (fun w1 h1 => ?_)).mono ?_
  · exact append_full w1 g l (numb n) (fun j u h => h1.cell' (hc j u h) (fun e => e)) (numb_pos n) (by omega)
  · rintro e w' ⟨v', w1, rfl, h1, h2, h3⟩
    have hh := (h0.trans1 h1)
    exact ⟨v', rfl, ⟨row_le h2 hh.size, hh.trans1 h3⟩, fun k cs t m _ h => (h1.trans1 h3).at h (fun e => e)⟩
theorem rput_next {W0 wr : World} {v : Value} {n : Nat} {l : List UInt8} (hn : n ≤ 1000000) (hl : l.length ≤ 1000000) (h : RP W0 l v wr) :
    Calls Try.prog 50 #[v, .int .i64 n] wr fun e w' => ∃ v', e = .returned v' ∧ RP W0 (l ++ numb n) v' w' ∧ Keep5 wr w' := by
  obtain ⟨i0, hi, hz0, hz1, hz2⟩ := info_parts Try.info5
  have h10 := numb_len10 (n := n) (by omega)
  have hsz : (⟨(numb n).toArray⟩ : ByteArray).size = (numb n).length := by show (numb n).toArray.size = _; simp
  refine (rput_any v n wr hn (fun w1 v' w' => w'.ownsRow W0.heap.size 5 1 v' (l ++ numb n).length ((l ++ numb n).map bv) ∧ w1.grownBy w' v.ownBlock) (fun w1 h1 => ?_)).mono ?_
  · have hk := h.keep h1
    obtain ⟨v', w', hr, h2, h3, _⟩ := Lib.run_append_own_string (P := Try.prog) w1 W0.heap.size 26 9 26 5 i0 Try.underlying26 Try.underlying9 hi hz0 hz1 hz2 v l.length (l.map bv) hk.1 ⟨(numb n).toArray⟩ (by unfold maxLen; omega) (by omega) hk.2.size
    rw [hsz, strCells_mk, ← List.map_append, ← List.length_append] at h2
    exact ⟨v', w', hr, h2, h3⟩
  · rintro e w' ⟨v', w1, rfl, h1, h2, h3⟩
    have hk := h.keep h1
    refine ⟨v', rfl, ⟨h2, hk.2.grown h3 (fun k hk2 hk3 => by have := (hk.1.lt k hk2).1; omega)⟩, fun k cs t m ht hh => ?_⟩
    have h4 := h1.at hh (fun e => e)
    rw [h3.block k (Array.getElem?_eq_some_iff.1 h4).1 (fun e => ?_)]
    · exact h4
    · obtain ⟨cs', m', h5⟩ := ownsRow_block hk.1 k e.symm
      rw [h4] at h5; simp at h5; exact ht h5.2.1

end Go.Proofs.Ytickdmalkmgkiaa
