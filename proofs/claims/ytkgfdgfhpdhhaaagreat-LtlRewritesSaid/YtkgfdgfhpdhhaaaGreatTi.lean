/- Formulas anywhere in the world, as the laws' walks meet them. Conditions: as each theorem states. -/
import Derived.Test.YtkgfdgfhpdhhaaaGreatNfPlain
namespace Go.Proofs.YtkgfdgfhpdhhaaaGreat
open Go.ChangeShapes Go.WideShapes Go.RowKit

/-- A formula lies in the world. -/
def TI (w : World) (t : T) (v : Value) : Prop := IsTree (fun b => b < w.heap.size) w t v
theorem TI.nob {w w' : World} {t : T} {v : Value} (h : TI w t v) (hc : Chg Nob w w') : TI w' t v := IsTree.mono (fun _ _ _ hv => hc.cell' hv (fun e => e)) (fun _ hb => Nat.lt_of_lt_of_le hb hc.size) t v h
theorem TI.old {w : World} {t : T} {v : Value} (h : IsTree (Old w) w t v) : TI w t v := h
theorem TI.fresh {lo : Nat} {w : World} {t : T} {v : Value} (h : Fresh (Ge lo) w t v) : TI w t v := IsTree.mono (fun _ _ _ hv => hv) (fun _ hb => hb.2) t v h.tree
theorem TI.zero (w : World) : TI w (.node 0 [] []) (.agg #[.int .i64 0, .string ⟨#[]⟩, .slice none 0 0]) := tree_zero
theorem TI.one {w : World} {t : T} {a b c : Value} {S : Nat} {k : Int} (h : TI w t (.agg #[a, b, c])) (hS : w.heap[S]? = some (.cells #[a, b, c] 24 (0, 0))) : TI w (.node k [] [t]) (.agg #[.int .i64 k, .string ⟨#[]⟩, .slice (some ⟨S, 0, none⟩) 1 1]) := by
  unfold TI at *
  obtain ⟨ao, cap, e, _, _⟩ := h.parts
  cases e
  rw [IsTree]
  refine ⟨_, 1, rfl, by simp, IsKids.mk _ _ (fun j u hj => ?_)⟩
  match j, hj with
  | 0, hj =>
    obtain rfl : t = u := by simpa using hj
    obtain ⟨c0, c1, c2, _⟩ := cells_three hS
    exact ⟨S, 0, _, _, _, rfl, (Array.getElem?_eq_some_iff.1 hS).1, c0, c1, c2, h⟩
theorem TI.two {w : World} {t u : T} {a b c d e f : Value} {S : Nat} {k : Int} (h : TI w t (.agg #[a, b, c])) (h2 : TI w u (.agg #[d, e, f])) (hS : w.heap[S]? = some (.cells #[a, b, c, d, e, f] 24 (0, 0))) : TI w (.node k [] [t, u]) (.agg #[.int .i64 k, .string ⟨#[]⟩, .slice (some ⟨S, 0, none⟩) 2 2]) := by
  unfold TI at *
  obtain ⟨ao, cap, e1, _, _⟩ := h.parts
  cases e1
  obtain ⟨ao2, cap2, e2, _, _⟩ := h2.parts
  cases e2
  rw [IsTree]
  refine ⟨_, 2, rfl, by simp, IsKids.mk _ _ (fun j x hj => ?_)⟩
  match j, hj with
  | 0, hj =>
    obtain rfl : t = x := by simpa using hj
    exact ⟨S, 0, _, _, _, rfl, (Array.getElem?_eq_some_iff.1 hS).1, cell_row hS 0 rfl, cell_row hS 1 rfl, cell_row hS 2 rfl, h⟩
  | 1, hj =>
    obtain rfl : u = x := by simpa using hj
    exact ⟨S, 0, _, _, _, rfl, (Array.getElem?_eq_some_iff.1 hS).1, cell_row hS 3 rfl, cell_row hS 4 rfl, cell_row hS 5 rfl, h2⟩
theorem TI.agg {w : World} {t : T} {v : Value} (h : TI w t v) : ∃ ao cap, v = .agg #[.int .i64 t.kind, .string ⟨t.name.toArray⟩, .slice ao t.kids.length cap] := by
  obtain ⟨ao, cap, e, _, _⟩ := h.parts
  exact ⟨ao, cap, e⟩
/-- What a call that makes a formula leaves. -/
def NormTi (t : T) (w : World) (e : Ending) (w' : World) : Prop := Chg Nob w w' ∧ ∃ ao cap, TI w' (normT t) (.agg #[.int .i64 (normT t).kind, .string ⟨(normT t).name.toArray⟩, .slice ao (normT t).kids.length cap]) ∧ e = .returned (.tuple #[.agg #[.int .i64 (normT t).kind, .string ⟨(normT t).name.toArray⟩, .slice ao (normT t).kids.length cap], .int .i64 (normN t)])
theorem norm_ti {t : T} {v : Value} {w : World} (h : TI w t v) (hN : sizeT t ≤ 1000000) : Calls Tryz.prog 44 #[v] w (NormTi t w) :=
  (Normal_any _ t v w h hN (fun _ hb => hb)).mono fun _ _ h => by
    obtain ⟨hc, ao, cap, hF, he⟩ := norm_post h
    exact ⟨hc, ao, cap, TI.fresh hF, he⟩
theorem same_ti {t u : T} {v1 v2 : Value} {w : World} (h1 : TI w t v1) (h2 : TI w u v2) : Calls Tryz.prog 138 #[v1, v2] w fun e w' => e = .returned (.bool (sameT t u)) ∧ Chg Nob w w' := same_any t _ _ u v1 v2 w h1 h2
theorem rsame_ti {t u : T} {v1 v2 : Value} {w : World} (h1 : TI w t v1) (h2 : TI w u v2) : Calls Tryz.prog 18 #[v1, v2] w fun e w' => e = .returned (.bool (sameT t u)) ∧ Chg Nob w w' := rsame_any t _ _ u v1 v2 w h1 h2
theorem plain_ti {t : T} {v : Value} {w : World} (h : TI w t v) (hN : sizeT t ≤ 1000000) : Calls Tryz.prog 46 #[v] w fun e w' => e = .returned (.bool (plainB t)) ∧ Chg Nob w w' := plain_any _ t v w h hN (fun _ hb => hb)
theorem check_ti {t : T} {v : Value} {w : World} (h : TI w t v) (hN : sizeT t ≤ 1000000) : Calls Tryz.prog 73 #[v] w fun e w' => e = .returned (.int .i64 (checkN t)) ∧ Chg Nob w w' := check_any' _ t v w h hN (fun _ hb => hb)
theorem print_ti {t : T} {v : Value} {w : World} (h : TI w t v) (hN : sizeT t ≤ 1000000) : Calls Tryz.prog 43 #[v] w fun e w' => e = .returned (.tuple #[.string ⟨(printT t).toArray⟩, .int .i64 (printN t)]) ∧ Chg Nob w w' := Print_any _ t v w h hN (fun _ hb => hb)
theorem great_ti {t : T} {v : Value} {w : World} (h : TI w t v) : Calls Tryz.prog 14 #[v, .int .i64 100000] w fun e w' => e = .returned (.int .i64 (greatT t 100000)) ∧ Chg Nob w w' := great_any _ _ t (Nat.le_refl _) v 100000 w h (by omega) (by omega)
/-- What a text that is read leaves. -/
def ParseTi (s : List UInt8) (w : World) (e : Ending) (w' : World) : Prop := Chg Nob w w' ∧ ((∃ t ao cap, PR s (.ok t) ∧ TI w' t (.agg #[.int .i64 t.kind, .string ⟨t.name.toArray⟩, .slice ao t.kids.length cap]) ∧ e = .returned (.tuple #[.agg #[.int .i64 t.kind, .string ⟨t.name.toArray⟩, .slice ao t.kids.length cap], .agg #[.int .i64 0, .int .i64 0]])) ∨
  (∃ c p, PR s (.err (c, p)) ∧ e = .returned (.tuple #[.agg #[.int .i64 0, .string ⟨#[]⟩, .slice none 0 0], .agg #[.int .i64 c, .int .i64 (p : Int)]])))
theorem parse_ti (s : List UInt8) (w : World) : Calls Tryz.prog 42 #[.string ⟨s.toArray⟩] w (ParseTi s w) :=
  (Parse_any s w).mono fun _ _ h => by
    obtain ⟨hc, r, hr, he⟩ := h
    refine ⟨hc, ?_⟩
    cases r with
    | ok t =>
      obtain ⟨v, hF, rfl⟩ := he
      obtain ⟨ao, cap, rfl⟩ := hF.agg
      exact .inl ⟨t, ao, cap, hr, TI.fresh hF, rfl⟩
    | err x =>
      obtain ⟨c, p⟩ := x
      exact .inr ⟨c, p, hr, he⟩
/-- A box of a formula. -/
theorem box_one (w : World) (a0 a1 a2 : Value) : ∃ X, X = w.alloc (.cells #[a0, a1, a2] 24) ∧ Chg Nob w X ∧ X.heap.size = w.heap.size + 1 ∧ X.heap[w.heap.size]? = some (.cells #[a0, a1, a2] 24 (0, 0)) := ⟨_, rfl, (Chg.refl _ _).alloc _, World.size_alloc _ _, heap_alloc_new _ _⟩
/-- A slice of one, and a box of the formula that has it. -/
theorem box_kid (w : World) (a0 a1 a2 b0 b1 b2 : Value) : ∃ X, X = (w.alloc (.cells #[a0, a1, a2] 24)).alloc (.cells #[b0, b1, b2] 24) ∧ Chg Nob w X ∧ X.heap.size = w.heap.size + 2 ∧ X.heap[w.heap.size]? = some (.cells #[a0, a1, a2] 24 (0, 0)) ∧ X.heap[w.heap.size + 1]? = some (.cells #[b0, b1, b2] 24 (0, 0)) := by
  have h1 := heap_alloc_new (w.alloc (.cells #[a0, a1, a2] 24)) (.cells #[b0, b1, b2] 24)
  rw [World.size_alloc] at h1
  exact ⟨_, rfl, ((Chg.refl _ _).alloc _).alloc _, by rw [World.size_alloc, World.size_alloc], ((Chg.refl Nob _).alloc _).at (heap_alloc_new w _) (fun e => e), h1⟩
end Go.Proofs.YtkgfdgfhpdhhaaaGreat
