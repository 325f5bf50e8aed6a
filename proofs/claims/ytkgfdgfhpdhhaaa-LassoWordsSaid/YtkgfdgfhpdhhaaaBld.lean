/- A strings.Builder within ltl's printer. Conditions: it lies in the world. -/
import Derived.Test.YtkgfdgfhpdhhaaaIs
import Derived.Lib.Builder
import Derived.Lib.UnsafeStr
import Derived.RegionTactic
import Derived.BigRegion
import Derived.Laws.Externs
namespace Go.Proofs.Ytkgfdgfhpdhhaaa
open Go.ChangeShapes Go.WideShapes Go.RowKit

/-- A printer that has written l; its row lies from B on. -/
structure Bd (w : World) (pb B : Nat) (l : List UInt8) : Prop where
  blk : ∃ a v, w.heap[pb]? = some (.cells #[a, v] 98 (0, 0)) ∧ (a = .pointer none ∨ a = .pointer (some ⟨pb, 0, none⟩)) ∧ w.ownsRow B 5 1 v l.length (Lib.byteCells l)
  lo : B ≤ w.heap.size
/-- What writing may change: the printer, rows of bytes from B on. -/
def BdS (w : World) (pb B : Nat) : Nat → Prop := fun k => k = pb ∨ (B ≤ k ∧ ∃ cs m, w.heap[k]? = some (.cells cs 5 m))
def BdC (pb B : Nat) (w w' : World) : Prop := Chg (BdS w pb B) w w'
theorem BdC.refl (pb B : Nat) (w : World) : BdC pb B w w := Chg.refl _ _
theorem BdC.trans {pb B : Nat} {a b c : World} (h : BdC pb B a b) (k : BdC pb B b c) : BdC pb B a c := by
  refine Chg.trans h k (fun i hi e => ?_)
  rcases Classical.em (BdS a pb B i) with h1 | h1
  · exact h1
  · rcases e with e | ⟨e1, cs, m, e2⟩
    · exact .inl e
    · rw [h.block i hi h1] at e2
      exact .inr ⟨e1, cs, m, e2⟩
theorem BdC.nob {pb B : Nat} {a b : World} (h : Chg Nob a b) : BdC pb B a b := h.any
theorem BdC.at {pb B k t : Nat} {w w' : World} {cs : Array Value} {m : Nat × Nat} (h : BdC pb B w w') (hk : w.heap[k]? = some (.cells cs t m)) (hp : k ≠ pb) (ht : t ≠ 5) : w'.heap[k]? = some (.cells cs t m) :=
  Chg.at h hk (fun e => by
    rcases e with e | ⟨_, cs', m', e⟩
    · exact hp e
    · rw [hk] at e; cases e; exact ht rfl)
theorem BdC.tree {pb B : Nat} {w w' : World} {R : Nat → Prop} {t : T} {v : Value} (h : BdC pb B w w') (ht : IsTree R w t v) (hR : ∀ b, R b → b < B ∧ b ≠ pb) : IsTree R w' t v :=
  ht.chg h (fun b hb e => by
    have := hR b hb
    rcases e with e | ⟨e, _⟩
    · exact this.2 e
    · omega)
theorem Bd.nob {w w' : World} {pb B : Nat} {l : List UInt8} (h : Bd w pb B l) (hc : Chg Nob w w') : Bd w' pb B l := by
  obtain ⟨a, v, hb, ha, hr⟩ := h.blk
  exact ⟨⟨a, v, hc.at hb (fun e => e), ha, ownsRow_chg hr hc (fun _ _ e => e)⟩, Nat.le_trans h.lo hc.size⟩
theorem Bd.lt {w : World} {pb B : Nat} {l : List UInt8} (h : Bd w pb B l) : pb < w.heap.size := by
  obtain ⟨a, v, hb, _⟩ := h.blk
  exact (Array.getElem?_eq_some_iff.1 hb).1

theorem Try.info96 : (Try.prog.info? 96).map (fun i => i.size) = some 2 := by kernel_rfl
theorem Try.info5 : (Try.prog.info? 5).map (fun i => (i.zero, i.size, i.bytes)) = some (some (.int .u8 0), 1, 1) := by kernel_rfl
theorem info5_parts : ∃ i, Try.prog.info? 5 = some i ∧ i.zero = some (.int .u8 0) ∧ i.size = 1 ∧ i.bytes = 1 := by
  have h := Try.info5
  cases hi : Try.prog.info? 5 with
  | none => rw [hi] at h; simp at h
  | some i => rw [hi] at h; simp at h; exact ⟨i, rfl, h.1, h.2.1, h.2.2⟩

set_option maxRecDepth 100000 in
set_option maxHeartbeats 1000000 in
theorem len_any (w : World) (pb B : Nat) (l : List UInt8) (h : Bd w pb B l) : Calls Try.prog 61 #[.pointer (some ⟨pb, 0, none⟩)] w (Rets (.int .i64 l.length) w) := by
  obtain ⟨a, v, hb, ha, hr⟩ := h.blk
  obtain ⟨ao, cap, rfl⟩ := ownsRow_shape hr
  obtain ⟨c0, c1, _⟩ := cell_two hb
  clear hb ha hr h
  go_enter Try.func61, Try.ntmps61
  go_wp2
  go_ret
  exact ⟨rfl, rfl⟩

set_option maxRecDepth 100000 in
set_option maxHeartbeats 1000000 in
theorem check_used (w : World) (pb : Nat) (h0 : w.cell? ⟨pb, 0, none⟩ = some (.pointer (some ⟨pb, 0, none⟩))) : Calls Try.prog 111 #[.pointer (some ⟨pb, 0, none⟩)] w (Rets (.tuple #[]) w) := by
  obtain ⟨j, hj, hjs⟩ := Option.map_eq_some_iff.1 Try.info96
  go_enter Try.func111, Try.ntmps111
  go_wp2
  rw [Lib.run_neq_ptr_same w _ Try.underlying93 hj]
  go_wp2
  go_end0
  exact ⟨rfl, rfl⟩
theorem run145 (x : Value) (w : World) : (callFunc 145 #[x]).run Try.prog w = .ok (.value x) w := by
  rw [run_callFunc_extern Try.func145 (by kernel_rfl) (by kernel_rfl) (by kernel_rfl) (e := Extern.AbiNoEscape.same) (by kernel_rfl), Lib.run_noEscape]
  rfl
set_option maxRecDepth 100000 in
set_option maxHeartbeats 1000000 in
theorem check_fresh (w : World) (pb : Nat) (v : Value) (hb : w.heap[pb]? = some (.cells #[.pointer none, v] 98 (0, 0))) : Calls Try.prog 111 #[.pointer (some ⟨pb, 0, none⟩)] w (Rets (.tuple #[]) (w.setCell ⟨pb, 0, none⟩ (.pointer (some ⟨pb, 0, none⟩)))) := by
  obtain ⟨j, hj, hjs⟩ := Option.map_eq_some_iff.1 Try.info96
  obtain ⟨c0, c1, f0, f1⟩ := cell_two hb
  have hsh : w.shape? pb = some (98, 2) := by simp [World.shape?, hb]
  have hto : (convert 93 177 (.pointer (some ⟨pb, 0, none⟩))).run Try.prog w = .ok (.pointer (some ⟨pb, 0, none⟩)) w := Lib.run_to_unsafe w ⟨pb, 0, none⟩ Try.underlying93 Try.underlying177 hj (by rw [hjs]; decide) hsh (Nat.zero_lt_succ 1)
  have hfrom : (convert 177 93 (.pointer (some ⟨pb, 0, none⟩))).run Try.prog w = .ok (.pointer (some ⟨pb, 0, none⟩)) w := Lib.run_from_unsafe w ⟨pb, 0, none⟩ Try.underlying177 Try.underlying93 hj hsh (by kernel_rfl)
  have h145 := run145 (.pointer (some ⟨pb, 0, none⟩)) w
  clear hb hsh hj hjs
  go_enter Try.func111, Try.ntmps111
  go_wp2
  go_end0
  exact ⟨rfl, rfl⟩
theorem check_any (w : World) (pb B : Nat) (l : List UInt8) (h : Bd w pb B l) : Calls Try.prog 111 #[.pointer (some ⟨pb, 0, none⟩)] w fun e w' => e = .returned (.tuple #[]) ∧ Chg (At1 pb) w w' ∧ (∃ v, w'.heap[pb]? = some (.cells #[.pointer (some ⟨pb, 0, none⟩), v] 98 (0, 0)) ∧ w'.ownsRow B 5 1 v l.length (Lib.byteCells l)) := by
  obtain ⟨a, v, hb, ha, hr⟩ := h.blk
  rcases ha with rfl | rfl
  · refine (check_fresh w pb v hb).mono ?_
    rintro e w' ⟨rfl, rfl⟩
    exact ⟨rfl, (Chg.refl (At1 pb) _).setCell (p := ⟨pb, 0, none⟩) (fun _ => rfl) _, v, block_two_set0 hb, ownsRow_setCell_type hr hb (by decide) _⟩
  · refine (check_used w pb (cell_two hb).1).mono ?_
    rintro e w' ⟨rfl, rfl⟩
    exact ⟨rfl, Chg.refl _ _, v, hb, hr⟩

theorem bd_put {w w1 w2 : World} {pb B : Nat} {l l' : List UInt8} {v v' : Value} (h : Bd w pb B l) (h1 : Chg (At1 pb) w w1) (hb1 : w1.heap[pb]? = some (.cells #[.pointer (some ⟨pb, 0, none⟩), v] 98 (0, 0))) (hr1 : w1.ownsRow B 5 1 v l.length (Lib.byteCells l)) {wA : World} (hA : Chg Nob w1 wA)
    (hgr : wA.grownBy w2 v.ownBlock) (hr2 : w2.ownsRow B 5 1 v' l'.length (Lib.byteCells l')) : Bd (w2.setCell ⟨pb, 1, none⟩ v') pb B l' ∧ BdC pb B w (w2.setCell ⟨pb, 1, none⟩ v') ∧ w2.heap[pb]? = some (.cells #[.pointer (some ⟨pb, 0, none⟩), v] 98 (0, 0)) := by
  have hrA := ownsRow_chg hr1 hA (fun _ _ e => e)
  have hne := ownsRow_ne_type hr1 hb1 (by decide)
  have hbl := ownsRow_block hr1
  have hgc : Chg (fun k => v.ownBlock = some k) wA w2 := Chg.grown (Chg.refl _ wA) hgr (fun k hk _ => hk)
  have hb2 := hgc.at (hA.at hb1 (fun e => e)) (fun e => (hne _ e).2 rfl)
  have hset : Chg (At1 pb) w2 (w2.setCell ⟨pb, 1, none⟩ v') := (Chg.refl (At1 pb) _).setCell (p := ⟨pb, 1, none⟩) (fun _ => rfl) _
  refine ⟨⟨⟨_, v', block_two_set1 hb2, .inr rfl, ownsRow_setCell_type hr2 hb2 (by decide) _⟩, ?_⟩, ?_, hb2⟩
  · have := h.lo; have := h1.size; have := hA.size; have := hgc.size; have := hset.size; omega
  · refine Chg.trans (h1.mono (fun _ _ e => .inl e)) (Chg.trans (S := fun k => k = pb ∨ v.ownBlock = some k) (hA.any) (Chg.trans (S := fun k => k = pb ∨ v.ownBlock = some k) (hgc.mono (fun _ _ e => .inr e)) hset (fun _ _ e => .inl e)) (fun _ _ e => e)) ?_
    intro i hi e
    rcases e with e | e
    · exact .inl e
    · obtain ⟨cs, m, hg⟩ := hbl i e
      by_cases hip : i = pb
      · exact .inl hip
      · exact .inr ⟨(hne i e).1, cs, m, by rw [← h1.block i hi hip]; exact hg⟩

set_option maxRecDepth 100000 in
set_option maxHeartbeats 2000000 in
theorem wbyte_any (w : World) (pb B : Nat) (l : List UInt8) (c : UInt8) (h : Bd w pb B l) (hl : l.length ≤ 1000000000) : Calls Try.prog 88 #[.pointer (some ⟨pb, 0, none⟩), .int .u8 c.toNat] w fun e w' => e = .returned .nilIface ∧ Bd w' pb B (l ++ [c]) ∧ BdC pb B w w' := by
  obtain ⟨i0, hi, hz0, hz1, hz2⟩ := info5_parts
  have hchk := check_any w pb B l h
  go_enter Try.func88, Try.ntmps88
  go_wp2_with fail
  (with_reducible refine hchk.mono ?_)
  clear hchk
  rintro e w1 ⟨rfl, h1, v, hb1, hr1⟩
  obtain ⟨c0, c1, _⟩ := cell_two hb1
  obtain ⟨ao, cap, rfl⟩ := ownsRow_shape hr1
  have hsz1 := h1.size
  have hlo := h.lo
  go_wp2_with (at_builtin; refine wpList_append_own _ rfl _ _ 94 rfl B 5 i0 (.int .u8 0) 1 1 Try.underlying94 hi hz0 hz1 hz2 rfl (by decide) _ _ _ rfl (ownsRow_chg hr1 ((Chg.refl Nob w1).alloc (.cells #[.int .u8 c.toNat] 5)) (fun _ _ e => e)) ⟨w1.heap.size, 0, none⟩ 1 1 [.int .u8 c.toNat] rfl rfl (news_one _ _ _) ?c2 ?c3 ?c4 ?c5 ?_)
  case c2 => intro u hu; simp at hu; subst hu; rfl
  case c3 => unfold maxLen; omega
  case c4 => omega
  case c5 => simp; omega
  intro v' w2 hown' hgrow _
  have e2 : Lib.byteCells l ++ [.int .u8 c.toNat] = Lib.byteCells (l ++ [c]) := by simp [Lib.byteCells]
  rw [e2] at hown'
  have hr2 : w2.ownsRow B 5 1 v' (l ++ [c]).length (Lib.byteCells (l ++ [c])) := by rw [List.length_append]; exact hown'
  obtain ⟨q1, q2, hb2⟩ := bd_put h h1 hb1 hr1 ((Chg.refl Nob w1).alloc (.cells #[.int .u8 c.toNat] 5)) hgrow hr2
  obtain ⟨d0, d1, g0, g1⟩ := cell_two hb2
  have Q1 := Lib.hid q1
  have Q2 := Lib.hid q2
  obtain ⟨ao2, cap2, rfl⟩ := ownsRow_shape hown'
  clear q1 q2 hown' hr2 hb1 hr1 c0 c1 hb2
  go_wp2
  go_ret
  exact ⟨rfl, Q1.out, Q2.out⟩

set_option maxRecDepth 100000 in
set_option maxHeartbeats 2000000 in
theorem wstring_any (w : World) (pb B : Nat) (l x : List UInt8) (h : Bd w pb B l) (hl : l.length ≤ 1000000000) (hx : x.length ≤ 1000000000) : Calls Try.prog 87 #[.pointer (some ⟨pb, 0, none⟩), .string ⟨x.toArray⟩] w fun e w' => e = .returned (.tuple #[.int .i64 x.length, .nilIface]) ∧ Bd w' pb B (l ++ x) ∧ BdC pb B w w' := by
  obtain ⟨i0, hi, hz0, hz1, hz2⟩ := info5_parts
  have hchk := check_any w pb B l h
  have hsz : (⟨x.toArray⟩ : ByteArray).size = x.length := by show x.toArray.size = _; simp
  go_enter Try.func87, Try.ntmps87
  go_wp2_with fail
  (with_reducible refine hchk.mono ?_)
  clear hchk
  rintro e w1 ⟨rfl, h1, v, hb1, hr1⟩
  obtain ⟨c0, c1, _⟩ := cell_two hb1
  obtain ⟨ao, cap, rfl⟩ := ownsRow_shape hr1
  have hsz1 := h1.size
  have hlo := h.lo
  go_wp2_with (at_builtin; refine Lib.wpList_append_own_string _ rfl _ _ 94 9 rfl B 5 i0 Try.underlying94 Try.underlying9 hi hz0 hz1 hz2 _ _ _ rfl hr1 ⟨x.toArray⟩ rfl ?c3 ?c4 ?c5 ?_)
  case c3 => unfold maxLen; omega
  case c4 => omega
  case c5 => omega
  intro v' w2 hown' hgrow _
  have e2 : Lib.byteCells l ++ Lib.strCells ⟨x.toArray⟩ = Lib.byteCells (l ++ x) := by rw [Lib.strCells_eq, Lib.byteCells_append]
  rw [e2] at hown'
  have hr2 : w2.ownsRow B 5 1 v' (l ++ x).length (Lib.byteCells (l ++ x)) := by rw [List.length_append]; exact hown'
  obtain ⟨q1, q2, hb2⟩ := bd_put h h1 hb1 hr1 (Chg.refl Nob w1) hgrow hr2
  obtain ⟨d0, d1, g0, g1⟩ := cell_two hb2
  have Q1 := Lib.hid q1
  have Q2 := Lib.hid q2
  obtain ⟨ao2, cap2, rfl⟩ := ownsRow_shape hown'
  clear q1 q2 hown' hr2 hb1 hr1 c0 c1 hb2
  go_wp2
  go_ret2
  exact ⟨rfl, Q1.out, Q2.out⟩

set_option maxRecDepth 100000 in
set_option maxHeartbeats 2000000 in
theorem string_any (w : World) (pb B : Nat) (l : List UInt8) (h : Bd w pb B l) (h0 : l ≠ []) : Calls Try.prog 62 #[.pointer (some ⟨pb, 0, none⟩)] w fun e w' => e = .returned (.string ⟨l.toArray⟩) ∧ BdC pb B w w' := by
  obtain ⟨a, v, hb, ha, hr⟩ := h.blk
  have hl0 : 0 < l.length := List.length_pos_iff.2 h0
  obtain ⟨g, cap, cur, rfl, hbg, hg, hnc, hcm, hcs, htake⟩ : ∃ g cap cur, v = .slice (some ⟨g, 0, none⟩) l.length cap ∧ B ≤ g ∧ w.heap[g]? = some (.cells cur 5 (0, 0)) ∧ l.length ≤ cap ∧ cap ≤ maxLen ∧ cur.size = cap * 1 ∧ cur.toList.take (l.length * 1) = Lib.byteCells l := by
    rcases hr.2 with ⟨_, hz⟩ | ⟨g, cap, cur, hv, r⟩
    · omega
    · exact ⟨g, cap, cur, hv, r⟩
  have c1 : w.drew.cell? ⟨pb, 1, none⟩ = some (.slice (some ⟨g, 0, none⟩) l.length cap) := (cell_two hb).2.1
  have c1' : w.cell? ⟨pb, 1, none⟩ = some (.slice (some ⟨g, 0, none⟩) l.length cap) := (cell_two hb).2.1
  have hSD : (Builtin.unsafeSliceData_ #[94] 137 #[.slice (some ⟨g, 0, none⟩) l.length cap]).run Try.prog w.drew = .ok (.pointer (some ⟨g, 0, none⟩)) w.drew :=
    Lib.run_unsafeSliceData_row _ _ _ _ _ _ (by omega)
  have hUS : (Builtin.unsafeString_ #[137, 3] 9 #[.pointer (some ⟨g, 0, none⟩), .int .i64 l.length]).run Try.prog w.drew = .ok (.string ⟨l.toArray⟩) (w.drew.freeze ⟨g, 0, none⟩ l.length) := by
    refine Lib.run_unsafeString_row w.drew 137 3 9 5 Try.underlying137 (by kernel_rfl) g cur.size (by have hg' : w.drew.heap[g]? = some (.cells cur 5 (0, 0)) := hg; simp [World.shape?, hg']) l h0 (by omega) (by unfold maxLen at hcm; omega) ?_
    intro j x hx
    exact hr.cells (g := g) rfl j (.int .u8 x.toNat) (by simp [Lib.byteCells, hx])
  have hfz : Chg (At1 g) w (w.drew.freeze ⟨g, 0, none⟩ l.length) := by
    refine (Chg.refl (At1 g) w).drew.trans1 ?_
    unfold World.freeze
    split
    · exact Chg.refl _ _
    · exact ⟨rfl, rfl, rfl, by simp, fun k hk hn => by
        have hn : ¬ k = g := hn
        simp only [Array.getElem?_modify]
        rw [if_neg (fun e => hn e.symm)]⟩
  have Hc := Lib.hid (show BdC pb B w (w.drew.freeze ⟨g, 0, none⟩ l.length) from hfz.mono (fun i _ e => by have e : i = g := e; subst e; exact .inr ⟨hbg, _, _, hg⟩))
  clear hfz hb ha hr hg htake hcs hcm hnc h0 h
  go_enter Try.func62, Try.ntmps62
  go_wp2
  go_region
  all_goals (go_wp2; go_ret; exact ⟨rfl, Hc.out⟩)
end Go.Proofs.Ytkgfdgfhpdhhaaa
