/- Parts of the walks and of the plain theory: What alternate.Of leaves: the rows of an automaton; the deferred function when nothing is thrown. Conditions: as each theorem states. -/
import Derived.Test.YtkgfdgfhpdhhaaaGreatU23
import Derived.Test.YtkgfdgfhpdhhaaaGreatU08
import Derived.Test.YtkgfdgfhpdhhaaaGreatU15
import Derived.Test.YtkgfdgfhpdhhaaaGreatU11
import Derived.Test.YtkgfdgfhpdhhaaaGreatU20
import Derived.Test.YtkgfdgfhpdhhaaaGreatU18
import Derived.Test.YtkgfdgfhpdhhaaaGreatU16
namespace Go.Proofs.YtkgfdgfhpdhhaaaGreat
open Go.ChangeShapes Go.WideShapes Go.ChangeAt Go.RowKit Go.Maps
attribute [local go_sem] Oper.semAt_some
theorem SOwn.lrow {W : World} {lo : Nat} {sl : Value} {ls : List (List Int)} {xs : List StS} (h : SOwn W lo sl ls xs) : ∃ ao c, sl = .slice ao ls.length c ∧ LRow W ao ls := by
  obtain ⟨ao, c, e, k⟩ := h.sin
  refine ⟨ao, c, e, fun j l hj => ?_⟩
  have hx : (xs.map (·.1))[j]? = some l := by rw [h.fst]; exact hj
  rw [List.getElem?_map] at hx
  cases hxj : xs[j]? with
  | none => rw [hxj] at hx; cases hx
  | some x =>
    rw [hxj] at hx
    obtain rfl : x.1 = l := by simpa using hx
    obtain ⟨b, o, e, c0, hl, ht, _⟩ := k j x hxj
    exact ⟨_, x.2.1, x.2.2, e, by rw [Go.WideShapes.add_plain]; exact c0, hl, ht.1⟩
theorem flatR_at : ∀ {l : List StR} {j : Nat} {x : StR}, l[j]? = some x → ∀ {q : Nat}, q < 2 → (l.flatMap cellsR)[j * 2 + q]? = (cellsR x)[q]?
  | [], _, _, h, _, _ => by simp at h
  | y :: l, 0, x, h, q, hq => by
    obtain rfl : y = x := by simpa using h
    rw [List.flatMap_cons, Nat.zero_mul, Nat.zero_add, List.getElem?_append_left (by simpa [cellsR] using hq)]
  | y :: l, j + 1, x, h, q, hq => by
    rw [List.flatMap_cons, List.getElem?_append_right (by simp [cellsR]; omega)]
    have := flatR_at (l := l) (j := j) (x := x) (by simpa using h) hq
    rw [← this]
    congr 1
    simp [cellsR]
    omega
theorem MkIs.srow {D : Nat → Prop} {W : World} {mb : Nat} {nv : Value} {s : MkS} {mv : Int} (h : MkIs W D mb nv s mv) : ∃ ao c, W.cell? ⟨mb, 1, none⟩ = some (.slice ao s.sts.length c) ∧ SRow W ao s.sts := by
  obtain ⟨h1, h2, h3, sv, pb, lo, xs, dm, hb, dmb, dpb, hm, hnum, hrow, hfst, hown, hx⟩ := h
  have hxl : xs.length = s.sts.length := by rw [← hfst, List.length_map]
  rcases Nat.eq_zero_or_pos s.sts.length with h0 | hpos
  · obtain ⟨ao, c, rfl⟩ := ownsRow_shape hrow
    refine ⟨ao, c, cell_row hb 1 rfl, fun j st hj => ?_⟩
    have := (List.getElem?_eq_some_iff.1 hj).1
    omega
  · obtain ⟨g, c, rfl, hc⟩ := ownsRow_some hrow hpos
    refine ⟨_, c, cell_row hb 1 rfl, fun j st hj => ?_⟩
    have hj2 : (xs.map (·.1))[j]? = some st := by rw [hfst]; exact hj
    rw [List.getElem?_map] at hj2
    cases hxj : xs[j]? with
    | none => rw [hxj] at hj2; cases hj2
    | some x =>
      rw [hxj] at hj2
      obtain rfl : x.1 = st := by simpa using hj2
      obtain ⟨⟨l, ho⟩, _, hlen⟩ := hx x (List.mem_of_getElem? hxj)
      obtain ⟨am, cm, em, hmr⟩ := ho.row
      have q0 := hc (j * 2 + 0) _ ((flatR_at hxj (q := 0) (by decide)).trans rfl)
      have q1 := hc (j * 2 + 1) _ ((flatR_at hxj (q := 1) (by decide)).trans rfl)
      rw [Go.WideShapes.add_plain] at q0 q1
      exact ⟨g, 0, am, cm, rfl, q0, by rw [← em]; exact q1, by omega, hmr⟩
theorem MkIs.init {W U V : World} {nv : Value} (h1 : U = W.alloc (.map #[] 0)) (h2 : V = U.alloc (.cells #[nv, .slice none 0 0, .map (some W.heap.size), .int .i64 0] 62)) :
    Chg Nob W V ∧ MkIs V (fun q => q = W.heap.size + 1 ∨ q = W.heap.size) (W.heap.size + 1) nv ⟨[], []⟩ 0 := by
  have a1 : Chg Nob W U := by rw [h1]; exact (Chg.refl _ _).alloc _
  have a2 : Chg Nob U V := by rw [h2]; exact (Chg.refl _ _).alloc _
  have s1 : U.heap.size = W.heap.size + 1 := by rw [h1]; exact World.size_alloc _ _
  have s2 : V.heap.size = W.heap.size + 2 := by rw [h2, World.size_alloc, s1]
  have b2 : V.heap[W.heap.size + 1]? = some (.cells #[nv, .slice none 0 0, .map (some W.heap.size), .int .i64 0] 62 (0, 0)) := by rw [h2, ← s1]; exact heap_alloc_new _ _
  have hm : U.ownsMap Tryz.prog 9 (plainElem (H := Unit) Tryz.prog 3) W.heap.size 0 (.map []) := by rw [h1]; exact World.ownsMap_made _ _ _ _
  have b1 : ∃ es c, V.heap[W.heap.size]? = some (.map es c) := by
    obtain ⟨es, c, hb, _⟩ := hm
    exact ⟨es, c, a2.at hb (fun e => e)⟩
  refine ⟨a1.trans1 a2, ⟨fun k hk => by rcases hk with rfl | rfl <;> omega, fun k hk cs m e => ?_, ⟨Nat.le_refl _, by simp⟩, .slice none 0 0, W.heap.size, 0, [], .map [], b2, .inl rfl, .inr rfl, ownsMap_chg hm a2 (fun e => e), ⟨isMap_empty, fun k => ⟨rfl, fun n hn => by cases hn⟩⟩, World.ownsRow_nil _ _ _ _, rfl, fun q hq => by simp [Value.ownBlock] at hq, fun x hx => by cases hx⟩⟩
  rcases hk with rfl | rfl
  · rw [b2] at e; simp at e
  · obtain ⟨es, c, hb⟩ := b1
    rw [hb] at e; simp at e
set_option maxRecDepth 100000 in
set_option maxHeartbeats 1000000 in
theorem acatch_idle (p q : Addr) (w : World) :
    CallsD Tryz.prog 29 #[.pointer (some p), .pointer (some q)] .returning w fun e u' w' => e = .returned (.tuple #[]) ∧ u' = .returning ∧ w' = w := by
  have h20 : Tryz.prog.underlying 20 = some (.interface (Tryz.prog.methodsAt 20)) := by kernel_rfl
  have hne : ∀ w : World, (Go.binOp .neq 20 .nilIface .nilIface).run Tryz.prog w = .ok (.bool false) w := fun w => Go.run_neq_nil_nil w 20 h20
  refine callsD_of_wpS Tryz.func29 rfl fun c₀ cs hu => ?_
  apply wpS_seq
  apply wpS_region
  simp [wpOpsS, go_sem, recoverD, hu, Tryz.ntmps29, Exit.thenS]
  simp only [Array.replicate_succ, Array.replicate_zero, List.push_toArray, List.append_toArray, List.nil_append, List.cons_append, List.setIfInBounds_toArray, List.set_cons_succ, List.set_cons_zero]
  refine wpS_of_wp ?_
  go_wp2
  cases c₀
  simp_all [bodyPostS, results, Tryz.results29]
theorem results11 {B : Nat} {tm : Array Value} {w : World} {a0 a1 m0 : Value} (h2 : tm[4]? = some (.pointer (some ⟨B, 0, none⟩))) (h3 : tm[5]? = some (.pointer (some ⟨B + 1, 0, none⟩))) (hb : w.heap[B]? = some (.cells #[a0, a1] 38 (0, 0))) (hb1 : w.heap[B + 1]? = some (.cells #[m0] 32 (0, 0))) :
    (results Tryz.f11 tm).run Tryz.prog w = .ok (.tuple #[.agg #[a0, a1], m0]) w := by
  obtain ⟨c0, c1, _⟩ := cell_two hb
  have d0 := cell_row hb1 0 (v := m0) rfl
  simp [results, Tryz.results11, go_sem, h2, h3, c0, c1, d0]
end Go.Proofs.YtkgfdgfhpdhhaaaGreat
namespace Go.Proofs.YtkgfdgfhpdhhaaaGreat
open Go.ChangeShapes Go.WideShapes Go.ChangeAt Go.RowKit Go.Maps
attribute [local go_sem] Oper.semAt_some
theorem setCell_self {w : World} {b j : Nat} {cs : Array Value} {t : TypeId} {m : Nat × Nat} {x : Value} (h : w.heap[b]? = some (.cells cs t m)) (hx : cs[j]? = some x) : w.setCell ⟨b, j, none⟩ x = w := by
  have hlt := (Array.getElem?_eq_some_iff.1 h).1
  have hh : (w.setCell ⟨b, j, none⟩ x).heap = w.heap := by
    refine Array.ext_getElem? (fun i => ?_)
    by_cases hi : i = b
    · subst hi
      rw [h]
      have hset : cs.setIfInBounds j x = cs := by
        refine Array.ext_getElem? (fun q => ?_)
        by_cases hq : q = j
        · subst hq
          have hl := (Array.getElem?_eq_some_iff.1 hx).1
          rw [Array.getElem?_setIfInBounds_self_of_lt hl, hx]
        · rw [Array.getElem?_setIfInBounds_ne (Ne.symm hq)]
      simp [World.setCell, Array.getElem?_modify, h, hset]
    · exact Below.heap_setCell _ _ _ _ hi
  have hc : Chg (fun k => k = b) w (w.setCell ⟨b, j, none⟩ x) := (Chg.refl (fun k => k = b) w).setCell (p := ⟨b, j, none⟩) (fun _ => rfl) _
  have h1 := hc.os
  have h2 := hc.tape
  have h3 := hc.output
  cases w
  simp_all [World.setCell]
theorem SOwn.typed {S : Nat → Prop} {W W' : World} {lo : Nat} {sl : Value} {ls : List (List Int)} {xs : List StS} (h : SOwn W lo sl ls xs) (hc : Chg S W W') (hn : ∀ q, sl.ownBlock = some q → ¬ S q) (hs : ∀ q, S q → ∀ cs m, W.heap[q]? ≠ some (.cells cs 3 m)) : SOwn W' lo sl ls xs :=
  ⟨ownsRow_chg h.own hc hn, h.fst, fun x hx => by obtain ⟨a, b, c⟩ := h.tos x hx; exact ⟨a, b.typed hc hs, c⟩⟩
set_option maxRecDepth 100000 in
set_option maxHeartbeats 8000000 in
theorem of_ok {t r : T} {v : Value} {w : World} {an : Option Addr} {cn : Nat} {names : List (List UInt8)} {I : List (List Int)} {s' : MkS} {f : MkS → Option (List (List Int) × MkS)} (ht : TI w t v) (hN : sizeT t ≤ 1000000) (hnm : Texts w (.slice an names.length cn) names) (hcn : names.length ≤ cn)
    (hc0 : checkedN t names 0 1 = 0) (hn0 : normN t = 0) (hun : ∀ f, normT t = tF f → onlyU f = true) (hr : ∀ r', RewOf t r' → r' = r) (hS : ∀ (R : Nat → Prop) (mb : Nat), SetsC R mb (.slice an names.length cn) names r f) (hf : f ⟨[], []⟩ = some (I, s')) (hck : checkAN I s'.sts = 0) :
    Calls Tryz.prog 11 #[v, .slice an names.length cn] w fun e w' => Chg Nob w w' ∧ ∃ ai ci as' cs, e = .returned (.tuple #[.agg #[.slice ai I.length ci, .slice as' s'.sts.length cs], .int .i64 0]) ∧ LRow w' ai I ∧ SRow w' as' s'.sts := by
  have hmf : ∀ (fn : Fn) (first cap : Array Value) (w : World), (Instr.makeFunc fn first cap).run Tryz.prog w = .ok (.func fn first cap) w := fun _ _ _ _ => rfl
  have hmm := @run_makeMap Tryz.prog
  obtain ⟨a0, c0, rfl⟩ := ht.agg
  obtain ⟨B, hB⟩ : ∃ B, B = w.heap.size := ⟨_, rfl⟩
  obtain ⟨X1, hX1, hcX1, hbX1, hsX1⟩ := box_cells w #[.int .i64 t.kind, .string ⟨t.name.toArray⟩, .slice a0 t.kids.length c0] 24
  obtain ⟨X2, hX2, hcX2, hbX2, hsX2⟩ := box_cells X1 #[.slice none 0 0, .slice none 0 0] 38
  obtain ⟨X3, hX3, hcX3, hbX3, hsX3⟩ := box_cells X2 #[.int .i64 0] 32
  obtain ⟨X4, hX4, hcX4, hbX4, hsX4⟩ := box_cells X3 #[.int .u64 0] 53
  rw [hsX1] at hbX2 hsX2
  rw [hsX2] at hbX3 hsX3
  rw [hsX3] at hbX4 hsX4
  rw [← hB] at hbX1 hsX1 hbX2 hsX2 hbX3 hsX3 hbX4 hsX4
  have hc14 : Chg Nob X1 X4 := (hcX2.trans1 hcX3).trans1 hcX4
  have hcw4 : Chg Nob w X4 := hcX1.trans1 hc14
  have b1 := hc14.at hbX1 (fun e => e)
  have b2 := (hcX3.trans1 hcX4).at hbX2 (fun e => e)
  have b3 := hcX4.at hbX3 (fun e => e)
  have b13 := (hcX2.trans1 hcX3).at hbX1 (fun e => e)
  have hs3 := hsX3
  have htab : Calls Tryz.prog 28 #[.agg #[.int .i64 t.kind, .string ⟨t.name.toArray⟩, .slice a0 t.kids.length c0], .slice an names.length cn, .agg #[.slice none 0 0, .slice (some ⟨B + 1 + 1 + 1, 0, none⟩) 1 1]] X4 (TabPost t names [] [0] X4) :=
    table_any (P := []) (L := [0]) (ht.nob hcw4) hN (fun b hb => by have := hcw4.size; omega) (Texts.nob hnm hcw4) hcn (by simp) (fun j x h => by simp at h) (fun j x h => by
      have hj0 : j = 0 := by have := (List.getElem?_eq_some_iff.1 h).1; simp at this; omega
      subst hj0
      cases h
      exact ⟨_, rfl, by rw [Go.WideShapes.add_plain]; exact cell_row hbX4 0 rfl⟩) (fun _ => rfl) (fun e => by cases e)
  have Ht := Lib.hid (ht.nob hcw4)
  have Hnm := Lib.hid (Texts.nob hnm hcw4)
  have Hcw4 := Lib.hid hcw4
  have Hb1 := Lib.hid b1
  have Hb2 := Lib.hid b2
  have Hb3 := Lib.hid b3
  have Hs4 : Hid (X4.heap.size = B + 1 + 1 + 1 + 1) := Lib.hid hsX4
  have HX2 := Lib.hid hX2
  have HX3 := Lib.hid hX3
  have HX4 := Lib.hid hX4
  have HB := Lib.hid hB
  have Hb13 := Lib.hid b13
  have Hs3 : Hid (X3.heap.size = B + 1 + 1 + 1) := Lib.hid hs3
  clear ht hnm hcw4 b1 b2 b3 hX2 hX3 hX4 hcX1 hcX2 hcX3 hcX4 hbX1 hbX2 hbX3 hbX4 hsX1 hsX2 hsX3 hsX4 hc14 b13 hs3
  go_enter_defers Tryz.func11, Tryz.ntmps11
  go_upto_region 1 with fail
  rw [← hX1, ← HB.out]
  clear hX1 hB
  rw [← HX2.out, ← HX3.out]
  obtain ⟨x0, x1, x2, _⟩ := cells_three Hb13.out
  go_wp2_with fail
  rw [← HX4.out, Hs3.out]
  (with_reducible refine htab.mono ?_)
  clear htab x0 x1 x2
  rintro e w1 ⟨hc1, ⟨-, gr, hgr, rfl, -⟩ | ⟨hne, -⟩⟩
  rotate_left
  · exact absurd hc0 hne
  have hrw := Rewrite_any hun (TI.nob Ht.out hc1) hN
  have Hc1 : Hid (Chg Nob w w1) := (show Chg Nob w w1 from Hcw4.out.trans1 hc1)
  have Hb11 := Lib.hid (hc1.at Hb1.out (fun e => e))
  have Hb21 := Lib.hid (hc1.at Hb2.out (fun e => e))
  have Hb31 := Lib.hid (hc1.at Hb3.out (fun e => e))
  have Hnm1 := Lib.hid (Texts.nob Hnm.out hc1)
  have Hs1 : Hid (B + 1 + 1 + 1 + 1 ≤ w1.heap.size) := (show _ ≤ _ by have := hc1.size; have := Hs4.out; omega)
  obtain ⟨x0, x1, x2, _⟩ := cells_three Hb11.out
  clear hc1 hgr
  go_wp2_with fail
  (with_reducible refine hrw.mono ?_)
  clear hrw x0 x1 x2
  rintro e w2 ⟨hc2, r', ao, cap, hre, hTr, rfl⟩
  obtain rfl := hr r' hre
  rw [hn0]
  obtain ⟨X5, hX5, hcX5, hbX5, hsX5⟩ := box_cells w2 #[.int .i64 r'.kind, .string ⟨r'.name.toArray⟩, .slice ao r'.kids.length cap] 24
  have hc25 : Chg Nob w X5 := (Hc1.out.trans1 hc2).trans1 hcX5
  have b25 := hcX5.at (hc2.at Hb21.out (fun e => e)) (fun e => e)
  have b35 := hcX5.at (hc2.at Hb31.out (fun e => e)) (fun e => e)
  obtain ⟨V0, hV0⟩ : ∃ V0, V0 = X5.alloc (.map #[] 0) := ⟨_, rfl⟩
  obtain ⟨V, hV⟩ : ∃ V, V = V0.alloc (.cells #[.slice an names.length cn, .slice none 0 0, .map (some X5.heap.size), .int .i64 0] 62) := ⟨_, rfl⟩
  have hini := MkIs.init hV0 hV
  have hcV := hini.1
  have hTV : IsTree (fun b => b < X5.heap.size) V r' (.agg #[.int .i64 r'.kind, .string ⟨r'.name.toArray⟩, .slice ao r'.kids.length cap]) := IsTree.mono (fun a v hb hc => (hcX5.trans1 hcV).cell' hc (fun e => e)) (fun b hb => by have h9 : b < w2.heap.size := hb; have := hcX5.size; show b < X5.heap.size; omega) _ _ hTr
  have hTxV : Texts V (.slice an names.length cn) names := Texts.nob Hnm1.out ((hc2.trans1 hcX5).trans1 hcV)
  have hNV : NmIs (fun b => b < X5.heap.size) V (.slice an names.length cn) names := ⟨hTxV, fun b o n c e hne => by
    obtain ⟨ao2, cp2, e2, _, hx⟩ := Texts.nob Hnm1.out (hc2.trans1 hcX5)
    obtain ⟨x, hx0⟩ : ∃ x, names[0]? = some x := by
      cases names with
      | nil => exact absurd rfl hne
      | cons x l => exact ⟨x, rfl⟩
    obtain ⟨b9, o9, e9, hc9⟩ := hx 0 x hx0
    rw [e] at e2
    simp only [Value.slice.injEq] at e2
    rw [← e2.1] at e9
    cases e9
    exact World.block_lt_of_cell? _ _ hc9⟩
  have hsets := hS (fun b => b < X5.heap.size) (X5.heap.size + 1) V _ ⟨[], []⟩ _ hini.2 ⟨fun k n h => (by cases h), (by simp), fun i st h => (by simp at h)⟩ hTV hNV (fun q hq hr => by have hr : q < X5.heap.size := hr; rcases hq with rfl | rfl <;> omega) (fun q hq => Nat.lt_of_lt_of_le hq hcV.size)
  have bT := hcV.at hbX5 (fun e => e)
  have HcV : Hid (Chg Nob w V) := (show Chg Nob w V from hc25.trans1 hcV)
  have Hb2V := Lib.hid (hcV.at b25 (fun e => e))
  have Hb3V := Lib.hid (hcV.at b35 (fun e => e))
  have HsV : Hid (B + 1 + 1 + 1 + 1 ≤ X5.heap.size ∧ X5.heap.size + 2 = V.heap.size) := (show _ ∧ _ from ⟨by have := Hs1.out; have := hc2.size; have := hcX5.size; omega, by rw [hV, World.size_alloc, hV0, World.size_alloc]⟩)
  have Hse : Hid (X5.setCell ⟨B + 1 + 1, 0, none⟩ (.int .i64 0) = X5) := Lib.hid (setCell_self b35 rfl)
  have e0 := cell_row b35 0 (v := .int .i64 0) rfl
  have ef : X5.frozen? ⟨B + 1 + 1, 0, none⟩ = false := by simp [World.frozen?, b35]
  have Hbt := Lib.hid bT
  have HX5 := Lib.hid hX5
  have HV0 := Lib.hid hV0
  have HV := Lib.hid hV
  rw [hX5] at e0 ef
  clear hc2 hTr hre hX5 hV0 hV hcX5 hbX5 hsX5 hc25 b25 b35 hini hcV hTV hTxV hNV bT hr hS
  go_upto_region 5 with fail
  rw [← HX5.out, Hse.out]
  rw [← HX5.out] at e0 ef
  obtain ⟨t0, t1, t2, _⟩ := cells_three Hbt.out
  go_upto_region 9 with fail
  rw [← HV0.out, ← HV.out]
  go_wp2_with fail
  (with_reducible refine hsets.mono ?_)
  clear hsets t0 t1 t2 e0 ef
  rintro e w3 ⟨hc3, ⟨hf2, -⟩ | ⟨I2, s2, slI, D3, hf2, rfl, hM3, hg3, hok3, -, ⟨xI, hown⟩, hnI, hIl, -⟩⟩
  · rw [hf] at hf2; cases hf2
  rw [hf] at hf2
  cases hf2
  have hc3B : ∀ q, (q = X5.heap.size + 1 ∨ q = X5.heap.size) → ¬ q < X5.heap.size := fun q e => by omega
  have b23 := hc3.at Hb2V.out (fun e => hc3B _ e (by have := HsV.out; omega))
  have b33 := hc3.at Hb3V.out (fun e => hc3B _ e (by have := HsV.out; omega))
  have hc3w : Chg Nob w w3 := HcV.out.trans hc3 (fun i hi e => hc3B i e (by have := HB.out; have := HsV.out; omega))
  obtain ⟨ai, ci, rfl, -⟩ := hown.lrow
  have hD3 : ¬ D3 (B + 1) := fun e => by
    rcases hg3 _ e with e | e
    · exact hc3B _ e (by have := HsV.out; omega)
    · have := HsV.out; omega
  have hB1 : ∀ {W : World} {x y : Value}, W.heap[B + 1]? = some (.cells #[x, y] 38 (0, 0)) → ∀ q, At1 (B + 1) q → ∀ cs t m, W.heap[q]? = some (.cells cs t m) → t = 38 := fun hb q e cs t m h => by
    have e : q = B + 1 := e
    subst e
    rw [hb] at h
    simp at h
    exact h.2.1.symm
  obtain ⟨w4, hw4⟩ : ∃ w4, w4 = w3.setCell ⟨B + 1, 0, none⟩ (.slice ai I.length ci) := ⟨_, rfl⟩
  have hc4 : Chg (At1 (B + 1)) w3 w4 := by rw [hw4]; exact (Chg.refl (At1 (B + 1)) w3).setCell (p := ⟨B + 1, 0, none⟩) (fun _ => rfl) _
  have b24 : w4.heap[B + 1]? = some (.cells #[.slice ai I.length ci, .slice none 0 0] 38 (0, 0)) := by rw [hw4]; exact block_two_set0 b23
  have hM4 := hM3.keep hc4 (fun q e hq => by have e : q = B + 1 := e; subst e; exact hD3 hq) (fun q e cs m h => absurd (hB1 b23 q e cs 3 m h) (by decide))
  have hown4 := hown.typed hc4 (fun q hq e => by
    obtain ⟨cs, m, hb⟩ := ownsRow_block hown.own q hq
    exact absurd (hB1 b23 q e cs 73 m hb) (by decide)) (fun q e cs m h => absurd (hB1 b23 q e cs 3 m h) (by decide))
  obtain ⟨as', cs', hcell, -⟩ := hM4.srow
  obtain ⟨w5, hw5⟩ : ∃ w5, w5 = w4.setCell ⟨B + 1, 1, none⟩ (.slice as' s'.sts.length cs') := ⟨_, rfl⟩
  have hc5 : Chg (At1 (B + 1)) w4 w5 := by rw [hw5]; exact (Chg.refl (At1 (B + 1)) w4).setCell (p := ⟨B + 1, 1, none⟩) (fun _ => rfl) _
  have b25 : w5.heap[B + 1]? = some (.cells #[.slice ai I.length ci, .slice as' s'.sts.length cs'] 38 (0, 0)) := by rw [hw5]; exact block_two_set1 b24
  have hM5 := hM4.keep hc5 (fun q e hq => by have e : q = B + 1 := e; subst e; exact hD3 hq) (fun q e cs m h => absurd (hB1 b24 q e cs 3 m h) (by decide))
  have hown5 := hown4.typed hc5 (fun q hq e => by
    obtain ⟨cs, m, hb⟩ := ownsRow_block hown4.own q hq
    exact absurd (hB1 b24 q e cs 73 m hb) (by decide)) (fun q e cs m h => absurd (hB1 b24 q e cs 3 m h) (by decide))
  obtain ⟨as2, cs2, hcell2, hSR⟩ := hM5.srow
  have hmbB : X5.heap.size + 1 ≠ B + 1 := by have := HsV.out; omega
  have hcell5 := hc5.cell' hcell (fun e => hmbB e)
  rw [hcell5] at hcell2
  simp only [Option.some.injEq, Value.slice.injEq, true_and] at hcell2
  obtain ⟨rfl, rfl⟩ := hcell2
  obtain ⟨ai2, ci2, e2, hLR⟩ := hown5.lrow
  simp only [Value.slice.injEq, true_and] at e2
  obtain ⟨rfl, rfl⟩ := e2
  have hchk := acheck_any (ci := ci) (cs := cs') (by have := hIl; omega) (by have := hok3.2.1; omega) hLR hSR
  obtain ⟨f0, f1, g0, g1⟩ := cell_two b23
  obtain ⟨f40, f41, g40, g41⟩ := cell_two b24
  obtain ⟨f50, f51, _⟩ := cell_two b25
  have b34 := hc4.at b33 (fun e => by have e : B + 1 + 1 = B + 1 := e; omega)
  have b35 := hc5.at b34 (fun e => by have e : B + 1 + 1 = B + 1 := e; omega)
  have Hw5 : Hid (Chg Nob w w5) := (show Chg Nob w w5 from ((hc3w.any (S := At1 (B + 1))).trans1 hc4).trans1 hc5 |>.mono (fun i hi e => by have e : i = B + 1 := e; have := HB.out; omega))
  have Hb25 := Lib.hid b25
  have Hb35 := Lib.hid b35
  have HLR := Lib.hid hLR
  have HSR := Lib.hid hSR
  have Hw4 := Lib.hid hw4
  have Hw5e := Lib.hid hw5
  clear hf hc3 hM3 hg3 hok3 hown hnI hIl hc3B b23 b33 hc3w hD3 hB1 hw4 hc4 b24 hM4 hown4 hw5 hc5 b25 hM5 hown5 hSR hLR b34 b35 hcell5 hmbB
  go_upto_region 10 with fail
  rw [← Hw4.out]
  go_upto_region 11 with fail
  rw [← Hw5e.out]
  go_wp2_with fail
  (with_reducible refine hchk.mono ?_)
  clear hchk f0 f1 g0 g1 f40 f41 g40 g41 f50 f51 hcell
  rintro e w6 ⟨rfl, hc6⟩
  rw [hck]
  have b26 := hc6.at Hb25.out (fun e => e)
  have b36 := hc6.at Hb35.out (fun e => e)
  obtain ⟨f0, f1, g0, g1⟩ := cell_two b26
  have e0 := cell_row b36 0 (v := .int .i64 0) rfl
  have ef : w6.frozen? ⟨B + 1 + 1, 0, none⟩ = false := by simp [World.frozen?, b36]
  have s1 := setCell_self (j := 0) (x := .slice ai I.length ci) b26 rfl
  have s2 := setCell_self (j := 1) (x := .slice as' s'.sts.length cs') b26 rfl
  have s3 := setCell_self (j := 0) (x := .int .i64 0) b36 rfl
  have S1 := Lib.hid s1
  have S2 := Lib.hid s2
  have S3 := Lib.hid s3
  have Hb26 := Lib.hid b26
  have Hb36 := Lib.hid b36
  have Hend : Hid (Chg Nob w w6) := (show Chg Nob w w6 from Hw5.out.trans1 hc6)
  have HL6 := Lib.hid (HLR.out.nob hc6)
  have HS6 := Lib.hid (HSR.out.nob hc6)
  clear b26 b36 s1 s2 s3 hc6
  go_wp2_with fail
  rw [S1.out, S2.out, S3.out]
  refine leaves_cons (f := 29) (args := #[.pointer (some ⟨B + 1, 0, none⟩), .pointer (some ⟨B + 1 + 1, 0, none⟩)]) (by simp) (by simp [go_sem]) ?_
  refine (acatch_idle ⟨B + 1, 0, none⟩ ⟨B + 1 + 1, 0, none⟩ _).mono ?_
  rintro e u' w'' ⟨rfl, rfl, rfl⟩
  exact ⟨_, results11 rfl rfl Hb26.out Hb36.out, Hend.out, ai, ci, as', cs', rfl, HL6.out, HS6.out⟩
end Go.Proofs.YtkgfdgfhpdhhaaaGreat
namespace Go.Proofs.YtkgfdgfhpdhhaaaGreat
open Go.ChangeShapes Go.WideShapes Go.RowKit
open PL (F)
theorem check_Uz : checkN tUz = 0 := by
  have h1 : mayT tUz = true := by
    simp [tUz, nPz, nQz, mayT, mayL, okNode, kidsOf]
    decide
  have h2 : depthT tUz = 2 := by simp [tUz, nPz, nQz, depthT, depthL]
  unfold checkN
  rw [h1, h2]; rfl
theorem size_Uz : sizeT tUz = 3 := by simp [tUz, nPz, nQz, sizeT, sizeL]
theorem names_Uz : namesT tUz = [[112], [113]] := by
  have e : pnames (allT tUz) = [[112], [113]] := by
    simp [tUz, nPz, nQz, allT, allL, pnames, T.kind, T.name]
  unfold namesT
  rw [e, List.mergeSort_of_pairwise (by decide)]
  decide
theorem checked_Uz : checkedN tUz [[112], [113]] 0 1 = 0 := by
  unfold checkedN
  rw [check_Uz, size_Uz, names_Uz]
  decide
theorem nf_Uz : nfT tUz false = tUz := by simp [tUz, nPz, nQz, nfT, nfL, flipK]
theorem norm_Uz : normN tUz = 0 := by
  unfold normN
  rw [if_pos check_Uz, nf_Uz, size_Uz]
  rfl
theorem rew_Uz (r : T) (h : RewOf tUz r) : r = tUz := by
  rcases h with ⟨h, _⟩ | ⟨_, f, hf, _, rfl⟩
  · exact absurd norm_Uz h
  · have e : tUz = tF (.un (.pr [112]) (.pr [113])) := rfl
    unfold normT at hf
    rw [if_pos norm_Uz, nf_Uz, e] at hf
    rw [← tF_inj _ _ hf]
    rfl
theorem joinI_own : joinI [] [(0 : Int)] = [0] := by
  unfold joinI
  rw [List.nil_append, List.mergeSort_of_pairwise (by decide)]
  decide
def fPz : MkS → Option (List Mvi × MkS) := fun s => some ([⟨bitI [[112], [113]] [112], 0, []⟩], s)
def fQz : MkS → Option (List Mvi × MkS) := fun s => some ([⟨bitI [[112], [113]] [113], 0, []⟩], s)
def aUz : MkS := ⟨[⟨true, [⟨2, 0, []⟩, ⟨1, 0, [0]⟩]⟩], [(keyT tUz, 0)]⟩
theorem both_Uz : bothO [⟨1, 0, []⟩] [⟨0, 0, [((0 : Nat) : Int)]⟩] = some [⟨1, 0, [0]⟩] := by
  have h : pairsI [⟨1, 0, []⟩] [⟨0, 0, [((0 : Nat) : Int)]⟩] = [⟨1, 0, [0]⟩] := by
    show [atP [⟨1, 0, []⟩] [⟨0, 0, [((0 : Nat) : Int)]⟩] 0].filterMap id = _
    have e : atP [⟨1, 0, []⟩] [⟨0, 0, [((0 : Nat) : Int)]⟩] 0 = some ⟨1, 0, [0]⟩ := by
      show (if bits .and .u64 (bits .or .u64 1 0) (bits .or .u64 0 0) = 0 then some (⟨bits .or .u64 1 0, bits .or .u64 0 0, joinI [] [0]⟩ : Mvi) else none) = _
      rw [joinI_own]
      rfl
    rw [e]
    rfl
  unfold bothO
  rw [h]
  rfl
theorem until_Uz : untilI fPz fQz ⟨[], []⟩ = some ([⟨2, 0, []⟩, ⟨1, 0, [0]⟩], ⟨[], []⟩) := by
  show Option.bind (bothO [⟨bitI [[112], [113]] [112], 0, []⟩] [⟨0, 0, [((0 : Nat) : Int)]⟩]) (fun p => (leastO ([⟨bitI [[112], [113]] [113], 0, []⟩] ++ p)).map fun q => (q, (⟨[], []⟩ : MkS))) = _
  have e1 : bitI [[112], [113]] [112] = 1 := by decide
  have e2 : bitI [[112], [113]] [113] = 2 := by decide
  rw [e1, e2, both_Uz]
  rfl
theorem state_Uz : stateI (keyT tUz) true (untilI fPz fQz) ⟨[], []⟩ = some (0, aUz) := by
  rw [stateI_some (s' := ⟨[], []⟩) rfl until_Uz (by decide)]
  rfl
theorem check_aUz : checkAN [[0]] aUz.sts = 0 := by decide
end Go.Proofs.YtkgfdgfhpdhhaaaGreat
namespace Go.Proofs.YtkgfdgfhpdhhaaaGreat
open Go.ChangeShapes Go.WideShapes Go.RowKit
attribute [local go_sem] Oper.semAt_some
theorem acc_1 : accB [[0]] aUz.sts [1, 1] [2] = true ∧ accCode [[0]] aUz.sts 2 1 = 0 := by decide
theorem acc_2 : accB [[0]] aUz.sts [] [1] = false ∧ accCode [[0]] aUz.sts 0 1 = 0 := by decide
theorem tree_leafz {R : Nat → Prop} {W : World} (x : List UInt8) : IsTree R W (.node 3 x []) (.agg #[.int .i64 3, .string ⟨x.toArray⟩, .slice none 0 0]) := IsTree.of_parts (t := .node 3 x []) (Nat.zero_le _) (by rw [T.kids, IsKids]; trivial)
theorem tree_Uz {W : World} {g : Nat} (h : W.heap[g]? = some (.cells #[.int .i64 3, .string ⟨#[112]⟩, .slice none 0 0, .int .i64 3, .string ⟨#[113]⟩, .slice none 0 0] 24 (0, 0))) : IsTree (At1 g) W tUz (.agg #[.int .i64 12, .string ⟨#[]⟩, .slice (some ⟨g, 0, none⟩) 2 2]) := by
  refine IsTree.of_parts (t := tUz) (by decide) ?_
  unfold tUz T.kids
  rw [IsKids, IsKids, IsKids]
  exact ⟨⟨g, 0, _, _, _, rfl, rfl, cell_row h 0 rfl, cell_row h 1 rfl, cell_row h 2 rfl, tree_leafz [112]⟩, ⟨g, 0, _, _, _, rfl, rfl, cell_row h 3 rfl, cell_row h 4 rfl, cell_row h 5 rfl, tree_leafz [113]⟩, trivial⟩
theorem un_Uz (f : PL.F) (h : normT tUz = tF f) : onlyU f = true := by
  have e : tUz = tF (.un (.pr [112]) (.pr [113])) := rfl
  unfold normT at h
  rw [if_pos norm_Uz, nf_Uz, e] at h
  rw [← tF_inj _ _ h]
  rfl
theorem sets_Uz (R : Nat → Prop) (mb : Nat) (nv : Value) : SetsC R mb nv [[112], [113]] tUz (fun s => (stateI (keyT tUz) true (untilI fPz fQz) s).map fun x => ([[(x.1 : Int)]], x.2)) :=
  sets_state (by decide) (state_until rfl rfl (by
    intro u hu
    simp [tUz, nPz, nQz, allT, allL] at hu
    rcases hu with rfl | rfl | rfl <;> simp [T.kind]) (by
    simp [tUz, nPz, nQz, keyT, keyL]) (ways_prop rfl (by decide) (by decide)) (ways_prop rfl (by decide) (by decide)))
set_option maxRecDepth 100000 in
set_option maxHeartbeats 8000000 in
theorem of_Uz {w : World} {g nb : Nat} (hb : w.heap[g]? = some (.cells #[.int .i64 3, .string ⟨#[112]⟩, .slice none 0 0, .int .i64 3, .string ⟨#[113]⟩, .slice none 0 0] 24 (0, 0))) (hn : w.heap[nb]? = some (.cells #[.string ⟨#[112]⟩, .string ⟨#[113]⟩] 9 (0, 0))) :
    Calls Tryz.prog 11 #[.agg #[.int .i64 12, .string ⟨#[]⟩, .slice (some ⟨g, 0, none⟩) 2 2], .slice (some ⟨nb, 0, none⟩) 2 2] w fun e w' => Chg Nob w w' ∧ ∃ ai ci as' cs, e = .returned (.tuple #[.agg #[.slice ai 1 ci, .slice as' 1 cs], .int .i64 0]) ∧ LRow w' ai [[0]] ∧ SRow w' as' aUz.sts :=
  of_ok (t := tUz) (r := tUz) (names := [[112], [113]]) (I := [[0]]) (s' := aUz) (IsTree.mono (fun _ _ _ h => h) (fun b e => by have e : b = g := e; subst e; exact (Array.getElem?_eq_some_iff.1 hb).1) _ _ (tree_Uz hb)) (by rw [size_Uz]; decide)
    ⟨_, _, rfl, by decide, fun j x hj => by
      match j, hj with
      | 0, hj => cases hj; exact ⟨nb, 0, rfl, cell_row hn 0 rfl⟩
      | 1, hj => cases hj; exact ⟨nb, 0, rfl, cell_row hn 1 rfl⟩⟩ (by decide) checked_Uz norm_Uz un_Uz rew_Uz (fun R mb => sets_Uz R mb _) (by show Option.map _ (stateI (keyT tUz) true (untilI fPz fQz) ⟨[], []⟩) = _; rw [state_Uz]; rfl) check_aUz
set_option maxRecDepth 100000 in
set_option maxHeartbeats 8000000 in
theorem aknown_any (W : World) : Calls Tryz.prog 8 #[] W fun e w' => e = .returned (.bool true) ∧ Chg Nob W w' := by
  go_enter Tryz.func8, Tryz.ntmps8
  go_wp2_with fail
  (with_reducible refine (until_law W).mono ?_)
  rintro e w1 ⟨hc1, g, rfl, hg, hb⟩
  obtain ⟨N, hN, hcN, hbN, hsN⟩ := box_cells w1 #[.string ⟨#[112]⟩, .string ⟨#[113]⟩] 9
  have hof := of_Uz (hcN.at hb (fun e => e)) hbN
  have HN : Hid (Chg Nob W N) := (show Chg Nob W N from hc1.trans1 hcN)
  clear hc1 hg hb hcN hbN hsN
  go_wp2_with fail
  rw [← hN]
  clear hN
  (with_reducible refine hof.mono ?_)
  clear hof
  rintro e w2 ⟨hc2, ai, ci, as', cs, rfl, hI, hS⟩
  obtain ⟨V, hV, hcV, hbV, hsV⟩ := box_cells w2 #[.slice ai 1 ci, .slice as' 1 cs] 38
  have hIV := hI.nob hcV
  have hSV := hS.nob hcV
  have hrc : Calls Tryz.prog 24 #[.agg #[.slice ai 1 ci, .slice as' 1 cs]] V fun e w' => e = .returned (.int .i64 0) ∧ Chg Nob V w' := by
    have := racheck_any (ci := ci) (cs := cs) (I := [[0]]) (S := aUz.sts) (by decide) (by decide) hIV hSV
    rw [check_aUz] at this
    exact this
  have HV : Hid (Chg Nob W V) := (show Chg Nob W V from (HN.out.trans1 hc2).trans1 hcV)
  have HIV := Lib.hid hIV
  have HSV := Lib.hid hSV
  have HbV := Lib.hid hbV
  have HV2 := Lib.hid hV
  obtain ⟨z0, z1, _⟩ := cell_two hbV
  obtain ⟨vb, hvb⟩ : ∃ vb, vb = w2.heap.size := ⟨_, rfl⟩
  have Hvb := Lib.hid hvb
  rw [← hvb] at z0 z1 HbV
  clear hc2 hI hS hcV hbV hsV hIV hSV hV hvb
  go_upto_region 2 with fail
  rw [← HV2.out, ← Hvb.out]
  go_wp2_with fail
  (with_reducible refine hrc.mono ?_)
  clear hrc z0 z1
  rintro e w3 ⟨rfl, hc3⟩
  obtain ⟨A, hA, hcA, hbA, hsA⟩ := box_cells w3 #[.int .u64 1, .int .u64 1] 53
  obtain ⟨A2, hA2, hcA2, hbA2, hsA2⟩ := box_cells A #[.int .u64 2] 53
  have hacc1 : Calls Tryz.prog 12 #[.agg #[.slice ai 1 ci, .slice as' 1 cs], .agg #[.slice (some ⟨w3.heap.size, 0, none⟩) 2 2, .slice (some ⟨A.heap.size, 0, none⟩) 1 1]] A2 fun e w' => e = .returned (.tuple #[.bool true, .int .i64 0]) ∧ Chg Nob A2 w' := by
    have := accepts_any (ci := ci) (cs := cs) (cp := 2) (cl := 1) (I := [[0]]) (S := aUz.sts) (P := [1, 1]) (L := [2]) (ap := some ⟨w3.heap.size, 0, none⟩) (al := some ⟨A.heap.size, 0, none⟩) (by decide) (by decide) (HIV.out.nob ((hc3.trans1 hcA).trans1 hcA2)) (HSV.out.nob ((hc3.trans1 hcA).trans1 hcA2)) (by decide) (fun j x h => by
      have hbA := hcA2.at hbA (fun e => e)
      match j, h with
      | 0, h => cases h; exact ⟨_, rfl, by rw [Go.WideShapes.add_plain]; exact cell_row hbA 0 rfl⟩
      | 1, h => cases h; exact ⟨_, rfl, by rw [Go.WideShapes.add_plain]; exact cell_row hbA 1 rfl⟩) (fun j x h => by
      match j, h with
      | 0, h => cases h; exact ⟨_, rfl, by rw [Go.WideShapes.add_plain]; exact cell_row hbA2 0 rfl⟩) (fun e => by cases e) (fun e => by cases e)
    unfold AccPost at this
    rw [acc_1.1] at this
    have e : accCode [[0]] aUz.sts ([1, 1] : List Int).length ([2] : List Int).length = 0 := acc_1.2
    rw [e] at this
    exact this
  have HcA : Hid (Chg Nob V A2) := (show Chg Nob V A2 from (hc3.trans1 hcA).trans1 hcA2)
  obtain ⟨z0, z1, _⟩ := cell_two (hc3.at HbV.out (fun e => e))
  have HA := Lib.hid hA
  have HA2 := Lib.hid hA2
  have HsA : Hid (A.heap.size = w3.heap.size + 1) := Lib.hid hsA
  rw [hsA] at hacc1
  clear hc3 hcA hcA2 hbA hbA2 hsA hsA2 hA hA2
  go_wp2_with fail
  rw [← HA.out, ← HA2.out]
  (with_reducible refine hacc1.mono ?_)
  clear hacc1 z0 z1
  rintro e w4 ⟨rfl, hc4⟩
  obtain ⟨C, hC, hcC, hbC, hsC⟩ := box_cells w4 #[.int .u64 1] 53
  have hacc2 : Calls Tryz.prog 12 #[.agg #[.slice ai 1 ci, .slice as' 1 cs], .agg #[.slice none 0 0, .slice (some ⟨w4.heap.size, 0, none⟩) 1 1]] C fun e w' => e = .returned (.tuple #[.bool false, .int .i64 0]) ∧ Chg Nob C w' := by
    have := accepts_any (ci := ci) (cs := cs) (cp := 0) (cl := 1) (I := [[0]]) (S := aUz.sts) (P := []) (L := [1]) (ap := none) (al := some ⟨w4.heap.size, 0, none⟩) (by decide) (by decide) (HIV.out.nob ((HcA.out.trans1 hc4).trans1 hcC)) (HSV.out.nob ((HcA.out.trans1 hc4).trans1 hcC)) (by decide) (fun j x h => by simp at h) (fun j x h => by
      match j, h with
      | 0, h => cases h; exact ⟨_, rfl, by rw [Go.WideShapes.add_plain]; exact cell_row hbC 0 rfl⟩) (fun _ => rfl) (fun e => by cases e)
    unfold AccPost at this
    rw [acc_2.1] at this
    have e : accCode [[0]] aUz.sts ([] : List Int).length ([1] : List Int).length = 0 := acc_2.2
    rw [e] at this
    exact this
  have HcC : Hid (Chg Nob V C) := (show Chg Nob V C from (HcA.out.trans1 hc4).trans1 hcC)
  obtain ⟨z0, z1, _⟩ := cell_two ((HcA.out.trans1 hc4).at HbV.out (fun e => e))
  have HC := Lib.hid hC
  clear hc4 hcC hbC hsC hC
  go_wp2_with fail
  rw [← HC.out]
  (with_reducible refine hacc2.mono ?_)
  clear hacc2 z0 z1
  rintro e w5 ⟨rfl, hc5⟩
  have hchk : Calls Tryz.prog 23 #[.agg #[.slice ai 1 ci, .slice as' 1 cs]] w5 fun e w' => e = .returned (.int .i64 0) ∧ Chg Nob w5 w' := by
    have := acheck_any (ci := ci) (cs := cs) (I := [[0]]) (S := aUz.sts) (by decide) (by decide) (HIV.out.nob (HcC.out.trans1 hc5)) (HSV.out.nob (HcC.out.trans1 hc5))
    rw [check_aUz] at this
    exact this
  have Hc5 : Hid (Chg Nob V w5) := (show Chg Nob V w5 from HcC.out.trans1 hc5)
  obtain ⟨z0, z1, _⟩ := cell_two (Hc5.out.at HbV.out (fun e => e))
  clear hc5
  go_wp2_with fail
  (with_reducible refine hchk.mono ?_)
  clear hchk z0 z1
  rintro e w6 ⟨rfl, hc6⟩
  have H6 : Hid (Chg Nob W w6) := (show Chg Nob W w6 from (HV.out.trans1 Hc5.out).trans1 hc6)
  clear hc6
  go_wp2_with fail
  go_ret
  exact ⟨rfl, H6.out⟩
end Go.Proofs.YtkgfdgfhpdhhaaaGreat
namespace Go.Proofs.YtkgfdgfhpdhhaaaGreat
open PL (posN posN_lt posN_next posN_small posN_far FX FX.congr fixL_pos)
theorem rowR_fix {R : List (List Bool)} {s : Sti} {M : List Int} {np n p : Nat} (hnp : np < M.length) (hp : p < M.length) : (rowR R s M np n).getD p false = (fixL np M.length (leavesR R s.moves M np n false) (leavesR R s.moves M np n true) (!s.fin)).getD p false := by
  unfold rowR
  rw [List.getD_eq_getElem?_getD, List.getElem?_map, List.getElem?_range hp]
  exact walkR_fix hnp _ hp
section
variable {S : List Sti} {M M' : List Int} {np np' : Nat}
theorem rows_tell (hnp : np < M.length) (hnp' : np' < M'.length) (hw : ∀ i, M.getD (posN np M.length i) 0 = M'.getD (posN np' M'.length i) 0) :
    ∀ m k, k < m → ∀ i, ((rowsR S M np m).getD k []).getD (posN np M.length i) false = ((rowsR S M' np' m).getD k []).getD (posN np' M'.length i) false := by
  intro m
  induction m with
  | zero => intro k h; omega
  | succ m ih =>
    intro k hk i
    rw [rowsR, rowsR]
    have hl := rowsR_length S M np m
    have hl' := rowsR_length S M' np' m
    by_cases e : k = m
    · subst e
      have g1 : (rowsR S M np k ++ [rowR (rowsR S M np k) (S.getD k s0) M np k]).getD k [] = rowR (rowsR S M np k) (S.getD k s0) M np k := by
        rw [List.getD_eq_getElem?_getD, List.getElem?_append_right (by omega), hl, Nat.sub_self]; rfl
      have g2 : (rowsR S M' np' k ++ [rowR (rowsR S M' np' k) (S.getD k s0) M' np' k]).getD k [] = rowR (rowsR S M' np' k) (S.getD k s0) M' np' k := by
        rw [List.getD_eq_getElem?_getD, List.getElem?_append_right (by omega), hl', Nat.sub_self]; rfl
      rw [g1, g2, rowR_fix hnp (posN_lt hnp i), rowR_fix hnp' (posN_lt hnp' i)]
      have hoth : ∀ (l : List Int) j, othersR (rowsR S M np k) l k (posN np M.length j) = othersR (rowsR S M' np' k) l k (posN np' M'.length j) := by
        intro l j
        unfold othersR
        induction l with
        | nil => rfl
        | cons x l ihl =>
          rw [List.all_cons, List.all_cons, ihl]
          congr 2
          by_cases hx : x.toNat < k
          · exact ih x.toNat hx j
          · rw [List.getD_eq_getElem?_getD (l := rowsR S M np k), List.getD_eq_getElem?_getD (l := rowsR S M' np' k), List.getElem?_eq_none (by omega), List.getElem?_eq_none (by omega)]; rfl
      have hst : ∀ own j, stepB (rowsR S M np k) (S.getD k s0).moves M np k (posN np M.length j) own = stepB (rowsR S M' np' k) (S.getD k s0).moves M' np' k (posN np' M'.length j) own := by
        intro own j
        unfold stepB
        congr 1
        funext mv
        unfold stepM
        rw [hw j, ← posN_next, ← posN_next, hoth]
      have key : (fixL np M.length (leavesR (rowsR S M np k) (S.getD k s0).moves M np k false) (leavesR (rowsR S M np k) (S.getD k s0).moves M np k true) (!(S.getD k s0).fin)).getD (posN np M.length i) false = true ↔
          (fixL np' M'.length (leavesR (rowsR S M' np' k) (S.getD k s0).moves M' np' k false) (leavesR (rowsR S M' np' k) (S.getD k s0).moves M' np' k true) (!(S.getD k s0).fin)).getD (posN np' M'.length i) false = true := by
        rw [fixL_pos hnp, fixL_pos hnp']
        refine FX.congr (fun j => ?_) (fun j => ?_) i
        · rw [leavesR_getD (posN_lt hnp j), leavesR_getD (posN_lt hnp' j), hst]
        · rw [leavesR_getD (posN_lt hnp j), leavesR_getD (posN_lt hnp' j), hst]
      exact Bool.eq_iff_iff.2 key
    · have g1 : (rowsR S M np m ++ [rowR (rowsR S M np m) (S.getD m s0) M np m]).getD k [] = (rowsR S M np m).getD k [] := by
        rw [List.getD_eq_getElem?_getD, List.getElem?_append_left (by omega), ← List.getD_eq_getElem?_getD]
      have g2 : (rowsR S M' np' m ++ [rowR (rowsR S M' np' m) (S.getD m s0) M' np' m]).getD k [] = (rowsR S M' np' m).getD k [] := by
        rw [List.getD_eq_getElem?_getD, List.getElem?_append_left (by omega), ← List.getD_eq_getElem?_getD]
      rw [g1, g2]
      exact ih k (by omega) i
theorem accI_tell (hnp : np < M.length) (hnp' : np' < M'.length) (hS : ∀ n, n < S.length → stateP (S.getD n s0) n) (hw : ∀ i, M.getD (posN np M.length i) 0 = M'.getD (posN np' M'.length i) 0) (I : List (List Int)) : accI I S M np = accI I S M' np' := by
  unfold accI
  rw [rowsI_rowsR hnp hS _ (Nat.le_refl _), rowsI_rowsR hnp' hS _ (Nat.le_refl _)]
  congr 1
  funext l
  unfold allR
  congr 2
  funext k
  congr 1
  by_cases hk : k.toNat < S.length
  · exact rows_tell hnp hnp' hw S.length k.toNat hk 0
  · have h1 := rowsR_length S M np S.length
    have h2 := rowsR_length S M' np' S.length
    rw [List.getD_eq_getElem?_getD (l := rowsR S M np S.length), List.getD_eq_getElem?_getD (l := rowsR S M' np' S.length), List.getElem?_eq_none (by omega), List.getElem?_eq_none (by omega)]
end
theorem word_tell (P L : List Int) (h0 : 0 < L.length) (i : Nat) : (P ++ L).getD (posN P.length (P ++ L).length i) 0 = ((P ++ L) ++ (L ++ L)).getD (posN (P ++ L).length ((P ++ L) ++ (L ++ L)).length i) 0 := by
  have l1 : (P ++ L).length = P.length + L.length := List.length_append
  have l2 : ((P ++ L) ++ (L ++ L)).length = P.length + L.length + (L.length + L.length) := by rw [List.length_append, l1, List.length_append]
  rw [l2, l1]
  rcases Nat.lt_or_ge i (P.length + L.length) with h | h
  · rw [posN_small h, posN_small (by omega), List.getD_eq_getElem?_getD (l := (P ++ L) ++ (L ++ L)), List.getElem?_append_left (by omega), ← List.getD_eq_getElem?_getD]
  · rw [posN_far (by omega) (by omega : P.length ≤ i), posN_far (by omega) h]
    obtain ⟨r, hr⟩ : ∃ r, r = i - (P.length + L.length) := ⟨_, rfl⟩
    rw [show P.length + L.length - P.length = L.length by omega, show P.length + L.length + (L.length + L.length) - (P.length + L.length) = 2 * L.length by omega, ← hr, show i - P.length = r + L.length by omega, Nat.add_mod_right]
    have hm1 := Nat.mod_lt r h0
    have hm2 := Nat.mod_lt r (show 0 < 2 * L.length by omega)
    have hmm : r % (2 * L.length) % L.length = r % L.length := Nat.mod_mod_of_dvd _ ⟨2, by omega⟩
    rw [List.getD_eq_getElem?_getD, List.getD_eq_getElem?_getD, List.getElem?_append_right (by omega), List.getElem?_append_right (by omega), show P.length + r % L.length - P.length = r % L.length by omega]
    rw [show P.length + L.length + r % (2 * L.length) - (P ++ L).length = r % (2 * L.length) by omega]
    rcases Nat.lt_or_ge (r % (2 * L.length)) L.length with e | e
    · rw [List.getElem?_append_left e, ← hmm, Nat.mod_eq_of_lt e]
    · rw [List.getElem?_append_right e, ← hmm, Nat.mod_eq_sub_mod e, Nat.mod_eq_of_lt (by omega)]
theorem code_zero {I : List (List Int)} {S : List Sti} {np nl : Nat} (h : accCode I S np nl = 0) : checkAN I S = 0 ∧ 0 < nl ∧ np + nl ≤ 4096 := by
  unfold accCode at h
  split at h
  · rename_i h1; exact absurd h h1
  · rename_i h1
    exact ⟨Classical.not_not.1 h1, lcheck_okz h⟩
theorem fine_of {I : List (List Int)} {S : List Sti} (h : checkAN I S = 0) : fineA I S := by
  unfold checkAN at h
  split at h
  · assumption
  · cases h
theorem code_of {I : List (List Int)} {S : List Sti} {np nl : Nat} (h : fineA I S) (h0 : 0 < nl) (hl : np + nl ≤ 4096) : accCode I S np nl = 0 := by
  unfold accCode checkAN
  rw [if_pos h, if_neg (fun e => e rfl)]
  unfold lcheckN
  rw [if_neg (by omega)]
theorem accB_tell {I : List (List Int)} {S : List Sti} {P L : List Int} (h : accCode I S P.length L.length = 0) (hl : P.length + 2 * L.length ≤ 200) : accCode I S (P ++ L).length (L ++ L).length = 0 ∧ accB I S (P ++ L) (L ++ L) = accB I S P L := by
  obtain ⟨h1, h2, h3⟩ := code_zero h
  have l1 : (P ++ L).length = P.length + L.length := List.length_append
  have l2 : (L ++ L).length = L.length + L.length := List.length_append
  have h4 : accCode I S (P ++ L).length (L ++ L).length = 0 := code_of (fine_of h1) (by omega) (by omega)
  refine ⟨h4, ?_⟩
  unfold accB
  rw [h, h4]
  have l3 : ((P ++ L) ++ (L ++ L)).length = P.length + L.length + (L.length + L.length) := by rw [List.length_append, l1, l2]
  rw [accI_tell (M := (P ++ L) ++ (L ++ L)) (M' := P ++ L) (np := (P ++ L).length) (np' := P.length) (by omega) (by omega) (fine_of h1).2.2.2.1 (fun i => (word_tell P L h2 i).symm)]
theorem accB_one {I : List (List Int)} {S : List Sti} {P L : List Int} (h : accCode I S P.length L.length = 0) {i : Nat} {l : List Int} (hi : I[i]? = some l) : accCode [l] S P.length L.length = 0 ∧ accB [l] S P L = allR (rowsI S (P ++ L) P.length S.length) l 0 := by
  obtain ⟨h1, h2, h3⟩ := code_zero h
  obtain ⟨f1, f2, f3, f4, f5⟩ := fine_of h1
  have hil := (List.getElem?_eq_some_iff.1 hi).1
  have h4 : accCode [l] S P.length L.length = 0 := code_of ⟨f1, by simp, fun j hj => by
    have hj0 : j = 0 := by simp at hj; omega
    subst hj0
    have := f3 i hil
    rw [List.getD_eq_getElem?_getD, hi] at this
    exact this, f4, f5⟩ h2 h3
  refine ⟨h4, ?_⟩
  unfold accB accI
  rw [h4]
  simp
theorem accB_all {I : List (List Int)} {S : List Sti} {P L : List Int} (h : accCode I S P.length L.length = 0) : accB I S P L = I.any fun l => allR (rowsI S (P ++ L) P.length S.length) l 0 := by
  unfold accB accI
  rw [h]
  simp
end Go.Proofs.YtkgfdgfhpdhhaaaGreat
