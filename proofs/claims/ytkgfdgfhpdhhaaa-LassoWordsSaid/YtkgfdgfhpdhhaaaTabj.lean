/- lasso.Table and lasso.Holds: the row that where finds, or what is wrong. Conditions: as checked wants. -/
import Derived.Test.YtkgfdgfhpdhhaaaTabi
import Derived.Test.YtkgfdgfhpdhhaaaPrint
import Derived.Test.YtkgfdgfhpdhhaaaLsuf
namespace Go.Proofs.Ytkgfdgfhpdhhaaa
open Go.ChangeShapes Go.WideShapes Go.RowKit Go.Shelf

attribute [local go_sem] Oper.semAt_some

theorem mem_compactUpTo {α : Type} [Inhabited α] [DecidableEq α] (d : Array α) : ∀ m j, j < m → d[j]! ∈ Lib.compactUpTo d m
  | 0, j, h => absurd h (Nat.not_lt_zero j)
  | m + 1, j, h => by
    rw [Lib.compactUpTo_succ, List.mem_append]
    by_cases hj : j < m
    · exact Or.inl (mem_compactUpTo d m j hj)
    · obtain rfl : j = m := by omega
      by_cases hk : Lib.keeps d j = true
      · right; rw [hk]; simp
      · left
        have hk2 : ¬ (j = 0 ∨ d[j]! ≠ d[j - 1]!) := fun h => hk (by unfold Lib.keeps; exact decide_eq_true h)
        rw [not_or] at hk2
        rw [Decidable.not_not.1 hk2.2]
        exact mem_compactUpTo d j (j - 1) (by omega)
theorem mem_compact {α : Type} [Inhabited α] [DecidableEq α] {l : List α} {x : α} (h : x ∈ l) : x ∈ Lib.compact l := by
  obtain ⟨j, hj, rfl⟩ := List.mem_iff_getElem.1 h
  have h2 := mem_compactUpTo l.toArray l.length j hj
  rw [getElem!_pos l.toArray j (by simpa using hj)] at h2
  unfold Lib.compact
  simpa using h2
theorem names_in {t : T} {names : List (List UInt8)} (h : ∀ x ∈ namesT t, x ∈ names) : NamesIn names t := fun u hu hk => h _ (mem_compact (List.mem_mergeSort.2 (List.mem_map.2 ⟨u, List.mem_filter.2 ⟨hu, by simp [hk]⟩, rfl⟩)))
theorem checkedN_zero {t : T} {names : List (List UInt8)} {np nl : Nat} (h : checkedN t names np nl = 0) : checkN t = 0 ∧ names.length ≤ 60 ∧ (∀ x ∈ namesT t, x ∈ names) ∧ lcheckN np nl = 0 := by
  unfold checkedN at h
  by_cases h0 : checkN t = 0
  · rw [if_neg (by simp [h0])] at h
    split at h
    · cases h
    · split at h
      · cases h
      · split at h
        · cases h
        · split at h
          · cases h
          · rename_i a b c d
            exact ⟨h0, by omega, Decidable.not_not.1 d, h⟩
  · rw [if_pos h0] at h
    exact absurd h h0
def tabRow (t : T) (names : List (List UInt8)) (P L : List Int) : List Bool := whereT (nameRow names (P ++ L)) P.length (P.length + L.length) t
def TabPost (t : T) (names : List (List UInt8)) (P L : List Int) (w : World) (e : Ending) (w' : World) : Prop :=
  Chg Nob w w' ∧ ((checkedN t names P.length L.length = 0 ∧ ∃ g, w.heap.size ≤ g ∧ e = .returned (.tuple #[.slice (some ⟨g, 0, none⟩) (P.length + L.length) (P.length + L.length), .int .i64 0]) ∧ BBlk w' g (tabRow t names P L)) ∨ (checkedN t names P.length L.length ≠ 0 ∧ e = .returned (.tuple #[.slice none 0 0, .int .i64 (checkedN t names P.length L.length)])))
theorem tabRow_len {t : T} {names : List (List UInt8)} {P L : List Int} (h : mayT t = true) : (tabRow t names P L).length = P.length + L.length :=
  whereT_len _ _ _ (fun nm => by unfold nameRow; rw [List.length_map, List.length_append]) t h
section
variable {R : Nat → Prop} {t : T} {v : Value} {w : World} {names : List (List UInt8)} {an ap al : Option Addr} {cn cp cl : Nat} {P L : List Int}
set_option maxRecDepth 100000 in
set_option maxHeartbeats 8000000 in
theorem table_any (ht : IsTree R w t v) (hN : sizeT t ≤ 1000000) (hR : ∀ b, R b → b < w.heap.size) (hn : Texts w (.slice an names.length cn) names) (hcn : names.length ≤ cn) (hl : P.length + L.length ≤ 10000) (hP : URow w ap P) (hL : URow w al L) (hnp : ap = none → cp = 0) (hnl : al = none → cl = 0) :
    Calls Try.prog 70 #[v, .slice an names.length cn, .agg #[.slice ap P.length cp, .slice al L.length cl]] w (TabPost t names P L w) := by
  obtain ⟨ao, cap, rfl, hlen, _⟩ := ht.parts
  obtain ⟨X, hX, hcX, hb0, hb1, hsX⟩ := box_tw w (.int .i64 t.kind) (.string ⟨t.name.toArray⟩) (.slice ao t.kids.length cap) (.slice ap P.length cp) (.slice al L.length cl)
  obtain ⟨c0, c1, c2, _⟩ := cells_three hb0
  obtain ⟨d0, d1, _⟩ := cell_two hb1
  rw [hX] at c0 c1 c2 d0 d1
  have hp : Calls Try.prog 99 #[.agg #[.int .i64 t.kind, .string ⟨t.name.toArray⟩, .slice ao t.kids.length cap], .slice an names.length cn, .agg #[.slice ap P.length cp, .slice al L.length cl]] X fun e w' => e = .returned (.int .i64 (checkedN t names P.length L.length)) ∧ Chg Nob X w' := checked_any (ht.nob hcX) hN (fun b hb => by have := hR b hb; have := hcX.size; omega) (hn.nob hcX) hcn hl
  have HcX := Lib.hid hcX
  have Hb0 := Lib.hid hb0
  have Hb1 := Lib.hid hb1
  have HsX := Lib.hid hsX
  have Hp := Lib.hid hp
  have Hn := Lib.hid (hn.nob hcX)
  have Ht := Lib.hid (ht.nob hcX)
  have HP := Lib.hid (hP.nob hcX)
  have HL := Lib.hid (hL.nob hcX)
  have HR : Hid (∀ b, R b → b < X.heap.size) := (show ∀ b, R b → b < X.heap.size from fun b hb => by have := hR b hb; have := hcX.size; omega)
  clear ht hR hn hcX hb0 hb1 hsX hp hP hL
  obtain ⟨code, hcode⟩ : ∃ code, code = checkedN t names P.length L.length := ⟨_, rfl⟩
  have Hcode := Lib.hid hcode
  rw [← hcode] at Hp
  clear hcode
  go_enter Try.func70, Try.ntmps70
  go_wp2_with fail
  rw [← hX]
  clear hX c0 c1 c2 d0 d1
  (with_reducible refine Hp.out.mono ?_)
  rintro e w1 ⟨rfl, hc1⟩
  have Hc1 := Lib.hid hc1
  clear hc1 Hp
  cases h0 : (code == 0) with
  | false =>
    have hne : (code != 0) = true := by rw [bne, h0]; rfl
    go_wp2_with fail
    refine bodyPost_ret (results_tmp2 rfl _ _ _) rfl ?_
    exact ⟨HcX.out.trans1 Hc1.out, Or.inr ⟨by rw [← Hcode.out]; exact beq_eq_false_iff_ne.1 h0, by rw [← Hcode.out]; rfl⟩⟩
  | true =>
    have hne : (code != 0) = false := by rw [bne, h0]; rfl
    have Hz : Hid (checkedN t names P.length L.length = 0) := (show checkedN t names P.length L.length = 0 by rw [← Hcode.out]; exact beq_iff_eq.1 h0)
    obtain ⟨d0, d1, _⟩ := cell_two (Hc1.out.at Hb1.out (fun e => e))
    obtain ⟨c0, c1, c2, _⟩ := cells_three (Hc1.out.at Hb0.out (fun e => e))
    obtain ⟨Y, hY, hcY, hbY, e0, e1, e2⟩ : ∃ Y, Y = w1.alloc (.cells #[.slice an names.length cn, .slice ap P.length cp, .slice al L.length cl, .int .i64 ((P.length : Int) + (L.length : Int))] 147) ∧ Chg Nob w1 Y ∧ TabIs Y w1.heap.size (.slice an names.length cn) ap P.length cp al L.length cl (P.length + L.length) ∧ Y.cell? ⟨w.heap.size, 0, none⟩ = some (.int .i64 t.kind) ∧ Y.cell? ⟨w.heap.size, 1, none⟩ = some (.string ⟨t.name.toArray⟩) ∧ Y.cell? ⟨w.heap.size, 2, none⟩ = some (.slice ao t.kids.length cap) := by
      have hc : Chg Nob w1 (w1.alloc (.cells #[.slice an names.length cn, .slice ap P.length cp, .slice al L.length cl, .int .i64 ((P.length : Int) + (L.length : Int))] 147)) := (Chg.refl _ _).alloc _
      exact ⟨_, rfl, hc, by unfold TabIs; rw [Int.natCast_add]; exact heap_alloc_new _ _, hc.cell' c0 (fun e => e), hc.cell' c1 (fun e => e), hc.cell' c2 (fun e => e)⟩
    have hcXY := Hc1.out.trans1 hcY
    have hp : Calls Try.prog 100 #[.pointer (some ⟨w1.heap.size, 0, none⟩), .agg #[.int .i64 t.kind, .string ⟨t.name.toArray⟩, .slice ao t.kids.length cap]] Y (WhPost (P.length + L.length) (tabRow t names P L) Y) := by
      obtain ⟨z0, z1, z2, z3⟩ := checkedN_zero Hz.out
      refine where_any z1 t (names_in z2) (checkN_zero z0).1 R Y _ (fun b hb => by have := HR.out b hb; have := hcXY.size; omega) (Ht.out.nob hcXY) ⟨rfl, hbY, hl, ?_, HP.out.nob hcXY, HL.out.nob hcXY, hnp, hnl, Hn.out.nob hcXY⟩
      exact (lcheck_ok (by rw [z3]; rfl)).1
    have HcY : Hid (Chg Nob w Y) := (show Chg Nob w Y from HcX.out.trans1 hcXY)
    clear hbY hcXY hcY c0 c1 c2 Ht HP HL Hn HR Hb0 Hb1
    rw [hY] at e0 e1 e2
    go_wp2_with fail
    rw [← hY]
    clear hY e0 e1 e2
    (with_reducible refine hp.mono ?_)
    clear hp
    rintro e w2 ⟨hc2, g, hg, rfl, hb⟩
    have Hfin : Hid (Chg Nob w w2 ∧ w.heap.size ≤ g ∧ BBlk w2 g (tabRow t names P L)) := (show _ ∧ _ ∧ _ from ⟨HcY.out.trans1 hc2, by have := HcY.out.size; omega, hb⟩)
    clear hc2 hg hb
    go_wp2_with fail
    refine bodyPost_ret (results_tmp2 rfl _ _ _) rfl ?_
    exact ⟨Hfin.out.1, Or.inl ⟨Hz.out, g, Hfin.out.2.1, rfl, Hfin.out.2.2⟩⟩
def HoldPost (t : T) (names : List (List UInt8)) (P L : List Int) (w : World) (e : Ending) (w' : World) : Prop :=
  Chg Nob w w' ∧ e = .returned (.tuple #[.bool (decide (checkedN t names P.length L.length = 0) && (tabRow t names P L).getD 0 false), .int .i64 (checkedN t names P.length L.length)])
set_option maxRecDepth 100000 in
set_option maxHeartbeats 8000000 in
theorem holds_any (ht : IsTree R w t v) (hN : sizeT t ≤ 1000000) (hR : ∀ b, R b → b < w.heap.size) (hn : Texts w (.slice an names.length cn) names) (hcn : names.length ≤ cn) (hl : P.length + L.length ≤ 10000) (hP : URow w ap P) (hL : URow w al L) (hnp : ap = none → cp = 0) (hnl : al = none → cl = 0) :
    Calls Try.prog 41 #[v, .slice an names.length cn, .agg #[.slice ap P.length cp, .slice al L.length cl]] w (HoldPost t names P L w) := by
  obtain ⟨ao, cap, rfl, hlen, _⟩ := ht.parts
  obtain ⟨X, hX, hcX, hb0, hb1, hsX⟩ := box_tw w (.int .i64 t.kind) (.string ⟨t.name.toArray⟩) (.slice ao t.kids.length cap) (.slice ap P.length cp) (.slice al L.length cl)
  obtain ⟨c0, c1, c2, _⟩ := cells_three hb0
  obtain ⟨d0, d1, _⟩ := cell_two hb1
  rw [hX] at c0 c1 c2 d0 d1
  have hp : Calls Try.prog 70 #[.agg #[.int .i64 t.kind, .string ⟨t.name.toArray⟩, .slice ao t.kids.length cap], .slice an names.length cn, .agg #[.slice ap P.length cp, .slice al L.length cl]] X (TabPost t names P L X) := table_any (ht.nob hcX) hN (fun b hb => by have := hR b hb; have := hcX.size; omega) (hn.nob hcX) hcn hl (hP.nob hcX) (hL.nob hcX) hnp hnl
  have HcX := Lib.hid hcX
  have Hp := Lib.hid hp
  clear ht hR hn hcX hb0 hb1 hsX hp hP hL
  go_enter Try.func41, Try.ntmps41
  go_wp2_with fail
  rw [← hX]
  clear hX c0 c1 c2 d0 d1
  (with_reducible refine Hp.out.mono ?_)
  clear Hp
  rintro e w1 ⟨hc1, ⟨hz, g, hg, rfl, hb⟩ | ⟨hz, rfl⟩⟩
  · have Hc1 := Lib.hid hc1
    obtain ⟨z0, z1, z2, z3⟩ := checkedN_zero hz
    have h0 : 0 < P.length + L.length := by have := (lcheck_ok (np := P.length) (nl := L.length) (by rw [z3]; rfl)).1; omega
    obtain ⟨x, hx⟩ : ∃ x, x = (tabRow t names P L).getD 0 false := ⟨_, rfl⟩
    have hcell : w1.cell? ⟨g, 0, none⟩ = some (.bool x) := hb.cell (by rw [hx]; exact getD_some (by rw [tabRow_len (checkN_zero z0).1]; exact h0))
    have h0i : (0 : Int) < ((P.length + L.length : Nat) : Int) := by omega
    have Hz := Lib.hid hz
    have Hx := Lib.hid hx
    clear hb hz z0 z1 z2 z3 hx hc1
    go_wp2_with fail
    refine bodyPost_ret (results_tmp2 rfl _ _ _) rfl ?_
    exact ⟨HcX.out.trans1 Hc1.out, by rw [Hz.out, ← Hx.out]; simp⟩
  · have Hc1 := Lib.hid hc1
    obtain ⟨code, hcode⟩ : ∃ code, code = checkedN t names P.length L.length := ⟨_, rfl⟩
    have h0 : (code == 0) = false := by rw [hcode]; exact beq_eq_false_iff_ne.2 hz
    have Hcode := Lib.hid hcode
    have Hz := Lib.hid hz
    rw [← hcode]
    clear hcode hz hc1
    go_wp2_with fail
    refine bodyPost_ret (results_tmp2 rfl _ _ _) rfl ?_
    exact ⟨HcX.out.trans1 Hc1.out, by rw [← Hcode.out, decide_eq_false (by rw [Hcode.out]; exact Hz.out)]; rfl⟩
end
end Go.Proofs.Ytkgfdgfhpdhhaaa
