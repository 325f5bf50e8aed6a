/- The law LtlBack: whatever the formula and the text, it returns true. No condition. -/
import Derived.Test.YtkgfdgfhpdhhaaaKnown
namespace Go.Proofs.Ytkgfdgfhpdhhaaa.ltlBack
open Go.ChangeShapes Go.WideShapes Go.ChangeAt Go.RowKit
open Go.ChangeMaps (open_string shut_string)

theorem printN_cases {t : T} (hm : mayT t = true) (hd : depthT t ≤ 100) : checkN t = 0 ∧ (printN t = 0 ∨ printN t = 2) := by
  have h : checkN t = 0 := by
    unfold checkN
    rw [hm, if_neg (by simp), if_neg (by omega)]
  refine ⟨h, ?_⟩
  unfold printN
  rw [if_pos h]
  split
  · exact .inl rfl
  · exact .inr rfl
theorem printed {t : T} (h : printN t = 0) : checkN t = 0 ∧ PR (printT t) (.ok t) := by
  have h0 : checkN t = 0 := by
    unfold printN at h
    split at h
    · assumption
    · rename_i hn; exact absurd h hn
  have hl : (textT t).length ≤ 4096 := by
    unfold printN at h
    rw [if_pos h0] at h
    split at h
    · assumption
    · cases h
  obtain ⟨hm, hd⟩ := checkN_zero h0
  refine ⟨h0, ?_⟩
  have : printT t = textT t := if_pos ⟨h0, hl⟩
  rw [this]
  exact PR_text hm hd hl

/-- What the text's part leaves: true. -/
def Done (w : World) (e : Ending) (w' : World) : Prop := e = .returned (.bool true) ∧ Below w.heap.size w w'

set_option maxRecDepth 100000 in
set_option maxHeartbeats 8000000 in
theorem walk (v : Value) (t : T) (a1 : ByteArray) (w1 : a1.size ≤ maxLen) (w : World) (ht : IsTree (Old w) w t v) :
    Calls Try.prog 8 #[v, .string a1] w fun e w' => e = .returned (.bool true) ∧ Below w.heap.size w w' := by
  obtain ⟨s, rfl⟩ := text_of a1
  have hsl : s.length ≤ 9223372036854775807 := by
    unfold maxLen at w1
    have e : (⟨s.toArray⟩ : ByteArray).size = s.length := by show s.toArray.size = _; simp
    omega
  clear w1
  obtain ⟨ao, cap, rfl, hlen, _⟩ := ht.parts
  have hcW : Chg Nob w (w.alloc (.cells #[.int .i64 t.kind, .string ⟨t.name.toArray⟩, .slice ao t.kids.length cap] 37)) := (Chg.refl _ _).alloc _
  have Hb0 := Lib.hid (heap_alloc_new w (.cells #[.int .i64 t.kind, .string ⟨t.name.toArray⟩, .slice ao t.kids.length cap] 37))
  have HtW := Lib.hid (ht.nob hcW)
  clear ht
  go_enter Try.func8, Try.ntmps8
  go_wp2_with fail
  generalize w.alloc (.cells #[.int .i64 t.kind, .string ⟨t.name.toArray⟩, .slice ao t.kids.length cap] 37) = W at *
  (with_reducible refine (great_any _ _ t (Nat.le_refl _) _ 100000 W HtW.out (by omega) (by omega)).mono ?_)
  rintro e w2 ⟨rfl, hc2⟩
  have hcw2 := hcW.trans1 hc2
  by_cases hg : greatT t 100000 ≤ 0
  · go_wp2_with fail
    (with_reducible refine (known_any _).mono ?_)
    rintro e w3 ⟨rfl, hc3⟩
    go_wp2
    go_ret
    exact ⟨rfl, (hcw2.trans1 hc3).toBelow⟩
  · have hsz := great_size hg
    obtain ⟨c0, c1, c2, _⟩ := cells_three (hc2.at Hb0.out (fun e => e))
    have hsW := hcW.size
    have hs2 := hc2.size
    have hp := Print_any _ t _ w2 (HtW.out.nob hc2) (by omega) (fun b hb => by have hb : b < w.heap.size := hb; omega)
    go_wp2_with fail
    (with_reducible refine hp.mono ?_)
    clear hp c0 c1 c2
    rintro e w3 ⟨rfl, hc3⟩
    have hs3 := hc3.size
    have Hsl := Lib.hid hsl
    cases h0 : (printN t == 0) with
    | true =>
      have hpn := beq_iff_eq.1 h0
      obtain ⟨hck, hpr⟩ := printed hpn
      have Hck := Lib.hid hck
      clear hck hpn
      have hpp := (Parse_any (printT t) w3).mono (fun _ _ h => parse_ok hpr h)
      go_wp2_with fail
      (with_reducible refine hpp.mono ?_)
      clear hpp
      rintro e w4 ⟨hc4, ao4, cap4, hF4, rfl⟩
      have hs4 := hc4.size
      have h24 : Chg Nob W w4 := (hc2.trans1 hc3).trans1 hc4
      have hB : Hid (∃ X, X = (w4.alloc (.cells #[.int .i64 t.kind, .string ⟨t.name.toArray⟩, .slice ao4 t.kids.length cap4] 37)).alloc (.cells #[.int .i64 0, .int .i64 0] 39) ∧ Chg Nob w4 X ∧ X.heap[w4.heap.size]? = some (.cells #[.int .i64 t.kind, .string ⟨t.name.toArray⟩, .slice ao4 t.kids.length cap4] 37 (0, 0)) ∧ X.heap[w4.heap.size + 1]? = some (.cells #[.int .i64 0, .int .i64 0] 39 (0, 0))) := by
        have h1 := heap_alloc_new (w4.alloc (.cells #[.int .i64 t.kind, .string ⟨t.name.toArray⟩, .slice ao4 t.kids.length cap4] 37)) (.cells #[.int .i64 0, .int .i64 0] 39)
        rw [World.size_alloc] at h1
        exact ⟨_, rfl, ((Chg.refl _ _).alloc _).alloc _, ((Chg.refl Nob _).alloc _).at (heap_alloc_new w4 _) (fun e => e), h1⟩
      have Ht4 := Lib.hid hF4.tree
      clear hF4 hpr
      obtain ⟨X, hXe, hcX, hb1, hb2⟩ := hB.out
      clear hB
      subst hXe
      obtain ⟨c0, c1, c2, _⟩ := cells_three ((h24.trans1 hcX).at Hb0.out (fun e => e))
      obtain ⟨d0, d1, d2, _⟩ := cells_three hb1
      obtain ⟨e0, e1, _⟩ := cell_two hb2
      have hsame := same_refl (HtW.out.nob (h24.trans1 hcX)) (Ht4.out.nob hcX)
      have hsX := hcX.size
      have Hb1 := Lib.hid hb1
      have Hb2 := Lib.hid hb2
      clear hb1 hb2
      go_wp2_with fail
      generalize (w4.alloc (.cells #[.int .i64 t.kind, .string ⟨t.name.toArray⟩, .slice ao4 t.kids.length cap4] 37)).alloc (.cells #[.int .i64 0, .int .i64 0] 39) = X at *
      (with_reducible refine hsame.mono ?_)
      clear hsame c0 c1 c2 d0 d1 d2 e0 e1
      rintro e w5 ⟨rfl, hc5⟩
      have h25 := (h24.trans1 hcX).trans1 hc5
      have hs5 := hc5.size
      obtain ⟨c0, c1, c2, _⟩ := cells_three (h25.at Hb0.out (fun e => e))
      have hcheck := check_any' _ t _ w5 (HtW.out.nob h25) (by omega) (fun b hb => by have hb : b < w.heap.size := hb; omega)
      rw [Hck.out] at hcheck
      go_wp2_with fail
      (with_reducible refine hcheck.mono ?_)
      clear hcheck c0 c1 c2
      rintro e wz ⟨rfl, hc6⟩
      have hcz : Chg Nob w wz := (hcW.trans1 h25).trans1 hc6
      clear hc2 hc3 hc4 hc5 hc6 hcX h24 h25 hcw2 hcW
      go_wp2_with fail
      (with_reducible refine (Parse_any s wz).mono ?_)
      rintro e y1 ⟨hy1, r, hr, hend⟩
      cases r with
      | err x =>
        obtain rfl := hend
        have hpos := PR_err_pos hr
        have hne : (x.1 != 0) = true := by rw [bne, beq_eq_false_iff_ne.2 hpos.1]; rfl
        have hp1 : (0 : Int) ≤ (x.2 : Int) := by omega
        have hp2 : (x.2 : Int) ≤ (s.length : Int) := by have := hpos.2; omega
        obtain ⟨x1, x2⟩ := x
        obtain ⟨X, hXe, hcX, hb1, hb2⟩ := boxes_two y1 (.int .i64 0) (.string ⟨#[]⟩) (.slice none 0 0) (.int .i64 x1) (.int .i64 x2)
        subst hXe
        obtain ⟨d0, d1, d2, _⟩ := cells_three hb1
        obtain ⟨e0, e1, _⟩ := cell_two hb2
        have hsame := same_refl (w := (y1.alloc (.cells #[.int .i64 0, .string ⟨#[]⟩, .slice none 0 0] 37)).alloc (.cells #[.int .i64 x1, .int .i64 x2] 39)) (tree_zero (R := Nob)) (tree_zero (R := Nob))
        have Hb2 := Lib.hid hb2
        clear hb1 hb2 hpos
        go_wp2_with fail
        generalize (y1.alloc (.cells #[.int .i64 0, .string ⟨#[]⟩, .slice none 0 0] 37)).alloc (.cells #[.int .i64 x1, .int .i64 x2] 39) = X at *
        (with_reducible refine hsame.mono ?_)
        clear hsame d0 d1 d2 e0 e1
        rintro e y2 ⟨rfl, hy2⟩
        obtain ⟨e0, e1, _⟩ := cell_two (hy2.at Hb2.out (fun e => e))
        go_wp2_with fail
        (with_reducible refine (known_any _).mono ?_)
        clear e0 e1
        rintro e y3 ⟨rfl, hy3⟩
        go_wp2
        go_ret
        exact ⟨rfl, ((((hcz.trans1 hy1).trans1 hcX).trans1 hy2).trans1 hy3).toBelow⟩
      | ok x =>
        obtain ⟨v, hF, rfl⟩ := hend
        obtain ⟨ax, cx, rfl⟩ := hF.agg
        obtain ⟨hxs, hxm, hxd⟩ := PR_ok_size hr
        obtain ⟨hxc, hxp⟩ := printN_cases hxm hxd
        have Hx := Lib.hid hF.tree
        clear hF hr hxc
        obtain ⟨X, hXe, hcX, hb1, hb2⟩ := boxes_two y1 (.int .i64 x.kind) (.string ⟨x.name.toArray⟩) (.slice ax x.kids.length cx) (.int .i64 0) (.int .i64 0)
        subst hXe
        obtain ⟨d0, d1, d2, _⟩ := cells_three hb1
        obtain ⟨e0, e1, _⟩ := cell_two hb2
        have hsX := hcX.size
        have hp := Print_any _ x _ _ (Hx.out.nob hcX) (by omega) (fun b hb => by have := hb.2; omega)
        have Hb1 := Lib.hid hb1
        clear hb1 hb2
        go_wp2_with fail
        generalize (y1.alloc (.cells #[.int .i64 x.kind, .string ⟨x.name.toArray⟩, .slice ax x.kids.length cx] 37)).alloc (.cells #[.int .i64 0, .int .i64 0] 39) = X at *
        (with_reducible refine hp.mono ?_)
        clear hp d0 d1 d2 e0 e1
        rintro e y2 ⟨rfl, hy2⟩
        rcases hxp with hx0 | hx2
        · obtain ⟨_, hpr⟩ := printed hx0
          rw [hx0]
          clear hx0
          have hpp := (Parse_any (printT x) y2).mono (fun _ _ h => parse_ok hpr h)
          go_wp2_with fail
          (with_reducible refine hpp.mono ?_)
          clear hpp
          rintro e y3 ⟨hy3, a3, cp3, hF3, rfl⟩
          have H3 := Lib.hid hF3.tree
          clear hF3 hpr
          obtain ⟨Z, hZe, hcZ, hz1, hz2⟩ := boxes_two y3 (.int .i64 x.kind) (.string ⟨x.name.toArray⟩) (.slice a3 x.kids.length cp3) (.int .i64 0) (.int .i64 0)
          subst hZe
          obtain ⟨d0, d1, d2, _⟩ := cells_three hz1
          obtain ⟨e0, e1, _⟩ := cell_two hz2
          obtain ⟨c0, c1, c2, _⟩ := cells_three (((hy2.trans1 hy3).trans1 hcZ).at Hb1.out (fun e => e))
          have hsame := same_refl (((Hx.out.nob hcX).nob (hy2.trans1 hy3)).nob hcZ) (H3.out.nob hcZ)
          clear hz1 hz2
          go_wp2_with fail
          generalize (y3.alloc (.cells #[.int .i64 x.kind, .string ⟨x.name.toArray⟩, .slice a3 x.kids.length cp3] 37)).alloc (.cells #[.int .i64 0, .int .i64 0] 39) = Z at *
          (with_reducible refine hsame.mono ?_)
          clear hsame d0 d1 d2 e0 e1 c0 c1 c2
          rintro e y4 ⟨rfl, hy4⟩
          go_wp2_with fail
          (with_reducible refine (known_any _).mono ?_)
          rintro e y5 ⟨rfl, hy5⟩
          go_wp2
          go_ret
          exact ⟨rfl, (((((((hcz.trans1 hy1).trans1 hcX).trans1 hy2).trans1 hy3).trans1 hcZ).trans1 hy4).trans1 hy5).toBelow⟩
        · rw [hx2]
          clear hx2
          go_wp2_with fail
          (with_reducible refine (known_any _).mono ?_)
          rintro e y5 ⟨rfl, hy5⟩
          go_wp2
          go_ret
          exact ⟨rfl, ((((hcz.trans1 hy1).trans1 hcX).trans1 hy2).trans1 hy5).toBelow⟩
    | false =>
      have hcz : Chg Nob w w3 := hcw2.trans1 hc3
      clear hc2 hc3 hcw2 hcW
      go_wp2_with fail
      (with_reducible refine (Parse_any s w3).mono ?_)
      rintro e y1 ⟨hy1, r, hr, hend⟩
      cases r with
      | err x =>
        obtain rfl := hend
        have hpos := PR_err_pos hr
        have hne : (x.1 != 0) = true := by rw [bne, beq_eq_false_iff_ne.2 hpos.1]; rfl
        have hp1 : (0 : Int) ≤ (x.2 : Int) := by omega
        have hp2 : (x.2 : Int) ≤ (s.length : Int) := by have := hpos.2; omega
        obtain ⟨x1, x2⟩ := x
        obtain ⟨X, hXe, hcX, hb1, hb2⟩ := boxes_two y1 (.int .i64 0) (.string ⟨#[]⟩) (.slice none 0 0) (.int .i64 x1) (.int .i64 x2)
        subst hXe
        obtain ⟨d0, d1, d2, _⟩ := cells_three hb1
        obtain ⟨e0, e1, _⟩ := cell_two hb2
        have hsame := same_refl (w := (y1.alloc (.cells #[.int .i64 0, .string ⟨#[]⟩, .slice none 0 0] 37)).alloc (.cells #[.int .i64 x1, .int .i64 x2] 39)) (tree_zero (R := Nob)) (tree_zero (R := Nob))
        have Hb2 := Lib.hid hb2
        clear hb1 hb2 hpos
        go_wp2_with fail
        generalize (y1.alloc (.cells #[.int .i64 0, .string ⟨#[]⟩, .slice none 0 0] 37)).alloc (.cells #[.int .i64 x1, .int .i64 x2] 39) = X at *
        (with_reducible refine hsame.mono ?_)
        clear hsame d0 d1 d2 e0 e1
        rintro e y2 ⟨rfl, hy2⟩
        obtain ⟨e0, e1, _⟩ := cell_two (hy2.at Hb2.out (fun e => e))
        go_wp2_with fail
        (with_reducible refine (known_any _).mono ?_)
        clear e0 e1
        rintro e y3 ⟨rfl, hy3⟩
        go_wp2
        go_ret
        exact ⟨rfl, ((((hcz.trans1 hy1).trans1 hcX).trans1 hy2).trans1 hy3).toBelow⟩
      | ok x =>
        obtain ⟨v, hF, rfl⟩ := hend
        obtain ⟨ax, cx, rfl⟩ := hF.agg
        obtain ⟨hxs, hxm, hxd⟩ := PR_ok_size hr
        obtain ⟨hxc, hxp⟩ := printN_cases hxm hxd
        have Hx := Lib.hid hF.tree
        clear hF hr hxc
        obtain ⟨X, hXe, hcX, hb1, hb2⟩ := boxes_two y1 (.int .i64 x.kind) (.string ⟨x.name.toArray⟩) (.slice ax x.kids.length cx) (.int .i64 0) (.int .i64 0)
        subst hXe
        obtain ⟨d0, d1, d2, _⟩ := cells_three hb1
        obtain ⟨e0, e1, _⟩ := cell_two hb2
        have hsX := hcX.size
        have hp := Print_any _ x _ _ (Hx.out.nob hcX) (by omega) (fun b hb => by have := hb.2; omega)
        have Hb1 := Lib.hid hb1
        clear hb1 hb2
        go_wp2_with fail
        generalize (y1.alloc (.cells #[.int .i64 x.kind, .string ⟨x.name.toArray⟩, .slice ax x.kids.length cx] 37)).alloc (.cells #[.int .i64 0, .int .i64 0] 39) = X at *
        (with_reducible refine hp.mono ?_)
        clear hp d0 d1 d2 e0 e1
        rintro e y2 ⟨rfl, hy2⟩
        rcases hxp with hx0 | hx2
        · obtain ⟨_, hpr⟩ := printed hx0
          rw [hx0]
          clear hx0
          have hpp := (Parse_any (printT x) y2).mono (fun _ _ h => parse_ok hpr h)
          go_wp2_with fail
          (with_reducible refine hpp.mono ?_)
          clear hpp
          rintro e y3 ⟨hy3, a3, cp3, hF3, rfl⟩
          have H3 := Lib.hid hF3.tree
          clear hF3 hpr
          obtain ⟨Z, hZe, hcZ, hz1, hz2⟩ := boxes_two y3 (.int .i64 x.kind) (.string ⟨x.name.toArray⟩) (.slice a3 x.kids.length cp3) (.int .i64 0) (.int .i64 0)
          subst hZe
          obtain ⟨d0, d1, d2, _⟩ := cells_three hz1
          obtain ⟨e0, e1, _⟩ := cell_two hz2
          obtain ⟨c0, c1, c2, _⟩ := cells_three (((hy2.trans1 hy3).trans1 hcZ).at Hb1.out (fun e => e))
          have hsame := same_refl (((Hx.out.nob hcX).nob (hy2.trans1 hy3)).nob hcZ) (H3.out.nob hcZ)
          clear hz1 hz2
          go_wp2_with fail
          generalize (y3.alloc (.cells #[.int .i64 x.kind, .string ⟨x.name.toArray⟩, .slice a3 x.kids.length cp3] 37)).alloc (.cells #[.int .i64 0, .int .i64 0] 39) = Z at *
          (with_reducible refine hsame.mono ?_)
          clear hsame d0 d1 d2 e0 e1 c0 c1 c2
          rintro e y4 ⟨rfl, hy4⟩
          go_wp2_with fail
          (with_reducible refine (known_any _).mono ?_)
          rintro e y5 ⟨rfl, hy5⟩
          go_wp2
          go_ret
          exact ⟨rfl, (((((((hcz.trans1 hy1).trans1 hcX).trans1 hy2).trans1 hy3).trans1 hcZ).trans1 hy4).trans1 hy5).toBelow⟩
        · rw [hx2]
          clear hx2
          go_wp2_with fail
          (with_reducible refine (known_any _).mono ?_)
          rintro e y5 ⟨rfl, hy5⟩
          go_wp2
          go_ret
          exact ⟨rfl, ((((hcz.trans1 hy1).trans1 hcX).trans1 hy2).trans1 hy5).toBelow⟩

set_option maxRecDepth 100000 in
theorem lifted (os : Os) (started : os.Started) (H : Type) (enc : TypeId × Value → H) :
    ReturnsInHanded {} Try.checked os 8 .any (Rows.ltlBackSpec.pre6 enc Try.prog Try.f8 Rows.ltlBackRow.domain false) (Rows.ltlBackSpec.post enc Try.prog Try.f8 false true false false) := by
  refine returnsInHanded_of_change_sized (C := Try.checked) own started (by kernel_rfl) Try.func8
    (ChangeSpec.witness6 (enc := enc) (C := Try.checked) false ⟨#[], #[.agg #[.int .i64 0, .string ByteArray.empty, .slice none 0 0], .string ByteArray.empty], []⟩ 8 (by kernel_rfl) (by kernel_rfl) (by kernel_rfl) (by kernel_rfl)) ?_
  intro W base args ds gs before hval0 hW hcnd hsz0 _
  have hval : ∀ (j : Nat) t v, Try.f8.params[j]? = some t → args[j]? = some v → Value.okWide Try.prog W .any base t v := hval0
  have hsz : (DataW.weightsEach Try.prog (Try.f8.params.toList ++ Rows.ltlBackSpec.plain.varTypes Try.prog) (ds ++ gs)).all (· ≤ reachBytes) = true := hsz0
  have hW' := hW
  obtain ⟨p, q, hA0, hV, rfl, hfz, hnd⟩ := hW
  have hA : DataW.TrodAll enc Try.prog W 0 (fun _ => true) true Try.f8.params.toList args.toList ds p := hA0
  rw [Try.params8] at hA hval hsz
  obtain ⟨v0, vs0, d0, ds0, p0, q0, hargs, rfl, rfl, h0, r0⟩ := trodAll_cons hA
  obtain ⟨v1, vs1, d1, ds1, p1, q1, rfl, rfl, rfl, h1, r1⟩ := trodAll_cons r0
  obtain ⟨rfl, rfl, rfl⟩ := trodAll_nil r1
  obtain rfl : args = #[v0, v1] := by cases args; simp_all
  obtain ⟨rfl, rfl⟩ := trodVars_none hV
  have k0 := h0
  have lt0 : ∀ x ∈ p0, x.block < W.heap.size := by obtain ⟨m, hm⟩ := k0; exact DataW.trod_lt m _ _ _ hm
  have k1 := h1
  have lt1 : ∀ x ∈ p1, x.block < W.heap.size := by obtain ⟨m, hm⟩ := k1; exact DataW.trod_lt m _ _ _ hm
  obtain ⟨l0, hl0⟩ := open_tree (hval 0 37 v0 rfl rfl) h0
  obtain ⟨a1, rfl, rfl, _, w1⟩ := open_string Try.underlying9 (hval 1 9 v1 rfl rfl) h1
  clear hA0 hval0
  refine (walk v0 l0 a1 w1 W hl0).mono fun e W' ⟨he, bel⟩ => ?_
  subst he
  exact ⟨_, rfl, _, _, _, [], _, [], hW', trodAll_mk1 (shut_bool Try.underlying4 _), (trodAll_cons_mk (Below.trod laidOut (by kernel_rfl) (of_decide_eq_true (by kernel_rfl)) k0 bel lt0) (trodAll_cons_mk (Below.trod laidOut (by kernel_rfl) (of_decide_eq_true (by kernel_rfl)) k1 bel lt1) trodAll_mk0)), rfl, bel.frame _, fun h => by cases h⟩

theorem over : Rows.ltlBackRow.holds Try.pinned (OpenSpec.ofChange Rows.ltlBackSpec) :=
  OpenClaim.holds_of_wide 8 Try.f8 rfl rfl rfl rfl rfl rfl rfl ⟨rfl, rfl, rfl, rfl, rfl⟩ rfl rfl rfl rfl rfl (by kernel_rfl) Try.func8 (by kernel_rfl)
    (of_decide_eq_true (by kernel_rfl)) (by unfold Func.isWrapper; rw [if_neg (of_decide_eq_false (by kernel_rfl))]; exact ⟨rfl, rfl⟩)
    (fun os started H enc _ => lifted os started H enc)

theorem proved : Rows.LtlBackSaid :=
  over
end Go.Proofs.Ytkgfdgfhpdhhaaa.ltlBack
