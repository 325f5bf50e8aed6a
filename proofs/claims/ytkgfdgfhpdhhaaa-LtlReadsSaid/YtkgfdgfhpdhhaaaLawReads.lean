/- The law LtlReads: whatever the text, it returns true. No condition. -/
import Derived.Test.YtkgfdgfhpdhhaaaRparse
import Derived.Test.YtkgfdgfhpdhhaaaTi
import Derived.Test.YtkgfdgfhpdhhaaaSpoil
namespace Go.Proofs.Ytkgfdgfhpdhhaaa.ltlReads
open Go.ChangeShapes Go.WideShapes Go.ChangeAt Go.RowKit
open Go.ChangeMaps (open_string shut_string)

def resT : Res → T
  | .ok t => t
  | .err _ => .node 0 [] []
def resC : Res → Int × Int
  | .ok _ => (0, 0)
  | .err x => (x.1, (x.2 : Int))
theorem resT_size {s : List UInt8} {r : Res} (h : PR s r) : sizeT (resT r) ≤ 5000 := by
  cases r with
  | ok t => exact (PR_ok_size h).1
  | err x => show sizeT (.node 0 [] []) ≤ 5000; rw [sizeT, sizeL]; omega
/-- What a text's reading leaves, well or ill. -/
theorem both {s : List UInt8} {r : Res} (hr : PR s r) {w : World} {e : Ending} {w' : World} (h : ParsePost s w e w') :
    Chg Nob w w' ∧ ∃ k nm ao len cap, Fresh (Ge w.heap.size) w' (resT r) (.agg #[.int .i64 k, .string nm, .slice ao len cap]) ∧ e = .returned (.tuple #[.agg #[.int .i64 k, .string nm, .slice ao len cap], .agg #[.int .i64 (resC r).1, .int .i64 (resC r).2]]) := by
  obtain ⟨hc, r', hr', he⟩ := h
  obtain rfl := PR_det hr' hr
  refine ⟨hc, ?_⟩
  cases r' with
  | ok t =>
    obtain ⟨v, hF, rfl⟩ := he
    obtain ⟨ao, cap, rfl⟩ := hF.agg
    exact ⟨_, _, _, _, _, hF, rfl⟩
  | err x => exact ⟨_, _, _, _, _, leafFresh _ _ 0 [], he⟩
theorem pr_some (s : List UInt8) (w : World) : Calls Try.prog 25 #[.string ⟨s.toArray⟩] w fun e w' => ∃ r, PR s r ∧ ParsePost s w e w' := (Parse_any s w).mono fun _ _ h => ⟨h.2.choose, h.2.choose_spec.1, h⟩

set_option maxRecDepth 100000 in
set_option maxHeartbeats 8000000 in
theorem walk (a0 : ByteArray) (_w0 : a0.size ≤ maxLen) (w : World) : Calls Try.prog 4 #[.string a0] w fun e w' => e = .returned (.bool true) ∧ Below w.heap.size w w' := by
  obtain ⟨s, rfl⟩ := text_of a0
  clear _w0
  have hp := RParse_any s w
  go_enter Try.func4, Try.ntmps4
  go_wp2_with fail
  (with_reducible refine hp.mono ?_)
  clear hp
  rintro e w1 hpost
  obtain ⟨r, hr⟩ : ∃ r, PR s r := ⟨_, hpost.2.choose_spec.1⟩
  obtain ⟨hc1, k1, nm1, ao1, len1, cap1, hF1, rfl⟩ := both hr hpost
  clear hpost
  have Hr := Lib.hid hr
  have HF1 := Lib.hid hF1
  clear hr hF1
  obtain ⟨c, d, hcd⟩ : ∃ c d, resC r = (c, d) := ⟨_, _, rfl⟩
  rw [hcd]
  have Hcd := Lib.hid hcd
  clear hcd
  obtain ⟨W1, hW1, hcW1, hb1, hb2⟩ := boxes_two w1 (.int .i64 k1) (.string nm1) (.slice ao1 len1 cap1) (.int .i64 c) (.int .i64 d)
  have Hb1 := Lib.hid hb1
  have Hb2 := Lib.hid hb2
  clear hb1 hb2
  have hp := Parse_any s W1
  go_wp2_with fail
  rw [← hW1]
  clear hW1
  (with_reducible refine hp.mono ?_)
  clear hp
  rintro e w2 hpost
  obtain ⟨hc2, k2, nm2, ao2, len2, cap2, hF2, rfl⟩ := both Hr.out hpost
  clear hpost
  rw [Hcd.out]
  have HF2 := Lib.hid hF2
  clear hF2
  obtain ⟨W2, hW2, hcW2, hb1, hb2⟩ := boxes_two w2 (.int .i64 k2) (.string nm2) (.slice ao2 len2 cap2) (.int .i64 c) (.int .i64 d)
  have Hb3 := Lib.hid hb1
  have Hb4 := Lib.hid hb2
  clear hb1 hb2
  have hp := Parse_any s W2
  go_wp2_with fail
  rw [← hW2]
  clear hW2
  (with_reducible refine hp.mono ?_)
  clear hp
  rintro e w3 hpost
  obtain ⟨hc3, k3, nm3, ao3, len3, cap3, hF3, rfl⟩ := both Hr.out hpost
  clear hpost
  rw [Hcd.out]
  have HF3 := Lib.hid hF3
  clear hF3
  obtain ⟨W3, hW3, hcW3, hb1, hb2⟩ := boxes_two w3 (.int .i64 k3) (.string nm3) (.slice ao3 len3 cap3) (.int .i64 c) (.int .i64 d)
  have Hb5 := Lib.hid hb1
  clear hb1 hb2
  subst hW3
  have h1a := hcW1.trans1 hc2
  have h2a := hcW2.trans1 hc3
  have h13 := (h1a.trans1 h2a).trans1 hcW3
  have h23 := h2a.trans1 hcW3
  obtain ⟨p0, p1, p2, _⟩ := cells_three (((hc2.trans1 h2a).trans1 hcW3).at Hb1.out (fun e => e))
  obtain ⟨q0, q1, _⟩ := cell_two (((hc2.trans1 h2a).trans1 hcW3).at Hb2.out (fun e => e))
  obtain ⟨s0, s1, s2, _⟩ := cells_three ((hc3.trans1 hcW3).at Hb3.out (fun e => e))
  obtain ⟨t0, t1, _⟩ := cell_two ((hc3.trans1 hcW3).at Hb4.out (fun e => e))
  have Hwant := Lib.hid ((TI.fresh HF1.out).nob h13)
  have Hgot := Lib.hid ((TI.fresh HF2.out).nob h23)
  have hp := rsame_ti Hgot.out Hwant.out
  rw [sameT_refl] at hp
  go_wp2_with fail
  generalize (w3.alloc (.cells #[.int .i64 k3, .string nm3, .slice ao3 len3 cap3] 37)).alloc (.cells #[.int .i64 c, .int .i64 d] 39) = W3 at *
  (with_reducible refine hp.mono ?_)
  clear hp p0 p1 p2 q0 q1 s0 s1 s2 t0 t1
  rintro e w4 ⟨rfl, hc4⟩
  have hz1 := h1a.size
  have hR : ∀ b, (W1.heap.size ≤ b ∧ b < w2.heap.size) → b < w4.heap.size := fun b hb => by have := hb.2; have := (h23.trans1 hc4).size; omega
  have hFR : Fresh (fun b => W1.heap.size ≤ b ∧ b < w2.heap.size) w2 (resT r) (.agg #[.int .i64 k2, .string nm2, .slice ao2 len2 cap2]) := HF2.out.lt (fun b hb hb2 => ⟨hb, hb2⟩)
  have hFS := FS.of_fresh 5000 _ _ (resT_size Hr.out) (hFR.chg (h23.trans1 hc4) (fun _ _ _ e => e) (fun _ h => h))
  have hp := spoil_any _ 5000 _ w4 hFS hR
  obtain ⟨s0, s1, s2, _⟩ := cells_three (((hc3.trans1 hcW3).trans1 hc4).at Hb3.out (fun e => e))
  go_wp2_with fail
  (with_reducible refine hp.mono ?_)
  clear hp s0 s1 s2 hFS hFR
  rintro e w5 ⟨rfl, hc5, _⟩
  have hzW1 := hcW1.size
  have hz2 := hc2.size
  have hzW2 := hcW2.size
  have hz3 := hc3.size
  have hl1 := World.block_lt_of_cell? W1 ⟨w1.heap.size, 0, none⟩ (cells_three Hb1.out).1
  obtain ⟨s0, s1, s2, _⟩ := cells_three (hc5.at ((hcW3.any (S := Nob)).trans1 hc4 |>.at (((hc2.trans1 h2a)).at Hb1.out (fun e => e)) (fun e => e)) (fun e => by have : W1.heap.size ≤ w1.heap.size := e.1; have hl1 : w1.heap.size < W1.heap.size := hl1; omega))
  obtain ⟨t0, t1, t2, _⟩ := cells_three (hc5.at (hc4.at Hb5.out (fun e => e)) (fun e => by have := e.2; omega))
  have Hu : IsTree (fun b => b < w5.heap.size) w5 (resT r) (.agg #[.int .i64 k3, .string nm3, .slice ao3 len3 cap3]) :=
    IsTree.mono (fun _ _ _ h => h) (fun b hb => by have := hb.2; have := (hcW3.trans1 hc4).size; have := hc5.size; omega) _ _ ((HF3.out.tree.nob (hcW3.trans1 hc4)).chg hc5 (fun b hb e => by have h1 : W2.heap.size ≤ b := hb.1; have := e.2; omega))
  have Hw : IsTree (fun b => b < w5.heap.size) w5 (resT r) (.agg #[.int .i64 k1, .string nm1, .slice ao1 len1 cap1]) :=
    IsTree.mono (fun _ _ _ h => h) (fun b hb => by have := hb.2; have := (h13.trans1 hc4).size; have := hc5.size; omega) _ _ ((HF1.out.tree.nob (h13.trans1 hc4)).chg hc5 (fun b hb e => by have := hb.2; have := e.1; omega))
  have hp := rsame_ti (t := resT r) (u := resT r) Hu Hw
  rw [sameT_refl] at hp
  have hall : Chg Nob w w5 := ((hc1.trans1 (h13.trans1 hc4)).any (S := fun b => W1.heap.size ≤ b ∧ b < w2.heap.size)).trans1 hc5 |>.mono (fun i hi e => by have := e.1; have := hc1.size; omega)
  go_wp2_with fail
  (with_reducible refine hp.mono ?_)
  clear hp s0 s1 s2 t0 t1 t2
  rintro e w6 ⟨rfl, hc6⟩
  go_wp2_with fail
  (with_reducible refine (known_any _).mono ?_)
  rintro e w7 ⟨rfl, hc7⟩
  go_wp2
  go_ret
  exact ⟨rfl, ((hall.trans1 hc6).trans1 hc7).toBelow⟩

set_option maxRecDepth 100000 in
theorem lifted (os : Os) (started : os.Started) (H : Type) (enc : TypeId × Value → H) :
    ReturnsInHanded {} Try.checked os 4 .any (Rows.ltlReadsSpec.pre6 enc Try.prog Try.f4 Rows.ltlReadsRow.domain false) (Rows.ltlReadsSpec.post enc Try.prog Try.f4 false true false false) := by
  refine returnsInHanded_of_change_sized (C := Try.checked) own started (by kernel_rfl) Try.func4
    (ChangeSpec.witness6 (enc := enc) (C := Try.checked) false ⟨#[], #[.string ByteArray.empty], []⟩ 8 (by kernel_rfl) (by kernel_rfl) (by kernel_rfl) (by kernel_rfl)) ?_
  intro W base args ds gs before hval0 hW hcnd hsz0 _
  have hval : ∀ (j : Nat) t v, Try.f4.params[j]? = some t → args[j]? = some v → Value.okWide Try.prog W .any base t v := hval0
  have hsz : (DataW.weightsEach Try.prog (Try.f4.params.toList ++ Rows.ltlReadsSpec.plain.varTypes Try.prog) (ds ++ gs)).all (· ≤ reachBytes) = true := hsz0
  have hW' := hW
  obtain ⟨p, q, hA0, hV, rfl, hfz, hnd⟩ := hW
  have hA : DataW.TrodAll enc Try.prog W 0 (fun _ => true) true Try.f4.params.toList args.toList ds p := hA0
  rw [Try.params4] at hA hval hsz
  obtain ⟨v0, vs0, d0, ds0, p0, q0, hargs, rfl, rfl, h0, r0⟩ := trodAll_cons hA
  obtain ⟨rfl, rfl, rfl⟩ := trodAll_nil r0
  obtain rfl : args = #[v0] := by cases args; simp_all
  obtain ⟨rfl, rfl⟩ := trodVars_none hV
  have k0 := h0
  have lt0 : ∀ x ∈ p0, x.block < W.heap.size := by obtain ⟨m, hm⟩ := k0; exact DataW.trod_lt m _ _ _ hm
  obtain ⟨a0, rfl, rfl, _, w0⟩ := open_string Try.underlying9 (hval 0 9 v0 rfl rfl) h0
  clear hA0 hval0
  refine (walk a0 w0 W).mono fun e W' ⟨he, bel⟩ => ?_
  subst he
  exact ⟨_, rfl, _, _, _, [], _, [], hW', trodAll_mk1 (shut_bool Try.underlying4 _), (trodAll_cons_mk (Below.trod laidOut (by kernel_rfl) (of_decide_eq_true (by kernel_rfl)) k0 bel lt0) trodAll_mk0), rfl, bel.frame _, fun h => by cases h⟩

theorem over : Rows.ltlReadsRow.holds Try.pinned (OpenSpec.ofChange Rows.ltlReadsSpec) :=
  OpenClaim.holds_of_wide 4 Try.f4 rfl rfl rfl rfl rfl rfl rfl ⟨rfl, rfl, rfl, rfl, rfl⟩ rfl rfl rfl rfl rfl (by kernel_rfl) Try.func4 (by kernel_rfl)
    (of_decide_eq_true (by kernel_rfl)) (by unfold Func.isWrapper; rw [if_neg (of_decide_eq_false (by kernel_rfl))]; exact ⟨rfl, rfl⟩)
    (fun os started H enc _ => lifted os started H enc)

theorem proved : Rows.LtlReadsSaid :=
  over
end Go.Proofs.Ytkgfdgfhpdhhaaa.ltlReads
