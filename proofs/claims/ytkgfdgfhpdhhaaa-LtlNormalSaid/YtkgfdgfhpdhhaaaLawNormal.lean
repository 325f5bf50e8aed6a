/- The law LtlNormal: whatever the formula, it returns true. No condition. -/
import Derived.Test.YtkgfdgfhpdhhaaaRnormal
import Derived.Test.YtkgfdgfhpdhhaaaOwn
import Derived.Test.YtkgfdgfhpdhhaaaSpoil
namespace Go.Proofs.Ytkgfdgfhpdhhaaa.ltlNormal
open Go.ChangeShapes Go.WideShapes Go.ChangeAt Go.RowKit
open Go.ChangeMaps (open_string shut_string)

theorem normT_size (t : T) : sizeT (normT t) ≤ 20000 := by
  unfold normT
  split
  · rename_i h
    unfold normN at h
    split at h
    · split at h
      · assumption
      · cases h
    · rename_i h2; exact absurd h h2
  · rw [sizeT, sizeL]; omega

set_option maxRecDepth 100000 in
set_option maxHeartbeats 8000000 in
theorem walk (v : Value) (t : T) (w : World) (ht : IsTree (Old w) w t v) : Calls Try.prog 6 #[v] w fun e w' => e = .returned (.bool true) ∧ Below w.heap.size w w' := by
  obtain ⟨ao, cap, rfl, hlen, _⟩ := ht.parts
  obtain ⟨W, hWe, hcW, hsW, hb0⟩ := box_one w (.int .i64 t.kind) (.string ⟨t.name.toArray⟩) (.slice ao t.kids.length cap)
  have Hb0 := Lib.hid hb0
  have HtW := Lib.hid ((TI.old ht).nob hcW)
  obtain ⟨c0, c1, c2, _⟩ := cells_three hb0
  rw [hWe] at c0 c1 c2
  clear ht hb0 hsW
  go_enter Try.func6, Try.ntmps6
  go_wp2_with fail
  rw [← hWe]
  clear hWe c0 c1 c2
  have hp := great_ti HtW.out
  (with_reducible refine hp.mono ?_)
  clear hp
  rintro e w2 ⟨rfl, hc2⟩
  have hcw2 := hcW.trans1 hc2
  by_cases hg : greatT t 100000 ≤ 0
  · go_wp2_with fail
    (with_reducible refine (known_any _).mono ?_)
    rintro e w3 ⟨rfl, hc3⟩
    go_wp2
    go_ret
    exact ⟨rfl, (hcw2.trans1 hc3).toBelow⟩
  · have Hsz : Hid (sizeT t ≤ 1000000) := (show sizeT t ≤ 1000000 by have := great_size hg; omega)
    obtain ⟨c0, c1, c2, _⟩ := cells_three (hc2.at Hb0.out (fun e => e))
    have hp := own_any t Hsz.out _ _ w2 (HtW.out.nob hc2) (fun _ hb => hb)
    go_wp2_with fail
    (with_reducible refine hp.mono ?_)
    clear hp c0 c1 c2
    rintro e w3 ⟨hc3, v3, rfl, ht3⟩
    obtain ⟨ao3, cap3, rfl, _, _⟩ := ht3.parts
    obtain ⟨W3, hW3, hcW3, _, hb3⟩ := box_one w3 (.int .i64 t.kind) (.string ⟨t.name.toArray⟩) (.slice ao3 t.kids.length cap3)
    have Ht3 : Hid (TI W3 t (.agg #[.int .i64 t.kind, .string ⟨t.name.toArray⟩, .slice ao3 t.kids.length cap3])) := (show TI W3 t _ from TI.nob (IsTree.mono (fun _ _ _ h => h) (fun b hb => hb.2) _ _ ht3) hcW3)
    have Hb3 := Lib.hid hb3
    have h2W3 := (hc2.trans1 hc3).trans1 hcW3
    have HtW3 := Lib.hid (HtW.out.nob h2W3)
    have Hb0W3 := Lib.hid (h2W3.at Hb0.out (fun e => e))
    obtain ⟨c0, c1, c2, _⟩ := cells_three Hb0W3.out
    rw [hW3] at c0 c1 c2
    clear ht3 hb3
    have hp := RNormal_any HtW3.out Hsz.out
    go_wp2_with fail
    rw [← hW3]
    clear hW3 c0 c1 c2
    (with_reducible refine hp.mono ?_)
    clear hp
    rintro e w4 hpost
    obtain ⟨hc4, ao4, cap4, hF4, rfl⟩ := norm_post hpost
    clear hpost
    obtain ⟨n, hn⟩ : ∃ n, n = normN t := ⟨_, rfl⟩
    rw [← hn]
    obtain ⟨k, hk⟩ : ∃ k, k = (normT t).kind := ⟨_, rfl⟩
    obtain ⟨nm, hnm⟩ : ∃ nm, nm = (normT t).name := ⟨_, rfl⟩
    obtain ⟨len, hlen2⟩ : ∃ len, len = (normT t).kids.length := ⟨_, rfl⟩
    rw [← hk, ← hnm, ← hlen2] at hF4 ⊢
    have Hn := Lib.hid hn
    have Hk := Lib.hid hk
    have Hnm := Lib.hid hnm
    have Hl2 := Lib.hid hlen2
    clear hn hk hnm hlen2
    obtain ⟨W4, hW4, hcW4, _, hb4⟩ := box_one w4 (.int .i64 k) (.string ⟨nm.toArray⟩) (.slice ao4 len cap4)
    have Hb4 := Lib.hid hb4
    have HF4 := Lib.hid hF4
    have h34 := hc4.trans1 hcW4
    obtain ⟨c0, c1, c2, _⟩ := cells_three (h34.at Hb3.out (fun e => e))
    rw [hW4] at c0 c1 c2
    have hp := Normal_any _ t _ W4 (Ht3.out.nob h34) Hsz.out (fun _ hb => hb)
    clear hb4 hF4
    go_wp2_with fail
    rw [← hW4]
    clear hW4 c0 c1 c2
    (with_reducible refine hp.mono ?_)
    clear hp
    rintro e w5 hpost
    obtain ⟨hc5, ao5, cap5, hF5, rfl⟩ := norm_post hpost
    clear hpost
    rw [← Hk.out, ← Hnm.out, ← Hl2.out] at hF5
    rw [← Hn.out, ← Hk.out, ← Hnm.out, ← Hl2.out]
    obtain ⟨W5, hW5, hcW5, _, hb5⟩ := box_one w5 (.int .i64 k) (.string ⟨nm.toArray⟩) (.slice ao5 len cap5)
    have Hb5 := Lib.hid hb5
    have HF5 := Lib.hid hF5
    have h45 := hc5.trans1 hcW5
    obtain ⟨c0, c1, c2, _⟩ := cells_three ((h34.trans1 h45).at Hb3.out (fun e => e))
    rw [hW5] at c0 c1 c2
    have hp := Normal_any _ t _ W5 (Ht3.out.nob (h34.trans1 h45)) Hsz.out (fun _ hb => hb)
    clear hb5 hF5
    go_wp2_with fail
    rw [← hW5]
    clear hW5 c0 c1 c2
    (with_reducible refine hp.mono ?_)
    clear hp
    rintro e w6 hpost
    obtain ⟨hc6, ao6, cap6, hF6, rfl⟩ := norm_post hpost
    clear hpost
    rw [← Hk.out, ← Hnm.out, ← Hl2.out] at hF6
    rw [← Hn.out, ← Hk.out, ← Hnm.out, ← Hl2.out]
    have HF6 := Lib.hid hF6
    clear hF6
    obtain ⟨W6, hW6, hcW6, _, hb6⟩ := box_one w6 (.int .i64 k) (.string ⟨nm.toArray⟩) (.slice ao6 len cap6)
    have Hb6 := Lib.hid hb6
    have h56 := hc6.trans1 hcW6
    have h36 := (h34.trans1 h45).trans1 h56
    have h46 := h45.trans1 h56
    obtain ⟨p0, p1, p2, _⟩ := cells_three (h46.at Hb4.out (fun e => e))
    obtain ⟨q0, q1, q2, _⟩ := cells_three (h56.at Hb5.out (fun e => e))
    have Hwant := Lib.hid ((TI.fresh HF4.out).nob (hcW4.trans1 h46))
    have Hgot := Lib.hid ((TI.fresh HF5.out).nob (hcW5.trans1 h56))
    have hp := rsame_ti Hgot.out Hwant.out
    rw [sameT_refl] at hp
    rw [hW6] at p0 p1 p2 q0 q1 q2
    clear hb6
    go_wp2_with fail
    rw [← hW6]
    clear hW6
    (with_reducible refine hp.mono ?_)
    clear hp p0 p1 p2 q0 q1 q2
    rintro e w7 ⟨rfl, hc7⟩
    have h57 := (hcW5.trans1 h56).trans1 hc7
    have hFR : Fresh (fun b => W4.heap.size ≤ b ∧ b < w5.heap.size) w5 (normT t) (.agg #[.int .i64 k, .string ⟨nm.toArray⟩, .slice ao5 len cap5]) := HF5.out.lt (fun b hb hb2 => ⟨hb, hb2⟩)
    have hFS := FS.of_fresh 20000 _ _ (normT_size t) (hFR.chg h57 (fun _ _ _ e => e) (fun _ h => h))
    have hR : ∀ b, (W4.heap.size ≤ b ∧ b < w5.heap.size) → b < w7.heap.size := fun b hb => by have := hb.2; have := h57.size; omega
    have hp := spoil_any _ 20000 _ w7 hFS hR
    obtain ⟨q0, q1, q2, _⟩ := cells_three ((h56.trans1 hc7).at Hb5.out (fun e => e))
    go_wp2_with fail
    (with_reducible refine hp.mono ?_)
    clear hp q0 q1 q2 hFS hFR
    rintro e w8 ⟨rfl, hc8, _⟩
    have hz5 := hc5.size
    have hzW5 := hcW5.size
    have hz6 := hc6.size
    have hzW6 := hcW6.size
    have hz4 := hc4.size
    have hzW4 := hcW4.size
    have hz7 := hc7.size
    have hz8 := hc8.size
    have hl4 := (Array.getElem?_eq_some_iff.1 Hb4.out).1
    have hl3 := (Array.getElem?_eq_some_iff.1 Hb3.out).1
    have hl0 := (Array.getElem?_eq_some_iff.1 Hb0W3.out).1
    have hl6 := (Array.getElem?_eq_some_iff.1 Hb6.out).1
    obtain ⟨q0, q1, q2, _⟩ := cells_three (hc8.at (hc7.at Hb6.out (fun e => e)) (fun e => by have := e.2; omega))
    obtain ⟨p0, p1, p2, _⟩ := cells_three (hc8.at ((h46.trans1 hc7).at Hb4.out (fun e => e)) (fun e => by have := e.1; omega))
    have Hu : TI w8 (normT t) (.agg #[.int .i64 k, .string ⟨nm.toArray⟩, .slice ao6 len cap6]) :=
      IsTree.mono (fun _ _ _ h => h) (fun b hb => by have := hb.2; omega) _ _ ((HF6.out.tree.nob (hcW6.trans1 hc7)).chg hc8 (fun b hb e => by have h1 : W5.heap.size ≤ b := hb.1; have := e.2; omega))
    have Hw : TI w8 (normT t) (.agg #[.int .i64 k, .string ⟨nm.toArray⟩, .slice ao4 len cap4]) :=
      IsTree.mono (fun _ _ _ h => h) (fun b hb => by have := hb.2; omega) _ _ ((HF4.out.tree.nob ((hcW4.trans1 h46).trans1 hc7)).chg hc8 (fun b hb e => by have := hb.2; have := e.1; omega))
    have Hx : TI w8 t (.agg #[.int .i64 t.kind, .string ⟨t.name.toArray⟩, .slice ao3 t.kids.length cap3]) :=
      IsTree.mono (fun _ _ _ h => h) (fun b (hb : b < W3.heap.size) => by omega) _ _ ((IsTree.nob Ht3.out (h36.trans1 hc7)).chg hc8 (fun b (hb : b < W3.heap.size) e => by have := e.1; omega))
    have Hv : TI w8 t (.agg #[.int .i64 t.kind, .string ⟨t.name.toArray⟩, .slice ao t.kids.length cap]) :=
      IsTree.mono (fun _ _ _ h => h) (fun b (hb : b < W3.heap.size) => by omega) _ _ ((IsTree.nob HtW3.out (h36.trans1 hc7)).chg hc8 (fun b (hb : b < W3.heap.size) e => by have := e.1; omega))
    have HHx := Lib.hid Hx
    have HHv := Lib.hid Hv
    have hp := rsame_ti Hu Hw
    rw [sameT_refl] at hp
    have Hb38 := Lib.hid (hc8.at ((h36.trans1 hc7).at Hb3.out (fun e => e)) (fun e => by have := e.1; omega))
    have Hb08 := Lib.hid (hc8.at ((h36.trans1 hc7).at Hb0W3.out (fun e => e)) (fun e => by have := e.1; omega))
    have Hall : Hid (Chg Nob w w8) := (((((hcW.trans1 h2W3).trans1 h36).trans1 hc7).any (S := fun b => W4.heap.size ≤ b ∧ b < w5.heap.size)).trans1 hc8).mono (fun i hi e => by have := e.1; have := hcW.size; have := h2W3.size; omega)
    clear Hu Hw Hx Hv hz5 hzW5 hz6 hzW6 hz4 hzW4 hz7 hz8 hl4 hl3 hl0 hl6
    go_wp2_with fail
    (with_reducible refine hp.mono ?_)
    clear hp p0 p1 p2 q0 q1 q2
    rintro e w9 ⟨rfl, hc9⟩
    obtain ⟨q0, q1, q2, _⟩ := cells_three (hc9.at Hb38.out (fun e => e))
    obtain ⟨p0, p1, p2, _⟩ := cells_three (hc9.at Hb08.out (fun e => e))
    have hp := rsame_ti (HHx.out.nob hc9) (HHv.out.nob hc9)
    rw [sameT_refl] at hp
    go_wp2_with fail
    (with_reducible refine hp.mono ?_)
    clear hp p0 p1 p2 q0 q1 q2
    rintro e w10 ⟨rfl, hc10⟩
    go_wp2_with fail
    (with_reducible refine (known_any _).mono ?_)
    rintro e w11 ⟨rfl, hc11⟩
    go_wp2
    go_ret
    exact ⟨rfl, ((Hall.out.trans1 hc9).trans1 (hc10.trans1 hc11)).toBelow⟩

set_option maxRecDepth 100000 in
theorem lifted (os : Os) (started : os.Started) (H : Type) (enc : TypeId × Value → H) :
    ReturnsInHanded {} Try.checked os 6 .any (Rows.ltlNormalSpec.pre6 enc Try.prog Try.f6 Rows.ltlNormalRow.domain false) (Rows.ltlNormalSpec.post enc Try.prog Try.f6 false true false false) := by
  refine returnsInHanded_of_change_sized (C := Try.checked) own started (by kernel_rfl) Try.func6
    (ChangeSpec.witness6 (enc := enc) (C := Try.checked) false ⟨#[], #[.agg #[.int .i64 0, .string ByteArray.empty, .slice none 0 0]], []⟩ 8 (by kernel_rfl) (by kernel_rfl) (by kernel_rfl) (by kernel_rfl)) ?_
  intro W base args ds gs before hval0 hW hcnd hsz0 _
  have hval : ∀ (j : Nat) t v, Try.f6.params[j]? = some t → args[j]? = some v → Value.okWide Try.prog W .any base t v := hval0
  have hsz : (DataW.weightsEach Try.prog (Try.f6.params.toList ++ Rows.ltlNormalSpec.plain.varTypes Try.prog) (ds ++ gs)).all (· ≤ reachBytes) = true := hsz0
  have hW' := hW
  obtain ⟨p, q, hA0, hV, rfl, hfz, hnd⟩ := hW
  have hA : DataW.TrodAll enc Try.prog W 0 (fun _ => true) true Try.f6.params.toList args.toList ds p := hA0
  rw [Try.params6] at hA hval hsz
  obtain ⟨v0, vs0, d0, ds0, p0, q0, hargs, rfl, rfl, h0, r0⟩ := trodAll_cons hA
  obtain ⟨rfl, rfl, rfl⟩ := trodAll_nil r0
  obtain rfl : args = #[v0] := by cases args; simp_all
  obtain ⟨rfl, rfl⟩ := trodVars_none hV
  have k0 := h0
  have lt0 : ∀ x ∈ p0, x.block < W.heap.size := by obtain ⟨m, hm⟩ := k0; exact DataW.trod_lt m _ _ _ hm
  obtain ⟨l0, hl0⟩ := open_tree (hval 0 37 v0 rfl rfl) h0
  clear hA0 hval0
  refine (walk v0 l0 W hl0).mono fun e W' ⟨he, bel⟩ => ?_
  subst he
  exact ⟨_, rfl, _, _, _, [], _, [], hW', trodAll_mk1 (shut_bool Try.underlying4 _), (trodAll_cons_mk (Below.trod laidOut (by kernel_rfl) (of_decide_eq_true (by kernel_rfl)) k0 bel lt0) trodAll_mk0), rfl, bel.frame _, fun h => by cases h⟩

theorem over : Rows.ltlNormalRow.holds Try.pinned (OpenSpec.ofChange Rows.ltlNormalSpec) :=
  OpenClaim.holds_of_wide 6 Try.f6 rfl rfl rfl rfl rfl rfl rfl ⟨rfl, rfl, rfl, rfl, rfl⟩ rfl rfl rfl rfl rfl (by kernel_rfl) Try.func6 (by kernel_rfl)
    (of_decide_eq_true (by kernel_rfl)) (by unfold Func.isWrapper; rw [if_neg (of_decide_eq_false (by kernel_rfl))]; exact ⟨rfl, rfl⟩)
    (fun os started H enc _ => lifted os started H enc)

theorem proved : Rows.LtlNormalSaid :=
  over
end Go.Proofs.Ytkgfdgfhpdhhaaa.ltlNormal
