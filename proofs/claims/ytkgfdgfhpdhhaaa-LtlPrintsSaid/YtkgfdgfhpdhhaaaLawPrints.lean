/- The law LtlPrints: whatever the formula, it returns true. No condition. -/
import Derived.Test.YtkgfdgfhpdhhaaaRprint
import Derived.Test.YtkgfdgfhpdhhaaaOwn
namespace Go.Proofs.Ytkgfdgfhpdhhaaa.ltlPrints
open Go.ChangeShapes Go.WideShapes Go.ChangeAt Go.RowKit
open Go.ChangeMaps (open_string shut_string)

set_option maxRecDepth 100000 in
set_option maxHeartbeats 8000000 in
theorem walk (v : Value) (t : T) (w : World) (ht : IsTree (Old w) w t v) :
    Calls Try.prog 5 #[v] w fun e w' => e = .returned (.bool true) ∧ Below w.heap.size w w' := by
  obtain ⟨ao, cap, rfl, hlen, _⟩ := ht.parts
  obtain ⟨W, hWe, hcW, hsW, hb0⟩ := box_one w (.int .i64 t.kind) (.string ⟨t.name.toArray⟩) (.slice ao t.kids.length cap)
  have Hb0 := Lib.hid hb0
  have HtW := Lib.hid ((TI.old ht).nob hcW)
  have HsW := Lib.hid hsW
  clear ht hb0 hsW
  go_enter Try.func5, Try.ntmps5
  go_wp2_with fail
  rw [← hWe]
  clear hWe
  (with_reducible refine (great_ti HtW.out).mono ?_)
  rintro e w2 ⟨rfl, hc2⟩
  have hcw2 := hcW.trans1 hc2
  by_cases hg : greatT t 100000 ≤ 0
  · go_wp2_with fail
    (with_reducible refine (known_any _).mono ?_)
    rintro e w3 ⟨rfl, hc3⟩
    go_wp2
    go_ret
    exact ⟨rfl, (hcw2.trans1 hc3).toBelow⟩
  · have hsz := great_size hg
    obtain ⟨c0, c1, c2, _⟩ := cells_three (hc2.at Hb0.out (fun e => e))
    have hp := own_any t (by omega) _ _ w2 (HtW.out.nob hc2) (fun _ hb => hb)
    go_wp2_with fail
    (with_reducible refine hp.mono ?_)
    clear hp c0 c1 c2
    rintro e w3 ⟨hc3, v3, rfl, hx3⟩
    have hX3 : TI w3 t v3 := IsTree.mono (fun _ _ _ hv => hv) (fun _ hb => hb.2) t v3 hx3
    clear hx3
    obtain ⟨a3, cp3, rfl⟩ := hX3.agg
    obtain ⟨X3, hX3e, hcX3, hsX3, hb3⟩ := box_one w3 (.int .i64 t.kind) (.string ⟨t.name.toArray⟩) (.slice a3 t.kids.length cp3)
    have Hb3 := Lib.hid hb3
    have HX3 := Lib.hid (hX3.nob hcX3)
    have h03 := (hc2.trans1 hc3).trans1 hcX3
    subst hX3e
    clear hb3 hX3 hsX3 hc2 hc3 hcX3
    obtain ⟨c0, c1, c2, _⟩ := cells_three (h03.at Hb0.out (fun e => e))
    have hp := rprint_any (HtW.out.nob h03) (by omega)
    go_wp2_with fail
    generalize w3.alloc (.cells #[.int .i64 t.kind, .string ⟨t.name.toArray⟩, .slice a3 t.kids.length cp3] 37) = X3 at *
    (with_reducible refine hp.mono ?_)
    clear hp c0 c1 c2
    rintro e w4 ⟨rfl, hc4⟩
    obtain ⟨d0, d1, d2, _⟩ := cells_three (hc4.at Hb3.out (fun e => e))
    have hp := print_ti (HX3.out.nob hc4) (by omega)
    go_wp2_with fail
    (with_reducible refine hp.mono ?_)
    clear hp d0 d1 d2
    rintro e w5 ⟨rfl, hc5⟩
    have h35 := hc4.trans1 hc5
    obtain ⟨c0, c1, c2, _⟩ := cells_three ((h03.trans1 h35).at Hb0.out (fun e => e))
    obtain ⟨d0, d1, d2, _⟩ := cells_three (h35.at Hb3.out (fun e => e))
    have hp := rsame_ti (HX3.out.nob h35) (HtW.out.nob (h03.trans1 h35))
    rw [sameT_refl] at hp
    go_wp2_with fail
    (with_reducible refine hp.mono ?_)
    clear hp c0 c1 c2 d0 d1 d2
    rintro e w6 ⟨rfl, hc6⟩
    go_wp2_with fail
    (with_reducible refine (known_any _).mono ?_)
    rintro e w7 ⟨rfl, hc7⟩
    go_wp2
    go_ret
    exact ⟨rfl, ((((hcW.trans1 h03).trans1 h35).trans1 hc6).trans1 hc7).toBelow⟩

set_option maxRecDepth 100000 in
theorem lifted (os : Os) (started : os.Started) (H : Type) (enc : TypeId × Value → H) :
    ReturnsInHanded {} Try.checked os 5 .any (Rows.ltlPrintsSpec.pre6 enc Try.prog Try.f5 Rows.ltlPrintsRow.domain false) (Rows.ltlPrintsSpec.post enc Try.prog Try.f5 false true false false) := by
  refine returnsInHanded_of_change_sized (C := Try.checked) own started (by kernel_rfl) Try.func5
    (ChangeSpec.witness6 (enc := enc) (C := Try.checked) false ⟨#[], #[.agg #[.int .i64 0, .string ByteArray.empty, .slice none 0 0]], []⟩ 8 (by kernel_rfl) (by kernel_rfl) (by kernel_rfl) (by kernel_rfl)) ?_
  intro W base args ds gs before hval0 hW hcnd hsz0 _
  have hval : ∀ (j : Nat) t v, Try.f5.params[j]? = some t → args[j]? = some v → Value.okWide Try.prog W .any base t v := hval0
  have hsz : (DataW.weightsEach Try.prog (Try.f5.params.toList ++ Rows.ltlPrintsSpec.plain.varTypes Try.prog) (ds ++ gs)).all (· ≤ reachBytes) = true := hsz0
  have hW' := hW
  obtain ⟨p, q, hA0, hV, rfl, hfz, hnd⟩ := hW
  have hA : DataW.TrodAll enc Try.prog W 0 (fun _ => true) true Try.f5.params.toList args.toList ds p := hA0
  rw [Try.params5] at hA hval hsz
  obtain ⟨v0, vs0, d0, ds0, p0, q0, hargs, rfl, rfl, h0, r0⟩ := trodAll_cons hA
  obtain ⟨rfl, rfl, rfl⟩ := trodAll_nil r0
  obtain rfl : args = #[v0] := by cases args; simp_all
  obtain ⟨rfl, rfl⟩ := trodVars_none hV
  have k0 := h0
  have lt0 : ∀ x ∈ p0, x.block < W.heap.size := by obtain ⟨m, hm⟩ := k0; exact DataW.trod_lt m _ _ _ hm
  obtain ⟨l0, hl0⟩ := open_tree (hval 0 37 v0 rfl rfl) h0
  clear hA0 hval0
  refine (walk v0 l0 W hl0).mono fun e W' ⟨he, bel⟩ => ?_
  subst he
  exact ⟨_, rfl, _, _, _, [], _, [], hW', trodAll_mk1 (shut_bool Try.underlying4 _), (trodAll_cons_mk (Below.trod laidOut (by kernel_rfl) (of_decide_eq_true (by kernel_rfl)) k0 bel lt0) trodAll_mk0), rfl, bel.frame _, fun h => by cases h⟩

theorem over : Rows.ltlPrintsRow.holds Try.pinned (OpenSpec.ofChange Rows.ltlPrintsSpec) :=
  OpenClaim.holds_of_wide 5 Try.f5 rfl rfl rfl rfl rfl rfl rfl ⟨rfl, rfl, rfl, rfl, rfl⟩ rfl rfl rfl rfl rfl (by kernel_rfl) Try.func5 (by kernel_rfl)
    (of_decide_eq_true (by kernel_rfl)) (by unfold Func.isWrapper; rw [if_neg (of_decide_eq_false (by kernel_rfl))]; exact ⟨rfl, rfl⟩)
    (fun os started H enc _ => lifted os started H enc)

theorem proved : Rows.LtlPrintsSaid :=
  over
end Go.Proofs.Ytkgfdgfhpdhhaaa.ltlPrints
