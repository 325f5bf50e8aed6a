/- The law TrailApart: whatever the two trails, it returns true. No condition. -/
import Derived.Test.YtickdmalkmgkiaaLawTwrites
import Derived.Test.YtickdmalkmgkiaaSame
import Derived.Test.YtickdmalkmgkiaaTplain
import Derived.BigQuiet
import Derived.ProofKit
import Derived.OpenShut
import Derived.ShutString
import Derived.SizedLaws
namespace Go.Proofs.Ytickdmalkmgkiaa.trailApart
open Go.ChangeShapes Go.WideShapes Go.ChangeAt Go.RowKit
open Go.ChangeMaps (open_string shut_string)
open trailWrites (IsT isT_of nil_conv)

theorem own : ownKnob Try.prog.godebug = none := by kernel_rfl
theorem laidOut : laidOutB Try.prog = true := by kernel_rfl

theorem apart_not {c c' : Int} {L L' : List Step} (h : mayBe c L = true) (h' : mayBe c' L' = true) (hs : sameT c L c' L' = false) : ((tl c L) == ((tl c' L').take (tl c L).length)) = false := by
  rw [beq_eq_false_iff_ne]
  intro e
  obtain ⟨rfl, rfl⟩ := tl_front h h' e
  simp [sameT] at hs

set_option maxRecDepth 100000 in
set_option maxHeartbeats 4000000 in
theorem walk (v : Value) (q : Option Addr × List Step × Nat × Int) (v' : Value) (q' : Option Addr × List Step × Nat × Int) (w : World) (hv : IsT w v q) (hv' : IsT w v' q') :
    Calls Try.prog 4 #[v, v'] w fun e w' => e = .returned (.bool true) ∧ Below w.heap.size w w' := by
  obtain ⟨ao, L, cap, c⟩ := q
  obtain ⟨rfl, ht⟩ := hv
  obtain ⟨ao', L', cap', c'⟩ := q'
  obtain ⟨rfl, ht'⟩ := hv'
  simp only at ht ht' ⊢
  have Ht := Lib.hid ht
  have Ht' := Lib.hid ht'
  clear ht ht'
  go_enter Try.func4, Try.ntmps4
  go_wp2_with fail
  have hc0 : Chg Nob w ((w.alloc (Obj.cells #[Value.slice ao L.length cap, Value.int IntKind.i64 c] 24)).alloc (Obj.cells #[Value.slice ao' L'.length cap', Value.int IntKind.i64 c'] 24)) := ((Chg.refl _ _).alloc _).alloc _
  have hb0 : ((w.alloc (Obj.cells #[Value.slice ao L.length cap, Value.int IntKind.i64 c] 24)).alloc (Obj.cells #[Value.slice ao' L'.length cap', Value.int IntKind.i64 c'] 24)).heap[w.heap.size]? = some (Obj.cells #[Value.slice ao L.length cap, Value.int IntKind.i64 c] 24) := ((Chg.refl Nob _).alloc _).at (heap_alloc_new w _) (fun e => e)
  have hb1 : ((w.alloc (Obj.cells #[Value.slice ao L.length cap, Value.int IntKind.i64 c] 24)).alloc (Obj.cells #[Value.slice ao' L'.length cap', Value.int IntKind.i64 c'] 24)).heap[w.heap.size + 1]? = some (Obj.cells #[Value.slice ao' L'.length cap', Value.int IntKind.i64 c'] 24) := by
    rw [show w.heap.size + 1 = (w.alloc (Obj.cells #[Value.slice ao L.length cap, Value.int IntKind.i64 c] 24)).heap.size by simp]
    exact heap_alloc_new _ _
  generalize (w.alloc (Obj.cells #[Value.slice ao L.length cap, Value.int IntKind.i64 c] 24)).alloc (Obj.cells #[Value.slice ao' L'.length cap', Value.int IntKind.i64 c'] 24) = w1 at *
  have hcells : ∀ u, Chg Nob w1 u → u.cell? ⟨w.heap.size, 0, none⟩ = some (.slice ao L.length cap) ∧ u.cell? ⟨w.heap.size, 1, none⟩ = some (.int .i64 c) ∧ u.cell? ⟨w.heap.size + 1, 0, none⟩ = some (.slice ao' L'.length cap') ∧ u.cell? ⟨w.heap.size + 1, 1, none⟩ = some (.int .i64 c') ∧ Chg Nob w u := fun u hu =>
    ⟨hu.cell' (cell_two hb0).1 (fun e => e), hu.cell' (cell_two hb0).2.1 (fun e => e), hu.cell' (cell_two hb1).1 (fun e => e), hu.cell' (cell_two hb1).2.1 (fun e => e), hc0.trans1 hu⟩
  have Hcells := Lib.hid hcells
  clear hcells hb0 hb1 hc0
  (with_reducible refine (awake_any _).mono ?_)
  rintro e w2 ⟨rfl, hc2⟩
  obtain ⟨y0, y1, y2, y3, hcw⟩ := Hcells.out _ hc2
  go_wp2_with fail
  (with_reducible refine (Write_any ao cap c L _ (Ht.out.chg hcw)).mono ?_)
  rintro e w3 ⟨hc3, hr3⟩
  clear y0 y1 y2 y3 hcw
  have hc3' := hc2.trans1 hc3
  obtain ⟨y0, y1, y2, y3, hcw⟩ := Hcells.out _ hc3'
  rcases hr3 with ⟨hm, rfl⟩ | ⟨hm, v3, rfl, hb3⟩
  · go_wp2_with fail
    (with_reducible refine (Write_any ao' cap' c' L' _ (Ht'.out.chg hcw)).mono ?_)
    rintro e w4 ⟨hc4, hr4⟩
    have hcf := hcw.trans1 hc4
    rcases hr4 with ⟨_, rfl⟩ | ⟨_, v4, rfl, _⟩
    · go_wp2_with fail
      go_ret
      exact ⟨rfl, hcf.toBelow⟩
    · go_wp2_with fail
      go_ret
      exact ⟨rfl, hcf.toBelow⟩
  · go_wp2_with fail
    (with_reducible refine (Write_any ao' cap' c' L' _ (Ht'.out.chg hcw)).mono ?_)
    rintro e w4 ⟨hc4, hr4⟩
    have hcf := hcw.trans1 hc4
    rcases hr4 with ⟨_, rfl⟩ | ⟨hm', v4, rfl, hb4⟩
    · go_wp2_with fail
      go_ret
      exact ⟨rfl, hcf.toBelow⟩
    · have hc4' := hc3'.trans1 hc4
      clear y0 y1 y2 y3 hcf hcw
      obtain ⟨y0, y1, y2, y3, hcw⟩ := Hcells.out _ hc4'
      have hb3' := hb3.chg hc4
      clear hb3
      have Hb3 := Lib.hid hb3'
      have Hb4 := Lib.hid hb4
      clear hb3' hb4
      go_wp2_with fail
      (with_reducible refine (same_any ao ao' cap cap' c c' L L' _ (Ht.out.chg hcw) (Ht'.out.chg hcw)).mono ?_)
      rintro e w5 ⟨rfl, hc5⟩
      have hcv3 := bytes_conv (Hb3.out.chg hc5)
      have hcv4 := bytes_conv (Hb4.out.chg hc5)
      have heq : (tl c L == tl c' L') = sameT c L c' L' := tl_same hm hm'
      cases hs : sameT c L c' L' with
      | true =>
        rw [hs] at heq
        go_wp2_with fail
        go_quiet (fail)
        go_wp2_with fail
        go_ret
        exact ⟨rfl, ((hcw.trans1 hc5).drewN _).toBelow⟩
      | false =>
        rw [hs] at heq
        have hnot := apart_not hm hm' hs
        obtain ⟨bk3, cp3, rfl, hl3, hB3, hlt3, hce3⟩ := Hb3.out.chg hc5
        obtain ⟨bk4, cp4, rfl, hl4, hB4, hlt4, hce4⟩ := Hb4.out.chg hc5
        cases hlen : decide ((tl c' L').length ≤ (tl c L).length) with
        | true =>
          have hge : ((tl c' L').length : Int) ≤ ((tl c L).length : Int) := by have := of_decide_eq_true hlen; omega
          go_wp2_with fail
          go_quiet (fail)
          go_wp2_with fail
          go_ret
          exact ⟨rfl, ((hcw.trans1 hc5).drewN _).toBelow⟩
        | false =>
          have hge : ¬ ((tl c' L').length : Int) ≤ ((tl c L).length : Int) := by have := of_decide_eq_false hlen; omega
          have hbp : BytesAt w3.heap.size w5 (.slice (some ⟨bk4, 0, none⟩) (tl c L).length cp4) ((tl c' L').take (tl c L).length) := by
            have hl : ((tl c' L').take (tl c L).length).length = (tl c L).length := by rw [List.length_take]; omega
            refine ⟨bk4, cp4, by rw [hl], by omega, hB4, hlt4, fun j u hj => hce4 j u ?_⟩
            rw [List.getElem?_map, List.getElem?_take] at hj
            rw [List.getElem?_map]
            split at hj
            · exact hj
            · simp at hj
          have hcvp := fun n => bytes_conv (hbp.chg ((Chg.refl Nob w5).drewN n))
          have hcvn := fun n => bytes_conv ((Hb3.out.chg hc5).chg ((Chg.refl Nob w5).drewN n))
          clear hbp
          go_wp2_with fail
          go_quiet (fail)
          go_wp2_with fail
          go_ret
          exact ⟨by simp, ((hcw.trans1 hc5).drewN _).toBelow⟩
set_option maxRecDepth 100000 in
theorem lifted (os : Os) (started : os.Started) (H : Type) (enc : TypeId × Value → H) :
    ReturnsInHanded {} Try.checked os 4 .any (Rows.trailApartSpec.pre6 enc Try.prog Try.f4 Rows.trailApartRow.domain false) (Rows.trailApartSpec.post enc Try.prog Try.f4 false true false false) := by
  refine returnsInHanded_of_change_sized (C := Try.checked) own started (by kernel_rfl) Try.func4
    (ChangeSpec.witness6 (enc := enc) (C := Try.checked) false ⟨#[], #[.agg #[.slice none 0 0, .int .i64 0], .agg #[.slice none 0 0, .int .i64 0]], []⟩ 8 (by kernel_rfl) (by kernel_rfl) (by kernel_rfl) (by kernel_rfl)) ?_
  intro W base args ds gs before hval0 hW hcnd hsz0 _
  have hval : ∀ (j : Nat) t v, Try.f4.params[j]? = some t → args[j]? = some v → Value.okWide Try.prog W .any base t v := hval0
  have hsz : (DataW.weightsEach Try.prog (Try.f4.params.toList ++ Rows.trailApartSpec.plain.varTypes Try.prog) (ds ++ gs)).all (· ≤ reachBytes) = true := hsz0
  have hW' := hW
  obtain ⟨p, q, hA0, hV, rfl, hfz, hnd⟩ := hW
  have hA : DataW.TrodAll enc Try.prog W 0 (fun _ => true) true Try.f4.params.toList args.toList ds p := hA0
  rw [Try.params4] at hA hval hsz
  obtain ⟨v0, vs0, d0, ds0, p0, q0, hargs, rfl, rfl, h0, r0⟩ := trodAll_cons hA
  obtain ⟨v1, vs1, d1, ds1, p1, q1, rfl, rfl, rfl, h1, r1⟩ := trodAll_cons r0
  obtain ⟨rfl, rfl, rfl⟩ := trodAll_nil r1
  obtain rfl : args = #[v0, v1] := by cases args; simp_all
  obtain ⟨rfl, rfl⟩ := trodVars_none hV
  have k0 := h0
  have lt0 : ∀ x ∈ p0, x.block < W.heap.size := by obtain ⟨m, hm⟩ := k0; exact DataW.trod_lt m _ _ _ hm
  have k1 := h1
  have lt1 : ∀ x ∈ p1, x.block < W.heap.size := by obtain ⟨m, hm⟩ := k1; exact DataW.trod_lt m _ _ _ hm
  obtain ⟨l0, hl0⟩ := isT_of (hval 0 24 v0 rfl rfl) h0 (sized_at hsz (j := 0) rfl rfl)
  obtain ⟨l1, hl1⟩ := isT_of (hval 1 24 v1 rfl rfl) h1 (sized_at hsz (j := 1) rfl rfl)
  clear hA0 hval0
  refine (walk v0 l0 v1 l1 W hl0 hl1).mono fun e W' ⟨he, bel⟩ => ?_
  subst he
  exact ⟨_, rfl, _, _, _, [], _, [], hW', trodAll_mk1 (shut_bool Try.underlying4 _), (trodAll_cons_mk (Below.trod laidOut (by kernel_rfl) (of_decide_eq_true (by kernel_rfl)) k0 bel lt0) (trodAll_cons_mk (Below.trod laidOut (by kernel_rfl) (of_decide_eq_true (by kernel_rfl)) k1 bel lt1) trodAll_mk0)), rfl, bel.frame _, fun h => by cases h⟩

theorem over : Rows.trailApartRow.holds Try.pinned (OpenSpec.ofChange Rows.trailApartSpec) :=
  OpenClaim.holds_of_wide 4 Try.f4 rfl rfl rfl rfl rfl rfl rfl ⟨rfl, rfl, rfl, rfl, rfl⟩ rfl rfl rfl rfl rfl (by kernel_rfl) Try.func4 (by kernel_rfl)
    (of_decide_eq_true (by kernel_rfl)) (by unfold Func.isWrapper; rw [if_neg (of_decide_eq_false (by kernel_rfl))]; exact ⟨rfl, rfl⟩)
    (fun os started H enc _ => lifted os started H enc)

theorem proved : Rows.TrailApartSaid :=
  over

end Go.Proofs.Ytickdmalkmgkiaa.trailApart
