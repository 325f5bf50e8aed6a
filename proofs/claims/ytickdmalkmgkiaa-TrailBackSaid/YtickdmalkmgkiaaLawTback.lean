/- The law TrailBack: whatever the trail and the bytes, it returns true. No condition. -/
import Derived.Test.YtickdmalkmgkiaaBopen
import Derived.Test.YtickdmalkmgkiaaParse
import Derived.Test.YtickdmalkmgkiaaSame
import Derived.Test.YtickdmalkmgkiaaTplain
import Derived.BigQuiet
import Derived.ProofKit
import Derived.OpenShut
import Derived.ShutString
import Derived.SizedLaws
namespace Go.Proofs.Ytickdmalkmgkiaa.trailBack
open Go.ChangeShapes Go.WideShapes Go.ChangeAt Go.RowKit
open Go.ChangeMaps (open_string shut_string)
open trailWrites (IsT isT_of nil_conv)

theorem own : ownKnob Try.prog.godebug = none := by kernel_rfl
theorem laidOut : laidOutB Try.prog = true := by kernel_rfl

theorem bytes_of_at {B : Nat} {w : World} {v : Value} {l : List UInt8} (h : BytesAt B w v l) (hl : l.length ≤ 9223372036854775807) : Bytes w v l := by
  obtain ⟨bk, cp, rfl, h2, _, _, h5⟩ := h
  exact ⟨hl, .inr ⟨⟨bk, 0, none⟩, cp, rfl, h2, fun j u hj => by rw [Go.WideShapes.add_plain, Nat.zero_add]; exact h5 j u hj⟩⟩

set_option maxRecDepth 100000 in
set_option maxHeartbeats 4000000 in
theorem walk (v : Value) (q : Option Addr × List Step × Nat × Int) (bvl : Value) (l : List UInt8) (w : World) (hv : IsT w v q) (hb : Bytes w bvl l) :
    Calls Try.prog 13 #[v, bvl] w fun e w' => e = .returned (.bool true) ∧ Below w.heap.size w w' := by
  obtain ⟨ao, L, cap, c⟩ := q
  obtain ⟨rfl, ht⟩ := hv
  simp only at ht ⊢
  have Ht := Lib.hid ht
  have Hb := Lib.hid hb
  clear ht hb
  go_enter Try.func13, Try.ntmps13
  go_wp2_with fail
  have hc0 : Chg Nob w (w.alloc (Obj.cells #[Value.slice ao L.length cap, Value.int IntKind.i64 c] 24)) := (Chg.refl _ _).alloc _
  have hb0 := cell_two (heap_alloc_new w (Obj.cells #[Value.slice ao L.length cap, Value.int IntKind.i64 c] 24))
  generalize w.alloc (Obj.cells #[Value.slice ao L.length cap, Value.int IntKind.i64 c] 24) = w1 at *
  (with_reducible refine (awake_any _).mono ?_)
  rintro e w2 ⟨rfl, hc2⟩
  have d0 := hc2.cell' hb0.1 (fun e => e)
  have d1 := hc2.cell' hb0.2.1 (fun e => e)
  clear hb0
  go_wp2_with fail
  (with_reducible refine (Write_any ao cap c L _ (Ht.out.chg (hc0.trans1 hc2))).mono ?_)
  rintro e w3 ⟨hc3, hr3⟩
  have e0 := hc3.cell' d0 (fun e => e)
  have e1 := hc3.cell' d1 (fun e => e)
  clear d0 d1
  have HCW := (hc0.trans1 hc2).trans1 hc3
  rcases hr3 with ⟨hm, rfl⟩ | ⟨hm, v3, rfl, hb3⟩
  · have hpb := Parse_any bvl l _ (Hb.out.chg HCW)
    go_wp2_with fail
    (with_reducible refine hpb.mono ?_)
    clear hpb
    rintro e w8 ⟨hc8, hr8⟩
    have HC8 := HCW.trans1 hc8
    rcases hr8 with ⟨hno, rfl⟩ | ⟨ao8, L8, cap8, c8, hm8, hl8, rfl, htr8⟩
    · have hk8 := heap_alloc_new w8 (.cells #[.slice none 0 0, .int .i64 0] 24)
      obtain ⟨k0, k1, _, _⟩ := cell_two hk8
      clear hk8 hno
      go_wp2_with fail
      go_ret
      exact ⟨rfl, (HC8.alloc _).toBelow⟩
    · have hk8 := heap_alloc_new w8 (.cells #[.slice ao8 L8.length cap8, .int .i64 c8] 24)
      obtain ⟨k0, k1, _, _⟩ := cell_two hk8
      have hwr := Write_any ao8 cap8 c8 L8 (w8.alloc (.cells #[.slice ao8 L8.length cap8, .int .i64 c8] 24)) (htr8.chg ((Chg.refl Nob w8).alloc _))
      have Hl8 := Lib.hid hl8
      clear hk8 htr8 hl8
      go_wp2_with fail
      (with_reducible refine hwr.mono ?_)
      clear hwr
      rintro e w9 ⟨hc9, hr9⟩
      rcases hr9 with ⟨hm9, _⟩ | ⟨_, v9, rfl, hb9⟩
      · rw [hm8] at hm9; cases hm9
      · have HC9 := (HC8.alloc (.cells #[.slice ao8 L8.length cap8, .int .i64 c8] 24)).trans1 hc9
        have cv1 := bytes_conv hb9
        rw [← Hl8.out] at cv1
        have cv2 := (Hb.out.chg HC9).conv
        clear hb9
        go_wp2_with fail
        go_ret
        exact ⟨by simp, HC9.toBelow⟩
  · have hlen : (tl c L).length ≤ 9223372036854775807 := by
      obtain ⟨_, _, _, _, _, _, _⟩ := hb3
      have h1 := tl_part hm L.length (Nat.le_refl _)
      rw [List.take_length] at h1
      have h2 : tl c L = tpre c L.length ++ L.flatMap stepb := rfl
      have := (may_head hm).1
      rw [h2]; omega
    have hpc := Parse_any v3 (tl c L) w3 (bytes_of_at hb3 hlen)
    clear hb3 hlen
    go_wp2_with fail
    (with_reducible refine hpc.mono ?_)
    clear hpc
    rintro e w4 ⟨hc4, hr4⟩
    rcases hr4 with ⟨hno, _⟩ | ⟨ao4, L4, cap4, c4, hm4, hl4, rfl, htr4⟩
    · exact absurd rfl (hno c L hm)
    · obtain ⟨f1, f2, _⟩ := tl_cut (r := []) (s := []) hm hm4 (by rw [hl4])
      have hk4 := heap_alloc_new w4 (.cells #[.slice ao4 L4.length cap4, .int .i64 c4] 24)
      obtain ⟨k0, k1, _, _⟩ := cell_two hk4
      have HC4 := (HCW.trans1 hc4).alloc (.cells #[.slice ao4 L4.length cap4, .int .i64 c4] 24)
      have e2 := (hc4.alloc (.cells #[.slice ao4 L4.length cap4, .int .i64 c4] 24)).cell' e0 (fun e => e)
      have e3 := (hc4.alloc (.cells #[.slice ao4 L4.length cap4, .int .i64 c4] 24)).cell' e1 (fun e => e)
      have hs := same_any ao ao4 cap cap4 c c4 L L4 (w4.alloc (.cells #[.slice ao4 L4.length cap4, .int .i64 c4] 24)) (Ht.out.chg HC4) (htr4.chg ((Chg.refl _ _).alloc _))
      have hst : sameT c L c4 L4 = true := by simp [sameT, f1, f2]
      rw [hst] at hs
      clear hk4 htr4 hl4 f1 f2 hst
      go_wp2_with fail
      (with_reducible refine hs.mono ?_)
      clear hs
      rintro e w5 ⟨rfl, hc5⟩
      have HC5 := HC4.trans1 hc5
      clear HCW HC4 e0 e1 e2 e3 k0 k1
      have HCW := HC5
      have hpb := Parse_any bvl l _ (Hb.out.chg HCW)
      go_wp2_with fail
      (with_reducible refine hpb.mono ?_)
      clear hpb
      rintro e w8 ⟨hc8, hr8⟩
      have HC8 := HCW.trans1 hc8
      rcases hr8 with ⟨hno, rfl⟩ | ⟨ao8, L8, cap8, c8, hm8, hl8, rfl, htr8⟩
      · have hk8 := heap_alloc_new w8 (.cells #[.slice none 0 0, .int .i64 0] 24)
        obtain ⟨k0, k1, _, _⟩ := cell_two hk8
        clear hk8 hno
        go_wp2_with fail
        go_ret
        exact ⟨rfl, (HC8.alloc _).toBelow⟩
      · have hk8 := heap_alloc_new w8 (.cells #[.slice ao8 L8.length cap8, .int .i64 c8] 24)
        obtain ⟨k0, k1, _, _⟩ := cell_two hk8
        have hwr := Write_any ao8 cap8 c8 L8 (w8.alloc (.cells #[.slice ao8 L8.length cap8, .int .i64 c8] 24)) (htr8.chg ((Chg.refl Nob w8).alloc _))
        have Hl8 := Lib.hid hl8
        clear hk8 htr8 hl8
        go_wp2_with fail
        (with_reducible refine hwr.mono ?_)
        clear hwr
        rintro e w9 ⟨hc9, hr9⟩
        rcases hr9 with ⟨hm9, _⟩ | ⟨_, v9, rfl, hb9⟩
        · rw [hm8] at hm9; cases hm9
        · have HC9 := (HC8.alloc (.cells #[.slice ao8 L8.length cap8, .int .i64 c8] 24)).trans1 hc9
          have cv1 := bytes_conv hb9
          rw [← Hl8.out] at cv1
          have cv2 := (Hb.out.chg HC9).conv
          clear hb9
          go_wp2_with fail
          go_ret
          exact ⟨by simp, HC9.toBelow⟩

set_option maxRecDepth 100000 in
theorem lifted (os : Os) (started : os.Started) (H : Type) (enc : TypeId × Value → H) :
    ReturnsInHanded {} Try.checked os 13 .any (Rows.trailBackSpec.pre6 enc Try.prog Try.f13 Rows.trailBackRow.domain false) (Rows.trailBackSpec.post enc Try.prog Try.f13 false true false false) := by
  refine returnsInHanded_of_change_sized (C := Try.checked) own started (by kernel_rfl) Try.func13
    (ChangeSpec.witness6 (enc := enc) (C := Try.checked) false ⟨#[], #[.agg #[.slice none 0 0, .int .i64 0], .slice none 0 0], []⟩ 8 (by kernel_rfl) (by kernel_rfl) (by kernel_rfl) (by kernel_rfl)) ?_
  intro W base args ds gs before hval0 hW hcnd hsz0 _
  have hval : ∀ (j : Nat) t v, Try.f13.params[j]? = some t → args[j]? = some v → Value.okWide Try.prog W .any base t v := hval0
  have hsz : (DataW.weightsEach Try.prog (Try.f13.params.toList ++ Rows.trailBackSpec.plain.varTypes Try.prog) (ds ++ gs)).all (· ≤ reachBytes) = true := hsz0
  have hW' := hW
  obtain ⟨p, q, hA0, hV, rfl, hfz, hnd⟩ := hW
  have hA : DataW.TrodAll enc Try.prog W 0 (fun _ => true) true Try.f13.params.toList args.toList ds p := hA0
  rw [Try.params13] at hA hval hsz
  obtain ⟨v0, vs0, d0, ds0, p0, q0, hargs, rfl, rfl, h0, r0⟩ := trodAll_cons hA
  obtain ⟨v1, vs1, d1, ds1, p1, q1, rfl, rfl, rfl, h1, r1⟩ := trodAll_cons r0
  obtain ⟨rfl, rfl, rfl⟩ := trodAll_nil r1
  obtain rfl : args = #[v0, v1] := by cases args; simp_all
  obtain ⟨rfl, rfl⟩ := trodVars_none hV
  have k0 := h0
  have lt0 : ∀ x ∈ p0, x.block < W.heap.size := by obtain ⟨m, hm⟩ := k0; exact DataW.trod_lt m _ _ _ hm
  have k1 := h1
  have lt1 : ∀ x ∈ p1, x.block < W.heap.size := by obtain ⟨m, hm⟩ := k1; exact DataW.trod_lt m _ _ _ hm
  obtain ⟨l0, hl0⟩ := isT_of (hval 0 24 v0 rfl rfl) h0 (sized_at hsz (j := 0) rfl rfl)
  obtain ⟨l1, hl1⟩ := open_bytes (hval 1 26 v1 rfl rfl) h1
  clear hA0 hval0
  refine (walk v0 l0 v1 l1 W hl0 hl1).mono fun e W' ⟨he, bel⟩ => ?_
  subst he
  exact ⟨_, rfl, _, _, _, [], _, [], hW', trodAll_mk1 (shut_bool Try.underlying4 _), (trodAll_cons_mk (Below.trod laidOut (by kernel_rfl) (of_decide_eq_true (by kernel_rfl)) k0 bel lt0) (trodAll_cons_mk (Below.trod laidOut (by kernel_rfl) (of_decide_eq_true (by kernel_rfl)) k1 bel lt1) trodAll_mk0)), rfl, bel.frame _, fun h => by cases h⟩

theorem over : Rows.trailBackRow.holds Try.pinned (OpenSpec.ofChange Rows.trailBackSpec) :=
  OpenClaim.holds_of_wide 13 Try.f13 rfl rfl rfl rfl rfl rfl rfl ⟨rfl, rfl, rfl, rfl, rfl⟩ rfl rfl rfl rfl rfl (by kernel_rfl) Try.func13 (by kernel_rfl)
    (of_decide_eq_true (by kernel_rfl)) (by unfold Func.isWrapper; rw [if_neg (of_decide_eq_false (by kernel_rfl))]; exact ⟨rfl, rfl⟩)
    (fun os started H enc _ => lifted os started H enc)

theorem proved : Rows.TrailBackSaid :=
  over

end Go.Proofs.Ytickdmalkmgkiaa.trailBack
