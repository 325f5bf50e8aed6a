/- The law TrailParses: whatever the bytes, it returns true. No condition. -/
import Derived.Test.YtickdmalkmgkiaaBopen
import Derived.Test.YtickdmalkmgkiaaRParse
import Derived.Test.YtickdmalkmgkiaaSame
import Derived.Test.YtickdmalkmgkiaaTplain
import Derived.BigQuiet
import Derived.ProofKit
import Derived.OpenShut
import Derived.ShutString
import Derived.SizedLaws
namespace Go.Proofs.Ytickdmalkmgkiaa.trailParses
open Go.ChangeShapes Go.WideShapes Go.ChangeAt Go.RowKit
open Go.ChangeMaps (open_string shut_string)

theorem own : ownKnob Try.prog.godebug = none := by kernel_rfl
theorem laidOut : laidOutB Try.prog = true := by kernel_rfl

theorem nil_trail (w : World) : IsTrail w none [] := ⟨by simp, fun i x h => by simp at h⟩

set_option maxRecDepth 100000 in
set_option maxHeartbeats 4000000 in
theorem walk (v : Value) (l : List UInt8) (w : World) (hb : Bytes w v l) :
    Calls Try.prog 12 #[v] w fun e w' => e = .returned (.bool true) ∧ Below w.heap.size w w' := by
  have Hb := Lib.hid hb
  clear hb
  go_enter Try.func12, Try.ntmps12
  go_wp2_with fail
  (with_reducible refine (awake_any _).mono ?_)
  rintro e w2 ⟨rfl, hc2⟩
  have h1 := Parse_any v l w2 (Hb.out.chg hc2)
  go_wp2_with fail
  (with_reducible refine h1.mono ?_)
  clear h1
  rintro e w3 ⟨hc3, hr3⟩
  rcases hr3 with ⟨hno, rfl⟩ | ⟨ao, L, cap, c, hm, hl, rfl, htr⟩
  · have Hno := Lib.hid hno
    clear hno
    have hk := heap_alloc_new w3 (.cells #[.slice none 0 0, .int .i64 0] 24)
    have hc4 : Chg Nob w (w3.alloc (.cells #[.slice none 0 0, .int .i64 0] 24)) := ((hc2.trans1 hc3).alloc _)
    have h1 := RParse_any v l _ (Hb.out.chg hc4)
    go_wp2_with fail
    generalize w3.alloc (.cells #[.slice none 0 0, .int .i64 0] 24) = w4 at *
    (with_reducible refine h1.mono ?_)
    clear h1
    rintro e w5 ⟨hc5, hr5⟩
    rcases hr5 with ⟨_, rfl⟩ | ⟨ao', L', cap', c', hm', hl', _, _⟩
    · have hk5 := (hc5.alloc (.cells #[.slice none 0 0, .int .i64 0] 24)).at hk (fun e => e)
      obtain ⟨c0, c1, _, _⟩ := cell_two hk5
      have hs := same_any none none 0 0 0 0 [] [] (w5.alloc (.cells #[.slice none 0 0, .int .i64 0] 24)) (nil_trail _) (nil_trail _)
      have hs0 : Calls Try.prog 18 #[.agg #[.slice none 0 0, .int .i64 0], .agg #[.slice none 0 0, .int .i64 0]] (w5.alloc (.cells #[.slice none 0 0, .int .i64 0] 24)) _ := hs
      clear hs hk hk5
      go_wp2_with fail
      (with_reducible refine hs0.mono ?_)
      clear hs0
      rintro e w6 ⟨rfl, hc6⟩
      go_wp2_with fail
      go_ret
      exact ⟨by simp [sameT], ((hc4.trans1 hc5).alloc _ |>.trans1 hc6).toBelow⟩
    · exact absurd hl' (Hno.out c' L' hm')
  · have Htr := Lib.hid htr
    have Hl := Lib.hid hl
    clear htr hl
    have hk := heap_alloc_new w3 (.cells #[.slice ao L.length cap, .int .i64 c] 24)
    have hc4 : Chg Nob w (w3.alloc (.cells #[.slice ao L.length cap, .int .i64 c] 24)) := ((hc2.trans1 hc3).alloc _)
    have h1 := RParse_any v l _ (Hb.out.chg hc4)
    have Ht4 := Lib.hid (Htr.out.chg ((Chg.refl Nob w3).alloc (.cells #[.slice ao L.length cap, .int .i64 c] 24)))
    go_wp2_with fail
    generalize w3.alloc (.cells #[.slice ao L.length cap, .int .i64 c] 24) = w4 at *
    (with_reducible refine h1.mono ?_)
    clear h1
    rintro e w5 ⟨hc5, hr5⟩
    rcases hr5 with ⟨hno, _⟩ | ⟨ao', L', cap', c', hm', hl', rfl, htr'⟩
    · exact absurd Hl.out (hno c L hm)
    · obtain ⟨e1, e2, _⟩ := tl_cut (r := []) (s := []) hm hm' (by rw [← Hl.out, ← hl'])
      have He := Lib.hid (And.intro e1 e2)
      have hk5 := (hc5.alloc (.cells #[.slice ao' L'.length cap', .int .i64 c'] 24)).at hk (fun e => e)
      have hk6 := heap_alloc_new w5 (.cells #[.slice ao' L'.length cap', .int .i64 c'] 24)
      obtain ⟨c0, c1, _, _⟩ := cell_two hk5
      obtain ⟨d0, d1, _, _⟩ := cell_two hk6
      have hs := same_any ao ao' cap cap' c c' L L' (w5.alloc (.cells #[.slice ao' L'.length cap', .int .i64 c'] 24)) (Ht4.out.chg (hc5.alloc _)) (htr'.chg ((Chg.refl _ _).alloc _))
      clear hk hk5 hk6 htr' hl' e1 e2
      go_wp2_with fail
      (with_reducible refine hs.mono ?_)
      clear hs
      rintro e w6 ⟨rfl, hc6⟩
      go_wp2_with fail
      go_ret
      exact ⟨by simp [sameT, He.out.1, He.out.2], ((hc4.trans1 hc5).alloc _ |>.trans1 hc6).toBelow⟩

set_option maxRecDepth 100000 in
theorem lifted (os : Os) (started : os.Started) (H : Type) (enc : TypeId × Value → H) :
    ReturnsInHanded {} Try.checked os 12 .any (Rows.trailParsesSpec.pre6 enc Try.prog Try.f12 Rows.trailParsesRow.domain false) (Rows.trailParsesSpec.post enc Try.prog Try.f12 false true false false) := by
  refine returnsInHanded_of_change_sized (C := Try.checked) own started (by kernel_rfl) Try.func12
    (ChangeSpec.witness6 (enc := enc) (C := Try.checked) false ⟨#[], #[.slice none 0 0], []⟩ 8 (by kernel_rfl) (by kernel_rfl) (by kernel_rfl) (by kernel_rfl)) ?_
  intro W base args ds gs before hval0 hW hcnd hsz0 _
  have hval : ∀ (j : Nat) t v, Try.f12.params[j]? = some t → args[j]? = some v → Value.okWide Try.prog W .any base t v := hval0
  have hsz : (DataW.weightsEach Try.prog (Try.f12.params.toList ++ Rows.trailParsesSpec.plain.varTypes Try.prog) (ds ++ gs)).all (· ≤ reachBytes) = true := hsz0
  have hW' := hW
  obtain ⟨p, q, hA0, hV, rfl, hfz, hnd⟩ := hW
  have hA : DataW.TrodAll enc Try.prog W 0 (fun _ => true) true Try.f12.params.toList args.toList ds p := hA0
  rw [Try.params12] at hA hval hsz
  obtain ⟨v0, vs0, d0, ds0, p0, q0, hargs, rfl, rfl, h0, r0⟩ := trodAll_cons hA
  obtain ⟨rfl, rfl, rfl⟩ := trodAll_nil r0
  obtain rfl : args = #[v0] := by cases args; simp_all
  obtain ⟨rfl, rfl⟩ := trodVars_none hV
  have k0 := h0
  have lt0 : ∀ x ∈ p0, x.block < W.heap.size := by obtain ⟨m, hm⟩ := k0; exact DataW.trod_lt m _ _ _ hm
  obtain ⟨l0, hl0⟩ := open_bytes (hval 0 26 v0 rfl rfl) h0
  clear hA0 hval0
  refine (walk v0 l0 W hl0).mono fun e W' ⟨he, bel⟩ => ?_
  subst he
  exact ⟨_, rfl, _, _, _, [], _, [], hW', trodAll_mk1 (shut_bool Try.underlying4 _), (trodAll_cons_mk (Below.trod laidOut (by kernel_rfl) (of_decide_eq_true (by kernel_rfl)) k0 bel lt0) trodAll_mk0), rfl, bel.frame _, fun h => by cases h⟩

theorem over : Rows.trailParsesRow.holds Try.pinned (OpenSpec.ofChange Rows.trailParsesSpec) :=
  OpenClaim.holds_of_wide 12 Try.f12 rfl rfl rfl rfl rfl rfl rfl ⟨rfl, rfl, rfl, rfl, rfl⟩ rfl rfl rfl rfl rfl (by kernel_rfl) Try.func12 (by kernel_rfl)
    (of_decide_eq_true (by kernel_rfl)) (by unfold Func.isWrapper; rw [if_neg (of_decide_eq_false (by kernel_rfl))]; exact ⟨rfl, rfl⟩)
    (fun os started H enc _ => lifted os started H enc)

theorem proved : Rows.TrailParsesSaid :=
  over

end Go.Proofs.Ytickdmalkmgkiaa.trailParses
