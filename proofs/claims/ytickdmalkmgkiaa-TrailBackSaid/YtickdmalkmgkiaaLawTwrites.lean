/- The law TrailWrites: whatever the trail, it returns true. No condition. -/
import Derived.Test.YtickdmalkmgkiaaTopen
import Derived.Test.YtickdmalkmgkiaaTawake
import Derived.ProofKit
import Derived.OpenShut
import Derived.ShutString
import Derived.SizedLaws
namespace Go.Proofs.Ytickdmalkmgkiaa.trailWrites
open Go.ChangeShapes Go.WideShapes Go.ChangeAt Go.RowKit
open Go.ChangeMaps (open_string shut_string)

theorem own : ownKnob Try.prog.godebug = none := by kernel_rfl
theorem laidOut : laidOutB Try.prog = true := by kernel_rfl

/-- A trail that came in. -/
def IsT (W : World) (v : Value) (q : Option Addr × List Step × Nat × Int) : Prop := v = .agg #[.slice q.1 q.2.1.length q.2.2.1, .int .i64 q.2.2.2] ∧ IsTrail W q.1 q.2.1
set_option maxRecDepth 100000 in
theorem isT_of {H : Type} {enc : TypeId × Value → H} {W : World} {b0 : Nat} {v : Value} {d : DataW H} {p : List MemPlace} (hv : Value.okWide Try.prog W .any b0 24 v) (h : DataW.Trod enc Try.prog W 0 (fun _ => true) true 24 v d p)
    (_ : ∀ k, k ∈ d.weights Try.prog 24 → k ≤ reachBytes) : ∃ q, IsT W v q := by
  obtain ⟨ao, L, cap, c, h1, h2⟩ := open_trail hv h
  exact ⟨(ao, L, cap, c), h1, h2⟩
theorem _root_.Go.Proofs.Ytickdmalkmgkiaa.BytesAt.chg {B : Nat} {w w' : World} {v : Value} {l : List UInt8} (h : BytesAt B w v l) (hc : Chg Nob w w') : BytesAt B w' v l := by
  obtain ⟨bk, cp, h1, h2, h3, h4, h5⟩ := h
  exact ⟨bk, cp, h1, h2, h3, Nat.lt_of_lt_of_le h4 hc.size, fun j u hj => hc.cell' (h5 j u hj) (fun e => e)⟩
theorem nil_conv (w : World) : (convert 26 9 (.slice none 0 0)).run Try.prog w = .ok (.string ⟨#[]⟩) w := run_back (B := 0) w (ao := none) (c := 0) [] (World.ownsRow_nil _ _ _ _)

set_option maxRecDepth 100000 in
set_option maxHeartbeats 1000000 in
theorem walk (v : Value) (q : Option Addr × List Step × Nat × Int) (w : World) (hv : IsT w v q) :
    Calls Try.prog 3 #[v] w fun e w' => e = .returned (.bool true) ∧ Below w.heap.size w w' := by
  obtain ⟨ao, L, cap, c⟩ := q
  obtain ⟨rfl, ht⟩ := hv
  simp only at ht ⊢
  have Ht := Lib.hid ht
  clear ht
  go_enter Try.func3, Try.ntmps3
  go_wp2_with fail
  have hc0 : Chg Nob w (w.alloc (Obj.cells #[Value.slice ao L.length cap, Value.int IntKind.i64 c] 24)) := (Chg.refl _ _).alloc _
  have hb0 := cell_two (heap_alloc_new w (Obj.cells #[Value.slice ao L.length cap, Value.int IntKind.i64 c] 24))
  generalize w.alloc (Obj.cells #[Value.slice ao L.length cap, Value.int IntKind.i64 c] 24) = w1 at *
  (with_reducible refine (awake_any _).mono ?_)
  rintro e w2 ⟨rfl, hc2⟩
  have d0 := hc2.cell' hb0.1 (fun e => e)
  have d1 := hc2.cell' hb0.2.1 (fun e => e)
  clear hb0
  go_wp2_with fail
  (with_reducible refine (Write_any ao cap c L _ (Ht.out.chg (hc0.trans1 hc2))).mono ?_)
  rintro e w3 ⟨hc3, hr3⟩
  have e0 := hc3.cell' d0 (fun e => e)
  have e1 := hc3.cell' d1 (fun e => e)
  clear d0 d1
  rcases hr3 with ⟨hm, rfl⟩ | ⟨hm, v3, rfl, hb3⟩
  · go_wp2_with fail
    (with_reducible refine (RWrite_any ao cap c L _ (Ht.out.chg ((hc0.trans1 hc2).trans1 hc3))).mono ?_)
    rintro e w4 ⟨hc4, hr4⟩
    rcases hr4 with ⟨_, rfl⟩ | ⟨hm2, _⟩
    · have hcv := nil_conv w4
      go_wp2_with fail
      go_ret
      exact ⟨rfl, (((hc0.trans1 hc2).trans1 hc3).trans1 hc4).toBelow⟩
    · rw [hm] at hm2; cases hm2
  · go_wp2_with fail
    (with_reducible refine (RWrite_any ao cap c L _ (Ht.out.chg ((hc0.trans1 hc2).trans1 hc3))).mono ?_)
    rintro e w4 ⟨hc4, hr4⟩
    rcases hr4 with ⟨hm2, _⟩ | ⟨_, v4, rfl, ho4⟩
    · rw [hm] at hm2; cases hm2
    · have hcv := bytes_conv (hb3.chg hc4)
      obtain ⟨ao4, cap4, rfl⟩ := ownsRow_shape ho4
      have hcv4 := run_back w4 (tl c L) ho4
      clear ho4 hb3
      go_wp2_with fail
      go_ret
      exact ⟨by simp, (((hc0.trans1 hc2).trans1 hc3).trans1 hc4).toBelow⟩

set_option maxRecDepth 100000 in
theorem lifted (os : Os) (started : os.Started) (H : Type) (enc : TypeId × Value → H) :
    ReturnsInHanded {} Try.checked os 3 .any (Rows.trailWritesSpec.pre6 enc Try.prog Try.f3 Rows.trailWritesRow.domain false) (Rows.trailWritesSpec.post enc Try.prog Try.f3 false true false false) := by
  refine returnsInHanded_of_change_sized (C := Try.checked) own started (by kernel_rfl) Try.func3
    (ChangeSpec.witness6 (enc := enc) (C := Try.checked) false ⟨#[], #[.agg #[.slice none 0 0, .int .i64 0]], []⟩ 8 (by kernel_rfl) (by kernel_rfl) (by kernel_rfl) (by kernel_rfl)) ?_
  intro W base args ds gs before hval0 hW hcnd hsz0 _
  have hval : ∀ (j : Nat) t v, Try.f3.params[j]? = some t → args[j]? = some v → Value.okWide Try.prog W .any base t v := hval0
  have hsz : (DataW.weightsEach Try.prog (Try.f3.params.toList ++ Rows.trailWritesSpec.plain.varTypes Try.prog) (ds ++ gs)).all (· ≤ reachBytes) = true := hsz0
  have hW' := hW
  obtain ⟨p, q, hA0, hV, rfl, hfz, hnd⟩ := hW
  have hA : DataW.TrodAll enc Try.prog W 0 (fun _ => true) true Try.f3.params.toList args.toList ds p := hA0
  rw [Try.params3] at hA hval hsz
  obtain ⟨v0, vs0, d0, ds0, p0, q0, hargs, rfl, rfl, h0, r0⟩ := trodAll_cons hA
  obtain ⟨rfl, rfl, rfl⟩ := trodAll_nil r0
  obtain rfl : args = #[v0] := by cases args; simp_all
  obtain ⟨rfl, rfl⟩ := trodVars_none hV
  have k0 := h0
  have lt0 : ∀ x ∈ p0, x.block < W.heap.size := by obtain ⟨m, hm⟩ := k0; exact DataW.trod_lt m _ _ _ hm
  obtain ⟨l0, hl0⟩ := isT_of (hval 0 24 v0 rfl rfl) h0 (sized_at hsz (j := 0) rfl rfl)
  clear hA0 hval0
  refine (walk v0 l0 W hl0).mono fun e W' ⟨he, bel⟩ => ?_
  subst he
  exact ⟨_, rfl, _, _, _, [], _, [], hW', trodAll_mk1 (shut_bool Try.underlying4 _), (trodAll_cons_mk (Below.trod laidOut (by kernel_rfl) (of_decide_eq_true (by kernel_rfl)) k0 bel lt0) trodAll_mk0), rfl, bel.frame _, fun h => by cases h⟩

theorem over : Rows.trailWritesRow.holds Try.pinned (OpenSpec.ofChange Rows.trailWritesSpec) :=
  OpenClaim.holds_of_wide 3 Try.f3 rfl rfl rfl rfl rfl rfl rfl ⟨rfl, rfl, rfl, rfl, rfl⟩ rfl rfl rfl rfl rfl (by kernel_rfl) Try.func3 (by kernel_rfl)
    (of_decide_eq_true (by kernel_rfl)) (by unfold Func.isWrapper; rw [if_neg (of_decide_eq_false (by kernel_rfl))]; exact ⟨rfl, rfl⟩)
    (fun os started H enc _ => lifted os started H enc)

theorem proved : Rows.TrailWritesSaid :=
  over

end Go.Proofs.Ytickdmalkmgkiaa.trailWrites
