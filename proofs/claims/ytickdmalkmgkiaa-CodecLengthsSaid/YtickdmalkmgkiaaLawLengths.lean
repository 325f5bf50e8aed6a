/- The law CodecLengths: whatever the number and the room, it returns true. No condition. -/
import Derived.Test.YtickdmalkmgkiaaKnown
import Derived.Lib.Strings
import Derived.ProofKit
import Derived.OpenShut
import Derived.ShutString
import Derived.SizedLaws
namespace Go.Proofs.Ytickdmalkmgkiaa.codecLengths
open Go.ChangeShapes Go.WideShapes Go.ChangeAt Go.RowKit
open Go.ChangeMaps (open_string shut_string)

theorem own : ownKnob Try.prog.godebug = none := by kernel_rfl
theorem laidOut : laidOutB Try.prog = true := by kernel_rfl

/-- The count that the law makes: a byte for each seven binary digits. -/
def LenRel (n : Nat) (c x : Value) : Prop := ∃ m k : Nat, x = .int .u64 m ∧ c = .int .i64 k ∧ m ≤ 18446744073709551615 ∧ k ≤ 1000 ∧ (numb n).length = k + (if m = 0 then 0 else (numb m).length)
def rm (a1 : Int) : Int := (if a1 < 0 then -(a1 + 1) else a1) % 11

set_option maxRecDepth 100000 in
set_option maxHeartbeats 4000000 in
theorem walk (a0 : Int) (w0 : (Lit.int .u64 a0).wf = true) (a1 : Int) (w1 : (Lit.int .i64 a1).wf = true) (w : World) :
    Calls Try.prog 7 #[.int .u64 a0, .int .i64 a1] w fun e w' => e = .returned (.bool true) ∧ Below w.heap.size w w' := by
  obtain ⟨n, hn, b0⟩ : ∃ n : Nat, a0 = n ∧ n ≤ 18446744073709551615 := by
    have := bounds_u64 w0; exact ⟨a0.toNat, by omega, by omega⟩
  subst hn
  have hb := bounds_i64 w1
  obtain ⟨r, hr, hr11⟩ : ∃ r : Nat, rm a1 = r ∧ r < 11 := by
    unfold rm; exact ⟨((if a1 < 0 then -(a1 + 1) else a1) % 11).toNat, by split <;> omega, by split <;> omega⟩
  have hpick : ∀ w, Calls Try.prog 22 #[.int .i64 a1, .int .i64 11] w fun e w' => e = .returned (.int .i64 r) ∧ w = w' := by
    intro w; rw [← hr]; exact pick_any a1 11 w hb.1 hb.2 (by decide) (by decide)
  have Hpick := Lib.hid hpick
  clear hpick hr hb w1 w0
  have H0 := Lib.hid b0
  have Hlen10 := Lib.hid (numb_len10 b0)
  have hpos := numb_pos n
  have hroom : roomOf (r : Int) = r := by unfold roomOf; rw [if_neg (by omega), if_neg (by omega)]; omega
  have Hroom := Lib.hid hroom
  have Hr20 : Hid (roomOf 20 = 20) := rfl
  clear hroom b0
  go_enter Try.func7, Try.ntmps7
  go_wp2_with fail
  (with_reducible refine (Hpick.out _).mono ?_)
  rintro e w1 ⟨rfl, rfl⟩
  go_wp2_with fail
  (with_reducible refine (new_any _ _).mono ?_)
  rintro e w1 ⟨rfl, hnb, hc1, hz1e⟩
  have hz1 : w.heap.size < w1.heap.size := by omega
  clear hz1e
  rw [Hroom.out] at hnb
  go_wp2_with fail
  (with_reducible refine (new_any _ _).mono ?_)
  rintro e w2 ⟨rfl, hnc, hc2, hz2e⟩
  have hz2 : w1.heap.size < w2.heap.size := by omega
  clear hz2e
  rw [Hr20.out] at hnc
  go_wp2_with fail
  (with_reducible refine (known_any _).mono ?_)
  rintro e w3 ⟨rfl, hc3⟩
  have hnb3 := (hnb.chg hc2 (fun e => e)).chg hc3 (fun e => e)
  have hnc3 := hnc.chg hc3 (fun e => e)
  have hc03 := (hc1.trans1 hc2).trans1 hc3
  have hn64 : n ≤ 18446744073709551615 := H0.out
  go_wp2_with fail
  go_loop [7, 8] (fun c x => LenRel n c x) (fun _ x => (intOf x).toNat)
  case atStart =>
    refine ⟨n / 128, 1, by go_num, rfl, by omega, by omega, ?_⟩
    by_cases h : n < 128
    · rw [numb_lt h, if_pos (by omega)]; rfl
    · rw [numb_ge h, if_neg (by omega), List.length_cons]; omega
  case round =>
    obtain ⟨m, k, rfl, rfl, hm, hk, hlen⟩ := hrel
    have Hlen := Lib.hid hlen
    clear hlen
    by_cases hm0 : m = 0
    · subst hm0
      have Hk : Hid ((numb n).length = k) := by have h := Hlen.out; rw [if_pos rfl] at h; exact h
      clear Hlen
      have hk10 : k ≤ 10 := by have h1 := Hk.out; have h2 := Hlen10.out; omega
      have Hzig : Hid (zig ((n : Int) / 4) = 2 * (n / 4)) := by show _ = _; rw [zig, if_pos (by omega)]; omega
      go_wp2_with fail
      (with_reducible refine (uint_any w3.heap.size w.heap.size [] r n w3 H0.out (Nat.le_refl _) (hnb3.buf _)).mono ?_)
      rintro e w4 hp
      rcases hp with ⟨hfit, rfl, hc4, hb4⟩ | ⟨hbad, rfl, hc4, hb4⟩
      · have hkr : k ≤ r := by have h1 := Hk.out; rw [h1] at hfit; simp at hfit; exact hfit
        have hnc4 := hnc3.chg hc4 (fun e => by have h1 := hnc.lt; have h2 := hc3.size; rcases e with e | e <;> omega)
        go_wp2_with fail
        (with_reducible refine (Hpick.out _).mono ?_)
        rintro e w4' ⟨rfl, rfl⟩
        go_wp2_with fail
        (with_reducible refine (len_any _ _ _ _ _ hb4).mono ?_)
        rintro e w4' ⟨rfl, rfl⟩
        rw [List.nil_append, Hk.out]
        go_wp2_with fail
        (with_reducible refine (int_any w4.heap.size w1.heap.size [] 20 ((n : Int) / 4) w4 (by omega) (by omega) (Nat.le_refl _) (hnc4.buf _)).mono ?_)
        rw [Hzig.out]
        rintro e w6 hp
        rcases hp with ⟨_, rfl, hc6, hb6⟩ | ⟨hbad, _⟩
        · go_wp2_with fail
          (with_reducible refine (new_any _ _).mono ?_)
          rintro e w7 ⟨rfl, hng, hc7, hz7e⟩
          have hz7 : w6.heap.size < w7.heap.size := by omega
          clear hz7e
          rw [Hr20.out] at hng
          go_wp2_with fail
          rw [show ((n : Int) / 4 * 2) = ((2 * (n / 4) : Nat) : Int) by omega]
          (with_reducible refine (uint_any w7.heap.size w6.heap.size [] 20 (2 * (n / 4)) w7 (by omega) (Nat.le_refl _) (hng.buf _)).mono ?_)
          rintro e w8 hp
          rcases hp with ⟨_, rfl, hc8, hb8⟩ | ⟨hbad, _⟩
          · have hc68 : Chg (fun k => w6.heap.size ≤ k) w6 w8 := hc7.any.trans hc8 (fun i hi e => by rcases e with e | e <;> omega)
            have hb8c := hb6.chg hc68 (fun e => by have h1 := hb6.lt; omega) (fun i h1 h2 e => by omega)
            have hbel : Below w.heap.size w w8 := by
              have q0 := hc03.size
              have q1 := hc4.size
              have q2 := hc6.size
              refine (chg_new (chg_new (chg_new hc03 hc4 (fun i hi => ?_)) hc6 (fun i hi => ?_)) hc68 (fun i hi => by omega)).toBelow
              · first | (rcases hi with h1 | h1 <;> omega) | exact hi.elim
              · rcases hi with h1 | h1 <;> omega
            clear hb6 hng
            go_wp2_with fail
            (with_reducible refine (string_any _ _ _ _ _ hb8c).mono ?_)
            rintro e w9 ⟨rfl, rfl⟩
            go_wp2_with fail
            (with_reducible refine (string_any _ _ _ _ _ hb8).mono ?_)
            rintro e w9 ⟨rfl, rfl⟩
            clear hb8 hb8c
            go_wp2_with fail
            go_ret
            exact ⟨rfl, hbel⟩
          · exact absurd hbad (by have := numb_len10 (n := 2 * (n / 4)) (by omega); simp; omega)
        · exact absurd hbad (by have := numb_len10 (n := 2 * (n / 4)) (by omega); simp; omega)
      · have hkr : ¬ k ≤ r := by have h1 := Hk.out; rw [h1] at hbad; simp at hbad; omega
        go_wp2_with fail
        (with_reducible refine (Hpick.out _).mono ?_)
        rintro e w4' ⟨rfl, rfl⟩
        go_wp2_with fail
        (with_reducible refine (len_any _ _ _ _ _ hb4).mono ?_)
        rintro e w4' ⟨rfl, rfl⟩
        go_wp2_with fail
        (with_reducible refine (left_any _ _ _ _ _ hb4).mono ?_)
        rintro e w5 ⟨rfl, q, hw5⟩
        have hc5 : Chg Nob w4 w5 := by rw [hw5]; exact (Chg.refl _ _).drewN q
        clear hw5
        have hb5 := hb4.nob hc5
        have hnc5 := (hnc3.chg hc4 (fun e => e)).chg hc5 (fun e => e)
        go_wp2_with fail
        (with_reducible refine (Hpick.out _).mono ?_)
        rintro e w4' ⟨rfl, rfl⟩
        go_wp2_with fail
        (with_reducible refine (left_any _ _ _ _ _ hb5).mono ?_)
        rintro e w6 ⟨rfl, q2, hw6⟩
        have hc6' : Chg Nob w5 w6 := by rw [hw6]; exact (Chg.refl _ _).drewN q2
        clear hw6
        have hb6' := hb5.nob hc6'
        have hnc6 := hnc5.chg hc6' (fun e => e)
        have hc36 := (hc4.trans1 hc5).trans1 hc6'
        clear hc4 hc5 hc6' hb4 hb5 hnc5
        by_cases hr0 : r = 0
        · subst hr0
          go_wp2_with fail
          (with_reducible refine (int_any w6.heap.size w1.heap.size [] 20 ((n : Int) / 4) w6 (by omega) (by omega) (Nat.le_refl _) (hnc6.buf _)).mono ?_)
          rw [Hzig.out]
          rintro e w60 hp
          rcases hp with ⟨_, rfl, hc6, hb6⟩ | ⟨hbad, _⟩
          · go_wp2_with fail
            (with_reducible refine (new_any _ _).mono ?_)
            rintro e w7 ⟨rfl, hng, hc7, hz7e⟩
            have hz7 : w60.heap.size < w7.heap.size := by omega
            clear hz7e
            rw [Hr20.out] at hng
            go_wp2_with fail
            rw [show ((n : Int) / 4 * 2) = ((2 * (n / 4) : Nat) : Int) by omega]
            (with_reducible refine (uint_any w7.heap.size w60.heap.size [] 20 (2 * (n / 4)) w7 (by omega) (Nat.le_refl _) (hng.buf _)).mono ?_)
            rintro e w8 hp
            rcases hp with ⟨_, rfl, hc8, hb8⟩ | ⟨hbad, _⟩
            · have hc68 : Chg (fun k => w60.heap.size ≤ k) w60 w8 := hc7.any.trans hc8 (fun i hi e => by rcases e with e | e <;> omega)
              have hb8c := hb6.chg hc68 (fun e => by have h1 := hb6.lt; omega) (fun i h1 h2 e => by omega)
              have hbel : Below w.heap.size w w8 := by
                have q0 := hc03.size
                have q1 := hc36.size
                have q2 := hc6.size
                refine (chg_new (chg_new (chg_new hc03 hc36 (fun i hi => ?_)) hc6 (fun i hi => ?_)) hc68 (fun i hi => by omega)).toBelow
                · first | (rcases hi with h1 | h1 <;> omega) | exact hi.elim
                · rcases hi with h1 | h1 <;> omega
              clear hb6 hng
              go_wp2_with fail
              (with_reducible refine (string_any _ _ _ _ _ hb8c).mono ?_)
              rintro e w9 ⟨rfl, rfl⟩
              go_wp2_with fail
              (with_reducible refine (string_any _ _ _ _ _ hb8).mono ?_)
              rintro e w9 ⟨rfl, rfl⟩
              clear hb8 hb8c
              go_wp2_with fail
              go_ret
              exact ⟨rfl, hbel⟩
            · exact absurd hbad (by have := numb_len10 (n := 2 * (n / 4)) (by omega); simp; omega)
          · exact absurd hbad (by have := numb_len10 (n := 2 * (n / 4)) (by omega); simp; omega)
        · have hpos1 : 0 < r := by omega
          have hn128 : (numb (n % 128)).length = 1 := by rw [numb_lt (by omega)]; rfl
          have Hn128 := Lib.hid hn128
          clear hn128
          go_wp2_with fail
          rw [show ((n : Int) % 128) = ((n % 128 : Nat) : Int) by omega]
          (with_reducible refine (uint_any w3.heap.size w.heap.size [] r (n % 128) w6 (by omega) hc36.size hb6').mono ?_)
          rintro e w61 hp
          rcases hp with ⟨_, rfl, hc61, hb61⟩ | ⟨hbad, _⟩
          · have hnc61 := hnc6.chg hc61 (fun e => by have h1 := hnc3.lt; rcases e with e | e <;> omega)
            have hc361 : Chg (BufS w3.heap.size w.heap.size) w3 w61 := hc36.any.trans1 hc61
            clear hc61 hb61 hb6'
            go_wp2_with fail
            (with_reducible refine (int_any w61.heap.size w1.heap.size [] 20 ((n : Int) / 4) w61 (by omega) (by omega) (Nat.le_refl _) (hnc61.buf _)).mono ?_)
            rw [Hzig.out]
            rintro e w60 hp
            rcases hp with ⟨_, rfl, hc6, hb6⟩ | ⟨hbad, _⟩
            · go_wp2_with fail
              (with_reducible refine (new_any _ _).mono ?_)
              rintro e w7 ⟨rfl, hng, hc7, hz7e⟩
              have hz7 : w60.heap.size < w7.heap.size := by omega
              clear hz7e
              rw [Hr20.out] at hng
              go_wp2_with fail
              rw [show ((n : Int) / 4 * 2) = ((2 * (n / 4) : Nat) : Int) by omega]
              (with_reducible refine (uint_any w7.heap.size w60.heap.size [] 20 (2 * (n / 4)) w7 (by omega) (Nat.le_refl _) (hng.buf _)).mono ?_)
              rintro e w8 hp
              rcases hp with ⟨_, rfl, hc8, hb8⟩ | ⟨hbad, _⟩
              · have hc68 : Chg (fun k => w60.heap.size ≤ k) w60 w8 := hc7.any.trans hc8 (fun i hi e => by rcases e with e | e <;> omega)
                have hb8c := hb6.chg hc68 (fun e => by have h1 := hb6.lt; omega) (fun i h1 h2 e => by omega)
                have hbel : Below w.heap.size w w8 := by
                  have q0 := hc03.size
                  have q1 := hc361.size
                  have q2 := hc6.size
                  refine (chg_new (chg_new (chg_new hc03 hc361 (fun i hi => ?_)) hc6 (fun i hi => ?_)) hc68 (fun i hi => by omega)).toBelow
                  · rcases hi with h1 | h1 <;> omega
                  · rcases hi with h1 | h1 <;> omega
                clear hb6 hng
                go_wp2_with fail
                (with_reducible refine (string_any _ _ _ _ _ hb8c).mono ?_)
                rintro e w9 ⟨rfl, rfl⟩
                go_wp2_with fail
                (with_reducible refine (string_any _ _ _ _ _ hb8).mono ?_)
                rintro e w9 ⟨rfl, rfl⟩
                clear hb8 hb8c
                go_wp2_with fail
                go_ret
                exact ⟨rfl, hbel⟩
              · exact absurd hbad (by have := numb_len10 (n := 2 * (n / 4)) (by omega); simp; omega)
            · exact absurd hbad (by have := numb_len10 (n := 2 * (n / 4)) (by omega); simp; omega)
          · exact absurd hbad (by rw [Hn128.out]; simp; omega)
    · go_wp2_with fail
      go_round
      case rel =>
        refine ⟨m / 128, k + 1, by go_num, by go_num, by omega, ?_, ?_⟩
        · have h1 := Hlen.out; have h2 := Hlen10.out; rw [if_neg hm0] at h1; have := numb_pos m; omega
        · rw [Hlen.out, if_neg hm0]
          by_cases h : m < 128
          · rw [numb_lt h, if_pos (by omega)]; rfl
          · rw [numb_ge h, if_neg (by omega), List.length_cons]; omega
      case measure => simp [intOf]; omega

set_option maxRecDepth 100000 in
theorem lifted (os : Os) (started : os.Started) (H : Type) (enc : TypeId × Value → H) :
    ReturnsInHanded {} Try.checked os 7 .any (Rows.codecLengthsSpec.pre6 enc Try.prog Try.f7 Rows.codecLengthsRow.domain false) (Rows.codecLengthsSpec.post enc Try.prog Try.f7 false true false false) := by
  refine returnsInHanded_of_change_sized (C := Try.checked) own started (by kernel_rfl) Try.func7
    (ChangeSpec.witness6 (enc := enc) (C := Try.checked) false ⟨#[], #[.int .u64 0, .int .i64 0], []⟩ 8 (by kernel_rfl) (by kernel_rfl) (by kernel_rfl) (by kernel_rfl)) ?_
  intro W base args ds gs before hval0 hW hcnd hsz0 _
  have hval : ∀ (j : Nat) t v, Try.f7.params[j]? = some t → args[j]? = some v → Value.okWide Try.prog W .any base t v := hval0
  have hsz : (DataW.weightsEach Try.prog (Try.f7.params.toList ++ Rows.codecLengthsSpec.plain.varTypes Try.prog) (ds ++ gs)).all (· ≤ reachBytes) = true := hsz0
  have hW' := hW
  obtain ⟨p, q, hA0, hV, rfl, hfz, hnd⟩ := hW
  have hA : DataW.TrodAll enc Try.prog W 0 (fun _ => true) true Try.f7.params.toList args.toList ds p := hA0
  rw [Try.params7] at hA hval hsz
  obtain ⟨v0, vs0, d0, ds0, p0, q0, hargs, rfl, rfl, h0, r0⟩ := trodAll_cons hA
  obtain ⟨v1, vs1, d1, ds1, p1, q1, rfl, rfl, rfl, h1, r1⟩ := trodAll_cons r0
  obtain ⟨rfl, rfl, rfl⟩ := trodAll_nil r1
  obtain rfl : args = #[v0, v1] := by cases args; simp_all
  obtain ⟨rfl, rfl⟩ := trodVars_none hV
  have k0 := h0
  have lt0 : ∀ x ∈ p0, x.block < W.heap.size := by obtain ⟨m, hm⟩ := k0; exact DataW.trod_lt m _ _ _ hm
  have k1 := h1
  have lt1 : ∀ x ∈ p1, x.block < W.heap.size := by obtain ⟨m, hm⟩ := k1; exact DataW.trod_lt m _ _ _ hm
  obtain ⟨a0, rfl, _, _, w0⟩ := open_int Try.underlying39 (hval 0 39 v0 rfl rfl) h0
  obtain ⟨a1, rfl, _, _, w1⟩ := open_int Try.underlying3 (hval 1 3 v1 rfl rfl) h1
  clear hA0 hval0
  refine (walk a0 w0 a1 w1 W).mono fun e W' ⟨he, bel⟩ => ?_
  subst he
  exact ⟨_, rfl, _, _, _, [], _, [], hW', trodAll_mk1 (shut_bool Try.underlying4 _), (trodAll_cons_mk (Below.trod laidOut (by kernel_rfl) (of_decide_eq_true (by kernel_rfl)) k0 bel lt0) (trodAll_cons_mk (Below.trod laidOut (by kernel_rfl) (of_decide_eq_true (by kernel_rfl)) k1 bel lt1) trodAll_mk0)), rfl, bel.frame _, fun h => by cases h⟩

theorem over : Rows.codecLengthsRow.holds Try.pinned (OpenSpec.ofChange Rows.codecLengthsSpec) :=
  OpenClaim.holds_of_wide 7 Try.f7 rfl rfl rfl rfl rfl rfl rfl ⟨rfl, rfl, rfl, rfl, rfl⟩ rfl rfl rfl rfl rfl (by kernel_rfl) Try.func7 (by kernel_rfl)
    (of_decide_eq_true (by kernel_rfl)) (by unfold Func.isWrapper; rw [if_neg (of_decide_eq_false (by kernel_rfl))]; exact ⟨rfl, rfl⟩)
    (fun os started H enc _ => lifted os started H enc)

theorem proved : Rows.CodecLengthsSaid :=
  over

end Go.Proofs.Ytickdmalkmgkiaa.codecLengths
