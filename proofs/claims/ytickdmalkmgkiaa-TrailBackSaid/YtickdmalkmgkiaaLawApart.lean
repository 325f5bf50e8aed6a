/- The law CodecApart: whatever the text and the numbers, it returns true. No condition. -/
import Derived.Test.YtickdmalkmgkiaaKnown
import Derived.Lib.Strings
import Derived.ProofKit
import Derived.OpenShut
import Derived.ShutString
import Derived.SizedLaws
namespace Go.Proofs.Ytickdmalkmgkiaa.codecApart
open Go.ChangeShapes Go.WideShapes Go.ChangeAt Go.RowKit
open Go.ChangeMaps (open_string shut_string)

theorem own : ownKnob Try.prog.godebug = none := by kernel_rfl
theorem laidOut : laidOutB Try.prog = true := by kernel_rfl

/-! ### the plain law -/
/-- What is read is put as the bytes that were read. -/
theorem numb_step (x : UInt8) (m : Nat) (h : ¬ x.toNat < 128) (hm : 0 < m) : numb (x.toNat % 128 + 128 * m) = x :: numb m := by
  have hx := x.toNat_lt
  rw [numb_ge (by omega)]
  have e1 : (x.toNat % 128 + 128 * m) / 128 = m := by omega
  have e2 : 128 + (x.toNat % 128 + 128 * m) % 128 = x.toNat := by omega
  rw [e1, e2, UInt8.ofNat_toNat]
theorem numb_last (x : UInt8) (h : x.toNat < 128) : numb x.toNat = [x] := by
  rw [numb_lt h, UInt8.ofNat_toNat]
/-- 'rd' from some bytes on: the rest is a number's bytes, not zero unless it stands first. -/
theorem rd_numb : ∀ (l : List UInt8) (size acc n k : Nat), rd size acc l = (n, k, 0) → ∃ m, n = acc + m * 128 ^ size ∧ size < k ∧ l.take (k - size) = numb m ∧ (0 < size → 0 < m)
  | [], size, acc, n, k, h => by rw [rd] at h; split at h <;> simp at h
  | x :: l, size, acc, n, k, h => by
    by_cases ha : size = 10
    · rw [rd, if_pos ha] at h; simp at h
    by_cases hb : size = 9 ∧ 1 < x.toNat
    · rw [rd, if_neg ha, if_pos hb] at h; simp at h
    by_cases hc : x.toNat < 128
    · by_cases hd : x.toNat = 0 ∧ 0 < size
      · rw [rd, if_neg ha, if_neg hb, if_pos hc, if_pos hd] at h; simp at h
      · rw [rd, if_neg ha, if_neg hb, if_pos hc, if_neg hd] at h
        simp only [Prod.mk.injEq, and_true] at h
        obtain ⟨rfl, rfl⟩ := h
        refine ⟨x.toNat, by rw [Nat.mod_eq_of_lt hc], by omega, ?_, by omega⟩
        rw [numb_last x hc, show size + 1 - size = 1 by omega]; rfl
    · rw [rd, if_neg ha, if_neg hb, if_neg hc] at h
      obtain ⟨m, h1, h2, h3, h4⟩ := rd_numb l _ _ n k h
      have hm := h4 (by omega)
      refine ⟨x.toNat % 128 + 128 * m, ?_, by omega, ?_, by omega⟩
      · rw [h1, Nat.pow_succ, Nat.add_mul]
        have : 128 * m * 128 ^ size = m * (128 ^ size * 128) := by rw [Nat.mul_comm 128 m, Nat.mul_assoc, Nat.mul_comm 128]
        omega
      · rw [numb_step x m hc hm, show k - size = (k - (size + 1)) + 1 by omega, List.take_succ_cons, h3]
theorem rd_put {l : List UInt8} {n k : Nat} (h : rd 0 0 l = (n, k, 0)) : l.take k = numb n := by
  obtain ⟨m, h1, _, h3, _⟩ := rd_numb l 0 0 n k h
  have : n = m := by simpa using h1
  rw [this]; exact h3

/-- No number's bytes are the beginning of another one's. -/
theorem numb_prefix (k : Nat) : ∀ n m, n < 128 ^ k → (numb m).take (numb n).length = numb n → n = m := by
  induction k with
  | zero => intro n m hn h; simp at hn; subst hn; rw [numb_lt (by decide)] at h; rw [numb] at h; split at h
            · rename_i hm; simp at h; have := congrArg UInt8.toNat h; simp at this; omega
            · simp at h; have := congrArg UInt8.toNat h; simp at this; omega
  | succ k ih =>
    intro n m hn h
    by_cases hn1 : n < 128
    · rw [numb_lt hn1] at h
      by_cases hm : m < 128
      · rw [numb_lt hm] at h
        simp at h; have := congrArg UInt8.toNat h; simp at this; omega
      · rw [numb_ge hm] at h
        simp at h; have := congrArg UInt8.toNat h; simp at this; omega
    · rw [numb_ge hn1] at h
      by_cases hm : m < 128
      · rw [numb_lt hm] at h
        simp at h; have := congrArg UInt8.toNat h.1; simp at this; omega
      · rw [numb_ge hm, List.length_cons, List.take_succ_cons] at h
        injection h with h1 h2
        have h3 := ih (n / 128) (m / 128) (by rw [Nat.pow_succ] at hn; omega) h2
        have h4 := congrArg UInt8.toNat h1
        simp at h4
        omega
theorem numb_apart {n m : Nat} (hn : n ≤ 18446744073709551615) (h : (numb m).take (numb n).length = numb n) : n = m :=
  numb_prefix 10 n m (by simp only [Nat.reducePow]; omega) h

theorem toList_mk (l : List UInt8) : (⟨l.toArray⟩ : ByteArray).toList = l := by
  rw [Lib.toList_data]
theorem piece (u v : List UInt8) (k : Nat) : (((⟨u.toArray⟩ : ByteArray).extract 0 k).toList == v) = decide (u.take k = v) := by
  have h := extract_eq ⟨u.toArray⟩ 0 0 k
  simp only [Nat.zero_add, List.drop_zero] at h
  rw [h, toList_mk]
  rw [Bool.eq_iff_iff]; simp
theorem apart_fin {n1 n2 : Nat} (h : n1 ≤ 18446744073709551615) : (((n1 : Int) == (n2 : Int)) == (((⟨(numb n2).toArray⟩ : ByteArray).extract 0 (numb n1).length).toList == numb n1)) = true := by
  rw [piece, beq_iff_eq]
  by_cases e : n1 = n2
  · subst e; simp
  · have h1 : ¬ (numb n2).take (numb n1).length = numb n1 := fun x => e (numb_apart h x)
    have h2 : ((n1 : Int) == (n2 : Int)) = false := by simp; omega
    rw [h2, decide_eq_false h1]
theorem apart_swap {n1 n2 : Nat} (h : n2 ≤ 18446744073709551615) : (((n1 : Int) == (n2 : Int)) == (((⟨(numb n1).toArray⟩ : ByteArray).extract 0 (numb n2).length).toList == numb n2)) = true := by
  have e : ((n1 : Int) == (n2 : Int)) = ((n2 : Int) == (n1 : Int)) := by rw [Bool.eq_iff_iff]; simp; omega
  rw [e]; exact apart_fin h
theorem ret_bool {b : Bool} (h : b = true) : Ending.returned (.bool b) = .returned (.bool true) := by rw [h]

/-! ### the walk -/
set_option maxRecDepth 100000 in
set_option maxHeartbeats 4000000 in
theorem walk (a0 : ByteArray) (w0 : a0.size ≤ maxLen) (a1 : Int) (w1 : (Lit.int .u64 a1).wf = true) (a2 : Int) (w2 : (Lit.int .u64 a2).wf = true) (w : World) :
    Calls Try.prog 6 #[.string a0, .int .u64 a1, .int .u64 a2] w fun e w' => e = .returned (.bool true) ∧ Below w.heap.size w w' := by
  obtain ⟨n1, hn1, b1⟩ : ∃ n : Nat, a1 = n ∧ n ≤ 18446744073709551615 := by
    have := bounds_u64 w1; exact ⟨a1.toNat, by omega, by omega⟩
  obtain ⟨n2, hn2, b2⟩ : ∃ n : Nat, a2 = n ∧ n ≤ 18446744073709551615 := by
    have := bounds_u64 w2; exact ⟨a2.toNat, by omega, by omega⟩
  subst hn1 hn2
  have H1 := Lib.hid b1
  have H2 := Lib.hid b2
  clear b1 b2 w1 w2
  have Hr20 : Hid (roomOf 20 = 20) := rfl
  have hl0 : a0.size ≤ 9223372036854775807 := by simpa [maxLen] using w0
  clear w0
  have Happ := Lib.hid (fun h => numb_apart (n := n1) (m := n2) H1.out h)
  have Happ2 := Lib.hid (fun h => numb_apart (n := n2) (m := n1) H2.out h)
  go_enter Try.func6, Try.ntmps6
  go_wp2_with fail
  (with_reducible refine (read_any _ _).mono ?_)
  rintro e w1 ⟨rfl, hw1⟩
  have hr1 : isRd w1 w.heap.size a0 0 := ⟨Nat.zero_le _, hl0, by rw [hw1]; exact heap_alloc_new w _⟩
  have hc1 : Chg Nob w w1 := by rw [hw1]; exact (Chg.refl _ _).alloc _
  clear hw1
  go_wp2_with fail
  (with_reducible refine (new_any _ _).mono ?_)
  rintro e w2 ⟨rfl, hnew, hc2, _⟩
  rw [Hr20.out] at hnew
  go_wp2_with fail
  (with_reducible refine (known_any _).mono ?_)
  rintro e w3 ⟨rfl, hc3⟩
  have hr3 := (hr1.chg hc2 (fun e => e)).chg hc3 (fun e => e)
  have hb3 := hnew.chg hc3 (fun e => e)
  have hc03 := (hc1.trans1 hc2).trans1 hc3
  go_wp2_with fail
  have hu := ruint_any _ _ _ _ hr3
  have hcs := rd_cases (List.drop 0 a0.data.toList)
  have hput := fun n k h => rd_put (l := List.drop 0 a0.data.toList) (n := n) (k := k) h
  rw [len_drop] at hcs
  generalize hrr : rd 0 0 (List.drop 0 a0.data.toList) = r at hu hcs hput
  have Hput := Lib.hid hput
  clear hput hrr
  rcases hcs with rfl | rfl | ⟨n, k, rfl, k1, k2, k3, k4⟩
  · (with_reducible refine hu.mono ?_)
    rintro e w5 ⟨rfl, hr5, hc5⟩
    have hc05 : Chg Nob w w5 := chg_new hc03 hc5 (fun i hi => by have h1 : i = w.heap.size := hi; omega)
    clear hu hr5 hc5
    go_wp2_with fail
    (with_reducible refine (new_any _ _).mono ?_)
    rintro e w6 ⟨rfl, hnc, hc6, hz6e⟩
    have hz6 : w5.heap.size < w6.heap.size := by omega
    clear hz6e
    rw [Hr20.out] at hnc
    go_wp2_with fail
    (with_reducible refine (new_any _ _).mono ?_)
    rintro e w7 ⟨rfl, hnd, hc7, hz7e⟩
    have hz7 : w6.heap.size < w7.heap.size := by omega
    clear hz7e
    rw [Hr20.out] at hnd
    have hnc7 := hnc.chg hc7 (fun e => e)
    go_wp2_with fail
    (with_reducible refine (uint_any w7.heap.size w5.heap.size [] 20 n1 w7 H1.out (Nat.le_refl _) (hnc7.buf _)).mono ?_)
    rintro e w8 hp
    rcases hp with ⟨_, rfl, hc8, hb8⟩ | ⟨hbad, _⟩
    · have hnd8 := hnd.chg hc8 (fun e => by rcases e with e | e <;> omega)
      go_wp2_with fail
      (with_reducible refine (uint_any w8.heap.size w6.heap.size [] 20 n2 w8 H2.out (Nat.le_refl _) (hnd8.buf _)).mono ?_)
      rintro e w9 hp
      rcases hp with ⟨_, rfl, hc9, hb9⟩ | ⟨hbad, _⟩
      · have hb9c := hb8.chg hc9 (fun e => by have := hc8.size; rcases e with e | e <;> omega) (fun i h1 h2 e => by rcases e with e | e <;> omega)
        have hc09 : Below w.heap.size w w9 := by
          have q5 := hc05.size
          have q8 := hc8.size
          refine (chg_new (chg_new ((hc05.trans1 hc6).trans1 hc7) hc8 (fun i hi => ?_)) hc9 (fun i hi => ?_)).toBelow
          · rcases hi with h1 | h1 <;> omega
          · rcases hi with h1 | h1 <;> omega
        go_wp2_with fail
        (with_reducible refine (string_any _ _ _ _ _ hb9c).mono ?_)
        rintro e w9' ⟨rfl, rfl⟩
        go_wp2_with fail
        (with_reducible refine (string_any _ _ _ _ _ hb9).mono ?_)
        rintro e w9' ⟨rfl, rfl⟩
        clear hb9c hb9 hnd8 hb8 hnc7 hnd hnc
        simp only [List.nil_append]
        go_wp2_with fail
        · go_ret
          exact ⟨ret_bool (apart_swap H2.out), hc09⟩
        · go_ret
          exact ⟨ret_bool (apart_fin H1.out), hc09⟩
      · exact absurd hbad (by have := numb_len10 H2.out; simp; omega)
    · exact absurd hbad (by have := numb_len10 H1.out; simp; omega)
  · (with_reducible refine hu.mono ?_)
    rintro e w5 ⟨rfl, hr5, hc5⟩
    have hc05 : Chg Nob w w5 := chg_new hc03 hc5 (fun i hi => by have h1 : i = w.heap.size := hi; omega)
    clear hu hr5 hc5
    go_wp2_with fail
    (with_reducible refine (new_any _ _).mono ?_)
    rintro e w6 ⟨rfl, hnc, hc6, hz6e⟩
    have hz6 : w5.heap.size < w6.heap.size := by omega
    clear hz6e
    rw [Hr20.out] at hnc
    go_wp2_with fail
    (with_reducible refine (new_any _ _).mono ?_)
    rintro e w7 ⟨rfl, hnd, hc7, hz7e⟩
    have hz7 : w6.heap.size < w7.heap.size := by omega
    clear hz7e
    rw [Hr20.out] at hnd
    have hnc7 := hnc.chg hc7 (fun e => e)
    go_wp2_with fail
    (with_reducible refine (uint_any w7.heap.size w5.heap.size [] 20 n1 w7 H1.out (Nat.le_refl _) (hnc7.buf _)).mono ?_)
    rintro e w8 hp
    rcases hp with ⟨_, rfl, hc8, hb8⟩ | ⟨hbad, _⟩
    · have hnd8 := hnd.chg hc8 (fun e => by rcases e with e | e <;> omega)
      go_wp2_with fail
      (with_reducible refine (uint_any w8.heap.size w6.heap.size [] 20 n2 w8 H2.out (Nat.le_refl _) (hnd8.buf _)).mono ?_)
      rintro e w9 hp
      rcases hp with ⟨_, rfl, hc9, hb9⟩ | ⟨hbad, _⟩
      · have hb9c := hb8.chg hc9 (fun e => by have := hc8.size; rcases e with e | e <;> omega) (fun i h1 h2 e => by rcases e with e | e <;> omega)
        have hc09 : Below w.heap.size w w9 := by
          have q5 := hc05.size
          have q8 := hc8.size
          refine (chg_new (chg_new ((hc05.trans1 hc6).trans1 hc7) hc8 (fun i hi => ?_)) hc9 (fun i hi => ?_)).toBelow
          · rcases hi with h1 | h1 <;> omega
          · rcases hi with h1 | h1 <;> omega
        go_wp2_with fail
        (with_reducible refine (string_any _ _ _ _ _ hb9c).mono ?_)
        rintro e w9' ⟨rfl, rfl⟩
        go_wp2_with fail
        (with_reducible refine (string_any _ _ _ _ _ hb9).mono ?_)
        rintro e w9' ⟨rfl, rfl⟩
        clear hb9c hb9 hnd8 hb8 hnc7 hnd hnc
        simp only [List.nil_append]
        go_wp2_with fail
        · go_ret
          exact ⟨ret_bool (apart_swap H2.out), hc09⟩
        · go_ret
          exact ⟨ret_bool (apart_fin H1.out), hc09⟩
      · exact absurd hbad (by have := numb_len10 H2.out; simp; omega)
    · exact absurd hbad (by have := numb_len10 H1.out; simp; omega)
  · have Hk4 := Lib.hid k4
    clear k4
    (with_reducible refine hu.mono ?_)
    rintro e w4 ⟨rfl, hr4, hc4⟩
    clear hu
    have hbnew := hb3.chg hc4 (fun e => by have h1 : w1.heap.size = w.heap.size := e; have := hr1.lt; omega)
    go_wp2_with fail
    (with_reducible refine (uint_any w4.heap.size w1.heap.size [] 20 n w4 Hk4.out (Nat.le_refl _) (hbnew.buf _)).mono ?_)
    rintro e w5 hp
    rcases hp with ⟨_, rfl, hc5, hb5⟩ | ⟨hbad, _⟩
    · have hr5 := hr4.chg hc5 (fun e => by rcases e with e | e; (have := hr1.lt; omega); (have := hr4.lt; omega))
      go_wp2_with fail
      (with_reducible refine (string_any _ _ _ _ _ hb5).mono ?_)
      rintro e w5' ⟨rfl, rfl⟩
      go_wp2_with fail
      (with_reducible refine (at_any _ _ _ _ hr5).mono ?_)
      rintro e w5' ⟨rfl, rfl⟩
      have hstr : a0.extract 0 k = ⟨(numb n).toArray⟩ := by
        have h1 := extract_eq a0 0 0 k
        have h2 := Hput.out n k rfl
        rw [← h2]
        simpa using h1
      have hk0 : k ≤ a0.size := by omega
      have hc05 : Chg Nob w w5 := by
        refine chg_new (chg_new hc03 hc4 (fun i hi => by have h1 : i = w.heap.size := hi; omega)) hc5 (fun i hi => ?_)
        rcases hi with h1 | h1
        · have := hc1.size; omega
        · have := hc4.size; have := hc03.size; omega
      go_wp2_with fail
      clear hstr
      (with_reducible refine (new_any _ _).mono ?_)
      rintro e w6 ⟨rfl, hnc, hc6, hz6e⟩
      have hz6 : w5.heap.size < w6.heap.size := by omega
      clear hz6e
      rw [Hr20.out] at hnc
      go_wp2_with fail
      (with_reducible refine (new_any _ _).mono ?_)
      rintro e w7 ⟨rfl, hnd, hc7, hz7e⟩
      have hz7 : w6.heap.size < w7.heap.size := by omega
      clear hz7e
      rw [Hr20.out] at hnd
      have hnc7 := hnc.chg hc7 (fun e => e)
      go_wp2_with fail
      (with_reducible refine (uint_any w7.heap.size w5.heap.size [] 20 n1 w7 H1.out (Nat.le_refl _) (hnc7.buf _)).mono ?_)
      rintro e w8 hp
      rcases hp with ⟨_, rfl, hc8, hb8⟩ | ⟨hbad, _⟩
      · have hnd8 := hnd.chg hc8 (fun e => by rcases e with e | e <;> omega)
        go_wp2_with fail
        (with_reducible refine (uint_any w8.heap.size w6.heap.size [] 20 n2 w8 H2.out (Nat.le_refl _) (hnd8.buf _)).mono ?_)
        rintro e w9 hp
        rcases hp with ⟨_, rfl, hc9, hb9⟩ | ⟨hbad, _⟩
        · have hb9c := hb8.chg hc9 (fun e => by have := hc8.size; rcases e with e | e <;> omega) (fun i h1 h2 e => by rcases e with e | e <;> omega)
          have hc09 : Below w.heap.size w w9 := by
            have q5 := hc05.size
            have q8 := hc8.size
            refine (chg_new (chg_new ((hc05.trans1 hc6).trans1 hc7) hc8 (fun i hi => ?_)) hc9 (fun i hi => ?_)).toBelow
            · rcases hi with h1 | h1 <;> omega
            · rcases hi with h1 | h1 <;> omega
          go_wp2_with fail
          (with_reducible refine (string_any _ _ _ _ _ hb9c).mono ?_)
          rintro e w9' ⟨rfl, rfl⟩
          go_wp2_with fail
          (with_reducible refine (string_any _ _ _ _ _ hb9).mono ?_)
          rintro e w9' ⟨rfl, rfl⟩
          clear hb9c hb9 hnd8 hb8 hnc7 hnd hnc
          simp only [List.nil_append]
          go_wp2_with fail
          · go_ret
            exact ⟨ret_bool (apart_swap H2.out), hc09⟩
          · go_ret
            exact ⟨ret_bool (apart_fin H1.out), hc09⟩
        · exact absurd hbad (by have := numb_len10 H2.out; simp; omega)
      · exact absurd hbad (by have := numb_len10 H1.out; simp; omega)
    · exact absurd hbad (by have := numb_len10 Hk4.out; simp; omega)

set_option maxRecDepth 100000 in
theorem lifted (os : Os) (started : os.Started) (H : Type) (enc : TypeId × Value → H) :
    ReturnsInHanded {} Try.checked os 6 .any (Rows.codecApartSpec.pre6 enc Try.prog Try.f6 Rows.codecApartRow.domain false) (Rows.codecApartSpec.post enc Try.prog Try.f6 false true false false) := by
  refine returnsInHanded_of_change_sized (C := Try.checked) own started (by kernel_rfl) Try.func6
    (ChangeSpec.witness6 (enc := enc) (C := Try.checked) false ⟨#[], #[.string ByteArray.empty, .int .u64 0, .int .u64 0], []⟩ 8 (by kernel_rfl) (by kernel_rfl) (by kernel_rfl) (by kernel_rfl)) ?_
  intro W base args ds gs before hval0 hW hcnd hsz0 _
  have hval : ∀ (j : Nat) t v, Try.f6.params[j]? = some t → args[j]? = some v → Value.okWide Try.prog W .any base t v := hval0
  have hsz : (DataW.weightsEach Try.prog (Try.f6.params.toList ++ Rows.codecApartSpec.plain.varTypes Try.prog) (ds ++ gs)).all (· ≤ reachBytes) = true := hsz0
  have hW' := hW
  obtain ⟨p, q, hA0, hV, rfl, hfz, hnd⟩ := hW
  have hA : DataW.TrodAll enc Try.prog W 0 (fun _ => true) true Try.f6.params.toList args.toList ds p := hA0
  rw [Try.params6] at hA hval hsz
  obtain ⟨v0, vs0, d0, ds0, p0, q0, hargs, rfl, rfl, h0, r0⟩ := trodAll_cons hA
  obtain ⟨v1, vs1, d1, ds1, p1, q1, rfl, rfl, rfl, h1, r1⟩ := trodAll_cons r0
  obtain ⟨v2, vs2, d2, ds2, p2, q2, rfl, rfl, rfl, h2, r2⟩ := trodAll_cons r1
  obtain ⟨rfl, rfl, rfl⟩ := trodAll_nil r2
  obtain rfl : args = #[v0, v1, v2] := by cases args; simp_all
  obtain ⟨rfl, rfl⟩ := trodVars_none hV
  have k0 := h0
  have lt0 : ∀ x ∈ p0, x.block < W.heap.size := by obtain ⟨m, hm⟩ := k0; exact DataW.trod_lt m _ _ _ hm
  have k1 := h1
  have lt1 : ∀ x ∈ p1, x.block < W.heap.size := by obtain ⟨m, hm⟩ := k1; exact DataW.trod_lt m _ _ _ hm
  have k2 := h2
  have lt2 : ∀ x ∈ p2, x.block < W.heap.size := by obtain ⟨m, hm⟩ := k2; exact DataW.trod_lt m _ _ _ hm
  obtain ⟨a0, rfl, rfl, _, w0⟩ := open_string Try.underlying9 (hval 0 9 v0 rfl rfl) h0
  obtain ⟨a1, rfl, _, _, w1⟩ := open_int Try.underlying39 (hval 1 39 v1 rfl rfl) h1
  obtain ⟨a2, rfl, _, _, w2⟩ := open_int Try.underlying39 (hval 2 39 v2 rfl rfl) h2
  clear hA0 hval0
  refine (walk a0 w0 a1 w1 a2 w2 W).mono fun e W' ⟨he, bel⟩ => ?_
  subst he
  exact ⟨_, rfl, _, _, _, [], _, [], hW', trodAll_mk1 (shut_bool Try.underlying4 _), (trodAll_cons_mk (Below.trod laidOut (by kernel_rfl) (of_decide_eq_true (by kernel_rfl)) k0 bel lt0) (trodAll_cons_mk (Below.trod laidOut (by kernel_rfl) (of_decide_eq_true (by kernel_rfl)) k1 bel lt1) (trodAll_cons_mk (Below.trod laidOut (by kernel_rfl) (of_decide_eq_true (by kernel_rfl)) k2 bel lt2) trodAll_mk0))), rfl, bel.frame _, fun h => by cases h⟩

theorem over : Rows.codecApartRow.holds Try.pinned (OpenSpec.ofChange Rows.codecApartSpec) :=
  OpenClaim.holds_of_wide 6 Try.f6 rfl rfl rfl rfl rfl rfl rfl ⟨rfl, rfl, rfl, rfl, rfl⟩ rfl rfl rfl rfl rfl (by kernel_rfl) Try.func6 (by kernel_rfl)
    (of_decide_eq_true (by kernel_rfl)) (by unfold Func.isWrapper; rw [if_neg (of_decide_eq_false (by kernel_rfl))]; exact ⟨rfl, rfl⟩)
    (fun os started H enc _ => lifted os started H enc)

theorem proved : Rows.CodecApartSaid :=
  over

end Go.Proofs.Ytickdmalkmgkiaa.codecApart
