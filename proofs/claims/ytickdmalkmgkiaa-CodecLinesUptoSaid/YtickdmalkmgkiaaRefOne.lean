/- The contracts of the reference Signed, May, Fixed, Has. Conditions: as each theorem states. -/
import Derived.Test.YtickdmalkmgkiaaNumb
import Derived.Test.YtickdmalkmgkiaaBufThree
import Derived.Test.YtickdmalkmgkiaaFixed
import Derived.Lib.IndexBytes
namespace Go.Proofs.Ytickdmalkmgkiaa
open Go.RowKit

theorem Number_all (n : Nat) (w : World) (h : n ≤ 18446744073709551615) : Calls Try.prog 60 #[.int .u64 n] w (RetsStr (numb n) w) :=
  Number_any 9 n w (by simp only [Nat.reduceAdd, Nat.reducePow]; omega) h

set_option maxRecDepth 100000 in
set_option maxHeartbeats 400000 in
theorem Signed_any (n : Int) (w : World) (h1 : -9223372036854775808 ≤ n) (h2 : n ≤ 9223372036854775807) : Calls Try.prog 61 #[.int .i64 n] w (RetsStr (numb (zig n)) w) := by
  have hz := (zig_eq n h1 h2).2
  have Hcall := fun w => Lib.hid (Number_all (zig n) w hz)
  clear hz
  by_cases h0 : 0 ≤ n
  · go_enter Try.func61, Try.ntmps61
    go_wp2_with fail
    rw [show (2 * n : Int) = (zig n : Int) by rw [zig, if_pos h0]; omega]
    with_reducible refine ((Hcall _).out).mono ?_
    rintro e w1 ⟨rfl, hc⟩
    go_wp2_with fail
    go_ret
    exact ⟨rfl, hc⟩
  · go_enter Try.func61, Try.ntmps61
    go_wp2_with fail
    rw [show (2 * -(n + 1) + 1 : Int) = (zig n : Int) by rw [zig, if_neg (by omega)]; omega]
    with_reducible refine ((Hcall _).out).mono ?_
    rintro e w1 ⟨rfl, hc⟩
    go_wp2_with fail
    go_ret
    exact ⟨rfl, hc⟩

set_option maxHeartbeats 400000 in
theorem May_any (k : Int) (w : World) : Calls Try.prog 58 #[.int .i64 k] w fun e w' => e = .returned (.bool (okSize k)) ∧ w = w' := by
  by_cases h : k = 1 ∨ k = 2 ∨ k = 4 ∨ k = 8
  · rcases h with rfl | rfl | rfl | rfl
    all_goals
      go_enter Try.func58, Try.ntmps58
      go_wp2
      go_ret
      exact ⟨rfl, rfl⟩
  · have e : okSize k = false := by
      cases h2 : okSize k
      · rfl
      · exact absurd ((okSize_iff k).1 h2) h
    rw [e]
    clear e
    have h1 : (k == 1) = false := by simp; omega
    have h2 : (k == 2) = false := by simp; omega
    have h4 : (k == 4) = false := by simp; omega
    have h8 : (k == 8) = false := by simp; omega
    clear h
    go_enter Try.func58, Try.ntmps58
    go_wp2
    go_ret
    exact ⟨rfl, rfl⟩

def RetsStrBool (l : List UInt8) (c : Bool) (w : World) (e : Ending) (w' : World) : Prop := e = .returned (.tuple #[.string ⟨l.toArray⟩, .bool c]) ∧ Chg Nob w w'
theorem Fixed_bad (n : Int) (k : Int) (w : World) (hk : okSize k = false) :
    Calls Try.prog 62 #[.int .u64 n, .int .i64 k] w (RetsStrBool [] false w) := by
  go_enter Try.func62, Try.ntmps62
  go_wp2_with fail
  with_reducible refine (May_any _ _).mono ?_
  rintro e w1 ⟨rfl, rfl⟩
  go_wp2_with fail
  go_ret2
  exact ⟨rfl, Chg.refl _ _⟩

def FixRel2 (B N K : Nat) (w : World) (x out i : Value) (wr : World) : Prop :=
  ∃ (m : Nat) (l : List UInt8) (j : Nat), x = .int .u64 m ∧ i = .int .i64 j ∧ l.length = j ∧ j ≤ K ∧ fixb N K = l ++ fixb m (K - j) ∧ m = N / 256 ^ j ∧ wr.ownsRow B 5 1 out l.length (l.map bv) ∧ Below B w wr

set_option maxRecDepth 100000 in
set_option maxHeartbeats 1600000 in
theorem Fixed_any (n k : Nat) (w : World) (hk : okSize k = true) (hn : n ≤ 18446744073709551615) :
    Calls Try.prog 62 #[.int .u64 n, .int .i64 k] w (RetsStrBool (fixb n k) (decide (n < 256 ^ k)) w) := by
  obtain ⟨i0, hi, hz0, hz1, hz2⟩ := info_parts Try.info5
  have hk8 : k ≤ 8 := by have := (okSize_iff _).1 hk; omega
  have Hn64 := Lib.hid hn; clear hn
  go_enter Try.func62, Try.ntmps62
  go_wp2_with fail
  with_reducible refine (May_any _ _).mono ?_
  rintro e w1 ⟨rfl, rfl⟩
  go_wp2_with fail
  go_loopw [0, 7, 8] (fun x out i wr => FixRel2 w.heap.size n k w x out i wr) (fun _ _ i _ => 8 - (intOf i).toNat)
  case atStart => exact ⟨n, [], 0, rfl, rfl, rfl, by omega, rfl, by simp, World.ownsRow_nil _ _ _ _, Below.refl _ _⟩
  case round =>
    obtain ⟨m, s, j, rfl, rfl, hj, hj2, hn, hm, hown, hb⟩ := hrel
    have Hn := Lib.hid hn; clear hn
    have Hj := Lib.hid hj; clear hj
    have hm64 : m ≤ 18446744073709551615 := by rw [hm]; exact Nat.le_trans (Nat.div_le_self _ _) Hn64.out
    have Hm := Lib.hid hm; clear hm
    have hsl : s.length ≤ 8 := by rw [Hj.out]; omega
    by_cases hlt : j < k
    · go_wp2_with (at_builtin; refine wpList_append_own _ rfl _ _ 26 rfl w.heap.size 5 i0 (.int .u8 0) 1 1 Try.underlying26 hi hz0 hz1 hz2 rfl (by decide) _ _ _ rfl (hown.alloc _) ⟨wr.heap.size, 0, none⟩ 1 1 [_] rfl rfl (news_one _ _ _) ?_ ?_ ?_ ?_ ?_)
      · intro u hu; simp at hu; subst hu; rfl
      · unfold maxLen; omega
      · omega
      · have := hb.size; simp; omega
      · intro v' w1 hown' hgrow _
        go_wp2
        go_roundw
        case rel =>
          refine ⟨m / 256, s ++ [UInt8.ofNat m], j + 1, by go_num, by go_num, by simp [Hj.out], by omega, ?_, ?_, ?_, ?_⟩
          · have e : k - j = (k - (j + 1)) + 1 := by omega
            rw [Hn.out, e, fixb]; simp
          · rw [Hm.out, Nat.pow_succ, Nat.div_div_eq_div_mul]
          · rw [List.map_append, List.map_cons, List.map_nil, bv_mod, List.length_append]; exact hown'
          · exact (hb.alloc hb.size _).grown hgrow (by have := hb.size; simp; omega) (fun k hk => (hown.lt k hk).1)
        case measure => simp [intOf]; omega
    · have hjk : j = k := by omega
      subst hjk
      have hs : s = fixb n j := by have := Hn.out; simp [fixb] at this; exact this.symm
      have Hs := Lib.hid hs; clear hs
      obtain ⟨ao, cu, hv⟩ := ownsRow_shape hown
      subst hv
      have kc := run_back wr s hown
      by_cases hm0 : m = 0
      · have hd : (n < 256 ^ j) := by have := Hm.out; rw [hm0] at this; exact (Nat.div_eq_zero_iff_lt (Nat.pow_pos (by omega))).1 this.symm
        have Hd := Lib.hid (decide_eq_true hd)
        clear hd
        subst hm0
        go_wp2_with fail
        go_ret2
        rw [← Hs.out, Hd.out]
        exact ⟨rfl, Chg.of_below hb⟩
      · have hd : ¬ (n < 256 ^ j) := fun e => hm0 (by rw [Hm.out]; exact Nat.div_eq_of_lt e)
        have Hd := Lib.hid (decide_eq_false hd)
        clear hd
        have hm1 : ((m : Int) == 0) = false := by simp; omega
        go_wp2_with fail
        go_ret2
        rw [← Hs.out, Hd.out]
        exact ⟨rfl, Chg.of_below hb⟩

def hasTen (l : List UInt8) : Bool := decide ((10 : UInt8) ∈ l)
theorem not_mem_take {s : ByteArray} {k : Nat} (h : ¬ (10 : UInt8) ∈ s.data.toList.take k) (hk : k < s.size) (hc : s[k] ≠ 10) : ¬ (10 : UInt8) ∈ s.data.toList.take (k + 1) := by
  rw [List.take_add_one, Lib.data_getElem? s k hk]
  simp only [Option.toList_some, List.mem_append, List.mem_singleton, not_or]
  exact ⟨h, fun e => hc e.symm⟩
set_option maxRecDepth 100000 in
set_option maxHeartbeats 400000 in
theorem Has_any (s : ByteArray) (w : World) (hs : s.size ≤ 9223372036854775807) : Calls Try.prog 63 #[.string s] w fun e w' => e = .returned (.bool (hasTen s.data.toList)) ∧ w = w' := by
  go_enter Try.func63, Try.ntmps63
  go_wp2_with fail
  go_loop [3] (fun i => ∃ k : Nat, k ≤ s.size ∧ i = .int .i64 k ∧ Hid (¬ (10 : UInt8) ∈ s.data.toList.take k)) (fun i => s.size - (intOf i).toNat)
  case atStart => exact ⟨0, Nat.zero_le _, rfl, by simp [Hid]⟩
  case round =>
    obtain ⟨k, hk, rfl, hno⟩ := hrel
    by_cases hlt : k < s.size
    · obtain ⟨x, hx⟩ : ∃ x, s[k]'hlt = x := ⟨_, rfl⟩
      have Hx := Lib.hid hx
      by_cases h10 : x = 10
      · have h1 : hasTen s.data.toList = true := by
          simp only [hasTen, decide_eq_true_eq]
          rw [← h10, ← hx]; exact List.getElem_mem (l := s.data.toList) (n := k) (by rw [Array.length_toList]; exact hlt)
        have H1 := Lib.hid h1; clear h1
        subst h10
        go_wp2_with fail
        go_ret
        exact ⟨by rw [H1.out]; rfl, rfl⟩
      · have hne : ((x.toNat : Int) == 10) = false := by
          have : x.toNat ≠ 10 := fun e => h10 (by rw [← UInt8.toNat_inj]; exact e)
          simp; omega
        have Hnext := Lib.hid (not_mem_take hno.out hlt (by rw [hx]; exact h10))
        go_wp2_with fail
        go_round
        case rel => exact ⟨k + 1, by omega, by go_num, Hnext⟩
        case measure => simp [intOf]; omega
    · have h1 : hasTen s.data.toList = false := by
        have := hno.out
        rw [List.take_of_length_le (by rw [Array.length_toList]; show s.size ≤ k; omega)] at this
        simp only [hasTen, decide_eq_false_iff_not]; exact this
      have H1 := Lib.hid h1; clear h1
      go_wp2_with fail
      go_ret
      exact ⟨by rw [H1.out]; rfl, rfl⟩
end Go.Proofs.Ytickdmalkmgkiaa
