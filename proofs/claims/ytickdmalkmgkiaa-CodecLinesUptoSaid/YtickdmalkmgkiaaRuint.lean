/- The contracts of codec Reader: Uint, Int, At, Left, Read; all methods at nil. Conditions: as each theorem states. -/
import Derived.Test.YtickdmalkmgkiaaRnum
import Derived.Test.YtickdmalkmgkiaaBufTwo
namespace Go.Proofs.Ytickdmalkmgkiaa
open Go.RowKit

theorem rd_bound : ∀ (l : List UInt8) (size acc : Nat), size ≤ 10 → acc < 128 ^ size → (size = 10 → acc ≤ 18446744073709551615) →
    (rd size acc l = (0, 0, 10) ∨ rd size acc l = (0, 0, 11) ∨ ∃ n k, rd size acc l = (n, k, 0) ∧ size < k ∧ k ≤ 10 ∧ k ≤ size + l.length ∧ n ≤ 18446744073709551615)
  | [], size, acc, _, _, _ => by
    rw [rd]; split
    · exact .inr (.inl rfl)
    · exact .inl rfl
  | x :: l, size, acc, h1, h2, h3 => by
    by_cases ha : size = 10
    · rw [rd, if_pos ha]; exact .inr (.inl rfl)
    by_cases hb : size = 9 ∧ 1 < x.toNat
    · rw [rd, if_neg ha, if_pos hb]; exact .inr (.inl rfl)
    have hpow : acc + x.toNat % 128 * 128 ^ size ≤ 18446744073709551615 := by
      have hx := x.toNat_lt
      rcases (by omega : size = 0 ∨ size = 1 ∨ size = 2 ∨ size = 3 ∨ size = 4 ∨ size = 5 ∨ size = 6 ∨ size = 7 ∨ size = 8 ∨ size = 9) with rfl | rfl | rfl | rfl | rfl | rfl | rfl | rfl | rfl | rfl <;> simp only [Nat.reducePow] at h2 ⊢ <;> omega
    by_cases hc : x.toNat < 128
    · by_cases hd : x.toNat = 0 ∧ 0 < size
      · rw [rd, if_neg ha, if_neg hb, if_pos hc, if_pos hd]; exact .inr (.inl rfl)
      · rw [rd, if_neg ha, if_neg hb, if_pos hc, if_neg hd]
        exact .inr (.inr ⟨_, _, rfl, by omega, by omega, by simp, hpow⟩)
    · rw [rd, if_neg ha, if_neg hb, if_neg hc]
      rcases rd_bound l (size + 1) (acc + x.toNat % 128 * 128 ^ size) (by omega) (acc_lt h2 (Nat.mod_lt _ (by omega))) (fun _ => hpow) with h | h | ⟨n, k, h, q1, q2, q3, q4⟩
      · exact .inl h
      · exact .inr (.inl h)
      · exact .inr (.inr ⟨n, k, h, by omega, q2, by simp; omega, q4⟩)
theorem rd_cases (l : List UInt8) : rd 0 0 l = (0, 0, 10) ∨ rd 0 0 l = (0, 0, 11) ∨ ∃ n k, rd 0 0 l = (n, k, 0) ∧ 0 < k ∧ k ≤ 10 ∧ k ≤ l.length ∧ n ≤ 18446744073709551615 := by
  have := rd_bound l 0 0 (by omega) (by simp) (by omega)
  simpa using this

theorem isRd.chg {S : Nat → Prop} {w w' : World} {b : Nat} {s : ByteArray} {p : Nat} (h : isRd w b s p) (hc : Chg S w w') (hb : ¬ S b) : isRd w' b s p := ⟨h.1, h.2.1, hc.at h.2.2 hb⟩
theorem isRd.lt {w : World} {b : Nat} {s : ByteArray} {p : Nat} (h : isRd w b s p) : b < w.heap.size := (Array.getElem?_eq_some_iff.1 h.2.2).1
def At1 (b : Nat) : Nat → Prop := fun k => k = b
theorem isRd.move {w : World} {b : Nat} {s : ByteArray} {p : Nat} (h : isRd w b s p) (p' : Nat) (hp : p' ≤ s.size) : isRd (w.setCell ⟨b, 1, none⟩ (.int .i64 p')) b s p' := ⟨hp, h.2.1, block_two_set1 h.2.2⟩
theorem set1_chg (w : World) (b : Nat) (v : Value) : Chg (At1 b) w (w.setCell ⟨b, 1, none⟩ v) := (Chg.refl (At1 b) w).setCell (p := ⟨b, 1, none⟩) (fun _ => rfl) v
theorem len_drop (s : ByteArray) (p : Nat) : (s.data.toList.drop p).length = s.size - p := by rw [List.length_drop, Array.length_toList]; rfl

theorem read_any (s : ByteArray) (w : World) : Calls Try.prog 23 #[.string s] w fun e w' => e = .returned (.pointer (some ⟨w.heap.size, 0, none⟩)) ∧ w' = w.alloc (.cells #[.string s, .int .i64 0] 88) := by
  go_enter Try.func23, Try.ntmps23
  go_wp2
  go_ret
  exact ⟨rfl, rfl⟩

/-- A number was read: its value, its error, and where the reader stands. -/
def RdPost (b : Nat) (s : ByteArray) (p : Nat) (v : Value) (err : Nat) (w : World) (e : Ending) (w' : World) : Prop :=
  e = .returned (.tuple #[v, .int .i64 err]) ∧ isRd w' b s p ∧ Chg (At1 b) w w'

set_option maxRecDepth 100000 in
set_option maxHeartbeats 400000 in
theorem ruint_any (b : Nat) (s : ByteArray) (p : Nat) (w : World) (hr : isRd w b s p) :
    Calls Try.prog 25 #[.pointer (some ⟨b, 0, none⟩)] w (RdPost b s (p + (rd 0 0 (s.data.toList.drop p)).2.1) (.int .u64 (rd 0 0 (s.data.toList.drop p)).1) (rd 0 0 (s.data.toList.drop p)).2.2 w) := by
  have Hr := Lib.hid hr
  obtain ⟨hp, hsz, hb⟩ := hr
  obtain ⟨c0, c1, f0, f1⟩ := cell_two hb
  clear hb
  have hcall := rnumber_any b s p w Hr.out
  have hcs := rd_cases (s.data.toList.drop p)
  rw [len_drop] at hcs
  generalize rd 0 0 (s.data.toList.drop p) = r at hcall hcs ⊢
  have Hcall := Lib.hid hcall
  clear hcall
  rcases hcs with rfl | rfl | ⟨n, k, rfl, k1, k2, k3, k4⟩
  · go_enter Try.func25, Try.ntmps25
    go_wp2_with fail
    with_reducible refine (Hcall.out).mono ?_
    rintro e w1 ⟨rfl, q, rfl⟩
    go_wp2_with fail
    go_ret2
    exact ⟨rfl, Hr.out.chg ((Chg.refl Nob w).drewN q) (fun e => e), ((Chg.refl _ w).drewN q)⟩
  · go_enter Try.func25, Try.ntmps25
    go_wp2_with fail
    with_reducible refine (Hcall.out).mono ?_
    rintro e w1 ⟨rfl, q, rfl⟩
    go_wp2_with fail
    go_ret2
    exact ⟨rfl, Hr.out.chg ((Chg.refl Nob w).drewN q) (fun e => e), ((Chg.refl _ w).drewN q)⟩
  · have Hk4 := Lib.hid k4; clear k4
    go_enter Try.func25, Try.ntmps25
    go_wp2_with fail
    with_reducible refine (Hcall.out).mono ?_
    rintro e w1 ⟨rfl, q, rfl⟩
    go_wp2_with fail
    go_ret2
    have h1 := (Hr.out.chg ((Chg.refl Nob w).drewN q) (fun e => e)).move (p + k) (by omega)
    exact ⟨rfl, h1, ((Chg.refl (At1 b) w).drewN q).trans1 (set1_chg _ b _)⟩

def unzig (n : Nat) : Int := if n % 2 = 0 then (n / 2 : Nat) else -((n / 2 : Nat) : Int) - 1
theorem i64_xor_zero (a : Nat) (h : a < 9223372036854775808) : bits BinOp.xor IntKind.i64 (a : Int) 0 = (a : Int) := by
  show IntKind.i64.wrap ((BitVec.ofInt 64 (a : Int) ^^^ BitVec.ofInt 64 (0 : Int)).toNat : Int) = _
  have h1 : (BitVec.ofInt 64 (a : Int)).toNat = a := by rw [BitVec.toNat_ofInt]; omega
  have h0 : BitVec.ofInt 64 (0 : Int) = 0#64 := by decide
  rw [h0, BitVec.xor_zero, h1]
  apply IntWalk.i64_in; omega
theorem i64_xor_ones (a : Nat) (h : a < 9223372036854775808) : bits BinOp.xor IntKind.i64 (a : Int) (-1) = -(a : Int) - 1 := by
  show IntKind.i64.wrap ((BitVec.ofInt 64 (a : Int) ^^^ BitVec.ofInt 64 (-1 : Int)).toNat : Int) = _
  have h1 : (BitVec.ofInt 64 (a : Int)).toNat = a := by rw [BitVec.toNat_ofInt]; omega
  have h0 : BitVec.ofInt 64 (-1 : Int) = BitVec.allOnes 64 := by decide
  rw [h0, BitVec.xor_allOnes, BitVec.toNat_not, h1]
  have e : ((2 ^ 64 - 1 - a : Nat) : Int) = -(a : Int) - 1 + 18446744073709551616 := by omega
  rw [e, IntKind.wrap_i64]
  omega
theorem unzig_eq (n : Nat) (h : n ≤ 18446744073709551615) : bits BinOp.xor IntKind.i64 (wrap64 ((n : Int) / 2)) (wrap64 (-wrap64 (bits BinOp.and IntKind.u64 (n : Int) 1))) = unzig n := by
  have e1 : wrap64 ((n : Int) / 2) = ((n / 2 : Nat) : Int) := by unfold wrap64; omega
  have e2 : bits BinOp.and IntKind.u64 (n : Int) 1 = ((n % 2 : Nat) : Int) := by
    have h1 := u64_and_nat n 1 (by omega) (by omega)
    rw [Nat.and_one_is_mod] at h1
    exact h1
  rw [e1, e2, unzig]
  rcases Nat.mod_two_eq_zero_or_one n with hm | hm
  · rw [hm, if_pos rfl]
    have : wrap64 (-wrap64 ((0 : Nat) : Int)) = 0 := by unfold wrap64; omega
    rw [this, i64_xor_zero _ (by omega)]
  · rw [hm, if_neg (by decide)]
    have : wrap64 (-wrap64 ((1 : Nat) : Int)) = -1 := by unfold wrap64; omega
    rw [this, i64_xor_ones _ (by omega)]

set_option maxRecDepth 100000 in
set_option maxHeartbeats 400000 in
theorem rint_any (b : Nat) (s : ByteArray) (p : Nat) (w : World) (hr : isRd w b s p) :
    Calls Try.prog 34 #[.pointer (some ⟨b, 0, none⟩)] w (RdPost b s (p + (rd 0 0 (s.data.toList.drop p)).2.1) (.int .i64 (unzig (rd 0 0 (s.data.toList.drop p)).1)) (rd 0 0 (s.data.toList.drop p)).2.2 w) := by
  have hcs := rd_cases (s.data.toList.drop p)
  have hn : (rd 0 0 (s.data.toList.drop p)).1 ≤ 18446744073709551615 := by
    rcases hcs with h | h | ⟨n, k, h, _, _, _, h4⟩ <;> rw [h] <;> simp
    exact h4
  have hcall := ruint_any b s p w hr
  generalize rd 0 0 (s.data.toList.drop p) = r at hcall hn ⊢
  obtain ⟨n, k, err⟩ := r
  have Hcall := Lib.hid hcall
  have Hn := Lib.hid hn
  clear hcall hn hcs hr
  go_enter Try.func34, Try.ntmps34
  go_wp2_with fail
  with_reducible refine (Hcall.out).mono ?_
  rintro e w1 ⟨rfl, h1, h2⟩
  go_wp2_with fail
  go_ret2
  rw [RdPost, ← unzig_eq n Hn.out]
  exact ⟨rfl, h1, h2⟩

theorem at_any (b : Nat) (s : ByteArray) (p : Nat) (w : World) (hr : isRd w b s p) : Calls Try.prog 28 #[.pointer (some ⟨b, 0, none⟩)] w fun e w' => e = .returned (.int .i64 p) ∧ w = w' := by
  obtain ⟨hp, hsz, hb⟩ := hr
  obtain ⟨c0, c1, f0, f1⟩ := cell_two hb
  clear hb
  go_enter Try.func28, Try.ntmps28
  go_wp2
  go_ret
  exact ⟨rfl, rfl⟩
set_option maxRecDepth 100000 in
set_option maxHeartbeats 400000 in
theorem rleft_any (b : Nat) (s : ByteArray) (p : Nat) (w : World) (hr : isRd w b s p) : Calls Try.prog 40 #[.pointer (some ⟨b, 0, none⟩)] w (SameW (.int .i64 ((s.size : Int) - (p : Int))) w) := by
  obtain ⟨hp, hsz, hb⟩ := hr
  obtain ⟨c0, c1, f0, f1⟩ := cell_two hb
  clear hb
  go_enter Try.func40, Try.ntmps40
  go_wp2_with fail
  go_quiet (fail)
  go_wp2_with fail
  go_ret
  exact ⟨rfl, _, rfl⟩
theorem at_nil (w : World) : Calls Try.prog 28 #[.pointer none] w fun e w' => e = .returned (.int .i64 0) ∧ w = w' := by
  go_enter Try.func28, Try.ntmps28
  go_wp2
  go_ret
  exact ⟨rfl, rfl⟩
theorem rleft_nil (w : World) : Calls Try.prog 40 #[.pointer none] w fun e w' => e = .returned (.int .i64 0) ∧ w = w' := by
  go_enter Try.func40, Try.ntmps40
  go_wp2
  go_ret
  exact ⟨rfl, rfl⟩
theorem ruint_nil (w : World) : Calls Try.prog 25 #[.pointer none] w fun e w' => e = .returned (.tuple #[.int .u64 0, .int .i64 1]) ∧ w = w' := by
  go_enter Try.func25, Try.ntmps25
  go_wp2
  go_ret2
  exact ⟨rfl, rfl⟩
theorem rint_nil (w : World) : Calls Try.prog 34 #[.pointer none] w fun e w' => e = .returned (.tuple #[.int .i64 0, .int .i64 1]) ∧ w = w' := by
  have hz : bits BinOp.xor IntKind.i64 0 (wrap64 (-wrap64 (bits BinOp.and IntKind.u64 0 1))) = 0 := by decide +kernel
  go_enter Try.func34, Try.ntmps34
  go_wp2_with (go_at_call 25; refine (ruint_nil _).mono ?_; rintro e w' ⟨rfl, rfl⟩)
  go_ret2
  exact ⟨rfl, rfl⟩
theorem rfixed_nil (k : Int) (w : World) : Calls Try.prog 36 #[.pointer none, .int .i64 k] w fun e w' => e = .returned (.tuple #[.int .u64 0, .int .i64 1]) ∧ w = w' := by
  go_enter Try.func36, Try.ntmps36
  go_wp2
  go_ret2
  exact ⟨rfl, rfl⟩
theorem rtext_nil (k : Int) (w : World) : Calls Try.prog 38 #[.pointer none, .int .i64 k] w fun e w' => e = .returned (.tuple #[.string ⟨#[]⟩, .int .i64 1]) ∧ w = w' := by
  go_enter Try.func38, Try.ntmps38
  go_wp2
  go_ret2
  exact ⟨rfl, rfl⟩
end Go.Proofs.Ytickdmalkmgkiaa
