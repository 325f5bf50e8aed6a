/- The contracts of codec Reader: Fixed, Text. Conditions: as each theorem states. -/
import Derived.Test.YtickdmalkmgkiaaRuint
import Derived.Test.YtickdmalkmgkiaaFixed
namespace Go.Proofs.Ytickdmalkmgkiaa
open Go.RowKit

/-- Bytes as a number, the least first. -/
def leval : List UInt8 → Nat
  | [] => 0
  | x :: l => x.toNat + 256 * leval l
theorem leval_snoc (l : List UInt8) (x : UInt8) : leval (l ++ [x]) = leval l + x.toNat * 256 ^ l.length := by
  induction l with
  | nil => simp [leval]
  | cons c l ih =>
    simp only [List.cons_append, leval, ih, List.length_cons, Nat.pow_succ]
    rw [Nat.mul_add, Nat.mul_comm (256 ^ l.length) 256, ← Nat.mul_assoc, ← Nat.mul_assoc, Nat.mul_comm 256 x.toNat]; omega
theorem leval_lt (l : List UInt8) : leval l < 256 ^ l.length := by
  induction l with
  | nil => simp [leval]
  | cons c l ih =>
    have := c.toNat_lt
    simp only [leval, List.length_cons, Nat.pow_succ]; omega
theorem or_le (acc j : Nat) (x : UInt8) (hacc : acc < 256 ^ j) (hj : j < 8) :
    bits .or .u64 (acc : Int) (IntKind.u64.wrap ((x.toNat : Int) * 2 ^ (8 * j))) = ((acc + x.toNat * 256 ^ j : Nat) : Int) := by
  have e256 : (256 : Nat) ^ j = 2 ^ (8 * j) := by rw [Nat.pow_mul]
  rw [e256] at hacc ⊢
  have hy : x.toNat * 2 ^ (8 * j) < 18446744073709551616 ∧ acc < 18446744073709551616 := by
    have hx := x.toNat_lt
    rcases (by omega : j = 0 ∨ j = 1 ∨ j = 2 ∨ j = 3 ∨ j = 4 ∨ j = 5 ∨ j = 6 ∨ j = 7) with rfl | rfl | rfl | rfl | rfl | rfl | rfl | rfl <;> simp only [Nat.reduceMul, Nat.reducePow] at hacc ⊢ <;> omega
  have e1 : (x.toNat : Int) * 2 ^ (8 * j) = ((x.toNat * 2 ^ (8 * j) : Nat) : Int) := by push_cast; rfl
  rw [e1, IntKind.wrap_u64, Int.emod_eq_of_lt (by omega) (by omega), u64_or_nat _ _ hy.2 hy.1]
  have := Nat.two_pow_add_eq_or_of_lt (b := acc) hacc x.toNat
  rw [Nat.or_comm, Nat.mul_comm, ← this, Nat.add_comm]

theorem take_next {s : ByteArray} {p j : Nat} {x : UInt8} (h : s.data.toList[p + j]? = some x) : (s.data.toList.drop p).take (j + 1) = (s.data.toList.drop p).take j ++ [x] := by
  have h2 : (s.data.toList.drop p)[j]? = some x := by rw [List.getElem?_drop]; exact h
  rw [List.take_add_one, h2]; rfl

def RFixRel (s : ByteArray) (p K : Nat) (w : World) (n i : Value) (wr : World) : Prop :=
  ∃ j : Nat, n = .int .u64 (leval ((s.data.toList.drop p).take j)) ∧ i = .int .i64 j ∧ j ≤ K ∧ Drw w wr

set_option maxRecDepth 100000 in
set_option maxHeartbeats 400000 in
theorem rfixed_bad (b : Nat) (k : Int) (w : World) (hk : okSize k = false) :
    Calls Try.prog 36 #[.pointer (some ⟨b, 0, none⟩), .int .i64 k] w fun e w' => e = .returned (.tuple #[.int .u64 0, .int .i64 1]) ∧ w = w' := by
  go_enter Try.func36, Try.ntmps36
  go_wp2_with fail
  with_reducible refine (sized_any _ _).mono ?_
  rintro e w1 ⟨rfl, rfl⟩
  go_wp2_with fail
  go_ret2
  exact ⟨rfl, rfl⟩

def SameW2 (u v : Value) (w : World) (e : Ending) (w' : World) : Prop := e = .returned (.tuple #[u, v]) ∧ Drw w w'
set_option maxRecDepth 100000 in
set_option maxHeartbeats 400000 in
theorem rfixed_cut (b : Nat) (s : ByteArray) (p : Nat) (k : Int) (w : World) (hr : isRd w b s p) (hk : okSize k = true) (hc : (s.size : Int) - p < k) :
    Calls Try.prog 36 #[.pointer (some ⟨b, 0, none⟩), .int .i64 k] w (SameW2 (.int .u64 0) (.int .i64 10) w) := by
  have Hr := Lib.hid hr; clear hr
  go_enter Try.func36, Try.ntmps36
  go_wp2_with fail
  with_reducible refine (sized_any _ _).mono ?_
  rintro e w1 ⟨rfl, rfl⟩
  go_wp2_with fail
  with_reducible refine (rleft_any b s p _ Hr.out).mono ?_
  rintro e w1 ⟨rfl, q, rfl⟩
  go_wp2_with fail
  go_ret2
  exact ⟨rfl, q, rfl⟩

set_option maxRecDepth 100000 in
set_option maxHeartbeats 1600000 in
theorem rfixed_any (b : Nat) (s : ByteArray) (p k : Nat) (w : World) (hr : isRd w b s p) (hk : okSize k = true) (hc : p + k ≤ s.size) :
    Calls Try.prog 36 #[.pointer (some ⟨b, 0, none⟩), .int .i64 k] w (RdPost b s (p + k) (.int .u64 (leval ((s.data.toList.drop p).take k))) 0 w) := by
  have Hr := Lib.hid hr
  obtain ⟨hp, hsz, hb⟩ := hr
  obtain ⟨c0, c1, f0, f1⟩ := cell_two hb
  clear hb
  have hd : decide ((s.size : Int) - (p : Int) < (k : Int)) = false := by simp; omega
  have hk8 : k ≤ 8 := by have := (okSize_iff _).1 hk; omega
  go_enter Try.func36, Try.ntmps36
  go_wp2_with fail
  with_reducible refine (sized_any _ _).mono ?_
  rintro e w1 ⟨rfl, rfl⟩
  go_wp2_with fail
  with_reducible refine (rleft_any b s p _ Hr.out).mono ?_
  rintro e w1 ⟨rfl, q0, rfl⟩
  go_wp2_with fail
  go_loopw [6, 20] (fun n i wr => RFixRel s p k w n i wr) (fun _ i _ => k - (intOf i).toNat)
  case atStart => exact ⟨0, by simp [leval], rfl, by omega, Drw.mk _ _⟩
  case round =>
    obtain ⟨j, rfl, rfl, hj, q, hw⟩ := hrel
    subst hw
    have hlen : ((s.data.toList.drop p).take j).length ≤ j := List.length_take_le _ _
    by_cases hjk : j < k
    · have hlt : p + j < s.size := by omega
      have hi : (p : Int) + (j : Int) < (s.size : Int) := by omega
      have h0 : (0 : Int) ≤ (p : Int) + (j : Int) := by omega
      have h8 : (0 : Int) ≤ 8 * (j : Int) := by omega
      have hw1 : IntKind.i64.wrap ((p : Int) + (j : Int)) = (p : Int) + (j : Int) := by apply IntWalk.i64_in; omega
      have hw2 : ((p : Int) + (j : Int)).toNat = p + j := by omega
      have hw3 : IntKind.i64.wrap (8 * (j : Int)) = 8 * (j : Int) := by apply IntWalk.i64_in; omega
      have hw4 : (8 * (j : Int)).toNat = 8 * j := by omega
      go_wp2_with fail
      go_quiet (fail)
      obtain ⟨x, hx⟩ : ∃ x, s[p + j]'hlt = x := ⟨_, rfl⟩
      simp only [hx, wrap_byte]
      have Hx : Hid (s.data.toList[p + j]? = some x) := by rw [Lib.data_getElem? s _ hlt, hx]; rfl
      clear hw1 hw2 hw3 hw4 hx
      go_wp2_with fail
      go_roundw
      case rel =>
        refine ⟨j + 1, ?_, by go_num, by omega, Drw.mk _ _⟩
        rw [take_next Hx.out, leval_snoc]
        have hl : ((s.data.toList.drop p).take j).length = j := by rw [List.length_take, len_drop]; omega
        rw [hl, ← or_le _ j x (by have := leval_lt ((s.data.toList.drop p).take j); rw [hl] at this; exact this) (by omega)]
      case measure => simp [intOf]; omega
    · have hkj : j = k := by omega
      subst hkj
      go_wp2_with fail
      go_ret2
      have h1 := (Hr.out.chg ((Chg.refl Nob w).drewN q) (fun e => e)).move (p + j) hc
      exact ⟨rfl, h1, ((Chg.refl (At1 b) w).drewN q).trans1 (set1_chg _ b _)⟩

theorem move_to {w : World} {b : Nat} {s : ByteArray} {p : Nat} (h : isRd w b s p) {x : Int} (p' : Nat) (hx : x = p') (hp : p' ≤ s.size) : isRd (w.setCell ⟨b, 1, none⟩ (.int .i64 x)) b s p' := by
  subst hx; exact h.move p' hp
theorem extract_eq (s : ByteArray) (p k n : Nat) : s.extract (p + k) (p + k + n) = ⟨(((s.data.toList.drop p).drop k).take n).toArray⟩ := by
  apply ByteArray.ext
  apply Array.ext'
  rw [ByteArray.data_extract, Array.toList_extract, List.drop_drop]
  show List.extract _ _ _ = _
  rw [List.extract_eq_take_drop]
  simp

/-- What a text's reading comes to: the text, the error, how far the reader goes. -/
def rtext (most : Int) (l : List UInt8) : List UInt8 × Nat × Nat :=
  if most < 0 then ([], 1, 0)
  else if (rd 0 0 l).2.2 ≠ 0 then ([], (rd 0 0 l).2.2, 0)
  else if most < (rd 0 0 l).1 then ([], 11, 0)
  else if l.length < (rd 0 0 l).2.1 + (rd 0 0 l).1 then ([], 10, 0)
  else ((l.drop (rd 0 0 l).2.1).take (rd 0 0 l).1, 0, (rd 0 0 l).2.1 + (rd 0 0 l).1)

set_option maxRecDepth 100000 in
set_option maxHeartbeats 1600000 in
theorem rtext_any (b : Nat) (s : ByteArray) (p : Nat) (most : Int) (w : World) (hr : isRd w b s p) (hm : most ≤ 9223372036854775807) :
    Calls Try.prog 38 #[.pointer (some ⟨b, 0, none⟩), .int .i64 most] w (RdPost b s (p + (rtext most (s.data.toList.drop p)).2.2) (.string ⟨(rtext most (s.data.toList.drop p)).1.toArray⟩) (rtext most (s.data.toList.drop p)).2.1 w) := by
  have Hr := Lib.hid hr
  obtain ⟨hp, hsz, hb⟩ := hr
  obtain ⟨c0, c1, f0, f1⟩ := cell_two hb
  clear hb
  unfold rtext
  by_cases hneg : most < 0
  · rw [if_pos hneg]
    go_enter Try.func38, Try.ntmps38
    go_wp2_with fail
    go_ret2
    exact ⟨rfl, Hr.out, Chg.refl _ _⟩
  rw [if_neg hneg]
  have hcall := rnumber_any b s p w Hr.out
  have hcs := rd_cases (s.data.toList.drop p)
  rw [len_drop] at hcs
  have Hlen := Lib.hid (len_drop s p)
  generalize hl : s.data.toList.drop p = l at hcall hcs Hlen ⊢
  generalize rd 0 0 l = r at hcall hcs ⊢
  have Hl := Lib.hid hl
  have Hcall := Lib.hid hcall
  clear hcall hl
  have keep : ∀ q, isRd (w.drewN q) b s (p + 0) ∧ Chg (At1 b) w (w.drewN q) := fun q => ⟨Hr.out.chg ((Chg.refl Nob w).drewN q) (fun e => e), (Chg.refl _ w).drewN q⟩
  have Keep := Lib.hid keep
  clear keep
  rcases hcs with rfl | rfl | ⟨n, k, rfl, k1, k2, k3, k4⟩
  · rw [if_pos (by decide)]
    go_enter Try.func38, Try.ntmps38
    go_wp2_with fail
    with_reducible refine (Hcall.out).mono ?_
    rintro e w1 ⟨rfl, q, rfl⟩
    go_wp2_with fail
    go_ret2
    exact ⟨rfl, Keep.out q⟩
  · rw [if_pos (by decide)]
    go_enter Try.func38, Try.ntmps38
    go_wp2_with fail
    with_reducible refine (Hcall.out).mono ?_
    rintro e w1 ⟨rfl, q, rfl⟩
    go_wp2_with fail
    go_ret2
    exact ⟨rfl, Keep.out q⟩
  · rw [if_neg (by simp)]
    have Hk4 := Lib.hid k4; clear k4
    by_cases hbig : most < n
    · rw [if_pos hbig]
      by_cases hmax : 9223372036854775807 < n
      · go_enter Try.func38, Try.ntmps38
        go_wp2_with fail
        with_reducible refine (Hcall.out).mono ?_
        rintro e w1 ⟨rfl, q, rfl⟩
        go_wp2_with fail
        go_ret2
        exact ⟨rfl, Keep.out q⟩
      · go_enter Try.func38, Try.ntmps38
        go_wp2_with fail
        with_reducible refine (Hcall.out).mono ?_
        rintro e w1 ⟨rfl, q, rfl⟩
        go_wp2_with fail
        go_ret2
        exact ⟨rfl, Keep.out q⟩
    · rw [if_neg hbig]
      have hmax : ¬ 9223372036854775807 < n := by omega
      by_cases hcut : l.length < k + n
      · rw [if_pos hcut]
        have hcut2 : (s.size : Int) - (p : Int) - (k : Int) < (n : Int) := by rw [Hlen.out] at hcut; omega
        clear hcut
        go_enter Try.func38, Try.ntmps38
        go_wp2_with fail
        with_reducible refine (Hcall.out).mono ?_
        rintro e w1 ⟨rfl, q, rfl⟩
        go_wp2_with fail
        with_reducible refine (rleft_any b s p _ (Keep.out q).1).mono ?_
        rintro e w1 ⟨rfl, q2, rfl⟩
        go_wp2_with fail
        go_ret2
        exact ⟨rfl, Keep.out _⟩
      · rw [if_neg hcut]
        have hfit : p + k + n ≤ s.size := by rw [Hlen.out] at hcut; omega
        have hcut2 : ¬ (s.size : Int) - (p : Int) - (k : Int) < (n : Int) := by omega
        clear hcut
        have hb1 : (p : Int) + (k : Int) + (n : Int) ≤ (s.size : Int) := by omega
        have hb2 : (p : Int) + (k : Int) ≤ (p : Int) + (k : Int) + (n : Int) := by omega
        have hb3 : (0 : Int) ≤ (p : Int) + (k : Int) := by omega
        have hb4 : (0 : Int) ≤ (p : Int) + (k : Int) + (n : Int) := by omega
        go_enter Try.func38, Try.ntmps38
        go_wp2_with fail
        with_reducible refine (Hcall.out).mono ?_
        rintro e w1 ⟨rfl, q, rfl⟩
        go_wp2_with fail
        with_reducible refine (rleft_any b s p _ (Keep.out q).1).mono ?_
        rintro e w1 ⟨rfl, q2, rfl⟩
        go_wp2_with fail
        go_quiet (fail)
        go_wp2_with fail
        go_ret2
        have hstr : (⟨((l.drop k).take n).toArray⟩ : ByteArray) = s.extract (p + k) (p + k + n) := by rw [← Hl.out]; exact (extract_eq s p k n).symm
        rw [hstr]
        have h1 := move_to (Keep.out (q + q2)).1 (x := (p : Int) + (k : Int) + (n : Int)) (p + (k + n)) (by omega) (by omega)
        have h2 := h1.chg ((Chg.refl Nob _).drewN nq) (fun e => e)
        exact ⟨rfl, h2, (((Chg.refl (At1 b) w).drewN (q + q2)).trans1 (set1_chg _ b _)).drewN nq⟩
end Go.Proofs.Ytickdmalkmgkiaa
