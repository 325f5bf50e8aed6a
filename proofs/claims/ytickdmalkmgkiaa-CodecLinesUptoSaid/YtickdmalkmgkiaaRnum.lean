/- The contract of codec Reader number. Conditions: as each theorem states. -/
import Derived.Test.YtickdmalkmgkiaaBase
import Derived.IntWalk
import Derived.Deep.QuietTactic
import Derived.BigQuiet
import Derived.Lib.IndexBytes
namespace Go.Proofs.Ytickdmalkmgkiaa
open Go.RowKit

/-- The number at the beginning of bytes, so many bytes of it having been read: its value, its size, the error. -/
def rd (size acc : Nat) : List UInt8 → Nat × Nat × Nat
  | [] => if size = 10 then (0, 0, 11) else (0, 0, 10)
  | x :: l =>
    if size = 10 then (0, 0, 11)
    else if size = 9 ∧ 1 < x.toNat then (0, 0, 11)
    else if x.toNat < 128 then (if x.toNat = 0 ∧ 0 < size then (0, 0, 11) else (acc + x.toNat % 128 * 128 ^ size, size + 1, 0))
    else rd (size + 1) (acc + x.toNat % 128 * 128 ^ size) l

theorem wrap_byte (x : UInt8) : IntKind.u64.wrap (x.toNat : Int) = x.toNat := by have := x.toNat_lt; rw [IntKind.wrap_u64]; omega

theorem rd_last {size acc : Nat} {x : UInt8} {l : List UInt8} (h1 : size ≠ 10) (h2 : ¬ (size = 9 ∧ 1 < x.toNat)) (h3 : x.toNat < 128) (h4 : ¬ (x.toNat = 0 ∧ 0 < size)) : rd size acc (x :: l) = (acc + x.toNat % 128 * 128 ^ size, size + 1, 0) := by
  rw [rd, if_neg h1, if_neg h2, if_pos h3, if_neg h4]
theorem rd_zero {size acc : Nat} {x : UInt8} {l : List UInt8} (h1 : size ≠ 10) (h3 : x.toNat = 0) (h4 : 0 < size) : rd size acc (x :: l) = (0, 0, 11) := by
  rw [rd, if_neg h1, if_neg (by omega), if_pos (by omega), if_pos ⟨h3, h4⟩]
theorem rd_nine {acc : Nat} {x : UInt8} {l : List UInt8} (h3 : 1 < x.toNat) : rd 9 acc (x :: l) = (0, 0, 11) := by
  rw [rd, if_neg (by decide), if_pos ⟨rfl, h3⟩]
theorem rd_more {size acc : Nat} {x : UInt8} {l : List UInt8} (h1 : size ≠ 10) (h2 : size ≠ 9) (h3 : ¬ x.toNat < 128) : rd size acc (x :: l) = rd (size + 1) (acc + x.toNat % 128 * 128 ^ size) l := by
  rw [rd, if_neg h1, if_neg (by omega), if_neg h3]
theorem drop_at {l : List UInt8} {k : Nat} {x : UInt8} (h : l[k]? = some x) : l.drop k = x :: l.drop (k + 1) := by
  have hk := (List.getElem?_eq_some_iff.1 h)
  obtain ⟨h1, h2⟩ := hk
  rw [List.drop_eq_getElem_cons h1, h2]
theorem or_acc (acc size : Nat) (x : UInt8) (hacc : acc < 128 ^ size) (hs : size < 10) (h9 : ¬ (size = 9 ∧ 1 < x.toNat)) :
    bits .or .u64 (acc : Int) (IntKind.u64.wrap ((x.toNat : Int) % 128 * 2 ^ (7 * size))) = ((acc + x.toNat % 128 * 128 ^ size : Nat) : Int) := by
  have e128 : (128 : Nat) ^ size = 2 ^ (7 * size) := by rw [Nat.pow_mul]
  rw [e128] at hacc ⊢
  have hy : x.toNat % 128 * 2 ^ (7 * size) < 18446744073709551616 ∧ acc < 18446744073709551616 := by
    have hx := x.toNat_lt
    rcases (by omega : size = 0 ∨ size = 1 ∨ size = 2 ∨ size = 3 ∨ size = 4 ∨ size = 5 ∨ size = 6 ∨ size = 7 ∨ size = 8 ∨ size = 9) with rfl | rfl | rfl | rfl | rfl | rfl | rfl | rfl | rfl | rfl <;> simp only [Nat.reduceMul, Nat.reducePow] at hacc ⊢ <;> omega
  have e1 : (x.toNat : Int) % 128 * 2 ^ (7 * size) = ((x.toNat % 128 * 2 ^ (7 * size) : Nat) : Int) := by
    push_cast; rfl
  rw [e1, IntKind.wrap_u64, Int.emod_eq_of_lt (by omega) (by omega), u64_or_nat _ _ hy.2 hy.1]
  have := Nat.two_pow_add_eq_or_of_lt (b := acc) hacc (x.toNat % 128)
  rw [Nat.or_comm, Nat.mul_comm, ← this, Nat.add_comm]
theorem wrap_nine {x : UInt8} (h : ¬ 1 < x.toNat) : (x.toNat : Int) % 128 * 9223372036854775808 = IntKind.u64.wrap ((x.toNat : Int) % 128 * 2 ^ (7 * 9)) := by
  rw [IntKind.wrap_u64]
  have : (2 : Int) ^ (7 * 9) = 9223372036854775808 := by decide
  rw [this]
  omega
theorem or_zero (acc : Nat) (h : acc < 128 ^ 0) : bits .or .u64 (acc : Int) 0 = (acc : Int) := by
  have : acc = 0 := by simpa using h
  subst this; rfl
theorem acc_lt {acc size y : Nat} (h : acc < 128 ^ size) (hy : y < 128) : acc + y * 128 ^ size < 128 ^ (size + 1) := by
  have h1 : (y + 1) * 128 ^ size ≤ 128 * 128 ^ size := Nat.mul_le_mul_right _ (by omega)
  rw [Nat.add_mul, Nat.one_mul] at h1
  rw [Nat.pow_succ, Nat.mul_comm (128 ^ size) 128]
  omega

def isRd (w : World) (b : Nat) (s : ByteArray) (at_ : Nat) : Prop :=
  at_ ≤ s.size ∧ s.size ≤ 9223372036854775807 ∧ w.heap[b]? = some (.cells #[.string s, .int .i64 at_] 88 (0, 0))

def Drw (w wr : World) : Prop := ∃ q, wr = w.drewN q
theorem Drw.mk (w : World) (q : Nat) : Drw w (w.drewN q) := ⟨q, rfl⟩

def NumR (s : ByteArray) (p : Nat) (w : World) (n sz : Value) (wr : World) : Prop :=
  ∃ size acc : Nat, n = .int .u64 acc ∧ sz = .int .i64 size ∧ size ≤ 10 ∧ acc < 128 ^ size ∧ p + size ≤ s.size ∧ rd 0 0 (s.data.toList.drop p) = rd size acc (s.data.toList.drop (p + size)) ∧ Drw w wr
def NumPost (r : Nat × Nat × Nat) (w : World) (e : Ending) (w' : World) : Prop := e = .returned (.tuple #[.int .u64 r.1, .int .i64 r.2.1, .int .i64 r.2.2]) ∧ ∃ q, w' = w.drewN q

theorem num_end {s : ByteArray} {p : Nat} {w : World} {a c d : Int} {q : Nat} {r : Nat × Nat × Nat} (hr : rd 0 0 (s.data.toList.drop p) = r) (h1 : a = r.1) (h2 : c = r.2.1) (h3 : d = r.2.2) :
    NumPost (rd 0 0 (s.data.toList.drop p)) w (.returned (.tuple #[.int .u64 a, .int .i64 c, .int .i64 d])) (w.drewN q) := by
  subst hr; rw [h1, h2, h3]; exact ⟨rfl, q, rfl⟩

theorem num_end2 {s : ByteArray} {p : Nat} {w : World} {a c d : Int} {q k : Nat} {r : Nat × Nat × Nat} (hr : rd 0 0 (s.data.toList.drop p) = r) (h1 : a = r.1) (h2 : c = r.2.1) (h3 : d = r.2.2) :
    NumPost (rd 0 0 (s.data.toList.drop p)) w (.returned (.tuple #[.int .u64 a, .int .i64 c, .int .i64 d])) ((w.drewN q).drewN k) := by
  subst hr; rw [h1, h2, h3]; exact ⟨rfl, q + k, World.drewN_drewN _ _ _⟩

set_option maxRecDepth 100000 in
set_option maxHeartbeats 1600000 in
theorem rnumber_any (b : Nat) (s : ByteArray) (p : Nat) (w : World) (hr : isRd w b s p) :
    Calls Try.prog 53 #[.pointer (some ⟨b, 0, none⟩)] w (NumPost (rd 0 0 (s.data.toList.drop p)) w) := by
  obtain ⟨hp, hsz, hb⟩ := hr
  obtain ⟨c0, c1, f0, f1⟩ := cell_two hb
  clear hb
  go_enter Try.func53, Try.ntmps53
  go_wp2_with fail
  go_step3
  go_wp2_with fail
  go_step3
  go_wp2_with fail
  go_loopw [2, 3] (fun n sz wr => NumR s p w n sz wr) (fun _ sz _ => 10 - (intOf sz).toNat)
  case atStart => exact ⟨0, 0, rfl, rfl, by omega, by simp, by omega, by simp, Drw.mk w 0⟩
  case round =>
    obtain ⟨size, acc, rfl, rfl, h10, hacc, hps, hrd, q, hw⟩ := hrel
    have Hrd := Lib.hid hrd; clear hrd
    have Hacc := Lib.hid hacc; clear hacc
    subst hw
    by_cases he : size = 10
    · subst he
      go_wp2_with fail
      rw [Exit.noGoto_ret]
      go_ret3
      refine ⟨?_, _, rfl⟩
      rw [Hrd.out]; cases h : s.data.toList.drop (p + 10) <;> simp [rd]
    · have he2 : ((size : Int) == 10) = false := by simp; omega
      by_cases hend : p + size = s.size
      · have hd : ((p : Int) + (size : Int) == (s.size : Int)) = true := by simp; omega
        go_wp2_with fail
        go_quiet (fail)
        go_wp2_with fail
        rw [Exit.noGoto_ret]
        go_ret3
        have hend2 : rd 0 0 (s.data.toList.drop p) = (0, 0, 10) := by
          rw [Hrd.out, List.drop_of_length_le (by simp; omega), rd, if_neg he]
        exact num_end2 hend2 rfl rfl rfl
      · have hd : ((p : Int) + (size : Int) == (s.size : Int)) = false := by simp; omega
        have hlt : p + size < s.size := by omega
        have hi : (p : Int) + (size : Int) < (s.size : Int) := by omega
        have h0 : (0 : Int) ≤ (p : Int) + (size : Int) := by omega
        have hw1 : IntKind.i64.wrap ((p : Int) + (size : Int)) = (p : Int) + (size : Int) := by apply IntWalk.i64_in; omega
        have hw2 : ((p : Int) + (size : Int)).toNat = p + size := by omega
        go_wp2_with fail
        go_quiet (fail)
        go_wp2_with fail
        go_quiet (fail)
        obtain ⟨x, hx⟩ : ∃ x, s[p + size]'hlt = x := ⟨_, rfl⟩
        simp only [hx, wrap_byte]
        have Hx : Hid (s.data.toList[p + size]? = some x) := by rw [Lib.data_getElem? s _ hlt, hx]; rfl
        clear hw1 hw2 hx
        have hx256 : (x.toNat : Int) < 256 := by have := x.toNat_lt; omega
        have hs10 : size < 10 := by omega
        have Hrd2 : Hid (rd 0 0 (s.data.toList.drop p) = rd size acc (x :: s.data.toList.drop (p + (size + 1)))) := by
          show _ = _
          rw [Hrd.out, drop_at Hx.out]; rfl
        clear Hrd
        by_cases hbad : size = 9 ∧ 1 < x.toNat
        · obtain ⟨h9, hx1⟩ := hbad
          subst h9
          go_wp2_with fail
          rw [Exit.noGoto_ret]
          go_ret3
          exact num_end (Hrd2.out.trans (rd_nine hx1)) rfl rfl rfl
        · have Hor := Lib.hid (or_acc acc size x Hacc.out hs10 hbad)
          by_cases hx128 : x.toNat < 128
          · by_cases hz : x.toNat = 0 ∧ 0 < size
            · obtain ⟨hz0, hzs⟩ := hz
              have Hend := Lib.hid (Hrd2.out.trans (rd_zero he hz0 hzs))
              by_cases h9 : size = 9
              · subst h9
                go_wp2_with fail
                go_ret3
                exact num_end Hend.out rfl rfl rfl
              · have h92 : ((size : Int) == 9) = false := by simp; omega
                go_wp2_with fail
                rw [Exit.noGoto_ret]
                go_ret3
                exact num_end Hend.out rfl rfl rfl
            · have Hend := Lib.hid (Hrd2.out.trans (rd_last he hbad hx128 hz))
              by_cases h9 : size = 9
              · subst h9
                have hx0 : ¬ x.toNat = 0 := by omega
                go_wp2_with fail
                go_ret3
                have hor : bits .or .u64 (acc : Int) ((x.toNat : Int) % 128 * 9223372036854775808) = ((acc + x.toNat % 128 * 128 ^ 9 : Nat) : Int) := by
                  rw [wrap_nine (fun h => hbad ⟨trivial, h⟩)]; exact Hor.out
                exact num_end Hend.out hor rfl rfl
              · have h92 : ((size : Int) == 9) = false := by simp; omega
                by_cases hx0 : x.toNat = 0
                · have hs0 : size = 0 := by omega
                  subst hs0
                  go_wp2_with fail
                  rw [Exit.noGoto_ret]
                  go_ret3
                  refine num_end Hend.out ?_ rfl rfl
                  rw [or_zero _ Hacc.out]; simp [hx0]
                · go_wp2_with fail
                  rw [Exit.noGoto_ret]
                  go_ret3
                  exact num_end Hend.out Hor.out rfl rfl
          · have h9 : size ≠ 9 := by omega
            have Hend := Lib.hid (Hrd2.out.trans (rd_more he h9 hx128))
            have h92 : ((size : Int) == 9) = false := by simp; omega
            go_wp2_with fail
            go_roundw
            case rel =>
              refine ⟨size + 1, _, ?_, by go_num, by omega, acc_lt Hacc.out (Nat.mod_lt _ (by omega)), by omega, Hend.out, ?_⟩
              · rw [Hor.out]
              · exact Drw.mk _ _
            case measure => simp [intOf]; omega
end Go.Proofs.Ytickdmalkmgkiaa
