/- The contracts of codec's Buffer: Int, Text; strings.IndexByte; what a conversion of a string to bytes lays. Conditions: as each theorem states. -/
import Derived.Test.YtickdmalkmgkiaaBufTwo
import Derived.Lib.IndexLaws
import Derived.Lib.Bytealg
namespace Go.Proofs.Ytickdmalkmgkiaa
open Go.RowKit

def zig (n : Int) : Nat := if 0 ≤ n then (2 * n).toNat else (-2 * n - 1).toNat
theorem xor_ones (a : Nat) (h : a < 18446744073709551616) : a ^^^ 18446744073709551615 = 18446744073709551615 - a := by
  have e : (BitVec.ofNat 64 a ^^^ BitVec.allOnes 64) = ~~~ (BitVec.ofNat 64 a) := by rw [BitVec.xor_allOnes]
  have e2 := congrArg BitVec.toNat e
  rw [BitVec.toNat_xor, BitVec.toNat_not, BitVec.toNat_ofNat, BitVec.toNat_allOnes, Nat.mod_eq_of_lt (by omega)] at e2
  simpa using e2
theorem zig_eq (n : Int) (h1 : -9223372036854775808 ≤ n) (h2 : n ≤ 9223372036854775807) :
    bits BinOp.xor IntKind.u64 (IntKind.u64.wrap (IntKind.u64.wrap n * 2)) (IntKind.u64.wrap (n / 9223372036854775808)) = (zig n : Int) ∧ zig n ≤ 18446744073709551615 := by
  simp only [IntKind.wrap_u64]
  by_cases h : 0 ≤ n
  · have e1 : n % 18446744073709551616 * 2 % 18446744073709551616 = ((2 * n).toNat : Int) := by omega
    have e2 : n / 9223372036854775808 % 18446744073709551616 = ((0 : Nat) : Int) := by omega
    rw [e1, e2, bits_xor_u64_nat _ _ (by omega) (by omega), Nat.xor_zero, zig, if_pos h]
    exact ⟨rfl, by omega⟩
  · have e1 : n % 18446744073709551616 * 2 % 18446744073709551616 = ((18446744073709551616 + 2 * n).toNat : Int) := by omega
    have e2 : n / 9223372036854775808 % 18446744073709551616 = ((18446744073709551615 : Nat) : Int) := by omega
    rw [e1, e2, bits_xor_u64_nat _ _ (by omega) (by omega), xor_ones _ (by omega), zig, if_neg h]
    omega

set_option maxRecDepth 100000 in
set_option maxHeartbeats 400000 in
theorem int_any (B b : Nat) (l : List UInt8) (room : Nat) (n : Int) (w : World) (h1 : -9223372036854775808 ≤ n) (h2 : n ≤ 9223372036854775807) (hB : B ≤ w.heap.size) (hbuf : isBuf w B b l room) :
    Calls Try.prog 31 #[.pointer (some ⟨b, 0, none⟩), .int .i64 n] w (PutPost B b l (numb (zig n)) room w) := by
  have Hbuf := Lib.hid hbuf; clear hbuf
  have Hz := Lib.hid (zig_eq n h1 h2)
  clear h1 h2
  go_enter Try.func31, Try.ntmps31
  go_wp2_with fail
  rw [Hz.out.1]
  with_reducible refine (uint_any B b l room (zig n) _ Hz.out.2 hB Hbuf.out).mono ?_
  rintro e w2 hp
  have Hp := Lib.hid hp
  rcases hp with ⟨_, rfl, _⟩ | ⟨_, rfl, _⟩
  · go_wp2
    go_ret
    exact Hp.out
  · go_wp2
    go_ret
    exact Hp.out
theorem int_nil (n : Int) (w : World) : Calls Try.prog 31 #[.pointer none, .int .i64 n] w fun e w' => e = .returned (.int .i64 1) ∧ w = w' := by
  go_enter Try.func31, Try.ntmps31
  go_wp2_with fail
  with_reducible refine (uint_nil _ _).mono ?_
  rintro e w2 ⟨rfl, rfl⟩
  go_wp2
  go_ret
  exact ⟨rfl, rfl⟩

set_option maxRecDepth 100000 in
set_option maxHeartbeats 400000 in
theorem text_any (B b : Nat) (l : List UInt8) (room : Nat) (s : ByteArray) (w : World) (hs : s.size ≤ 9223372036854775807) (hB : B ≤ w.heap.size) (hbuf : isBuf w B b l room) :
    Calls Try.prog 44 #[.pointer (some ⟨b, 0, none⟩), .string s] w (PutPost B b l (numb s.size ++ s.data.toList) room w) := by
  obtain ⟨i0, hi, hz0, hz1, hz2⟩ := info_parts Try.info5
  have Hbuf := Lib.hid hbuf
  obtain ⟨hl, hr, u, hb, hown⟩ := hbuf
  obtain ⟨ao, cu, rfl⟩ := ownsRow_shape hown
  obtain ⟨c0, c1, f0, f1⟩ := cell_two hb
  clear hb
  have Hlen : Hid (s.data.toList.length = s.size) := by rw [Array.length_toList]; rfl
  by_cases hroom : room < s.size
  · go_enter Try.func44, Try.ntmps44
    go_wp2_with fail
    go_ret
    exact Or.inr ⟨by rw [List.length_append, Hlen.out]; omega, rfl, Chg.refl _ _, Hbuf.out⟩
  · go_enter Try.func44, Try.ntmps44
    go_wp2_with fail
    with_reducible refine (number_any s.size _ (by omega)).mono ?_
    rintro e w1 ⟨v, rfl, hown1, hbel⟩
    have hl10 := numb_len10 (n := s.size) (by omega)
    go_wp2_with (refine Lib.wpList_append_own_string _ rfl _ _ 26 9 rfl w.heap.size 5 i0 Try.underlying26 Try.underlying9 hi hz0 hz1 hz2 _ _ _ rfl hown1 s rfl ?c1 ?c2 ?c3 ?_)
    case c1 => unfold maxLen; omega
    case c2 => omega
    case c3 => exact hbel.size
    intro v' w2 hown2 hgrow _
    have hbel2 : Below w.heap.size w w2 := hbel.grown hgrow hbel.size (fun k hk => (hown1.lt k hk).1)
    go_wp2_with fail
    with_reducible refine (put_any B b l (numb s.size ++ s.data.toList) room v' w2 (Nat.le_trans hB hbel2.size) (Hbuf.out.nob (Chg.of_below hbel2)) (isSrc_of_owns (B := w.heap.size) ?d1 ?d2) ?d3).mono ?_
    case d1 => rw [List.length_append, Hlen.out, List.map_append]; exact hown2
    case d2 => rw [List.length_append]; have := numb_pos s.size; omega
    case d3 => rw [List.length_append, Hlen.out]; omega
    rintro e w3 hp
    have Hp := Lib.hid hp
    rcases hp with ⟨_, rfl, _⟩ | ⟨_, rfl, _⟩
    · go_wp2
      go_ret
      exact PutPost.of_chg (Chg.of_below hbel2) Hp.out
    · go_wp2
      go_ret
      exact PutPost.of_chg (Chg.of_below hbel2) Hp.out

theorem run70 (s : ByteArray) (w : World) : (callFunc 70 #[.string s, .int .u8 10]).run Try.prog w = .ok (.value (.int .i64 (Lib.indexByte s.data.toList 10))) w := by
  rw [run_callFunc_extern Try.func70 (by kernel_rfl) (by kernel_rfl) (by kernel_rfl) (e := Extern.BytealgIndexByte.indexByte) (by kernel_rfl), Lib.run_indexByteString]
  rfl
theorem idx_any (s : ByteArray) (w : World) : Calls Try.prog 52 #[.string s, .int .u8 10] w fun e w' => e = .returned (.int .i64 (Lib.indexByte s.data.toList 10)) ∧ w = w' := by
  have h70 := run70 s
  go_enter Try.func52, Try.ntmps52
  go_wp2
  go_ret
  exact ⟨rfl, rfl⟩
theorem idx_mem (l : List UInt8) : 0 ≤ Lib.indexByte l 10 ↔ (10 : UInt8) ∈ l := by
  induction l with
  | nil => simp [Lib.indexByte]
  | cons c l ih =>
    have hge := Lib.indexByte_ge l 10
    unfold Lib.indexByte
    by_cases h : c = 10
    · simp [h]
    · rw [if_neg (by simpa using h)]
      by_cases h2 : Lib.indexByte l 10 = -1
      · rw [if_pos (by simpa using h2)]
        have : ¬ (10 : UInt8) ∈ l := fun e => by have := ih.2 e; omega
        simp [this, Ne.symm h]
      · rw [if_neg (by simpa using h2)]
        have : (10 : UInt8) ∈ l := ih.1 (by omega)
        simp [this]; omega

set_option maxRecDepth 100000 in
set_option maxHeartbeats 400000 in
theorem line_no (b : Nat) (s : ByteArray) (w : World) (h10 : (10 : UInt8) ∈ s.data.toList) :
    Calls Try.prog 32 #[.pointer (some ⟨b, 0, none⟩), .string s] w fun e w' => e = .returned (.int .i64 1) ∧ w = w' := by
  have hi := (idx_mem _).2 h10
  clear h10
  go_enter Try.func32, Try.ntmps32
  go_wp2_with fail
  with_reducible refine (idx_any _ _).mono ?_
  rintro e w1 ⟨rfl, rfl⟩
  go_wp2_with fail
  go_ret
  exact ⟨rfl, rfl⟩

def convC (s : ByteArray) (w : World) : Nat := grownCap w s.size 0 5
def convW (s : ByteArray) (w : World) : World := w.drew.alloc (.cells (bytesRow s (convC s w)) 5 ((bytesRow s (convC s w)).size, (bytesRow s (convC s w)).size + 1))
theorem run_conv (s : ByteArray) (w : World) : (convert 9 26 (.string s)).run Try.prog w = .ok (.slice (some ⟨w.heap.size, 0, none⟩) s.size (convC s w)) (convW s w) :=
  run_bytes_of_string w 9 26 5 s Try.underlying9 Try.underlying26 Try.underlying5
theorem convW_at (s : ByteArray) (w : World) : (convW s w).heap[w.heap.size]? = some (.cells (bytesRow s (convC s w)) 5 ((bytesRow s (convC s w)).size, (bytesRow s (convC s w)).size + 1)) := heap_alloc_new w.drew _
theorem convW_size (s : ByteArray) (w : World) : (convW s w).heap.size = w.heap.size + 1 := by simp [convW]
theorem convW_chg (s : ByteArray) (w : World) : Chg Nob w (convW s w) := ((Chg.refl Nob w).drew).alloc _
theorem convC_ge (s : ByteArray) (w : World) : s.size ≤ convC s w := grownCap_ge w s.size 0 5
theorem bytesRow_size (s : ByteArray) (w : World) : (bytesRow s (convC s w)).size = convC s w := by
  have := convC_ge s w
  have e : s.data.size = s.size := rfl
  simp [bytesRow, e]; omega
theorem convW_cell (s : ByteArray) (w : World) (j : Nat) (u : Value) (h : (s.data.toList.map bv)[j]? = some u) : (convW s w).cell? ⟨w.heap.size, j, none⟩ = some u := by
  rw [cell_of_row _ _ _ _ _ _ (convW_at s w)]
  have hj : j < s.data.size := by
    have := (List.getElem?_eq_some_iff.1 h).1; simpa using this
  have hj2 : j < s.size := hj
  rw [List.getElem?_map, List.getElem?_eq_getElem (by simpa using hj)] at h
  simp [bytesRow, hj2, Array.getElem?_append]
  simpa [bv] using h
theorem convW_spare (s : ByteArray) (w : World) (j : Nat) (h : j < convC s w) : ((convW s w).cell? ⟨w.heap.size, j, none⟩).isSome = true ∧ (convW s w).frozen? ⟨w.heap.size, j, none⟩ = false := by
  constructor
  · rw [cell_of_row _ _ _ _ _ _ (convW_at s w)]
    rw [Array.getElem?_eq_getElem (by rw [bytesRow_size]; exact h)]; rfl
  · simp only [World.frozen?, convW_at, bytesRow_size]
    simp; omega
end Go.Proofs.Ytickdmalkmgkiaa
