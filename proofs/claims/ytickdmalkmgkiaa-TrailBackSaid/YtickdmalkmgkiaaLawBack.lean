/- The law CodecBack: whatever is put, it returns true. No condition. -/
import Derived.Test.YtickdmalkmgkiaaLawPuts
import Derived.Test.YtickdmalkmgkiaaLawReads
import Derived.SizedLaws
namespace Go.Proofs.Ytickdmalkmgkiaa.codecBack
open Go.ChangeShapes Go.WideShapes Go.ChangeAt Go.RowKit
open Go.ChangeMaps (open_string shut_string)
open codecPuts (IsPuts PutAt isPuts_of string_quiet len_quiet bleft_quiet)
open codecReads (rfix rfixed_all pk isRd.drawn at_quiet left_quiet below_drawn)

theorem rd_of_numb : ∀ (j size acc n : Nat) (rest : List UInt8), size + j = 9 → (0 < size → 0 < n) → n < 2 * 128 ^ j → rd size acc (numb n ++ rest) = (acc + n * 128 ^ size, size + (numb n).length, 0) := by
  intro j
  induction j with
  | zero =>
    intro size acc n rest hs h0 hn
    simp at hn
    have hn1 : (UInt8.ofNat n).toNat = n := by rw [UInt8.toNat_ofNat']; omega
    rw [numb_lt (by omega), List.singleton_append, rd_last (by omega) (by omega) (by omega) (by omega), hn1, Nat.mod_eq_of_lt (by omega : n < 128)]
    rfl
  | succ j ih =>
    intro size acc n rest hs h0 hn
    rw [Nat.pow_succ] at hn
    by_cases hl : n < 128
    · have hn1 : (UInt8.ofNat n).toNat = n := by rw [UInt8.toNat_ofNat']; omega
      rw [numb_lt hl, List.singleton_append, rd_last (by omega) (by omega) (by omega) (by omega), hn1, Nat.mod_eq_of_lt hl]
      rfl
    · have hn1 : (UInt8.ofNat (128 + n % 128)).toNat = 128 + n % 128 := by rw [UInt8.toNat_ofNat']; omega
      rw [numb_ge hl, List.cons_append, rd_more (by omega) (by omega) (by omega), ih (size + 1) _ (n / 128) rest (by omega) (by omega) (by omega), hn1]
      have e1 : (128 + n % 128) % 128 = n % 128 := by omega
      have e2 : n % 128 * 128 ^ size + n / 128 * 128 ^ (size + 1) = n * 128 ^ size := by
        rw [Nat.pow_succ, Nat.mul_comm (128 ^ size) 128, ← Nat.mul_assoc, ← Nat.add_mul]
        congr 1; omega
      rw [e1, Nat.add_assoc, e2, List.length_cons, show size + 1 + (numb (n / 128)).length = size + ((numb (n / 128)).length + 1) by omega]
theorem rd_numb0 {n : Nat} (rest : List UInt8) (h : n ≤ 18446744073709551615) : rd 0 0 (numb n ++ rest) = (n, (numb n).length, 0) := by
  rw [rd_of_numb 9 0 0 n rest rfl (by omega) (by simp only [Nat.reducePow]; omega)]; simp
theorem unzig_zig (m : Int) : unzig (zig m) = m := by
  unfold unzig zig; split <;> split <;> omega
theorem leval_fixb : ∀ (k n : Nat), n < 256 ^ k → leval (fixb n k) = n
  | 0, n, h => by simp at h; subst h; rfl
  | k + 1, n, h => by
    rw [Nat.pow_succ] at h
    rw [fixb, leval, leval_fixb k (n / 256) (by omega), UInt8.toNat_ofNat']; omega
theorem rfix_fixb {n : Nat} (rest : List UInt8) (h : n ≤ 18446744073709551615) : rfix 8 (fixb n 8 ++ rest) = (n, 0, 8) := by
  have e : (fixb n 8 ++ rest).take (8 : Int).toNat = fixb n 8 := by rw [show (8 : Int).toNat = (fixb n 8).length by rw [fixb_len]; rfl, List.take_left]
  have h2 : ¬ (((fixb n 8 ++ rest).length : Int) < 8) := by rw [List.length_append, fixb_len]; omega
  unfold rfix
  rw [if_neg (by decide), if_neg h2, e, leval_fixb 8 n (by simp only [Nat.reducePow]; omega)]
  rfl
theorem rtext_text (s : ByteArray) (rest : List UInt8) (h : s.size ≤ 140737488351232) : rtext s.size (numb s.size ++ s.data.toList ++ rest) = (s.data.toList, 0, (numb s.size).length + s.size) := by
  have hl : s.data.toList.length = s.size := by rw [Array.length_toList]; rfl
  unfold rtext
  rw [List.append_assoc, rd_numb0 _ (by omega), List.drop_left]
  simp only
  rw [if_neg (by omega), if_neg (by simp), if_neg (by omega), if_neg (by simp only [List.length_append]; omega)]
  rw [show s.size = s.data.toList.length from hl.symm, List.take_left]

/-- The bytes of an element. -/
def enc1 (x : Int × Nat × Int × ByteArray) : List UInt8 :=
  if pk x.1 = 0 then numb x.2.1 else if pk x.1 = 1 then numb (zig (wrap64 (x.2.1 : Int))) else if pk x.1 = 2 then fixb x.2.1 8 else numb x.2.2.2.size ++ x.2.2.2.data.toList
def encs (L : List (Int × Nat × Int × ByteArray)) : List UInt8 := L.flatMap enc1
theorem encs_take {L : List (Int × Nat × Int × ByteArray)} {k : Nat} {x : Int × Nat × Int × ByteArray} (h : L[k]? = some x) : encs (L.take (k + 1)) = encs (L.take k) ++ enc1 x := by
  unfold encs
  rw [List.take_add_one, h]; simp
theorem encs_drop {L : List (Int × Nat × Int × ByteArray)} {k : Nat} {x : Int × Nat × Int × ByteArray} (h : L[k]? = some x) : (encs L).drop (encs (L.take k)).length = enc1 x ++ encs (L.drop (k + 1)) := by
  have e : encs L = encs (L.take k) ++ encs (L.drop k) := by unfold encs; rw [← List.flatMap_append, List.take_append_drop]
  have e2 : L.drop k = x :: L.drop (k + 1) := by
    obtain ⟨h1, h2⟩ := List.getElem?_eq_some_iff.1 h
    rw [List.drop_eq_getElem_cons h1, h2]
  rw [e, List.drop_left, e2]
  unfold encs
  simp

theorem enc1_len (x : Int × Nat × Int × ByteArray) (hn : x.2.1 ≤ 18446744073709551615) (hs : x.2.2.2.size ≤ 140737488351232) : (enc1 x).length ≤ 10 + x.2.2.2.size := by
  have hz := (zig_eq (wrap64 (x.2.1 : Int)) (by unfold wrap64; omega) (by unfold wrap64; omega)).2
  have h1 := numb_len10 hn
  have h2 := numb_len10 hz
  have h3 := numb_len10 (show x.2.2.2.size ≤ 18446744073709551615 by omega)
  have hl : x.2.2.2.data.toList.length = x.2.2.2.size := by rw [Array.length_toList]; rfl
  unfold enc1
  split
  · omega
  split
  · omega
  split
  · rw [fixb_len]; omega
  · rw [List.length_append]; omega

theorem own : ownKnob Try.prog.godebug = none := by kernel_rfl
theorem laidOut : laidOutB Try.prog = true := by kernel_rfl

def BackRel (w : World) (B b : Nat) (L : List (Int × Nat × Int × ByteArray)) (i : Value) (wr : World) : Prop :=
  ∃ k : Nat, i = .int .i64 k ∧ k ≤ L.length ∧ isBuf wr B b (encs (L.take k)) 16777216 ∧ Below w.heap.size w wr ∧ B ≤ wr.heap.size
def BackRel2 (P : World → Prop) (r : Nat) (L : List (Int × Nat × Int × ByteArray)) (i : Value) (wr : World) : Prop :=
  ∃ k : Nat, i = .int .i64 k ∧ k ≤ L.length ∧ isRd wr r ⟨(encs L).toArray⟩ (encs (L.take k)).length ∧ P wr

set_option maxRecDepth 100000 in
set_option maxHeartbeats 4000000 in
theorem walk (v : Value) (L : List (Int × Nat × Int × ByteArray)) (w : World) (hv : IsPuts w v L) :
    Calls Try.prog 11 #[v] w fun e w' => e = .returned (.bool true) ∧ Below w.heap.size w w' := by
  obtain ⟨ao, cap, rfl, hLm, hcells⟩ := hv
  have Hcells := Lib.hid hcells
  clear hcells
  go_enter Try.func11, Try.ntmps11
  go_wp2_with fail
  have hn0 : Calls Try.prog 24 #[.int .i64 16777216] w (NewPost 16777216 w) := new_any 16777216 w
  (with_reducible refine hn0.mono ?_)
  clear hn0
  rintro e w1 ⟨rfl, hnew, hc1, hz1e⟩
  have hz1 : w.heap.size < w1.heap.size := by omega
  clear hz1e
  go_wp2_with fail
  (with_reducible refine (known_any _).mono ?_)
  rintro e w3 ⟨rfl, hc3⟩
  have hb3 : isBuf w3 w3.heap.size w.heap.size [] 16777216 := (hnew.chg hc3 (fun e => e)).buf _
  have hc03 : Below w.heap.size w w3 := (hc1.trans1 hc3).toBelow
  have hz3 : w1.heap.size ≤ w3.heap.size := hc3.size
  clear hnew hc1 hc3
  go_wp2_with fail
  go_loopw [4] (fun i wr => BackRel w w3.heap.size w.heap.size L i wr) (fun i _ => L.length - (intOf i).toNat)
  case atStart => exact ⟨0, rfl, Nat.zero_le _, hb3, hc03, Nat.le_refl _⟩
  case round =>
    clear hb3 hc03
    obtain ⟨k, rfl, hk, hb, hbel, hBw⟩ := hrel
    have Hb := Lib.hid hb
    clear hb
    by_cases hlt : k < L.length
    · obtain ⟨x, hx⟩ : ∃ x, L[k]? = some x := ⟨_, List.getElem?_eq_getElem hlt⟩
      obtain ⟨b, o, hao, hbl, c0, c1, c2, c3, x0, x1, xn, xs⟩ := Hcells.out k x hx
      have Hx := Lib.hid hx
      have Htake := Lib.hid (encs_take hx)
      have hlen := enc1_len x xn xs
      clear hx
      obtain ⟨x, n, y, s⟩ := x
      simp only at c0 c1 c2 c3 x0 x1 xn xs hlen
      have d0 : wr.cell? ⟨b, o + k * 4, none⟩ = some (.int .i64 x) := by rw [hbel.cell hbl]; exact c0
      have d1 : wr.cell? ⟨b, o + k * 4 + 1, none⟩ = some (.int .u64 n) := by rw [hbel.cell hbl]; exact c1
      have d3 : wr.cell? ⟨b, o + k * 4 + 3, none⟩ = some (.string s) := by rw [hbel.cell hbl]; exact c3
      clear c0 c1 c2 c3
      subst hao
      obtain ⟨m, hm, hm4⟩ : ∃ m : Int, pk x = m ∧ (m = 0 ∨ m = 1 ∨ m = 2 ∨ m = 3) := ⟨pk x, rfl, by unfold pk; split <;> omega⟩
      have hpick : ∀ w, Calls Try.prog 22 #[.int .i64 x, .int .i64 4] w fun e w' => e = .returned (.int .i64 m) ∧ w = w' := by
        intro w; rw [← hm]; exact pick_any x 4 w x0 x1 (by decide) (by decide)
      have Hpick := Lib.hid hpick
      have hmx : pk (x, n, y, s).1 = m := hm
      clear hpick hm
      have Hgo : Hid (∀ w4, Chg (BufS wr w3.heap.size w.heap.size) wr w4 → Below w.heap.size w w4 ∧ w3.heap.size ≤ w4.heap.size) := fun w4 h =>
        ⟨hbel.trans (h.below (by omega) (fun i _ e => by rcases e with e | e <;> omega)), Nat.le_trans hBw h.size⟩
      have Hno : Hid (∀ w4, Chg Nob wr w4 → Below w.heap.size w w4 ∧ w4.cell? ⟨b, o + k * 4 + 3, none⟩ = some (.string s)) := fun w4 h =>
        ⟨hbel.trans (h.below (by omega) (fun i _ e => e.elim)), h.cell' d3 (fun e => e)⟩
      have hu : (encs (L.take k)).length ≤ 16777216 := Hb.out.1
      have hsum : IntKind.i64.wrap ((s.size : Int) + 11) = (s.size : Int) + 11 := by apply IntWalk.i64_in; omega
      have hsz4 : s.size ≤ 9223372036854775807 := by omega
      rcases hm4 with rfl | rfl | rfl | rfl
      · have Henc : Hid (enc1 (x, n, y, s) = numb n) := by show _ = _; unfold enc1; rw [if_pos hmx]
        rw [Henc.out] at hlen
        have hleft : (encs (L.take k)).length + (numb n).length > 16777216 → decide ((16777216 : Int) - ((encs (L.take k)).length : Int) < (s.size : Int) + 11) = true := fun h => decide_eq_true (by omega)
        have Hleft := Lib.hid hleft
        clear hlen hmx x0 x1 hleft
        go_wp2_with fail
        (with_reducible refine (Hpick.out _).mono ?_)
        rintro e w4 ⟨rfl, rfl⟩
        go_wp2_with fail
        have h1 : Calls Try.prog 26 #[.pointer (some ⟨w.heap.size, 0, none⟩), .int .u64 n] wr (PutPost w3.heap.size w.heap.size (encs (L.take k)) (numb n) 16777216 wr) := uint_any w3.heap.size w.heap.size _ _ n _ xn hBw Hb.out
        (with_reducible refine h1.mono ?_)
        clear h1
        rintro e w4 (⟨hfit, rfl, hc4, hb4⟩ | ⟨hfit, rfl, hc4, hb4⟩)
        · obtain ⟨g1, g2⟩ := Hgo.out w4 hc4
          clear hc4
          go_wp2_with fail
          go_roundw
          case rel => exact ⟨k + 1, by go_num, by omega, by rw [Htake.out, Henc.out]; exact hb4, g1, g2⟩
          case measure => simp [intOf]; omega
        · obtain ⟨g1, g2⟩ := Hno.out w4 hc4
          clear hc4
          have Hb4 := Lib.hid hb4
          clear hb4
          have Hl := Lib.hid (Hleft.out hfit)
          go_wp2_with fail
          go_quiet ((go_at_call 30; exact bleft_quiet (Hb4.out)))
          go_wp2_with fail
          go_ret
          exact ⟨congrArg (fun q => Ending.returned (.bool q)) Hl.out, below_drawn g1 _⟩
      · have Henc : Hid (enc1 (x, n, y, s) = numb (zig (wrap64 (n : Int)))) := by show _ = _; unfold enc1; rw [if_neg (by rw [hmx]; decide), if_pos hmx]
        rw [Henc.out] at hlen
        have hleft : (encs (L.take k)).length + (numb (zig (wrap64 (n : Int)))).length > 16777216 → decide ((16777216 : Int) - ((encs (L.take k)).length : Int) < (s.size : Int) + 11) = true := fun h => decide_eq_true (by omega)
        have Hleft := Lib.hid hleft
        clear hlen hmx x0 x1 hleft
        go_wp2_with fail
        (with_reducible refine (Hpick.out _).mono ?_)
        rintro e w4 ⟨rfl, rfl⟩
        go_wp2_with fail
        have h1 : Calls Try.prog 31 #[.pointer (some ⟨w.heap.size, 0, none⟩), .int .i64 (wrap64 (n : Int))] wr (PutPost w3.heap.size w.heap.size (encs (L.take k)) (numb (zig (wrap64 (n : Int)))) 16777216 wr) := int_any w3.heap.size w.heap.size _ _ (wrap64 (n : Int)) _ (by unfold wrap64; omega) (by unfold wrap64; omega) hBw Hb.out
        (with_reducible refine h1.mono ?_)
        clear h1
        rintro e w4 (⟨hfit, rfl, hc4, hb4⟩ | ⟨hfit, rfl, hc4, hb4⟩)
        · obtain ⟨g1, g2⟩ := Hgo.out w4 hc4
          clear hc4
          go_wp2_with fail
          go_roundw
          case rel => exact ⟨k + 1, by go_num, by omega, by rw [Htake.out, Henc.out]; exact hb4, g1, g2⟩
          case measure => simp [intOf]; omega
        · obtain ⟨g1, g2⟩ := Hno.out w4 hc4
          clear hc4
          have Hb4 := Lib.hid hb4
          clear hb4
          have Hl := Lib.hid (Hleft.out hfit)
          go_wp2_with fail
          go_quiet ((go_at_call 30; exact bleft_quiet (Hb4.out)))
          go_wp2_with fail
          go_ret
          exact ⟨congrArg (fun q => Ending.returned (.bool q)) Hl.out, below_drawn g1 _⟩
      · have Henc : Hid (enc1 (x, n, y, s) = fixb n 8) := by show _ = _; unfold enc1; rw [if_neg (by rw [hmx]; decide), if_neg (by rw [hmx]; decide), if_pos hmx]
        rw [Henc.out] at hlen
        have hleft : (encs (L.take k)).length + (fixb n 8).length > 16777216 → decide ((16777216 : Int) - ((encs (L.take k)).length : Int) < (s.size : Int) + 11) = true := fun h => decide_eq_true (by omega)
        have Hleft := Lib.hid hleft
        clear hlen hmx x0 x1 hleft
        go_wp2_with fail
        (with_reducible refine (Hpick.out _).mono ?_)
        rintro e w4 ⟨rfl, rfl⟩
        go_wp2_with fail
        have h1 : Calls Try.prog 43 #[.pointer (some ⟨w.heap.size, 0, none⟩), .int .u64 n, .int .i64 8] wr (PutPost w3.heap.size w.heap.size (encs (L.take k)) (fixb n 8) 16777216 wr) := fixed_any w3.heap.size w.heap.size _ _ n 8 _ (.inr (.inr (.inr rfl))) (by simp only [Nat.reducePow]; omega) hBw Hb.out
        (with_reducible refine h1.mono ?_)
        clear h1
        rintro e w4 (⟨hfit, rfl, hc4, hb4⟩ | ⟨hfit, rfl, hc4, hb4⟩)
        · obtain ⟨g1, g2⟩ := Hgo.out w4 hc4
          clear hc4
          go_wp2_with fail
          go_roundw
          case rel => exact ⟨k + 1, by go_num, by omega, by rw [Htake.out, Henc.out]; exact hb4, g1, g2⟩
          case measure => simp [intOf]; omega
        · obtain ⟨g1, g2⟩ := Hno.out w4 hc4
          clear hc4
          have Hb4 := Lib.hid hb4
          clear hb4
          have Hl := Lib.hid (Hleft.out hfit)
          go_wp2_with fail
          go_quiet ((go_at_call 30; exact bleft_quiet (Hb4.out)))
          go_wp2_with fail
          go_ret
          exact ⟨congrArg (fun q => Ending.returned (.bool q)) Hl.out, below_drawn g1 _⟩
      · have Henc : Hid (enc1 (x, n, y, s) = (numb s.size ++ s.data.toList)) := by show _ = _; unfold enc1; rw [if_neg (by rw [hmx]; decide), if_neg (by rw [hmx]; decide), if_neg (by rw [hmx]; decide)]
        rw [Henc.out] at hlen
        have hleft : (encs (L.take k)).length + ((numb s.size ++ s.data.toList)).length > 16777216 → decide ((16777216 : Int) - ((encs (L.take k)).length : Int) < (s.size : Int) + 11) = true := fun h => decide_eq_true (by omega)
        have Hleft := Lib.hid hleft
        clear hlen hmx x0 x1 hleft
        go_wp2_with fail
        (with_reducible refine (Hpick.out _).mono ?_)
        rintro e w4 ⟨rfl, rfl⟩
        go_wp2_with fail
        have h1 : Calls Try.prog 44 #[.pointer (some ⟨w.heap.size, 0, none⟩), .string s] wr (PutPost w3.heap.size w.heap.size (encs (L.take k)) ((numb s.size ++ s.data.toList)) 16777216 wr) := text_any w3.heap.size w.heap.size _ _ s _ hsz4 hBw Hb.out
        (with_reducible refine h1.mono ?_)
        clear h1
        rintro e w4 (⟨hfit, rfl, hc4, hb4⟩ | ⟨hfit, rfl, hc4, hb4⟩)
        · obtain ⟨g1, g2⟩ := Hgo.out w4 hc4
          clear hc4
          go_wp2_with fail
          go_roundw
          case rel => exact ⟨k + 1, by go_num, by omega, by rw [Htake.out, Henc.out]; exact hb4, g1, g2⟩
          case measure => simp [intOf]; omega
        · obtain ⟨g1, g2⟩ := Hno.out w4 hc4
          clear hc4
          have Hb4 := Lib.hid hb4
          clear hb4
          have Hl := Lib.hid (Hleft.out hfit)
          go_wp2_with fail
          go_quiet ((go_at_call 30; exact bleft_quiet (Hb4.out)))
          go_wp2_with fail
          go_ret
          exact ⟨congrArg (fun q => Ending.returned (.bool q)) Hl.out, below_drawn g1 _⟩
    · obtain rfl : k = L.length := by omega
      rw [List.take_length] at Hb
      go_wp2_with fail
      (with_reducible refine (string_any w3.heap.size w.heap.size (encs L) 16777216 wr Hb.out).mono ?_)
      rintro e w4 ⟨rfl, rfl⟩
      go_wp2_with fail
      (with_reducible refine (read_any _ _).mono ?_)
      rintro e w4 ⟨rfl, hw4⟩
      have hsize : (⟨(encs L).toArray⟩ : ByteArray).size = (encs L).length := by show (encs L).toArray.size = _; simp
      have hr4 : isRd w4 wr.heap.size ⟨(encs L).toArray⟩ 0 := ⟨Nat.zero_le _, by rw [hsize]; have := Hb.out.1; omega, by rw [hw4]; exact heap_alloc_new wr _⟩
      have hc4 : Chg Nob wr w4 := by rw [hw4]; exact (Chg.refl _ _).alloc _
      have hb4 : isBuf w4 w3.heap.size w.heap.size (encs L) 16777216 := Hb.out.nob hc4
      have hbw : w.heap.size < wr.heap.size := by omega
      have hbel4 : Below w.heap.size w w4 := hbel.trans (hc4.below (by omega) (fun _ _ e => e.elim))
      have hwr4 : wr.heap.size ≤ w4.heap.size := hc4.size
      obtain ⟨P, hP⟩ : ∃ P : World → Prop, ∀ q, P q ↔ Below wr.heap.size wr q := ⟨_, fun _ => Iff.rfl⟩
      have hP0 : P w4 := (hP _).2 hc4.toBelow
      have hPstep : ∀ u q, P u → Chg (At1 wr.heap.size) u q → P q := fun u q h h2 => (hP _).2 (((hP _).1 h).trans (h2.below ((hP _).1 h).size (fun i _ e => by have e2 : i = wr.heap.size := e; omega)))
      have hPbuf : ∀ q, P q → isBuf q w3.heap.size w.heap.size (encs L) 16777216 := fun q h => Hb.out.nob (Chg.of_below ((hP _).1 h))
      have hPbel : ∀ q, P q → Below w.heap.size w q := fun q h => hbel.trans (((hP _).1 h).mono (by omega))
      have HPstep := Lib.hid hPstep
      have HPbuf := Lib.hid hPbuf
      have HPbel := Lib.hid hPbel
      have Hsize := Lib.hid hsize
      clear hw4 hc4 hbel Hb hP hsize hb4 hbel4 hwr4 hPstep hPbuf hPbel
      generalize wr.heap.size = rp at *
      go_wp2_with fail
      go_loopw [7] (fun i wq => BackRel2 P rp L i wq) (fun i _ => L.length - (intOf i).toNat)
      case atStart => exact ⟨0, rfl, Nat.zero_le _, by simpa [encs] using hr4, hP0⟩
      case round =>
        clear hr4 hP0 hBw
        obtain ⟨k, rfl, hk, hr, hp⟩ := hrel
        have Hr := Lib.hid hr
        have HP := Lib.hid hp
        clear hr hp
        by_cases hlt : k < L.length
        · obtain ⟨x, hx⟩ : ∃ x, L[k]? = some x := ⟨_, List.getElem?_eq_getElem hlt⟩
          obtain ⟨b, o, hao, hbl, c0, c1, c2, c3, x0, x1, xn, xs⟩ := Hcells.out k x hx
          have Htake := Lib.hid (encs_take hx)
          have Hdrop := Lib.hid (encs_drop hx)
          clear hx
          obtain ⟨x, n, y, s⟩ := x
          simp only at c0 c1 c2 c3 x0 x1 xn xs
          have hcell : ∀ u, P u → u.cell? ⟨b, o + k * 4, none⟩ = some (.int .i64 x) ∧ u.cell? ⟨b, o + k * 4 + 1, none⟩ = some (.int .u64 n) ∧ u.cell? ⟨b, o + k * 4 + 3, none⟩ = some (.string s) := fun u h =>
            ⟨by rw [(HPbel.out u h).cell hbl]; exact c0, by rw [(HPbel.out u h).cell hbl]; exact c1, by rw [(HPbel.out u h).cell hbl]; exact c3⟩
          have Hcell := Lib.hid hcell
          obtain ⟨d0, d1, d3⟩ := hcell _ HP.out
          clear c0 c1 c2 c3 hcell
          subst hao
          obtain ⟨m, hm, hm4⟩ : ∃ m : Int, pk x = m ∧ (m = 0 ∨ m = 1 ∨ m = 2 ∨ m = 3) := ⟨pk x, rfl, by unfold pk; split <;> omega⟩
          have hpick : ∀ w, Calls Try.prog 22 #[.int .i64 x, .int .i64 4] w fun e w' => e = .returned (.int .i64 m) ∧ w = w' := by
            intro w; rw [← hm]; exact pick_any x 4 w x0 x1 (by decide) (by decide)
          have Hpick := Lib.hid hpick
          have hmx : pk (x, n, y, s).1 = m := hm
          clear hpick hm
          rcases hm4 with rfl | rfl | rfl | rfl
          · have Henc : Hid (enc1 (x, n, y, s) = numb n) := by show _ = _; unfold enc1; rw [if_pos hmx]
            have hdr : rd 0 0 ((⟨(encs L).toArray⟩ : ByteArray).data.toList.drop (encs (L.take k)).length) = (n, (numb n).length, 0) := by
              rw [show (⟨(encs L).toArray⟩ : ByteArray).data.toList = encs L from rfl, Hdrop.out, Henc.out]
              exact rd_numb0 _ xn
            have hlen : (encs (L.take k)).length + ((numb n).length) = (encs (L.take (k + 1))).length := by rw [Htake.out, Henc.out, List.length_append]
            clear hmx x0 x1 Henc Htake Hdrop
            go_wp2_with fail
            (with_reducible refine (Hpick.out _).mono ?_)
            rintro e w6 ⟨rfl, rfl⟩
            go_wp2_with fail
            have h1 := ruint_any _ _ _ _ Hr.out
            rw [hdr] at h1
            simp only at h1
            rw [hlen] at h1
            have h2 : Calls Try.prog 25 #[.pointer (some ⟨rp, 0, none⟩)] wr (RdPost rp ⟨(encs L).toArray⟩ (encs (L.take (k + 1))).length (.int .u64 n) 0 wr) := h1
            (with_reducible refine h2.mono ?_)
            clear h1 h2 hdr hlen
            rintro e w6 ⟨rfl, hr6, hc6⟩
            have hp6 := HPstep.out _ _ HP.out hc6
            obtain ⟨d0, d1, d3⟩ := Hcell.out _ hp6
            have HP6 := Lib.hid hp6
            have Hr6 := Lib.hid hr6
            clear hc6 hp6 hr6
            go_wp2_with fail
            go_roundw
            case rel => exact ⟨k + 1, by go_num, by omega, Hr6.out, HP6.out⟩
            case measure => simp [intOf]; omega
          · have Henc : Hid (enc1 (x, n, y, s) = numb (zig (wrap64 (n : Int)))) := by show _ = _; unfold enc1; rw [if_neg (by rw [hmx]; decide), if_pos hmx]
            have hdr : rd 0 0 ((⟨(encs L).toArray⟩ : ByteArray).data.toList.drop (encs (L.take k)).length) = (zig (wrap64 (n : Int)), (numb (zig (wrap64 (n : Int)))).length, 0) := by
              rw [show (⟨(encs L).toArray⟩ : ByteArray).data.toList = encs L from rfl, Hdrop.out, Henc.out]
              exact rd_numb0 _ (zig_eq _ (by unfold wrap64; omega) (by unfold wrap64; omega)).2
            have hlen : (encs (L.take k)).length + ((numb (zig (wrap64 (n : Int)))).length) = (encs (L.take (k + 1))).length := by rw [Htake.out, Henc.out, List.length_append]
            clear hmx x0 x1 Henc Htake Hdrop
            go_wp2_with fail
            (with_reducible refine (Hpick.out _).mono ?_)
            rintro e w6 ⟨rfl, rfl⟩
            go_wp2_with fail
            have h1 := rint_any _ _ _ _ Hr.out
            rw [hdr] at h1
            simp only at h1
            rw [hlen] at h1
            have h2 : Calls Try.prog 34 #[.pointer (some ⟨rp, 0, none⟩)] wr (RdPost rp ⟨(encs L).toArray⟩ (encs (L.take (k + 1))).length (.int .i64 (wrap64 (n : Int))) 0 wr) := by rw [unzig_zig] at h1; exact h1
            (with_reducible refine h2.mono ?_)
            clear h1 h2 hdr hlen
            rintro e w6 ⟨rfl, hr6, hc6⟩
            have hp6 := HPstep.out _ _ HP.out hc6
            obtain ⟨d0, d1, d3⟩ := Hcell.out _ hp6
            have HP6 := Lib.hid hp6
            have Hr6 := Lib.hid hr6
            clear hc6 hp6 hr6
            go_wp2_with fail
            go_roundw
            case rel => exact ⟨k + 1, by go_num, by omega, Hr6.out, HP6.out⟩
            case measure => simp [intOf]; omega
          · have Henc : Hid (enc1 (x, n, y, s) = fixb n 8) := by show _ = _; unfold enc1; rw [if_neg (by rw [hmx]; decide), if_neg (by rw [hmx]; decide), if_pos hmx]
            have hdr : rfix 8 ((⟨(encs L).toArray⟩ : ByteArray).data.toList.drop (encs (L.take k)).length) = (n, 0, 8) := by
              rw [show (⟨(encs L).toArray⟩ : ByteArray).data.toList = encs L from rfl, Hdrop.out, Henc.out]
              exact rfix_fixb _ xn
            have hlen : (encs (L.take k)).length + (8) = (encs (L.take (k + 1))).length := by rw [Htake.out, Henc.out, List.length_append]; rw [fixb_len]
            clear hmx x0 x1 Henc Htake Hdrop
            go_wp2_with fail
            (with_reducible refine (Hpick.out _).mono ?_)
            rintro e w6 ⟨rfl, rfl⟩
            go_wp2_with fail
            have h1 := rfixed_all _ _ _ 8 _ Hr.out
            rw [hdr] at h1
            simp only at h1
            rw [hlen] at h1
            have h2 : Calls Try.prog 36 #[.pointer (some ⟨rp, 0, none⟩), .int .i64 8] wr (RdPost rp ⟨(encs L).toArray⟩ (encs (L.take (k + 1))).length (.int .u64 n) 0 wr) := h1
            (with_reducible refine h2.mono ?_)
            clear h1 h2 hdr hlen
            rintro e w6 ⟨rfl, hr6, hc6⟩
            have hp6 := HPstep.out _ _ HP.out hc6
            obtain ⟨d0, d1, d3⟩ := Hcell.out _ hp6
            have HP6 := Lib.hid hp6
            have Hr6 := Lib.hid hr6
            clear hc6 hp6 hr6
            go_wp2_with fail
            go_roundw
            case rel => exact ⟨k + 1, by go_num, by omega, Hr6.out, HP6.out⟩
            case measure => simp [intOf]; omega
          · have Henc : Hid (enc1 (x, n, y, s) = (numb s.size ++ s.data.toList)) := by show _ = _; unfold enc1; rw [if_neg (by rw [hmx]; decide), if_neg (by rw [hmx]; decide), if_neg (by rw [hmx]; decide)]
            have hdr : rtext s.size ((⟨(encs L).toArray⟩ : ByteArray).data.toList.drop (encs (L.take k)).length) = (s.data.toList, 0, (numb s.size).length + s.size) := by
              rw [show (⟨(encs L).toArray⟩ : ByteArray).data.toList = encs L from rfl, Hdrop.out, Henc.out]
              exact rtext_text s _ xs
            have hlen : (encs (L.take k)).length + ((numb s.size).length + s.size) = (encs (L.take (k + 1))).length := by rw [Htake.out, Henc.out, List.length_append]; rw [List.length_append]; have hl : s.data.toList.length = s.size := (by rw [Array.length_toList]; rfl); omega
            clear hmx x0 x1 Henc Htake Hdrop
            go_wp2_with fail
            (with_reducible refine (Hpick.out _).mono ?_)
            rintro e w6 ⟨rfl, rfl⟩
            go_wp2_with fail
            have h1 := rtext_any _ _ _ s.size _ Hr.out (by omega)
            rw [hdr] at h1
            simp only at h1
            rw [hlen] at h1
            have h2 : Calls Try.prog 38 #[.pointer (some ⟨rp, 0, none⟩), .int .i64 s.size] wr (RdPost rp ⟨(encs L).toArray⟩ (encs (L.take (k + 1))).length (.string s) 0 wr) := h1
            (with_reducible refine h2.mono ?_)
            clear h1 h2 hdr hlen
            rintro e w6 ⟨rfl, hr6, hc6⟩
            have hp6 := HPstep.out _ _ HP.out hc6
            obtain ⟨d0, d1, d3⟩ := Hcell.out _ hp6
            have HP6 := Lib.hid hp6
            have Hr6 := Lib.hid hr6
            clear hc6 hp6 hr6
            go_wp2_with fail
            go_roundw
            case rel => exact ⟨k + 1, by go_num, by omega, Hr6.out, HP6.out⟩
            case measure => simp [intOf]; omega
        · obtain rfl : k = L.length := by omega
          rw [List.take_length] at Hr
          have he : ((⟨(encs L).toArray⟩ : ByteArray).size : Int) - ((encs L).length : Int) = 0 := by rw [Hsize.out]; omega
          go_wp2_with fail
          have h1 := rleft_any _ _ _ _ Hr.out
          rw [he] at h1
          (with_reducible refine h1.mono ?_)
          clear h1
          rintro e w7 ⟨rfl, q, rfl⟩
          go_wp2_with fail
          have h1 := at_any _ _ _ _ (isRd.drawn Hr.out q)
          (with_reducible refine h1.mono ?_)
          clear h1
          rintro e w7 ⟨rfl, rfl⟩
          go_wp2_with fail
          have h1 := len_any _ _ _ _ _ ((HPbuf.out _ HP.out).nob ((Chg.refl Nob _).drewN q))
          (with_reducible refine h1.mono ?_)
          clear h1
          rintro e w7 ⟨rfl, rfl⟩
          go_wp2_with fail
          go_ret
          exact ⟨rfl, below_drawn (HPbel.out _ HP.out) _⟩
set_option maxRecDepth 100000 in
theorem lifted (os : Os) (started : os.Started) (H : Type) (enc : TypeId × Value → H) :
    ReturnsInHanded {} Try.checked os 11 .any (Rows.codecBackSpec.pre6 enc Try.prog Try.f11 Rows.codecBackRow.domain false) (Rows.codecBackSpec.post enc Try.prog Try.f11 false true false false) := by
  refine returnsInHanded_of_change_sized (C := Try.checked) own started (by kernel_rfl) Try.func11
    (ChangeSpec.witness6 (enc := enc) (C := Try.checked) false ⟨#[], #[.slice none 0 0], []⟩ 8 (by kernel_rfl) (by kernel_rfl) (by kernel_rfl) (by kernel_rfl)) ?_
  intro W base args ds gs before hval0 hW hcnd hsz0 _
  have hval : ∀ (j : Nat) t v, Try.f11.params[j]? = some t → args[j]? = some v → Value.okWide Try.prog W .any base t v := hval0
  have hsz : (DataW.weightsEach Try.prog (Try.f11.params.toList ++ Rows.codecBackSpec.plain.varTypes Try.prog) (ds ++ gs)).all (· ≤ reachBytes) = true := hsz0
  have hW' := hW
  obtain ⟨p, q, hA0, hV, rfl, hfz, hnd⟩ := hW
  have hA : DataW.TrodAll enc Try.prog W 0 (fun _ => true) true Try.f11.params.toList args.toList ds p := hA0
  rw [Try.params11] at hA hval hsz
  obtain ⟨v0, vs0, d0, ds0, p0, q0, hargs, rfl, rfl, h0, r0⟩ := trodAll_cons hA
  obtain ⟨rfl, rfl, rfl⟩ := trodAll_nil r0
  obtain rfl : args = #[v0] := by cases args; simp_all
  obtain ⟨rfl, rfl⟩ := trodVars_none hV
  have k0 := h0
  have lt0 : ∀ x ∈ p0, x.block < W.heap.size := by obtain ⟨m, hm⟩ := k0; exact DataW.trod_lt m _ _ _ hm
  obtain ⟨l0, hl0⟩ := isPuts_of (hval 0 66 v0 rfl rfl) h0 (sized_at hsz (j := 0) rfl rfl)
  clear hA0 hval0
  refine (walk v0 l0 W hl0).mono fun e W' ⟨he, bel⟩ => ?_
  subst he
  exact ⟨_, rfl, _, _, _, [], _, [], hW', trodAll_mk1 (shut_bool Try.underlying4 _), (trodAll_cons_mk (Below.trod laidOut (by kernel_rfl) (of_decide_eq_true (by kernel_rfl)) k0 bel lt0) trodAll_mk0), rfl, bel.frame _, fun h => by cases h⟩

theorem over : Rows.codecBackRow.holds Try.pinned (OpenSpec.ofChange Rows.codecBackSpec) :=
  OpenClaim.holds_of_wide 11 Try.f11 rfl rfl rfl rfl rfl rfl rfl ⟨rfl, rfl, rfl, rfl, rfl⟩ rfl rfl rfl rfl rfl (by kernel_rfl) Try.func11 (by kernel_rfl)
    (of_decide_eq_true (by kernel_rfl)) (by unfold Func.isWrapper; rw [if_neg (of_decide_eq_false (by kernel_rfl))]; exact ⟨rfl, rfl⟩)
    (fun os started H enc _ => lifted os started H enc)

theorem proved : Rows.CodecBackSaid :=
  over
