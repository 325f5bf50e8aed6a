/- The contract of the codec laws known. Conditions: none. -/
import Derived.Test.YtickdmalkmgkiaaRefThree
namespace Go.Proofs.Ytickdmalkmgkiaa
open Go.RowKit

theorem numb300 : numb 300 = [172, 2] := by rw [numb_ge (by decide), numb_lt (by decide)]; decide
theorem numb2 : numb 2 = [2] := by rw [numb_lt (by decide)]; decide

theorem lines_any (s : ByteArray) (w : World) : Calls Try.prog 21 #[.string s] w fun e w' => e = .returned (.func (Fn.func 51) #[] #[.pointer (some ⟨w.heap.size, 0, none⟩)]) ∧ w' = w.alloc (.cells #[.string s] 9) := by
  go_enter Try.func21, Try.ntmps21
  go_wp2
  go_ret
  exact ⟨rfl, rfl⟩
theorem run_neq_nilf (a : Addr) (w : World) : (binOp .neq 35 (.func (Fn.func 51) #[] #[.pointer (some a)]) .nilFunc).run Try.prog w = .ok (.bool true) w := by
  kernel_rfl
def RetsTrue (w : World) (e : Ending) (w' : World) : Prop := e = .returned (.bool true) ∧ Chg Nob w w'

/-- A pair of blocks laid by a buffer's making and writing: nothing that was there has turned. -/
theorem chg_new {S : Nat → Prop} {w w1 w2 : World} (h : Chg Nob w w1) (k : Chg S w1 w2) (hs : ∀ i, S i → w.heap.size ≤ i) : Chg Nob w w2 :=
  h.trans k (fun i hi e => by have := hs i e; omega)

set_option maxRecDepth 100000 in
set_option maxHeartbeats 1600000 in
theorem known_any (w : World) : Calls Try.prog 19 #[] w (RetsTrue w) := by
  have hnf := run_neq_nilf
  have kn := numb300
  have k2 := numb2
  have Kn := Lib.hid kn
  have K2 := Lib.hid k2
  clear kn k2
  go_enter Try.func19, Try.ntmps19
  go_wp2_with fail
  with_reducible refine (new_any _ _).mono ?_
  rintro e w1 ⟨rfl, hnew, hc1, hz1⟩
  have Hr9 : Hid (roomOf 9 = 9) := rfl
  rw [Hr9.out] at hnew
  go_wp2_with fail
  have h300 : Calls Try.prog 26 #[.pointer (some ⟨w.heap.size, 0, none⟩), .int .u64 300] w1 (PutPost w1.heap.size w.heap.size [] (numb 300) 9 w1) := uint_any w1.heap.size w.heap.size [] 9 300 w1 (by decide) (Nat.le_refl _) (hnew.buf _)
  rw [Kn.out] at h300
  with_reducible refine h300.mono ?_
  clear h300
  rintro e w2 hp
  rcases hp with ⟨_, rfl, hc2, hb2⟩ | ⟨hbad, _⟩
  · go_wp2_with fail
    have hs2 : (⟨#[97, 98]⟩ : ByteArray).size = 2 := rfl
    have htext := text_any w1.heap.size w.heap.size _ 9 ⟨#[97, 98]⟩ w2 (by decide) hc2.size hb2
    rw [hs2, K2.out] at htext
    with_reducible refine htext.mono ?_
    clear htext hs2
    rintro e w3 hp
    rcases hp with ⟨_, rfl, hc3, hb3⟩ | ⟨hbad, _⟩
    · go_wp2_with fail
      with_reducible refine (string_any w1.heap.size w.heap.size _ 9 w3 hb3).mono ?_
      rintro e w3' ⟨rfl, rfl⟩
      go_wp2_with fail
      with_reducible refine (read_any _ _).mono ?_
      rintro e w4 ⟨rfl, hw4⟩
      have hrd : isRd w4 w3.heap.size ⟨#[172, 2, 2, 97, 98]⟩ 0 := ⟨by decide, by decide, by rw [hw4]; exact heap_alloc_new w3 _⟩
      have hc4 : Chg Nob w3 w4 := by rw [hw4]; exact (Chg.refl _ _).alloc _
      clear hw4
      go_wp2_with fail
      have hu := ruint_any _ _ _ _ hrd
      rw [show rd 0 0 (List.drop 0 (⟨#[172, 2, 2, 97, 98]⟩ : ByteArray).data.toList) = (300, 2, 0) by decide] at hu
      with_reducible refine hu.mono ?_
      clear hu
      rintro e w5 ⟨rfl, hr5, hc5⟩
      go_wp2_with fail
      have ht := rtext_any _ _ _ 2 _ hr5 (by decide)
      rw [show rtext 2 (List.drop (0 + 2) (⟨#[172, 2, 2, 97, 98]⟩ : ByteArray).data.toList) = ([97, 98], 0, 3) by decide] at ht
      with_reducible refine ht.mono ?_
      clear ht
      rintro e w6 ⟨rfl, hr6, hc6⟩
      have hcb : Chg (At1 w3.heap.size) w3 w6 := (hc4.any.trans1 hc5).trans1 hc6
      have hb6 := hb3.chg hcb (fun e => Nat.ne_of_lt hb3.lt e) (fun k _ hk e => Nat.ne_of_lt hk e)
      go_wp2_with fail
      with_reducible refine (string_any w1.heap.size w.heap.size _ 9 w6 hb6).mono ?_
      rintro e w6' ⟨rfl, rfl⟩
      go_wp2_with fail
      have hl := rleft_any _ _ _ _ hr6
      with_reducible refine hl.mono ?_
      clear hl
      rintro e w7 ⟨rfl, q, hw7⟩
      have hb7 := hb6.nob ((Chg.refl Nob _).drewN q)
      rw [← hw7] at hb7
      have hc7 : Chg Nob w6 w7 := by rw [hw7]; exact (Chg.refl Nob _).drewN q
      clear hw7
      have hz : (((⟨#[172, 2, 2, 97, 98]⟩ : ByteArray).size : Int) - ((0 + 2 + 3 : Nat) : Int)) = 0 := by decide
      rw [hz]
      go_wp2_with fail
      have hl := left_any _ _ _ _ _ hb7
      rw [show 9 - (([] ++ [172, 2] ++ ([2] ++ (⟨#[97, 98]⟩ : ByteArray).data.toList)) : List UInt8).length = 4 by decide] at hl
      with_reducible refine hl.mono ?_
      clear hl
      rintro e w8 ⟨rfl, q2, hw8⟩
      have hc8 : Chg Nob w7 w8 := by rw [hw8]; exact (Chg.refl Nob _).drewN q2
      clear hw8
      go_wp2_with fail
      with_reducible refine (lines_any _ _).mono ?_
      rintro e w9 ⟨rfl, hw9⟩
      have hc9 : Chg Nob w8 w9 := by rw [hw9]; exact (Chg.refl Nob _).alloc _
      clear hw9
      go_wp2_with fail
      go_ret
      refine ⟨rfl, ?_⟩
      have h12 : Chg Nob w w2 := chg_new hc1 hc2 (fun i hi => by rcases hi with h | h <;> omega)
      have h13 : Chg Nob w w3 := chg_new h12 hc3 (fun i hi => by rcases hi with h | h <;> omega)
      have h16 : Chg Nob w w6 := chg_new h13 hcb (fun i hi => by have h0 := h13.size; have h1 : i = w3.heap.size := hi; omega)
      exact ((h16.trans1 hc7).trans1 hc8).trans1 hc9
    · exact absurd hbad (by decide)
  · exact absurd hbad (by decide)
end Go.Proofs.Ytickdmalkmgkiaa
