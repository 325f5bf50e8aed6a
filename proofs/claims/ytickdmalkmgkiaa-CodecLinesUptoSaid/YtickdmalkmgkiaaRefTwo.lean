/- The contracts of the reference Buffer and of the reference Reader number. Conditions: as each theorem states. -/
import Derived.Test.YtickdmalkmgkiaaRefOne
import Derived.Test.YtickdmalkmgkiaaRuint
namespace Go.Proofs.Ytickdmalkmgkiaa
open Go.RowKit

/-- The reference's buffer at block b. -/
def isRB (w : World) (b : Nat) (l : List UInt8) (room : Nat) : Prop :=
  l.length ≤ room ∧ room ≤ 16777216 ∧ w.heap[b]? = some (.cells #[.string ⟨l.toArray⟩, .int .i64 room] 73 (0, 0))
theorem isRB.chg {S : Nat → Prop} {w w' : World} {b : Nat} {l : List UInt8} {room : Nat} (h : isRB w b l room) (hc : Chg S w w') (hb : ¬ S b) : isRB w' b l room := ⟨h.1, h.2.1, hc.at h.2.2 hb⟩
theorem isRB.lt {w : World} {b : Nat} {l : List UInt8} {room : Nat} (h : isRB w b l room) : b < w.heap.size := (Array.getElem?_eq_some_iff.1 h.2.2).1
def New2Post (room : Nat) (w : World) (e : Ending) (w' : World) : Prop := e = .returned (.pointer (some ⟨w.heap.size, 0, none⟩)) ∧ isRB w' w.heap.size [] room ∧ Chg Nob w w' ∧ w'.heap.size = w.heap.size + 1
set_option maxHeartbeats 400000 in
theorem New_any (n : Int) (w : World) : Calls Try.prog 41 #[.int .i64 n] w (New2Post (roomOf n) w) := by
  have post : ∀ (x : Int) (m : Nat), x = m → m ≤ 16777216 → roomOf n = m → New2Post (roomOf n) w (.returned (.pointer (some ⟨w.heap.size, 0, none⟩))) (w.alloc (.cells #[.string ⟨#[]⟩, .int .i64 x] 73)) := by
    intro x m hx hm hr
    subst hx
    rw [hr]
    exact ⟨rfl, ⟨Nat.zero_le _, hm, heap_alloc_new w _⟩, (Chg.refl _ _).alloc _, by simp⟩
  by_cases h0 : n < 0
  · go_enter Try.func41, Try.ntmps41
    go_wp2
    go_ret
    exact post 0 0 rfl (by omega) (by simp [roomOf, h0])
  · by_cases h1 : 16777216 < n
    · go_enter Try.func41, Try.ntmps41
      go_wp2
      go_ret
      exact post _ 16777216 rfl (by omega) (by simp [roomOf, h0, h1])
    · go_enter Try.func41, Try.ntmps41
      go_wp2
      go_ret
      exact post n n.toNat (by omega) (by omega) (by unfold roomOf; rw [if_neg (by omega), if_neg (by omega)])

def Put2Post (b : Nat) (l s : List UInt8) (room : Nat) (w : World) (e : Ending) (w' : World) : Prop :=
  (l.length + s.length ≤ room ∧ e = .returned (.int .i64 0) ∧ Chg (At1 b) w w' ∧ isRB w' b (l ++ s) room) ∨
  (room < l.length + s.length ∧ e = .returned (.int .i64 12) ∧ Chg (At1 b) w w' ∧ isRB w' b l room)
set_option maxRecDepth 100000 in
set_option maxHeartbeats 400000 in
theorem Put_any (b : Nat) (l s : List UInt8) (room : Nat) (w : World) (hbuf : isRB w b l room) (hs : s.length ≤ 1000000000000000000) :
    Calls Try.prog 59 #[.pointer (some ⟨b, 0, none⟩), .string ⟨s.toArray⟩] w (Put2Post b l s room w) := by
  have Hbuf := Lib.hid hbuf
  obtain ⟨hl, hr, hb⟩ := hbuf
  have Hb := Lib.hid hb
  obtain ⟨c0, c1, f0, f1⟩ := cell_two hb
  clear hb
  by_cases hroom : room < l.length + s.length
  · have hd : decide ((room : Int) - (l.length : Int) < (s.length : Int)) = true := by simp; omega
    go_enter Try.func59, Try.ntmps59
    go_wp2_with fail
    go_quiet (fail)
    go_wp2_with fail
    go_ret
    exact Or.inr ⟨hroom, rfl, (Chg.refl _ _).drewN _, Hbuf.out.chg ((Chg.refl Nob _).drewN _) (fun e => e)⟩
  · have hd : decide ((room : Int) - (l.length : Int) < (s.length : Int)) = false := by simp; omega
    go_enter Try.func59, Try.ntmps59
    go_wp2_with fail
    go_quiet (fail)
    go_wp2_with fail
    go_ret
    refine Or.inl ⟨by omega, rfl, (((Chg.refl (At1 b) w).drewN _).setCell (p := ⟨b, 0, none⟩) (fun _ => rfl) _), by simp; omega, hr, ?_⟩
    have e : (⟨(l ++ s).toArray⟩ : ByteArray) = ⟨l.toArray⟩ ++ ⟨s.toArray⟩ := by apply ByteArray.ext; simp
    rw [e]
    exact block_two_set0 Hb.out

theorem pick_any (c n : Int) (w : World) (h1 : -9223372036854775808 ≤ c) (h2 : c ≤ 9223372036854775807) (hn : 0 < n) (hn2 : n ≤ 1000) :
    Calls Try.prog 22 #[.int .i64 c, .int .i64 n] w fun e w' => e = .returned (.int .i64 ((if c < 0 then -(c + 1) else c) % n)) ∧ w = w' := by
  have hnz : (n == 0) = false := by simp; omega
  by_cases h : c < 0
  · rw [if_pos h]
    have He : Hid (-((c + 1).tmod n) = -(c + 1) % n) := by
      show _ = _
      rw [← Int.neg_tmod, Int.tmod_eq_emod_of_nonneg (by omega)]
    go_enter Try.func22, Try.ntmps22
    go_wp2
    go_ret
    exact ⟨by rw [← He.out]; rfl, rfl⟩
  · rw [if_neg h]
    have He := Lib.hid (Int.tmod_eq_emod_of_nonneg (a := c) (b := n) (by omega))
    go_enter Try.func22, Try.ntmps22
    go_wp2
    go_ret
    exact ⟨by rw [← He.out]; rfl, rfl⟩

/-- The reference's reader at block b. -/
def isRR (w : World) (b : Nat) (s : ByteArray) (at_ : Nat) : Prop :=
  at_ ≤ s.size ∧ s.size ≤ 9223372036854775807 ∧ w.heap[b]? = some (.cells #[.string s, .int .i64 at_] 57 (0, 0))
theorem isRR.chg {S : Nat → Prop} {w w' : World} {b : Nat} {s : ByteArray} {p : Nat} (h : isRR w b s p) (hc : Chg S w w') (hb : ¬ S b) : isRR w' b s p := ⟨h.1, h.2.1, hc.at h.2.2 hb⟩
theorem isRR.lt {w : World} {b : Nat} {s : ByteArray} {p : Nat} (h : isRR w b s p) : b < w.heap.size := (Array.getElem?_eq_some_iff.1 h.2.2).1
theorem isRR.move {w : World} {b : Nat} {s : ByteArray} {p : Nat} (h : isRR w b s p) {x : Int} (p' : Nat) (hx : x = p') (hp : p' ≤ s.size) : isRR (w.setCell ⟨b, 1, none⟩ (.int .i64 x)) b s p' := by
  subst hx; exact ⟨hp, h.2.1, block_two_set1 h.2.2⟩

theorem add_acc (acc size F : Nat) (x : UInt8) (hF : F = 128 ^ size) (hacc : acc < 128 ^ size) (hs : size < 10) (h9 : ¬ (size = 9 ∧ 1 < x.toNat)) :
    IntKind.u64.wrap ((acc : Int) + IntKind.u64.wrap ((x.toNat : Int) % 128 * (F : Int))) = ((acc + x.toNat % 128 * 128 ^ size : Nat) : Int) := by
  subst hF
  have hy : x.toNat % 128 * 128 ^ size + acc < 18446744073709551616 := by
    have hx := x.toNat_lt
    rcases (by omega : size = 0 ∨ size = 1 ∨ size = 2 ∨ size = 3 ∨ size = 4 ∨ size = 5 ∨ size = 6 ∨ size = 7 ∨ size = 8 ∨ size = 9) with rfl | rfl | rfl | rfl | rfl | rfl | rfl | rfl | rfl | rfl <;> simp only [Nat.reducePow] at hacc ⊢ <;> omega
  have e1 : (x.toNat : Int) % 128 * ((128 ^ size : Nat) : Int) = ((x.toNat % 128 * 128 ^ size : Nat) : Int) := by push_cast; rfl
  rw [e1, IntKind.wrap_u64, IntKind.wrap_u64, Int.emod_eq_of_lt (b := 18446744073709551616) (by omega) (by omega), Int.emod_eq_of_lt (by omega) (by omega)]
  push_cast; rfl
theorem fac_next (size : Nat) (h : size < 9) : IntKind.u64.wrap (((128 ^ size : Nat) : Int) * 128) = ((128 ^ (size + 1) : Nat) : Int) := by
  have hp : 128 ^ (size + 1) < 18446744073709551616 := by
    rcases (by omega : size = 0 ∨ size = 1 ∨ size = 2 ∨ size = 3 ∨ size = 4 ∨ size = 5 ∨ size = 6 ∨ size = 7 ∨ size = 8) with rfl | rfl | rfl | rfl | rfl | rfl | rfl | rfl | rfl <;> decide
  have e : ((128 ^ size : Nat) : Int) * 128 = ((128 ^ (size + 1) : Nat) : Int) := by rw [Nat.pow_succ]; push_cast; rfl
  rw [e, IntKind.wrap_u64]
  generalize 128 ^ (size + 1) = G at hp
  omega

def NumR2 (s : ByteArray) (p : Nat) (w : World) (n f i : Value) (wr : World) : Prop :=
  ∃ size acc F : Nat, n = .int .u64 acc ∧ f = .int .u64 F ∧ i = .int .i64 size ∧ size ≤ 9 ∧ Hid (F = 128 ^ size) ∧ acc < 128 ^ size ∧ p + size ≤ s.size ∧ rd 0 0 (s.data.toList.drop p) = rd size acc (s.data.toList.drop (p + size)) ∧ Drw w wr

set_option maxRecDepth 100000 in
set_option maxHeartbeats 1600000 in
theorem rrnumber_any (b : Nat) (s : ByteArray) (p : Nat) (w : World) (hr : isRR w b s p) :
    Calls Try.prog 56 #[.pointer (some ⟨b, 0, none⟩)] w (NumPost (rd 0 0 (s.data.toList.drop p)) w) := by
  obtain ⟨hp, hsz, hb⟩ := hr
  obtain ⟨c0, c1, f0, f1⟩ := cell_two hb
  clear hb
  go_enter Try.func56, Try.ntmps56
  go_wp2_with fail
  go_loopw [5, 6, 7] (fun n f i wr => NumR2 s p w n f i wr) (fun _ _ i _ => 10 - (intOf i).toNat)
  case atStart => exact ⟨0, 0, 1, rfl, rfl, rfl, by omega, rfl, by simp, by omega, by simp, Drw.mk w 0⟩
  case round =>
    obtain ⟨size, acc, F, rfl, rfl, rfl, h9l, HF, hacc, hps, hrd, q, hw⟩ := hrel
    have Hrd := Lib.hid hrd; clear hrd
    have Hacc := Lib.hid hacc; clear hacc
    subst hw
    have he : size ≠ 10 := by omega
    have hs10 : size < 10 := by omega
    by_cases hend : p + size = s.size
    · have hd : ((p : Int) + (size : Int) == (s.size : Int)) = true := by simp; omega
      go_wp2_with fail
      go_quiet (fail)
      go_wp2_with fail
      go_ret3
      have hend2 : rd 0 0 (s.data.toList.drop p) = (0, 0, 10) := by
        rw [Hrd.out, List.drop_of_length_le (by simp; omega), rd, if_neg he]
      exact num_end2 hend2 rfl rfl rfl
    · have hd : ((p : Int) + (size : Int) == (s.size : Int)) = false := by simp; omega
      have hlt : p + size < s.size := by omega
      have hi : (p : Int) + (size : Int) < (s.size : Int) := by omega
      have h0 : (0 : Int) ≤ (p : Int) + (size : Int) := by omega
      have hw1 : IntKind.i64.wrap ((p : Int) + (size : Int)) = (p : Int) + (size : Int) := by apply IntWalk.i64_in; omega
      have hw2 : ((p : Int) + (size : Int)).toNat = p + size := by omega
      go_wp2_with fail
      go_quiet (fail)
      go_wp2_with fail
      go_quiet (fail)
      obtain ⟨x, hx⟩ : ∃ x, s[p + size]'hlt = x := ⟨_, rfl⟩
      simp only [hx]
      have Hx : Hid (s.data.toList[p + size]? = some x) := by rw [Lib.data_getElem? s _ hlt, hx]; rfl
      clear hw1 hw2 hx
      have hx256 : (x.toNat : Int) < 256 := by have := x.toNat_lt; omega
      have Hrd2 : Hid (rd 0 0 (s.data.toList.drop p) = rd size acc (x :: s.data.toList.drop (p + (size + 1)))) := by
        show _ = _
        rw [Hrd.out, drop_at Hx.out]; rfl
      clear Hrd
      by_cases hbad : size = 9 ∧ 1 < x.toNat
      · obtain ⟨h9, hx1⟩ := hbad
        subst h9
        go_wp2_with fail
        go_ret3
        exact num_end (Hrd2.out.trans (rd_nine hx1)) rfl rfl rfl
      · have Hor := Lib.hid (add_acc acc size F x HF.out Hacc.out hs10 hbad)
        by_cases hx128 : x.toNat < 128
        · by_cases hz : x.toNat = 0 ∧ 0 < size
          · obtain ⟨hz0, hzs⟩ := hz
            have Hend := Lib.hid (Hrd2.out.trans (rd_zero he hz0 hzs))
            by_cases h9 : size = 9
            · subst h9
              go_wp2_with fail
              go_ret3
              exact num_end Hend.out rfl rfl rfl
            · have h92 : ((size : Int) == 9) = false := by simp; omega
              go_wp2_with fail
              go_ret3
              exact num_end Hend.out rfl rfl rfl
          · have Hend := Lib.hid (Hrd2.out.trans (rd_last he hbad hx128 hz))
            by_cases h9 : size = 9
            · subst h9
              have hx0 : ¬ x.toNat = 0 := by omega
              go_wp2_with fail
              go_ret3
              exact num_end Hend.out Hor.out rfl rfl
            · have h92 : ((size : Int) == 9) = false := by simp; omega
              by_cases hx0 : x.toNat = 0
              · have hs0 : size = 0 := by omega
                subst hs0
                have Hor0 : Hid (IntKind.u64.wrap (acc : Int) = ((acc + x.toNat % 128 * 128 ^ 0 : Nat) : Int)) := by
                  show _ = _
                  have h1 := Hacc.out
                  have h2 : acc = 0 := by simpa using h1
                  subst h2; rw [hx0]; decide
                go_wp2_with fail
                go_ret3
                exact num_end Hend.out Hor0.out rfl rfl
              · go_wp2_with fail
                go_ret3
                exact num_end Hend.out Hor.out rfl rfl
        · have h9 : size ≠ 9 := by omega
          have Hend := Lib.hid (Hrd2.out.trans (rd_more he h9 hx128))
          have h92 : ((size : Int) == 9) = false := by simp; omega
          have Hfac := Lib.hid (fac_next size (by omega))
          go_wp2_with fail
          go_roundw
          case rel =>
            refine ⟨size + 1, _, _, ?_, ?_, by go_num, by omega, rfl, acc_lt Hacc.out (Nat.mod_lt _ (by omega)), by omega, Hend.out, ?_⟩
            · rw [Hor.out]
            · rw [← Hfac.out, HF.out]
            · exact Drw.mk _ _
          case measure => simp [intOf]; omega
end Go.Proofs.Ytickdmalkmgkiaa
