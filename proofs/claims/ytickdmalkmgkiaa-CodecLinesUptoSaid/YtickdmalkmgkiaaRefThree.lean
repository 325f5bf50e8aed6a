/- The contracts of the reference Reader: Uint, Int, Fixed, Text. Conditions: as each theorem states. -/
import Derived.Test.YtickdmalkmgkiaaRefTwo
import Derived.Test.YtickdmalkmgkiaaRtext
namespace Go.Proofs.Ytickdmalkmgkiaa
open Go.RowKit

def RRPost (b : Nat) (s : ByteArray) (p : Nat) (v : Value) (err : Nat) (w : World) (e : Ending) (w' : World) : Prop :=
  e = .returned (.tuple #[v, .int .i64 err]) ∧ isRR w' b s p ∧ Chg (At1 b) w w'

theorem isRR.drawn {w : World} {b : Nat} {s : ByteArray} {p : Nat} (h : isRR w b s p) (q : Nat) : isRR (w.drewN q) b s p := h.chg ((Chg.refl Nob w).drewN q) (fun e => e)

set_option maxRecDepth 100000 in
set_option maxHeartbeats 400000 in
theorem rruint_any (b : Nat) (s : ByteArray) (p : Nat) (w : World) (hr : isRR w b s p) :
    Calls Try.prog 33 #[.pointer (some ⟨b, 0, none⟩)] w (RRPost b s (p + (rd 0 0 (s.data.toList.drop p)).2.1) (.int .u64 (rd 0 0 (s.data.toList.drop p)).1) (rd 0 0 (s.data.toList.drop p)).2.2 w) := by
  have Hr := Lib.hid hr
  obtain ⟨hp, hsz, hb⟩ := hr
  obtain ⟨c0, c1, f0, f1⟩ := cell_two hb
  clear hb
  have hcall := rrnumber_any b s p w Hr.out
  have hcs := rd_cases (s.data.toList.drop p)
  rw [len_drop] at hcs
  have hk : (rd 0 0 (s.data.toList.drop p)).2.1 ≤ 10 ∧ (rd 0 0 (s.data.toList.drop p)).2.1 ≤ s.size - p := by
    rcases hcs with h | h | ⟨n, k, h, k1, k2, k3, k4⟩ <;> rw [h] <;> simp
    omega
  generalize rd 0 0 (s.data.toList.drop p) = r at hcall hk ⊢
  obtain ⟨n, k, err⟩ := r
  simp only at hk
  obtain ⟨k1, k2⟩ := hk
  have Hcall := Lib.hid hcall
  clear hcall hcs
  go_enter Try.func33, Try.ntmps33
  go_wp2_with fail
  with_reducible refine (Hcall.out).mono ?_
  rintro e w1 ⟨rfl, q, rfl⟩
  go_wp2_with fail
  go_ret2
  exact ⟨rfl, (Hr.out.drawn q).move (p + k) (by omega) (by omega), ((Chg.refl (At1 b) w).drewN q).trans1 (set1_chg _ b _)⟩

set_option maxRecDepth 100000 in
set_option maxHeartbeats 400000 in
theorem rrint_any (b : Nat) (s : ByteArray) (p : Nat) (w : World) (hr : isRR w b s p) :
    Calls Try.prog 35 #[.pointer (some ⟨b, 0, none⟩)] w (RRPost b s (p + (rd 0 0 (s.data.toList.drop p)).2.1) (.int .i64 (unzig (rd 0 0 (s.data.toList.drop p)).1)) (rd 0 0 (s.data.toList.drop p)).2.2 w) := by
  have hcs := rd_cases (s.data.toList.drop p)
  have hn : (rd 0 0 (s.data.toList.drop p)).1 ≤ 18446744073709551615 := by
    rcases hcs with h | h | ⟨n, k, h, _, _, _, h4⟩ <;> rw [h] <;> simp
    exact h4
  have hcall := rruint_any b s p w hr
  generalize rd 0 0 (s.data.toList.drop p) = r at hcall hn ⊢
  obtain ⟨n, k, err⟩ := r
  simp only at hn
  have Hcall := Lib.hid hcall
  clear hcall hcs hr
  by_cases hm : n % 2 = 0
  · have e : unzig n = (n : Int) / 2 := by rw [unzig, if_pos hm]; omega
    have E := Lib.hid e; clear e
    go_enter Try.func35, Try.ntmps35
    go_wp2_with fail
    with_reducible refine (Hcall.out).mono ?_
    rintro e w1 ⟨rfl, h1, h2⟩
    go_wp2_with fail
    go_ret2
    rw [RRPost, E.out]
    exact ⟨rfl, h1, h2⟩
  · have e : unzig n = -((n : Int) / 2) - 1 := by rw [unzig, if_neg hm]; omega
    have E := Lib.hid e; clear e
    go_enter Try.func35, Try.ntmps35
    go_wp2_with fail
    with_reducible refine (Hcall.out).mono ?_
    rintro e w1 ⟨rfl, h1, h2⟩
    go_wp2_with fail
    go_ret2
    rw [RRPost, E.out]
    exact ⟨rfl, h1, h2⟩

set_option maxRecDepth 100000 in
set_option maxHeartbeats 400000 in
theorem rrfixed_bad (b : Nat) (k : Int) (w : World) (hk : okSize k = false) :
    Calls Try.prog 37 #[.pointer (some ⟨b, 0, none⟩), .int .i64 k] w fun e w' => e = .returned (.tuple #[.int .u64 0, .int .i64 1]) ∧ w = w' := by
  go_enter Try.func37, Try.ntmps37
  go_wp2_with fail
  with_reducible refine (May_any _ _).mono ?_
  rintro e w1 ⟨rfl, rfl⟩
  go_wp2_with fail
  go_ret2
  exact ⟨rfl, rfl⟩

set_option maxRecDepth 100000 in
set_option maxHeartbeats 400000 in
theorem rrfixed_cut (b : Nat) (s : ByteArray) (p : Nat) (k : Int) (w : World) (hr : isRR w b s p) (hk : okSize k = true) (hc : (s.size : Int) - p < k) :
    Calls Try.prog 37 #[.pointer (some ⟨b, 0, none⟩), .int .i64 k] w (SameW2 (.int .u64 0) (.int .i64 10) w) := by
  obtain ⟨hp, hsz, hb⟩ := hr
  obtain ⟨c0, c1, f0, f1⟩ := cell_two hb
  clear hb
  have hd : decide ((s.size : Int) - (p : Int) < k) = true := by simp; omega
  go_enter Try.func37, Try.ntmps37
  go_wp2_with fail
  with_reducible refine (May_any _ _).mono ?_
  rintro e w1 ⟨rfl, rfl⟩
  go_wp2_with fail
  go_quiet (fail)
  go_wp2_with fail
  go_ret2
  exact ⟨rfl, _, rfl⟩

theorem leval_cons_drop {l : List UInt8} {j k : Nat} {x : UInt8} (h : l[j]? = some x) (hj : j < k) : leval ((l.take k).drop j) = x.toNat + 256 * leval ((l.take k).drop (j + 1)) := by
  have h2 : (l.take k)[j]? = some x := by rw [List.getElem?_take, if_pos hj]; exact h
  rw [drop_at h2]; rfl
theorem lev_step {L : Nat} (x : UInt8) (h : L < 256 ^ 7) : IntKind.u64.wrap (IntKind.u64.wrap (256 * (L : Int)) + (x.toNat : Int)) = ((x.toNat + 256 * L : Nat) : Int) := by
  have hx := x.toNat_lt
  simp only [Nat.reducePow] at h
  rw [IntKind.wrap_u64, IntKind.wrap_u64]; omega
def RRFixRel (s : ByteArray) (p K : Nat) (w : World) (n i : Value) (wr : World) : Prop :=
  ∃ j : Nat, n = .int .u64 (leval (((s.data.toList.drop p).take K).drop j)) ∧ i = .int .i64 ((j : Int) - 1) ∧ j ≤ K ∧ Drw w wr
set_option maxRecDepth 100000 in
set_option maxHeartbeats 1600000 in
theorem rrfixed_any (b : Nat) (s : ByteArray) (p k : Nat) (w : World) (hr : isRR w b s p) (hk : okSize k = true) (hc : p + k ≤ s.size) :
    Calls Try.prog 37 #[.pointer (some ⟨b, 0, none⟩), .int .i64 k] w (RRPost b s (p + k) (.int .u64 (leval ((s.data.toList.drop p).take k))) 0 w) := by
  have Hr := Lib.hid hr
  obtain ⟨hp, hsz, hb⟩ := hr
  obtain ⟨c0, c1, f0, f1⟩ := cell_two hb
  clear hb
  have hd : decide ((s.size : Int) - (p : Int) < (k : Int)) = false := by simp; omega
  have hk8 : k ≤ 8 ∧ 1 ≤ k := by have := (okSize_iff _).1 hk; omega
  obtain ⟨hk8, hk1⟩ := hk8
  go_enter Try.func37, Try.ntmps37
  go_wp2_with fail
  with_reducible refine (May_any _ _).mono ?_
  rintro e w1 ⟨rfl, rfl⟩
  go_wp2_with fail
  go_quiet (fail)
  go_wp2_with fail
  go_loopw [7, 8] (fun n i wr => RRFixRel s p k w n i wr) (fun _ i _ => (intOf i + 1).toNat)
  case atStart => exact ⟨k, by rw [List.drop_of_length_le (List.length_take_le _ _)]; rfl, rfl, by omega, Drw.mk _ _⟩
  case round =>
    obtain ⟨j, rfl, rfl, hj, q, hw⟩ := hrel
    subst hw
    have hlen : (((s.data.toList.drop p).take k).drop j).length ≤ 8 - j := by rw [List.length_drop, List.length_take]; omega
    by_cases hj0 : j = 0
    · subst hj0
      go_wp2_with fail
      go_ret2
      exact ⟨rfl, (Hr.out.drawn q).move (p + k) (by omega) hc, ((Chg.refl (At1 b) w).drewN q).trans1 (set1_chg _ b _)⟩
    · obtain ⟨i, rfl⟩ : ∃ i, j = i + 1 := ⟨j - 1, by omega⟩
      have hji : ((i + 1 : Nat) : Int) - 1 = (i : Int) := by omega
      rw [hji]
      have hlt : p + i < s.size := by omega
      have hi : (p : Int) + (i : Int) < (s.size : Int) := by omega
      have h0 : (0 : Int) ≤ (p : Int) + (i : Int) := by omega
      have hw1 : IntKind.i64.wrap ((p : Int) + (i : Int)) = (p : Int) + (i : Int) := by apply IntWalk.i64_in; omega
      have hw2 : ((p : Int) + (i : Int)).toNat = p + i := by omega
      clear hji
      go_wp2_with fail
      go_quiet (fail)
      obtain ⟨x, hx⟩ : ∃ x, s[p + i]'hlt = x := ⟨_, rfl⟩
      simp only [hx, wrap_byte]
      have Hx : Hid (s.data.toList[p + i]? = some x) := by rw [Lib.data_getElem? s _ hlt, hx]; rfl
      clear hw1 hw2 hx
      go_wp2_with fail
      go_roundw
      case rel =>
        refine ⟨i, ?_, rfl, by omega, Drw.mk _ _⟩
        have hx2 : (s.data.toList.drop p)[i]? = some x := by rw [List.getElem?_drop]; exact Hx.out
        rw [leval_cons_drop hx2 (by omega)]
        refine congrArg _ (lev_step x ?_)
        have h7 := leval_lt (((s.data.toList.drop p).take k).drop (i + 1))
        exact Nat.lt_of_lt_of_le h7 (Nat.pow_le_pow_right (by omega) (by omega))
      case measure => simp [intOf]

set_option maxRecDepth 100000 in
set_option maxHeartbeats 1600000 in
theorem rrtext_any (b : Nat) (s : ByteArray) (p : Nat) (most : Int) (w : World) (hr : isRR w b s p) (hm : most ≤ 9223372036854775807) :
    Calls Try.prog 39 #[.pointer (some ⟨b, 0, none⟩), .int .i64 most] w (RRPost b s (p + (rtext most (s.data.toList.drop p)).2.2) (.string ⟨(rtext most (s.data.toList.drop p)).1.toArray⟩) (rtext most (s.data.toList.drop p)).2.1 w) := by
  have Hr := Lib.hid hr
  obtain ⟨hp, hsz, hb⟩ := hr
  obtain ⟨c0, c1, f0, f1⟩ := cell_two hb
  clear hb
  unfold rtext
  by_cases hneg : most < 0
  · rw [if_pos hneg]
    go_enter Try.func39, Try.ntmps39
    go_wp2_with fail
    go_ret2
    exact ⟨rfl, Hr.out, Chg.refl _ _⟩
  rw [if_neg hneg]
  have hcall := rrnumber_any b s p w Hr.out
  have hcs := rd_cases (s.data.toList.drop p)
  rw [len_drop] at hcs
  have Hlen := Lib.hid (len_drop s p)
  generalize hl : s.data.toList.drop p = l at hcall hcs Hlen ⊢
  generalize rd 0 0 l = r at hcall hcs ⊢
  have Hl := Lib.hid hl
  have Hcall := Lib.hid hcall
  clear hcall hl
  have keep : ∀ q, isRR (w.drewN q) b s (p + 0) ∧ Chg (At1 b) w (w.drewN q) := fun q => ⟨Hr.out.drawn q, (Chg.refl _ w).drewN q⟩
  have Keep := Lib.hid keep
  clear keep
  rcases hcs with rfl | rfl | ⟨n, k, rfl, k1, k2, k3, k4⟩
  · rw [if_pos (by decide)]
    go_enter Try.func39, Try.ntmps39
    go_wp2_with fail
    with_reducible refine (Hcall.out).mono ?_
    rintro e w1 ⟨rfl, q, rfl⟩
    go_wp2_with fail
    go_ret2
    exact ⟨rfl, Keep.out q⟩
  · rw [if_pos (by decide)]
    go_enter Try.func39, Try.ntmps39
    go_wp2_with fail
    with_reducible refine (Hcall.out).mono ?_
    rintro e w1 ⟨rfl, q, rfl⟩
    go_wp2_with fail
    go_ret2
    exact ⟨rfl, Keep.out q⟩
  · rw [if_neg (by simp)]
    have Hk4 := Lib.hid k4; clear k4
    by_cases hbig : most < n
    · rw [if_pos hbig]
      go_enter Try.func39, Try.ntmps39
      go_wp2_with fail
      with_reducible refine (Hcall.out).mono ?_
      rintro e w1 ⟨rfl, q, rfl⟩
      go_wp2_with fail
      go_ret2
      exact ⟨rfl, Keep.out q⟩
    · rw [if_neg hbig]
      have hmax : ¬ 9223372036854775807 < n := by omega
      by_cases hcut : l.length < k + n
      · rw [if_pos hcut]
        have hcut2 : decide ((s.size : Int) - (p : Int) - (k : Int) < (n : Int)) = true := by rw [Hlen.out] at hcut; simp; omega
        have hpk : p + k ≤ s.size := by omega
        clear hcut
        have a1 : (0 : Int) ≤ (s.size : Int) - (p : Int) - (k : Int) := by omega
        have a2 : IntKind.i64.wrap ((s.size : Int) - (p : Int)) = (s.size : Int) - (p : Int) := by apply IntWalk.i64_in; omega
        have a3 : IntKind.i64.wrap ((s.size : Int) - (p : Int) - (k : Int)) = (s.size : Int) - (p : Int) - (k : Int) := by apply IntWalk.i64_in; omega
        have a4 : IntKind.u64.wrap ((s.size : Int) - (p : Int) - (k : Int)) = (s.size : Int) - (p : Int) - (k : Int) := by rw [IntKind.wrap_u64]; omega
        go_enter Try.func39, Try.ntmps39
        go_wp2_with fail
        with_reducible refine (Hcall.out).mono ?_
        rintro e w1 ⟨rfl, q, rfl⟩
        go_wp2_with fail
        go_quiet (fail)
        clear a2 a3 a4
        go_wp2_with fail
        go_ret2
        exact ⟨rfl, (Keep.out q).1.drawn _, (Keep.out q).2.drewN _⟩
      · rw [if_neg hcut]
        have hfit : p + k + n ≤ s.size := by rw [Hlen.out] at hcut; omega
        have hpk : p + k ≤ s.size := by omega
        have hcut2 : decide ((s.size : Int) - (p : Int) - (k : Int) < (n : Int)) = false := by simp; omega
        clear hcut
        have hb1 : (p : Int) + (k : Int) + (n : Int) ≤ (s.size : Int) := by omega
        have hb2 : (p : Int) + (k : Int) ≤ (p : Int) + (k : Int) + (n : Int) := by omega
        have hb3 : (0 : Int) ≤ (p : Int) + (k : Int) := by omega
        have hb4 : (0 : Int) ≤ (p : Int) + (k : Int) + (n : Int) := by omega
        have a1 : (0 : Int) ≤ (s.size : Int) - (p : Int) - (k : Int) := by omega
        have a2 : IntKind.i64.wrap ((s.size : Int) - (p : Int)) = (s.size : Int) - (p : Int) := by apply IntWalk.i64_in; omega
        have a3 : IntKind.i64.wrap ((s.size : Int) - (p : Int) - (k : Int)) = (s.size : Int) - (p : Int) - (k : Int) := by apply IntWalk.i64_in; omega
        have a4 : IntKind.u64.wrap ((s.size : Int) - (p : Int) - (k : Int)) = (s.size : Int) - (p : Int) - (k : Int) := by rw [IntKind.wrap_u64]; omega
        have a5 : IntKind.i64.wrap ((p : Int) + (k : Int)) = (p : Int) + (k : Int) := by apply IntWalk.i64_in; omega
        have a6 : IntKind.i64.wrap ((p : Int) + (k : Int) + (n : Int)) = (p : Int) + (k : Int) + (n : Int) := by apply IntWalk.i64_in; omega
        have a7 : IntKind.i64.wrap (n : Int) = (n : Int) := by apply IntWalk.i64_in; omega
        go_enter Try.func39, Try.ntmps39
        go_wp2_with fail
        with_reducible refine (Hcall.out).mono ?_
        rintro e w1 ⟨rfl, q, rfl⟩
        go_wp2_with fail
        go_quiet (fail)
        go_wp2_with fail
        go_quiet (fail)
        clear a2 a3 a4 a5 a6 a7
        go_wp2_with fail
        go_ret2
        have hstr : (⟨((l.drop k).take n).toArray⟩ : ByteArray) = s.extract (p + k) (p + k + n) := by rw [← Hl.out]; exact (extract_eq s p k n).symm
        rw [hstr]
        exact ⟨rfl, (Hr.out.drawn _).move (p + (k + n)) (by omega) (by omega), ((Chg.refl (At1 b) w).drewN _).trans1 (set1_chg _ b _)⟩
end Go.Proofs.Ytickdmalkmgkiaa
