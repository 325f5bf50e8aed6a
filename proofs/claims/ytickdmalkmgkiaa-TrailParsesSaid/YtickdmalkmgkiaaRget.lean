/- sextantref23's reader of numbers. Conditions: the reader lies in the world. -/
import Derived.Test.YtickdmalkmgkiaaPget
import Derived.BigQuiet
namespace Go.Proofs.Ytickdmalkmgkiaa
open Go.ChangeShapes Go.WideShapes Go.ChangeAt Go.RowKit

def isRg (w : World) (b : Nat) (s : ByteArray) (p : Nat) (bad : Bool) : Prop :=
  p ≤ s.size ∧ s.size ≤ 9223372036854775807 ∧ w.heap[b]? = some (.cells #[.string s, .int .i64 p, .bool bad] 108 (0, 0))
theorem cell_three {w : World} {b : Nat} {x y z : Value} {t : TypeId} (h : w.heap[b]? = some (.cells #[x, y, z] t (0, 0))) : w.cell? ⟨b, 0, none⟩ = some x ∧ w.cell? ⟨b, 1, none⟩ = some y ∧ w.cell? ⟨b, 2, none⟩ = some z ∧ w.frozen? ⟨b, 1, none⟩ = false ∧ w.frozen? ⟨b, 2, none⟩ = false := by
  simp [World.cell?, World.frozen?, h]
theorem block_three_set1 {w : World} {b : Nat} {x y z u : Value} {t : TypeId} (h : w.heap[b]? = some (.cells #[x, y, z] t (0, 0))) : (w.setCell ⟨b, 1, none⟩ u).heap[b]? = some (.cells #[x, u, z] t (0, 0)) := by
  simp [World.setCell, Array.getElem?_modify, h]
theorem block_three_set2 {w : World} {b : Nat} {x y z u : Value} {t : TypeId} (h : w.heap[b]? = some (.cells #[x, y, z] t (0, 0))) : (w.setCell ⟨b, 2, none⟩ u).heap[b]? = some (.cells #[x, y, u] t (0, 0)) := by
  simp [World.setCell, Array.getElem?_modify, h]

def RgPost (b : Nat) (s : ByteArray) (p most : Nat) (bad : Bool) (w : World) (e : Ending) (w' : World) : Prop :=
  Chg (At1 b) w w' ∧ ((bad = false ∧ ∃ n, n ≤ most ∧ s.data.toList.drop p = numb n ++ s.data.toList.drop (p + (numb n).length) ∧ e = .returned (.int .i64 n) ∧ isRg w' b s (p + (numb n).length) false) ∨
    ((bad = true ∨ NoStart most (s.data.toList.drop p)) ∧ ∃ v p' : Nat, v ≤ 34359738368 ∧ e = .returned (.int .i64 v) ∧ isRg w' b s p' true))

/-- Reading goes on: so many groups have come. -/
def RgRel (b : Nat) (s : ByteArray) (p : Nat) (bad : Bool) (W : World) (n sh : Value) (wr : World) : Prop :=
  ∃ size acc q t : Nat, n = .int .i64 acc ∧ sh = .int .i64 t ∧ Hid (t = 7 * size ∧ q = p + size ∧ size ≤ 5) ∧ acc < 128 ^ size ∧ rd 0 0 (s.data.toList.drop p) = rd size acc (s.data.toList.drop q) ∧ isRg wr b s q bad ∧ Chg (At1 b) W wr

theorem no_start_of {l : List UInt8} {most : Nat} (hm : most ≤ 1000000) (h : ∀ n k, rd 0 0 l = (n, k, 0) → most < n) : NoStart most l := by
  intro n r hn e
  have h1 := codecBack.rd_numb0 (n := n) r (by omega)
  rw [← e] at h1
  have := h n _ h1
  omega
theorem rd_long {size acc most : Nat} {l : List UInt8} (hm : most ≤ 1000000) (hs : size = 5) : ∀ n k, rd size acc l = (n, k, 0) → most < n := by
  intro n k h
  obtain ⟨m, hn, _, _, hpos⟩ := codecApart.rd_numb l size acc n k h
  subst hs
  have := hpos (by omega)
  have e5 : (128 : Nat) ^ 5 = 34359738368 := by decide
  rw [e5] at hn
  omega
theorem rd_shut {size acc most : Nat} : ∀ n k, rd size acc [] = (n, k, 0) → most < n := by
  intro n k h
  rw [rd] at h
  split at h <;> exact absurd (congrArg (fun q => q.2.2) h) (by simp)

theorem isRg.bad {w : World} {b : Nat} {s : ByteArray} {p : Nat} {bad : Bool} (h : isRg w b s p bad) : isRg (w.setCell ⟨b, 2, none⟩ (.bool true)) b s p true := ⟨h.1, h.2.1, block_three_set2 h.2.2⟩
theorem isRg.drewN {w : World} {b : Nat} {s : ByteArray} {p : Nat} {bad : Bool} (h : isRg w b s p bad) (n : Nat) : isRg (w.drewN n) b s p bad := h
theorem isRg.next {w : World} {b : Nat} {s : ByteArray} {p : Nat} {bad : Bool} (h : isRg w b s p bad) (hp : p < s.size) {u : Int} (hu : u = (p + 1 : Nat)) : isRg (w.setCell ⟨b, 1, none⟩ (.int .i64 u)) b s (p + 1) bad := by
  subst hu; exact ⟨hp, h.2.1, block_three_set1 h.2.2⟩
theorem set2_chg {W w : World} {b : Nat} (h : Chg (At1 b) W w) (v : Value) : Chg (At1 b) W (w.setCell ⟨b, 2, none⟩ v) := h.setCell (p := ⟨b, 2, none⟩) (fun _ => rfl) v
theorem set1_chg' {W w : World} {b : Nat} (h : Chg (At1 b) W w) (v : Value) : Chg (At1 b) W (w.setCell ⟨b, 1, none⟩ v) := h.setCell (p := ⟨b, 1, none⟩) (fun _ => rfl) v

theorem wrap64_small {a : Int} (h0 : 0 ≤ a) (h1 : a < 9223372036854775808) : wrap64 a = a := by unfold wrap64; omega
theorem shl_acc {acc size t : Nat} {x : UInt8} (ht : t = 7 * size) (hs : size < 5) (ha : acc < 128 ^ size) :
    wrap64 ((acc : Int) + wrap64 ((x.toNat : Int) % 128 * 2 ^ t)) = ((acc + x.toNat % 128 * 128 ^ size : Nat) : Int) := by
  have e1 : (x.toNat : Int) % 128 = ((x.toNat % 128 : Nat) : Int) := by simp
  rw [e1, ht]
  have hy : x.toNat % 128 < 128 := Nat.mod_lt _ (by decide)
  generalize x.toNat % 128 = y at hy ⊢
  have hb : acc + y * 128 ^ size < 128 ^ (size + 1) := acc_lt ha hy
  have hp : (128 : Nat) ^ (size + 1) ≤ 128 ^ 5 := Nat.pow_le_pow_right (by decide) (by omega)
  have h5 : (128 : Nat) ^ 5 = 34359738368 := by decide
  have e128 : (128 : Nat) ^ size = 2 ^ (7 * size) := by rw [Nat.pow_mul]
  have e3 : (y : Int) * 2 ^ (7 * size) = ((y * 128 ^ size : Nat) : Int) := by rw [e128]; simp
  rw [e3]
  generalize y * 128 ^ size = z at *
  rw [wrap64_small (a := (z : Int)) (by omega) (by omega), wrap64_small (by omega) (by omega)]
  omega

theorem u64_small {t : Nat} (h : t ≤ 28) : IntKind.u64.wrap (t : Int) = (t : Int) := by rw [IntKind.wrap_u64]; apply Int.emod_eq_of_lt <;> omega
theorem wrap64_byte (x : UInt8) : wrap64 (x.toNat : Int) = x.toNat := by have := x.toNat_lt; unfold wrap64; omega

set_option maxRecDepth 100000 in
set_option maxHeartbeats 4000000 in
theorem rget_any (b : Nat) (s : ByteArray) (p most : Nat) (bad : Bool) (w : World) (hr : isRg w b s p bad) (hm : most ≤ 1000000) :
    Calls Try.prog 66 #[.pointer (some ⟨b, 0, none⟩), .int .i64 most] w (RgPost b s p most bad w) := by
  have Hr := Lib.hid hr
  clear hr
  go_enter Try.func66, Try.ntmps66
  go_wp2_with fail
  go_loopw [5, 6] (fun n sh wr => RgRel b s p bad w n sh wr) (fun _ sh _ => 40 - (intOf sh).toNat)
  case atStart => exact ⟨0, 0, p, 0, rfl, rfl, by show _ ∧ _; omega, by simp, by simp, Hr.out, Chg.refl _ _⟩
  case round =>
    obtain ⟨size, acc, q, t, rfl, rfl, hsz5, hacc, hrd, hrg, hc⟩ := hrel
    have Hrd := Lib.hid hrd
    have Hacc := Lib.hid hacc
    have Hc := Lib.hid hc
    clear hrd hacc hc
    have Hrg := Lib.hid hrg
    obtain ⟨hps, hsz, hb⟩ := hrg
    obtain ⟨c0, c1, c2, f1, f2⟩ := cell_three hb
    clear hb
    by_cases hend : s.size ≤ q
    · have hge : decide (s.size ≤ q) = true := by rw [decide_eq_true_eq]; omega
      have hno : NoStart most (s.data.toList.drop p) := no_start_of hm (by
        rw [Hrd.out, List.drop_of_length_le (by simp; omega)]; exact rd_shut)
      have Hno := Lib.hid hno
      clear hno hend
      go_wp2_with fail
      go_quiet (fail)
      go_wp2_with fail
      go_ret
      exact ⟨set2_chg (Hc.out.drewN _) _, .inr ⟨.inr Hno.out, 0, q, by omega, rfl, (Hrg.out.drewN _).bad⟩⟩
    · have hge : decide (s.size ≤ q) = false := by rw [decide_eq_false_iff_not]; omega
      by_cases h5 : size = 5
      · have h28 : decide ((28 : Int) < (t : Int)) = true := by have := hsz5.out; rw [decide_eq_true_eq]; omega
        have hno : NoStart most (s.data.toList.drop p) := no_start_of hm (by
          rw [Hrd.out]; exact rd_long hm h5)
        have Hno := Lib.hid hno
        clear hno hend
        go_wp2_with fail
        go_quiet (fail)
        go_wp2_with fail
        go_ret
        exact ⟨set2_chg (Hc.out.drewN _) _, .inr ⟨.inr Hno.out, 0, q, by omega, rfl, (Hrg.out.drewN _).bad⟩⟩
      · have h28 : decide ((28 : Int) < (t : Int)) = false := by have := hsz5.out; rw [decide_eq_false_iff_not]; omega
        have hlt : q < s.size := by omega
        have hi : (q : Int) < (s.size : Int) := by omega
        have h0 : (0 : Int) ≤ (q : Int) := by omega
        clear hend hge
        have hge : decide (s.size ≤ q) = false := by rw [decide_eq_false_iff_not]; omega
        go_wp2_with fail
        go_quiet (fail)
        go_wp2_with fail
        go_quiet (fail)
        obtain ⟨x, hx⟩ : ∃ x, s[q]'hlt = x := ⟨_, rfl⟩
        simp only [hx, wrap64_byte]
        have Hx : Hid (s.data.toList[q]? = some x) := by rw [Lib.data_getElem? s _ hlt, hx]; rfl
        clear hx
        have hx256 : (x.toNat : Int) < 256 := by have := x.toNat_lt; omega
        obtain ⟨N, hN⟩ : ∃ N, N = acc + x.toNat % 128 * 128 ^ size := ⟨_, rfl⟩
        have hs := shl_acc (x := x) hsz5.out.1 (by have := hsz5.out; omega) Hacc.out
        rw [← hN] at hs
        have HN := Lib.hid hN
        have Hrd2 : Hid (rd 0 0 (s.data.toList.drop p) = rd size acc (x :: s.data.toList.drop (q + 1))) := by
          show _ = _
          rw [Hrd.out, drop_at Hx.out]
        clear Hrd hN
        have ht28 : t ≤ 28 := by have := hsz5.out; omega
        have hnb := u64_small ht28
        have hs4 : size ≤ 4 := by have := hsz5.out; omega
        by_cases hx128 : x.toNat < 128
        · have hlt128 : (x.toNat : Int) < 128 := by omega
          have hN35 : N ≤ 34359738368 := by
            have h1 := acc_lt (y := x.toNat % 128) Hacc.out (Nat.mod_lt _ (by decide))
            have hp : (128 : Nat) ^ (size + 1) ≤ 128 ^ 5 := Nat.pow_le_pow_right (by decide) (by have := hsz5.out; omega)
            have h5 : (128 : Nat) ^ 5 = 34359738368 := by decide
            rw [← HN.out] at h1
            omega
          by_cases hz : x.toNat = 0 ∧ 0 < size
          · obtain ⟨hz0, hzs⟩ := hz
            have hno : NoStart most (s.data.toList.drop p) := no_start_of hm (fun n k h => by
              rw [Hrd2.out, rd_zero (by omega) hz0 hzs] at h
              exact absurd (congrArg (fun q => q.2.2) h) (by simp))
            have Hno := Lib.hid hno
            clear hno
            have ht0 : 0 < t := by have := hsz5.out; omega
            obtain rfl : N = acc := by rw [HN.out, hz0]; simp
            by_cases hmN : most < N
            · go_wp2_with fail
              go_ret
              exact ⟨set2_chg (set1_chg' (Hc.out.drewN _) _) _, .inr ⟨.inr Hno.out, N, q + 1, hN35, rfl, ((Hrg.out.drewN _).next hlt (by omega)).bad⟩⟩
            · have hmN2 : ((N : Int) ≤ (most : Int)) := by omega
              go_wp2_with fail
              go_ret
              exact ⟨set2_chg (set1_chg' (Hc.out.drewN _) _) _, .inr ⟨.inr Hno.out, N, q + 1, hN35, rfl, ((Hrg.out.drewN _).next hlt (by omega)).bad⟩⟩
          · have Hz := Lib.hid hz
            clear hz
            have hlast := Hrd2.out.trans (rd_last (by omega) (by omega) hx128 Hz.out)
            rw [← HN.out] at hlast
            have Hlast := Lib.hid hlast
            clear hlast
            by_cases hmN : most < N
            · have hno : NoStart most (s.data.toList.drop p) := no_start_of hm (fun n k h => by
                rw [Hlast.out] at h
                have e : N = n := congrArg Prod.fst h
                omega)
              have Hno := Lib.hid hno
              clear hno
              by_cases hx0 : x.toNat = 0
              · obtain rfl : N = acc := by rw [HN.out, hx0]; simp
                go_wp2_with fail
                go_ret
                exact ⟨set2_chg (set1_chg' (Hc.out.drewN _) _) _, .inr ⟨.inr Hno.out, N, q + 1, hN35, rfl, ((Hrg.out.drewN _).next hlt (by omega)).bad⟩⟩
              · have hcmp : (most : Int) < wrap64 ((acc : Int) + wrap64 ((x.toNat : Int) % 128 * 2 ^ t)) := by rw [hs]; omega
                go_wp2_with fail
                simp only [hs]
                go_ret
                exact ⟨set2_chg (set1_chg' (Hc.out.drewN _) _) _, .inr ⟨.inr Hno.out, N, q + 1, hN35, rfl, ((Hrg.out.drewN _).next hlt (by omega)).bad⟩⟩
            · have hmN2 : ((N : Int) ≤ (most : Int)) := by omega
              have hput := codecApart.rd_put Hlast.out
              have hlen : (numb N).length = size + 1 := by
                rw [← hput, List.length_take, len_drop]; have := hsz5.out; omega
              have hgood : s.data.toList.drop p = numb N ++ s.data.toList.drop (p + (numb N).length) := by
                rw [hlen, ← List.drop_drop, ← hput]
                exact (List.take_append_drop _ _).symm
              have hpq : p + (numb N).length = q + 1 := by have := hsz5.out; omega
              have Hgood := Lib.hid (And.intro hgood hpq)
              clear hgood hpq hlen hput
              have hfin : ∀ wf, isRg wf b s (q + 1) bad → Chg (At1 b) w wf → RgPost b s p most bad w (.returned (.int .i64 N)) wf := by
                intro wf h1 h2
                cases hb : bad with
                | false => rw [hb] at h1; exact ⟨h2, .inl ⟨rfl, N, by omega, Hgood.out.1, rfl, by rw [Hgood.out.2]; exact h1⟩⟩
                | true => rw [hb] at h1; exact ⟨h2, .inr ⟨.inl rfl, N, q + 1, hN35, rfl, h1⟩⟩
              have Hfin := Lib.hid hfin
              clear hfin
              by_cases hx0 : x.toNat = 0
              · obtain rfl : N = acc := by rw [HN.out, hx0]; simp
                have ht0 : t = 0 := by have h1 := Hz.out; have := hsz5.out; omega
                go_wp2_with fail
                go_ret
                exact Hfin.out _ ((Hrg.out.drewN _).next hlt (by omega)) (set1_chg' (Hc.out.drewN _) _)
              · have hcmp : wrap64 ((acc : Int) + wrap64 ((x.toNat : Int) % 128 * 2 ^ t)) ≤ (most : Int) := by rw [hs]; omega
                go_wp2_with fail
                go_ret
                exact Hfin.out _ ((Hrg.out.drewN _).next hlt (by omega)) (set1_chg' (Hc.out.drewN _) _)
        · have hge128 : ¬ ((x.toNat : Int) < 128) := by omega
          go_wp2_with fail
          go_roundw
          case rel =>
            exact ⟨size + 1, N, q + 1, t + 7, by rw [hs], by go_num, by show _ ∧ _; have := hsz5.out; omega, by rw [HN.out]; exact acc_lt Hacc.out (Nat.mod_lt _ (by decide)),
              by rw [Hrd2.out, rd_more (by omega) (by have := hsz5.out; omega) hx128, HN.out], (Hrg.out.drewN _).next hlt (by omega), set1_chg' (Hc.out.drewN _) _⟩
          case measure => simp [intOf]; omega
end Go.Proofs.Ytickdmalkmgkiaa
