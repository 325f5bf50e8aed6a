/- The closure of trail.Parse that reads a number. Conditions: the reader lies in the world. -/
import Derived.Test.YtickdmalkmgkiaaTplain
import Derived.Test.YtickdmalkmgkiaaPcatch
import Derived.Test.YtickdmalkmgkiaaLawApart
import Derived.Test.YtickdmalkmgkiaaRuint
import Derived.WalkSmall
import Derived.WalkLawsBesides
namespace Go.Proofs.Ytickdmalkmgkiaa
open Go.ChangeShapes Go.WideShapes Go.ChangeAt Go.RowKit

/-- No number up to 'most' stands at the beginning. -/
def NoStart (most : Nat) (l : List UInt8) : Prop := ∀ n r, n ≤ most → l ≠ numb n ++ r

theorem starts_or (most : Nat) (l : List UInt8) (hm : most ≤ 18446744073709551615) :
    (∃ n, rd 0 0 l = (n, (numb n).length, 0) ∧ n ≤ most ∧ l = numb n ++ l.drop (numb n).length) ∨
    (NoStart most l ∧ ((rd 0 0 l = (0, 0, 10) ∨ rd 0 0 l = (0, 0, 11)) ∨ ∃ n k, rd 0 0 l = (n, k, 0) ∧ most < n ∧ n ≤ 18446744073709551615 ∧ k ≤ l.length)) := by
  have hno : ∀ n r, n ≤ most → l = numb n ++ r → rd 0 0 l = (n, (numb n).length, 0) := fun n r hn e => by rw [e]; exact codecBack.rd_numb0 r (by omega)
  rcases rd_cases l with h | h | ⟨n, k, h, _, hk, hkl, hn⟩
  · exact .inr ⟨fun n r hn e => (by have := hno n r hn e; rw [h] at this; exact absurd (congrArg (fun q => q.2.2) this) (by simp)), .inl (.inl h)⟩
  · exact .inr ⟨fun n r hn e => (by have := hno n r hn e; rw [h] at this; exact absurd (congrArg (fun q => q.2.2) this) (by simp)), .inl (.inr h)⟩
  · have ht := codecApart.rd_put h
    by_cases hm2 : n ≤ most
    · refine .inl ⟨n, ?_, hm2, ?_⟩
      · have : (numb n).length = k := by rw [← ht, List.length_take]; omega
        rw [h, this]
      · have : (numb n).length = k := by rw [← ht, List.length_take]; omega
        conv => lhs; rw [← List.take_append_drop k l, ht]
        rw [this]
    · refine .inr ⟨fun m r hn2 e => ?_, .inr ⟨n, k, h, by omega, hn, hkl⟩⟩
      have := hno m r hn2 e
      rw [h] at this
      have e2 : n = m := congrArg Prod.fst this
      omega

def broken : List PanicEntry := [{ v := .iface 102 (.agg #[]), recovered := false }]
def GetPost (b : Nat) (s : ByteArray) (p most : Nat) (w : World) (e : Ending) (w' : World) : Prop :=
  Chg (At1 b) w w' ∧ ((∃ n, n ≤ most ∧ s.data.toList.drop p = numb n ++ s.data.toList.drop (p + (numb n).length) ∧ e = .returned (.int .i64 n) ∧ isRd w' b s (p + (numb n).length)) ∨
    (NoStart most (s.data.toList.drop p) ∧ e = .panicked broken))

set_option maxRecDepth 100000 in
set_option maxHeartbeats 1000000 in
theorem get_any (b pv : Nat) (s : ByteArray) (p most : Nat) (w : World) (hr : isRd w b s p) (hpv : w.cell? ⟨pv, 0, none⟩ = some (.pointer (some ⟨b, 0, none⟩))) (hm : most ≤ 1000000) :
    Calls Try.prog 65 #[.int .i64 most, .pointer (some ⟨pv, 0, none⟩)] w (GetPost b s p most w) := by
  have Hr := Lib.hid hr
  have h1 := ruint_any b s p w hr
  clear hr
  rcases starts_or most (s.data.toList.drop p) (by omega) with ⟨n, hrd, hn, hl⟩ | ⟨hno, hc⟩
  · rw [hrd] at h1
    simp only at h1
    have Hl := Lib.hid hl
    clear hl hrd
    have hw : wrap64 (n : Int) = n := by unfold wrap64; omega
    have hu : IntKind.u64.wrap (most : Int) = most := by rw [IntKind.wrap_u64]; omega
    go_enter Try.func65, Try.ntmps65
    go_wp2_with fail
    (with_reducible refine h1.mono ?_)
    rintro e w' ⟨rfl, hr', hc'⟩
    clear h1
    go_wp2_with fail
    go_ret
    exact ⟨hc', .inl ⟨n, hn, by rw [List.drop_drop] at Hl; exact Hl.out, rfl, hr'⟩⟩
  · have Hno := Lib.hid hno
    clear hno
    rcases hc with hrd | ⟨n, k, hrd, hn, hn2, _⟩
    · rcases hrd with hrd | hrd
      · rw [hrd] at h1
        simp only at h1
        go_enter Try.func65, Try.ntmps65
        go_wp2_with fail
        (with_reducible refine h1.mono ?_)
        rintro e w' ⟨rfl, hr', hc'⟩
        clear h1
        go_wp2_with fail
        exact ⟨rfl, hc', .inr ⟨Hno.out, rfl⟩⟩
      · rw [hrd] at h1
        simp only at h1
        go_enter Try.func65, Try.ntmps65
        go_wp2_with fail
        (with_reducible refine h1.mono ?_)
        rintro e w' ⟨rfl, hr', hc'⟩
        clear h1
        go_wp2_with fail
        exact ⟨rfl, hc', .inr ⟨Hno.out, rfl⟩⟩
    · rw [hrd] at h1
      simp only at h1
      clear hrd
      go_enter Try.func65, Try.ntmps65
      go_wp2_with fail
      (with_reducible refine h1.mono ?_)
      rintro e w' ⟨rfl, hr', hc'⟩
      clear h1
      go_wp2_with fail
      exact ⟨rfl, hc', .inr ⟨Hno.out, rfl⟩⟩
end Go.Proofs.Ytickdmalkmgkiaa
