/- The contract of the reference Number. Conditions: as each theorem states. -/
import Derived.Test.YtickdmalkmgkiaaBase
import Derived.Deep.RegionWith
namespace Go.Proofs.Ytickdmalkmgkiaa
open Go.RowKit

def RetsStr (l : List UInt8) (w : World) (e : Ending) (w' : World) : Prop := e = .returned (.string ⟨l.toArray⟩) ∧ Chg Nob w w'

theorem run_one (w : World) (x : UInt8) : (convert 26 9 (.slice (some ⟨w.heap.size, 0, none⟩) 1 1)).run Try.prog (w.alloc (.cells #[.int .u8 x.toNat] 5)) = .ok (.string ⟨#[x]⟩) (w.alloc (.cells #[.int .u8 x.toNat] 5)) := by
  have h := run_convert_bytes_back (P := Try.prog) (w.alloc (.cells #[.int .u8 x.toNat] 5)) 26 9 5 ⟨w.heap.size, 0, none⟩ 1 [x] Try.underlying26 Try.underlying5 Try.underlying9 (fun j hj => by
    have hj0 : j = 0 := by simp at hj; exact hj
    subst hj0
    exact news_one w (.int .u8 x.toNat) 5 0 _ rfl)
  exact h
theorem wrap_u8 (n : Int) : IntKind.u8.wrap n = n % 256 := by simp [IntKind.wrap, IntKind.bits, IntKind.signed]
theorem run_one_at (v : Int) (x : UInt8) (hx : v = x.toNat) (W : World) (b : Nat) (hc : W.cell? ⟨b, 0, none⟩ = some (.int .u8 v)) : (convert 26 9 (.slice (some ⟨b, 0, none⟩) 1 1)).run Try.prog W = .ok (.string ⟨#[x]⟩) W := by
  exact run_convert_bytes_back (P := Try.prog) W 26 9 5 ⟨b, 0, none⟩ 1 [x] Try.underlying26 Try.underlying5 Try.underlying9 (fun j hj => by
    have hj0 : j = 0 := by simp at hj; exact hj
    subst hj0
    rw [Addr.add_lit]
    subst hx
    exact hc)
theorem cell_new_drew (w : World) (v : Value) : ((w.alloc (.cells #[v] 5)).drew).cell? ⟨w.heap.size, 0, none⟩ = some v := by
  have := news_one w v 5 0 v rfl
  rwa [Addr.add_lit] at this
set_option maxRecDepth 100000 in
set_option maxHeartbeats 1000000 in
theorem Number_any (k : Nat) : ∀ (n : Nat) (w : World), n < 128 ^ (k + 1) → n ≤ 18446744073709551615 → Calls Try.prog 60 #[.int .u64 n] w (RetsStr (numb n) w) := by
  induction k with
  | zero =>
    intro n w h1 h2
    have hlt : n < 128 := by simpa using h1
    clear h1
    have H2 := Lib.hid h2; clear h2
    obtain ⟨x, hx⟩ : ∃ x : UInt8, (n : Int) = x.toNat := ⟨UInt8.ofNat n, by simp; omega⟩
    have Hx := Lib.hid hx
    have kc := fun w => run_one w x
    have hx2 : x.toNat < 128 := by omega
    rw [hx]
    have e : numb n = [x] := by
      have : n = x.toNat := by omega
      rw [numb_lt hlt, this]; simp
    rw [e]
    clear hx e
    go_enter Try.func60, Try.ntmps60
    go_wp2_with fail
    go_ret
    exact ⟨rfl, (Chg.refl Nob w).alloc _⟩
  | succ k ih =>
    intro n w h1 h2
    have H2 := Lib.hid h2; clear h2
    have H1 := Lib.hid h1; clear h1
    by_cases hlt : n < 128
    · exact ih n w (by have := H1.out; rw [Nat.pow_succ]; have : 0 < 128 ^ k := Nat.pow_pos (by omega); omega) H2.out
    · have hrec := fun w => ih (n / 128) w (by have := H1.out; rw [Nat.pow_succ] at this; omega) (by have := H2.out; omega)
      have Hnb := Lib.hid (numb_ge hlt)
      have hl10 : (numb (n / 128)).length ≤ 10 := numb_len10 (by have := H2.out; omega)
      obtain ⟨t, ht⟩ : ∃ t, numb (n / 128) = t := ⟨_, rfl⟩
      simp only [ht] at hrec hl10
      have Ht := Lib.hid ht; clear ht
      have Hrec := Lib.hid hrec; clear hrec ih
      obtain ⟨x, hx⟩ : ∃ x, UInt8.ofNat (128 + n % 128) = x := ⟨_, rfl⟩
      have Hx := Lib.hid hx; clear hx
      have kc := run_one_at (IntKind.u8.wrap (IntKind.u64.wrap (128 + (n : Int).tmod 128))) x (by rw [← Hx.out, wrap_u8, IntKind.wrap_u64, Int.tmod_eq_emod_of_nonneg (by omega)]; simp)
      have hq : IntKind.u64.wrap ((n : Int) / 128) = ((n / 128 : Nat) : Int) := by rw [IntKind.wrap_u64]; have := H2.out; omega
      go_enter Try.func60, Try.ntmps60
      go_wp2_with fail
      go_region_with (go_at_call 60; refine (Hrec.out _).mono ?_; rintro e w1 ⟨rfl, hc⟩; (try have hcell := hc.cell' (cell_new_drew w (.int .u8 (IntKind.u8.wrap (IntKind.u64.wrap (128 + (n : Int).tmod 128))))) (fun e => e)))
      all_goals
        go_wp2_with fail
        go_ret
        rw [Hnb.out, Hx.out, Ht.out]
        refine ⟨rfl, ?_⟩
        first
          | exact (((Chg.refl Nob w).alloc _).drew).trans1 hc
          | exact ((((Chg.refl Nob w).alloc _).drew).trans1 hc).drew
          | exact ((((Chg.refl Nob w).drew).trans1 hc).alloc _).drew
          | exact (((Chg.refl Nob w).drew).trans1 hc).alloc _
end Go.Proofs.Ytickdmalkmgkiaa
