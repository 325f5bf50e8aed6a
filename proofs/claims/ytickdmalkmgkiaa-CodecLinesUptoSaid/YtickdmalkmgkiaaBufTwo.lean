/- The contracts of codec's Buffer: Int, Len, Left, String, Text, and all methods at nil. Conditions: as each theorem states. -/
import Derived.Test.YtickdmalkmgkiaaBuf
namespace Go.Proofs.Ytickdmalkmgkiaa
open Go.RowKit

theorem run_back (w : World) {ao : Option Addr} {c B : Nat} (l : List UInt8) (hown : w.ownsRow B 5 1 (.slice ao l.length c) l.length (l.map bv)) : (convert 26 9 (.slice ao l.length c)).run Try.prog w = .ok (.string ⟨l.toArray⟩) w := by
  rcases Nat.eq_zero_or_pos l.length with h | h
  · obtain rfl : l = [] := List.eq_nil_of_length_eq_zero h
    cases ao with
    | none =>
      show (convert 26 9 (.slice none 0 c)).run Try.prog w = _
      rw [run_convert_bytes_string w 26 9 5 none 0 c Try.underlying26 Try.underlying5 Try.underlying9]; simp [Conv.bytesToString, go_sem]; rfl
    | some a => exact run_convert_bytes_back (P := Try.prog) w 26 9 5 a c [] Try.underlying26 Try.underlying5 Try.underlying9 (fun j hj => absurd hj (by simp))
  · obtain ⟨g, cap, hv, hc⟩ := ownsRow_some hown h
    have hao : ao = some ⟨g, 0, none⟩ := by simp only [Value.slice.injEq] at hv; exact hv.1
    subst hao
    refine run_convert_bytes_back (P := Try.prog) w 26 9 5 _ c l Try.underlying26 Try.underlying5 Try.underlying9 (fun j hj => ?_)
    exact hc j _ (by rw [List.getElem?_map, List.getElem?_eq_getElem hj]; rfl)

set_option maxRecDepth 100000 in
set_option maxHeartbeats 400000 in
theorem string_any (B b : Nat) (l : List UInt8) (room : Nat) (w : World) (hbuf : isBuf w B b l room) :
    Calls Try.prog 27 #[.pointer (some ⟨b, 0, none⟩)] w fun e w' => e = .returned (.string ⟨l.toArray⟩) ∧ w = w' := by
  obtain ⟨hl, hr, u, hb, hown⟩ := hbuf
  obtain ⟨ao, cu, rfl⟩ := ownsRow_shape hown
  obtain ⟨c0, c1, f0, f1⟩ := cell_two hb
  clear hb
  have kc := run_back w l hown
  go_enter Try.func27, Try.ntmps27
  go_wp2
  go_ret
  exact ⟨rfl, rfl⟩
theorem string_nil (w : World) : Calls Try.prog 27 #[.pointer none] w fun e w' => e = .returned (.string ⟨#[]⟩) ∧ w = w' := by
  go_enter Try.func27, Try.ntmps27
  go_wp2
  go_ret
  exact ⟨rfl, rfl⟩

set_option maxRecDepth 100000 in
set_option maxHeartbeats 400000 in
theorem len_any (B b : Nat) (l : List UInt8) (room : Nat) (w : World) (hbuf : isBuf w B b l room) :
    Calls Try.prog 29 #[.pointer (some ⟨b, 0, none⟩)] w fun e w' => e = .returned (.int .i64 l.length) ∧ w = w' := by
  obtain ⟨hl, hr, u, hb, hown⟩ := hbuf
  obtain ⟨ao, cu, rfl⟩ := ownsRow_shape hown
  obtain ⟨c0, c1, f0, f1⟩ := cell_two hb
  clear hb
  go_enter Try.func29, Try.ntmps29
  go_wp2
  go_ret
  exact ⟨rfl, rfl⟩
theorem len_nil (w : World) : Calls Try.prog 29 #[.pointer none] w fun e w' => e = .returned (.int .i64 0) ∧ w = w' := by
  go_enter Try.func29, Try.ntmps29
  go_wp2
  go_ret
  exact ⟨rfl, rfl⟩

def SameW (v : Value) (w : World) (e : Ending) (w' : World) : Prop := e = .returned v ∧ ∃ n, w' = w.drewN n
set_option maxRecDepth 100000 in
set_option maxHeartbeats 400000 in
theorem left_any (B b : Nat) (l : List UInt8) (room : Nat) (w : World) (hbuf : isBuf w B b l room) :
    Calls Try.prog 30 #[.pointer (some ⟨b, 0, none⟩)] w (SameW (.int .i64 (room - l.length : Nat)) w) := by
  obtain ⟨hl, hr, u, hb, hown⟩ := hbuf
  obtain ⟨ao, cu, rfl⟩ := ownsRow_shape hown
  obtain ⟨c0, c1, f0, f1⟩ := cell_two hb
  clear hb
  have he : ((room - l.length : Nat) : Int) = (room : Int) - (l.length : Int) := by omega
  rw [he]
  clear he
  go_enter Try.func30, Try.ntmps30
  go_wp2_with fail
  go_quiet (fail)
  go_wp2_with fail
  go_ret
  exact ⟨rfl, _, rfl⟩
theorem left_nil (w : World) : Calls Try.prog 30 #[.pointer none] w fun e w' => e = .returned (.int .i64 0) ∧ w = w' := by
  go_enter Try.func30, Try.ntmps30
  go_wp2
  go_ret
  exact ⟨rfl, rfl⟩
theorem uint_nil (n : Int) (w : World) : Calls Try.prog 26 #[.pointer none, .int .u64 n] w fun e w' => e = .returned (.int .i64 1) ∧ w = w' := by
  go_enter Try.func26, Try.ntmps26
  go_wp2
  go_ret
  exact ⟨rfl, rfl⟩
theorem text_nil (s : ByteArray) (w : World) : Calls Try.prog 44 #[.pointer none, .string s] w fun e w' => e = .returned (.int .i64 1) ∧ w = w' := by
  go_enter Try.func44, Try.ntmps44
  go_wp2
  go_ret
  exact ⟨rfl, rfl⟩
theorem line_nil (s : ByteArray) (w : World) : Calls Try.prog 32 #[.pointer none, .string s] w fun e w' => e = .returned (.int .i64 1) ∧ w = w' := by
  go_enter Try.func32, Try.ntmps32
  go_wp2
  go_ret
  exact ⟨rfl, rfl⟩
theorem fixed_nil (n k : Int) (w : World) : Calls Try.prog 43 #[.pointer none, .int .u64 n, .int .i64 k] w fun e w' => e = .returned (.int .i64 1) ∧ w = w' := by
  go_enter Try.func43, Try.ntmps43
  go_wp2
  go_ret
  exact ⟨rfl, rfl⟩

end Go.Proofs.Ytickdmalkmgkiaa
