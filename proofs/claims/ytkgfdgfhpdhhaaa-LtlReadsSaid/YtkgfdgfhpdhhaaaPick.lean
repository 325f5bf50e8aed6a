/- The laws' picks; strings that are put together. Conditions: as each theorem states. -/
import Derived.Test.YtkgfdgfhpdhhaaaText
import Derived.Test.YtkgfdgfhpdhhaaaFirst
import Derived.Laws.Concat
namespace Go.Proofs.Ytkgfdgfhpdhhaaa
open Go.ChangeShapes Go.WideShapes Go.RowKit

/-- Two strings put together. -/
theorem add_list (a b : List UInt8) (h : a.length + b.length ≤ 9223372036854775807) : ∀ W : World, (Op.stringOp .add ⟨a.toArray⟩ ⟨b.toArray⟩).run Try.prog W = .ok (.string ⟨(a ++ b).toArray⟩) W := by
  intro W
  rw [run_string_add_sum W _ _ (by simp [ByteArray.size]; omega), ByteArray.mk_append_mk]
def pickN (c : Int) (n : Nat) : Nat := ((if c < 0 then -(c + 1) else c) % (n : Int)).toNat
theorem pickN_lt (c : Int) {n : Nat} (h : 0 < n) : pickN c n < n := by
  unfold pickN
  have h1 : (0 : Int) < (n : Int) := by omega
  have h2 := Int.emod_lt_of_pos (if c < 0 then -(c + 1) else c) h1
  have h3 := Int.emod_nonneg (if c < 0 then -(c + 1) else c) (b := (n : Int)) (by omega)
  omega
theorem pickN_cast (c : Int) {n : Nat} (h : 0 < n) : (pickN c n : Int) = (if c < 0 then -(c + 1) else c) % (n : Int) := by
  unfold pickN
  have h3 := Int.emod_nonneg (if c < 0 then -(c + 1) else c) (b := (n : Int)) (by omega)
  omega
set_option maxHeartbeats 1000000 in
theorem pick_any (c : Int) (n : Nat) (w : World) (h1 : -9223372036854775808 ≤ c) (h2 : c < 9223372036854775808) (hn : 0 < n) : Calls Try.prog 35 #[.int .i64 c, .int .i64 n] w fun e w' => e = .returned (.int .i64 (pickN c n)) ∧ w' = w := by
  have hn0 : ((n : Int) == 0) = false := by rw [beq_eq_false_iff_ne]; omega
  have hn1 : ¬ ((n : Int) = 0) := by omega
  have hn2 : 0 < (n : Int) := by omega
  by_cases hc : c < 0
  · have Hr : Hid ((pickN c n : Int) = -((c + 1).tmod (n : Int))) := (pickN_cast c hn).trans (by rw [if_pos hc, ← Int.neg_tmod, Int.tmod_eq_emod_of_nonneg (by omega)])
    go_enter Try.func35, Try.ntmps35
    go_wp2
    go_ret
    exact ⟨by rw [Hr.out]; rfl, rfl⟩
  · have Hr : Hid ((pickN c n : Int) = c % (n : Int)) := (pickN_cast c hn).trans (by rw [if_neg hc])
    go_enter Try.func35, Try.ntmps35
    go_wp2
    go_ret
    exact ⟨by rw [Hr.out]; rfl, rfl⟩
end Go.Proofs.Ytkgfdgfhpdhhaaa
