/- The laws' picks of a constant's many; bounds of what wraps. Conditions: as each theorem states. -/
import Derived.Test.YtkgfdgfhpdhhaaaPick
namespace Go.Proofs.Ytkgfdgfhpdhhaaa
open Go.ChangeShapes Go.WideShapes Go.RowKit

theorem pick_lit (c : Int) (n : Nat) (m : Int) (hm : m = (n : Int)) (w : World) (h : -9223372036854775808 ≤ c ∧ c < 9223372036854775808) (hn : 0 < n) : Calls Try.prog 35 #[.int .i64 c, .int .i64 m] w fun e w' => e = .returned (.int .i64 (pickN c n)) ∧ w' = w := by
  subst hm
  exact pick_any c n w h.1 h.2 hn
theorem wrap_range (x : Int) : -9223372036854775808 ≤ wrap64 x ∧ wrap64 x < 9223372036854775808 := by unfold wrap64; omega
end Go.Proofs.Ytkgfdgfhpdhhaaa
