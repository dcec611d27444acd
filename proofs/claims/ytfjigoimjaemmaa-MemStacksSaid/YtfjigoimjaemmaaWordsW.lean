/- how many words so many bytes are: the walks. -/
import Derived.Test.YtfjigoimjaemmaaBase
namespace Go.Proofs.Ytfjigoimjaemmaa
open Go.RowKit
set_option linter.unusedSimpArgs false
set_option linter.unusedVariables false
set_option maxRecDepth 100000

theorem ret_i {k : IntKind} {a b : Int} (h : a = b) : Ending.returned (.int k a) = .returned (.int k b) := by rw [h]
theorem ret_b {a b : Bool} (h : a = b) : Ending.returned (.bool a) = .returned (.bool b) := by rw [h]

/-- how many words so many bytes are -/
def wordsF (n : Int) : Int := (n + 31) / 32

set_option maxHeartbeats 400000 in
theorem memWords_any (n : Int) (h0 : 0 ≤ n) (h1 : n < 18446744073709551616) (w : World) :
    Calls Try.prog 30 #[.int .u64 n] w fun e w' => e = .returned (.int .u64 (wordsF n)) ∧ w = w' := by
  by_cases hr : 0 < n % 32
  all_goals
    go_enter Try.func30, Try.ntmps30
    go_wp2
    go_ret
    exact ⟨ret_i (by unfold wordsF; omega), rfl⟩

set_option maxHeartbeats 400000 in
theorem refWords_any (n : Int) (h0 : 0 ≤ n) (h1 : n < 18446744073709551616) (w : World) :
    Calls Try.prog 31 #[.int .u64 n] w fun e w' => e = .returned (.int .u64 (wordsF n)) ∧ w = w' := by
  by_cases hr : n % 32 = 0
  all_goals
    go_enter Try.func31, Try.ntmps31
    go_wp2
    go_ret
    exact ⟨ret_i (by unfold wordsF; omega), rfl⟩

end Go.Proofs.Ytfjigoimjaemmaa
