/- keccak: turning a lane; the sums of bits. -/
import Derived.Test.YtfjigoimjaemmaaDoorOwn
import Derived.Laws.Bits64b
import Derived.Deep.RegionHeld3
import Derived.Deep.DrawnRows
namespace Go.Proofs.YtfjigoimjaemmaaDoor
open Go.RowKit
set_option linter.unusedSimpArgs false
set_option linter.unusedVariables false
set_option maxRecDepth 100000

/-- a lane turned up by k bits -/
def rotF (x : Int) (k : Nat) : Int := bits .or .u64 (IntKind.u64.wrap (x * 2 ^ k)) (x / 2 ^ (64 - k))

theorem and_63 (k : Nat) (h : k < 64) : bits .and .u64 (k : Int) 63 = k := by
  have e := bits_and_u64_nat k 63 (by omega) (by omega)
  rw [show ((63 : Nat) : Int) = 63 from rfl] at e
  rw [e, show (63 : Nat) = 2 ^ 6 - 1 from rfl, Nat.and_two_pow_sub_one_eq_mod]
  omega

set_option maxHeartbeats 400000 in
theorem rotate_any (x : Int) (k : Nat) (h0 : 0 < k) (h1 : k < 64) (w : World) :
    Calls Tryd.prog 81 #[.int .u64 x, .int .i64 k] w fun e w' => e = .returned (.int .u64 (rotF x k)) ∧ w = w' := by
  have e1 := and_63 k h1
  go_enter Tryd.func81, Tryd.ntmps81
  go_wp2
  go_ret
  exact ⟨rfl, rfl⟩

set_option maxHeartbeats 400000 in
theorem up_any (x : Int) (k n : Nat) (h0 : 0 < k) (h1 : k < 64) (hn : n % 64 = k) (w : World) :
    Calls Tryd.prog 82 #[.int .u64 x, .int .i64 n] w fun e w' => e = .returned (.int .u64 (rotF x k)) ∧ w.drew = w' := by
  have hk : (n : Int) % 64 = k := by omega
  have hk1 : IntKind.i64.wrap ((64 : Int) - k) = 64 - k := i64w (by omega) (by omega)
  go_enter Tryd.func82, Tryd.ntmps82
  go_wp2
  have hS0 : Below w.heap.size w w.drew := Below.drew (Below.refl _ _)
  go_region_held3 (fun w' => Below w.heap.size w w') (first | assumption) (fail)
  all_goals go_wp2
  go_ret
  exact ⟨rfl, rfl⟩
end Go.Proofs.YtfjigoimjaemmaaDoor
