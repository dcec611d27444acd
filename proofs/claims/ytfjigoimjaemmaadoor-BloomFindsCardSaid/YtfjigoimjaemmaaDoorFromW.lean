/- words out of bytes: word.From, the reference's From and Word. -/
import Derived.Test.YtfjigoimjaemmaaDoorCopyW
import Derived.Test.YtfjigoimjaemmaaDoorOwn2
import Derived.Laws.Bits64b
namespace Go.Proofs.YtfjigoimjaemmaaDoor
open Go.RowKit
set_option linter.unusedSimpArgs false
set_option linter.unusedVariables false
set_option maxRecDepth 100000

/-- the i-th digit to the base 256 of m bytes, the lowest first -/
def dgF (x : Nat → Int) (m : Nat) (i : Nat) : Int := if i < m then x (m - 1 - i) else 0
/-- a lane from above: k digits -/
def hW (d : Nat → Int) (i : Nat) : Nat → Int
  | 0 => 0
  | k + 1 => hW d i k * 256 + d (8 * i + (7 - k))
/-- a lane from below: k digits -/
def lW (d : Nat → Int) (i : Nat) : Nat → Int
  | 0 => 0
  | k + 1 => lW d i k + d (8 * i + k) * 2 ^ (8 * k)
/-- the word of 32 digits -/
def wdF (d : Nat → Int) (i : Nat) : Int := hW d i 8
theorem lW_hW (d : Nat → Int) (i : Nat) : lW d i 8 = wdF d i := by
  simp only [wdF, lW, hW, Nat.add_zero, Nat.sub_zero, show 7 - 1 = 6 from rfl, show 7 - 2 = 5 from rfl, show 7 - 3 = 4 from rfl, show 7 - 4 = 3 from rfl, show 7 - 5 = 2 from rfl, show 7 - 6 = 1 from rfl, show 7 - 7 = 0 from rfl]
  omega
theorem hW_bd {d : Nat → Int} (hd : ∀ i, i < 32 → 0 ≤ d i ∧ d i < 256) {i : Nat} (hi : i < 4) : ∀ k, k ≤ 8 → 0 ≤ hW d i k ∧ hW d i k < 2 ^ (8 * k) := by
  intro k
  induction k with
  | zero => intro _; exact ⟨Int.le_refl _, by show (0 : Int) < 1; omega⟩
  | succ k ih =>
    intro hk
    have h := ih (by omega)
    have h2 := hd (8 * i + (7 - k)) (by omega)
    have e : (2 : Int) ^ (8 * (k + 1)) = 256 * 2 ^ (8 * k) := by
      rw [show 8 * (k + 1) = 8 * k + 8 from by omega, Int.pow_add]; omega
    simp only [hW]
    rw [e]
    generalize (2 : Int) ^ (8 * k) = P at h ⊢
    omega
theorem lW_bd {d : Nat → Int} (hd : ∀ i, i < 32 → 0 ≤ d i ∧ d i < 256) {i : Nat} (hi : i < 4) : ∀ k, k ≤ 8 → 0 ≤ lW d i k ∧ lW d i k < 2 ^ (8 * k) := by
  intro k
  induction k with
  | zero => intro _; exact ⟨Int.le_refl _, by show (0 : Int) < 1; omega⟩
  | succ k ih =>
    intro hk
    have h := ih (by omega)
    have h2 := hd (8 * i + k) (by omega)
    have e : (2 : Int) ^ (8 * (k + 1)) = 256 * 2 ^ (8 * k) := by
      rw [show 8 * (k + 1) = 8 * k + 8 from by omega, Int.pow_add]; omega
    simp only [lW]
    rw [e]
    obtain ⟨P, hP⟩ : ∃ P, (2 : Int) ^ (8 * k) = P := ⟨_, rfl⟩
    rw [hP] at h ⊢
    have h3 : 0 ≤ d (8 * i + k) * P := Int.mul_nonneg h2.1 (by omega)
    have h4 : d (8 * i + k) * P ≤ 255 * P := Int.mul_le_mul_of_nonneg_right (by omega) (by omega)
    omega
theorem or_low (a v : Int) (k : Nat) (hk : k < 8) (ha : 0 ≤ a ∧ a < 2 ^ (8 * k)) (hv : 0 ≤ v ∧ v < 256) : bits .or .u64 a (IntKind.u64.wrap (v * 2 ^ (k * 8))) = a + v * 2 ^ (8 * k) := by
  obtain ⟨m, rfl⟩ : ∃ m : Nat, a = m := ⟨a.toNat, by omega⟩
  obtain ⟨u, rfl⟩ : ∃ u : Nat, v = u := ⟨v.toNat, by omega⟩
  have hm : m < 2 ^ (8 * k) := by have := ha.2; rw [show ((2 : Int) ^ (8 * k)) = ((2 ^ (8 * k) : Nat) : Int) from by simp] at this; omega
  have hP : 2 ^ (8 * k) ≤ 2 ^ 56 := Nat.pow_le_pow_right (by omega) (by omega)
  have hu : u * 2 ^ (8 * k) ≤ 255 * 2 ^ 56 := Nat.le_trans (Nat.mul_le_mul_right _ (show u ≤ 255 by omega)) (Nat.mul_le_mul_left _ hP)
  have e1 : IntKind.u64.wrap ((u : Int) * 2 ^ (k * 8)) = ((u * 2 ^ (8 * k) : Nat) : Int) := by
    rw [Nat.mul_comm k 8, show ((u : Int) * 2 ^ (8 * k)) = ((u * 2 ^ (8 * k) : Nat) : Int) from by simp]
    exact u64w (by omega) (by omega)
  rw [e1, bits_or_u64_nat _ _ (by omega) (by omega), Nat.or_comm]
  have h2 : u * 2 ^ (8 * k) ||| m = u * 2 ^ (8 * k) + m := by
    rw [Nat.mul_comm, Nat.two_pow_add_eq_or_of_lt hm]
  rw [h2]
  simp [Int.add_comm]
end Go.Proofs.YtfjigoimjaemmaaDoor
