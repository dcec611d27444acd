/- keccak: the reference's way through the bytes makes the same state. -/
import Derived.Test.YtfjigoimjaemmaaDoorKecHW
namespace Go.Proofs.YtfjigoimjaemmaaDoor
open Go.RowKit
set_option linter.unusedSimpArgs false
set_option linter.unusedVariables false
set_option maxRecDepth 100000

/-- the bytes with the padding: N in all -/
def padF (x : Nat → Int) (n : Nat) (j : Nat) : Int := if j < n then x j else if j = n then 1 else 0
def allF (x : Nat → Int) (n : Nat) : Nat → Int := upd (padF x n) (136 * (n / 136) + 135) (bits .or .u8 (padF x n (136 * (n / 136) + 135)) 128)
/-- the state behind i bytes, one behind the other -/
def rsS (f : Nat → Int) (s : Nat → Int) (i : Nat) : Nat → Int := upd s (i % 136 / 8) (xr (s (i % 136 / 8)) (byX (f i) (i % 136)))
def rsF (f : Nat → Int) : Nat → Nat → Int
  | 0 => zf
  | i + 1 => if i % 136 = 135 then turnF (rsS f (rsF f i) i) else rsS f (rsF f i) i
theorem rsF_zero (f : Nat → Int) : rsF f 0 = zf := rfl
theorem rsF_succ (f : Nat → Int) (i : Nat) : rsF f (i + 1) = if i % 136 = 135 then turnF (rsS f (rsF f i) i) else rsS f (rsF f i) i := rfl
attribute [local irreducible] turnF
theorem rs_block (f : Nat → Int) (q j : Nat) (hj : j ≤ 135) : rsF f (136 * q + j) = abX (rsF f (136 * q)) (fun j => f (136 * q + j)) j := by
  induction j with
  | zero => rfl
  | succ j ih =>
    have e : (136 * q + j) % 136 = j := by omega
    rw [show 136 * q + (j + 1) = (136 * q + j) + 1 from by omega, rsF_succ, ih (by omega), e, if_neg (by omega), abX_succ]
    unfold rsS
    rw [e]
theorem rs_next (f : Nat → Int) (q : Nat) : rsF f (136 * (q + 1)) = turnF (abX (rsF f (136 * q)) (fun j => f (136 * q + j)) 136) := by
  have e : (136 * q + 135) % 136 = 135 := by omega
  rw [show 136 * (q + 1) = (136 * q + 135) + 1 from by omega, rsF_succ, rs_block f q 135 (by omega), e, if_pos rfl, abX_succ _ _ 135]
  unfold rsS
  rw [e]
theorem rs_sp (f : Nat → Int) (q : Nat) : rsF f (136 * q) = spK f q := by
  induction q with
  | zero => rfl
  | succ q ih => rw [rs_next, ih, spK_succ]
theorem sp_congr {f g : Nat → Int} : ∀ {q : Nat}, (∀ j, j < 136 * q → f j = g j) → spK f q = spK g q := by
  intro q
  induction q with
  | zero => intro _; rfl
  | succ q ih =>
    intro h
    rw [spK_succ, spK_succ, ih fun j hj => h j (by omega), abX_congr (fun j hj => h (136 * q + j) (by omega))]
theorem all_sum (x : Nat → Int) (n : Nat) : outF (rsF (allF x n) (136 * (n / 136 + 1))) = sumF x n := by
  have h1 : spK (allF x n) (n / 136) = spK x (n / 136) := sp_congr fun j hj => by
    unfold allF padF upd
    rw [if_neg (by omega)]
    show (if j < n then x j else if j = n then 1 else 0) = x j
    rw [if_pos (by omega)]
  have h2 : ∀ j, j < 136 → allF x n (136 * (n / 136) + j) = lastF (fun j => x (136 * (n / 136) + j)) (n % 136) j := by
    have e : ∀ j, j < 136 → padF x n (136 * (n / 136) + j) = upd (ovl zf 0 (n % 136) (fun j => x (136 * (n / 136) + j))) (n % 136) 1 j := by
      intro j hj
      unfold padF upd ovl zf
      by_cases h1 : j < n % 136
      · rw [if_pos (by omega), if_neg (by omega), if_pos (by omega)]; rfl
      · by_cases h2 : j = n % 136
        · rw [if_neg (by omega), if_pos (by omega), if_pos h2]
        · rw [if_neg (by omega), if_neg (by omega), if_neg h2, if_neg (by omega)]
    intro j hj
    rw [lastF_def]
    unfold allF
    rw [e 135 (by omega)]
    by_cases h3 : j = 135
    · subst h3
      rw [upd_same, upd_same]
    · rw [upd_other _ _ _ _ (by omega), upd_other _ _ _ _ h3, e j hj]
  rw [rs_next, rs_sp, h1, abX_congr h2]
  rfl
end Go.Proofs.YtfjigoimjaemmaaDoor
