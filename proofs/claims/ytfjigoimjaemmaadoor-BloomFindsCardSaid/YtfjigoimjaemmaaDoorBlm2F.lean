/- how many bits a filter has: plain. -/
import Derived.Test.YtfjigoimjaemmaaDoorBlmF
import Derived.Lib.BitFns
namespace Go.Proofs.YtfjigoimjaemmaaDoor
open Go.RowKit
set_option linter.unusedSimpArgs false
set_option linter.unusedVariables false

/-- how many of the first k numbers meet P -/
def cnt (P : Nat → Bool) : Nat → Nat
  | 0 => 0
  | k + 1 => cnt P k + if P k then 1 else 0
theorem cnt_le (P : Nat → Bool) (k : Nat) : cnt P k ≤ k := by
  induction k with
  | zero => simp [cnt]
  | succ k ih => unfold cnt; split <;> omega
theorem cnt_congr {P Q : Nat → Bool} (k : Nat) (h : ∀ i, i < k → P i = Q i) : cnt P k = cnt Q k := by
  induction k with
  | zero => rfl
  | succ k ih => unfold cnt; rw [ih fun i hi => h i (by omega), h k (by omega)]
theorem cnt_or (P Q : Nat → Bool) (k : Nat) : cnt (fun i => P i || Q i) k ≤ cnt P k + cnt Q k := by
  induction k with
  | zero => simp [cnt]
  | succ k ih =>
    unfold cnt
    cases hP : P k <;> cases hQ : Q k <;> simp <;> omega
theorem cnt_mono {P Q : Nat → Bool} (k : Nat) (h : ∀ i, i < k → P i = true → Q i = true) : cnt P k ≤ cnt Q k := by
  induction k with
  | zero => simp [cnt]
  | succ k ih =>
    unfold cnt
    have := ih fun i hi => h i (by omega)
    cases hP : P k
    · simp; omega
    · rw [h k (by omega) hP]; simp; omega
theorem cnt_one (p k : Nat) : cnt (fun i => decide (i = p)) k = if p < k then 1 else 0 := by
  induction k with
  | zero => simp [cnt]
  | succ k ih =>
    unfold cnt
    rw [ih]
    by_cases h2 : k = p
    · subst h2; simp
    · by_cases h1 : p < k
      · simp [h1, h2, show p < k + 1 by omega]
      · simp [h1, h2, show ¬ p < k + 1 by omega]
theorem cnt_inP (h : Nat → Int) : 1 ≤ cnt (inP h) 2048 ∧ cnt (inP h) 2048 ≤ 3 := by
  have h0 := cnt_one (plF h 0) 2048
  have h1 := cnt_one (plF h 1) 2048
  have h2 := cnt_one (plF h 2) 2048
  rw [if_pos (plF_lt _ _)] at h0 h1 h2
  have a := cnt_or (fun i => decide (i = plF h 0)) (fun i => decide (i = plF h 1)) 2048
  have b := cnt_or (fun i => decide (i = plF h 0) || decide (i = plF h 1)) (fun i => decide (i = plF h 2)) 2048
  have c := cnt_mono (P := fun i => decide (i = plF h 0)) (Q := inP h) 2048 (fun i _ hi => by unfold inP; simp only [hi]; rfl)
  have e : cnt (inP h) 2048 = cnt (fun i => (decide (i = plF h 0) || decide (i = plF h 1)) || decide (i = plF h 2)) 2048 := rfl
  omega

/-- a sum of n numbers -/
def sumN (f : Nat → Nat) : Nat → Nat
  | 0 => 0
  | k + 1 => sumN f k + f k
theorem sumN_shift (f : Nat → Nat) (n : Nat) : sumN f (n + 1) = f 0 + sumN (fun j => f (j + 1)) n := by
  induction n with
  | zero => simp [sumN]
  | succ n ih => rw [sumN, ih, sumN]; omega
theorem sumN_rev (n : Nat) : ∀ f : Nat → Nat, sumN f n = sumN (fun j => f (n - 1 - j)) n := by
  induction n with
  | zero => intro f; rfl
  | succ n ih =>
    intro f
    rw [sumN_shift (fun j => f (n + 1 - 1 - j)), sumN, ih f]
    have e : (fun j => f (n - 1 - j)) = fun j => f (n + 1 - 1 - (j + 1)) := by
      funext j; congr 1; omega
    rw [← e]
    show _ = f (n + 1 - 1 - 0) + _
    rw [show n + 1 - 1 - 0 = n by omega]; omega
theorem ones_bits (x : Nat) (h : x < 256) : Lib.onesCount x = cnt (fun k => x.testBit k) 8 := by
  have : ∀ y : Fin 256, Lib.onesCount y.val = cnt (fun k => y.val.testBit k) 8 := by decide +kernel
  exact this ⟨x, h⟩
theorem cnt_bytes {b : Nat → Int} (hb : B256 b) (m : Nat) (hm : m ≤ 256) : cnt (bitB b) (8 * m) = sumN (fun j => Lib.onesCount (b (255 - j)).toNat) m := by
  induction m with
  | zero => rfl
  | succ m ih =>
    rw [sumN, ← ih (by omega)]
    have hv := hb (255 - m) (by omega)
    rw [ones_bits _ (by omega)]
    have e : ∀ k, k < 8 → bitB b (8 * m + k) = (b (255 - m)).toNat.testBit k := fun k hk => by
      unfold bitB bt
      rw [show 255 - (8 * m + k) / 8 = 255 - m by omega, show (8 * m + k) % 8 = k by omega]
    have e0 := e 0 (by omega); have e1 := e 1 (by omega); have e2 := e 2 (by omega); have e3 := e 3 (by omega)
    have e4 := e 4 (by omega); have e5 := e 5 (by omega); have e6 := e 6 (by omega); have e7 := e 7 (by omega)
    rw [show 8 * (m + 1) = 8 * m + 7 + 1 by omega]
    simp only [cnt, e1, e2, e3, e4, e5, e6, e7, show 8 * m + 0 = 8 * m from rfl] at *
    rw [e0]
    omega
theorem cnt_all {b : Nat → Int} (hb : B256 b) : sumN (fun j => Lib.onesCount (b j).toNat) 256 = cnt (bitB b) 2048 := by
  have := cnt_bytes hb 256 (by omega)
  rw [show 8 * 256 = 2048 from rfl] at this
  rw [this, sumN_rev 256]
end Go.Proofs.YtfjigoimjaemmaaDoor
