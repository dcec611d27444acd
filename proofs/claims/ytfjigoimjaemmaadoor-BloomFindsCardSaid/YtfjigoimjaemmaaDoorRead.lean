/- Slices of words that came in: what a walk is told of them; a word read out of the middle of a block. -/
import Derived.Test.YtfjigoimjaemmaaDoorBase
namespace Go.Proofs.YtfjigoimjaemmaaDoor
open Go.RowKit
set_option linter.unusedSimpArgs false
set_option linter.unusedVariables false
set_option maxRecDepth 100000

/-- the slice at A of n words, x j being the j-th -/
def Words (w : World) (A : Option Addr) (n : Nat) (x : Nat → Nat → Int) : Prop :=
  ∀ j, j < n → ∃ a : Addr, A = some a ∧ a.block < w.heap.size ∧ ∀ i, i < 4 → w.cell? (a.add (j * 4 + i)) = some (.int .u64 (x j i))
theorem Words.below {w w' : World} {B : Nat} {A : Option Addr} {n : Nat} {x : Nat → Nat → Int} (h : Words w A n x) (hB : w.heap.size ≤ B) (hb : Below B w w') : Words w' A n x := by
  intro j hj
  obtain ⟨a, h1, h2, h3⟩ := h j hj
  refine ⟨a, h1, Nat.lt_of_lt_of_le h2 hb.size, fun i hi => ?_⟩
  have hbl : (a.add (j * 4 + i)).block = a.block := by unfold Addr.add; split <;> rfl
  rw [hb.cell (by omega), h3 i hi]

theorem add_add (a : Addr) (i j : Nat) : (a.add i).add j = a.add (i + j) := by
  unfold Addr.add
  by_cases hi : i = 0 <;> by_cases hj : j = 0 <;> simp [hi, hj, Nat.add_assoc]

theorem run_ldArr_at {P : Program} (t n : Nat) (k : IntKind) (f : Nat → Int) (hA : ∀ w, (isAgg t).run P w = .ok true w) (hS : ∀ w, (sizeOf t).run P w = .ok n w) (w : World) (a : Addr)
    (h : ∀ i, i < n → w.cell? (a.add i) = some (.int k (f i))) : (ldArr t (.pointer (some a))).run P w = .ok (.agg (tab n k f)) w := by
  have hl := run_loadCells_list (P := P) w a ((tl n f).map (Value.int k)) (fun j v hv => by
    by_cases hj : j < n
    · rw [List.getElem?_map, tl_get n f j hj] at hv
      rw [h j hj, ← Option.some.inj hv]
    · rw [List.getElem?_eq_none (by rw [List.length_map, tl_length]; omega)] at hv
      cases hv)
  rw [List.length_map, tl_length] at hl
  simp [ldArr, Instr.loadAt, Instr.sureAddr, loadVar, Sem.run_bind, hA, hS, hl, tab]

/-- the load of the j-th word -/
theorem Words.load {w : World} {A : Option Addr} {n : Nat} {x : Nat → Nat → Int} (h : Words w A n x) {j : Nat} (hj : j < n) :
    ∃ a : Addr, A = some a ∧ a.block < w.heap.size ∧ (ldArr 47 (.pointer (some (a.add (j * 4))))).run Tryd.prog w = .ok (wv (x j)) w := by
  obtain ⟨a, h1, h2, h3⟩ := h j hj
  exact ⟨a, h1, h2, run_ldArr_at _ 4 .u64 (x j) Tryd.isAgg47 Tryd.sizeOf47 w _ fun i hi => by rw [add_add]; exact h3 i hi⟩


/-- the slice at A of n whole numbers, b j being the j-th -/
def Ints (w : World) (k : IntKind) (A : Option Addr) (n : Nat) (b : Nat → Int) : Prop :=
  ∀ j, j < n → ∃ a : Addr, A = some a ∧ a.block < w.heap.size ∧ w.cell? (a.add j) = some (.int k (b j))
theorem Ints.below {w w' : World} {B : Nat} {k : IntKind} {A : Option Addr} {n : Nat} {b : Nat → Int} (h : Ints w k A n b) (hB : w.heap.size ≤ B) (hb : Below B w w') : Ints w' k A n b := by
  intro j hj
  obtain ⟨a, h1, h2, h3⟩ := h j hj
  exact ⟨a, h1, Nat.lt_of_lt_of_le h2 hb.size, by rw [hb.cell (by rw [block_add]; omega), h3]⟩

end Go.Proofs.YtfjigoimjaemmaaDoor
