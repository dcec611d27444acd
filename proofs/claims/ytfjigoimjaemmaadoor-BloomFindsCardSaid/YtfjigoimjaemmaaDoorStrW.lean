/- string(b): the string of a slice of bytes. -/
import Derived.Test.YtfjigoimjaemmaaDoorRead
import Derived.Laws.BytesArg
namespace Go.Proofs.YtfjigoimjaemmaaDoor
open Go.RowKit
set_option linter.unusedSimpArgs false
set_option linter.unusedVariables false
set_option maxRecDepth 100000

/-- the string of the first n bytes of x -/
def strF (n : Nat) (x : Nat → Int) : ByteArray := strOfNums (tl n x)
theorem tl_getD' (n : Nat) (x : Nat → Int) (j : Nat) (h : j < n) : (tl n x).getD j 0 = x j := by simp [List.getD, tl_get n x j h]

theorem Ints.str {w : World} {A : Option Addr} {n : Nat} {x : Nat → Int} (h : Ints w .u8 A n x) (c : Nat) :
    (convert 29 9 (.slice A n c)).run Tryd.prog w = .ok (.string (strF n x)) w := by
  cases A with
  | none =>
    have hn : n = 0 := by
      rcases Nat.eq_zero_or_pos n with h0 | h0
      · exact h0
      · obtain ⟨a, ha, _⟩ := h 0 h0; cases ha
    subst hn
    exact run_convert_bytes_nil w _ _ Tryd.underlying29 Tryd.underlying5 _ _ _ Tryd.underlying9
  | some a =>
    have hl := run_loadCells_list (P := Tryd.prog) w a ((tl n x).map (Value.int .u8)) (fun j v hv => by
      by_cases hj : j < n
      · obtain ⟨a', ha, _, hc⟩ := h j hj
        obtain rfl := Option.some.inj ha
        rw [List.getElem?_map, tl_get n x j hj] at hv
        rw [hc, ← Option.some.inj hv]
      · rw [List.getElem?_eq_none (by rw [List.length_map, tl_length]; omega)] at hv; cases hv)
    rw [List.length_map, tl_length] at hl
    rw [run_convert_bytes_string w _ _ _ _ n c Tryd.underlying29 Tryd.underlying5 Tryd.underlying9, run_bytesToString w _ n c _ hl, foldl_push_bytes]
    simp [strF, strOfNums, ByteArray.empty, ByteArray.emptyWithCapacity]
    rfl
end Go.Proofs.YtfjigoimjaemmaaDoor
