/- keccak: the laws' walks: KeccakTurns. -/
import Derived.Test.YtfjigoimjaemmaaDoorKecN
import Derived.Test.YtfjigoimjaemmaaDoorKecUW
import Derived.Deep.MidRow
namespace Go.Proofs.YtfjigoimjaemmaaDoor
open Go.RowKit
set_option linter.unusedSimpArgs false
set_option linter.unusedVariables false
set_option maxRecDepth 100000
/-- what a law about hashes keeps: a state's block, the tables -/
theorem keepK {w w1 w2 : World} {b : Nat} {cs : Array Value} (hb : Below w1.heap.size w1 w2) (h : rowOf w1 b = cs ∧ KLaid w1 ∧ b < w1.heap.size ∧ Below w.heap.size w w1) :
    rowOf w2 b = cs ∧ KLaid w2 ∧ b < w2.heap.size ∧ Below w.heap.size w w2 :=
  ⟨(rowOf_below hb h.2.2.1).trans h.1, h.2.1.below hb, Nat.lt_of_lt_of_le h.2.2.1 hb.size, h.2.2.2.trans (hb.mono (h.2.2.2.size))⟩
theorem keepL {w w1 : World} {b : Nat} {cs : Array Value} (h : rowOf w1 b = cs ∧ KLaid w1 ∧ b < w1.heap.size ∧ Below w.heap.size w w1) : KLaid w1 := h.2.1

theorem keepB {w w1 : World} {b : Nat} {cs : Array Value} (h : rowOf w1 b = cs ∧ KLaid w1 ∧ b < w1.heap.size ∧ Below w.heap.size w w1) : Below w.heap.size w w1 := h.2.2.2
attribute [local irreducible] turnF KLaid
attribute [local go_sem ↓] Go.wp_at_zero Go.wp_at_succ
set_option maxHeartbeats 1000000 in
theorem keccakTurns_any (s : Nat → Int) (w : World) (hL : KLaid w) :
    Calls Tryd.prog 3 #[.agg (tab 25 .u64 s)] w fun e w' => e = .returned (.bool true) ∧ Below w.heap.size w w' := by
  have hL1 : KLaid (w.alloc (.cells (tab 25 .u64 s) 23)) := hL.below (Below.alloc (Below.refl _ _) (Nat.le_refl _) _)
  go_enter Tryd.func3, Tryd.ntmps3
  go_wp2
  have hS : rowOf (w.alloc (.cells (tab 25 .u64 s) 23)).drew w.heap.size = tab 25 .u64 s ∧ KLaid (w.alloc (.cells (tab 25 .u64 s) 23)).drew ∧ w.heap.size < (w.alloc (.cells (tab 25 .u64 s) 23)).drew.heap.size ∧ Below w.heap.size w (w.alloc (.cells (tab 25 .u64 s) 23)).drew := by
    refine ⟨by rw [rowOf_drew, rowOf_alloc_at _ _ _ _ rfl], ?_, by rw [World.size_drew, World.size_alloc]; omega, (Below.alloc (Below.refl _ _) (Nat.le_refl _) _).drew⟩
    exact hL1.below (Below.drew (Below.refl _ _))
  clear hL hL1
  go_region_with (first
    | (go_at_call 14; refine (fixed05_any _ (keepL (by assumption))).mono ?_; rintro e w1 ⟨rfl, hb1⟩; have hS1 := keepK hb1 (by assumption))
    | (go_at_call 15; refine (turn_any s _ (keepL (by assumption))).mono ?_; rintro e w2 ⟨rfl, hb2⟩; have hS2 := keepK hb2 (by assumption))
    | (go_at_call 16; refine (refTurn_any s _).mono ?_; rintro e w3 ⟨rfl, hb3⟩; have hS3 := keepK hb3 (by assumption)))
  all_goals go_wp2
  all_goals go_ret
  all_goals exact ⟨rfl, keepB (cs := tab 25 .u64 s) (by assumption)⟩
end Go.Proofs.YtfjigoimjaemmaaDoor
