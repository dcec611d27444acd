/- The array types of this translation: how they are read, stored and compared. -/
import Derived.Test.YtfjigoimjaemmaaRows
import Derived.Test.YtfjigoimjaemmaaLib
namespace Go.Proofs.Ytfjigoimjaemmaa
open Go.RowKit
set_option linter.unusedSimpArgs false
set_option linter.unusedVariables false

attribute [go_sem] rowOf_alloc_at rowOf_alloc_past rowOf_drew rowOf_setCell_other rowOf_setCell_same rowFit_alloc_at rowFit_alloc_past rowFit_drew rowFit_setCell setRow_alloc_at setRow_alloc_past setRow_drew rowOf_setRow_other rowOf_setRow_same rowFit_setRow_other rowFit_setRow_same
attribute [go_sem] tab_size tab_get tab_set okCells_tab lit4 tab_ne upd_fn4_0 upd_fn4_1 upd_fn4_2 upd_fn4_3 fn4_0 fn4_1 fn4_2 fn4_3 upd_same

/-! words: [4]uint64 -/
@[go_sem ↓] theorem ld_word (v : Value) : Instr.loadAt 24 v = ldArr 24 v := rfl
@[go_sem ↓] theorem st_word (v x : Value) : Instr.storeAt 24 v x = stArr 24 v x := rfl
@[go_sem] theorem run_ld_word (w : World) (b : Nat) : (ldArr 24 (.pointer (some ⟨b, 0, none⟩))).run Try.prog w = if (rowOf w b).size = 4 then .ok (.agg (rowOf w b)) w else ldBad Try.prog 24 b w :=
  run_ldArr_if _ 4 Try.isAgg24 Try.sizeOf24 w b
@[go_sem] theorem run_st_word (w : World) (b : Nat) (cs : Array Value) :
    (stArr 24 (.pointer (some ⟨b, 0, none⟩)) (.agg cs)).run Try.prog w = if rowFit w b = some 4 ∧ cs.size = 4 ∧ okCells cs = true then .ok () (w.setRow b cs) else stBad Try.prog 24 b (.agg cs) w :=
  run_stArr_if _ 4 Try.sizeOf24 w b cs
@[go_sem] theorem run_equal_word (f g : Nat → Int) (w : World) : (Op.equalIn 10000 24 (.agg (tab 4 .u64 f)) (.agg (tab 4 .u64 g))).run Try.prog w = .ok (decide (tl 4 f = tl 4 g)) w :=
  run_equalIn_tab 9998 _ 22 4 .u64 Try.underlying24 Try.underlying22 Try.sizeOf22 Try.isAgg22 f g w

/-- what is known of old blocks behind a call that has left all below a number as it was -/
theorem below_facts {W w1 : World} (hb : Below W.heap.size W w1) : (∀ b o, b < W.heap.size → w1.cell? ⟨b, o, none⟩ = W.cell? ⟨b, o, none⟩) ∧ (∀ b o, b < W.heap.size → w1.frozen? ⟨b, o, none⟩ = W.frozen? ⟨b, o, none⟩) ∧
    (∀ b, b < W.heap.size → rowOf w1 b = rowOf W b) ∧ (∀ b, b < W.heap.size → rowFit w1 b = rowFit W b) ∧ W.heap.size ≤ w1.heap.size :=
  ⟨fun b o h => hb.cell (p := ⟨b, o, none⟩) h, fun b o h => hb.frozen (p := ⟨b, o, none⟩) h, fun _ h => rowOf_below hb h, fun _ h => rowFit_below hb h, hb.size⟩

/-- a word's value -/
abbrev wv (f : Nat → Int) : Value := .agg (tab 4 .u64 f)

end Go.Proofs.Ytfjigoimjaemmaa
