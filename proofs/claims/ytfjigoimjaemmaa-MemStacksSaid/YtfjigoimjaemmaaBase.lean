/- The array types of this translation: how they are read, stored, made and compared. -/
import Derived.Test.YtfjigoimjaemmaaRows
import Derived.Test.YtfjigoimjaemmaaLib
namespace Go.Proofs.Ytfjigoimjaemmaa
open Go.RowKit
set_option linter.unusedSimpArgs false
set_option linter.unusedVariables false
set_option maxRecDepth 100000

attribute [go_sem] rowOf_alloc_at rowOf_alloc_past rowOf_drew rowOf_setCell_other rowOf_setCell_same rowFit_alloc_at rowFit_alloc_past rowFit_drew rowFit_setCell setRow_alloc_at setRow_alloc_past setRow_drew rowOf_setRow_other rowOf_setRow_same rowFit_setRow_other rowFit_setRow_same
attribute [go_sem] tab_size tab_get tab_getElem tab_set okCells_tab lit4 tab_ne upd_fn4_0 upd_fn4_1 upd_fn4_2 upd_fn4_3 fn4_0 fn4_1 fn4_2 fn4_3 upd_same block_add
attribute [go_sem high] cell_of_rowOf
attribute [go_sem] frozen_of_fit

/-- all noughts -/
def zf : Nat → Int := fun _ => 0
@[go_sem] theorem zf_at (i : Nat) : zf i = 0 := rfl

/-! api.Word -/
@[go_sem ↓] theorem ld_word (v : Value) : Instr.loadAt 24 v = ldArr 24 v := rfl
@[go_sem ↓] theorem st_word (v x : Value) : Instr.storeAt 24 v x = stArr 24 v x := rfl
@[go_sem] theorem run_ld_word (w : World) (b : Nat) : (ldArr 24 (.pointer (some ⟨b, 0, none⟩))).run Try.prog w = if (rowOf w b).size = 4 then .ok (.agg (rowOf w b)) w else ldBad Try.prog 24 b w :=
  run_ldArr_if _ 4 Try.isAgg24 Try.sizeOf24 w b
@[go_sem] theorem run_st_word (w : World) (b : Nat) (cs : Array Value) :
    (stArr 24 (.pointer (some ⟨b, 0, none⟩)) (.agg cs)).run Try.prog w = if rowFit w b = some 4 ∧ cs.size = 4 ∧ okCells cs = true then .ok () (w.setRow b cs) else stBad Try.prog 24 b (.agg cs) w :=
  run_stArr_if _ 4 Try.sizeOf24 w b cs
@[go_sem] theorem run_equal_word (f g : Nat → Int) (w : World) : (Op.equalIn 10000 24 (.agg (tab 4 .u64 f)) (.agg (tab 4 .u64 g))).run Try.prog w = .ok (decide (tl 4 f = tl 4 g)) w :=
  run_equalIn_tab 9998 _ 22 4 .u64 Try.underlying24 Try.underlying22 Try.sizeOf22 Try.isAgg22 f g w
theorem res_word {fn : Func} {q : Tmp} (h : fn.results = #[.cell q 24]) (tmps : Array Value) (w : World) (g : Nat) (cs : Array Value) (hp : tmps.getD q undef = .pointer (some ⟨g, 0, none⟩)) (hc : rowOf w g = cs) (hn : cs.size = 4) :
    (results fn tmps).run Try.prog w = .ok (.agg cs) w :=
  results_row h tmps w g cs 4 Try.isAgg24 Try.sizeOf24 hp hc hn

/-! [4]uint64 -/
@[go_sem ↓] theorem ld_u4 (v : Value) : Instr.loadAt 23 v = ldArr 23 v := rfl
@[go_sem ↓] theorem st_u4 (v x : Value) : Instr.storeAt 23 v x = stArr 23 v x := rfl
@[go_sem] theorem run_ld_u4 (w : World) (b : Nat) : (ldArr 23 (.pointer (some ⟨b, 0, none⟩))).run Try.prog w = if (rowOf w b).size = 4 then .ok (.agg (rowOf w b)) w else ldBad Try.prog 23 b w :=
  run_ldArr_if _ 4 Try.isAgg23 Try.sizeOf23 w b
@[go_sem] theorem run_st_u4 (w : World) (b : Nat) (cs : Array Value) :
    (stArr 23 (.pointer (some ⟨b, 0, none⟩)) (.agg cs)).run Try.prog w = if rowFit w b = some 4 ∧ cs.size = 4 ∧ okCells cs = true then .ok () (w.setRow b cs) else stBad Try.prog 23 b (.agg cs) w :=
  run_stArr_if _ 4 Try.sizeOf23 w b cs
@[go_sem] theorem run_equal_u4 (f g : Nat → Int) (w : World) : (Op.equalIn 10000 23 (.agg (tab 4 .u64 f)) (.agg (tab 4 .u64 g))).run Try.prog w = .ok (decide (tl 4 f = tl 4 g)) w :=
  run_equalIn_tab 9998 _ 22 4 .u64 Try.underlying23 Try.underlying22 Try.sizeOf22 Try.isAgg22 f g w
theorem res_u4 {fn : Func} {q : Tmp} (h : fn.results = #[.cell q 23]) (tmps : Array Value) (w : World) (g : Nat) (cs : Array Value) (hp : tmps.getD q undef = .pointer (some ⟨g, 0, none⟩)) (hc : rowOf w g = cs) (hn : cs.size = 4) :
    (results fn tmps).run Try.prog w = .ok (.agg cs) w :=
  results_row h tmps w g cs 4 Try.isAgg23 Try.sizeOf23 hp hc hn

/-! smithyref01.D -/
@[go_sem ↓] theorem ld_dig (v : Value) : Instr.loadAt 81 v = ldArr 81 v := rfl
@[go_sem ↓] theorem st_dig (v x : Value) : Instr.storeAt 81 v x = stArr 81 v x := rfl
@[go_sem] theorem run_ld_dig (w : World) (b : Nat) : (ldArr 81 (.pointer (some ⟨b, 0, none⟩))).run Try.prog w = if (rowOf w b).size = 32 then .ok (.agg (rowOf w b)) w else ldBad Try.prog 81 b w :=
  run_ldArr_if _ 32 Try.isAgg81 Try.sizeOf81 w b
@[go_sem] theorem run_st_dig (w : World) (b : Nat) (cs : Array Value) :
    (stArr 81 (.pointer (some ⟨b, 0, none⟩)) (.agg cs)).run Try.prog w = if rowFit w b = some 32 ∧ cs.size = 32 ∧ okCells cs = true then .ok () (w.setRow b cs) else stBad Try.prog 81 b (.agg cs) w :=
  run_stArr_if _ 32 Try.sizeOf81 w b cs
@[go_sem] theorem run_equal_dig (f g : Nat → Int) (w : World) : (Op.equalIn 10000 81 (.agg (tab 32 .i64 f)) (.agg (tab 32 .i64 g))).run Try.prog w = .ok (decide (tl 32 f = tl 32 g)) w :=
  run_equalIn_tab 9998 _ 3 32 .i64 Try.underlying81 Try.underlying3 Try.sizeOf3 Try.isAgg3 f g w
theorem res_dig {fn : Func} {q : Tmp} (h : fn.results = #[.cell q 81]) (tmps : Array Value) (w : World) (g : Nat) (cs : Array Value) (hp : tmps.getD q undef = .pointer (some ⟨g, 0, none⟩)) (hc : rowOf w g = cs) (hn : cs.size = 32) :
    (results fn tmps).run Try.prog w = .ok (.agg cs) w :=
  results_row h tmps w g cs 32 Try.isAgg81 Try.sizeOf81 hp hc hn
@[go_sem ↓] theorem zero_dig (w : World) : (zeroValue 81).run Try.prog w = .ok (.agg (tab 32 .i64 zf)) w := zero_of Try.zeroValue81 (by kernel_rfl) w

/-! [32]int -/
@[go_sem ↓] theorem ld_i32 (v : Value) : Instr.loadAt 80 v = ldArr 80 v := rfl
@[go_sem ↓] theorem st_i32 (v x : Value) : Instr.storeAt 80 v x = stArr 80 v x := rfl
@[go_sem] theorem run_ld_i32 (w : World) (b : Nat) : (ldArr 80 (.pointer (some ⟨b, 0, none⟩))).run Try.prog w = if (rowOf w b).size = 32 then .ok (.agg (rowOf w b)) w else ldBad Try.prog 80 b w :=
  run_ldArr_if _ 32 Try.isAgg80 Try.sizeOf80 w b
@[go_sem] theorem run_st_i32 (w : World) (b : Nat) (cs : Array Value) :
    (stArr 80 (.pointer (some ⟨b, 0, none⟩)) (.agg cs)).run Try.prog w = if rowFit w b = some 32 ∧ cs.size = 32 ∧ okCells cs = true then .ok () (w.setRow b cs) else stBad Try.prog 80 b (.agg cs) w :=
  run_stArr_if _ 32 Try.sizeOf80 w b cs
@[go_sem] theorem run_equal_i32 (f g : Nat → Int) (w : World) : (Op.equalIn 10000 80 (.agg (tab 32 .i64 f)) (.agg (tab 32 .i64 g))).run Try.prog w = .ok (decide (tl 32 f = tl 32 g)) w :=
  run_equalIn_tab 9998 _ 3 32 .i64 Try.underlying80 Try.underlying3 Try.sizeOf3 Try.isAgg3 f g w
theorem res_i32 {fn : Func} {q : Tmp} (h : fn.results = #[.cell q 80]) (tmps : Array Value) (w : World) (g : Nat) (cs : Array Value) (hp : tmps.getD q undef = .pointer (some ⟨g, 0, none⟩)) (hc : rowOf w g = cs) (hn : cs.size = 32) :
    (results fn tmps).run Try.prog w = .ok (.agg cs) w :=
  results_row h tmps w g cs 32 Try.isAgg80 Try.sizeOf80 hp hc hn
@[go_sem ↓] theorem zero_i32 (w : World) : (zeroValue 80).run Try.prog w = .ok (.agg (tab 32 .i64 zf)) w := zero_of Try.zeroValue80 (by kernel_rfl) w

/-! [32]uint8 -/
@[go_sem ↓] theorem ld_b32 (v : Value) : Instr.loadAt 127 v = ldArr 127 v := rfl
@[go_sem ↓] theorem st_b32 (v x : Value) : Instr.storeAt 127 v x = stArr 127 v x := rfl
@[go_sem] theorem run_ld_b32 (w : World) (b : Nat) : (ldArr 127 (.pointer (some ⟨b, 0, none⟩))).run Try.prog w = if (rowOf w b).size = 32 then .ok (.agg (rowOf w b)) w else ldBad Try.prog 127 b w :=
  run_ldArr_if _ 32 Try.isAgg127 Try.sizeOf127 w b
@[go_sem] theorem run_st_b32 (w : World) (b : Nat) (cs : Array Value) :
    (stArr 127 (.pointer (some ⟨b, 0, none⟩)) (.agg cs)).run Try.prog w = if rowFit w b = some 32 ∧ cs.size = 32 ∧ okCells cs = true then .ok () (w.setRow b cs) else stBad Try.prog 127 b (.agg cs) w :=
  run_stArr_if _ 32 Try.sizeOf127 w b cs
@[go_sem] theorem run_equal_b32 (f g : Nat → Int) (w : World) : (Op.equalIn 10000 127 (.agg (tab 32 .u8 f)) (.agg (tab 32 .u8 g))).run Try.prog w = .ok (decide (tl 32 f = tl 32 g)) w :=
  run_equalIn_tab 9998 _ 5 32 .u8 Try.underlying127 Try.underlying5 Try.sizeOf5 Try.isAgg5 f g w
theorem res_b32 {fn : Func} {q : Tmp} (h : fn.results = #[.cell q 127]) (tmps : Array Value) (w : World) (g : Nat) (cs : Array Value) (hp : tmps.getD q undef = .pointer (some ⟨g, 0, none⟩)) (hc : rowOf w g = cs) (hn : cs.size = 32) :
    (results fn tmps).run Try.prog w = .ok (.agg cs) w :=
  results_row h tmps w g cs 32 Try.isAgg127 Try.sizeOf127 hp hc hn
@[go_sem ↓] theorem zero_b32 (w : World) : (zeroValue 127).run Try.prog w = .ok (.agg (tab 32 .u8 zf)) w := zero_of Try.zeroValue127 (by kernel_rfl) w

/-! api.Hash -/
@[go_sem ↓] theorem ld_hash (v : Value) : Instr.loadAt 176 v = ldArr 176 v := rfl
@[go_sem ↓] theorem st_hash (v x : Value) : Instr.storeAt 176 v x = stArr 176 v x := rfl
@[go_sem] theorem run_ld_hash (w : World) (b : Nat) : (ldArr 176 (.pointer (some ⟨b, 0, none⟩))).run Try.prog w = if (rowOf w b).size = 32 then .ok (.agg (rowOf w b)) w else ldBad Try.prog 176 b w :=
  run_ldArr_if _ 32 Try.isAgg176 Try.sizeOf176 w b
@[go_sem] theorem run_st_hash (w : World) (b : Nat) (cs : Array Value) :
    (stArr 176 (.pointer (some ⟨b, 0, none⟩)) (.agg cs)).run Try.prog w = if rowFit w b = some 32 ∧ cs.size = 32 ∧ okCells cs = true then .ok () (w.setRow b cs) else stBad Try.prog 176 b (.agg cs) w :=
  run_stArr_if _ 32 Try.sizeOf176 w b cs
@[go_sem] theorem run_equal_hash (f g : Nat → Int) (w : World) : (Op.equalIn 10000 176 (.agg (tab 32 .u8 f)) (.agg (tab 32 .u8 g))).run Try.prog w = .ok (decide (tl 32 f = tl 32 g)) w :=
  run_equalIn_tab 9998 _ 5 32 .u8 Try.underlying176 Try.underlying5 Try.sizeOf5 Try.isAgg5 f g w
theorem res_hash {fn : Func} {q : Tmp} (h : fn.results = #[.cell q 176]) (tmps : Array Value) (w : World) (g : Nat) (cs : Array Value) (hp : tmps.getD q undef = .pointer (some ⟨g, 0, none⟩)) (hc : rowOf w g = cs) (hn : cs.size = 32) :
    (results fn tmps).run Try.prog w = .ok (.agg cs) w :=
  results_row h tmps w g cs 32 Try.isAgg176 Try.sizeOf176 hp hc hn
@[go_sem ↓] theorem zero_hash (w : World) : (zeroValue 176).run Try.prog w = .ok (.agg (tab 32 .u8 zf)) w := zero_of Try.zeroValue176 (by kernel_rfl) w

/-! api.Address -/
@[go_sem ↓] theorem ld_address (v : Value) : Instr.loadAt 91 v = ldArr 91 v := rfl
@[go_sem ↓] theorem st_address (v x : Value) : Instr.storeAt 91 v x = stArr 91 v x := rfl
@[go_sem] theorem run_ld_address (w : World) (b : Nat) : (ldArr 91 (.pointer (some ⟨b, 0, none⟩))).run Try.prog w = if (rowOf w b).size = 20 then .ok (.agg (rowOf w b)) w else ldBad Try.prog 91 b w :=
  run_ldArr_if _ 20 Try.isAgg91 Try.sizeOf91 w b
@[go_sem] theorem run_st_address (w : World) (b : Nat) (cs : Array Value) :
    (stArr 91 (.pointer (some ⟨b, 0, none⟩)) (.agg cs)).run Try.prog w = if rowFit w b = some 20 ∧ cs.size = 20 ∧ okCells cs = true then .ok () (w.setRow b cs) else stBad Try.prog 91 b (.agg cs) w :=
  run_stArr_if _ 20 Try.sizeOf91 w b cs
@[go_sem] theorem run_equal_address (f g : Nat → Int) (w : World) : (Op.equalIn 10000 91 (.agg (tab 20 .u8 f)) (.agg (tab 20 .u8 g))).run Try.prog w = .ok (decide (tl 20 f = tl 20 g)) w :=
  run_equalIn_tab 9998 _ 5 20 .u8 Try.underlying91 Try.underlying5 Try.sizeOf5 Try.isAgg5 f g w
theorem res_address {fn : Func} {q : Tmp} (h : fn.results = #[.cell q 91]) (tmps : Array Value) (w : World) (g : Nat) (cs : Array Value) (hp : tmps.getD q undef = .pointer (some ⟨g, 0, none⟩)) (hc : rowOf w g = cs) (hn : cs.size = 20) :
    (results fn tmps).run Try.prog w = .ok (.agg cs) w :=
  results_row h tmps w g cs 20 Try.isAgg91 Try.sizeOf91 hp hc hn
@[go_sem ↓] theorem zero_address (w : World) : (zeroValue 91).run Try.prog w = .ok (.agg (tab 20 .u8 zf)) w := zero_of Try.zeroValue91 (by kernel_rfl) w

/-! [20]uint8 -/
@[go_sem ↓] theorem ld_b20 (v : Value) : Instr.loadAt 90 v = ldArr 90 v := rfl
@[go_sem ↓] theorem st_b20 (v x : Value) : Instr.storeAt 90 v x = stArr 90 v x := rfl
@[go_sem] theorem run_ld_b20 (w : World) (b : Nat) : (ldArr 90 (.pointer (some ⟨b, 0, none⟩))).run Try.prog w = if (rowOf w b).size = 20 then .ok (.agg (rowOf w b)) w else ldBad Try.prog 90 b w :=
  run_ldArr_if _ 20 Try.isAgg90 Try.sizeOf90 w b
@[go_sem] theorem run_st_b20 (w : World) (b : Nat) (cs : Array Value) :
    (stArr 90 (.pointer (some ⟨b, 0, none⟩)) (.agg cs)).run Try.prog w = if rowFit w b = some 20 ∧ cs.size = 20 ∧ okCells cs = true then .ok () (w.setRow b cs) else stBad Try.prog 90 b (.agg cs) w :=
  run_stArr_if _ 20 Try.sizeOf90 w b cs
@[go_sem] theorem run_equal_b20 (f g : Nat → Int) (w : World) : (Op.equalIn 10000 90 (.agg (tab 20 .u8 f)) (.agg (tab 20 .u8 g))).run Try.prog w = .ok (decide (tl 20 f = tl 20 g)) w :=
  run_equalIn_tab 9998 _ 5 20 .u8 Try.underlying90 Try.underlying5 Try.sizeOf5 Try.isAgg5 f g w
theorem res_b20 {fn : Func} {q : Tmp} (h : fn.results = #[.cell q 90]) (tmps : Array Value) (w : World) (g : Nat) (cs : Array Value) (hp : tmps.getD q undef = .pointer (some ⟨g, 0, none⟩)) (hc : rowOf w g = cs) (hn : cs.size = 20) :
    (results fn tmps).run Try.prog w = .ok (.agg cs) w :=
  results_row h tmps w g cs 20 Try.isAgg90 Try.sizeOf90 hp hc hn
@[go_sem ↓] theorem zero_b20 (w : World) : (zeroValue 90).run Try.prog w = .ok (.agg (tab 20 .u8 zf)) w := zero_of Try.zeroValue90 (by kernel_rfl) w

/-! [25]uint64 -/
@[go_sem ↓] theorem ld_u25 (v : Value) : Instr.loadAt 192 v = ldArr 192 v := rfl
@[go_sem ↓] theorem st_u25 (v x : Value) : Instr.storeAt 192 v x = stArr 192 v x := rfl
@[go_sem] theorem run_ld_u25 (w : World) (b : Nat) : (ldArr 192 (.pointer (some ⟨b, 0, none⟩))).run Try.prog w = if (rowOf w b).size = 25 then .ok (.agg (rowOf w b)) w else ldBad Try.prog 192 b w :=
  run_ldArr_if _ 25 Try.isAgg192 Try.sizeOf192 w b
@[go_sem] theorem run_st_u25 (w : World) (b : Nat) (cs : Array Value) :
    (stArr 192 (.pointer (some ⟨b, 0, none⟩)) (.agg cs)).run Try.prog w = if rowFit w b = some 25 ∧ cs.size = 25 ∧ okCells cs = true then .ok () (w.setRow b cs) else stBad Try.prog 192 b (.agg cs) w :=
  run_stArr_if _ 25 Try.sizeOf192 w b cs
@[go_sem] theorem run_equal_u25 (f g : Nat → Int) (w : World) : (Op.equalIn 10000 192 (.agg (tab 25 .u64 f)) (.agg (tab 25 .u64 g))).run Try.prog w = .ok (decide (tl 25 f = tl 25 g)) w :=
  run_equalIn_tab 9998 _ 22 25 .u64 Try.underlying192 Try.underlying22 Try.sizeOf22 Try.isAgg22 f g w
theorem res_u25 {fn : Func} {q : Tmp} (h : fn.results = #[.cell q 192]) (tmps : Array Value) (w : World) (g : Nat) (cs : Array Value) (hp : tmps.getD q undef = .pointer (some ⟨g, 0, none⟩)) (hc : rowOf w g = cs) (hn : cs.size = 25) :
    (results fn tmps).run Try.prog w = .ok (.agg cs) w :=
  results_row h tmps w g cs 25 Try.isAgg192 Try.sizeOf192 hp hc hn
@[go_sem ↓] theorem zero_u25 (w : World) : (zeroValue 192).run Try.prog w = .ok (.agg (tab 25 .u64 zf)) w := zero_of Try.zeroValue192 (by kernel_rfl) w

/-! [24]uint64 -/
@[go_sem ↓] theorem ld_u24 (v : Value) : Instr.loadAt 194 v = ldArr 194 v := rfl
@[go_sem ↓] theorem st_u24 (v x : Value) : Instr.storeAt 194 v x = stArr 194 v x := rfl
@[go_sem] theorem run_ld_u24 (w : World) (b : Nat) : (ldArr 194 (.pointer (some ⟨b, 0, none⟩))).run Try.prog w = if (rowOf w b).size = 24 then .ok (.agg (rowOf w b)) w else ldBad Try.prog 194 b w :=
  run_ldArr_if _ 24 Try.isAgg194 Try.sizeOf194 w b
@[go_sem] theorem run_st_u24 (w : World) (b : Nat) (cs : Array Value) :
    (stArr 194 (.pointer (some ⟨b, 0, none⟩)) (.agg cs)).run Try.prog w = if rowFit w b = some 24 ∧ cs.size = 24 ∧ okCells cs = true then .ok () (w.setRow b cs) else stBad Try.prog 194 b (.agg cs) w :=
  run_stArr_if _ 24 Try.sizeOf194 w b cs
@[go_sem] theorem run_equal_u24 (f g : Nat → Int) (w : World) : (Op.equalIn 10000 194 (.agg (tab 24 .u64 f)) (.agg (tab 24 .u64 g))).run Try.prog w = .ok (decide (tl 24 f = tl 24 g)) w :=
  run_equalIn_tab 9998 _ 22 24 .u64 Try.underlying194 Try.underlying22 Try.sizeOf22 Try.isAgg22 f g w
theorem res_u24 {fn : Func} {q : Tmp} (h : fn.results = #[.cell q 194]) (tmps : Array Value) (w : World) (g : Nat) (cs : Array Value) (hp : tmps.getD q undef = .pointer (some ⟨g, 0, none⟩)) (hc : rowOf w g = cs) (hn : cs.size = 24) :
    (results fn tmps).run Try.prog w = .ok (.agg cs) w :=
  results_row h tmps w g cs 24 Try.isAgg194 Try.sizeOf194 hp hc hn
@[go_sem ↓] theorem zero_u24 (w : World) : (zeroValue 194).run Try.prog w = .ok (.agg (tab 24 .u64 zf)) w := zero_of Try.zeroValue194 (by kernel_rfl) w

/-! [5]uint64 -/
@[go_sem ↓] theorem ld_u5 (v : Value) : Instr.loadAt 197 v = ldArr 197 v := rfl
@[go_sem ↓] theorem st_u5 (v x : Value) : Instr.storeAt 197 v x = stArr 197 v x := rfl
@[go_sem] theorem run_ld_u5 (w : World) (b : Nat) : (ldArr 197 (.pointer (some ⟨b, 0, none⟩))).run Try.prog w = if (rowOf w b).size = 5 then .ok (.agg (rowOf w b)) w else ldBad Try.prog 197 b w :=
  run_ldArr_if _ 5 Try.isAgg197 Try.sizeOf197 w b
@[go_sem] theorem run_st_u5 (w : World) (b : Nat) (cs : Array Value) :
    (stArr 197 (.pointer (some ⟨b, 0, none⟩)) (.agg cs)).run Try.prog w = if rowFit w b = some 5 ∧ cs.size = 5 ∧ okCells cs = true then .ok () (w.setRow b cs) else stBad Try.prog 197 b (.agg cs) w :=
  run_stArr_if _ 5 Try.sizeOf197 w b cs
@[go_sem] theorem run_equal_u5 (f g : Nat → Int) (w : World) : (Op.equalIn 10000 197 (.agg (tab 5 .u64 f)) (.agg (tab 5 .u64 g))).run Try.prog w = .ok (decide (tl 5 f = tl 5 g)) w :=
  run_equalIn_tab 9998 _ 22 5 .u64 Try.underlying197 Try.underlying22 Try.sizeOf22 Try.isAgg22 f g w
theorem res_u5 {fn : Func} {q : Tmp} (h : fn.results = #[.cell q 197]) (tmps : Array Value) (w : World) (g : Nat) (cs : Array Value) (hp : tmps.getD q undef = .pointer (some ⟨g, 0, none⟩)) (hc : rowOf w g = cs) (hn : cs.size = 5) :
    (results fn tmps).run Try.prog w = .ok (.agg cs) w :=
  results_row h tmps w g cs 5 Try.isAgg197 Try.sizeOf197 hp hc hn
@[go_sem ↓] theorem zero_u5 (w : World) : (zeroValue 197).run Try.prog w = .ok (.agg (tab 5 .u64 zf)) w := zero_of Try.zeroValue197 (by kernel_rfl) w







/-- what is known of old blocks behind a call that has left all below a number as it was -/
theorem below_facts {W w1 : World} (hb : Below W.heap.size W w1) : (∀ b o, b < W.heap.size → w1.cell? ⟨b, o, none⟩ = W.cell? ⟨b, o, none⟩) ∧ (∀ b o, b < W.heap.size → w1.frozen? ⟨b, o, none⟩ = W.frozen? ⟨b, o, none⟩) ∧
    (∀ b, b < W.heap.size → rowOf w1 b = rowOf W b) ∧ (∀ b, b < W.heap.size → rowFit w1 b = rowFit W b) ∧ W.heap.size ≤ w1.heap.size :=
  ⟨fun b o h => hb.cell (p := ⟨b, o, none⟩) h, fun b o h => hb.frozen (p := ⟨b, o, none⟩) h, fun _ h => rowOf_below hb h, fun _ h => rowFit_below hb h, hb.size⟩
/-- the same, said of rows alone -/
theorem row_facts {B : Nat} {W w1 : World} (hb : Below B W w1) : (∀ b, b < B → rowOf w1 b = rowOf W b) ∧ (∀ b, b < B → rowFit w1 b = rowFit W b) ∧ W.heap.size ≤ w1.heap.size :=
  ⟨fun _ h => rowOf_below hb h, fun _ h => rowFit_below hb h, hb.size⟩

/-- the list of four noughts -/
def z4 : List Int := tl 4 (fn4 0 0 0 0)
/-- a word's value; a value of n numbers -/
abbrev wv (f : Nat → Int) : Value := .agg (tab 4 .u64 f)

end Go.Proofs.Ytfjigoimjaemmaa
