/- The array types of this translation: how they are read, stored, made and compared. -/
import Derived.Test.YtfjigoimjaemmaaDoorRows
import Derived.Test.YtfjigoimjaemmaaDoorLib
namespace Go.Proofs.YtfjigoimjaemmaaDoor
open Go.RowKit
set_option linter.unusedSimpArgs false
set_option linter.unusedVariables false
set_option maxRecDepth 100000

attribute [go_sem] rowOf_alloc_at rowOf_alloc_past rowOf_drew rowOf_setCell_other rowOf_setCell_same rowFit_alloc_at rowFit_alloc_past rowFit_drew rowFit_setCell setRow_alloc_at setRow_alloc_past setRow_drew rowOf_setRow_other rowOf_setRow_same rowFit_setRow_other rowFit_setRow_same
attribute [go_sem] tab_size tab_get tab_getElem tab_set okCells_tab lit4 tab_ne upd_fn4_0 upd_fn4_1 upd_fn4_2 upd_fn4_3 fn4_0 fn4_1 fn4_2 fn4_3 upd_same block_add
attribute [go_sem high] cell_of_rowOf
attribute [go_sem] frozen_of_fit

/-- all noughts -/
def zf : Nat → Int := fun _ => 0
@[go_sem] theorem zf_at (i : Nat) : zf i = 0 := rfl

/-! api.Word -/
@[go_sem ↓] theorem ld_word (v : Value) : Instr.loadAt 47 v = ldArr 47 v := rfl
@[go_sem ↓] theorem st_word (v x : Value) : Instr.storeAt 47 v x = stArr 47 v x := rfl
@[go_sem] theorem run_ld_word (w : World) (b : Nat) : (ldArr 47 (.pointer (some ⟨b, 0, none⟩))).run Tryd.prog w = if (rowOf w b).size = 4 then .ok (.agg (rowOf w b)) w else ldBad Tryd.prog 47 b w :=
  run_ldArr_if _ 4 Tryd.isAgg47 Tryd.sizeOf47 w b
@[go_sem] theorem run_st_word (w : World) (b : Nat) (cs : Array Value) :
    (stArr 47 (.pointer (some ⟨b, 0, none⟩)) (.agg cs)).run Tryd.prog w = if rowFit w b = some 4 ∧ cs.size = 4 ∧ okCells cs = true then .ok () (w.setRow b cs) else stBad Tryd.prog 47 b (.agg cs) w :=
  run_stArr_if _ 4 Tryd.sizeOf47 w b cs
@[go_sem] theorem run_equal_word (f g : Nat → Int) (w : World) : (Op.equalIn 10000 47 (.agg (tab 4 .u64 f)) (.agg (tab 4 .u64 g))).run Tryd.prog w = .ok (decide (tl 4 f = tl 4 g)) w :=
  run_equalIn_tab 9998 _ 22 4 .u64 Tryd.underlying47 Tryd.underlying22 Tryd.sizeOf22 Tryd.isAgg22 f g w
theorem res_word {fn : Func} {q : Tmp} (h : fn.results = #[.cell q 47]) (tmps : Array Value) (w : World) (g : Nat) (cs : Array Value) (hp : tmps.getD q undef = .pointer (some ⟨g, 0, none⟩)) (hc : rowOf w g = cs) (hn : cs.size = 4) :
    (results fn tmps).run Tryd.prog w = .ok (.agg cs) w :=
  results_row h tmps w g cs 4 Tryd.isAgg47 Tryd.sizeOf47 hp hc hn

/-! [4]uint64 -/
@[go_sem ↓] theorem ld_u4 (v : Value) : Instr.loadAt 46 v = ldArr 46 v := rfl
@[go_sem ↓] theorem st_u4 (v x : Value) : Instr.storeAt 46 v x = stArr 46 v x := rfl
@[go_sem] theorem run_ld_u4 (w : World) (b : Nat) : (ldArr 46 (.pointer (some ⟨b, 0, none⟩))).run Tryd.prog w = if (rowOf w b).size = 4 then .ok (.agg (rowOf w b)) w else ldBad Tryd.prog 46 b w :=
  run_ldArr_if _ 4 Tryd.isAgg46 Tryd.sizeOf46 w b
@[go_sem] theorem run_st_u4 (w : World) (b : Nat) (cs : Array Value) :
    (stArr 46 (.pointer (some ⟨b, 0, none⟩)) (.agg cs)).run Tryd.prog w = if rowFit w b = some 4 ∧ cs.size = 4 ∧ okCells cs = true then .ok () (w.setRow b cs) else stBad Tryd.prog 46 b (.agg cs) w :=
  run_stArr_if _ 4 Tryd.sizeOf46 w b cs
@[go_sem] theorem run_equal_u4 (f g : Nat → Int) (w : World) : (Op.equalIn 10000 46 (.agg (tab 4 .u64 f)) (.agg (tab 4 .u64 g))).run Tryd.prog w = .ok (decide (tl 4 f = tl 4 g)) w :=
  run_equalIn_tab 9998 _ 22 4 .u64 Tryd.underlying46 Tryd.underlying22 Tryd.sizeOf22 Tryd.isAgg22 f g w
theorem res_u4 {fn : Func} {q : Tmp} (h : fn.results = #[.cell q 46]) (tmps : Array Value) (w : World) (g : Nat) (cs : Array Value) (hp : tmps.getD q undef = .pointer (some ⟨g, 0, none⟩)) (hc : rowOf w g = cs) (hn : cs.size = 4) :
    (results fn tmps).run Tryd.prog w = .ok (.agg cs) w :=
  results_row h tmps w g cs 4 Tryd.isAgg46 Tryd.sizeOf46 hp hc hn

/-! smithyref01.D -/
@[go_sem ↓] theorem ld_dig (v : Value) : Instr.loadAt 126 v = ldArr 126 v := rfl
@[go_sem ↓] theorem st_dig (v x : Value) : Instr.storeAt 126 v x = stArr 126 v x := rfl
@[go_sem] theorem run_ld_dig (w : World) (b : Nat) : (ldArr 126 (.pointer (some ⟨b, 0, none⟩))).run Tryd.prog w = if (rowOf w b).size = 32 then .ok (.agg (rowOf w b)) w else ldBad Tryd.prog 126 b w :=
  run_ldArr_if _ 32 Tryd.isAgg126 Tryd.sizeOf126 w b
@[go_sem] theorem run_st_dig (w : World) (b : Nat) (cs : Array Value) :
    (stArr 126 (.pointer (some ⟨b, 0, none⟩)) (.agg cs)).run Tryd.prog w = if rowFit w b = some 32 ∧ cs.size = 32 ∧ okCells cs = true then .ok () (w.setRow b cs) else stBad Tryd.prog 126 b (.agg cs) w :=
  run_stArr_if _ 32 Tryd.sizeOf126 w b cs
@[go_sem] theorem run_equal_dig (f g : Nat → Int) (w : World) : (Op.equalIn 10000 126 (.agg (tab 32 .i64 f)) (.agg (tab 32 .i64 g))).run Tryd.prog w = .ok (decide (tl 32 f = tl 32 g)) w :=
  run_equalIn_tab 9998 _ 3 32 .i64 Tryd.underlying126 Tryd.underlying3 Tryd.sizeOf3 Tryd.isAgg3 f g w
theorem res_dig {fn : Func} {q : Tmp} (h : fn.results = #[.cell q 126]) (tmps : Array Value) (w : World) (g : Nat) (cs : Array Value) (hp : tmps.getD q undef = .pointer (some ⟨g, 0, none⟩)) (hc : rowOf w g = cs) (hn : cs.size = 32) :
    (results fn tmps).run Tryd.prog w = .ok (.agg cs) w :=
  results_row h tmps w g cs 32 Tryd.isAgg126 Tryd.sizeOf126 hp hc hn
@[go_sem ↓] theorem zero_dig (w : World) : (zeroValue 126).run Tryd.prog w = .ok (.agg (tab 32 .i64 zf)) w := zero_of Tryd.zeroValue126 (by kernel_rfl) w

/-! [32]int -/
@[go_sem ↓] theorem ld_i32 (v : Value) : Instr.loadAt 125 v = ldArr 125 v := rfl
@[go_sem ↓] theorem st_i32 (v x : Value) : Instr.storeAt 125 v x = stArr 125 v x := rfl
@[go_sem] theorem run_ld_i32 (w : World) (b : Nat) : (ldArr 125 (.pointer (some ⟨b, 0, none⟩))).run Tryd.prog w = if (rowOf w b).size = 32 then .ok (.agg (rowOf w b)) w else ldBad Tryd.prog 125 b w :=
  run_ldArr_if _ 32 Tryd.isAgg125 Tryd.sizeOf125 w b
@[go_sem] theorem run_st_i32 (w : World) (b : Nat) (cs : Array Value) :
    (stArr 125 (.pointer (some ⟨b, 0, none⟩)) (.agg cs)).run Tryd.prog w = if rowFit w b = some 32 ∧ cs.size = 32 ∧ okCells cs = true then .ok () (w.setRow b cs) else stBad Tryd.prog 125 b (.agg cs) w :=
  run_stArr_if _ 32 Tryd.sizeOf125 w b cs
@[go_sem] theorem run_equal_i32 (f g : Nat → Int) (w : World) : (Op.equalIn 10000 125 (.agg (tab 32 .i64 f)) (.agg (tab 32 .i64 g))).run Tryd.prog w = .ok (decide (tl 32 f = tl 32 g)) w :=
  run_equalIn_tab 9998 _ 3 32 .i64 Tryd.underlying125 Tryd.underlying3 Tryd.sizeOf3 Tryd.isAgg3 f g w
theorem res_i32 {fn : Func} {q : Tmp} (h : fn.results = #[.cell q 125]) (tmps : Array Value) (w : World) (g : Nat) (cs : Array Value) (hp : tmps.getD q undef = .pointer (some ⟨g, 0, none⟩)) (hc : rowOf w g = cs) (hn : cs.size = 32) :
    (results fn tmps).run Tryd.prog w = .ok (.agg cs) w :=
  results_row h tmps w g cs 32 Tryd.isAgg125 Tryd.sizeOf125 hp hc hn
@[go_sem ↓] theorem zero_i32 (w : World) : (zeroValue 125).run Tryd.prog w = .ok (.agg (tab 32 .i64 zf)) w := zero_of Tryd.zeroValue125 (by kernel_rfl) w

/-! [32]uint8 -/
@[go_sem ↓] theorem ld_b32 (v : Value) : Instr.loadAt 39 v = ldArr 39 v := rfl
@[go_sem ↓] theorem st_b32 (v x : Value) : Instr.storeAt 39 v x = stArr 39 v x := rfl
@[go_sem] theorem run_ld_b32 (w : World) (b : Nat) : (ldArr 39 (.pointer (some ⟨b, 0, none⟩))).run Tryd.prog w = if (rowOf w b).size = 32 then .ok (.agg (rowOf w b)) w else ldBad Tryd.prog 39 b w :=
  run_ldArr_if _ 32 Tryd.isAgg39 Tryd.sizeOf39 w b
@[go_sem] theorem run_st_b32 (w : World) (b : Nat) (cs : Array Value) :
    (stArr 39 (.pointer (some ⟨b, 0, none⟩)) (.agg cs)).run Tryd.prog w = if rowFit w b = some 32 ∧ cs.size = 32 ∧ okCells cs = true then .ok () (w.setRow b cs) else stBad Tryd.prog 39 b (.agg cs) w :=
  run_stArr_if _ 32 Tryd.sizeOf39 w b cs
@[go_sem] theorem run_equal_b32 (f g : Nat → Int) (w : World) : (Op.equalIn 10000 39 (.agg (tab 32 .u8 f)) (.agg (tab 32 .u8 g))).run Tryd.prog w = .ok (decide (tl 32 f = tl 32 g)) w :=
  run_equalIn_tab 9998 _ 5 32 .u8 Tryd.underlying39 Tryd.underlying5 Tryd.sizeOf5 Tryd.isAgg5 f g w
theorem res_b32 {fn : Func} {q : Tmp} (h : fn.results = #[.cell q 39]) (tmps : Array Value) (w : World) (g : Nat) (cs : Array Value) (hp : tmps.getD q undef = .pointer (some ⟨g, 0, none⟩)) (hc : rowOf w g = cs) (hn : cs.size = 32) :
    (results fn tmps).run Tryd.prog w = .ok (.agg cs) w :=
  results_row h tmps w g cs 32 Tryd.isAgg39 Tryd.sizeOf39 hp hc hn
@[go_sem ↓] theorem zero_b32 (w : World) : (zeroValue 39).run Tryd.prog w = .ok (.agg (tab 32 .u8 zf)) w := zero_of Tryd.zeroValue39 (by kernel_rfl) w

/-! api.Hash -/
@[go_sem ↓] theorem ld_hash (v : Value) : Instr.loadAt 40 v = ldArr 40 v := rfl
@[go_sem ↓] theorem st_hash (v x : Value) : Instr.storeAt 40 v x = stArr 40 v x := rfl
@[go_sem] theorem run_ld_hash (w : World) (b : Nat) : (ldArr 40 (.pointer (some ⟨b, 0, none⟩))).run Tryd.prog w = if (rowOf w b).size = 32 then .ok (.agg (rowOf w b)) w else ldBad Tryd.prog 40 b w :=
  run_ldArr_if _ 32 Tryd.isAgg40 Tryd.sizeOf40 w b
@[go_sem] theorem run_st_hash (w : World) (b : Nat) (cs : Array Value) :
    (stArr 40 (.pointer (some ⟨b, 0, none⟩)) (.agg cs)).run Tryd.prog w = if rowFit w b = some 32 ∧ cs.size = 32 ∧ okCells cs = true then .ok () (w.setRow b cs) else stBad Tryd.prog 40 b (.agg cs) w :=
  run_stArr_if _ 32 Tryd.sizeOf40 w b cs
@[go_sem] theorem run_equal_hash (f g : Nat → Int) (w : World) : (Op.equalIn 10000 40 (.agg (tab 32 .u8 f)) (.agg (tab 32 .u8 g))).run Tryd.prog w = .ok (decide (tl 32 f = tl 32 g)) w :=
  run_equalIn_tab 9998 _ 5 32 .u8 Tryd.underlying40 Tryd.underlying5 Tryd.sizeOf5 Tryd.isAgg5 f g w
theorem res_hash {fn : Func} {q : Tmp} (h : fn.results = #[.cell q 40]) (tmps : Array Value) (w : World) (g : Nat) (cs : Array Value) (hp : tmps.getD q undef = .pointer (some ⟨g, 0, none⟩)) (hc : rowOf w g = cs) (hn : cs.size = 32) :
    (results fn tmps).run Tryd.prog w = .ok (.agg cs) w :=
  results_row h tmps w g cs 32 Tryd.isAgg40 Tryd.sizeOf40 hp hc hn
@[go_sem ↓] theorem zero_hash (w : World) : (zeroValue 40).run Tryd.prog w = .ok (.agg (tab 32 .u8 zf)) w := zero_of Tryd.zeroValue40 (by kernel_rfl) w

/-! api.Address -/
@[go_sem ↓] theorem ld_address (v : Value) : Instr.loadAt 61 v = ldArr 61 v := rfl
@[go_sem ↓] theorem st_address (v x : Value) : Instr.storeAt 61 v x = stArr 61 v x := rfl
@[go_sem] theorem run_ld_address (w : World) (b : Nat) : (ldArr 61 (.pointer (some ⟨b, 0, none⟩))).run Tryd.prog w = if (rowOf w b).size = 20 then .ok (.agg (rowOf w b)) w else ldBad Tryd.prog 61 b w :=
  run_ldArr_if _ 20 Tryd.isAgg61 Tryd.sizeOf61 w b
@[go_sem] theorem run_st_address (w : World) (b : Nat) (cs : Array Value) :
    (stArr 61 (.pointer (some ⟨b, 0, none⟩)) (.agg cs)).run Tryd.prog w = if rowFit w b = some 20 ∧ cs.size = 20 ∧ okCells cs = true then .ok () (w.setRow b cs) else stBad Tryd.prog 61 b (.agg cs) w :=
  run_stArr_if _ 20 Tryd.sizeOf61 w b cs
@[go_sem] theorem run_equal_address (f g : Nat → Int) (w : World) : (Op.equalIn 10000 61 (.agg (tab 20 .u8 f)) (.agg (tab 20 .u8 g))).run Tryd.prog w = .ok (decide (tl 20 f = tl 20 g)) w :=
  run_equalIn_tab 9998 _ 5 20 .u8 Tryd.underlying61 Tryd.underlying5 Tryd.sizeOf5 Tryd.isAgg5 f g w
theorem res_address {fn : Func} {q : Tmp} (h : fn.results = #[.cell q 61]) (tmps : Array Value) (w : World) (g : Nat) (cs : Array Value) (hp : tmps.getD q undef = .pointer (some ⟨g, 0, none⟩)) (hc : rowOf w g = cs) (hn : cs.size = 20) :
    (results fn tmps).run Tryd.prog w = .ok (.agg cs) w :=
  results_row h tmps w g cs 20 Tryd.isAgg61 Tryd.sizeOf61 hp hc hn
@[go_sem ↓] theorem zero_address (w : World) : (zeroValue 61).run Tryd.prog w = .ok (.agg (tab 20 .u8 zf)) w := zero_of Tryd.zeroValue61 (by kernel_rfl) w

/-! [20]uint8 -/
@[go_sem ↓] theorem ld_b20 (v : Value) : Instr.loadAt 60 v = ldArr 60 v := rfl
@[go_sem ↓] theorem st_b20 (v x : Value) : Instr.storeAt 60 v x = stArr 60 v x := rfl
@[go_sem] theorem run_ld_b20 (w : World) (b : Nat) : (ldArr 60 (.pointer (some ⟨b, 0, none⟩))).run Tryd.prog w = if (rowOf w b).size = 20 then .ok (.agg (rowOf w b)) w else ldBad Tryd.prog 60 b w :=
  run_ldArr_if _ 20 Tryd.isAgg60 Tryd.sizeOf60 w b
@[go_sem] theorem run_st_b20 (w : World) (b : Nat) (cs : Array Value) :
    (stArr 60 (.pointer (some ⟨b, 0, none⟩)) (.agg cs)).run Tryd.prog w = if rowFit w b = some 20 ∧ cs.size = 20 ∧ okCells cs = true then .ok () (w.setRow b cs) else stBad Tryd.prog 60 b (.agg cs) w :=
  run_stArr_if _ 20 Tryd.sizeOf60 w b cs
@[go_sem] theorem run_equal_b20 (f g : Nat → Int) (w : World) : (Op.equalIn 10000 60 (.agg (tab 20 .u8 f)) (.agg (tab 20 .u8 g))).run Tryd.prog w = .ok (decide (tl 20 f = tl 20 g)) w :=
  run_equalIn_tab 9998 _ 5 20 .u8 Tryd.underlying60 Tryd.underlying5 Tryd.sizeOf5 Tryd.isAgg5 f g w
theorem res_b20 {fn : Func} {q : Tmp} (h : fn.results = #[.cell q 60]) (tmps : Array Value) (w : World) (g : Nat) (cs : Array Value) (hp : tmps.getD q undef = .pointer (some ⟨g, 0, none⟩)) (hc : rowOf w g = cs) (hn : cs.size = 20) :
    (results fn tmps).run Tryd.prog w = .ok (.agg cs) w :=
  results_row h tmps w g cs 20 Tryd.isAgg60 Tryd.sizeOf60 hp hc hn
@[go_sem ↓] theorem zero_b20 (w : World) : (zeroValue 60).run Tryd.prog w = .ok (.agg (tab 20 .u8 zf)) w := zero_of Tryd.zeroValue60 (by kernel_rfl) w

/-! [25]uint64 -/
@[go_sem ↓] theorem ld_u25 (v : Value) : Instr.loadAt 23 v = ldArr 23 v := rfl
@[go_sem ↓] theorem st_u25 (v x : Value) : Instr.storeAt 23 v x = stArr 23 v x := rfl
@[go_sem] theorem run_ld_u25 (w : World) (b : Nat) : (ldArr 23 (.pointer (some ⟨b, 0, none⟩))).run Tryd.prog w = if (rowOf w b).size = 25 then .ok (.agg (rowOf w b)) w else ldBad Tryd.prog 23 b w :=
  run_ldArr_if _ 25 Tryd.isAgg23 Tryd.sizeOf23 w b
@[go_sem] theorem run_st_u25 (w : World) (b : Nat) (cs : Array Value) :
    (stArr 23 (.pointer (some ⟨b, 0, none⟩)) (.agg cs)).run Tryd.prog w = if rowFit w b = some 25 ∧ cs.size = 25 ∧ okCells cs = true then .ok () (w.setRow b cs) else stBad Tryd.prog 23 b (.agg cs) w :=
  run_stArr_if _ 25 Tryd.sizeOf23 w b cs
@[go_sem] theorem run_equal_u25 (f g : Nat → Int) (w : World) : (Op.equalIn 10000 23 (.agg (tab 25 .u64 f)) (.agg (tab 25 .u64 g))).run Tryd.prog w = .ok (decide (tl 25 f = tl 25 g)) w :=
  run_equalIn_tab 9998 _ 22 25 .u64 Tryd.underlying23 Tryd.underlying22 Tryd.sizeOf22 Tryd.isAgg22 f g w
theorem res_u25 {fn : Func} {q : Tmp} (h : fn.results = #[.cell q 23]) (tmps : Array Value) (w : World) (g : Nat) (cs : Array Value) (hp : tmps.getD q undef = .pointer (some ⟨g, 0, none⟩)) (hc : rowOf w g = cs) (hn : cs.size = 25) :
    (results fn tmps).run Tryd.prog w = .ok (.agg cs) w :=
  results_row h tmps w g cs 25 Tryd.isAgg23 Tryd.sizeOf23 hp hc hn
@[go_sem ↓] theorem zero_u25 (w : World) : (zeroValue 23).run Tryd.prog w = .ok (.agg (tab 25 .u64 zf)) w := zero_of Tryd.zeroValue23 (by kernel_rfl) w

/-! [24]uint64 -/
@[go_sem ↓] theorem ld_u24 (v : Value) : Instr.loadAt 97 v = ldArr 97 v := rfl
@[go_sem ↓] theorem st_u24 (v x : Value) : Instr.storeAt 97 v x = stArr 97 v x := rfl
@[go_sem] theorem run_ld_u24 (w : World) (b : Nat) : (ldArr 97 (.pointer (some ⟨b, 0, none⟩))).run Tryd.prog w = if (rowOf w b).size = 24 then .ok (.agg (rowOf w b)) w else ldBad Tryd.prog 97 b w :=
  run_ldArr_if _ 24 Tryd.isAgg97 Tryd.sizeOf97 w b
@[go_sem] theorem run_st_u24 (w : World) (b : Nat) (cs : Array Value) :
    (stArr 97 (.pointer (some ⟨b, 0, none⟩)) (.agg cs)).run Tryd.prog w = if rowFit w b = some 24 ∧ cs.size = 24 ∧ okCells cs = true then .ok () (w.setRow b cs) else stBad Tryd.prog 97 b (.agg cs) w :=
  run_stArr_if _ 24 Tryd.sizeOf97 w b cs
@[go_sem] theorem run_equal_u24 (f g : Nat → Int) (w : World) : (Op.equalIn 10000 97 (.agg (tab 24 .u64 f)) (.agg (tab 24 .u64 g))).run Tryd.prog w = .ok (decide (tl 24 f = tl 24 g)) w :=
  run_equalIn_tab 9998 _ 22 24 .u64 Tryd.underlying97 Tryd.underlying22 Tryd.sizeOf22 Tryd.isAgg22 f g w
theorem res_u24 {fn : Func} {q : Tmp} (h : fn.results = #[.cell q 97]) (tmps : Array Value) (w : World) (g : Nat) (cs : Array Value) (hp : tmps.getD q undef = .pointer (some ⟨g, 0, none⟩)) (hc : rowOf w g = cs) (hn : cs.size = 24) :
    (results fn tmps).run Tryd.prog w = .ok (.agg cs) w :=
  results_row h tmps w g cs 24 Tryd.isAgg97 Tryd.sizeOf97 hp hc hn
@[go_sem ↓] theorem zero_u24 (w : World) : (zeroValue 97).run Tryd.prog w = .ok (.agg (tab 24 .u64 zf)) w := zero_of Tryd.zeroValue97 (by kernel_rfl) w

/-! [5]uint64 -/
@[go_sem ↓] theorem ld_u5 (v : Value) : Instr.loadAt 143 v = ldArr 143 v := rfl
@[go_sem ↓] theorem st_u5 (v x : Value) : Instr.storeAt 143 v x = stArr 143 v x := rfl
@[go_sem] theorem run_ld_u5 (w : World) (b : Nat) : (ldArr 143 (.pointer (some ⟨b, 0, none⟩))).run Tryd.prog w = if (rowOf w b).size = 5 then .ok (.agg (rowOf w b)) w else ldBad Tryd.prog 143 b w :=
  run_ldArr_if _ 5 Tryd.isAgg143 Tryd.sizeOf143 w b
@[go_sem] theorem run_st_u5 (w : World) (b : Nat) (cs : Array Value) :
    (stArr 143 (.pointer (some ⟨b, 0, none⟩)) (.agg cs)).run Tryd.prog w = if rowFit w b = some 5 ∧ cs.size = 5 ∧ okCells cs = true then .ok () (w.setRow b cs) else stBad Tryd.prog 143 b (.agg cs) w :=
  run_stArr_if _ 5 Tryd.sizeOf143 w b cs
@[go_sem] theorem run_equal_u5 (f g : Nat → Int) (w : World) : (Op.equalIn 10000 143 (.agg (tab 5 .u64 f)) (.agg (tab 5 .u64 g))).run Tryd.prog w = .ok (decide (tl 5 f = tl 5 g)) w :=
  run_equalIn_tab 9998 _ 22 5 .u64 Tryd.underlying143 Tryd.underlying22 Tryd.sizeOf22 Tryd.isAgg22 f g w
theorem res_u5 {fn : Func} {q : Tmp} (h : fn.results = #[.cell q 143]) (tmps : Array Value) (w : World) (g : Nat) (cs : Array Value) (hp : tmps.getD q undef = .pointer (some ⟨g, 0, none⟩)) (hc : rowOf w g = cs) (hn : cs.size = 5) :
    (results fn tmps).run Tryd.prog w = .ok (.agg cs) w :=
  results_row h tmps w g cs 5 Tryd.isAgg143 Tryd.sizeOf143 hp hc hn
@[go_sem ↓] theorem zero_u5 (w : World) : (zeroValue 143).run Tryd.prog w = .ok (.agg (tab 5 .u64 zf)) w := zero_of Tryd.zeroValue143 (by kernel_rfl) w

/-! api.Bloom -/
@[go_sem ↓] theorem ld_bloom (v : Value) : Instr.loadAt 52 v = ldArr 52 v := rfl
@[go_sem ↓] theorem st_bloom (v x : Value) : Instr.storeAt 52 v x = stArr 52 v x := rfl
@[go_sem] theorem run_ld_bloom (w : World) (b : Nat) : (ldArr 52 (.pointer (some ⟨b, 0, none⟩))).run Tryd.prog w = if (rowOf w b).size = 256 then .ok (.agg (rowOf w b)) w else ldBad Tryd.prog 52 b w :=
  run_ldArr_if _ 256 Tryd.isAgg52 Tryd.sizeOf52 w b
@[go_sem] theorem run_st_bloom (w : World) (b : Nat) (cs : Array Value) :
    (stArr 52 (.pointer (some ⟨b, 0, none⟩)) (.agg cs)).run Tryd.prog w = if rowFit w b = some 256 ∧ cs.size = 256 ∧ okCells cs = true then .ok () (w.setRow b cs) else stBad Tryd.prog 52 b (.agg cs) w :=
  run_stArr_if _ 256 Tryd.sizeOf52 w b cs
@[go_sem] theorem run_equal_bloom (f g : Nat → Int) (w : World) : (Op.equalIn 10000 52 (.agg (tab 256 .u8 f)) (.agg (tab 256 .u8 g))).run Tryd.prog w = .ok (decide (tl 256 f = tl 256 g)) w :=
  run_equalIn_tab 9998 _ 5 256 .u8 Tryd.underlying52 Tryd.underlying5 Tryd.sizeOf5 Tryd.isAgg5 f g w
theorem res_bloom {fn : Func} {q : Tmp} (h : fn.results = #[.cell q 52]) (tmps : Array Value) (w : World) (g : Nat) (cs : Array Value) (hp : tmps.getD q undef = .pointer (some ⟨g, 0, none⟩)) (hc : rowOf w g = cs) (hn : cs.size = 256) :
    (results fn tmps).run Tryd.prog w = .ok (.agg cs) w :=
  results_row h tmps w g cs 256 Tryd.isAgg52 Tryd.sizeOf52 hp hc hn
@[go_sem ↓] theorem zero_bloom (w : World) : (zeroValue 52).run Tryd.prog w = .ok (.agg (tab 256 .u8 zf)) w := zero_of Tryd.zeroValue52 (by kernel_rfl) w

/-! [136]uint8 -/
@[go_sem ↓] theorem ld_b136 (v : Value) : Instr.loadAt 123 v = ldArr 123 v := rfl
@[go_sem ↓] theorem st_b136 (v x : Value) : Instr.storeAt 123 v x = stArr 123 v x := rfl
@[go_sem] theorem run_ld_b136 (w : World) (b : Nat) : (ldArr 123 (.pointer (some ⟨b, 0, none⟩))).run Tryd.prog w = if (rowOf w b).size = 136 then .ok (.agg (rowOf w b)) w else ldBad Tryd.prog 123 b w :=
  run_ldArr_if _ 136 Tryd.isAgg123 Tryd.sizeOf123 w b
@[go_sem] theorem run_st_b136 (w : World) (b : Nat) (cs : Array Value) :
    (stArr 123 (.pointer (some ⟨b, 0, none⟩)) (.agg cs)).run Tryd.prog w = if rowFit w b = some 136 ∧ cs.size = 136 ∧ okCells cs = true then .ok () (w.setRow b cs) else stBad Tryd.prog 123 b (.agg cs) w :=
  run_stArr_if _ 136 Tryd.sizeOf123 w b cs
@[go_sem] theorem run_equal_b136 (f g : Nat → Int) (w : World) : (Op.equalIn 10000 123 (.agg (tab 136 .u8 f)) (.agg (tab 136 .u8 g))).run Tryd.prog w = .ok (decide (tl 136 f = tl 136 g)) w :=
  run_equalIn_tab 9998 _ 5 136 .u8 Tryd.underlying123 Tryd.underlying5 Tryd.sizeOf5 Tryd.isAgg5 f g w
theorem res_b136 {fn : Func} {q : Tmp} (h : fn.results = #[.cell q 123]) (tmps : Array Value) (w : World) (g : Nat) (cs : Array Value) (hp : tmps.getD q undef = .pointer (some ⟨g, 0, none⟩)) (hc : rowOf w g = cs) (hn : cs.size = 136) :
    (results fn tmps).run Tryd.prog w = .ok (.agg cs) w :=
  results_row h tmps w g cs 136 Tryd.isAgg123 Tryd.sizeOf123 hp hc hn
@[go_sem ↓] theorem zero_b136 (w : World) : (zeroValue 123).run Tryd.prog w = .ok (.agg (tab 136 .u8 zf)) w := zero_of Tryd.zeroValue123 (by kernel_rfl) w

/-! [3]int -/
@[go_sem ↓] theorem ld_i3 (v : Value) : Instr.loadAt 133 v = ldArr 133 v := rfl
@[go_sem ↓] theorem st_i3 (v x : Value) : Instr.storeAt 133 v x = stArr 133 v x := rfl
@[go_sem] theorem run_ld_i3 (w : World) (b : Nat) : (ldArr 133 (.pointer (some ⟨b, 0, none⟩))).run Tryd.prog w = if (rowOf w b).size = 3 then .ok (.agg (rowOf w b)) w else ldBad Tryd.prog 133 b w :=
  run_ldArr_if _ 3 Tryd.isAgg133 Tryd.sizeOf133 w b
@[go_sem] theorem run_st_i3 (w : World) (b : Nat) (cs : Array Value) :
    (stArr 133 (.pointer (some ⟨b, 0, none⟩)) (.agg cs)).run Tryd.prog w = if rowFit w b = some 3 ∧ cs.size = 3 ∧ okCells cs = true then .ok () (w.setRow b cs) else stBad Tryd.prog 133 b (.agg cs) w :=
  run_stArr_if _ 3 Tryd.sizeOf133 w b cs
@[go_sem] theorem run_equal_i3 (f g : Nat → Int) (w : World) : (Op.equalIn 10000 133 (.agg (tab 3 .i64 f)) (.agg (tab 3 .i64 g))).run Tryd.prog w = .ok (decide (tl 3 f = tl 3 g)) w :=
  run_equalIn_tab 9998 _ 3 3 .i64 Tryd.underlying133 Tryd.underlying3 Tryd.sizeOf3 Tryd.isAgg3 f g w
theorem res_i3 {fn : Func} {q : Tmp} (h : fn.results = #[.cell q 133]) (tmps : Array Value) (w : World) (g : Nat) (cs : Array Value) (hp : tmps.getD q undef = .pointer (some ⟨g, 0, none⟩)) (hc : rowOf w g = cs) (hn : cs.size = 3) :
    (results fn tmps).run Tryd.prog w = .ok (.agg cs) w :=
  results_row h tmps w g cs 3 Tryd.isAgg133 Tryd.sizeOf133 hp hc hn
@[go_sem ↓] theorem zero_i3 (w : World) : (zeroValue 133).run Tryd.prog w = .ok (.agg (tab 3 .i64 zf)) w := zero_of Tryd.zeroValue133 (by kernel_rfl) w

/-! [4]uint8 -/
@[go_sem ↓] theorem ld_b4 (v : Value) : Instr.loadAt 86 v = ldArr 86 v := rfl
@[go_sem ↓] theorem st_b4 (v x : Value) : Instr.storeAt 86 v x = stArr 86 v x := rfl
@[go_sem] theorem run_ld_b4 (w : World) (b : Nat) : (ldArr 86 (.pointer (some ⟨b, 0, none⟩))).run Tryd.prog w = if (rowOf w b).size = 4 then .ok (.agg (rowOf w b)) w else ldBad Tryd.prog 86 b w :=
  run_ldArr_if _ 4 Tryd.isAgg86 Tryd.sizeOf86 w b
@[go_sem] theorem run_st_b4 (w : World) (b : Nat) (cs : Array Value) :
    (stArr 86 (.pointer (some ⟨b, 0, none⟩)) (.agg cs)).run Tryd.prog w = if rowFit w b = some 4 ∧ cs.size = 4 ∧ okCells cs = true then .ok () (w.setRow b cs) else stBad Tryd.prog 86 b (.agg cs) w :=
  run_stArr_if _ 4 Tryd.sizeOf86 w b cs
@[go_sem] theorem run_equal_b4 (f g : Nat → Int) (w : World) : (Op.equalIn 10000 86 (.agg (tab 4 .u8 f)) (.agg (tab 4 .u8 g))).run Tryd.prog w = .ok (decide (tl 4 f = tl 4 g)) w :=
  run_equalIn_tab 9998 _ 5 4 .u8 Tryd.underlying86 Tryd.underlying5 Tryd.sizeOf5 Tryd.isAgg5 f g w
theorem res_b4 {fn : Func} {q : Tmp} (h : fn.results = #[.cell q 86]) (tmps : Array Value) (w : World) (g : Nat) (cs : Array Value) (hp : tmps.getD q undef = .pointer (some ⟨g, 0, none⟩)) (hc : rowOf w g = cs) (hn : cs.size = 4) :
    (results fn tmps).run Tryd.prog w = .ok (.agg cs) w :=
  results_row h tmps w g cs 4 Tryd.isAgg86 Tryd.sizeOf86 hp hc hn
@[go_sem ↓] theorem zero_b4 (w : World) : (zeroValue 86).run Tryd.prog w = .ok (.agg (tab 4 .u8 zf)) w := zero_of Tryd.zeroValue86 (by kernel_rfl) w

/-! [24]int -/
@[go_sem ↓] theorem ld_i24 (v : Value) : Instr.loadAt 145 v = ldArr 145 v := rfl
@[go_sem ↓] theorem st_i24 (v x : Value) : Instr.storeAt 145 v x = stArr 145 v x := rfl
@[go_sem] theorem run_ld_i24 (w : World) (b : Nat) : (ldArr 145 (.pointer (some ⟨b, 0, none⟩))).run Tryd.prog w = if (rowOf w b).size = 24 then .ok (.agg (rowOf w b)) w else ldBad Tryd.prog 145 b w :=
  run_ldArr_if _ 24 Tryd.isAgg145 Tryd.sizeOf145 w b
@[go_sem] theorem run_st_i24 (w : World) (b : Nat) (cs : Array Value) :
    (stArr 145 (.pointer (some ⟨b, 0, none⟩)) (.agg cs)).run Tryd.prog w = if rowFit w b = some 24 ∧ cs.size = 24 ∧ okCells cs = true then .ok () (w.setRow b cs) else stBad Tryd.prog 145 b (.agg cs) w :=
  run_stArr_if _ 24 Tryd.sizeOf145 w b cs
@[go_sem] theorem run_equal_i24 (f g : Nat → Int) (w : World) : (Op.equalIn 10000 145 (.agg (tab 24 .i64 f)) (.agg (tab 24 .i64 g))).run Tryd.prog w = .ok (decide (tl 24 f = tl 24 g)) w :=
  run_equalIn_tab 9998 _ 3 24 .i64 Tryd.underlying145 Tryd.underlying3 Tryd.sizeOf3 Tryd.isAgg3 f g w
theorem res_i24 {fn : Func} {q : Tmp} (h : fn.results = #[.cell q 145]) (tmps : Array Value) (w : World) (g : Nat) (cs : Array Value) (hp : tmps.getD q undef = .pointer (some ⟨g, 0, none⟩)) (hc : rowOf w g = cs) (hn : cs.size = 24) :
    (results fn tmps).run Tryd.prog w = .ok (.agg cs) w :=
  results_row h tmps w g cs 24 Tryd.isAgg145 Tryd.sizeOf145 hp hc hn
@[go_sem ↓] theorem zero_i24 (w : World) : (zeroValue 145).run Tryd.prog w = .ok (.agg (tab 24 .i64 zf)) w := zero_of Tryd.zeroValue145 (by kernel_rfl) w


/-- what is known of old blocks behind a call that has left all below a number as it was -/
theorem below_facts {W w1 : World} (hb : Below W.heap.size W w1) : (∀ b o, b < W.heap.size → w1.cell? ⟨b, o, none⟩ = W.cell? ⟨b, o, none⟩) ∧ (∀ b o, b < W.heap.size → w1.frozen? ⟨b, o, none⟩ = W.frozen? ⟨b, o, none⟩) ∧
    (∀ b, b < W.heap.size → rowOf w1 b = rowOf W b) ∧ (∀ b, b < W.heap.size → rowFit w1 b = rowFit W b) ∧ W.heap.size ≤ w1.heap.size :=
  ⟨fun b o h => hb.cell (p := ⟨b, o, none⟩) h, fun b o h => hb.frozen (p := ⟨b, o, none⟩) h, fun _ h => rowOf_below hb h, fun _ h => rowFit_below hb h, hb.size⟩
/-- the same, said of rows alone -/
theorem row_facts {B : Nat} {W w1 : World} (hb : Below B W w1) : (∀ b, b < B → rowOf w1 b = rowOf W b) ∧ (∀ b, b < B → rowFit w1 b = rowFit W b) ∧ W.heap.size ≤ w1.heap.size :=
  ⟨fun _ h => rowOf_below hb h, fun _ h => rowFit_below hb h, hb.size⟩

/-- the list of four noughts -/
def z4 : List Int := tl 4 (fn4 0 0 0 0)
/-- a word's value; a value of n numbers -/
abbrev wv (f : Nat → Int) : Value := .agg (tab 4 .u64 f)

end Go.Proofs.YtfjigoimjaemmaaDoor
