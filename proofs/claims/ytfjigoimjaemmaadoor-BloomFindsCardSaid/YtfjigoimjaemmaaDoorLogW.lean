/- logs: their rows, opened and read. -/
import Derived.Test.YtfjigoimjaemmaaDoorCellsW
namespace Go.Proofs.YtfjigoimjaemmaaDoor
open Go.ChangeShapes Go.WideShapes Go.ChangeAt Go.RowKit Go.Deep
set_option linter.unusedSimpArgs false
set_option linter.unusedVariables false
set_option maxRecDepth 100000

/-- a log: an address, topics, data -/
structure LogV where
  addr : Nat → Int
  tA : Option Addr
  tn : Nat
  tc : Nat
  tx : Nat → Nat → Int
  dA : Option Addr
  dn : Nat
  dc : Nat
  dx : Nat → Int
instance : Inhabited LogV := ⟨⟨zf, none, 0, 0, fun _ => zf, none, 0, 0, zf⟩⟩
/-- its cells -/
def LogV.cells (o : LogV) : List Value := (tl 20 o.addr).map (Value.int .u8) ++ [.slice o.tA o.tn o.tc, .slice o.dA o.dn o.dc]
def LogV.row (o : LogV) : Array Value := o.cells.toArray
/-- what is known of it -/
structure LogV.Ok (o : LogV) (w : World) : Prop where
  addr : ∀ j, j < 20 → 0 ≤ o.addr j ∧ o.addr j < 256
  topics : Words w o.tA o.tn o.tx
  words : ∀ j, j < o.tn → ∀ i, i < 4 → 0 ≤ o.tx j i ∧ o.tx j i < 18446744073709551616
  data : Ints w .u8 o.dA o.dn o.dx
  bytes : ∀ j, j < o.dn → 0 ≤ o.dx j ∧ o.dx j < 256
theorem LogV.Ok.below {o : LogV} {w w' : World} {B : Nat} (h : o.Ok w) (hB : w.heap.size ≤ B) (hb : Below B w w') : o.Ok w' := ⟨h.addr, h.topics.below hB hb, h.words, h.data.below hB hb, h.bytes⟩
theorem LogV.cells_length (o : LogV) : o.cells.length = 22 := by simp [LogV.cells, tl_length]
theorem LogV.row_size (o : LogV) : o.row.size = 22 := by simp [LogV.row, LogV.cells_length]
theorem LogV.row_addr (o : LogV) (j : Nat) (h : j < 20) : o.row[j]? = some (.int .u8 (o.addr j)) := by
  simp only [LogV.row, LogV.cells, List.getElem?_toArray]
  rw [List.getElem?_append_left (by simp [tl_length]; exact h), List.getElem?_map, tl_get 20 _ j h]; rfl
theorem LogV.row_20 (o : LogV) : o.row[20]? = some (.slice o.tA o.tn o.tc) := by
  simp only [LogV.row, LogV.cells, List.getElem?_toArray]
  rw [List.getElem?_append_right (by simp [tl_length])]; simp [tl_length]
theorem LogV.row_21 (o : LogV) : o.row[21]? = some (.slice o.dA o.dn o.dc) := by
  simp only [LogV.row, LogV.cells, List.getElem?_toArray]
  rw [List.getElem?_append_right (by simp [tl_length])]; simp [tl_length]
theorem LogV.row_ok (o : LogV) : okCells o.row = true := by
  simp [LogV.row, LogV.cells, okCells, Value.oneCell', tl, List.range_succ]
theorem LogV.row_at20 (o : LogV) (h : 20 < o.row.size) : o.row[20]'h = .slice o.tA o.tn o.tc := by
  have := o.row_20
  rw [Array.getElem?_eq_getElem h] at this
  exact Option.some.inj this
theorem LogV.row_at21 (o : LogV) (h : 21 < o.row.size) : o.row[21]'h = .slice o.dA o.dn o.dc := by
  have := o.row_21
  rw [Array.getElem?_eq_getElem h] at this
  exact Option.some.inj this
attribute [go_sem] LogV.row_size LogV.row_20 LogV.row_21 LogV.row_ok LogV.row_at20 LogV.row_at21

/-- the slice at A of n logs -/
def Logs (w : World) (A : Option Addr) (n : Nat) (L : Nat → LogV) : Prop := ∀ j, j < n → (∃ a : Addr, A = some a ∧ a.block < w.heap.size ∧ CellsAt w (a.add (j * 22)) (L j).row.toList) ∧ (L j).Ok w
theorem Logs.below {w w' : World} {A : Option Addr} {n B : Nat} {L : Nat → LogV} (h : Logs w A n L) (hB : w.heap.size ≤ B) (hb : Below B w w') : Logs w' A n L := fun j hj => by
  obtain ⟨⟨a, h1, h2, h3⟩, h4⟩ := h j hj
  exact ⟨⟨a, h1, Nat.lt_of_lt_of_le h2 hb.size, h3.below hB hb⟩, h4.below hB hb⟩
@[go_sem ↓] theorem ld_log (v : Value) : Instr.loadAt 64 v = ldArr 64 v := rfl
@[go_sem ↓] theorem st_log (v x : Value) : Instr.storeAt 64 v x = stArr 64 v x := rfl
@[go_sem] theorem run_st_log (w : World) (b : Nat) (cs : Array Value) :
    (stArr 64 (.pointer (some ⟨b, 0, none⟩)) (.agg cs)).run Tryd.prog w = if rowFit w b = some 22 ∧ cs.size = 22 ∧ okCells cs = true then .ok () (w.setRow b cs) else stBad Tryd.prog 64 b (.agg cs) w :=
  run_stArr_if _ 22 Tryd.sizeOf64 w b cs
theorem Logs.load {w : World} {A : Option Addr} {n : Nat} {L : Nat → LogV} (h : Logs w A n L) {j : Nat} (hj : j < n) :
    ∃ a : Addr, A = some a ∧ a.block < w.heap.size ∧ (ldArr 64 (.pointer (some (a.add (j * 22))))).run Tryd.prog w = .ok (.agg (L j).row) w ∧ (L j).Ok w := by
  obtain ⟨⟨a, h1, h2, h3⟩, h4⟩ := h j hj
  exact ⟨a, h1, h2, h3.load Tryd.isAgg64 (fun w => by rw [LogV.row_size]; exact Tryd.sizeOf64 w), h4⟩

theorem trod_log {H : Type} {enc : TypeId × Value → H} {w : World} {spare : Nat → Bool} {fuel : Nat} {cs : List Value} {x : DataW H × List MemPlace}
    (h : DataW.trod enc Tryd.prog w 0 spare true (fuel + 1) 64 cs = some x) : ∃ o : LogV, cs = o.row.toList ∧ o.Ok w := by
  have hl := (trod_struct_at Tryd.underlying64 h).1
  rw [show Tryd.prog.cellsOf 64 = 22 by kernel_rfl] at hl
  obtain ⟨y0, h0⟩ := trod_field Tryd.underlying64 h 0 61 0 20 rfl (by kernel_rfl)
  obtain ⟨y1, h1⟩ := trod_field Tryd.underlying64 h 1 62 20 1 rfl (by kernel_rfl)
  obtain ⟨y2, h2⟩ := trod_field Tryd.underlying64 h 2 29 21 1 rfl (by kernel_rfl)
  obtain ⟨f, e0, w0⟩ := trod_tab Tryd.underlying61 Tryd.underlying5 (by kernel_rfl) (show Tryd.prog.cellsOf 61 = 20 by kernel_rfl) h0
  obtain ⟨tA, tn, tc, tx, e1, t1, t2⟩ := trod_words h1
  obtain ⟨dA, dn, dc, dx, e2, d1, d2, d3, d4⟩ := trod_ints Tryd.underlying29 Tryd.underlying5 (by kernel_rfl) h2
  refine ⟨⟨f, tA, tn, tc, tx, dA, dn, dc, dx⟩, ?_, ⟨fun j hj => u8_of (w0 j hj), t1, t2, d1, fun j hj => u8_of (d2 j hj)⟩⟩
  have e3 : cs = cs.take 20 ++ (cs.drop 20).take 1 ++ (cs.drop 21).take 1 := by
    have a1 : cs.take 20 ++ cs.drop 20 = cs := List.take_append_drop 20 cs
    have a2 : (cs.drop 20).take 1 ++ (cs.drop 20).drop 1 = cs.drop 20 := List.take_append_drop 1 _
    have a3 : (cs.drop 21).take 1 = cs.drop 21 := List.take_of_length_le (by simp; omega)
    rw [List.drop_drop] at a2
    rw [a3, List.append_assoc, a2, a1]
  simp only [List.drop_zero] at e0
  rw [e3, e0, e1, e2]
  simp [LogV.row, LogV.cells]

theorem open_logs {H : Type} {enc : TypeId × Value → H} {w : World} {b0 : Nat} {v : Value} {d : DataW H} {ps : List MemPlace} (hv : Value.okWide Tryd.prog w .any b0 50 v)
    (h : DataW.Trod enc Tryd.prog w 0 (fun _ => true) true 50 v d ps) : ∃ (A : Option Addr) (len cap : Nat) (x : Nat → LogV), v = .slice A len cap ∧ (Logs w A len x ∧ len ≤ cap ∧ cap ≤ maxLen) := by
  obtain ⟨a, len, cap, rfl⟩ := okWide_slice Tryd.underlying50 hv
  obtain ⟨fuel, hf⟩ := h
  rw [show (Value.slice a len cap).cells = #[.slice a len cap] from rfl] at hf
  rcases open_slice Tryd.underlying50 hf with ⟨hc, _⟩ | ⟨a', len', cap', m, n, D, Pl, hc, hb, hl, hm, hmm, hx, hi⟩
  · simp at hc
    obtain ⟨rfl, rfl, rfl⟩ := hc
    exact ⟨none, 0, 0, fun _ => default, rfl, fun j hj => absurd hj (by omega), by omega, by unfold maxLen; omega⟩
  · simp at hc
    obtain ⟨rfl, rfl, rfl⟩ := hc
    have hml : len ≤ m := by rw [hmm]; split <;> omega
    have hC : Tryd.prog.cellsOf 64 = 22 := by kernel_rfl
    obtain ⟨x, hx⟩ := choose_lt' (n := len) (p := fun j o => CellsAt w (a'.add (j * 22)) (LogV.row o).toList ∧ o.Ok w) (fun j hj => by
      obtain ⟨cs', hcs, ht'⟩ := hi j (by omega)
      rw [hC] at hcs
      obtain ⟨_, hcl, hat⟩ := World.cells?_some hcs
      obtain ⟨fl, rfl⟩ : ∃ fl, n = fl + 1 := by
        cases n with
        | zero => simp [DataW.trod] at ht'
        | succ n => exact ⟨n, rfl⟩
      obtain ⟨o, rfl, ho⟩ := trod_log ht'
      refine ⟨o, ⟨?_, fun i v hv => ?_⟩, ho⟩
      · have h0 := hat 0 (by omega)
        have h1 : o.row.toList[0]? = some (.int .u8 (o.addr 0)) := by rw [Array.getElem?_toList]; exact o.row_addr 0 (by omega)
        have := World.block_lt_of_cell? _ _ (h0.trans h1)
        rw [block_add] at this; exact this
      · have hi' : i < 22 := by
          have := (List.getElem?_eq_some_iff.1 hv).1
          rw [Array.length_toList, LogV.row_size] at this; exact this
        rw [hat i hi', hv])
    exact ⟨some a', len, cap, x, rfl, fun j hj => ⟨⟨a', rfl, by have := (hx j hj).1.1; rwa [block_add] at this, (hx j hj).1⟩, (hx j hj).2⟩, by omega, by omega⟩
end Go.Proofs.YtfjigoimjaemmaaDoor
