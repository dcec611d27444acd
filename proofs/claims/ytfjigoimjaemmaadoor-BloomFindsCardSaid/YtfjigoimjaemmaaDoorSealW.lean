/- sealed blocks: their receipts' logs, opened. -/
import Derived.Test.YtfjigoimjaemmaaDoorLogW
namespace Go.Proofs.YtfjigoimjaemmaaDoor
open Go.ChangeShapes Go.WideShapes Go.ChangeAt Go.RowKit Go.Deep
set_option linter.unusedSimpArgs false
set_option linter.unusedVariables false
set_option maxRecDepth 100000

theorem trod_logs {H : Type} {enc : TypeId × Value → H} {w : World} {fuel : Nat} {cs : List Value} {x : DataW H × List MemPlace}
    (h : DataW.trod enc Tryd.prog w 0 (fun _ => true) true fuel 50 cs = some x) : ∃ (A : Option Addr) (len cap : Nat) (L : Nat → LogV), cs = [.slice A len cap] ∧ Logs w A len L := by
  rcases open_slice Tryd.underlying50 h with ⟨hc, _⟩ | ⟨a', len', cap', m, n, D, Pl, hc, hb, hl, hm, hmm, hx, hi⟩
  · exact ⟨none, 0, 0, fun _ => default, hc, fun j hj => absurd hj (by omega)⟩
  · have hml : len' ≤ m := by rw [hmm]; split <;> omega
    have hC : Tryd.prog.cellsOf 64 = 22 := by kernel_rfl
    obtain ⟨x, hx⟩ := choose_lt' (n := len') (p := fun j o => CellsAt w (a'.add (j * 22)) (LogV.row o).toList ∧ o.Ok w) (fun j hj => by
      obtain ⟨cs', hcs, ht'⟩ := hi j (by omega)
      rw [hC] at hcs
      obtain ⟨_, hcl, hat⟩ := World.cells?_some hcs
      obtain ⟨fl, rfl⟩ : ∃ fl, n = fl + 1 := by
        cases n with
        | zero => simp [DataW.trod] at ht'
        | succ n => exact ⟨n, rfl⟩
      obtain ⟨o, rfl, ho⟩ := trod_log ht'
      refine ⟨o, ⟨?_, fun i v hv => ?_⟩, ho⟩
      · have h0 := hat 0 (by omega)
        have h1 : o.row.toList[0]? = some (.int .u8 (o.addr 0)) := by rw [Array.getElem?_toList]; exact o.row_addr 0 (by omega)
        have := World.block_lt_of_cell? _ _ (h0.trans h1)
        rw [block_add] at this; exact this
      · have hi' : i < 22 := by
          have := (List.getElem?_eq_some_iff.1 hv).1
          rw [Array.length_toList, LogV.row_size] at this; exact this
        rw [hat i hi', hv])
    exact ⟨some a', len', cap', x, hc, fun j hj => ⟨⟨a', rfl, by have := (hx j hj).1.1; rwa [block_add] at this, (hx j hj).1⟩, (hx j hj).2⟩⟩
def Ones (cs : List Value) : Prop := ∀ v ∈ cs, v.oneCell' = true
theorem one_at {cs : List Value} {o s i : Nat} {v : Value} (h : Ones ((cs.drop o).take s)) (h1 : o ≤ i) (h2 : i < o + s) (hv : cs[i]? = some v) : v.oneCell' = true := by
  refine h v (List.mem_of_getElem? (i := i - o) ?_)
  rw [List.getElem?_take_of_lt (by omega), List.getElem?_drop, show o + (i - o) = i by omega, hv]
theorem ones_okCells {cs : List Value} (h : Ones cs) : okCells cs.toArray = true := by
  rw [okCells, Array.all_eq_true]
  intro i hi
  have := h cs[i] (List.getElem_mem (by simpa using hi))
  simpa using this
theorem ones_int {k : IntKind} {H : Type} {enc : TypeId × Value → H} {P : Program} {w : World} {spare : Nat → Bool} {fuel t : Nat} {cs : List Value} {y : DataW H × List MemPlace} (ht : P.underlying t = some (.int k))
    (h : DataW.trod enc P w 0 spare true fuel t cs = some y) : Ones cs := by
  obtain ⟨a, rfl, _⟩ := take_int ht h
  intro v hv
  rw [List.mem_singleton.1 hv]; rfl
theorem ones_bool {H : Type} {enc : TypeId × Value → H} {P : Program} {w : World} {spare : Nat → Bool} {fuel t : Nat} {cs : List Value} {y : DataW H × List MemPlace} (ht : P.underlying t = some .bool)
    (h : DataW.trod enc P w 0 spare true fuel t cs = some y) : Ones cs := by
  cases fuel with
  | zero => simp [DataW.trod] at h
  | succ n =>
    simp only [DataW.trod, ht] at h
    split at h
    all_goals first
      | (rename_i b; intro v hv; rw [List.mem_singleton.1 hv]; rfl)
      | simp_all
theorem ones_slice {H : Type} {enc : TypeId × Value → H} {P : Program} {w : World} {fuel t e : Nat} {cs : List Value} {y : DataW H × List MemPlace} (ht : P.underlying t = some (.slice e))
    (h : DataW.trod enc P w 0 (fun _ => true) true fuel t cs = some y) : Ones cs := by
  rcases open_slice ht h with ⟨hc, _⟩ | ⟨a', len', cap', m, n, D, Pl, hc, _⟩ <;> (rw [hc]; intro v hv; rw [List.mem_singleton.1 hv]; rfl)
theorem ones_tab {H : Type} {enc : TypeId × Value → H} {P : Program} {w : World} {fuel t e n : Nat} {k : IntKind} {cs : List Value} {y : DataW H × List MemPlace} (ht : P.underlying t = some (.array n e)) (he : P.underlying e = some (.int k)) (hce : P.cellsOf e = 1) (hct : P.cellsOf t = n)
    (h : DataW.trod enc P w 0 (fun _ => true) true fuel t cs = some y) : Ones cs := by
  obtain ⟨f, e0, _⟩ := trod_tab ht he hce hct h
  intro v hv
  rw [e0, List.mem_map] at hv
  obtain ⟨u, _, rfl⟩ := hv
  rfl
theorem ones_rc {H : Type} {enc : TypeId × Value → H} {w : World} {fuel : Nat} {cs : List Value} {x : DataW H × List MemPlace}
    (h : DataW.trod enc Tryd.prog w 0 (fun _ => true) true (fuel + 1) 82 cs = some x) : Ones cs := by
  have hl := (trod_struct_at Tryd.underlying82 h).1
  rw [show Tryd.prog.cellsOf 82 = 49 by kernel_rfl] at hl
  obtain ⟨y0, h0⟩ := trod_field Tryd.underlying82 h 0 61 0 20 rfl (by kernel_rfl)
  have o0 := ones_tab Tryd.underlying61 Tryd.underlying5 (by kernel_rfl) (by kernel_rfl) h0
  obtain ⟨y1, h1⟩ := trod_field Tryd.underlying82 h 1 22 20 1 rfl (by kernel_rfl)
  have o1 := ones_int Tryd.underlying22 h1
  obtain ⟨y2, h2⟩ := trod_field Tryd.underlying82 h 2 4 21 1 rfl (by kernel_rfl)
  have o2 := ones_bool Tryd.underlying4 h2
  obtain ⟨y3, h3⟩ := trod_field Tryd.underlying82 h 3 22 22 1 rfl (by kernel_rfl)
  have o3 := ones_int Tryd.underlying22 h3
  obtain ⟨y4, h4⟩ := trod_field Tryd.underlying82 h 4 47 23 4 rfl (by kernel_rfl)
  have o4 := ones_tab Tryd.underlying47 Tryd.underlying22 (by kernel_rfl) (by kernel_rfl) h4
  obtain ⟨y5, h5⟩ := trod_field Tryd.underlying82 h 5 61 27 20 rfl (by kernel_rfl)
  have o5 := ones_tab Tryd.underlying61 Tryd.underlying5 (by kernel_rfl) (by kernel_rfl) h5
  obtain ⟨y6, h6⟩ := trod_field Tryd.underlying82 h 6 50 47 1 rfl (by kernel_rfl)
  have o6 := ones_slice Tryd.underlying50 h6
  obtain ⟨y7, h7⟩ := trod_field Tryd.underlying82 h 7 29 48 1 rfl (by kernel_rfl)
  have o7 := ones_slice Tryd.underlying29 h7
  intro v hv
  obtain ⟨i, hi, rfl⟩ := List.mem_iff_getElem.1 hv
  have hg : cs[i]? = some cs[i] := List.getElem?_eq_getElem hi
  by_cases c0 : i < 20
  · exact one_at o0 (by omega) (by omega) hg
  by_cases c1 : i < 21
  · exact one_at o1 (by omega) (by omega) hg
  by_cases c2 : i < 22
  · exact one_at o2 (by omega) (by omega) hg
  by_cases c3 : i < 23
  · exact one_at o3 (by omega) (by omega) hg
  by_cases c4 : i < 27
  · exact one_at o4 (by omega) (by omega) hg
  by_cases c5 : i < 47
  · exact one_at o5 (by omega) (by omega) hg
  by_cases c6 : i < 48
  · exact one_at o6 (by omega) (by omega) hg
  exact one_at o7 (by omega) (by omega) hg
theorem ones_header {H : Type} {enc : TypeId × Value → H} {w : World} {fuel : Nat} {cs : List Value} {x : DataW H × List MemPlace}
    (h : DataW.trod enc Tryd.prog w 0 (fun _ => true) true (fuel + 1) 76 cs = some x) : Ones cs := by
  have hl := (trod_struct_at Tryd.underlying76 h).1
  rw [show Tryd.prog.cellsOf 76 = 128 by kernel_rfl] at hl
  obtain ⟨y0, h0⟩ := trod_field Tryd.underlying76 h 0 40 0 32 rfl (by kernel_rfl)
  have o0 := ones_tab Tryd.underlying40 Tryd.underlying5 (by kernel_rfl) (by kernel_rfl) h0
  obtain ⟨y1, h1⟩ := trod_field Tryd.underlying76 h 1 22 32 1 rfl (by kernel_rfl)
  have o1 := ones_int Tryd.underlying22 h1
  obtain ⟨y2, h2⟩ := trod_field Tryd.underlying76 h 2 22 33 1 rfl (by kernel_rfl)
  have o2 := ones_int Tryd.underlying22 h2
  obtain ⟨y3, h3⟩ := trod_field Tryd.underlying76 h 3 22 34 1 rfl (by kernel_rfl)
  have o3 := ones_int Tryd.underlying22 h3
  obtain ⟨y4, h4⟩ := trod_field Tryd.underlying76 h 4 22 35 1 rfl (by kernel_rfl)
  have o4 := ones_int Tryd.underlying22 h4
  obtain ⟨y5, h5⟩ := trod_field Tryd.underlying76 h 5 47 36 4 rfl (by kernel_rfl)
  have o5 := ones_tab Tryd.underlying47 Tryd.underlying22 (by kernel_rfl) (by kernel_rfl) h5
  obtain ⟨y6, h6⟩ := trod_field Tryd.underlying76 h 6 61 40 20 rfl (by kernel_rfl)
  have o6 := ones_tab Tryd.underlying61 Tryd.underlying5 (by kernel_rfl) (by kernel_rfl) h6
  obtain ⟨y7, h7⟩ := trod_field Tryd.underlying76 h 7 47 60 4 rfl (by kernel_rfl)
  have o7 := ones_tab Tryd.underlying47 Tryd.underlying22 (by kernel_rfl) (by kernel_rfl) h7
  obtain ⟨y8, h8⟩ := trod_field Tryd.underlying76 h 8 40 64 32 rfl (by kernel_rfl)
  have o8 := ones_tab Tryd.underlying40 Tryd.underlying5 (by kernel_rfl) (by kernel_rfl) h8
  obtain ⟨y9, h9⟩ := trod_field Tryd.underlying76 h 9 40 96 32 rfl (by kernel_rfl)
  have o9 := ones_tab Tryd.underlying40 Tryd.underlying5 (by kernel_rfl) (by kernel_rfl) h9
  intro v hv
  obtain ⟨i, hi, rfl⟩ := List.mem_iff_getElem.1 hv
  have hg : cs[i]? = some cs[i] := List.getElem?_eq_getElem hi
  by_cases c0 : i < 32
  · exact one_at o0 (by omega) (by omega) hg
  by_cases c1 : i < 33
  · exact one_at o1 (by omega) (by omega) hg
  by_cases c2 : i < 34
  · exact one_at o2 (by omega) (by omega) hg
  by_cases c3 : i < 35
  · exact one_at o3 (by omega) (by omega) hg
  by_cases c4 : i < 36
  · exact one_at o4 (by omega) (by omega) hg
  by_cases c5 : i < 40
  · exact one_at o5 (by omega) (by omega) hg
  by_cases c6 : i < 60
  · exact one_at o6 (by omega) (by omega) hg
  by_cases c7 : i < 64
  · exact one_at o7 (by omega) (by omega) hg
  by_cases c8 : i < 96
  · exact one_at o8 (by omega) (by omega) hg
  exact one_at o9 (by omega) (by omega) hg
theorem ones_seal {H : Type} {enc : TypeId × Value → H} {w : World} {fuel : Nat} {cs : List Value} {x : DataW H × List MemPlace}
    (h : DataW.trod enc Tryd.prog w 0 (fun _ => true) true (fuel + 1) 80 cs = some x) : Ones cs := by
  have hl := (trod_struct_at Tryd.underlying80 h).1
  rw [show Tryd.prog.cellsOf 80 = 162 by kernel_rfl] at hl
  obtain ⟨y0, h0⟩ := trod_field Tryd.underlying80 h 0 76 0 128 rfl (by kernel_rfl)
  have o0 : Ones ((cs.drop 0).take 128) := by
    cases fuel with
    | zero => simp [DataW.trod] at h0
    | succ n => exact ones_header h0
  obtain ⟨y1, h1⟩ := trod_field Tryd.underlying80 h 1 40 128 32 rfl (by kernel_rfl)
  have o1 := ones_tab Tryd.underlying40 Tryd.underlying5 (by kernel_rfl) (by kernel_rfl) h1
  obtain ⟨y2, h2⟩ := trod_field Tryd.underlying80 h 2 77 160 1 rfl (by kernel_rfl)
  have o2 := ones_slice Tryd.underlying77 h2
  obtain ⟨y3, h3⟩ := trod_field Tryd.underlying80 h 3 78 161 1 rfl (by kernel_rfl)
  have o3 := ones_slice Tryd.underlying78 h3
  intro v hv
  obtain ⟨i, hi, rfl⟩ := List.mem_iff_getElem.1 hv
  have hg : cs[i]? = some cs[i] := List.getElem?_eq_getElem hi
  by_cases c0 : i < 128
  · exact one_at o0 (by omega) (by omega) hg
  by_cases c1 : i < 160
  · exact one_at o1 (by omega) (by omega) hg
  by_cases c2 : i < 161
  · exact one_at o2 (by omega) (by omega) hg
  exact one_at o3 (by omega) (by omega) hg
/-- a receipt, of which the logs alone are seen -/
structure RcV where
  row : Array Value
  lA : Option Addr
  ln : Nat
  lc : Nat
  L : Nat → LogV
instance : Inhabited RcV := ⟨⟨#[], none, 0, 0, fun _ => default⟩⟩
structure RcV.Ok (r : RcV) (w : World) : Prop where
  size : r.row.size = 49
  cell : r.row[47]? = some (.slice r.lA r.ln r.lc)
  logs : Logs w r.lA r.ln r.L
  one : okCells r.row = true
theorem RcV.Ok.below {r : RcV} {w w' : World} {B : Nat} (h : r.Ok w) (hB : w.heap.size ≤ B) (hb : Below B w w') : r.Ok w' := ⟨h.size, h.cell, h.logs.below hB hb, h.one⟩
theorem trod_rc {H : Type} {enc : TypeId × Value → H} {w : World} {fuel : Nat} {cs : List Value} {x : DataW H × List MemPlace}
    (h : DataW.trod enc Tryd.prog w 0 (fun _ => true) true (fuel + 1) 82 cs = some x) : ∃ r : RcV, cs = r.row.toList ∧ r.Ok w := by
  have hl := (trod_struct_at Tryd.underlying82 h).1
  rw [show Tryd.prog.cellsOf 82 = 49 by kernel_rfl] at hl
  obtain ⟨y6, h6⟩ := trod_field Tryd.underlying82 h 6 50 47 1 rfl (by kernel_rfl)
  obtain ⟨A, n, c, L, e, hL⟩ := trod_logs h6
  refine ⟨⟨cs.toArray, A, n, c, L⟩, rfl, ⟨by simpa using hl, ?_, hL, ones_okCells (ones_rc h)⟩⟩
  have : ((cs.drop 47).take 1)[0]? = some (.slice A n c) := by rw [e]; rfl
  simpa using this
/-- the slice at A of n receipts -/
def Rcs (w : World) (A : Option Addr) (n : Nat) (R : Nat → RcV) : Prop := ∀ j, j < n → (∃ a : Addr, A = some a ∧ a.block < w.heap.size ∧ CellsAt w (a.add (j * 49)) (R j).row.toList) ∧ (R j).Ok w
theorem Rcs.below {w w' : World} {A : Option Addr} {n B : Nat} {R : Nat → RcV} (h : Rcs w A n R) (hB : w.heap.size ≤ B) (hb : Below B w w') : Rcs w' A n R := fun j hj => by
  obtain ⟨⟨a, h1, h2, h3⟩, h4⟩ := h j hj
  exact ⟨⟨a, h1, Nat.lt_of_lt_of_le h2 hb.size, h3.below hB hb⟩, h4.below hB hb⟩
theorem trod_rcs {H : Type} {enc : TypeId × Value → H} {w : World} {fuel : Nat} {cs : List Value} {x : DataW H × List MemPlace}
    (h : DataW.trod enc Tryd.prog w 0 (fun _ => true) true fuel 78 cs = some x) : ∃ (A : Option Addr) (len cap : Nat) (R : Nat → RcV), cs = [.slice A len cap] ∧ Rcs w A len R := by
  rcases open_slice Tryd.underlying78 h with ⟨hc, _⟩ | ⟨a', len', cap', m, n, D, Pl, hc, hb, hl, hm, hmm, hx, hi⟩
  · exact ⟨none, 0, 0, fun _ => default, hc, fun j hj => absurd hj (by omega)⟩
  · have hml : len' ≤ m := by rw [hmm]; split <;> omega
    have hC : Tryd.prog.cellsOf 82 = 49 := by kernel_rfl
    obtain ⟨x, hx⟩ := choose_lt' (n := len') (p := fun j o => CellsAt w (a'.add (j * 49)) (RcV.row o).toList ∧ o.Ok w) (fun j hj => by
      obtain ⟨cs', hcs, ht'⟩ := hi j (by omega)
      rw [hC] at hcs
      obtain ⟨_, hcl, hat⟩ := World.cells?_some hcs
      obtain ⟨fl, rfl⟩ : ∃ fl, n = fl + 1 := by
        cases n with
        | zero => simp [DataW.trod] at ht'
        | succ n => exact ⟨n, rfl⟩
      obtain ⟨o, rfl, ho⟩ := trod_rc ht'
      have hsz := ho.size
      refine ⟨o, ⟨?_, fun i v hv => ?_⟩, ho⟩
      · have h0 := hat 0 (by omega)
        have h1 : o.row.toList[0]? = some (o.row.toList[0]'(by rw [Array.length_toList, hsz]; omega)) := List.getElem?_eq_getElem _
        have := World.block_lt_of_cell? _ _ (h0.trans h1)
        rw [block_add] at this; exact this
      · have hi' : i < 49 := by
          have := (List.getElem?_eq_some_iff.1 hv).1
          rw [Array.length_toList, hsz] at this; exact this
        rw [hat i hi', hv])
    exact ⟨some a', len', cap', x, hc, fun j hj => ⟨⟨a', rfl, by have := (hx j hj).1.1; rwa [block_add] at this, (hx j hj).1⟩, (hx j hj).2⟩⟩
/-- a sealed block, of which the receipts alone are seen -/
structure SlV where
  row : Array Value
  rA : Option Addr
  rn : Nat
  rc : Nat
  R : Nat → RcV
instance : Inhabited SlV := ⟨⟨#[], none, 0, 0, fun _ => default⟩⟩
structure SlV.Ok (s : SlV) (w : World) : Prop where
  size : s.row.size = 162
  cell : s.row[161]? = some (.slice s.rA s.rn s.rc)
  rcs : Rcs w s.rA s.rn s.R
  one : okCells s.row = true
theorem SlV.Ok.below {s : SlV} {w w' : World} {B : Nat} (h : s.Ok w) (hB : w.heap.size ≤ B) (hb : Below B w w') : s.Ok w' := ⟨h.size, h.cell, h.rcs.below hB hb, h.one⟩
theorem trod_seal {H : Type} {enc : TypeId × Value → H} {w : World} {fuel : Nat} {cs : List Value} {x : DataW H × List MemPlace}
    (h : DataW.trod enc Tryd.prog w 0 (fun _ => true) true (fuel + 1) 80 cs = some x) : ∃ s : SlV, cs = s.row.toList ∧ s.Ok w := by
  have hl := (trod_struct_at Tryd.underlying80 h).1
  rw [show Tryd.prog.cellsOf 80 = 162 by kernel_rfl] at hl
  obtain ⟨y3, h3⟩ := trod_field Tryd.underlying80 h 3 78 161 1 rfl (by kernel_rfl)
  obtain ⟨A, n, c, R, e, hR⟩ := trod_rcs h3
  refine ⟨⟨cs.toArray, A, n, c, R⟩, rfl, ⟨by simpa using hl, ?_, hR, ones_okCells (ones_seal h)⟩⟩
  have : ((cs.drop 161).take 1)[0]? = some (.slice A n c) := by rw [e]; rfl
  simpa using this
/-- the slice at A of n sealed blocks -/
def Seals (w : World) (A : Option Addr) (n : Nat) (S : Nat → SlV) : Prop := ∀ j, j < n → (∃ a : Addr, A = some a ∧ a.block < w.heap.size ∧ CellsAt w (a.add (j * 162)) (S j).row.toList) ∧ (S j).Ok w
theorem Seals.below {w w' : World} {A : Option Addr} {n B : Nat} {S : Nat → SlV} (h : Seals w A n S) (hB : w.heap.size ≤ B) (hb : Below B w w') : Seals w' A n S := fun j hj => by
  obtain ⟨⟨a, h1, h2, h3⟩, h4⟩ := h j hj
  exact ⟨⟨a, h1, Nat.lt_of_lt_of_le h2 hb.size, h3.below hB hb⟩, h4.below hB hb⟩
theorem open_seals {H : Type} {enc : TypeId × Value → H} {w : World} {b0 : Nat} {v : Value} {d : DataW H} {ps : List MemPlace} (hv : Value.okWide Tryd.prog w .any b0 74 v)
    (h : DataW.Trod enc Tryd.prog w 0 (fun _ => true) true 74 v d ps) : ∃ (A : Option Addr) (len cap : Nat) (S : Nat → SlV), v = .slice A len cap ∧ Seals w A len S := by
  obtain ⟨a, len, cap, rfl⟩ := okWide_slice Tryd.underlying74 hv
  obtain ⟨fuel, hf⟩ := h
  rw [show (Value.slice a len cap).cells = #[.slice a len cap] from rfl] at hf
  rcases open_slice Tryd.underlying74 hf with ⟨hc, _⟩ | ⟨a', len', cap', m, n, D, Pl, hc, hb, hl, hm, hmm, hx, hi⟩
  · simp at hc
    obtain ⟨rfl, rfl, rfl⟩ := hc
    exact ⟨none, 0, 0, fun _ => default, rfl, fun j hj => absurd hj (by omega)⟩
  · simp at hc
    obtain ⟨rfl, rfl, rfl⟩ := hc
    have hml : len ≤ m := by rw [hmm]; split <;> omega
    have hC : Tryd.prog.cellsOf 80 = 162 := by kernel_rfl
    obtain ⟨x, hx⟩ := choose_lt' (n := len) (p := fun j o => CellsAt w (a'.add (j * 162)) (SlV.row o).toList ∧ o.Ok w) (fun j hj => by
      obtain ⟨cs', hcs, ht'⟩ := hi j (by omega)
      rw [hC] at hcs
      obtain ⟨_, hcl, hat⟩ := World.cells?_some hcs
      obtain ⟨fl, rfl⟩ : ∃ fl, n = fl + 1 := by
        cases n with
        | zero => simp [DataW.trod] at ht'
        | succ n => exact ⟨n, rfl⟩
      obtain ⟨o, rfl, ho⟩ := trod_seal ht'
      have hsz := ho.size
      refine ⟨o, ⟨?_, fun i v hv => ?_⟩, ho⟩
      · have h0 := hat 0 (by omega)
        have h1 : o.row.toList[0]? = some (o.row.toList[0]'(by rw [Array.length_toList, hsz]; omega)) := List.getElem?_eq_getElem _
        have := World.block_lt_of_cell? _ _ (h0.trans h1)
        rw [block_add] at this; exact this
      · have hi' : i < 162 := by
          have := (List.getElem?_eq_some_iff.1 hv).1
          rw [Array.length_toList, hsz] at this; exact this
        rw [hat i hi', hv])
    exact ⟨some a', len, cap, x, rfl, fun j hj => ⟨⟨a', rfl, by have := (hx j hj).1.1; rwa [block_add] at this, (hx j hj).1⟩, (hx j hj).2⟩⟩
end Go.Proofs.YtfjigoimjaemmaaDoor
