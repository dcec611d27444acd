/- Words for arrays of whole numbers in memory, and the model's operations on them (any program). -/
import Derived.WalkKit
import Derived.WalkSpells
import Derived.WalkLawsBesides
import Derived.Deep.WholeRow
import Derived.Deep.Light
import Derived.Lib.Hide
namespace Go.Proofs.YtfjigoimjaemmaaDoor
open Go.RowKit
set_option linter.unusedSimpArgs false
set_option linter.unusedVariables false

/-! ## lists of n numbers out of a function -/
/-- the first n values of f -/
def tl (n : Nat) (f : Nat → Int) : List Int := (List.range n).map f
/-- f, but v at i -/
def upd (f : Nat → Int) (i : Nat) (v : Int) : Nat → Int := fun j => if j = i then v else f j
/-- an array's cells -/
def tab (n : Nat) (k : IntKind) (f : Nat → Int) : Array Value := ((tl n f).map (Value.int k)).toArray

theorem tl_length (n : Nat) (f : Nat → Int) : (tl n f).length = n := by simp [tl]
theorem tl_get (n : Nat) (f : Nat → Int) (i : Nat) (h : i < n) : (tl n f)[i]? = some (f i) := by simp [tl, h]
theorem tl_ext {n : Nat} {f g : Nat → Int} : tl n f = tl n g ↔ ∀ i, i < n → f i = g i := by
  constructor
  · intro h i hi
    have h1 := tl_get n f i hi
    rw [h, tl_get n g i hi] at h1
    exact (Option.some.inj h1).symm
  · intro h
    unfold tl
    exact List.map_congr_left fun i hi => h i (by simpa using hi)
theorem tab_size (n : Nat) (k : IntKind) (f : Nat → Int) : (tab n k f).size = n := by simp [tab, tl]
theorem tab_get (n : Nat) (k : IntKind) (f : Nat → Int) (i : Nat) : (tab n k f)[i]? = if i < n then some (.int k (f i)) else none := by
  unfold tab
  by_cases h : i < n <;> simp [tl, h]
theorem tab_getElem (n : Nat) (k : IntKind) (f : Nat → Int) (i : Nat) (h : i < (tab n k f).size) : (tab n k f)[i]'h = .int k (f i) := by
  have h1 := tab_get n k f i
  rw [Array.getElem?_eq_getElem h, if_pos (by simpa [tab_size] using h)] at h1
  exact Option.some.inj h1
theorem tab_set (n : Nat) (k : IntKind) (f : Nat → Int) (i : Nat) (v : Int) : (tab n k f).setIfInBounds i (.int k v) = tab n k (upd f i v) := by
  apply Array.ext_getElem?
  intro j
  rw [Array.getElem?_setIfInBounds, tab_get, tab_get, tab_size]
  by_cases hj : j < n <;> by_cases hi : i = j <;> simp [hj, hi, upd] <;> intro h <;> exact absurd h.symm hi
theorem tab_ext {n : Nat} {k : IntKind} {f g : Nat → Int} (h : ∀ i, i < n → f i = g i) : tab n k f = tab n k g := by
  unfold tab; rw [tl_ext.2 h]
theorem upd_same (f : Nat → Int) (i : Nat) (v : Int) : upd f i v i = v := by simp [upd]
theorem upd_other (f : Nat → Int) (i j : Nat) (v : Int) (h : j ≠ i) : upd f i v j = f j := by simp [upd, h]

/-- four numbers as a function -/
def fn4 (a b c d : Int) : Nat → Int | 0 => a | 1 => b | 2 => c | 3 => d | _ => 0
theorem lit4 (k : IntKind) (a b c d : Int) : #[Value.int k a, .int k b, .int k c, .int k d] = tab 4 k (fn4 a b c d) := rfl
theorem fn4_0 (a b c d : Int) : fn4 a b c d 0 = a := rfl
theorem fn4_1 (a b c d : Int) : fn4 a b c d 1 = b := rfl
theorem fn4_2 (a b c d : Int) : fn4 a b c d 2 = c := rfl
theorem fn4_3 (a b c d : Int) : fn4 a b c d 3 = d := rfl
theorem upd_fn4_0 (a b c d v : Int) : upd (fn4 a b c d) 0 v = fn4 v b c d := by funext j; unfold upd fn4; rcases j with _ | _ | _ | _ | j <;> simp
theorem upd_fn4_1 (a b c d v : Int) : upd (fn4 a b c d) 1 v = fn4 a v c d := by funext j; unfold upd fn4; rcases j with _ | _ | _ | _ | j <;> simp
theorem upd_fn4_2 (a b c d v : Int) : upd (fn4 a b c d) 2 v = fn4 a b v d := by funext j; unfold upd fn4; rcases j with _ | _ | _ | _ | j <;> simp
theorem upd_fn4_3 (a b c d v : Int) : upd (fn4 a b c d) 3 v = fn4 a b c v := by funext j; unfold upd fn4; rcases j with _ | _ | _ | _ | j <;> simp
theorem tab_ne (n : Nat) (k : IntKind) (f : Nat → Int) : (tab (n + 1) k f = #[]) = False := by
  simp only [eq_iff_iff, iff_false]
  intro h
  have := congrArg Array.size h
  rw [tab_size] at this
  simp at this
theorem tab_lit (n : Nat) (k : IntKind) (f : Nat → Int) (cs : Array Value) (h : cs.toList = (tl n f).map (Value.int k)) : cs = tab n k f := by
  unfold tab; rw [← h]

theorem u64w {n : Int} (h0 : 0 ≤ n) (h1 : n < 18446744073709551616) : IntKind.u64.wrap n = n := by rw [IntKind.wrap_u64]; omega
theorem i64w {n : Int} (h0 : -9223372036854775808 ≤ n) (h1 : n < 9223372036854775808) : IntKind.i64.wrap n = n := by rw [IntKind.wrap_i64]; omega

/-! ## the row of a block -/
def rowOf (w : World) (b : Nat) : Array Value := match w.heap[b]? with | some (.cells c _ _) => c | _ => #[]
theorem rowOf_of {w : World} {b : Nat} {c : Array Value} {t : TypeId} {fr : Nat × Nat} (h : w.heap[b]? = some (.cells c t fr)) : rowOf w b = c := by simp [rowOf, h]
theorem rowOf_alloc_at (w : World) (c : Array Value) (t : TypeId) (n : Nat) (h : n = w.heap.size) : rowOf (w.alloc (.cells c t)) n = c := by
  subst h; exact rowOf_of (heap_alloc_last w _)
theorem rowOf_alloc_past (w : World) (o : Obj) (n : Nat) (h : n < w.heap.size) : rowOf (w.alloc o) n = rowOf w n := by
  unfold rowOf; rw [Below.heap_alloc w o n h]
theorem rowOf_drew (w : World) (n : Nat) : rowOf w.drew n = rowOf w n := rfl
theorem rowOf_setCell_other (w : World) (a : Addr) (v : Value) (n : Nat) (h : n ≠ a.block) : rowOf (w.setCell a v) n = rowOf w n := by
  unfold rowOf; rw [heap_setCell_other w a n v h]
theorem rowOf_setCell_same (w : World) (b i : Nat) (v : Value) : rowOf (w.setCell ⟨b, i, none⟩ v) b = (rowOf w b).setIfInBounds i v := by
  unfold rowOf
  simp only [World.setCell, Array.getElem?_modify, if_true]
  cases w.heap[b]? with
  | none => simp
  | some o => cases o <;> simp
theorem cell_of_rowOf (w : World) (b i : Nat) : w.cell? ⟨b, i, none⟩ = (rowOf w b)[i]? := by
  unfold World.cell? rowOf
  cases w.heap[b]? with
  | none => simp
  | some o => cases o <;> simp
theorem rowOf_below {B : Nat} {w w' : World} (h : Below B w w') {b : Nat} (hb : b < B) : rowOf w' b = rowOf w b := by
  unfold rowOf; rw [h.block b hb]

/-- how long the row of a block is, if it may be written -/
def rowFit (w : World) (b : Nat) : Option Nat := match w.heap[b]? with | some (.cells c _ (0, 0)) => some c.size | _ => none
theorem rowFit_of {w : World} {b : Nat} {c : Array Value} {t : TypeId} (h : w.heap[b]? = some (.cells c t (0, 0))) : rowFit w b = some c.size := by simp [rowFit, h]
theorem rowFit_some {w : World} {b n : Nat} (h : rowFit w b = some n) : ∃ t, w.heap[b]? = some (.cells (rowOf w b) t (0, 0)) ∧ (rowOf w b).size = n := by
  unfold rowFit at h
  split at h
  · rename_i c t hb
    exact ⟨t, by rw [rowOf_of hb]; exact hb, by rw [rowOf_of hb]; simpa using h⟩
  · cases h
theorem rowFit_alloc_at (w : World) (c : Array Value) (t : TypeId) (n : Nat) (h : n = w.heap.size) : rowFit (w.alloc (.cells c t)) n = some c.size := by
  subst h; exact rowFit_of (heap_alloc_last w _)
theorem rowFit_alloc_past (w : World) (o : Obj) (n : Nat) (h : n < w.heap.size) : rowFit (w.alloc o) n = rowFit w n := by
  unfold rowFit; rw [Below.heap_alloc w o n h]
theorem rowFit_drew (w : World) (n : Nat) : rowFit w.drew n = rowFit w n := rfl
theorem rowFit_below {B : Nat} {w w' : World} (h : Below B w w') {b : Nat} (hb : b < B) : rowFit w' b = rowFit w b := by
  unfold rowFit; rw [h.block b hb]
theorem rowFit_setCell (w : World) (a : Addr) (v : Value) (n : Nat) : rowFit (w.setCell a v) n = rowFit w n := by
  unfold rowFit
  simp only [World.setCell, Array.getElem?_modify]
  by_cases h : a.block = n
  · simp only [h, if_true]
    cases w.heap[n]? with
    | none => simp
    | some o =>
      cases o <;> simp
      rename_i c e f
      cases f with
      | mk x y => cases x <;> cases y <;> simp; split <;> simp
  · simp [h]

theorem setRow_alloc_at (w : World) (c c' : Array Value) (t : TypeId) (n : Nat) (h : n = w.heap.size) : (w.alloc (.cells c t)).setRow n c' = w.alloc (.cells c' t) := by
  subst h; exact World.setRow_alloc_new w c c' t
theorem setRow_alloc_past (w : World) (o : Obj) (n : Nat) (c' : Array Value) (h : n < w.heap.size) : (w.alloc o).setRow n c' = (w.setRow n c').alloc o := by
  simp only [World.setRow, World.alloc]
  congr 1
  apply Array.ext_getElem?
  intro i
  rw [Array.getElem?_modify, Array.getElem?_push, Array.getElem?_push, Array.getElem?_modify, Array.size_modify]
  by_cases h1 : i = w.heap.size <;> by_cases h2 : n = i <;> simp [h1, h2] <;> omega
theorem setRow_drew (w : World) (n : Nat) (c' : Array Value) : w.drew.setRow n c' = (w.setRow n c').drew := rfl
theorem rowOf_setRow_other (w : World) (g n : Nat) (c' : Array Value) (h : n ≠ g) : rowOf (w.setRow g c') n = rowOf w n := by
  unfold rowOf; rw [setRow_other w g n c' h]
theorem rowOf_setRow_same (w : World) (g : Nat) (c' : Array Value) (h : (rowFit w g).isSome = true) : rowOf (w.setRow g c') g = c' := by
  obtain ⟨n, hn⟩ := Option.isSome_iff_exists.1 h
  obtain ⟨t, hb, _⟩ := rowFit_some hn
  exact rowOf_of (setRow_heap w g _ c' t _ hb)
theorem rowFit_setRow_other (w : World) (g n : Nat) (c' : Array Value) (h : n ≠ g) : rowFit (w.setRow g c') n = rowFit w n := by
  unfold rowFit; rw [setRow_other w g n c' h]
theorem rowFit_setRow_same (w : World) (g : Nat) (c' : Array Value) (h : (rowFit w g).isSome = true) : rowFit (w.setRow g c') g = some c'.size := by
  obtain ⟨n, hn⟩ := Option.isSome_iff_exists.1 h
  obtain ⟨t, hb, _⟩ := rowFit_some hn
  exact rowFit_of (setRow_heap w g _ c' t _ hb)
theorem frozen_of_fit (w : World) (b i : Nat) (h : (rowFit w b).isSome = true) : w.frozen? ⟨b, i, none⟩ = false := by
  obtain ⟨n, hn⟩ := Option.isSome_iff_exists.1 h
  obtain ⟨t, hb, _⟩ := rowFit_some hn
  exact frozen_of_row w b i _ t hb
theorem block_add (a : Addr) (n : Nat) : (a.add n).block = a.block := by unfold Addr.add; split <;> rfl
theorem below_setRow' {B : Nat} {a w : World} (h : Below B a w) {g : Nat} (hg : B ≤ g) (c' : Array Value) : Below B a (w.setRow g c') :=
  h.trans ⟨rfl, rfl, rfl, by simp, fun k hk => setRow_other w g k c' (by omega)⟩

theorem keepRow {w w1 w2 : World} {b : Nat} {cs : Array Value} (hb : Below w1.heap.size w1 w2) (h : rowOf w1 b = cs ∧ b < w1.heap.size ∧ Below w.heap.size w w1) :
    rowOf w2 b = cs ∧ b < w2.heap.size ∧ Below w.heap.size w w2 :=
  ⟨by rw [rowOf_below hb h.2.1, h.1], Nat.lt_of_lt_of_le h.2.1 hb.size, h.2.2.trans (hb.mono h.2.2.size)⟩

/-! ## a whole array is read, stored -/
def ldArr (t : TypeId) (v : Value) : Sem Value := Instr.loadAt t v
def stArr (t : TypeId) (v x : Value) : Sem Unit := Instr.storeAt t v x
/-- each a value of one cell -/
def okCells (cs : Array Value) : Bool := cs.all (·.oneCell')
theorem okCells_tab (n : Nat) (k : IntKind) (f : Nat → Int) : okCells (tab n k f) = true := by
  simp [okCells, tab, Value.oneCell']

section
variable {P : Program}

theorem run_ldArr (t n : Nat) (hA : ∀ w, (isAgg t).run P w = .ok true w) (hS : ∀ w, (sizeOf t).run P w = .ok n w) (w : World) (b : Nat) (h : (rowOf w b).size = n) :
    (ldArr t (.pointer (some ⟨b, 0, none⟩))).run P w = .ok (.agg (rowOf w b)) w := by
  have hl := run_loadCells_list (P := P) w ⟨b, 0, none⟩ (rowOf w b).toList (fun j v hv => by
    rw [Addr.add_lit, cell_of_rowOf]; simpa using hv)
  simp only [Array.length_toList, h, Array.toArray_toList] at hl
  simp [ldArr, Instr.loadAt, Instr.sureAddr, loadVar, Sem.run_bind, hA, hS, hl]

theorem run_stArr (t n : Nat) (hS : ∀ w, (sizeOf t).run P w = .ok n w) (w : World) (b : Nat) (cs : Array Value) (h : rowFit w b = some n) (hc : cs.size = n) (h1 : okCells cs = true) :
    (stArr t (.pointer (some ⟨b, 0, none⟩)) (.agg cs)).run P w = .ok () (w.setRow b cs) := by
  obtain ⟨e, hb, hn⟩ := rowFit_some h
  have hs := run_storeCells_from (P := P) b e cs.toList 0 (rowOf w b) w hb (by simp [hn, hc]) (fun v hv => by
    rw [okCells, Array.all_eq_true] at h1
    obtain ⟨i, hi, rfl⟩ := Array.mem_iff_getElem.1 (Array.mem_toList_iff.1 hv)
    exact h1 i hi)
  simp only [List.take_zero, List.nil_append, Array.toArray_toList] at hs
  simp [stArr, Instr.storeAt, Instr.sureAddr, storeVar, hS, hc, Value.cells, hs]

/-- what a load comes to where the row is not of the type's size -/
def ldBad (P : Program) (t b : Nat) (w : World) : Result Value := (Instr.loadAt t (.pointer (some ⟨b, 0, none⟩))).run P w
def stBad (P : Program) (t b : Nat) (x : Value) (w : World) : Result Unit := (Instr.storeAt t (.pointer (some ⟨b, 0, none⟩)) x).run P w
theorem run_ldArr_if (t n : Nat) (hA : ∀ w, (isAgg t).run P w = .ok true w) (hS : ∀ w, (sizeOf t).run P w = .ok n w) (w : World) (b : Nat) :
    (ldArr t (.pointer (some ⟨b, 0, none⟩))).run P w = if (rowOf w b).size = n then .ok (.agg (rowOf w b)) w else ldBad P t b w := by
  split
  · rename_i h; exact run_ldArr t n hA hS w b h
  · rfl
theorem run_stArr_if (t n : Nat) (hS : ∀ w, (sizeOf t).run P w = .ok n w) (w : World) (b : Nat) (cs : Array Value) :
    (stArr t (.pointer (some ⟨b, 0, none⟩)) (.agg cs)).run P w = if rowFit w b = some n ∧ cs.size = n ∧ okCells cs = true then .ok () (w.setRow b cs) else stBad P t b (.agg cs) w := by
  split
  · rename_i h; exact run_stArr t n hS w b cs h.1 h.2.1 h.2.2
  · rfl

theorem results_row {fn : Func} {q t : Nat} (h : fn.results = #[.cell q t]) (tmps : Array Value) (w : World) (g : Nat) (cs : Array Value) (n : Nat) (hA : ∀ w, (isAgg t).run P w = .ok true w) (hS : ∀ w, (sizeOf t).run P w = .ok n w)
    (hp : tmps.getD q undef = .pointer (some ⟨g, 0, none⟩)) (hc : rowOf w g = cs) (hn : cs.size = n) : (results fn tmps).run P w = .ok (.agg cs) w := by
  have hl := run_ldArr (P := P) t n hA hS w g (by rw [hc, hn])
  rw [hc] at hl
  have hl' : (loadVar t ⟨g, 0, none⟩).run P w = .ok (.agg cs) w := by
    simpa [ldArr, Instr.loadAt, Instr.sureAddr] using hl
  have hp' : tmps[q]?.getD undef = .pointer (some ⟨g, 0, none⟩) := by simpa using hp
  simp [results, h, hp', asAddr, hl']
theorem zero_of {t : Nat} {x y : Value} (h : ∀ w, (zeroValue t).run P w = .ok x w) (hxy : x = y) (w : World) : (zeroValue t).run P w = .ok y w := by rw [h, hxy]

/-! ## equality of arrays of whole numbers -/
theorem run_equalIn_tab (d : Nat) (t e n : Nat) (k : IntKind) (ht : P.underlying t = some (.array n e)) (he : P.underlying e = some (.int k)) (hS : ∀ w, (sizeOf e).run P w = .ok 1 w) (hA : ∀ w, (isAgg e).run P w = .ok false w)
    (f g : Nat → Int) (w : World) : (Op.equalIn (d + 2) t (.agg (tab n k f)) (.agg (tab n k g))).run P w = .ok (decide (tl n f = tl n g)) w := by
  have hp : ∀ (f : Nat → Int) (i : Nat), i < n → (part e (tab n k f) i).run P w = .ok (.int k (f i)) w := by
    intro f i hi
    simp [part, hA, tab_get, hi]
  have hq : ∀ i, i < n → (Op.equalIn (d + 1) e (.int k (f i)) (.int k (g i))).run P w = .ok (f i == g i) w := fun i _ => run_equalIn_int w d e k k (f i) (g i) he
  rw [Op.equalIn]
  simp only [Sem.run_bind, run_underlying ht, Result.andThen_ok, hS, Nat.mul_one]
  rw [Std.Legacy.Range.forIn_eq_forIn_range']
  simp only [Std.Legacy.Range.size, Nat.sub_zero, Nat.add_sub_cancel, Nat.div_one]
  suffices H : ∀ (m s : Nat), s + m = n → (∀ i, i < s → f i = g i) →
      ((forIn (List.range' s m) ((none, ()) : Option Bool × Unit) fun i r => do
          let a ← part e (tab n k f) i
          let b ← part e (tab n k g) i
          let c ← Op.equalIn (d + 1) e a b
          if (!c) = true then pure (ForInStep.done (some false, ()))
          else do
            pure PUnit.unit
            pure (ForInStep.yield (none, ()))) : Sem (Option Bool × Unit)).run P w = .ok (if tl n f = tl n g then none else some false, ()) w by
    have := H n 0 (by omega) (by intro i hi; omega)
    refine Eq.trans (congrArg (fun r => Result.andThen r _) this) ?_
    by_cases he' : tl n f = tl n g <;> simp [he']
  intro m
  induction m with
  | zero =>
    intro s hs hf
    have : tl n f = tl n g := tl_ext.2 fun i hi => hf i (by omega)
    simp [this]
  | succ m ih =>
    intro s hs hf
    simp only [List.range'_succ, List.forIn_cons, Sem.run_bind, hp f s (by omega), hp g s (by omega), Result.andThen_ok, hq s (by omega)]
    by_cases he' : f s = g s
    · have hb : (f s == g s) = true := by simpa using he'
      simp only [hb, Bool.not_true, Bool.false_eq_true, if_false, Sem.run_pure, Result.andThen_ok]
      refine ih (s + 1) (by omega) fun i hi => ?_
      rcases Nat.lt_or_ge i s with h | h
      · exact hf i h
      · obtain rfl : i = s := by omega
        exact he'
    · have hne : ¬ tl n f = tl n g := fun h => he' (tl_ext.1 h s (by omega))
      simp [he', hne]
end

end Go.Proofs.YtfjigoimjaemmaaDoor
