/- the operation rows of MemPlays and its like (Op): read as arguments, loaded. -/
import Derived.Test.YtfjigoimjaemmaaOpen
namespace Go.Proofs.Ytfjigoimjaemmaa
open Go.ChangeShapes Go.WideShapes Go.ChangeAt Go.RowKit Go.Deep
set_option linter.unusedSimpArgs false
set_option linter.unusedVariables false
set_option maxRecDepth 100000

/-- one operation: four numbers, two words, bytes -/
structure OpV where
  kind : Int
  n : Int
  m : Int
  k : Int
  a : Nat → Int
  b : Nat → Int
  A : Option Addr
  len : Nat
  cap : Nat
  x : Nat → Int
/-- its cells -/
def OpV.row (o : OpV) : Array Value := #[.int .i64 o.kind, .int .i64 o.n, .int .i64 o.m, .int .i64 o.k, .int .u64 (o.a 0), .int .u64 (o.a 1), .int .u64 (o.a 2), .int .u64 (o.a 3), .int .u64 (o.b 0), .int .u64 (o.b 1), .int .u64 (o.b 2), .int .u64 (o.b 3), .slice o.A o.len o.cap]
/-- a number of 64 bits with a sign -/
def I64 (x : Int) : Prop := -9223372036854775808 ≤ x ∧ x < 9223372036854775808
theorem i64_of {x : Int} (h : (Lit.int .i64 x).wf = true) : I64 x := ⟨(bounds_i64 h).1, by have := (bounds_i64 h).2; omega⟩
theorem u8_of {x : Int} (h : (Lit.int .u8 x).wf = true) : 0 ≤ x ∧ x < 256 := ⟨(bounds_u8 h).1, by have := (bounds_u8 h).2; omega⟩
/-- what is known of it -/
structure OpV.Ok (o : OpV) (w : World) : Prop where
  kind : I64 o.kind
  n : I64 o.n
  m : I64 o.m
  k : I64 o.k
  a : ∀ i, i < 4 → 0 ≤ o.a i ∧ o.a i < 18446744073709551616
  b : ∀ i, i < 4 → 0 ≤ o.b i ∧ o.b i < 18446744073709551616
  data : Ints w .u8 o.A o.len o.x
  bytes : ∀ j, j < o.len → 0 ≤ o.x j ∧ o.x j < 256
  lencap : o.len ≤ o.cap
  cap : o.cap ≤ maxLen
theorem OpV.Ok.below {o : OpV} {w w' : World} {B : Nat} (h : o.Ok w) (hB : w.heap.size ≤ B) (hb : Below B w w') : o.Ok w' := ⟨h.kind, h.n, h.m, h.k, h.a, h.b, h.data.below hB hb, h.bytes, h.lencap, h.cap⟩

/-- from a on lie the cells of cs -/
def CellsAt (w : World) (a : Addr) (cs : List Value) : Prop := a.block < w.heap.size ∧ ∀ i v, cs[i]? = some v → w.cell? (a.add i) = some v
theorem CellsAt.below {w w' : World} {B : Nat} {a : Addr} {cs : List Value} (h : CellsAt w a cs) (hB : w.heap.size ≤ B) (hb : Below B w w') : CellsAt w' a cs :=
  ⟨Nat.lt_of_lt_of_le h.1 hb.size, fun i v hv => by rw [hb.cell (by rw [block_add]; have := h.1; omega)]; exact h.2 i v hv⟩
theorem CellsAt.load {P : Program} {t : Nat} {w : World} {a : Addr} {cs : Array Value} (hA : ∀ w, (isAgg t).run P w = .ok true w) (hS : ∀ w, (sizeOf t).run P w = .ok cs.size w) (h : CellsAt w a cs.toList) :
    (ldArr t (.pointer (some a))).run P w = .ok (.agg cs) w := by
  have hl := run_loadCells_list (P := P) w a cs.toList (fun j v hv => h.2 j v hv)
  rw [Array.length_toList] at hl
  simp [ldArr, Instr.loadAt, Instr.sureAddr, loadVar, Sem.run_bind, hA, hS, hl]

/-- the slice at A of n operations, f j being the j-th -/
def Ops (w : World) (A : Option Addr) (n : Nat) (f : Nat → OpV) : Prop := ∀ j, j < n → (∃ a : Addr, A = some a ∧ a.block < w.heap.size ∧ CellsAt w (a.add (j * 13)) (f j).row.toList) ∧ (f j).Ok w
theorem Ops.below {w w' : World} {A : Option Addr} {n B : Nat} {f : Nat → OpV} (h : Ops w A n f) (hB : w.heap.size ≤ B) (hb : Below B w w') : Ops w' A n f := fun j hj => by
  obtain ⟨⟨a, h1, h2, h3⟩, h4⟩ := h j hj
  exact ⟨⟨a, h1, Nat.lt_of_lt_of_le h2 hb.size, h3.below hB hb⟩, h4.below hB hb⟩
theorem Ops.load {w : World} {A : Option Addr} {n : Nat} {f : Nat → OpV} (h : Ops w A n f) {j : Nat} (hj : j < n) :
    ∃ a : Addr, A = some a ∧ a.block < w.heap.size ∧ (ldArr 53 (.pointer (some (a.add (j * 13))))).run Try.prog w = .ok (.agg (f j).row) w ∧ (f j).Ok w := by
  obtain ⟨⟨a, h1, h2, h3⟩, h4⟩ := h j hj
  exact ⟨a, h1, h2, h3.load Try.isAgg53 Try.sizeOf53, h4⟩

theorem trod_struct_at {H : Type} {enc : TypeId × Value → H} {P : Program} {w : World} {base : Nat} {spare : Nat → Bool} {held : Bool} {fuel t : Nat} {fs : Array Field} {cs : List Value} {x : DataW H × List MemPlace} (ht : P.underlying t = some (.struct fs))
    (h : DataW.trod enc P w base spare held (fuel + 1) t cs = some x) : cs.length = P.cellsOf t ∧ ∀ (i : Nat) f, fs[i]? = some f → ∃ y, DataW.trod enc P w base spare held fuel f.type ((cs.drop f.offset).take (P.cellsOf f.type)) = some y := by
  simp only [DataW.trod, ht] at h
  split at h
  · rename_i hl
    refine ⟨hl, fun i f hf => ?_⟩
    obtain ⟨xs, hm, _⟩ := Option.map_eq_some_iff.1 h
    have hf' : fs.toList[i]? = some f := by simpa using hf
    have key : ∀ {β : Type} {g : Field → Option β} {l : List Field} {r : List β}, l.mapM g = some r → ∀ (i : Nat) (a : Field), l[i]? = some a → ∃ b, g a = some b := by
      intro β g l
      induction l with
      | nil => intro r _ i a ha; simp at ha
      | cons z l ih =>
        intro r h i a ha
        simp only [List.mapM_cons, Option.bind_eq_bind, Option.bind_eq_some_iff, Option.pure_def, Option.some.injEq] at h
        obtain ⟨b, hb, r', hr', rfl⟩ := h
        cases i with
        | zero => simp at ha; subst ha; exact ⟨b, hb⟩
        | succ i => exact ih hr' i a (by simpa using ha)
    exact key hm i f hf'
  · cases h

theorem trod_field {H : Type} {enc : TypeId × Value → H} {P : Program} {w : World} {base : Nat} {spare : Nat → Bool} {held : Bool} {fuel t : Nat} {fs : Array Field} {cs : List Value} {x : DataW H × List MemPlace} (ht : P.underlying t = some (.struct fs))
    (h : DataW.trod enc P w base spare held (fuel + 1) t cs = some x) (i e o s : Nat) (hi : (fs[i]?.map fun f => (f.type, f.offset)) = some (e, o)) (hc : P.cellsOf e = s) : ∃ y, DataW.trod enc P w base spare held fuel e ((cs.drop o).take s) = some y := by
  obtain ⟨f, hf, he⟩ := Option.map_eq_some_iff.1 hi
  obtain ⟨y, hy⟩ := (trod_struct_at ht h).2 i f hf
  simp only [Prod.mk.injEq] at he
  obtain ⟨rfl, rfl⟩ := he
  subst hc
  exact ⟨y, hy⟩

theorem take_int {k : IntKind} {H : Type} {enc : TypeId × Value → H} {P : Program} {w : World} {spare : Nat → Bool} {fuel t : Nat} {cs : List Value} {y : DataW H × List MemPlace} (ht : P.underlying t = some (.int k))
    (h : DataW.trod enc P w 0 spare true fuel t cs = some y) : ∃ a, cs = [.int k a] ∧ (Lit.int k a).wf = true := by
  obtain ⟨a, h1, _, h2⟩ := DataW.trod_int ht h
  exact ⟨a, h1, h2⟩

theorem choose_lt' {α : Type} [Inhabited α] {n : Nat} {p : Nat → α → Prop} (h : ∀ j, j < n → ∃ x, p j x) : ∃ f : Nat → α, ∀ j, j < n → p j (f j) := by
  refine ⟨fun j => if hj : j < n then Classical.choose (h j hj) else default, fun j hj => ?_⟩
  simp only [hj, dite_true]
  exact Classical.choose_spec (h j hj)
instance : Inhabited OpV := ⟨⟨0, 0, 0, 0, zf, zf, none, 0, 0, zf⟩⟩

theorem trod_op {H : Type} {enc : TypeId × Value → H} {w : World} {spare : Nat → Bool} {fuel : Nat} {cs : List Value} {x : DataW H × List MemPlace}
    (h : DataW.trod enc Try.prog w 0 spare true (fuel + 1) 53 cs = some x) : ∃ o : OpV, cs = o.row.toList ∧ o.Ok w := by
  have hl := (trod_struct_at Try.underlying53 h).1
  have hC : Try.prog.cellsOf 53 = 13 := by kernel_rfl
  have c1 : Try.prog.cellsOf 3 = 1 := by kernel_rfl
  have c4 : Try.prog.cellsOf 24 = 4 := by kernel_rfl
  have cb : Try.prog.cellsOf 38 = 1 := by kernel_rfl
  rw [hC] at hl
  obtain ⟨y0, h0⟩ := trod_field Try.underlying53 h 0 3 0 _ rfl c1
  obtain ⟨y1, h1⟩ := trod_field Try.underlying53 h 1 3 1 _ rfl c1
  obtain ⟨y2, h2⟩ := trod_field Try.underlying53 h 2 3 2 _ rfl c1
  obtain ⟨y3, h3⟩ := trod_field Try.underlying53 h 3 3 3 _ rfl c1
  obtain ⟨y4, h4⟩ := trod_field Try.underlying53 h 4 24 4 _ rfl c4
  obtain ⟨y5, h5⟩ := trod_field Try.underlying53 h 5 24 8 _ rfl c4
  obtain ⟨y6, h6⟩ := trod_field Try.underlying53 h 6 38 12 _ rfl cb
  obtain ⟨a0, e0, w0⟩ := take_int Try.underlying3 h0
  obtain ⟨a1, e1, w1⟩ := take_int Try.underlying3 h1
  obtain ⟨a2, e2, w2⟩ := take_int Try.underlying3 h2
  obtain ⟨a3, e3, w3⟩ := take_int Try.underlying3 h3
  obtain ⟨fa, e4, w4⟩ := trod_tab Try.underlying24 Try.underlying22 (by kernel_rfl) c4 h4
  obtain ⟨fb, e5, w5⟩ := trod_tab Try.underlying24 Try.underlying22 (by kernel_rfl) c4 h5
  obtain ⟨A, len, cap, xx, e6, w6, w7, w8, w9⟩ := trod_ints Try.underlying38 Try.underlying5 (by kernel_rfl) h6
  refine ⟨⟨a0, a1, a2, a3, fa, fb, A, len, cap, xx⟩, ?_, ⟨i64_of w0, i64_of w1, i64_of w2, i64_of w3, fun i hi => wf_u64 (w4 i hi), fun i hi => wf_u64 (w5 i hi), w6, fun j hj => u8_of (w7 j hj), w8, w9⟩⟩
  match cs, hl with
  | [q0, q1, q2, q3, q4, q5, q6, q7, q8, q9, q10, q11, q12], _ =>
    simp [tl, List.range_succ] at e0 e1 e2 e3 e4 e5 e6
    simp [OpV.row, e0, e1, e2, e3, e4, e5, e6]

theorem open_ops {H : Type} {enc : TypeId × Value → H} {w : World} {b0 : Nat} {v : Value} {d : DataW H} {ps : List MemPlace} (hv : Value.okWide Try.prog w .any b0 50 v)
    (h : DataW.Trod enc Try.prog w 0 (fun _ => true) true 50 v d ps) : ∃ (A : Option Addr) (len cap : Nat) (x : Nat → OpV), v = .slice A len cap ∧ (Ops w A len x ∧ len ≤ cap ∧ cap ≤ maxLen) := by
  obtain ⟨a, len, cap, rfl⟩ := okWide_slice Try.underlying50 hv
  obtain ⟨fuel, hf⟩ := h
  rw [show (Value.slice a len cap).cells = #[.slice a len cap] from rfl] at hf
  rcases open_slice Try.underlying50 hf with ⟨hc, _⟩ | ⟨a', len', cap', m, n, D, Pl, hc, hb, hl, hm, hmm, hx, hi⟩
  · simp at hc
    obtain ⟨rfl, rfl, rfl⟩ := hc
    exact ⟨none, 0, 0, fun _ => default, rfl, fun j hj => absurd hj (by omega), by omega, by unfold maxLen; omega⟩
  · simp at hc
    obtain ⟨rfl, rfl, rfl⟩ := hc
    have hml : len ≤ m := by rw [hmm]; split <;> omega
    have hC : Try.prog.cellsOf 53 = 13 := by kernel_rfl
    obtain ⟨x, hx⟩ := choose_lt' (n := len) (p := fun j o => CellsAt w (a'.add (j * 13)) (OpV.row o).toList ∧ o.Ok w) (fun j hj => by
      obtain ⟨cs', hcs, ht'⟩ := hi j (by omega)
      rw [hC] at hcs
      obtain ⟨_, hcl, hat⟩ := World.cells?_some hcs
      obtain ⟨fl, rfl⟩ : ∃ fl, n = fl + 1 := by
        cases n with
        | zero => simp [DataW.trod] at ht'
        | succ n => exact ⟨n, rfl⟩
      obtain ⟨o, rfl, ho⟩ := trod_op ht'
      refine ⟨o, ⟨?_, fun i v hv => ?_⟩, ho⟩
      · have := hat 0 (by simp [OpV.row])
        have := World.block_lt_of_cell? _ _ (this.trans (by simp [OpV.row]; rfl))
        rw [block_add] at this; exact this
      · have hi' : i < 13 := by
          have := (List.getElem?_eq_some_iff.1 hv).1
          simpa [OpV.row] using this
        rw [hat i hi', hv])
    exact ⟨some a', len, cap, x, rfl, fun j hj => ⟨⟨a', rfl, by have := (hx j hj).1.1; rwa [block_add] at this, (hx j hj).1⟩, (hx j hj).2⟩, by omega, by omega⟩
end Go.Proofs.Ytfjigoimjaemmaa
