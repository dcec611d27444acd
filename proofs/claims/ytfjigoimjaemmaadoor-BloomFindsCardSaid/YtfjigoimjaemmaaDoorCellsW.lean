/- structs in memory: cells read as they lie; a struct's fields opened. (The same words as OpW's, for the seat that has no operations.) -/
import Derived.Test.YtfjigoimjaemmaaDoorOpen
namespace Go.Proofs.YtfjigoimjaemmaaDoor
open Go.ChangeShapes Go.WideShapes Go.ChangeAt Go.RowKit Go.Deep
set_option linter.unusedSimpArgs false
set_option linter.unusedVariables false
set_option maxRecDepth 100000

/-- from a on lie the cells of cs -/
def CellsAt (w : World) (a : Addr) (cs : List Value) : Prop := a.block < w.heap.size ∧ ∀ i v, cs[i]? = some v → w.cell? (a.add i) = some v
theorem CellsAt.below {w w' : World} {B : Nat} {a : Addr} {cs : List Value} (h : CellsAt w a cs) (hB : w.heap.size ≤ B) (hb : Below B w w') : CellsAt w' a cs :=
  ⟨Nat.lt_of_lt_of_le h.1 hb.size, fun i v hv => by rw [hb.cell (by rw [block_add]; have := h.1; omega)]; exact h.2 i v hv⟩
theorem CellsAt.load {P : Program} {t : Nat} {w : World} {a : Addr} {cs : Array Value} (hA : ∀ w, (isAgg t).run P w = .ok true w) (hS : ∀ w, (sizeOf t).run P w = .ok cs.size w) (h : CellsAt w a cs.toList) :
    (ldArr t (.pointer (some a))).run P w = .ok (.agg cs) w := by
  have hl := run_loadCells_list (P := P) w a cs.toList (fun j v hv => h.2 j v hv)
  rw [Array.length_toList] at hl
  simp [ldArr, Instr.loadAt, Instr.sureAddr, loadVar, Sem.run_bind, hA, hS, hl]

theorem trod_struct_at {H : Type} {enc : TypeId × Value → H} {P : Program} {w : World} {base : Nat} {spare : Nat → Bool} {held : Bool} {fuel t : Nat} {fs : Array Field} {cs : List Value} {x : DataW H × List MemPlace} (ht : P.underlying t = some (.struct fs))
    (h : DataW.trod enc P w base spare held (fuel + 1) t cs = some x) : cs.length = P.cellsOf t ∧ ∀ (i : Nat) f, fs[i]? = some f → ∃ y, DataW.trod enc P w base spare held fuel f.type ((cs.drop f.offset).take (P.cellsOf f.type)) = some y := by
  simp only [DataW.trod, ht] at h
  split at h
  · rename_i hl
    refine ⟨hl, fun i f hf => ?_⟩
    obtain ⟨xs, hm, _⟩ := Option.map_eq_some_iff.1 h
    have hf' : fs.toList[i]? = some f := by simpa using hf
    have key : ∀ {β : Type} {g : Field → Option β} {l : List Field} {r : List β}, l.mapM g = some r → ∀ (i : Nat) (a : Field), l[i]? = some a → ∃ b, g a = some b := by
      intro β g l
      induction l with
      | nil => intro r _ i a ha; simp at ha
      | cons z l ih =>
        intro r h i a ha
        simp only [List.mapM_cons, Option.bind_eq_bind, Option.bind_eq_some_iff, Option.pure_def, Option.some.injEq] at h
        obtain ⟨b, hb, r', hr', rfl⟩ := h
        cases i with
        | zero => simp at ha; subst ha; exact ⟨b, hb⟩
        | succ i => exact ih hr' i a (by simpa using ha)
    exact key hm i f hf'
  · cases h

theorem trod_field {H : Type} {enc : TypeId × Value → H} {P : Program} {w : World} {base : Nat} {spare : Nat → Bool} {held : Bool} {fuel t : Nat} {fs : Array Field} {cs : List Value} {x : DataW H × List MemPlace} (ht : P.underlying t = some (.struct fs))
    (h : DataW.trod enc P w base spare held (fuel + 1) t cs = some x) (i e o s : Nat) (hi : (fs[i]?.map fun f => (f.type, f.offset)) = some (e, o)) (hc : P.cellsOf e = s) : ∃ y, DataW.trod enc P w base spare held fuel e ((cs.drop o).take s) = some y := by
  obtain ⟨f, hf, he⟩ := Option.map_eq_some_iff.1 hi
  obtain ⟨y, hy⟩ := (trod_struct_at ht h).2 i f hf
  simp only [Prod.mk.injEq] at he
  obtain ⟨rfl, rfl⟩ := he
  subst hc
  exact ⟨y, hy⟩

theorem take_int {k : IntKind} {H : Type} {enc : TypeId × Value → H} {P : Program} {w : World} {spare : Nat → Bool} {fuel t : Nat} {cs : List Value} {y : DataW H × List MemPlace} (ht : P.underlying t = some (.int k))
    (h : DataW.trod enc P w 0 spare true fuel t cs = some y) : ∃ a, cs = [.int k a] ∧ (Lit.int k a).wf = true := by
  obtain ⟨a, h1, _, h2⟩ := DataW.trod_int ht h
  exact ⟨a, h1, h2⟩

theorem choose_lt' {α : Type} [Inhabited α] {n : Nat} {p : Nat → α → Prop} (h : ∀ j, j < n → ∃ x, p j x) : ∃ f : Nat → α, ∀ j, j < n → p j (f j) := by
  refine ⟨fun j => if hj : j < n then Classical.choose (h j hj) else default, fun j hj => ?_⟩
  simp only [hj, dite_true]
  exact Classical.choose_spec (h j hj)
/-- a number of 64 bits with a sign -/
def I64 (x : Int) : Prop := -9223372036854775808 ≤ x ∧ x < 9223372036854775808
theorem i64_of {x : Int} (h : (Lit.int .i64 x).wf = true) : I64 x := ⟨(bounds_i64 h).1, by have := (bounds_i64 h).2; omega⟩
theorem u8_of {x : Int} (h : (Lit.int .u8 x).wf = true) : 0 ≤ x ∧ x < 256 := ⟨(bounds_u8 h).1, by have := (bounds_u8 h).2; omega⟩
end Go.Proofs.YtfjigoimjaemmaaDoor
