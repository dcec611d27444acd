/- a frame's memory: MemPlays: the loop's parts. -/
import Derived.Test.YtfjigoimjaemmaaMem8W
import Derived.Test.YtfjigoimjaemmaaMem5W
import Derived.Test.YtfjigoimjaemmaaStrW
namespace Go.Proofs.Ytfjigoimjaemmaa
open Go.RowKit
set_option linter.unusedSimpArgs false
set_option linter.unusedVariables false
set_option maxRecDepth 100000

theorem Ints.only {T : Nat → Prop} {w w' : World} {k : IntKind} {A : Option Addr} {n : Nat} {x : Nat → Int} (h : Ints w k A n x) (ho : Only T w w') (hn : ∀ a, A = some a → ¬ T a.block) : Ints w' k A n x := fun j hj => by
  obtain ⟨a, h1, h2, h3⟩ := h j hj
  exact ⟨a, h1, Nat.lt_of_lt_of_le h2 ho.size, by rw [ho.cell (by rw [block_add]; exact h2) (by rw [block_add]; exact hn a h1), h3]⟩

/-- bytes -/
def Bts (l : List Int) : Prop := ∀ j, 0 ≤ l.getD j 0 ∧ l.getD j 0 < 256
/-- a slice lies apart of a memory -/
def Apart (g : Nat) (v : Value) (A : Option Addr) (n : Nat) : Prop := ∀ a, 0 < n → A = some a → a.block ≠ g ∧ v.ownBlock ≠ some a.block
/-- the memory at g, and the reference's slice, hold the same bytes -/
def Both (lo g : Nat) (w : World) (sv : Value) (wr : World) (v : Value) (l : List Int) : Prop :=
  ∃ (A : Option Addr) (c : Nat), sv = .slice A l.length c ∧ l.length % 32 = 0 ∧ l.length ≤ 4194304 ∧ Bts l ∧ MemIs wr lo g v l ∧ Ints wr .u8 A l.length (fun j => l.getD j 0) ∧ Apart g v A l.length ∧ Below lo w wr

theorem readF_len {l : List Int} {at' : Int} (j : Nat) : (if at'.toNat + j < l.length then l.getD (at'.toNat + j) 0 else 0) = readF l at' j := by
  unfold readF
  split
  · rfl
  · rename_i h; simp [List.getD, h]
theorem Both.below {lo g : Nat} {w wr w' : World} {sv v : Value} {l : List Int} (h : Both lo g w sv wr v l) (hb : Below wr.heap.size wr w') : Both lo g w sv w' v l := by
  obtain ⟨A, c, h1, h2, h3, h4, h5, h6, h7, h8⟩ := h
  exact ⟨A, c, h1, h2, h3, h4, h5.below hb, h6.below (Nat.le_refl _) hb, h7, h8.trans (hb.mono (by have := h5.2.2.2.1; have := h5.2.2.2.2.1; omega))⟩

theorem growL_getD (l : List Int) (x : Int) (j : Nat) : (growL l (some x)).getD j 0 = if j < l.length then l.getD j 0 else 0 := by
  simp only [growL, List.getD]
  by_cases h : j < l.length
  · rw [List.getElem?_append_left h, if_pos h]
  · rw [List.getElem?_append_right (by omega), if_neg h]
    by_cases h2 : j - l.length < (32 * x).toNat - l.length
    · rw [List.getElem?_replicate, if_pos h2]; rfl
    · rw [List.getElem?_replicate, if_neg h2]; rfl
theorem wrL_getD (l : List Int) (at' : Int) (n : Nat) (x : Nat → Int) (j : Nat) (h : j < l.length) : (wrL l at' n x).getD j 0 = if 0 ≤ at' ∧ at' ≤ j ∧ (j : Int) < at' + n then x (j - at'.toNat) else l.getD j 0 := by
  simp only [wrL, List.getD, tl_get _ _ _ h, Option.getD_some, wrF]
theorem Bts.grow {l : List Int} (h : Bts l) (x : Int) : Bts (growL l (some x)) := fun j => by
  rw [growL_getD]; split
  · exact h j
  · omega
theorem Bts.write {l : List Int} (h : Bts l) (at' : Int) (n : Nat) (x : Nat → Int) (hx : ∀ j, j < n → 0 ≤ x j ∧ x j < 256) : Bts (wrL l at' n x) := fun j => by
  by_cases hj : j < l.length
  · rw [wrL_getD _ _ _ _ _ hj]
    split
    · exact hx _ (by omega)
    · exact h j
  · simp [List.getD, wrL_length, hj]

/-- behind a write of both -/
theorem Both.written {lo g : Nat} {w wr w2 w3 : World} {sv v : Value} {l : List Int} (h : Both lo g w sv wr v l) (at' : Int) (n : Nat) (x : Nat → Int) (hx : ∀ j, j < n → 0 ≤ x j ∧ x j < 256) (hm : MemIs w2 lo g v (wrL l at' n x)) (ht : MTouch wr w2 g v v)
    (A3 : Option Addr) (c3 : Nat) (hi : Ints w3 .u8 A3 l.length (fun j => if 0 ≤ at' ∧ at' ≤ j ∧ (j : Int) < at' + n then x (j - at'.toNat) else l.getD j 0)) (ha : ∀ a, A3 = some a → w2.heap.size ≤ a.block) (hb : Below w2.heap.size w2 w3) :
    Both lo g w (.slice A3 l.length c3) w3 v (wrL l at' n x) := by
  obtain ⟨A, c, h1, h2, h3, h4, h5, h6, h7, h8⟩ := h
  refine ⟨A3, c3, by rw [wrL_length], by rw [wrL_length]; exact h2, by rw [wrL_length]; exact h3, h4.write at' n x hx, hm.below hb, ?_, fun a _ e => ?_, ?_⟩
  · rw [wrL_length]; exact hi.congr fun j hj => (wrL_getD l at' n x j hj).symm
  · have h0 := ha a e
    refine ⟨by have := hm.2.2.2.2.1; omega, fun e2 => ?_⟩
    have := (ownsRow_lt hm.2.2.1 e2).2
    omega
  · exact (h8.trans (ht.below h5 (Nat.le_refl _) (by have := h5.2.2.2.1; have := h5.2.2.2.2.1; omega))).trans (hb.mono (by have := hm.2.2.2.1; have := hm.2.2.2.2.1; omega))
/-- behind a reach of both -/
theorem Both.grown {lo g : Nat} {w wr w2 w3 : World} {sv v v2 : Value} {l : List Int} (h : Both lo g w sv wr v l) (x : Int) (hx : (l.length : Int) / 32 ≤ x) (hx2 : x ≤ 131072) (hm : MemIs w2 lo g v2 (growL l (some x))) (ht : MTouch wr w2 g v v2)
    (A3 : Option Addr) (c3 n : Nat) (hn : (n : Int) = 32 * x) (hi : Ints w3 .u8 A3 n (fun j => if j < l.length then l.getD j 0 else 0)) (ha : ∀ a, A3 = some a → w2.heap.size ≤ a.block) (hb : Below w2.heap.size w2 w3) :
    Both lo g w (.slice A3 n c3) w3 v2 (growL l (some x)) := by
  obtain ⟨A, c, h1, h2, h3, h4, h5, h6, h7, h8⟩ := h
  have hlen := growL_len hx h2
  have hn2 : (growL l (some x)).length = n := by omega
  refine ⟨A3, c3, by rw [hn2], by omega, by omega, h4.grow x, hm.below hb, ?_, fun a _ e => ?_, ?_⟩
  · rw [hn2]; exact hi.congr fun j hj => (growL_getD l x j).symm
  · have h0 := ha a e
    refine ⟨by have := hm.2.2.2.2.1; omega, fun e2 => ?_⟩
    have := (ownsRow_lt hm.2.2.1 e2).2
    omega
  · exact (h8.trans (ht.below h5 (Nat.le_refl _) (by have := h5.2.2.2.1; have := h5.2.2.2.2.1; omega))).trans (hb.mono (by have := hm.2.2.2.1; have := hm.2.2.2.2.1; omega))
/-- a refused reach -/
theorem Both.same {lo g : Nat} {w wr w2 : World} {sv v v2 : Value} {l : List Int} (h : Both lo g w sv wr v l) (hm : MemIs w2 lo g v2 l) (ht : MTouch wr w2 g v v2) : Both lo g w sv w2 v2 l := by
  obtain ⟨A, c, h1, h2, h3, h4, h5, h6, h7, h8⟩ := h
  have h8' := h8.trans (ht.below h5 (Nat.le_refl _) (by have := h5.2.2.2.1; have := h5.2.2.2.2.1; omega))
  rcases Nat.eq_zero_or_pos l.length with hz | hz
  · exact ⟨A, c, h1, h2, h3, h4, hm, fun j hj => by omega, fun a h0 => by omega, h8'⟩
  · refine ⟨A, c, h1, h2, h3, h4, hm, h6.only ht.1 (fun a e hT => ?_), fun a _ e => ⟨(h7 a hz e).1, fun e2 => ?_⟩, h8'⟩
    · rcases hT with hT | hT
      · exact (h7 a hz e).1 hT
      · exact (h7 a hz e).2 hT
    · rcases ht.2 with h0 | ⟨b, h0, h00⟩
      · exact (h7 a hz e).2 (by rw [← h0, e2])
      · rw [h0] at e2
        have := Option.some.inj e2
        subst this
        obtain ⟨a', e', hl, _⟩ := h6 0 hz
        rw [e] at e'
        obtain rfl := Option.some.inj e'
        omega
theorem Both.after {lo g n c : Nat} {A : Option Addr} {w wr w2 : World} {v v2 : Value} {l : List Int} (h : Both lo g w (.slice A n c) wr v l) (ht : MTouch wr w2 g v v2) : Ints w2 .u8 A l.length (fun j => l.getD j 0) := by
  obtain ⟨A', c', h1, h2, h3, h4, h5, h6, h7, h8⟩ := h
  cases h1
  rcases Nat.eq_zero_or_pos l.length with hz | hz
  · exact fun j hj => by omega
  · refine h6.only ht.1 (fun a e hT => ?_)
    rcases hT with hT | hT
    · exact (h7 a hz e).1 hT
    · exact (h7 a hz e).2 hT
end Go.Proofs.Ytfjigoimjaemmaa
