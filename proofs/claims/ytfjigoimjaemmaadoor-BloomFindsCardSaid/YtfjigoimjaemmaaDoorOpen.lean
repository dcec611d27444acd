/- Arguments that hold arrays of whole numbers, opened. -/
import Derived.Test.YtfjigoimjaemmaaDoorBase
import Derived.Test.YtfjigoimjaemmaaDoorFrame
import Derived.Test.YtfjigoimjaemmaaDoorRead
import Derived.Deep.Slices
namespace Go.Proofs.YtfjigoimjaemmaaDoor
open Go.ChangeShapes Go.WideShapes Go.ChangeAt Go.RowKit Go.Deep
set_option linter.unusedSimpArgs false
set_option linter.unusedVariables false
set_option maxRecDepth 100000

section
variable {H : Type} {enc : TypeId × Value → H} {P : Program} {w : World} {base : Nat} {spare : Nat → Bool} {held : Bool}

theorem trod_tab {t e n fuel : Nat} {k : IntKind} {cs : List Value} {x : DataW H × List MemPlace} (ht : P.underlying t = some (.array n e)) (he : P.underlying e = some (.int k)) (hce : P.cellsOf e = 1) (hct : P.cellsOf t = n)
    (h : DataW.trod enc P w base spare held fuel t cs = some x) : ∃ f : Nat → Int, cs = (tl n f).map (Value.int k) ∧ ∀ i, i < n → (Lit.int k (f i)).wf = true := by
  obtain ⟨xs, m, rfl, rfl, hlen, hxs, hat⟩ := DataW.trod_array ht h
  rw [hct] at hlen
  have hone : ∀ i, i < n → ∃ a, cs[i]? = some (.int k a) ∧ (Lit.int k a).wf = true := by
    intro i hi
    have h1 := hat i hi
    rw [hce, Nat.mul_one] at h1
    have hx : xs[i]? = some (xs[i]'(by omega)) := List.getElem?_eq_getElem (by omega)
    rw [hx] at h1
    obtain ⟨a, hc, _, hwf⟩ := DataW.trod_int he h1
    refine ⟨a, ?_, hwf⟩
    have h2 : cs.drop i = cs[i]'(by omega) :: cs.drop (i + 1) := List.drop_eq_getElem_cons (by omega)
    rw [h2] at hc
    rw [List.take_succ_cons] at hc
    have h3 : cs[i]'(by omega) = .int k a := (List.cons.inj hc).1
    rw [List.getElem?_eq_getElem (by omega), h3]
  refine ⟨fun i => match cs[i]? with | some (.int _ a) => a | _ => 0, ?_, ?_⟩
  · apply List.ext_getElem?
    intro i
    by_cases hi : i < n
    · obtain ⟨a, ha, _⟩ := hone i hi
      rw [ha, List.getElem?_map, tl_get n _ i hi, ha]; rfl
    · rw [List.getElem?_eq_none (by omega), List.getElem?_eq_none (by rw [List.length_map, tl_length]; omega)]
  · intro i hi
    obtain ⟨a, ha, hw⟩ := hone i hi
    simp only [ha]; exact hw

theorem open_tab {t e n : Nat} {k : IntKind} {r : Reach} {b0 : Nat} {v : Value} {d : DataW H} {ps : List MemPlace} (ht : P.underlying t = some (.array n e)) (he : P.underlying e = some (.int k)) (hce : P.cellsOf e = 1) (hct : P.cellsOf t = n)
    (hv : Value.okWide P w r b0 t v) (h : DataW.Trod enc P w base spare held t v d ps) : ∃ f : Nat → Int, v = .agg (tab n k f) ∧ ∀ i, i < n → (Lit.int k (f i)).wf = true := by
  have hv' : ∃ cs, v = Value.agg cs ∧ cs.size = P.cellsOf t := by
    unfold Value.okWide at hv
    rw [ht] at hv
    obtain ⟨cs, h1, h2, _⟩ := hv
    exact ⟨cs, h1, h2⟩
  obtain ⟨cs, rfl, hsz⟩ := hv'
  obtain ⟨fuel, hf⟩ := h
  obtain ⟨f, hcs, hw⟩ := trod_tab ht he hce hct hf
  exact ⟨f, by rw [tab_lit n k f cs hcs], hw⟩
end

theorem wf_u64 {a : Int} (h : (Lit.int .u64 a).wf = true) : 0 ≤ a ∧ a < 18446744073709551616 := ⟨(bounds_u64 h).1, by have := (bounds_u64 h).2; omega⟩
theorem open_word {H : Type} {enc : TypeId × Value → H} {w : World} {b0 : Nat} {v : Value} {d : DataW H} {ps : List MemPlace} (hv : Value.okWide Tryd.prog w .any b0 47 v)
    (h : DataW.Trod enc Tryd.prog w 0 (fun _ => true) true 47 v d ps) : ∃ f : Nat → Int, v = wv f ∧ ∀ i, i < 4 → 0 ≤ f i ∧ f i < 18446744073709551616 := by
  obtain ⟨f, h1, h2⟩ := open_tab Tryd.underlying47 Tryd.underlying22 (by kernel_rfl) (by kernel_rfl) hv h
  exact ⟨f, h1, fun i hi => wf_u64 (h2 i hi)⟩


theorem fl_words {w : World} {A : Option Addr} {n : Nat} (h : ∀ j, j < n → ∃ (a : Addr) (f : Nat → Int), A = some a ∧ a.block < w.heap.size ∧ (∀ i, i < 4 → 0 ≤ f i ∧ f i < 18446744073709551616) ∧ ∀ i, i < 4 → w.cell? (a.add (j * 4 + i)) = some (.int .u64 (f i))) :
    ∃ x : Nat → Nat → Int, Words w A n x ∧ ∀ j, j < n → ∀ i, i < 4 → 0 ≤ x j i ∧ x j i < 18446744073709551616 := by
  refine ⟨fun j => if hj : j < n then (Classical.choose (Classical.choose_spec (h j hj))) else fun _ => 0, ?_, ?_⟩
  · intro j hj
    refine ⟨Classical.choose (h j hj), ?_⟩
    have hs := Classical.choose_spec (Classical.choose_spec (h j hj))
    simp only [hj, dite_true]
    exact ⟨hs.1, hs.2.1, hs.2.2.2⟩
  · intro j hj i hi
    have hs := Classical.choose_spec (Classical.choose_spec (h j hj))
    simp only [hj, dite_true]
    exact hs.2.2.1 i hi

/-- a slice of words -/
theorem trod_words {H : Type} {enc : TypeId × Value → H} {w : World} {spare : Nat → Bool} {fuel : Nat} {cs : List Value} {x : DataW H × List MemPlace}
    (h : DataW.trod enc Tryd.prog w 0 spare true fuel 62 cs = some x) :
    ∃ (A : Option Addr) (len cap : Nat) (y : Nat → Nat → Int), cs = [.slice A len cap] ∧ Words w A len y ∧ ∀ j, j < len → ∀ i, i < 4 → 0 ≤ y j i ∧ y j i < 18446744073709551616 := by
  rcases open_slice Tryd.underlying62 h with ⟨rfl, _⟩ | ⟨a, len, cap, m, n, D, Pl, rfl, hb, hl, hm, hmm, hx, hi⟩
  · exact ⟨none, 0, 0, fun _ _ => 0, rfl, fun j hj => absurd hj (by omega), fun j hj => absurd hj (by omega)⟩
  · have hml : len ≤ m := by rw [hmm]; split <;> omega
    have hC : Tryd.prog.cellsOf 47 = 4 := by kernel_rfl
    obtain ⟨y, hy, hyb⟩ := fl_words (w := w) (A := some a) (n := len) (fun j hj => by
      obtain ⟨cs', hc, ht'⟩ := hi j (by omega)
      obtain ⟨f, hcs, hwf⟩ := trod_tab Tryd.underlying47 Tryd.underlying22 (by kernel_rfl) hC ht'
      rw [hC] at hc
      obtain ⟨_, hcl, hat⟩ := World.cells?_some hc
      have hcell : ∀ i, i < 4 → w.cell? (a.add (j * 4 + i)) = some (.int .u64 (f i)) := by
        intro i hi4
        rw [← add_add, hat i hi4, hcs, List.getElem?_map, tl_get 4 f i hi4]; rfl
      refine ⟨a, f, rfl, ?_, fun i hi4 => wf_u64 (hwf i hi4), hcell⟩
      have := World.block_lt_of_cell? _ _ (hcell 0 (by omega))
      unfold Addr.add at this
      split at this <;> exact this)
    exact ⟨some a, len, cap, y, rfl, hy, hyb⟩

theorem open_words {H : Type} {enc : TypeId × Value → H} {w : World} {b0 : Nat} {v : Value} {d : DataW H} {ps : List MemPlace} (hv : Value.okWide Tryd.prog w .any b0 62 v)
    (h : DataW.Trod enc Tryd.prog w 0 (fun _ => true) true 62 v d ps) : ∃ (A : Option Addr) (len cap : Nat) (x : Nat → Nat → Int), v = .slice A len cap ∧ (Words w A len x ∧ ∀ j, j < len → ∀ i, i < 4 → 0 ≤ x j i ∧ x j i < 18446744073709551616) := by
  obtain ⟨a, len, cap, rfl⟩ := okWide_slice Tryd.underlying62 hv
  obtain ⟨fuel, hf⟩ := h
  obtain ⟨A, len', cap', x, hcs, hx⟩ := trod_words hf
  simp [Value.cells] at hcs
  obtain ⟨rfl, rfl, rfl⟩ := hcs
  exact ⟨_, _, _, x, rfl, hx⟩


/-- a slice of whole numbers -/
theorem trod_ints {H : Type} {enc : TypeId × Value → H} {P : Program} {w : World} {spare : Nat → Bool} {fuel t e : Nat} {k : IntKind} {cs : List Value} {x : DataW H × List MemPlace} (ht : P.underlying t = some (.slice e)) (he : P.underlying e = some (.int k)) (hC : P.cellsOf e = 1)
    (h : DataW.trod enc P w 0 spare true fuel t cs = some x) :
    ∃ (A : Option Addr) (len cap : Nat) (y : Nat → Int), cs = [.slice A len cap] ∧ Ints w k A len y ∧ (∀ j, j < len → (Lit.int k (y j)).wf = true) ∧ len ≤ cap ∧ cap ≤ maxLen := by
  rcases open_ints ht he hC h with ⟨rfl, _⟩ | ⟨a, len, cap, zs, rfl, hb, hl, hm, hz, hx, hc, hwf⟩
  · exact ⟨none, 0, 0, fun _ => 0, rfl, fun j hj => absurd hj (by omega), fun j hj => absurd hj (by omega), by omega, by unfold maxLen; omega⟩
  · have hml : len ≤ zs.length := by rw [hz]; split <;> omega
    refine ⟨some a, len, cap, fun j => zs.getD j 0, rfl, fun j hj => ⟨a, rfl, ?_, hc j (by omega)⟩, fun j hj => ?_, hl, hm⟩
    · have := World.block_lt_of_cell? _ _ (hc j (by omega))
      rwa [block_add] at this
    · refine hwf _ ?_
      simp [List.getD, List.getElem?_eq_getElem (show j < zs.length by omega)]

theorem open_bytes {H : Type} {enc : TypeId × Value → H} {w : World} {b0 : Nat} {v : Value} {d : DataW H} {ps : List MemPlace} (hv : Value.okWide Tryd.prog w .any b0 29 v)
    (h : DataW.Trod enc Tryd.prog w 0 (fun _ => true) true 29 v d ps) : ∃ (A : Option Addr) (len cap : Nat) (x : Nat → Int), v = .slice A len cap ∧ (Ints w .u8 A len x ∧ (∀ j, j < len → 0 ≤ x j ∧ x j < 256) ∧ len ≤ cap ∧ cap ≤ maxLen) := by
  obtain ⟨a, len, cap, rfl⟩ := okWide_slice Tryd.underlying29 hv
  obtain ⟨fuel, hf⟩ := h
  obtain ⟨A, len', cap', x, hcs, hx, hw, hl, hm⟩ := trod_ints Tryd.underlying29 Tryd.underlying5 (by kernel_rfl) hf
  simp [Value.cells] at hcs
  obtain ⟨rfl, rfl, rfl⟩ := hcs
  exact ⟨_, _, _, x, rfl, hx, fun j hj => ⟨(bounds_u8 (hw j hj)).1, by have := (bounds_u8 (hw j hj)).2; omega⟩, hl, hm⟩

end Go.Proofs.YtfjigoimjaemmaaDoor
