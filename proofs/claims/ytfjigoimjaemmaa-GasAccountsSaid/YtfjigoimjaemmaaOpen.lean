/- Arguments that hold arrays of whole numbers, opened. -/
import Derived.Test.YtfjigoimjaemmaaBase
import Derived.Test.YtfjigoimjaemmaaFrame
namespace Go.Proofs.Ytfjigoimjaemmaa
open Go.ChangeShapes Go.WideShapes Go.ChangeAt Go.RowKit
set_option linter.unusedSimpArgs false
set_option linter.unusedVariables false
set_option maxRecDepth 100000

section
variable {H : Type} {enc : TypeId × Value → H} {P : Program} {w : World} {base : Nat} {spare : Nat → Bool} {held : Bool}

theorem trod_tab {t e n fuel : Nat} {k : IntKind} {cs : List Value} {x : DataW H × List MemPlace} (ht : P.underlying t = some (.array n e)) (he : P.underlying e = some (.int k)) (hce : P.cellsOf e = 1) (hct : P.cellsOf t = n)
    (h : DataW.trod enc P w base spare held fuel t cs = some x) : ∃ f : Nat → Int, cs = (tl n f).map (Value.int k) ∧ ∀ i, i < n → (Lit.int k (f i)).wf = true := by
  obtain ⟨xs, m, rfl, rfl, hlen, hxs, hat⟩ := DataW.trod_array ht h
  rw [hct] at hlen
  have hone : ∀ i, i < n → ∃ a, cs[i]? = some (.int k a) ∧ (Lit.int k a).wf = true := by
    intro i hi
    have h1 := hat i hi
    rw [hce, Nat.mul_one] at h1
    have hx : xs[i]? = some (xs[i]'(by omega)) := List.getElem?_eq_getElem (by omega)
    rw [hx] at h1
    obtain ⟨a, hc, _, hwf⟩ := DataW.trod_int he h1
    refine ⟨a, ?_, hwf⟩
    have h2 : cs.drop i = cs[i]'(by omega) :: cs.drop (i + 1) := List.drop_eq_getElem_cons (by omega)
    rw [h2] at hc
    rw [List.take_succ_cons] at hc
    have h3 : cs[i]'(by omega) = .int k a := (List.cons.inj hc).1
    rw [List.getElem?_eq_getElem (by omega), h3]
  refine ⟨fun i => match cs[i]? with | some (.int _ a) => a | _ => 0, ?_, ?_⟩
  · apply List.ext_getElem?
    intro i
    by_cases hi : i < n
    · obtain ⟨a, ha, _⟩ := hone i hi
      rw [ha, List.getElem?_map, tl_get n _ i hi, ha]; rfl
    · rw [List.getElem?_eq_none (by omega), List.getElem?_eq_none (by rw [List.length_map, tl_length]; omega)]
  · intro i hi
    obtain ⟨a, ha, hw⟩ := hone i hi
    simp only [ha]; exact hw

theorem open_tab {t e n : Nat} {k : IntKind} {r : Reach} {b0 : Nat} {v : Value} {d : DataW H} {ps : List MemPlace} (ht : P.underlying t = some (.array n e)) (he : P.underlying e = some (.int k)) (hce : P.cellsOf e = 1) (hct : P.cellsOf t = n)
    (hv : Value.okWide P w r b0 t v) (h : DataW.Trod enc P w base spare held t v d ps) : ∃ f : Nat → Int, v = .agg (tab n k f) ∧ ∀ i, i < n → (Lit.int k (f i)).wf = true := by
  have hv' : ∃ cs, v = Value.agg cs ∧ cs.size = P.cellsOf t := by
    unfold Value.okWide at hv
    rw [ht] at hv
    obtain ⟨cs, h1, h2, _⟩ := hv
    exact ⟨cs, h1, h2⟩
  obtain ⟨cs, rfl, hsz⟩ := hv'
  obtain ⟨fuel, hf⟩ := h
  obtain ⟨f, hcs, hw⟩ := trod_tab ht he hce hct hf
  exact ⟨f, by rw [tab_lit n k f cs hcs], hw⟩
end

theorem wf_u64 {a : Int} (h : (Lit.int .u64 a).wf = true) : 0 ≤ a ∧ a < 18446744073709551616 := ⟨(bounds_u64 h).1, by have := (bounds_u64 h).2; omega⟩
theorem open_word {H : Type} {enc : TypeId × Value → H} {w : World} {b0 : Nat} {v : Value} {d : DataW H} {ps : List MemPlace} (hv : Value.okWide Try.prog w .any b0 24 v)
    (h : DataW.Trod enc Try.prog w 0 (fun _ => true) true 24 v d ps) : ∃ f : Nat → Int, v = wv f ∧ ∀ i, i < 4 → 0 ≤ f i ∧ f i < 18446744073709551616 := by
  obtain ⟨f, h1, h2⟩ := open_tab Try.underlying24 Try.underlying22 (by kernel_rfl) (by kernel_rfl) hv h
  exact ⟨f, h1, fun i hi => wf_u64 (h2 i hi)⟩

end Go.Proofs.Ytfjigoimjaemmaa
