/- MemFar: for any two words the call returns true: what reaches beyond the greatest length is refused, and leaves the memory as it was; what is handed in stays. No condition. -/
import Derived.Test.YtfjigoimjaemmaaOpen
import Derived.Test.YtfjigoimjaemmaaMem4W
namespace Go.Proofs.Ytfjigoimjaemmaa
open Go.ChangeShapes Go.WideShapes Go.ChangeAt Go.RowKit
set_option maxRecDepth 100000
set_option linter.unusedVariables false

theorem memFar_lifted (os : Os) (started : os.Started) (H : Type) (enc : TypeId × Value → H) :
    ReturnsInHanded {} Try.checked os 9 .any (Rows.memFarSpec.pre6 enc Try.prog Try.f9 [] false) (Rows.memFarSpec.post enc Try.prog Try.f9 false true false false) := by
  refine lawLift os started H enc _ _ _ (by kernel_rfl) Try.func9 rfl (by kernel_rfl) ?_ (by kernel_rfl)
    (ChangeSpec.witness6 (enc := enc) (C := Try.checked) false ⟨#[], #[wv (fn4 0 0 0 0), wv (fn4 0 0 0 0)], []⟩ 8 (by kernel_rfl) (by kernel_rfl) (by kernel_rfl) (by kernel_rfl)) ?_
  · rw [Try.params9]
    intro ds hl
    match ds, hl with
    | [_, _], _ => rfl
  · intro W args ds ps ⟨⟨base, hval⟩, hA, hz⟩
    rw [Try.params9] at hA hval hz
    obtain ⟨v0, vs0, d0, ds0, p0, q0, hargs, rfl, rfl, h0, r0⟩ := trodAll_cons hA
    obtain ⟨v1, vs1, d1, ds1, p1, q1, rfl, rfl, rfl, h1, r1⟩ := trodAll_cons r0
    obtain ⟨rfl, rfl, rfl⟩ := trodAll_nil r1
    obtain rfl : args = #[v0, v1] := by cases args; simp_all
    obtain ⟨a0, rfl, w0⟩ := open_word (hval 0 _ v0 rfl rfl) h0
    obtain ⟨a1, rfl, w1⟩ := open_word (hval 1 _ v1 rfl rfl) h1
    exact memFar_any a0 a1 ⟨w0 0 (by omega), w0 1 (by omega), w0 2 (by omega), w0 3 (by omega)⟩ ⟨w1 0 (by omega), w1 1 (by omega), w1 2 (by omega), w1 3 (by omega)⟩ W

theorem memFar_holds : Rows.MemFarSaid :=
  OpenClaim.holds_of_wide 9 Try.f9 rfl rfl rfl rfl rfl rfl rfl ⟨rfl, rfl, rfl, rfl, rfl⟩ rfl rfl rfl rfl rfl (by kernel_rfl) Try.func9 (by kernel_rfl)
    (of_decide_eq_true (by kernel_rfl)) (by unfold Func.isWrapper; rw [if_neg (of_decide_eq_false (by kernel_rfl))]; exact ⟨rfl, rfl⟩)
    (fun os started H enc _ => memFar_lifted os started H enc)
#print axioms memFar_holds
end Go.Proofs.Ytfjigoimjaemmaa
