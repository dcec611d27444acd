/- MemBack: for any row of words and any number the call returns true: words that are pushed come off in the other order; doubled and taken off again, or changed twice, a stack is as it was; what is handed in stays. No condition. -/
import Derived.Test.YtfjigoimjaemmaaOpen
import Derived.Test.YtfjigoimjaemmaaOpW
import Derived.Test.YtfjigoimjaemmaaStk3W
namespace Go.Proofs.Ytfjigoimjaemmaa
open Go.ChangeShapes Go.WideShapes Go.ChangeAt Go.RowKit
set_option maxRecDepth 100000
set_option linter.unusedVariables false

theorem memBack_lifted (os : Os) (started : os.Started) (H : Type) (enc : TypeId × Value → H) :
    ReturnsInHanded {} Try.checked os 12 .any (Rows.memBackSpec.pre6 enc Try.prog Try.f12 [] false) (Rows.memBackSpec.post enc Try.prog Try.f12 false true false false) := by
  refine lawLift os started H enc _ _ _ (by kernel_rfl) Try.func12 rfl (by kernel_rfl) ?_ (by kernel_rfl)
    (ChangeSpec.witness6 (enc := enc) (C := Try.checked) false ⟨#[], #[.slice none 0 0, .int .i64 0], []⟩ 8 (by kernel_rfl) (by kernel_rfl) (by kernel_rfl) (by kernel_rfl)) ?_
  · rw [Try.params12]
    intro ds hl
    match ds, hl with
    | [_, _], _ => rfl
  · intro W args ds ps ⟨⟨base, hval⟩, hA, hz⟩
    rw [Try.params12] at hA hval hz
    obtain ⟨v0, vs0, d0, ds0, p0, q0, hargs, rfl, rfl, h0, r0⟩ := trodAll_cons hA
    obtain ⟨v1, vs1, d1, ds1, p1, q1, rfl, rfl, rfl, h1, r1⟩ := trodAll_cons r0
    obtain ⟨rfl, rfl, rfl⟩ := trodAll_nil r1
    obtain rfl : args = #[v0, v1] := by cases args; simp_all
    obtain ⟨a0, l0, c0, x0, rfl, w0⟩ := open_words (hval 0 _ v0 rfl rfl) h0
    obtain ⟨a1, rfl, rfl, rfl, w1⟩ := open_int Try.underlying3 (hval 1 _ v1 rfl rfl) h1
    have b1 := bounds_i64 w1
    exact memBack_all a0 l0 c0 x0 a1 W w0.1 (i64_of w1)

theorem memBack_holds : Rows.MemBackSaid :=
  OpenClaim.holds_of_wide 12 Try.f12 rfl rfl rfl rfl rfl rfl rfl ⟨rfl, rfl, rfl, rfl, rfl⟩ rfl rfl rfl rfl rfl (by kernel_rfl) Try.func12 (by kernel_rfl)
    (of_decide_eq_true (by kernel_rfl)) (by unfold Func.isWrapper; rw [if_neg (of_decide_eq_false (by kernel_rfl))]; exact ⟨rfl, rfl⟩)
    (fun os started H enc _ => memBack_lifted os started H enc)
#print axioms memBack_holds
end Go.Proofs.Ytfjigoimjaemmaa
