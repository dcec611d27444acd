/- MemStacks: for any number of 16 bits and any row of operations the call returns true: any row of calls of a stack is answered, and leaves its words, as the reference says; what is handed in stays. No condition. -/
import Derived.Test.YtfjigoimjaemmaaOpen
import Derived.Test.YtfjigoimjaemmaaStk5W
namespace Go.Proofs.Ytfjigoimjaemmaa
open Go.ChangeShapes Go.WideShapes Go.ChangeAt Go.RowKit
set_option maxRecDepth 100000
set_option linter.unusedVariables false

theorem memStacks_lifted (os : Os) (started : os.Started) (H : Type) (enc : TypeId × Value → H) :
    ReturnsInHanded {} Try.checked os 14 .any (Rows.memStacksSpec.pre6 enc Try.prog Try.f14 [] false) (Rows.memStacksSpec.post enc Try.prog Try.f14 false true false false) := by
  refine lawLift os started H enc _ _ _ (by kernel_rfl) Try.func14 rfl (by kernel_rfl) ?_ (by kernel_rfl)
    (ChangeSpec.witness6 (enc := enc) (C := Try.checked) false ⟨#[], #[.int .u16 0, .slice none 0 0], []⟩ 8 (by kernel_rfl) (by kernel_rfl) (by kernel_rfl) (by kernel_rfl)) ?_
  · rw [Try.params14]
    intro ds hl
    match ds, hl with
    | [_, _], _ => rfl
  · intro W args ds ps ⟨⟨base, hval⟩, hA, hz⟩
    rw [Try.params14] at hA hval hz
    obtain ⟨v0, vs0, d0, ds0, p0, q0, hargs, rfl, rfl, h0, r0⟩ := trodAll_cons hA
    obtain ⟨v1, vs1, d1, ds1, p1, q1, rfl, rfl, rfl, h1, r1⟩ := trodAll_cons r0
    obtain ⟨rfl, rfl, rfl⟩ := trodAll_nil r1
    obtain rfl : args = #[v0, v1] := by cases args; simp_all
    obtain ⟨a0, rfl, rfl, rfl, w0⟩ := open_int Try.underlying76 (hval 0 _ v0 rfl rfl) h0
    have b0 := bounds_u16 w0
    obtain ⟨a1, l1, c1, x1, rfl, w1⟩ := open_ops (hval 1 _ v1 rfl rfl) h1
    exact memStacks_all a0 b0.1 (by omega) a1 l1 c1 x1 W w1.1

theorem memStacks_holds : Rows.MemStacksSaid :=
  OpenClaim.holds_of_wide 14 Try.f14 rfl rfl rfl rfl rfl rfl rfl ⟨rfl, rfl, rfl, rfl, rfl⟩ rfl rfl rfl rfl rfl (by kernel_rfl) Try.func14 (by kernel_rfl)
    (of_decide_eq_true (by kernel_rfl)) (by unfold Func.isWrapper; rw [if_neg (of_decide_eq_false (by kernel_rfl))]; exact ⟨rfl, rfl⟩)
    (fun os started H enc _ => memStacks_lifted os started H enc)
#print axioms memStacks_holds
end Go.Proofs.Ytfjigoimjaemmaa
