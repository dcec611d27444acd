/- GasParts: for any three numbers of 64 bits the call returns true: all but a 64th, and what is refunded, is as the statement reckons it, and never more than all; what is handed in stays. No condition. -/
import Derived.Test.YtfjigoimjaemmaaOpen
import Derived.Test.YtfjigoimjaemmaaGas2W
namespace Go.Proofs.Ytfjigoimjaemmaa
open Go.ChangeShapes Go.WideShapes Go.ChangeAt Go.RowKit
set_option maxRecDepth 100000
set_option linter.unusedVariables false

theorem gasParts_lifted (os : Os) (started : os.Started) (H : Type) (enc : TypeId × Value → H) :
    ReturnsInHanded {} Try.checked os 5 .any (Rows.gasPartsSpec.pre6 enc Try.prog Try.f5 [] false) (Rows.gasPartsSpec.post enc Try.prog Try.f5 false true false false) := by
  refine lawLift os started H enc _ _ _ (by kernel_rfl) Try.func5 rfl (by kernel_rfl) ?_ (by kernel_rfl)
    (ChangeSpec.witness6 (enc := enc) (C := Try.checked) false ⟨#[], #[.int .u64 0, .int .u64 0, .int .u64 0], []⟩ 8 (by kernel_rfl) (by kernel_rfl) (by kernel_rfl) (by kernel_rfl)) ?_
  · rw [Try.params5]
    intro ds hl
    match ds, hl with
    | [_, _, _], _ => rfl
  · intro W args ds ps ⟨⟨base, hval⟩, hA, hz⟩
    rw [Try.params5] at hA hval hz
    obtain ⟨v0, vs0, d0, ds0, p0, q0, hargs, rfl, rfl, h0, r0⟩ := trodAll_cons hA
    obtain ⟨v1, vs1, d1, ds1, p1, q1, rfl, rfl, rfl, h1, r1⟩ := trodAll_cons r0
    obtain ⟨v2, vs2, d2, ds2, p2, q2, rfl, rfl, rfl, h2, r2⟩ := trodAll_cons r1
    obtain ⟨rfl, rfl, rfl⟩ := trodAll_nil r2
    obtain rfl : args = #[v0, v1, v2] := by cases args; simp_all
    obtain ⟨a0, rfl, rfl, rfl, w0⟩ := open_int Try.underlying22 (hval 0 _ v0 rfl rfl) h0
    have b0 := bounds_u64 w0
    obtain ⟨a1, rfl, rfl, rfl, w1⟩ := open_int Try.underlying22 (hval 1 _ v1 rfl rfl) h1
    have b1 := bounds_u64 w1
    obtain ⟨a2, rfl, rfl, rfl, w2⟩ := open_int Try.underlying22 (hval 2 _ v2 rfl rfl) h2
    have b2 := bounds_u64 w2
    exact gasParts_any a0 a1 a2 b0.1 (by omega) b1.1 (by omega) b2.1 W

theorem gasParts_holds : Rows.GasPartsSaid :=
  OpenClaim.holds_of_wide 5 Try.f5 rfl rfl rfl rfl rfl rfl rfl ⟨rfl, rfl, rfl, rfl, rfl⟩ rfl rfl rfl rfl rfl (by kernel_rfl) Try.func5 (by kernel_rfl)
    (of_decide_eq_true (by kernel_rfl)) (by unfold Func.isWrapper; rw [if_neg (of_decide_eq_false (by kernel_rfl))]; exact ⟨rfl, rfl⟩)
    (fun os started H enc _ => gasParts_lifted os started H enc)
#print axioms gasParts_holds
end Go.Proofs.Ytfjigoimjaemmaa
