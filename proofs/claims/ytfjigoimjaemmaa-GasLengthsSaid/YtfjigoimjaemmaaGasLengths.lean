/- GasLengths: for any number of 64 bits, any byte, any word and any bool the call returns true: what a power, a copy, a hash, a log, a code and a creation of any length up to 2^32 cost is the reference's; what is handed in stays. No condition. -/
import Derived.Test.YtfjigoimjaemmaaOpen
import Derived.Test.YtfjigoimjaemmaaGas4W
namespace Go.Proofs.Ytfjigoimjaemmaa
open Go.ChangeShapes Go.WideShapes Go.ChangeAt Go.RowKit
set_option maxRecDepth 100000
set_option linter.unusedVariables false

theorem gasLengths_lifted (os : Os) (started : os.Started) (H : Type) (enc : TypeId × Value → H) :
    ReturnsInHanded {} Try.checked os 11 .any (Rows.gasLengthsSpec.pre6 enc Try.prog Try.f11 [] false) (Rows.gasLengthsSpec.post enc Try.prog Try.f11 false true false false) := by
  refine lawLift os started H enc _ _ _ (by kernel_rfl) Try.func11 rfl (by kernel_rfl) ?_ (by kernel_rfl)
    (ChangeSpec.witness6 (enc := enc) (C := Try.checked) false ⟨#[], #[.int .u64 0, .int .u8 0, wv (fn4 0 0 0 0), .bool false], []⟩ 8 (by kernel_rfl) (by kernel_rfl) (by kernel_rfl) (by kernel_rfl)) ?_
  · rw [Try.params11]
    intro ds hl
    match ds, hl with
    | [_, _, _, _], _ => rfl
  · intro W args ds ps ⟨⟨base, hval⟩, hA, hz⟩
    rw [Try.params11] at hA hval hz
    obtain ⟨v0, vs0, d0, ds0, p0, q0, hargs, rfl, rfl, h0, r0⟩ := trodAll_cons hA
    obtain ⟨v1, vs1, d1, ds1, p1, q1, rfl, rfl, rfl, h1, r1⟩ := trodAll_cons r0
    obtain ⟨v2, vs2, d2, ds2, p2, q2, rfl, rfl, rfl, h2, r2⟩ := trodAll_cons r1
    obtain ⟨v3, vs3, d3, ds3, p3, q3, rfl, rfl, rfl, h3, r3⟩ := trodAll_cons r2
    obtain ⟨rfl, rfl, rfl⟩ := trodAll_nil r3
    obtain rfl : args = #[v0, v1, v2, v3] := by cases args; simp_all
    obtain ⟨a0, rfl, rfl, rfl, w0⟩ := open_int Try.underlying22 (hval 0 _ v0 rfl rfl) h0
    have b0 := bounds_u64 w0
    obtain ⟨a1, rfl, rfl, rfl, w1⟩ := open_int Try.underlying5 (hval 1 _ v1 rfl rfl) h1
    have b1 := bounds_u8 w1
    obtain ⟨a2, rfl, w2⟩ := open_word (hval 2 _ v2 rfl rfl) h2
    obtain ⟨a3, rfl, rfl, rfl⟩ := open_bool Try.underlying4 (hval 3 _ v3 rfl rfl) h3
    exact gasLengths_any a0 a1 a2 a3 w2 b0.1 (by omega) b1.1 (by omega) W

theorem gasLengths_holds : Rows.GasLengthsSaid :=
  OpenClaim.holds_of_wide 11 Try.f11 rfl rfl rfl rfl rfl rfl rfl ⟨rfl, rfl, rfl, rfl, rfl⟩ rfl rfl rfl rfl rfl (by kernel_rfl) Try.func11 (by kernel_rfl)
    (of_decide_eq_true (by kernel_rfl)) (by unfold Func.isWrapper; rw [if_neg (of_decide_eq_false (by kernel_rfl))]; exact ⟨rfl, rfl⟩)
    (fun os started H enc _ => gasLengths_lifted os started H enc)
#print axioms gasLengths_holds
end Go.Proofs.Ytfjigoimjaemmaa
