/- GasNever: for any first word and any row of words the call returns true: what a row of up to 500 stores refunds is never below 0, and less than it costs where the slot ends as it began; what is handed in stays. No condition. -/
import Derived.Test.YtfjigoimjaemmaaOpen
import Derived.Test.YtfjigoimjaemmaaGasNeverW
namespace Go.Proofs.Ytfjigoimjaemmaa
open Go.ChangeShapes Go.WideShapes Go.ChangeAt Go.RowKit
set_option maxRecDepth 100000
set_option linter.unusedVariables false

theorem gasNever_lifted (os : Os) (started : os.Started) (H : Type) (enc : TypeId × Value → H) :
    ReturnsInHanded {} Try.checked os 4 .any (Rows.gasNeverSpec.pre6 enc Try.prog Try.f4 [] false) (Rows.gasNeverSpec.post enc Try.prog Try.f4 false true false false) := by
  refine lawLift os started H enc _ _ _ (by kernel_rfl) Try.func4 rfl (by kernel_rfl) ?_ (by kernel_rfl)
    (ChangeSpec.witness6 (enc := enc) (C := Try.checked) false ⟨#[], #[wv (fn4 0 0 0 0), .slice none 0 0], []⟩ 8 (by kernel_rfl) (by kernel_rfl) (by kernel_rfl) (by kernel_rfl)) ?_
  · rw [Try.params4]
    intro ds hl
    match ds, hl with
    | [_, _], _ => rfl
  · intro W args ds ps ⟨⟨base, hval⟩, hA, hz⟩
    rw [Try.params4] at hA hval hz
    obtain ⟨v0, vs0, d0, ds0, p0, q0, hargs, rfl, rfl, h0, r0⟩ := trodAll_cons hA
    obtain ⟨v1, vs1, d1, ds1, p1, q1, rfl, rfl, rfl, h1, r1⟩ := trodAll_cons r0
    obtain ⟨rfl, rfl, rfl⟩ := trodAll_nil r1
    obtain rfl : args = #[v0, v1] := by cases args; simp_all
    obtain ⟨a0, rfl, w0⟩ := open_word (hval 0 _ v0 rfl rfl) h0
    obtain ⟨a1, l1, c1, x1, rfl, w1⟩ := open_words (hval 1 _ v1 rfl rfl) h1
    exact gasNever_all a0 x1 a1 l1 c1 W w1.1

theorem gasNever_holds : Rows.GasNeverSaid :=
  OpenClaim.holds_of_wide 4 Try.f4 rfl rfl rfl rfl rfl rfl rfl ⟨rfl, rfl, rfl, rfl, rfl⟩ rfl rfl rfl rfl rfl (by kernel_rfl) Try.func4 (by kernel_rfl)
    (of_decide_eq_true (by kernel_rfl)) (by unfold Func.isWrapper; rw [if_neg (of_decide_eq_false (by kernel_rfl))]; exact ⟨rfl, rfl⟩)
    (fun os started H enc _ => gasNever_lifted os started H enc)
#print axioms gasNever_holds
end Go.Proofs.Ytfjigoimjaemmaa
