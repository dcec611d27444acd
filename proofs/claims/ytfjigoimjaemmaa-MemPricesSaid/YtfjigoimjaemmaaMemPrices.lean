/- MemPrices: for any number of 64 bits the call returns true: how many words any length is, and what any number of words costs, is the reference's, or the bound's; what is handed in stays. No condition. -/
import Derived.Test.YtfjigoimjaemmaaOpen
import Derived.Test.YtfjigoimjaemmaaMem2W
namespace Go.Proofs.Ytfjigoimjaemmaa
open Go.ChangeShapes Go.WideShapes Go.ChangeAt Go.RowKit
set_option maxRecDepth 100000
set_option linter.unusedVariables false

theorem memPrices_lifted (os : Os) (started : os.Started) (H : Type) (enc : TypeId × Value → H) :
    ReturnsInHanded {} Try.checked os 8 .any (Rows.memPricesSpec.pre6 enc Try.prog Try.f8 [] false) (Rows.memPricesSpec.post enc Try.prog Try.f8 false true false false) := by
  refine lawLift os started H enc _ _ _ (by kernel_rfl) Try.func8 rfl (by kernel_rfl) ?_ (by kernel_rfl)
    (ChangeSpec.witness6 (enc := enc) (C := Try.checked) false ⟨#[], #[.int .u64 0], []⟩ 8 (by kernel_rfl) (by kernel_rfl) (by kernel_rfl) (by kernel_rfl)) ?_
  · rw [Try.params8]
    intro ds hl
    match ds, hl with
    | [_], _ => rfl
  · intro W args ds ps ⟨⟨base, hval⟩, hA, hz⟩
    rw [Try.params8] at hA hval hz
    obtain ⟨v0, vs0, d0, ds0, p0, q0, hargs, rfl, rfl, h0, r0⟩ := trodAll_cons hA
    obtain ⟨rfl, rfl, rfl⟩ := trodAll_nil r0
    obtain rfl : args = #[v0] := by cases args; simp_all
    obtain ⟨a0, rfl, rfl, rfl, w0⟩ := open_int Try.underlying22 (hval 0 _ v0 rfl rfl) h0
    have b0 := bounds_u64 w0
    exact memPrices_any a0 b0.1 (by omega) W

theorem memPrices_holds : Rows.MemPricesSaid :=
  OpenClaim.holds_of_wide 8 Try.f8 rfl rfl rfl rfl rfl rfl rfl ⟨rfl, rfl, rfl, rfl, rfl⟩ rfl rfl rfl rfl rfl (by kernel_rfl) Try.func8 (by kernel_rfl)
    (of_decide_eq_true (by kernel_rfl)) (by unfold Func.isWrapper; rw [if_neg (of_decide_eq_false (by kernel_rfl))]; exact ⟨rfl, rfl⟩)
    (fun os started H enc _ => memPrices_lifted os started H enc)
#print axioms memPrices_holds
end Go.Proofs.Ytfjigoimjaemmaa
