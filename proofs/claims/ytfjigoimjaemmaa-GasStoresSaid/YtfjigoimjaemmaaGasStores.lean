/- GasStores: for any first, present and next word of a slot and either temperature, the call returns true: the program's price and refund of a store are the reference's; what is handed in stays. No condition. -/
import Derived.Test.YtfjigoimjaemmaaOpen
import Derived.Test.YtfjigoimjaemmaaGasW
namespace Go.Proofs.Ytfjigoimjaemmaa
open Go.ChangeShapes Go.WideShapes Go.ChangeAt Go.RowKit
set_option maxRecDepth 100000

theorem gasStores_lifted (os : Os) (started : os.Started) (H : Type) (enc : TypeId × Value → H) :
    ReturnsInHanded {} Try.checked os 3 .any (Rows.gasStoresSpec.pre6 enc Try.prog Try.f3 [] false) (Rows.gasStoresSpec.post enc Try.prog Try.f3 false true false false) := by
  refine lawLift os started H enc _ _ _ (by kernel_rfl) Try.func3 rfl (by kernel_rfl) ?_ (by kernel_rfl)
    (ChangeSpec.witness6 (enc := enc) (C := Try.checked) false ⟨#[], #[wv (fn4 0 0 0 0), wv (fn4 0 0 0 0), wv (fn4 0 0 0 0), .bool false], []⟩ 8 (by kernel_rfl) (by kernel_rfl) (by kernel_rfl) (by kernel_rfl)) ?_
  · rw [Try.params3]
    intro ds hl
    match ds, hl with
    | [_, _, _, _], _ => rfl
  · intro W args ds ps ⟨⟨base, hval⟩, hA, hz⟩
    rw [Try.params3] at hA hval
    obtain ⟨v0, v1, v2, v3, d0, d1, d2, d3, p0, p1, p2, p3, ha, rfl, rfl, h0, h1, h2, h3⟩ := trodAll_four hA
    obtain rfl : args = #[v0, v1, v2, v3] := by cases args; simp_all
    obtain ⟨f, rfl, hf⟩ := open_word (hval 0 _ v0 rfl rfl) h0
    obtain ⟨n, rfl, hn⟩ := open_word (hval 1 _ v1 rfl rfl) h1
    obtain ⟨x, rfl, hx⟩ := open_word (hval 2 _ v2 rfl rfl) h2
    obtain ⟨c, rfl, rfl, rfl⟩ := open_bool Try.underlying4 (hval 3 _ v3 rfl rfl) h3
    exact gasStores_any f n x c W

theorem gasStores_holds : Rows.GasStoresSaid :=
  OpenClaim.holds_of_wide 3 Try.f3 rfl rfl rfl rfl rfl rfl rfl ⟨rfl, rfl, rfl, rfl, rfl⟩ rfl rfl rfl rfl rfl (by kernel_rfl) Try.func3 (by kernel_rfl)
    (of_decide_eq_true (by kernel_rfl)) (by unfold Func.isWrapper; rw [if_neg (of_decide_eq_false (by kernel_rfl))]; exact ⟨rfl, rfl⟩)
    (fun os started H enc _ => gasStores_lifted os started H enc)
#print axioms gasStores_holds
end Go.Proofs.Ytfjigoimjaemmaa
