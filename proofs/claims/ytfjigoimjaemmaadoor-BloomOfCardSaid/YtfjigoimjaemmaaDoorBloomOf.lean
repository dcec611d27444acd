/- BloomOf: for any logs the call returns true: the filter of them has just the bits that the document says, as many as are counted; each address and topic of theirs is in it. The row lists the three tables of the rounds as the program lays them; the card ties them to its text. -/
import Derived.Test.YtfjigoimjaemmaaDoorOpen
import Derived.Test.YtfjigoimjaemmaaDoorFrameD
import Derived.Test.YtfjigoimjaemmaaDoorCellsW
import Derived.Test.YtfjigoimjaemmaaDoorLogW
import Derived.Test.YtfjigoimjaemmaaDoorBlm11W
namespace Go.Proofs.YtfjigoimjaemmaaDoor
open Go.ChangeShapes Go.WideShapes Go.ChangeAt Go.RowKit
set_option maxRecDepth 100000
set_option linter.unusedVariables false

theorem bloomOf_lifted (os : Os) (started : os.Started) (H : Type) (enc : TypeId × Value → H) :
    ReturnsInHanded {} Tryd.checked os 9 .any (fun w args => (Rows.bloomOfSpec.pre enc Tryd.prog Tryd.f9 [] false w args ∧ laidMetH Tryd.prog laidL w) ∧ sizedMet enc Tryd.prog Tryd.f9 (OpenSpec.ofChange Rows.bloomOfSpec) false w args) (Rows.bloomOfSpec.post enc Tryd.prog Tryd.f9 false true false false) := by
  refine lawLiftD os started H enc _ _ _ (by kernel_rfl) Tryd.func9 rfl (by kernel_rfl) ?_ (by kernel_rfl)
    (ChangeSpec.witness_shaped (enc := enc) (C := Tryd.checked) (os := os) (X := fun w _ => laidMetH Tryd.prog laidL w) false (World.laidAll Tryd.prog os laidL) #[.slice none 0 0] 8 (World.laidAll_os _ _ _) (startD_shaped os #[.slice none 0 0]) (by kernel_rfl) (by kernel_rfl) (by kernel_rfl) (laid_met os #[.slice none 0 0])) ?_
  · rw [Tryd.params9]
    intro ds hl
    match ds, hl with
    | [_], _ => rfl
  · intro W args ds ps hK ⟨⟨base, hval⟩, hA, hz⟩
    rw [Tryd.params9] at hA hval hz
    obtain ⟨v0, vs0, d0, ds0, p0, q0, hargs, rfl, rfl, h0, r0⟩ := trodAll_cons hA
    obtain ⟨rfl, rfl, rfl⟩ := trodAll_nil r0
    obtain rfl : args = #[v0] := by cases args; simp_all
    obtain ⟨a0, l0, c0, x0, rfl, w0⟩ := open_logs (hval 0 _ v0 rfl rfl) h0
    exact bloomOf_any a0 l0 c0 x0 W hK w0.1

theorem bloomOf_holds : Rows.BloomOfSaid :=
  OpenClaim.holds_of_wide 9 Tryd.f9 rfl rfl rfl rfl rfl rfl rfl ⟨rfl, rfl, rfl, rfl, rfl⟩ rfl rfl rfl rfl rfl (by kernel_rfl) Tryd.func9 (by kernel_rfl)
    (of_decide_eq_true (by kernel_rfl)) (by unfold Func.isWrapper; rw [if_neg (of_decide_eq_false (by kernel_rfl))]; exact ⟨rfl, rfl⟩)
    (fun os started H enc _ => bloomOf_lifted os started H enc)
theorem bloomOf_card : Rows.BloomOfCardSaid :=
  Claim7.holds_tied_plain_at .later [] [.data, .data, .data] true (true, "bdc735e2525b65e17b143e51a30d9aab18d5eaaded612001e64f3fbe40ce246d") false
    bloomOf_holds (fun _ h => by cases h) (by kernel_rfl) (fun _ h => by cases h) bloomOf_row_tie rfl ⟨rfl, rfl⟩ (by kernel_rfl) rfl
    (fun f fn hf hfn => by
      obtain rfl : f = 9 := Option.some.inj ((show Tryd.prog.funcNamed "smithy/smithylaw29.BloomOf" = some 9 by kernel_rfl).symm.trans hf) |>.symm
      obtain rfl : fn = Tryd.f9 := (Option.some.inj (Tryd.func9.symm.trans hfn)).symm
      exact ⟨by kernel_rfl, fun j t ht => by
        rw [Tryd.params9] at ht
        have hw : ∀ t ∈ #[50], Tryd.prog.wantsStandIn t = false := by decide +kernel
        exact hw t (Array.mem_of_getElem? ht)⟩)
    (by kernel_rfl)
#print axioms bloomOf_card
end Go.Proofs.YtfjigoimjaemmaaDoor
