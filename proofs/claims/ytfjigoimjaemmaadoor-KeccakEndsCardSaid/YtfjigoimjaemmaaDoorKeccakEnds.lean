/- KeccakEnds: for any two numbers of 8 bits the call returns true: the hash at each length about a multiple of 136 is the reference's; what is handed in stays. The row lists the three tables of the rounds as the program lays them; the card ties them to its text. -/
import Derived.Test.YtfjigoimjaemmaaDoorOpen
import Derived.Test.YtfjigoimjaemmaaDoorFrameD
import Derived.Test.YtfjigoimjaemmaaDoorKecEW
namespace Go.Proofs.YtfjigoimjaemmaaDoor
open Go.ChangeShapes Go.WideShapes Go.ChangeAt Go.RowKit
set_option maxRecDepth 100000
set_option linter.unusedVariables false

theorem keccakEnds_lifted (os : Os) (started : os.Started) (H : Type) (enc : TypeId × Value → H) :
    ReturnsInHanded {} Tryd.checked os 5 .any (fun w args => (Rows.keccakEndsSpec.pre enc Tryd.prog Tryd.f5 [] false w args ∧ laidMetH Tryd.prog laidL w) ∧ sizedMet enc Tryd.prog Tryd.f5 (OpenSpec.ofChange Rows.keccakEndsSpec) false w args) (Rows.keccakEndsSpec.post enc Tryd.prog Tryd.f5 false true false false) := by
  refine lawLiftD os started H enc _ _ _ (by kernel_rfl) Tryd.func5 rfl (by kernel_rfl) ?_ (by kernel_rfl)
    (ChangeSpec.witness_shaped (enc := enc) (C := Tryd.checked) (os := os) (X := fun w _ => laidMetH Tryd.prog laidL w) false (World.laidAll Tryd.prog os laidL) #[.int .u8 0, .int .u8 0] 8 (World.laidAll_os _ _ _) (startD_shaped os #[.int .u8 0, .int .u8 0]) (by kernel_rfl) (by kernel_rfl) (by kernel_rfl) (laid_met os #[.int .u8 0, .int .u8 0])) ?_
  · rw [Tryd.params5]
    intro ds hl
    match ds, hl with
    | [_, _], _ => rfl
  · intro W args ds ps hK ⟨⟨base, hval⟩, hA, hz⟩
    rw [Tryd.params5] at hA hval hz
    obtain ⟨v0, vs0, d0, ds0, p0, q0, hargs, rfl, rfl, h0, r0⟩ := trodAll_cons hA
    obtain ⟨v1, vs1, d1, ds1, p1, q1, rfl, rfl, rfl, h1, r1⟩ := trodAll_cons r0
    obtain ⟨rfl, rfl, rfl⟩ := trodAll_nil r1
    obtain rfl : args = #[v0, v1] := by cases args; simp_all
    obtain ⟨a0, rfl, rfl, rfl, w0⟩ := open_int Tryd.underlying5 (hval 0 _ v0 rfl rfl) h0
    have b0 := bounds_u8 w0
    obtain ⟨a1, rfl, rfl, rfl, w1⟩ := open_int Tryd.underlying5 (hval 1 _ v1 rfl rfl) h1
    have b1 := bounds_u8 w1
    exact keccakEnds_any a0 a1 b0.1 (by omega) b1.1 (by omega) W hK

theorem keccakEnds_holds : Rows.KeccakEndsSaid :=
  OpenClaim.holds_of_wide 5 Tryd.f5 rfl rfl rfl rfl rfl rfl rfl ⟨rfl, rfl, rfl, rfl, rfl⟩ rfl rfl rfl rfl rfl (by kernel_rfl) Tryd.func5 (by kernel_rfl)
    (of_decide_eq_true (by kernel_rfl)) (by unfold Func.isWrapper; rw [if_neg (of_decide_eq_false (by kernel_rfl))]; exact ⟨rfl, rfl⟩)
    (fun os started H enc _ => keccakEnds_lifted os started H enc)
theorem keccakEnds_card : Rows.KeccakEndsCardSaid :=
  Claim7.holds_tied_plain_at .later [] [.data, .data, .data] true (true, "bdc735e2525b65e17b143e51a30d9aab18d5eaaded612001e64f3fbe40ce246d") false
    keccakEnds_holds (fun _ h => by cases h) (by kernel_rfl) (fun _ h => by cases h) keccakEnds_row_tie rfl ⟨rfl, rfl⟩ (by kernel_rfl) rfl
    (fun f fn hf hfn => by
      obtain rfl : f = 5 := Option.some.inj ((show Tryd.prog.funcNamed "smithy/smithylaw05.KeccakEnds" = some 5 by kernel_rfl).symm.trans hf) |>.symm
      obtain rfl : fn = Tryd.f5 := (Option.some.inj (Tryd.func5.symm.trans hfn)).symm
      exact ⟨by kernel_rfl, fun j t ht => by
        rw [Tryd.params5] at ht
        have hw : ∀ t ∈ #[5, 5], Tryd.prog.wantsStandIn t = false := by decide +kernel
        exact hw t (Array.mem_of_getElem? ht)⟩)
    (by kernel_rfl)
#print axioms keccakEnds_card
end Go.Proofs.YtfjigoimjaemmaaDoor
