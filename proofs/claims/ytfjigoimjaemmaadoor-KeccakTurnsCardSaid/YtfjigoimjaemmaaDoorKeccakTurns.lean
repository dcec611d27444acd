/- KeccakTurns: for any 25 numbers of 64 bits the call returns true: a state behind 24 rounds is the reference's; what is handed in stays. The row lists the three tables of the rounds as the program lays them; the card ties them to its text. -/
import Derived.Test.YtfjigoimjaemmaaDoorOpen
import Derived.Test.YtfjigoimjaemmaaDoorFrameD
import Derived.Test.YtfjigoimjaemmaaDoorKecLW
namespace Go.Proofs.YtfjigoimjaemmaaDoor
open Go.ChangeShapes Go.WideShapes Go.ChangeAt Go.RowKit
set_option maxRecDepth 100000
set_option linter.unusedVariables false

theorem keccakTurns_lifted (os : Os) (started : os.Started) (H : Type) (enc : TypeId × Value → H) :
    ReturnsInHanded {} Tryd.checked os 3 .any (fun w args => (Rows.keccakTurnsSpec.pre enc Tryd.prog Tryd.f3 [] false w args ∧ laidMetH Tryd.prog laidL w) ∧ sizedMet enc Tryd.prog Tryd.f3 (OpenSpec.ofChange Rows.keccakTurnsSpec) false w args) (Rows.keccakTurnsSpec.post enc Tryd.prog Tryd.f3 false true false false) := by
  refine lawLiftD os started H enc _ _ _ (by kernel_rfl) Tryd.func3 rfl (by kernel_rfl) ?_ (by kernel_rfl)
    (ChangeSpec.witness_shaped (enc := enc) (C := Tryd.checked) (os := os) (X := fun w _ => laidMetH Tryd.prog laidL w) false (World.laidAll Tryd.prog os laidL) #[.agg (tab 25 .u64 zf)] 8 (World.laidAll_os _ _ _) (startD_shaped os #[.agg (tab 25 .u64 zf)]) (by kernel_rfl) (by kernel_rfl) (by kernel_rfl) (laid_met os #[.agg (tab 25 .u64 zf)])) ?_
  · rw [Tryd.params3]
    intro ds hl
    match ds, hl with
    | [_], _ => rfl
  · intro W args ds ps hK ⟨⟨base, hval⟩, hA, hz⟩
    rw [Tryd.params3] at hA hval hz
    obtain ⟨v0, vs0, d0, ds0, p0, q0, hargs, rfl, rfl, h0, r0⟩ := trodAll_cons hA
    obtain ⟨rfl, rfl, rfl⟩ := trodAll_nil r0
    obtain rfl : args = #[v0] := by cases args; simp_all
    obtain ⟨a0, rfl, w0⟩ := open_tab Tryd.underlying23 Tryd.underlying22 (by kernel_rfl) (by kernel_rfl) (hval 0 _ v0 rfl rfl) h0
    exact keccakTurns_any a0 W hK

theorem keccakTurns_holds : Rows.KeccakTurnsSaid :=
  OpenClaim.holds_of_wide 3 Tryd.f3 rfl rfl rfl rfl rfl rfl rfl ⟨rfl, rfl, rfl, rfl, rfl⟩ rfl rfl rfl rfl rfl (by kernel_rfl) Tryd.func3 (by kernel_rfl)
    (of_decide_eq_true (by kernel_rfl)) (by unfold Func.isWrapper; rw [if_neg (of_decide_eq_false (by kernel_rfl))]; exact ⟨rfl, rfl⟩)
    (fun os started H enc _ => keccakTurns_lifted os started H enc)
theorem keccakTurns_card : Rows.KeccakTurnsCardSaid :=
  Claim7.holds_tied_plain_at .later [] [.data, .data, .data] true (true, "bdc735e2525b65e17b143e51a30d9aab18d5eaaded612001e64f3fbe40ce246d") false
    keccakTurns_holds (fun _ h => by cases h) (by kernel_rfl) (fun _ h => by cases h) keccakTurns_row_tie rfl ⟨rfl, rfl⟩ (by kernel_rfl) rfl
    (fun f fn hf hfn => by
      obtain rfl : f = 3 := Option.some.inj ((show Tryd.prog.funcNamed "smithy/smithylaw05.KeccakTurns" = some 3 by kernel_rfl).symm.trans hf) |>.symm
      obtain rfl : fn = Tryd.f3 := (Option.some.inj (Tryd.func3.symm.trans hfn)).symm
      exact ⟨by kernel_rfl, fun j t ht => by
        rw [Tryd.params3] at ht
        have hw : ∀ t ∈ #[23], Tryd.prog.wantsStandIn t = false := by decide +kernel
        exact hw t (Array.mem_of_getElem? ht)⟩)
    (by kernel_rfl)
#print axioms keccakTurns_card
end Go.Proofs.YtfjigoimjaemmaaDoor
