/- BloomHas: for any filter and any bytes the call returns true: the bytes are in the filter just if all their bits are set; added, they are, and nothing else is set; what is handed in stays. The row lists the three tables of the rounds as the program lays them; the card ties them to its text. -/
import Derived.Test.YtfjigoimjaemmaaDoorOpen
import Derived.Test.YtfjigoimjaemmaaDoorFrameD
import Derived.Test.YtfjigoimjaemmaaDoorCellsW
import Derived.Test.YtfjigoimjaemmaaDoorBlm6W
namespace Go.Proofs.YtfjigoimjaemmaaDoor
open Go.ChangeShapes Go.WideShapes Go.ChangeAt Go.RowKit
set_option maxRecDepth 100000
set_option linter.unusedVariables false

theorem bloomHas_lifted (os : Os) (started : os.Started) (H : Type) (enc : TypeId × Value → H) :
    ReturnsInHanded {} Tryd.checked os 10 .any (fun w args => (Rows.bloomHasSpec.pre enc Tryd.prog Tryd.f10 [] false w args ∧ laidMetH Tryd.prog laidL w) ∧ sizedMet enc Tryd.prog Tryd.f10 (OpenSpec.ofChange Rows.bloomHasSpec) false w args) (Rows.bloomHasSpec.post enc Tryd.prog Tryd.f10 false true false false) := by
  refine lawLiftD os started H enc _ _ _ (by kernel_rfl) Tryd.func10 rfl (by kernel_rfl) ?_ (by kernel_rfl)
    (ChangeSpec.witness_shaped (enc := enc) (C := Tryd.checked) (os := os) (X := fun w _ => laidMetH Tryd.prog laidL w) false (World.laidAll Tryd.prog os laidL) #[.agg (tab 256 .u8 zf), .slice none 0 0] 8 (World.laidAll_os _ _ _) (startD_shaped os #[.agg (tab 256 .u8 zf), .slice none 0 0]) (by kernel_rfl) (by kernel_rfl) (by kernel_rfl) (laid_met os #[.agg (tab 256 .u8 zf), .slice none 0 0])) ?_
  · rw [Tryd.params10]
    intro ds hl
    match ds, hl with
    | [_, _], _ => rfl
  · intro W args ds ps hK ⟨⟨base, hval⟩, hA, hz⟩
    rw [Tryd.params10] at hA hval hz
    obtain ⟨v0, vs0, d0, ds0, p0, q0, hargs, rfl, rfl, h0, r0⟩ := trodAll_cons hA
    obtain ⟨v1, vs1, d1, ds1, p1, q1, rfl, rfl, rfl, h1, r1⟩ := trodAll_cons r0
    obtain ⟨rfl, rfl, rfl⟩ := trodAll_nil r1
    obtain rfl : args = #[v0, v1] := by cases args; simp_all
    obtain ⟨a0, rfl, w0⟩ := open_tab Tryd.underlying52 Tryd.underlying5 (by kernel_rfl) (by kernel_rfl) (hval 0 _ v0 rfl rfl) h0
    obtain ⟨a1, l1, c1, x1, rfl, w1⟩ := open_bytes (hval 1 _ v1 rfl rfl) h1
    exact bloomHas_any a0 (fun j hj => u8_of (w0 j hj)) a1 l1 c1 x1 W hK w1.1 w1.2.2.1 w1.2.2.2 w1.2.1

theorem bloomHas_holds : Rows.BloomHasSaid :=
  OpenClaim.holds_of_wide 10 Tryd.f10 rfl rfl rfl rfl rfl rfl rfl ⟨rfl, rfl, rfl, rfl, rfl⟩ rfl rfl rfl rfl rfl (by kernel_rfl) Tryd.func10 (by kernel_rfl)
    (of_decide_eq_true (by kernel_rfl)) (by unfold Func.isWrapper; rw [if_neg (of_decide_eq_false (by kernel_rfl))]; exact ⟨rfl, rfl⟩)
    (fun os started H enc _ => bloomHas_lifted os started H enc)
theorem bloomHas_card : Rows.BloomHasCardSaid :=
  Claim7.holds_tied_plain_at .later [] [.data, .data, .data] true (true, "bdc735e2525b65e17b143e51a30d9aab18d5eaaded612001e64f3fbe40ce246d") false
    bloomHas_holds (fun _ h => by cases h) (by kernel_rfl) (fun _ h => by cases h) bloomHas_row_tie rfl ⟨rfl, rfl⟩ (by kernel_rfl) rfl
    (fun f fn hf hfn => by
      obtain rfl : f = 10 := Option.some.inj ((show Tryd.prog.funcNamed "smithy/smithylaw29.BloomHas" = some 10 by kernel_rfl).symm.trans hf) |>.symm
      obtain rfl : fn = Tryd.f10 := (Option.some.inj (Tryd.func10.symm.trans hfn)).symm
      exact ⟨by kernel_rfl, fun j t ht => by
        rw [Tryd.params10] at ht
        have hw : ∀ t ∈ #[52, 29], Tryd.prog.wantsStandIn t = false := by decide +kernel
        exact hw t (Array.mem_of_getElem? ht)⟩)
    (by kernel_rfl)
#print axioms bloomHas_card
end Go.Proofs.YtfjigoimjaemmaaDoor
