/- BloomFinds: for any sealed blocks, any address and any topics the call returns true: the logs that are found are the document's; what is handed in stays, and what is answered is nobody else's. The row lists the three tables of the rounds as the program lays them; the card ties them to its text. -/
import Derived.Test.YtfjigoimjaemmaaDoorOpen
import Derived.Test.YtfjigoimjaemmaaDoorFrameD
import Derived.Test.YtfjigoimjaemmaaDoorSealW
import Derived.Test.YtfjigoimjaemmaaDoorFind9W
namespace Go.Proofs.YtfjigoimjaemmaaDoor
open Go.ChangeShapes Go.WideShapes Go.ChangeAt Go.RowKit
set_option maxRecDepth 100000
set_option linter.unusedVariables false

theorem bloomFinds_lifted (os : Os) (started : os.Started) (H : Type) (enc : TypeId × Value → H) :
    ReturnsInHanded {} Tryd.checked os 11 .any (fun w args => (Rows.bloomFindsSpec.pre enc Tryd.prog Tryd.f11 [] false w args ∧ laidMetH Tryd.prog laidL w) ∧ sizedMet enc Tryd.prog Tryd.f11 (OpenSpec.ofChange Rows.bloomFindsSpec) false w args) (Rows.bloomFindsSpec.post enc Tryd.prog Tryd.f11 false true false false) := by
  refine lawLiftD os started H enc _ _ _ (by kernel_rfl) Tryd.func11 rfl (by kernel_rfl) ?_ (by kernel_rfl)
    (ChangeSpec.witness_shaped (enc := enc) (C := Tryd.checked) (os := os) (X := fun w _ => laidMetH Tryd.prog laidL w) false (World.laidAll Tryd.prog os laidL) #[.slice none 0 0, .agg (tab 20 .u8 zf), .slice none 0 0] 8 (World.laidAll_os _ _ _) (startD_shaped os #[.slice none 0 0, .agg (tab 20 .u8 zf), .slice none 0 0]) (by kernel_rfl) (by kernel_rfl) (by kernel_rfl) (laid_met os #[.slice none 0 0, .agg (tab 20 .u8 zf), .slice none 0 0])) ?_
  · rw [Tryd.params11]
    intro ds hl
    match ds, hl with
    | [_, _, _], _ => rfl
  · intro W args ds ps hK ⟨⟨base, hval⟩, hA, hz⟩
    rw [Tryd.params11] at hA hval hz
    obtain ⟨v0, vs0, d0, ds0, p0, q0, hargs, rfl, rfl, h0, r0⟩ := trodAll_cons hA
    obtain ⟨v1, vs1, d1, ds1, p1, q1, rfl, rfl, rfl, h1, r1⟩ := trodAll_cons r0
    obtain ⟨v2, vs2, d2, ds2, p2, q2, rfl, rfl, rfl, h2, r2⟩ := trodAll_cons r1
    obtain ⟨rfl, rfl, rfl⟩ := trodAll_nil r2
    obtain rfl : args = #[v0, v1, v2] := by cases args; simp_all
    obtain ⟨a0, l0, c0, x0, rfl, w0⟩ := open_seals (hval 0 _ v0 rfl rfl) h0
    obtain ⟨a1, rfl, w1⟩ := open_tab Tryd.underlying61 Tryd.underlying5 (by kernel_rfl) (by kernel_rfl) (hval 1 _ v1 rfl rfl) h1
    obtain ⟨a2, l2, c2, x2, rfl, w2⟩ := open_words (hval 2 _ v2 rfl rfl) h2
    exact bloomFinds_any a0 l0 c0 x0 a1 (fun j hj => u8_of (w1 j hj)) a2 l2 c2 x2 W hK w0 w2.1 w2.2

theorem bloomFinds_holds : Rows.BloomFindsSaid :=
  OpenClaim.holds_of_wide 11 Tryd.f11 rfl rfl rfl rfl rfl rfl rfl ⟨rfl, rfl, rfl, rfl, rfl⟩ rfl rfl rfl rfl rfl (by kernel_rfl) Tryd.func11 (by kernel_rfl)
    (of_decide_eq_true (by kernel_rfl)) (by unfold Func.isWrapper; rw [if_neg (of_decide_eq_false (by kernel_rfl))]; exact ⟨rfl, rfl⟩)
    (fun os started H enc _ => bloomFinds_lifted os started H enc)
theorem bloomFinds_card : Rows.BloomFindsCardSaid :=
  Claim7.holds_tied_plain_at .later [] [.data, .data, .data] true (true, "bdc735e2525b65e17b143e51a30d9aab18d5eaaded612001e64f3fbe40ce246d") false
    bloomFinds_holds (fun _ h => by cases h) (by kernel_rfl) (fun _ h => by cases h) bloomFinds_row_tie rfl ⟨rfl, rfl⟩ (by kernel_rfl) rfl
    (fun f fn hf hfn => by
      obtain rfl : f = 11 := Option.some.inj ((show Tryd.prog.funcNamed "smithy/smithylaw29.BloomFinds" = some 11 by kernel_rfl).symm.trans hf) |>.symm
      obtain rfl : fn = Tryd.f11 := (Option.some.inj (Tryd.func11.symm.trans hfn)).symm
      exact ⟨by kernel_rfl, fun j t ht => by
        rw [Tryd.params11] at ht
        have hw : ∀ t ∈ #[74, 61, 62], Tryd.prog.wantsStandIn t = false := by decide +kernel
        exact hw t (Array.mem_of_getElem? ht)⟩)
    (by kernel_rfl)
#print axioms bloomFinds_card
end Go.Proofs.YtfjigoimjaemmaaDoor
