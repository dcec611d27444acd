/- BloomJoins: for any two rows of logs and any two filters the call returns true: the filter of the logs together is the join of theirs, in any order; bit by bit a join has the bits of both. The row lists the three tables of the rounds as the program lays them; the card ties them to its text. -/
import Derived.Test.YtfjigoimjaemmaaDoorOpen
import Derived.Test.YtfjigoimjaemmaaDoorFrameD
import Derived.Test.YtfjigoimjaemmaaDoorCellsW
import Derived.Test.YtfjigoimjaemmaaDoorLogW
import Derived.Test.YtfjigoimjaemmaaDoorBlm8W
namespace Go.Proofs.YtfjigoimjaemmaaDoor
open Go.ChangeShapes Go.WideShapes Go.ChangeAt Go.RowKit
set_option maxRecDepth 100000
set_option linter.unusedVariables false

theorem bloomJoins_lifted (os : Os) (started : os.Started) (H : Type) (enc : TypeId × Value → H) :
    ReturnsInHanded {} Tryd.checked os 8 .any (fun w args => (Rows.bloomJoinsSpec.pre enc Tryd.prog Tryd.f8 [] false w args ∧ laidMetH Tryd.prog laidL w) ∧ sizedMet enc Tryd.prog Tryd.f8 (OpenSpec.ofChange Rows.bloomJoinsSpec) false w args) (Rows.bloomJoinsSpec.post enc Tryd.prog Tryd.f8 false true false false) := by
  refine lawLiftD os started H enc _ _ _ (by kernel_rfl) Tryd.func8 rfl (by kernel_rfl) ?_ (by kernel_rfl)
    (ChangeSpec.witness_shaped (enc := enc) (C := Tryd.checked) (os := os) (X := fun w _ => laidMetH Tryd.prog laidL w) false (World.laidAll Tryd.prog os laidL) #[.slice none 0 0, .slice none 0 0, .agg (tab 256 .u8 zf), .agg (tab 256 .u8 zf)] 8 (World.laidAll_os _ _ _) (startD_shaped os #[.slice none 0 0, .slice none 0 0, .agg (tab 256 .u8 zf), .agg (tab 256 .u8 zf)]) (by kernel_rfl) (by kernel_rfl) (by kernel_rfl) (laid_met os #[.slice none 0 0, .slice none 0 0, .agg (tab 256 .u8 zf), .agg (tab 256 .u8 zf)])) ?_
  · rw [Tryd.params8]
    intro ds hl
    match ds, hl with
    | [_, _, _, _], _ => rfl
  · intro W args ds ps hK ⟨⟨base, hval⟩, hA, hz⟩
    rw [Tryd.params8] at hA hval hz
    obtain ⟨v0, vs0, d0, ds0, p0, q0, hargs, rfl, rfl, h0, r0⟩ := trodAll_cons hA
    obtain ⟨v1, vs1, d1, ds1, p1, q1, rfl, rfl, rfl, h1, r1⟩ := trodAll_cons r0
    obtain ⟨v2, vs2, d2, ds2, p2, q2, rfl, rfl, rfl, h2, r2⟩ := trodAll_cons r1
    obtain ⟨v3, vs3, d3, ds3, p3, q3, rfl, rfl, rfl, h3, r3⟩ := trodAll_cons r2
    obtain ⟨rfl, rfl, rfl⟩ := trodAll_nil r3
    obtain rfl : args = #[v0, v1, v2, v3] := by cases args; simp_all
    obtain ⟨a0, l0, c0, x0, rfl, w0⟩ := open_logs (hval 0 _ v0 rfl rfl) h0
    obtain ⟨a1, l1, c1, x1, rfl, w1⟩ := open_logs (hval 1 _ v1 rfl rfl) h1
    obtain ⟨a2, rfl, w2⟩ := open_tab Tryd.underlying52 Tryd.underlying5 (by kernel_rfl) (by kernel_rfl) (hval 2 _ v2 rfl rfl) h2
    obtain ⟨a3, rfl, w3⟩ := open_tab Tryd.underlying52 Tryd.underlying5 (by kernel_rfl) (by kernel_rfl) (hval 3 _ v3 rfl rfl) h3
    exact bloomJoins_any a2 a3 (fun j hj => u8_of (w2 j hj)) (fun j hj => u8_of (w3 j hj)) a0 l0 c0 x0 a1 l1 c1 x1 W hK w0.1 w1.1

theorem bloomJoins_holds : Rows.BloomJoinsSaid :=
  OpenClaim.holds_of_wide 8 Tryd.f8 rfl rfl rfl rfl rfl rfl rfl ⟨rfl, rfl, rfl, rfl, rfl⟩ rfl rfl rfl rfl rfl (by kernel_rfl) Tryd.func8 (by kernel_rfl)
    (of_decide_eq_true (by kernel_rfl)) (by unfold Func.isWrapper; rw [if_neg (of_decide_eq_false (by kernel_rfl))]; exact ⟨rfl, rfl⟩)
    (fun os started H enc _ => bloomJoins_lifted os started H enc)
theorem bloomJoins_card : Rows.BloomJoinsCardSaid :=
  Claim7.holds_tied_plain_at .later [] [.data, .data, .data] true (true, "bdc735e2525b65e17b143e51a30d9aab18d5eaaded612001e64f3fbe40ce246d") false
    bloomJoins_holds (fun _ h => by cases h) (by kernel_rfl) (fun _ h => by cases h) bloomJoins_row_tie rfl ⟨rfl, rfl⟩ (by kernel_rfl) rfl
    (fun f fn hf hfn => by
      obtain rfl : f = 8 := Option.some.inj ((show Tryd.prog.funcNamed "smithy/smithylaw29.BloomJoins" = some 8 by kernel_rfl).symm.trans hf) |>.symm
      obtain rfl : fn = Tryd.f8 := (Option.some.inj (Tryd.func8.symm.trans hfn)).symm
      exact ⟨by kernel_rfl, fun j t ht => by
        rw [Tryd.params8] at ht
        have hw : ∀ t ∈ #[50, 50, 52, 52], Tryd.prog.wantsStandIn t = false := by decide +kernel
        exact hw t (Array.mem_of_getElem? ht)⟩)
    (by kernel_rfl)
#print axioms bloomJoins_card
end Go.Proofs.YtfjigoimjaemmaaDoor
