/-
  DERIVED. GIVEN WITH THE SEED: THE CARDS: each row of YtfjigoimjaemmaaDoorRows.lean that lists a variable, with what it lists TIED to the program's text (the seventh form; the later family's looks); each row that meets fmt, with fmt's text TOLD by the authors' own Lean function (tested against real Go, not proved from fmt's source: count such statements apart). THE CARD IS WHAT COUNTS. Prove the row's statement (the work); the ties are given (YtfjigoimjaemmaaDoorTie.lean); close each card by the builder's one call (the guide's Derived/Test/ToyasCard.lean, 'card_holds'). Laid BY PROGRAM, IN A SANDBOX (cutbox-door.mjs). By AI agents, Wed Nov 11 2026. No macro, syntax, notation, axiom, sorry.
-/
import Derived.Test.YtfjigoimjaemmaaDoorRows
import GoSem.ClaimSeven
namespace Go.Proofs.YtfjigoimjaemmaaDoor
namespace Rows

/-- THE TIED CARD OF 'smithylaw05.KeccakTurns'. -/
def keccakTurnsCard : Claim7 := { stood := { row := keccakTurnsRow, standIns := [], harness := (true, "bdc735e2525b65e17b143e51a30d9aab18d5eaaded612001e64f3fbe40ce246d"), looks := false }, kinds := [], alts := [], laidByText := true, laidKinds := [.data, .data, .data], laidTests := true, laidLooks := .later }
def KeccakTurnsCardSaid : Prop := Claim7.holds Tryd.pinned (.plain (OpenSpec.ofChange keccakTurnsSpec)) keccakTurnsCard

/-- THE TIED CARD OF 'smithylaw28.AbiEncodes'. -/
def abiEncodesCard : Claim7 := { stood := { row := abiEncodesRow, standIns := [], harness := (true, "bdc735e2525b65e17b143e51a30d9aab18d5eaaded612001e64f3fbe40ce246d"), looks := false }, kinds := [], alts := [], laidByText := true, laidKinds := [.data, .data, .data], laidTests := true, laidLooks := .later }
def AbiEncodesCardSaid : Prop := Claim7.holds Tryd.pinned (.plain (OpenSpec.ofChange abiEncodesSpec)) abiEncodesCard

/-- THE TIED CARD OF 'smithylaw05.KeccakEnds'. -/
def keccakEndsCard : Claim7 := { stood := { row := keccakEndsRow, standIns := [], harness := (true, "bdc735e2525b65e17b143e51a30d9aab18d5eaaded612001e64f3fbe40ce246d"), looks := false }, kinds := [], alts := [], laidByText := true, laidKinds := [.data, .data, .data], laidTests := true, laidLooks := .later }
def KeccakEndsCardSaid : Prop := Claim7.holds Tryd.pinned (.plain (OpenSpec.ofChange keccakEndsSpec)) keccakEndsCard

/-- THE TIED CARD OF 'smithylaw28.AbiDecodes'. -/
def abiDecodesCard : Claim7 := { stood := { row := abiDecodesRow, standIns := [], harness := (true, "bdc735e2525b65e17b143e51a30d9aab18d5eaaded612001e64f3fbe40ce246d"), looks := false }, kinds := [], alts := [], laidByText := true, laidKinds := [.data, .data, .data], laidTests := true, laidLooks := .later }
def AbiDecodesCardSaid : Prop := Claim7.holds Tryd.pinned (.plain (OpenSpec.ofChange abiDecodesSpec)) abiDecodesCard

/-- THE TIED CARD OF 'smithylaw05.KeccakSums'. -/
def keccakSumsCard : Claim7 := { stood := { row := keccakSumsRow, standIns := [], harness := (true, "bdc735e2525b65e17b143e51a30d9aab18d5eaaded612001e64f3fbe40ce246d"), looks := false }, kinds := [], alts := [], laidByText := true, laidKinds := [.data, .data, .data], laidTests := true, laidLooks := .later }
def KeccakSumsCardSaid : Prop := Claim7.holds Tryd.pinned (.plain (OpenSpec.ofChange keccakSumsSpec)) keccakSumsCard

/-- THE TIED CARD OF 'smithylaw29.BloomJoins'. -/
def bloomJoinsCard : Claim7 := { stood := { row := bloomJoinsRow, standIns := [], harness := (true, "bdc735e2525b65e17b143e51a30d9aab18d5eaaded612001e64f3fbe40ce246d"), looks := false }, kinds := [], alts := [], laidByText := true, laidKinds := [.data, .data, .data], laidTests := true, laidLooks := .later }
def BloomJoinsCardSaid : Prop := Claim7.holds Tryd.pinned (.plain (OpenSpec.ofChange bloomJoinsSpec)) bloomJoinsCard

/-- THE TIED CARD OF 'smithylaw29.BloomOf'. -/
def bloomOfCard : Claim7 := { stood := { row := bloomOfRow, standIns := [], harness := (true, "bdc735e2525b65e17b143e51a30d9aab18d5eaaded612001e64f3fbe40ce246d"), looks := false }, kinds := [], alts := [], laidByText := true, laidKinds := [.data, .data, .data], laidTests := true, laidLooks := .later }
def BloomOfCardSaid : Prop := Claim7.holds Tryd.pinned (.plain (OpenSpec.ofChange bloomOfSpec)) bloomOfCard

/-- THE TIED CARD OF 'smithylaw29.BloomHas'. -/
def bloomHasCard : Claim7 := { stood := { row := bloomHasRow, standIns := [], harness := (true, "bdc735e2525b65e17b143e51a30d9aab18d5eaaded612001e64f3fbe40ce246d"), looks := false }, kinds := [], alts := [], laidByText := true, laidKinds := [.data, .data, .data], laidTests := true, laidLooks := .later }
def BloomHasCardSaid : Prop := Claim7.holds Tryd.pinned (.plain (OpenSpec.ofChange bloomHasSpec)) bloomHasCard

/-- THE TIED CARD OF 'smithylaw29.BloomFinds'. -/
def bloomFindsCard : Claim7 := { stood := { row := bloomFindsRow, standIns := [], harness := (true, "bdc735e2525b65e17b143e51a30d9aab18d5eaaded612001e64f3fbe40ce246d"), looks := false }, kinds := [], alts := [], laidByText := true, laidKinds := [.data, .data, .data], laidTests := true, laidLooks := .later }
def BloomFindsCardSaid : Prop := Claim7.holds Tryd.pinned (.plain (OpenSpec.ofChange bloomFindsSpec)) bloomFindsCard

/-- THE TIED CARD OF 'smithylaw28.AbiSelects'. -/
def abiSelectsCard : Claim7 := { stood := { row := abiSelectsRow, standIns := [], harness := (true, "bdc735e2525b65e17b143e51a30d9aab18d5eaaded612001e64f3fbe40ce246d"), looks := false }, kinds := [], alts := [], laidByText := true, laidKinds := [.data, .data, .data], laidTests := true, laidLooks := .later }
def AbiSelectsCardSaid : Prop := Claim7.holds Tryd.pinned (.plain (OpenSpec.ofChange abiSelectsSpec)) abiSelectsCard

/-- THE TIED CARD OF 'smithylaw28.AbiTypes'. -/
def abiTypesCard : Claim7 := { stood := { row := abiTypesRow, standIns := [], harness := (true, "bdc735e2525b65e17b143e51a30d9aab18d5eaaded612001e64f3fbe40ce246d"), looks := false }, kinds := [], alts := [], laidByText := true, laidKinds := [.data, .data, .data], laidTests := true, laidLooks := .later }
def AbiTypesCardSaid : Prop := Claim7.holds Tryd.pinned (.plain (OpenSpec.ofChange abiTypesSpec)) abiTypesCard

/-- THE SECOND FORM's CARD OF 'smithylaw05.KeccakTurns'. -/
def keccakTurnsUptoCard : Claim7 := { stood := { row := keccakTurnsUptoRow, standIns := [], harness := (true, "bdc735e2525b65e17b143e51a30d9aab18d5eaaded612001e64f3fbe40ce246d"), looks := false }, kinds := [], alts := [], laidByText := true, laidKinds := [.data, .data, .data], laidTests := true, laidLooks := .later }
def KeccakTurnsUptoCardSaid : Prop := Claim7.holds Tryd.pinned (.plain (OpenSpec.upto keccakTurnsSpec)) keccakTurnsUptoCard

/-- THE SECOND FORM's CARD OF 'smithylaw28.AbiEncodes'. -/
def abiEncodesUptoCard : Claim7 := { stood := { row := abiEncodesUptoRow, standIns := [], harness := (true, "bdc735e2525b65e17b143e51a30d9aab18d5eaaded612001e64f3fbe40ce246d"), looks := false }, kinds := [], alts := [], laidByText := true, laidKinds := [.data, .data, .data], laidTests := true, laidLooks := .later }
def AbiEncodesUptoCardSaid : Prop := Claim7.holds Tryd.pinned (.plain (OpenSpec.upto abiEncodesSpec)) abiEncodesUptoCard

/-- THE SECOND FORM's CARD OF 'smithylaw05.KeccakEnds'. -/
def keccakEndsUptoCard : Claim7 := { stood := { row := keccakEndsUptoRow, standIns := [], harness := (true, "bdc735e2525b65e17b143e51a30d9aab18d5eaaded612001e64f3fbe40ce246d"), looks := false }, kinds := [], alts := [], laidByText := true, laidKinds := [.data, .data, .data], laidTests := true, laidLooks := .later }
def KeccakEndsUptoCardSaid : Prop := Claim7.holds Tryd.pinned (.plain (OpenSpec.upto keccakEndsSpec)) keccakEndsUptoCard

/-- THE SECOND FORM's CARD OF 'smithylaw28.AbiDecodes'. -/
def abiDecodesUptoCard : Claim7 := { stood := { row := abiDecodesUptoRow, standIns := [], harness := (true, "bdc735e2525b65e17b143e51a30d9aab18d5eaaded612001e64f3fbe40ce246d"), looks := false }, kinds := [], alts := [], laidByText := true, laidKinds := [.data, .data, .data], laidTests := true, laidLooks := .later }
def AbiDecodesUptoCardSaid : Prop := Claim7.holds Tryd.pinned (.plain (OpenSpec.upto abiDecodesSpec)) abiDecodesUptoCard

/-- THE SECOND FORM's CARD OF 'smithylaw05.KeccakSums'. -/
def keccakSumsUptoCard : Claim7 := { stood := { row := keccakSumsUptoRow, standIns := [], harness := (true, "bdc735e2525b65e17b143e51a30d9aab18d5eaaded612001e64f3fbe40ce246d"), looks := false }, kinds := [], alts := [], laidByText := true, laidKinds := [.data, .data, .data], laidTests := true, laidLooks := .later }
def KeccakSumsUptoCardSaid : Prop := Claim7.holds Tryd.pinned (.plain (OpenSpec.upto keccakSumsSpec)) keccakSumsUptoCard

/-- THE SECOND FORM's CARD OF 'smithylaw29.BloomJoins'. -/
def bloomJoinsUptoCard : Claim7 := { stood := { row := bloomJoinsUptoRow, standIns := [], harness := (true, "bdc735e2525b65e17b143e51a30d9aab18d5eaaded612001e64f3fbe40ce246d"), looks := false }, kinds := [], alts := [], laidByText := true, laidKinds := [.data, .data, .data], laidTests := true, laidLooks := .later }
def BloomJoinsUptoCardSaid : Prop := Claim7.holds Tryd.pinned (.plain (OpenSpec.upto bloomJoinsSpec)) bloomJoinsUptoCard

/-- THE SECOND FORM's CARD OF 'smithylaw29.BloomOf'. -/
def bloomOfUptoCard : Claim7 := { stood := { row := bloomOfUptoRow, standIns := [], harness := (true, "bdc735e2525b65e17b143e51a30d9aab18d5eaaded612001e64f3fbe40ce246d"), looks := false }, kinds := [], alts := [], laidByText := true, laidKinds := [.data, .data, .data], laidTests := true, laidLooks := .later }
def BloomOfUptoCardSaid : Prop := Claim7.holds Tryd.pinned (.plain (OpenSpec.upto bloomOfSpec)) bloomOfUptoCard

/-- THE SECOND FORM's CARD OF 'smithylaw29.BloomHas'. -/
def bloomHasUptoCard : Claim7 := { stood := { row := bloomHasUptoRow, standIns := [], harness := (true, "bdc735e2525b65e17b143e51a30d9aab18d5eaaded612001e64f3fbe40ce246d"), looks := false }, kinds := [], alts := [], laidByText := true, laidKinds := [.data, .data, .data], laidTests := true, laidLooks := .later }
def BloomHasUptoCardSaid : Prop := Claim7.holds Tryd.pinned (.plain (OpenSpec.upto bloomHasSpec)) bloomHasUptoCard

/-- THE SECOND FORM's CARD OF 'smithylaw29.BloomFinds'. -/
def bloomFindsUptoCard : Claim7 := { stood := { row := bloomFindsUptoRow, standIns := [], harness := (true, "bdc735e2525b65e17b143e51a30d9aab18d5eaaded612001e64f3fbe40ce246d"), looks := false }, kinds := [], alts := [], laidByText := true, laidKinds := [.data, .data, .data], laidTests := true, laidLooks := .later }
def BloomFindsUptoCardSaid : Prop := Claim7.holds Tryd.pinned (.plain (OpenSpec.upto bloomFindsSpec)) bloomFindsUptoCard

/-- THE SECOND FORM's CARD OF 'smithylaw28.AbiSelects'. -/
def abiSelectsUptoCard : Claim7 := { stood := { row := abiSelectsUptoRow, standIns := [], harness := (true, "bdc735e2525b65e17b143e51a30d9aab18d5eaaded612001e64f3fbe40ce246d"), looks := false }, kinds := [], alts := [], laidByText := true, laidKinds := [.data, .data, .data], laidTests := true, laidLooks := .later }
def AbiSelectsUptoCardSaid : Prop := Claim7.holds Tryd.pinned (.plain (OpenSpec.upto abiSelectsSpec)) abiSelectsUptoCard

/-- THE SECOND FORM's CARD OF 'smithylaw28.AbiTypes'. -/
def abiTypesUptoCard : Claim7 := { stood := { row := abiTypesUptoRow, standIns := [], harness := (true, "bdc735e2525b65e17b143e51a30d9aab18d5eaaded612001e64f3fbe40ce246d"), looks := false }, kinds := [], alts := [], laidByText := true, laidKinds := [.data, .data, .data], laidTests := true, laidLooks := .later }
def AbiTypesUptoCardSaid : Prop := Claim7.holds Tryd.pinned (.plain (OpenSpec.upto abiTypesSpec)) abiTypesUptoCard
end Rows
end Go.Proofs.YtfjigoimjaemmaaDoor
