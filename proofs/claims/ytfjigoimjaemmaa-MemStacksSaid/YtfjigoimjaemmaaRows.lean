/-
  No cell of these rows narrows 'for every input' (looked for: loops, veiled, ifaces, maps, wideKeys, modest, calm, conditions, laid).
  DERIVED. THE GIVEN ROWS OF THIS SEAT. 16 by the template 'for every input the law returns true; each argument reads behind the call as it read before'; 0 by the template 'total and deterministic' (their statements: YtfjigoimjaemmaaTotals.lean).
  GIVEN WITH THE SEED: the statements are not yours to turn. If you find one false, say at which input.
  Laid BY PROGRAM, IN A SANDBOX (cutbox-rows.mjs): the forced cells as the released guide's own fill.sh prints them over the translation 26674c1bca39dfb9… (all of the seat's roots in one cut). By AI agents, Wed Nov 11 2026. No macro, syntax, notation, axiom, sorry.
-/
import Derived.Test.YtfjigoimjaemmaaChecked
import GoSem.Claim
import GoSem.ClaimJoined
import GoSem.ClaimMapViews
import Derived.JoinedTies
import Derived.KernelRfl
namespace Go.Proofs.Ytfjigoimjaemmaa
/- THE CELL 'sum', in the pinned program and in every row, IS THE sha256 OF THE DUMP (.gsa) THAT YtfjigoimjaemmaaProg.lean LOADS. Nothing in Lean hashes anything: it is a label: what it is worth is what the hold of that sum in a sandbox is worth. -/
noncomputable def Try.pinned : Pinned := { name := "ytfjigoimjaemmaa", sum := "26674c1bca39dfb9ee1c9f91998b7c49115fe63ba240323ca847a6d15d7ea16a", checked := Try.checked }
namespace Rows
def none {H : Type} : Left H := { results := [], args := [] }

/-- 'smithylaw12.GasStores': WHATEVER THE INPUT: true; the input reads as it did. -/
def gasStoresSpec : ChangeSpec := { name := "gasStores", fn := fun _ => fun
  | [d1, d2, d3, d4] => { results := [.lit (.bool true)], args := [d1, d2, d3, d4] }
  | _ => none }
def gasStoresRow : OpenClaim := { program := "ytfjigoimjaemmaa", sum := "26674c1bca39dfb9ee1c9f91998b7c49115fe63ba240323ca847a6d15d7ea16a", func := "smithy/smithylaw12.GasStores", spec := "gasStores", plainKeys := false, apart := false }
def GasStoresSaid : Prop := gasStoresRow.holds Try.pinned (OpenSpec.ofChange gasStoresSpec)

/-- ITS FALSE NEIGHBOUR: 'it returns false'. Refute it at one input. -/
def gasStoresWrong : ChangeSpec := { name := "gasStores", fn := fun _ => fun
  | [d1, d2, d3, d4] => { results := [.lit (.bool false)], args := [d1, d2, d3, d4] }
  | _ => none }
def GasStoresWrongFalsely : Prop := gasStoresRow.holds Try.pinned (OpenSpec.ofChange gasStoresWrong)

/-- 'smithylaw12.GasNever': WHATEVER THE INPUT: true; the input reads as it did. -/
def gasNeverSpec : ChangeSpec := { name := "gasNever", fn := fun _ => fun
  | [d1, d2] => { results := [.lit (.bool true)], args := [d1, d2] }
  | _ => none }
def gasNeverRow : OpenClaim := { program := "ytfjigoimjaemmaa", sum := "26674c1bca39dfb9ee1c9f91998b7c49115fe63ba240323ca847a6d15d7ea16a", func := "smithy/smithylaw12.GasNever", spec := "gasNever", plainKeys := false, apart := false }
def GasNeverSaid : Prop := gasNeverRow.holds Try.pinned (OpenSpec.ofChange gasNeverSpec)

/-- ITS FALSE NEIGHBOUR: 'it returns false'. Refute it at one input. -/
def gasNeverWrong : ChangeSpec := { name := "gasNever", fn := fun _ => fun
  | [d1, d2] => { results := [.lit (.bool false)], args := [d1, d2] }
  | _ => none }
def GasNeverWrongFalsely : Prop := gasNeverRow.holds Try.pinned (OpenSpec.ofChange gasNeverWrong)

/-- 'smithylaw12.GasParts': WHATEVER THE INPUT: true; the input reads as it did. -/
def gasPartsSpec : ChangeSpec := { name := "gasParts", fn := fun _ => fun
  | [d1, d2, d3] => { results := [.lit (.bool true)], args := [d1, d2, d3] }
  | _ => none }
def gasPartsRow : OpenClaim := { program := "ytfjigoimjaemmaa", sum := "26674c1bca39dfb9ee1c9f91998b7c49115fe63ba240323ca847a6d15d7ea16a", func := "smithy/smithylaw12.GasParts", spec := "gasParts", plainKeys := false, apart := false }
def GasPartsSaid : Prop := gasPartsRow.holds Try.pinned (OpenSpec.ofChange gasPartsSpec)

/-- ITS FALSE NEIGHBOUR: 'it returns false'. Refute it at one input. -/
def gasPartsWrong : ChangeSpec := { name := "gasParts", fn := fun _ => fun
  | [d1, d2, d3] => { results := [.lit (.bool false)], args := [d1, d2, d3] }
  | _ => none }
def GasPartsWrongFalsely : Prop := gasPartsRow.holds Try.pinned (OpenSpec.ofChange gasPartsWrong)

/-- 'smithylaw12.GasAccounts': WHATEVER THE INPUT: true; the input reads as it did. -/
def gasAccountsSpec : ChangeSpec := { name := "gasAccounts", fn := fun _ => fun
  | [d1, d2, d3] => { results := [.lit (.bool true)], args := [d1, d2, d3] }
  | _ => none }
def gasAccountsRow : OpenClaim := { program := "ytfjigoimjaemmaa", sum := "26674c1bca39dfb9ee1c9f91998b7c49115fe63ba240323ca847a6d15d7ea16a", func := "smithy/smithylaw12.GasAccounts", spec := "gasAccounts", plainKeys := false, apart := false }
def GasAccountsSaid : Prop := gasAccountsRow.holds Try.pinned (OpenSpec.ofChange gasAccountsSpec)

/-- ITS FALSE NEIGHBOUR: 'it returns false'. Refute it at one input. -/
def gasAccountsWrong : ChangeSpec := { name := "gasAccounts", fn := fun _ => fun
  | [d1, d2, d3] => { results := [.lit (.bool false)], args := [d1, d2, d3] }
  | _ => none }
def GasAccountsWrongFalsely : Prop := gasAccountsRow.holds Try.pinned (OpenSpec.ofChange gasAccountsWrong)

/-- 'smithylaw12.GasIntrinsic': WHATEVER THE INPUT: true; the input reads as it did. -/
def gasIntrinsicSpec : ChangeSpec := { name := "gasIntrinsic", fn := fun _ => fun
  | [d1, d2, d3, d4] => { results := [.lit (.bool true)], args := [d1, d2, d3, d4] }
  | _ => none }
def gasIntrinsicRow : OpenClaim := { program := "ytfjigoimjaemmaa", sum := "26674c1bca39dfb9ee1c9f91998b7c49115fe63ba240323ca847a6d15d7ea16a", func := "smithy/smithylaw12.GasIntrinsic", spec := "gasIntrinsic", plainKeys := false, apart := false }
def GasIntrinsicSaid : Prop := gasIntrinsicRow.holds Try.pinned (OpenSpec.ofChange gasIntrinsicSpec)

/-- ITS FALSE NEIGHBOUR: 'it returns false'. Refute it at one input. -/
def gasIntrinsicWrong : ChangeSpec := { name := "gasIntrinsic", fn := fun _ => fun
  | [d1, d2, d3, d4] => { results := [.lit (.bool false)], args := [d1, d2, d3, d4] }
  | _ => none }
def GasIntrinsicWrongFalsely : Prop := gasIntrinsicRow.holds Try.pinned (OpenSpec.ofChange gasIntrinsicWrong)

/-- 'smithylaw10.MemPrices': WHATEVER THE INPUT: true; the input reads as it did. -/
def memPricesSpec : ChangeSpec := { name := "memPrices", fn := fun _ => fun
  | [d] => { results := [.lit (.bool true)], args := [d] }
  | _ => none }
def memPricesRow : OpenClaim := { program := "ytfjigoimjaemmaa", sum := "26674c1bca39dfb9ee1c9f91998b7c49115fe63ba240323ca847a6d15d7ea16a", func := "smithy/smithylaw10.MemPrices", spec := "memPrices", plainKeys := false, apart := false }
def MemPricesSaid : Prop := memPricesRow.holds Try.pinned (OpenSpec.ofChange memPricesSpec)

/-- ITS FALSE NEIGHBOUR: 'it returns false'. Refute it at one input. -/
def memPricesWrong : ChangeSpec := { name := "memPrices", fn := fun _ => fun
  | [d] => { results := [.lit (.bool false)], args := [d] }
  | _ => none }
def MemPricesWrongFalsely : Prop := memPricesRow.holds Try.pinned (OpenSpec.ofChange memPricesWrong)

/-- 'smithylaw10.MemFar': WHATEVER THE INPUT: true; the input reads as it did. -/
def memFarSpec : ChangeSpec := { name := "memFar", fn := fun _ => fun
  | [d1, d2] => { results := [.lit (.bool true)], args := [d1, d2] }
  | _ => none }
def memFarRow : OpenClaim := { program := "ytfjigoimjaemmaa", sum := "26674c1bca39dfb9ee1c9f91998b7c49115fe63ba240323ca847a6d15d7ea16a", func := "smithy/smithylaw10.MemFar", spec := "memFar", plainKeys := false, apart := false }
def MemFarSaid : Prop := memFarRow.holds Try.pinned (OpenSpec.ofChange memFarSpec)

/-- ITS FALSE NEIGHBOUR: 'it returns false'. Refute it at one input. -/
def memFarWrong : ChangeSpec := { name := "memFar", fn := fun _ => fun
  | [d1, d2] => { results := [.lit (.bool false)], args := [d1, d2] }
  | _ => none }
def MemFarWrongFalsely : Prop := memFarRow.holds Try.pinned (OpenSpec.ofChange memFarWrong)

/-- 'smithylaw10.MemSums': WHATEVER THE INPUT: true; the input reads as it did. -/
def memSumsSpec : ChangeSpec := { name := "memSums", fn := fun _ => fun
  | [d] => { results := [.lit (.bool true)], args := [d] }
  | _ => none }
def memSumsRow : OpenClaim := { program := "ytfjigoimjaemmaa", sum := "26674c1bca39dfb9ee1c9f91998b7c49115fe63ba240323ca847a6d15d7ea16a", func := "smithy/smithylaw10.MemSums", spec := "memSums", plainKeys := false, apart := false }
def MemSumsSaid : Prop := memSumsRow.holds Try.pinned (OpenSpec.ofChange memSumsSpec)

/-- ITS FALSE NEIGHBOUR: 'it returns false'. Refute it at one input. -/
def memSumsWrong : ChangeSpec := { name := "memSums", fn := fun _ => fun
  | [d] => { results := [.lit (.bool false)], args := [d] }
  | _ => none }
def MemSumsWrongFalsely : Prop := memSumsRow.holds Try.pinned (OpenSpec.ofChange memSumsWrong)

/-- 'smithylaw12.GasLengths': WHATEVER THE INPUT: true; the input reads as it did. -/
def gasLengthsSpec : ChangeSpec := { name := "gasLengths", fn := fun _ => fun
  | [d1, d2, d3, d4] => { results := [.lit (.bool true)], args := [d1, d2, d3, d4] }
  | _ => none }
def gasLengthsRow : OpenClaim := { program := "ytfjigoimjaemmaa", sum := "26674c1bca39dfb9ee1c9f91998b7c49115fe63ba240323ca847a6d15d7ea16a", func := "smithy/smithylaw12.GasLengths", spec := "gasLengths", plainKeys := false, apart := false }
def GasLengthsSaid : Prop := gasLengthsRow.holds Try.pinned (OpenSpec.ofChange gasLengthsSpec)

/-- ITS FALSE NEIGHBOUR: 'it returns false'. Refute it at one input. -/
def gasLengthsWrong : ChangeSpec := { name := "gasLengths", fn := fun _ => fun
  | [d1, d2, d3, d4] => { results := [.lit (.bool false)], args := [d1, d2, d3, d4] }
  | _ => none }
def GasLengthsWrongFalsely : Prop := gasLengthsRow.holds Try.pinned (OpenSpec.ofChange gasLengthsWrong)

/-- 'smithylaw10.MemBack': WHATEVER THE INPUT: true; the input reads as it did. -/
def memBackSpec : ChangeSpec := { name := "memBack", fn := fun _ => fun
  | [d1, d2] => { results := [.lit (.bool true)], args := [d1, d2] }
  | _ => none }
def memBackRow : OpenClaim := { program := "ytfjigoimjaemmaa", sum := "26674c1bca39dfb9ee1c9f91998b7c49115fe63ba240323ca847a6d15d7ea16a", func := "smithy/smithylaw10.MemBack", spec := "memBack", plainKeys := false, apart := false }
def MemBackSaid : Prop := memBackRow.holds Try.pinned (OpenSpec.ofChange memBackSpec)

/-- ITS FALSE NEIGHBOUR: 'it returns false'. Refute it at one input. -/
def memBackWrong : ChangeSpec := { name := "memBack", fn := fun _ => fun
  | [d1, d2] => { results := [.lit (.bool false)], args := [d1, d2] }
  | _ => none }
def MemBackWrongFalsely : Prop := memBackRow.holds Try.pinned (OpenSpec.ofChange memBackWrong)

/-- 'smithylaw10.MemPlays': WHATEVER THE INPUT: true; the input reads as it did. -/
def memPlaysSpec : ChangeSpec := { name := "memPlays", fn := fun _ => fun
  | [d] => { results := [.lit (.bool true)], args := [d] }
  | _ => none }
def memPlaysRow : OpenClaim := { program := "ytfjigoimjaemmaa", sum := "26674c1bca39dfb9ee1c9f91998b7c49115fe63ba240323ca847a6d15d7ea16a", func := "smithy/smithylaw10.MemPlays", spec := "memPlays", plainKeys := false, apart := false }
def MemPlaysSaid : Prop := memPlaysRow.holds Try.pinned (OpenSpec.ofChange memPlaysSpec)

/-- ITS FALSE NEIGHBOUR: 'it returns false'. Refute it at one input. -/
def memPlaysWrong : ChangeSpec := { name := "memPlays", fn := fun _ => fun
  | [d] => { results := [.lit (.bool false)], args := [d] }
  | _ => none }
def MemPlaysWrongFalsely : Prop := memPlaysRow.holds Try.pinned (OpenSpec.ofChange memPlaysWrong)

/-- 'smithylaw10.MemStacks': WHATEVER THE INPUT: true; the input reads as it did. -/
def memStacksSpec : ChangeSpec := { name := "memStacks", fn := fun _ => fun
  | [d1, d2] => { results := [.lit (.bool true)], args := [d1, d2] }
  | _ => none }
def memStacksRow : OpenClaim := { program := "ytfjigoimjaemmaa", sum := "26674c1bca39dfb9ee1c9f91998b7c49115fe63ba240323ca847a6d15d7ea16a", func := "smithy/smithylaw10.MemStacks", spec := "memStacks", plainKeys := false, apart := false }
def MemStacksSaid : Prop := memStacksRow.holds Try.pinned (OpenSpec.ofChange memStacksSpec)

/-- ITS FALSE NEIGHBOUR: 'it returns false'. Refute it at one input. -/
def memStacksWrong : ChangeSpec := { name := "memStacks", fn := fun _ => fun
  | [d1, d2] => { results := [.lit (.bool false)], args := [d1, d2] }
  | _ => none }
def MemStacksWrongFalsely : Prop := memStacksRow.holds Try.pinned (OpenSpec.ofChange memStacksWrong)

/-- 'smithylaw10.MemNil': WHATEVER THE INPUT: true; the input reads as it did. -/
def memNilSpec : ChangeSpec := { name := "memNil", fn := fun _ => fun
  | [d] => { results := [.lit (.bool true)], args := [d] }
  | _ => none }
def memNilRow : OpenClaim := { program := "ytfjigoimjaemmaa", sum := "26674c1bca39dfb9ee1c9f91998b7c49115fe63ba240323ca847a6d15d7ea16a", func := "smithy/smithylaw10.MemNil", spec := "memNil", plainKeys := false, apart := false }
def MemNilSaid : Prop := memNilRow.holds Try.pinned (OpenSpec.ofChange memNilSpec)

/-- ITS FALSE NEIGHBOUR: 'it returns false'. Refute it at one input. -/
def memNilWrong : ChangeSpec := { name := "memNil", fn := fun _ => fun
  | [d] => { results := [.lit (.bool false)], args := [d] }
  | _ => none }
def MemNilWrongFalsely : Prop := memNilRow.holds Try.pinned (OpenSpec.ofChange memNilWrong)

/-- 'smithylaw22.PoolSteps': WHATEVER THE INPUT: true; the input reads as it did. -/
def poolStepsSpec : ChangeSpec := { name := "poolSteps", fn := fun _ => fun
  | [d1, d2] => { results := [.lit (.bool true)], args := [d1, d2] }
  | _ => none }
def poolStepsRow : OpenClaim := { program := "ytfjigoimjaemmaa", sum := "26674c1bca39dfb9ee1c9f91998b7c49115fe63ba240323ca847a6d15d7ea16a", func := "smithy/smithylaw22.PoolSteps", spec := "poolSteps", unfollowed := true, recurses := true, plainKeys := false, apart := false }
def PoolStepsSaid : Prop := poolStepsRow.holds Try.pinned (OpenSpec.ofChange poolStepsSpec)

/-- ITS FALSE NEIGHBOUR: 'it returns false'. Refute it at one input. -/
def poolStepsWrong : ChangeSpec := { name := "poolSteps", fn := fun _ => fun
  | [d1, d2] => { results := [.lit (.bool false)], args := [d1, d2] }
  | _ => none }
def PoolStepsWrongFalsely : Prop := poolStepsRow.holds Try.pinned (OpenSpec.ofChange poolStepsWrong)

/-- 'smithylaw22.PoolNonces': WHATEVER THE INPUT: true; the input reads as it did. -/
def poolNoncesSpec : ChangeSpec := { name := "poolNonces", fn := fun _ => fun
  | [d1, d2, d3] => { results := [.lit (.bool true)], args := [d1, d2, d3] }
  | _ => none }
def poolNoncesRow : OpenClaim := { program := "ytfjigoimjaemmaa", sum := "26674c1bca39dfb9ee1c9f91998b7c49115fe63ba240323ca847a6d15d7ea16a", func := "smithy/smithylaw22.PoolNonces", spec := "poolNonces", unfollowed := true, recurses := true, plainKeys := false, apart := false }
def PoolNoncesSaid : Prop := poolNoncesRow.holds Try.pinned (OpenSpec.ofChange poolNoncesSpec)

/-- ITS FALSE NEIGHBOUR: 'it returns false'. Refute it at one input. -/
def poolNoncesWrong : ChangeSpec := { name := "poolNonces", fn := fun _ => fun
  | [d1, d2, d3] => { results := [.lit (.bool false)], args := [d1, d2, d3] }
  | _ => none }
def PoolNoncesWrongFalsely : Prop := poolNoncesRow.holds Try.pinned (OpenSpec.ofChange poolNoncesWrong)

/-- 'smithylaw22.PoolPlays': WHATEVER THE INPUT: true; the input reads as it did. -/
def poolPlaysSpec : ChangeSpec := { name := "poolPlays", fn := fun _ => fun
  | [d1, d2] => { results := [.lit (.bool true)], args := [d1, d2] }
  | _ => none }
def poolPlaysRow : OpenClaim := { program := "ytfjigoimjaemmaa", sum := "26674c1bca39dfb9ee1c9f91998b7c49115fe63ba240323ca847a6d15d7ea16a", func := "smithy/smithylaw22.PoolPlays", spec := "poolPlays", unfollowed := true, recurses := true, plainKeys := false, apart := false }
def PoolPlaysSaid : Prop := poolPlaysRow.holds Try.pinned (OpenSpec.ofChange poolPlaysSpec)

/-- ITS FALSE NEIGHBOUR: 'it returns false'. Refute it at one input. -/
def poolPlaysWrong : ChangeSpec := { name := "poolPlays", fn := fun _ => fun
  | [d1, d2] => { results := [.lit (.bool false)], args := [d1, d2] }
  | _ => none }
def PoolPlaysWrongFalsely : Prop := poolPlaysRow.holds Try.pinned (OpenSpec.ofChange poolPlaysWrong)

/- THE SECOND FORM. 'bulk': how many values and letters a reading holds, each counted each time it is reached (what is shared counts as often as it is met; a slice's spare places count too). A statement '..UptoSaid' is the law's where the arguments, and the package variables that the reading takes, are together of bulk at most 1048576: NARROWER than '..Said'. Prove '..Said' where nothing that the law and all that it calls make is longer than what came in: it says more and counts as full. Else prove '..UptoSaid'. A law counts once. -/
mutual
def uptoBulk {H : Type} : DataW H → Nat
  | .lit (.string bytes) => bytes.length + 1
  | .lit _ => 1
  | .nil => 1
  | .ptr d => uptoBulk d + 1
  | .slice elems spare => uptoBulkAll elems + uptoBulkAll spare + 1
  | .agg parts => uptoBulkAll parts + 1
  | .iface _ d => uptoBulk d + 1
  | .map entries => uptoBulkEntries entries + 1
  | .held _ => 1
def uptoBulkAll {H : Type} : List (DataW H) → Nat
  | [] => 0
  | d :: r => uptoBulk d + uptoBulkAll r
def uptoBulkEntries {H : Type} : List (Lit × DataW H) → Nat
  | [] => 0
  | x :: r => uptoBulkEntry x + uptoBulkEntries r
def uptoBulkEntry {H : Type} : Lit × DataW H → Nat
  | (.string bytes, d) => bytes.length + uptoBulk d + 1
  | (_, d) => uptoBulk d + 1
 end
def uptoSmall : (H : Type) → List (DataW H) → Bool := fun _ ds => decide (uptoBulkAll ds ≤ 1048576)
def OpenSpec.upto (s : _root_.Go.ChangeSpec) : _root_.Go.OpenSpec := { _root_.Go.OpenSpec.ofChange s with cond := some uptoSmall }

/-- 'smithylaw12.GasStores', WHERE WHAT IT READS IS OF BULK AT MOST 1048576: true; the input reads as it did. -/
def gasStoresUptoRow : OpenClaim := { program := "ytfjigoimjaemmaa", sum := "26674c1bca39dfb9ee1c9f91998b7c49115fe63ba240323ca847a6d15d7ea16a", func := "smithy/smithylaw12.GasStores", spec := "gasStores", plainKeys := false, apart := false, narrowed := true }
def GasStoresUptoSaid : Prop := gasStoresUptoRow.holds Try.pinned (OpenSpec.upto gasStoresSpec)

/-- 'smithylaw12.GasNever', WHERE WHAT IT READS IS OF BULK AT MOST 1048576: true; the input reads as it did. -/
def gasNeverUptoRow : OpenClaim := { program := "ytfjigoimjaemmaa", sum := "26674c1bca39dfb9ee1c9f91998b7c49115fe63ba240323ca847a6d15d7ea16a", func := "smithy/smithylaw12.GasNever", spec := "gasNever", plainKeys := false, apart := false, narrowed := true }
def GasNeverUptoSaid : Prop := gasNeverUptoRow.holds Try.pinned (OpenSpec.upto gasNeverSpec)

/-- 'smithylaw12.GasParts', WHERE WHAT IT READS IS OF BULK AT MOST 1048576: true; the input reads as it did. -/
def gasPartsUptoRow : OpenClaim := { program := "ytfjigoimjaemmaa", sum := "26674c1bca39dfb9ee1c9f91998b7c49115fe63ba240323ca847a6d15d7ea16a", func := "smithy/smithylaw12.GasParts", spec := "gasParts", plainKeys := false, apart := false, narrowed := true }
def GasPartsUptoSaid : Prop := gasPartsUptoRow.holds Try.pinned (OpenSpec.upto gasPartsSpec)

/-- 'smithylaw12.GasAccounts', WHERE WHAT IT READS IS OF BULK AT MOST 1048576: true; the input reads as it did. -/
def gasAccountsUptoRow : OpenClaim := { program := "ytfjigoimjaemmaa", sum := "26674c1bca39dfb9ee1c9f91998b7c49115fe63ba240323ca847a6d15d7ea16a", func := "smithy/smithylaw12.GasAccounts", spec := "gasAccounts", plainKeys := false, apart := false, narrowed := true }
def GasAccountsUptoSaid : Prop := gasAccountsUptoRow.holds Try.pinned (OpenSpec.upto gasAccountsSpec)

/-- 'smithylaw12.GasIntrinsic', WHERE WHAT IT READS IS OF BULK AT MOST 1048576: true; the input reads as it did. -/
def gasIntrinsicUptoRow : OpenClaim := { program := "ytfjigoimjaemmaa", sum := "26674c1bca39dfb9ee1c9f91998b7c49115fe63ba240323ca847a6d15d7ea16a", func := "smithy/smithylaw12.GasIntrinsic", spec := "gasIntrinsic", plainKeys := false, apart := false, narrowed := true }
def GasIntrinsicUptoSaid : Prop := gasIntrinsicUptoRow.holds Try.pinned (OpenSpec.upto gasIntrinsicSpec)

/-- 'smithylaw10.MemPrices', WHERE WHAT IT READS IS OF BULK AT MOST 1048576: true; the input reads as it did. -/
def memPricesUptoRow : OpenClaim := { program := "ytfjigoimjaemmaa", sum := "26674c1bca39dfb9ee1c9f91998b7c49115fe63ba240323ca847a6d15d7ea16a", func := "smithy/smithylaw10.MemPrices", spec := "memPrices", plainKeys := false, apart := false, narrowed := true }
def MemPricesUptoSaid : Prop := memPricesUptoRow.holds Try.pinned (OpenSpec.upto memPricesSpec)

/-- 'smithylaw10.MemFar', WHERE WHAT IT READS IS OF BULK AT MOST 1048576: true; the input reads as it did. -/
def memFarUptoRow : OpenClaim := { program := "ytfjigoimjaemmaa", sum := "26674c1bca39dfb9ee1c9f91998b7c49115fe63ba240323ca847a6d15d7ea16a", func := "smithy/smithylaw10.MemFar", spec := "memFar", plainKeys := false, apart := false, narrowed := true }
def MemFarUptoSaid : Prop := memFarUptoRow.holds Try.pinned (OpenSpec.upto memFarSpec)

/-- 'smithylaw10.MemSums', WHERE WHAT IT READS IS OF BULK AT MOST 1048576: true; the input reads as it did. -/
def memSumsUptoRow : OpenClaim := { program := "ytfjigoimjaemmaa", sum := "26674c1bca39dfb9ee1c9f91998b7c49115fe63ba240323ca847a6d15d7ea16a", func := "smithy/smithylaw10.MemSums", spec := "memSums", plainKeys := false, apart := false, narrowed := true }
def MemSumsUptoSaid : Prop := memSumsUptoRow.holds Try.pinned (OpenSpec.upto memSumsSpec)

/-- 'smithylaw12.GasLengths', WHERE WHAT IT READS IS OF BULK AT MOST 1048576: true; the input reads as it did. -/
def gasLengthsUptoRow : OpenClaim := { program := "ytfjigoimjaemmaa", sum := "26674c1bca39dfb9ee1c9f91998b7c49115fe63ba240323ca847a6d15d7ea16a", func := "smithy/smithylaw12.GasLengths", spec := "gasLengths", plainKeys := false, apart := false, narrowed := true }
def GasLengthsUptoSaid : Prop := gasLengthsUptoRow.holds Try.pinned (OpenSpec.upto gasLengthsSpec)

/-- 'smithylaw10.MemBack', WHERE WHAT IT READS IS OF BULK AT MOST 1048576: true; the input reads as it did. -/
def memBackUptoRow : OpenClaim := { program := "ytfjigoimjaemmaa", sum := "26674c1bca39dfb9ee1c9f91998b7c49115fe63ba240323ca847a6d15d7ea16a", func := "smithy/smithylaw10.MemBack", spec := "memBack", plainKeys := false, apart := false, narrowed := true }
def MemBackUptoSaid : Prop := memBackUptoRow.holds Try.pinned (OpenSpec.upto memBackSpec)

/-- 'smithylaw10.MemPlays', WHERE WHAT IT READS IS OF BULK AT MOST 1048576: true; the input reads as it did. -/
def memPlaysUptoRow : OpenClaim := { program := "ytfjigoimjaemmaa", sum := "26674c1bca39dfb9ee1c9f91998b7c49115fe63ba240323ca847a6d15d7ea16a", func := "smithy/smithylaw10.MemPlays", spec := "memPlays", plainKeys := false, apart := false, narrowed := true }
def MemPlaysUptoSaid : Prop := memPlaysUptoRow.holds Try.pinned (OpenSpec.upto memPlaysSpec)

/-- 'smithylaw10.MemStacks', WHERE WHAT IT READS IS OF BULK AT MOST 1048576: true; the input reads as it did. -/
def memStacksUptoRow : OpenClaim := { program := "ytfjigoimjaemmaa", sum := "26674c1bca39dfb9ee1c9f91998b7c49115fe63ba240323ca847a6d15d7ea16a", func := "smithy/smithylaw10.MemStacks", spec := "memStacks", plainKeys := false, apart := false, narrowed := true }
def MemStacksUptoSaid : Prop := memStacksUptoRow.holds Try.pinned (OpenSpec.upto memStacksSpec)

/-- 'smithylaw10.MemNil', WHERE WHAT IT READS IS OF BULK AT MOST 1048576: true; the input reads as it did. -/
def memNilUptoRow : OpenClaim := { program := "ytfjigoimjaemmaa", sum := "26674c1bca39dfb9ee1c9f91998b7c49115fe63ba240323ca847a6d15d7ea16a", func := "smithy/smithylaw10.MemNil", spec := "memNil", plainKeys := false, apart := false, narrowed := true }
def MemNilUptoSaid : Prop := memNilUptoRow.holds Try.pinned (OpenSpec.upto memNilSpec)

/-- 'smithylaw22.PoolSteps', WHERE WHAT IT READS IS OF BULK AT MOST 1048576: true; the input reads as it did. -/
def poolStepsUptoRow : OpenClaim := { program := "ytfjigoimjaemmaa", sum := "26674c1bca39dfb9ee1c9f91998b7c49115fe63ba240323ca847a6d15d7ea16a", func := "smithy/smithylaw22.PoolSteps", spec := "poolSteps", unfollowed := true, recurses := true, plainKeys := false, apart := false, narrowed := true }
def PoolStepsUptoSaid : Prop := poolStepsUptoRow.holds Try.pinned (OpenSpec.upto poolStepsSpec)

/-- 'smithylaw22.PoolNonces', WHERE WHAT IT READS IS OF BULK AT MOST 1048576: true; the input reads as it did. -/
def poolNoncesUptoRow : OpenClaim := { program := "ytfjigoimjaemmaa", sum := "26674c1bca39dfb9ee1c9f91998b7c49115fe63ba240323ca847a6d15d7ea16a", func := "smithy/smithylaw22.PoolNonces", spec := "poolNonces", unfollowed := true, recurses := true, plainKeys := false, apart := false, narrowed := true }
def PoolNoncesUptoSaid : Prop := poolNoncesUptoRow.holds Try.pinned (OpenSpec.upto poolNoncesSpec)

/-- 'smithylaw22.PoolPlays', WHERE WHAT IT READS IS OF BULK AT MOST 1048576: true; the input reads as it did. -/
def poolPlaysUptoRow : OpenClaim := { program := "ytfjigoimjaemmaa", sum := "26674c1bca39dfb9ee1c9f91998b7c49115fe63ba240323ca847a6d15d7ea16a", func := "smithy/smithylaw22.PoolPlays", spec := "poolPlays", unfollowed := true, recurses := true, plainKeys := false, apart := false, narrowed := true }
def PoolPlaysUptoSaid : Prop := poolPlaysUptoRow.holds Try.pinned (OpenSpec.upto poolPlaysSpec)

end Rows
end Go.Proofs.Ytfjigoimjaemmaa
