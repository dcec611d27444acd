/- The frame of a law's proof where the row lists the tables of the rounds: from the listing to the tables' blocks; a start that meets it; the card. -/
import Derived.Test.YtfjigoimjaemmaaDoorFrame
import Derived.Test.YtfjigoimjaemmaaDoorKecRW
import Derived.Test.YtfjigoimjaemmaaDoorTie
import Derived.Test.YtfjigoimjaemmaaDoorCards
import Derived.Lib.LaidTab
import Derived.Lay
import Derived.LaidLaws
import Derived.Handed
import Derived.SevenTiedAt
namespace Go.Proofs.YtfjigoimjaemmaaDoor
open Go.ChangeShapes Go.WideShapes Go.ChangeAt Go.RowKit
set_option linter.unusedSimpArgs false
set_option linter.unusedVariables false
set_option maxRecDepth 100000

def laidL : List (String × DataW Unit) := [("smithy/keccak.constants", Rows.laid_smithy_keccak_constants), ("smithy/keccak.turns", Rows.laid_smithy_keccak_turns), ("smithy/keccak.places", Rows.laid_smithy_keccak_places)]
theorem laidL_eq : laidL = [("smithy/keccak.constants", Lib.tabData .u64 cstL), ("smithy/keccak.turns", Lib.tabData .i64 trnL), ("smithy/keccak.places", Lib.tabData .i64 plcL)] := rfl

/-- a listed table's cells -/
theorem tabIs_mem {P : Program} {W : World} {l : List (String × DataW Unit)} {name : String} {k : IntKind} {zs : List Int} {g : Nat} {t e : TypeId} {n : Nat}
    (hg : P.globalNamed name = some g) (hty : (P.globals[g]?).map (·.type) = some t) (ht : P.underlying t = some (.array n e)) (he : P.underlying e = some (.int k)) (hce : P.cellsOf e = 1) (hct : P.cellsOf t = n)
    (hm : (name, Lib.tabData k zs) ∈ l) : ∀ ps, DataW.LaidVars P W l ps → Lib.TabIs P W name k zs := by
  induction l with
  | nil => cases hm
  | cons x l ih =>
    intro ps h
    obtain ⟨nm, d⟩ := x
    obtain ⟨g', t', cs, fuel, p, q, hg', ht', hvar, hd, hrest, _⟩ := h
    rcases List.mem_cons.1 hm with hx | hx
    · cases hx
      obtain rfl := Option.some.inj (hg.symm.trans hg')
      obtain rfl := Option.some.inj (hty.symm.trans ht')
      unfold Lib.TabIs
      rw [hvar, ← Lib.cells_of_tab ht he hce hct hd]
    · exact ih hx _ hrest

theorem row_of_tab {P : Program} {W : World} {name : String} {k : IntKind} {zs : List Int} {g n : Nat} {f : Nat → Int} (hg : P.globalNamed name = some g) (h : Lib.TabIs P W name k zs) (hz : zs = tl n f) (hn : 0 < n) : rowOf W g = tab n k f ∧ g < W.heap.size := by
  have hv : W.var? P name = some (zs.map fun z => Value.int k z).toArray := h
  simp only [World.var?, hg, Option.bind_some] at hv
  split at hv
  · rename_i cs t fr hc
    have e := Option.some.inj hv
    subst hz
    exact ⟨by rw [rowOf_of hc, e]; rfl, (Array.getElem?_eq_some_iff.1 hc).1⟩
  · cases hv

theorem klaid_of {W : World} (h : laidMetH Tryd.prog laidL W) : KLaid W := by
  have h' : laidMet Tryd.prog laidL W := h
  obtain ⟨ps, hv, _⟩ := h'
  rw [laidL_eq] at hv
  have h0 := row_of_tab (n := 24) (k := .u64) (zs := cstL) (f := cstF) (g := 0) (by kernel_rfl) (tabIs_mem (name := "smithy/keccak.constants") (g := 0) (by kernel_rfl) (by kernel_rfl) Tryd.underlying97 Tryd.underlying22 (by kernel_rfl) (by kernel_rfl) (by simp) ps hv) (by decide) (by omega)
  have h1 := row_of_tab (n := 24) (k := .i64) (zs := plcL) (f := plcF) (g := 1) (by kernel_rfl) (tabIs_mem (name := "smithy/keccak.places") (g := 1) (by kernel_rfl) (by kernel_rfl) Tryd.underlying145 Tryd.underlying3 (by kernel_rfl) (by kernel_rfl) (by simp) ps hv) (by decide) (by omega)
  have h2 := row_of_tab (n := 24) (k := .i64) (zs := trnL) (f := trnF) (g := 2) (by kernel_rfl) (tabIs_mem (name := "smithy/keccak.turns") (g := 2) (by kernel_rfl) (by kernel_rfl) Tryd.underlying145 Tryd.underlying3 (by kernel_rfl) (by kernel_rfl) (by simp) ps hv) (by decide) (by omega)
  exact ⟨h0.1, h1.1, h2.1, by have := h0.2; have := h1.2; have := h2.2; omega⟩

theorem laid_met (os : Os) (args : Array Value) : laidMetH Tryd.prog laidL ((World.laidAll Tryd.prog os laidL).forCall (fun _ _ => 0) ⟨#[], args, []⟩).memory := by
  have h : laidMet Tryd.prog laidL ((World.laidAll Tryd.prog os laidL).forCall (fun _ _ => 0) ⟨#[], args, []⟩).memory := laidMet_laidAll args (by kernel_rfl) (by kernel_rfl)
  exact h

theorem trodVars_none' {H : Type} {enc : TypeId × Value → H} {P : Program} {W : World} {gs : List (DataW H)} {q : List MemPlace} (h : DataW.TrodVars enc P W (fun _ => true) [] gs q) : gs = [] ∧ q = [] := by
  cases gs with
  | nil => exact ⟨rfl, h⟩
  | cons g r => exact absurd h (by intro h; cases h)

set_option maxRecDepth 100000 in
theorem lawLiftD (os : Os) (started : os.Started) (H : Type) (enc : TypeId × Value → H) (F : FuncId) (fn : Func) (s : ChangeSpec) (noInit : Tryd.prog.inits.idxOf? F = none) (hF : Tryd.prog.funcs[F]? = some fn)
    (hv : s.vars = []) (hr : fn.resultTypes.toList = [4]) (hs : ∀ (ds : List (DataW H)), ds.length = fn.params.toList.length → s.fn H ds = { results := [.lit (.bool true)], args := ds })
    (hp : (fn.params.toList.all fun t => Tryd.prog.readableRec t && decide (t < Tryd.prog.types.size)) = true)
    (witness : ∃ (w : World) (tape : Tape) (i : Input), w.os = os ∧ (w.forCall tape i).Shaped Tryd.prog ∧ i.vars = [] ∧ Input.okWide Tryd.prog (w.forCall tape i) .any w.heap.size F i ∧
      ((s.pre enc Tryd.prog fn [] false (w.forCall tape i).memory i.args ∧ laidMetH Tryd.prog laidL (w.forCall tape i).memory) ∧ sizedMet enc Tryd.prog fn (OpenSpec.ofChange s) false (w.forCall tape i).memory i.args) ∧ ({} : Assume).holds Tryd.prog (lone (Frame.enter Tryd.prog F i.args .normal) [] (w.forCall tape i)))
    (walk : ∀ (W : World) (args : Array Value) (ds : List (DataW H)) (ps : List MemPlace), KLaid W → ArgsIn enc fn W args ds ps → Calls Tryd.prog F args W fun e W' => e = .returned (.bool true) ∧ Below W.heap.size W W') :
    ReturnsInHanded {} Tryd.checked os F .any (fun w args => (s.pre enc Tryd.prog fn [] false w args ∧ laidMetH Tryd.prog laidL w) ∧ sizedMet enc Tryd.prog fn (OpenSpec.ofChange s) false w args) (s.post enc Tryd.prog fn false true false false) := by
  refine returnsInHanded_of_change_and (C := Tryd.checked) (X := fun w _ => laidMetH Tryd.prog laidL w) (fun _ _ _ hh h => h.of_heap hh) own started noInit hF witness ?_
  intro W base args ds gs before hval hW _ hz hL _
  have hW' := hW
  obtain ⟨p, q, hA, hV, rfl, hfz, hnd⟩ := hW
  rw [hv] at hV
  obtain ⟨rfl, rfl⟩ := trodVars_none' hV
  have hvt : s.plain.varTypes Tryd.prog = [] := by
    unfold DataSpec.varTypes
    rw [show s.plain.vars = [] from hv]
    rfl
  have hz' : (DataW.weightsEach Tryd.prog (fn.params.toList ++ s.plain.varTypes Tryd.prog) (ds ++ [])).all (· ≤ reachBytes) = true := hz
  rw [hvt, List.append_nil, List.append_nil] at hz'
  refine (walk W args ds p (klaid_of hL) ⟨⟨base, hval⟩, hA, hz'⟩).mono fun e W' ⟨he, bel⟩ => ?_
  have hsz : fn.resultTypes.size = 1 := by rw [← Array.length_toList, hr]; rfl
  have hlen := trodAll_length _ _ _ _ hA
  have hspec := hs ds hlen
  rw [List.append_nil] at hW'
  refine ⟨_, he, ds, [], p, [], p, [], hW', ?_, ?_, ?_, bel.frame _, fun h => by cases h⟩
  · rw [hsz, hr, List.append_nil, hspec]
    exact trodAll_mk1 (shut_bool Tryd.underlying4 true)
  · rw [List.append_nil, hspec]
    exact trodAll_below bel _ _ _ _ hp hA
  · rw [List.append_nil, hspec, hv]
    rfl

/-- the start in which the tables lie as listed -/
noncomputable def startD (os : Os) (args : Array Value) : World := (World.laidAll Tryd.prog os laidL).forCall (fun _ _ => 0) ⟨#[], args, []⟩
theorem startD_shaped (os : Os) (args : Array Value) : (startD os args).Shaped Tryd.prog := World.shaped_of_ZipB (by kernel_rfl) (by kernel_rfl)
end Go.Proofs.YtfjigoimjaemmaaDoor
