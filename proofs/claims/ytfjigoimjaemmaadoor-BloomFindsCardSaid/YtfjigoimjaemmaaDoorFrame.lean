/- The frame of a law's proof: from a walk that returns true, and leaves all that was there as it was, to the row. -/
import Derived.Test.YtfjigoimjaemmaaDoorRows
import Derived.WalkKit
import Derived.ProofKit
import Derived.OpenShut
import Derived.ShutString
import Derived.ChangeOld
import Derived.Below
import Derived.SizedLaws
namespace Go.Proofs.YtfjigoimjaemmaaDoor
open Go.ChangeShapes Go.WideShapes Go.ChangeAt Go.RowKit
set_option linter.unusedSimpArgs false
set_option linter.unusedVariables false

theorem own : ownKnob Tryd.prog.godebug = none := by kernel_rfl
theorem laidOut : laidOutB Tryd.prog = true := by kernel_rfl

theorem trodAll_below {H : Type} {enc : TypeId × Value → H} {W W' : World} (hb : Below W.heap.size W W') : ∀ (ts : List TypeId) (vs : List Value) (ds : List (DataW H)) (ps : List MemPlace),
    (ts.all fun t => Tryd.prog.readableRec t && decide (t < Tryd.prog.types.size)) = true → DataW.TrodAll enc Tryd.prog W 0 (fun _ => true) true ts vs ds ps →
    DataW.TrodAll enc Tryd.prog W' 0 (fun b => decide (b < W.heap.size)) true ts vs ds ps := by
  intro ts
  induction ts with
  | nil =>
    intro vs ds ps _ h
    obtain ⟨rfl, rfl, rfl⟩ := trodAll_nil h
    exact trodAll_mk0
  | cons t ts ih =>
    intro vs ds ps hr h
    simp only [List.all_cons, Bool.and_eq_true, decide_eq_true_eq] at hr
    obtain ⟨v, vs', d, ds', p, q, rfl, rfl, rfl, h0, h1⟩ := trodAll_cons h
    obtain ⟨m, hm⟩ := h0
    exact trodAll_cons_mk (Below.trod laidOut hr.1.1 hr.1.2 ⟨m, hm⟩ hb (DataW.trod_lt m _ _ _ hm)) (ih vs' ds' q hr.2 h1)

theorem trodAll_length {H : Type} {enc : TypeId × Value → H} {P : Program} {W : World} {b : Nat} {sp : Nat → Bool} {hd : Bool} : ∀ (ts : List TypeId) (vs : List Value) (ds : List (DataW H)) (ps : List MemPlace),
    DataW.TrodAll enc P W b sp hd ts vs ds ps → ds.length = ts.length := by
  intro ts
  induction ts with
  | nil =>
    intro vs ds ps h
    obtain ⟨rfl, rfl, rfl⟩ := trodAll_nil h
    rfl
  | cons t ts ih =>
    intro vs ds ps h
    obtain ⟨v, vs', d, ds', p, q, rfl, rfl, rfl, h0, h1⟩ := trodAll_cons h
    simp [ih _ _ _ h1]

/-- what a law's walk is told of its arguments -/
def ArgsIn {H : Type} (enc : TypeId × Value → H) (fn : Func) (W : World) (args : Array Value) (ds : List (DataW H)) (ps : List MemPlace) : Prop :=
  (∃ base : Nat, ∀ (j : Nat) t v, fn.params[j]? = some t → args[j]? = some v → Value.okWide Tryd.prog W .any base t v) ∧
  DataW.TrodAll enc Tryd.prog W 0 (fun _ => true) true fn.params.toList args.toList ds ps ∧
  (DataW.weightsEach Tryd.prog fn.params.toList ds).all (· ≤ reachBytes) = true

set_option maxRecDepth 100000 in
theorem lawLift (os : Os) (started : os.Started) (H : Type) (enc : TypeId × Value → H) (F : FuncId) (fn : Func) (s : ChangeSpec) (noInit : Tryd.prog.inits.idxOf? F = none) (hF : Tryd.prog.funcs[F]? = some fn)
    (hv : s.vars = []) (hr : fn.resultTypes.toList = [4]) (hs : ∀ (ds : List (DataW H)), ds.length = fn.params.toList.length → s.fn H ds = { results := [.lit (.bool true)], args := ds })
    (hp : (fn.params.toList.all fun t => Tryd.prog.readableRec t && decide (t < Tryd.prog.types.size)) = true)
    (witness : ∃ (w : World) (tape : Tape) (i : Input), w.os = os ∧ (w.forCall tape i).Shaped Tryd.prog ∧ i.vars = [] ∧ Input.okWide Tryd.prog (w.forCall tape i) .any w.heap.size F i ∧
      s.pre6 enc Tryd.prog fn [] false (w.forCall tape i).memory i.args ∧ ({} : Assume).holds Tryd.prog (lone (Frame.enter Tryd.prog F i.args .normal) [] (w.forCall tape i)))
    (walk : ∀ (W : World) (args : Array Value) (ds : List (DataW H)) (ps : List MemPlace), ArgsIn enc fn W args ds ps → Calls Tryd.prog F args W fun e W' => e = .returned (.bool true) ∧ Below W.heap.size W W') :
    ReturnsInHanded {} Tryd.checked os F .any (s.pre6 enc Tryd.prog fn [] false) (s.post enc Tryd.prog fn false true false false) := by
  refine returnsInHanded_of_change_sized (C := Tryd.checked) own started noInit hF witness ?_
  intro W base args ds gs before hval hW _ hz _
  have hW' := hW
  obtain ⟨p, q, hA, hV, rfl, hfz, hnd⟩ := hW
  rw [hv] at hV
  obtain ⟨rfl, rfl⟩ := trodVars_none hV
  have hvt : s.plain.varTypes Tryd.prog = [] := by
    unfold DataSpec.varTypes
    rw [show s.plain.vars = [] from hv]
    rfl
  have hz' : (DataW.weightsEach Tryd.prog (fn.params.toList ++ s.plain.varTypes Tryd.prog) (ds ++ [])).all (· ≤ reachBytes) = true := hz
  rw [hvt, List.append_nil, List.append_nil] at hz'
  refine (walk W args ds p ⟨⟨base, hval⟩, hA, hz'⟩).mono fun e W' ⟨he, bel⟩ => ?_
  have hsz : fn.resultTypes.size = 1 := by rw [← Array.length_toList, hr]; rfl
  have hlen := trodAll_length _ _ _ _ hA
  have hspec := hs ds hlen
  rw [List.append_nil] at hW'
  refine ⟨_, he, ds, [], p, [], p, [], hW', ?_, ?_, ?_, bel.frame _, fun h => by cases h⟩
  · rw [hsz, hr, List.append_nil, hspec]
    exact trodAll_mk1 (shut_bool Tryd.underlying4 true)
  · rw [List.append_nil, hspec]
    exact trodAll_below bel _ _ _ _ hp hA
  · rw [List.append_nil, hspec, hv]
    rfl

end Go.Proofs.YtfjigoimjaemmaaDoor
