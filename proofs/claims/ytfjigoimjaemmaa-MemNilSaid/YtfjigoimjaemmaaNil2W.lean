/- a nil memory, a nil stack: MemNil's walk. -/
import Derived.Test.YtfjigoimjaemmaaNilW
import Derived.Test.YtfjigoimjaemmaaMem5W
import Derived.Test.YtfjigoimjaemmaaMem10W
namespace Go.Proofs.Ytfjigoimjaemmaa
open Go.RowKit Go.ChangeShapes Go.WideShapes Go.ChangeAt
set_option linter.unusedSimpArgs false
set_option linter.unusedVariables false
set_option maxRecDepth 100000

set_option maxHeartbeats 2000000 in
theorem memNil_any (o : OpV) (w : World) (ho : o.Ok w) :
    Calls Try.prog 15 #[.agg o.row] w fun e w' => e = .returned (.bool true) ∧ Below w.heap.size w w' := by
  have hb0 : Below w.heap.size w (w.alloc (.cells o.row 53)) := (Below.refl _ _).alloc (Nat.le_refl _) _
  have hr0 : rowOf (w.alloc (.cells o.row 53)) w.heap.size = o.row := rowOf_alloc_at _ _ _ _ rfl
  by_cases hbig : 1000 < o.len
  · have hbi : (1000 : Int) < (o.len : Int) := by omega
    clear ho hbig
    go_enter Try.func15, Try.ntmps15
    go_wp2_with (go_at_call 32; refine (fixed10_any _).mono ?_; rintro e w1 ⟨rfl, hb1⟩)
    go_ret
    exact ⟨rfl, hb0.trans (hb1.mono (by simp))⟩
  · have hbi : ¬ (1000 : Int) < (o.len : Int) := by omega
    have hsw := Lib.hid fun (w1 : World) => nilSetWord w1 o.n _ ho.w64a
    have hz := Lib.hid fun (w1 : World) => refWord_any zf (fun i hi => by simp [zf]) w1
    obtain ⟨G, hG⟩ : ∃ G, wdF zf = G := ⟨_, rfl⟩
    rw [hG] at hz
    have hnw := Lib.hid fun (w1 : World) (a : Int) => nilWord w1 a
    rw [hG] at hnw
    have hb0' := Lib.hid hb0
    clear ho hbig hG hb0
    go_enter Try.func15, Try.ntmps15
    go_wp2_with (first
      | (go_at_call 38; refine (nilCost _ _ _).mono ?_; rintro e w1 ⟨rfl, hb1⟩; have hB1 := Lib.hid (hb0'.out.trans (hb1.mono (by simp))); have gs1 := hb1.size; simp only [World.size_alloc] at gs1; have r1 := (rowOf_below hb1 (show w.heap.size < _ by simp)).trans hr0)
      | (go_at_call 55; refine (nilWrite _ _ _ _ _).mono ?_; rintro e w2 ⟨rfl, rfl⟩)
      | (go_at_call 57; refine (nilCopy _ _ _ _).mono ?_; rintro e w2 ⟨rfl, rfl⟩)
      | (go_at_call 59; refine (hsw.out _).mono ?_; rintro e w3 ⟨rfl, hb3⟩; have hB3 := Lib.hid (hB1.out.trans (hb3.mono (by omega))); have gs3 := hb3.size; have r3 := (rowOf_below hb3 (show w.heap.size < _ by omega)).trans r1)
      | (go_at_call 51; refine (nilPop _).mono ?_; rintro e w4 ⟨rfl, hb4⟩; have hB4 := Lib.hid (hB3.out.trans (hb4.mono (by omega))); have gs4 := hb4.size; have r4 := (rowOf_below hb4 (show w.heap.size < _ by omega)).trans r3)
      | (go_at_call 32; refine (fixed10_any _).mono ?_; rintro e w5 ⟨rfl, hb5⟩; have hB5 := Lib.hid ((hB4.out.alloc (by omega) _).trans (hb5.mono (by simp; omega))); have gs5 := hb5.size; simp only [World.size_alloc] at gs5; have r5 := (rowOf_below hb5 (show w.heap.size < _ by simp; omega)).trans ((rowOf_alloc_past _ _ _ (by omega)).trans r4); have z5 := (rowOf_below hb5 (show w4.heap.size < _ by simp)).trans (rowOf_alloc_at _ _ _ _ rfl))
      | (go_at_call 39; refine (nilLen _).mono ?_; rintro e w6 ⟨rfl, rfl⟩)
      | (go_at_call 36; refine (nilReach _ _ _).mono ?_; rintro e w7 ⟨rfl, hb7⟩; have hB7 := Lib.hid (hB5.out.trans (hb7.mono (by omega))); have gs7 := hb7.size; have r7 := (rowOf_below hb7 (show w.heap.size < _ by omega)).trans r5; have z7 := (rowOf_below hb7 (show w4.heap.size < _ by omega)).trans z5)
      | (go_at_call 61; refine (nilRead _ _ _).mono ?_; rintro e w6 ⟨rfl, rfl⟩)
      | (go_at_call 62; refine (hnw.out _ _).mono ?_; rintro e w8 ⟨rfl, hb8⟩; have hB8 := Lib.hid (hB7.out.trans (hb8.mono (by omega))); have gs8 := hb8.size; have r8 := (rowOf_below hb8 (show w.heap.size < _ by omega)).trans r7; have z8 := (rowOf_below hb8 (show w4.heap.size < _ by omega)).trans z7)
      | (go_at_call 66; refine (hz.out _).mono ?_; rintro e w9 ⟨rfl, hb9⟩; have hB9 := Lib.hid (hB8.out.trans (hb9.mono (by omega))); have gs9 := hb9.size; have r9 := (rowOf_below hb9 (show w.heap.size < _ by omega)).trans r8; have z9 := (rowOf_below hb9 (show w4.heap.size < _ by omega)).trans z8)
      | (go_at_call 53; refine (nilSLen _).mono ?_; rintro e w6 ⟨rfl, rfl⟩)
      | (go_at_call 49; refine (nilPush _ _).mono ?_; rintro e w10 ⟨rfl, hb10⟩; have hB10 := Lib.hid (hB9.out.trans (hb10.mono (by omega))); have gs10 := hb10.size; have r10 := (rowOf_below hb10 (show w.heap.size < _ by omega)).trans r9; have z10 := (rowOf_below hb10 (show w4.heap.size < _ by omega)).trans z9)
      | (go_at_call 50; refine (nilDup _ _).mono ?_; rintro e w6 ⟨rfl, rfl⟩)
      | (go_at_call 52; refine (nilSwap _ _).mono ?_; rintro e w6 ⟨rfl, rfl⟩)
      | (go_at_call 65; refine (nilAll _).mono ?_; rintro e w6 ⟨rfl, rfl⟩))
    go_ret
    exact ⟨rfl, hB10.out⟩

theorem open_op {H : Type} {enc : TypeId × Value → H} {w : World} {b0 : Nat} {v : Value} {d : DataW H} {ps : List MemPlace} (hv : Value.okWide Try.prog w .any b0 53 v)
    (h : DataW.Trod enc Try.prog w 0 (fun _ => true) true 53 v d ps) : ∃ o : OpV, v = .agg o.row ∧ o.Ok w := by
  have hv' : ∃ cs, v = Value.agg cs := by
    unfold Value.okWide at hv
    rw [Try.underlying53] at hv
    obtain ⟨cs, h1, _⟩ := hv
    exact ⟨cs, h1⟩
  obtain ⟨cs, rfl⟩ := hv'
  obtain ⟨fuel, hf⟩ := h
  obtain ⟨fl, rfl⟩ : ∃ fl, fuel = fl + 1 := by
    cases fuel with
    | zero => simp [DataW.trod] at hf
    | succ n => exact ⟨n, rfl⟩
  obtain ⟨o, hcs, ho⟩ := trod_op hf
  refine ⟨o, ?_, ho⟩
  congr 1
  simp only [Value.cells] at hcs
  exact Array.toList_inj.1 hcs
end Go.Proofs.Ytfjigoimjaemmaa
