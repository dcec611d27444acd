/- the filter's search: slices.Index, slices.Contains of words; fits. -/
import Derived.Test.YtfjigoimjaemmaaDoorFindW
namespace Go.Proofs.YtfjigoimjaemmaaDoor
open Go.RowKit
set_option linter.unusedSimpArgs false
set_option linter.unusedVariables false
set_option maxRecDepth 100000
attribute [local go_sem ↓] Go.wp_at_zero Go.wp_at_succ

/-- is a word one of the first k? -/
def hasW (x : Nat → Nat → Int) (v : Nat → Int) : Nat → Bool
  | 0 => false
  | k + 1 => hasW x v k || decide (tl 4 v = tl 4 (x k))
theorem hasW_true {x : Nat → Nat → Int} {v : Nat → Int} {k n : Nat} (h : hasW x v k = true) (hk : k ≤ n) : hasW x v n = true := by
  induction n with
  | zero => obtain rfl : k = 0 := by omega
            exact h
  | succ n ih =>
    by_cases h1 : k = n + 1
    · subst h1; exact h
    · rw [hasW, ih (by omega)]; rfl
/-- what Index answers -/
def IdxOut (x : Nat → Nat → Int) (v : Nat → Int) (n : Nat) (e : Ending) : Prop := ∃ r : Int, e = .returned (.int .i64 r) ∧ decide (0 ≤ r) = hasW x v n

set_option maxHeartbeats 4000000 in
theorem indexW_any (A : Option Addr) (n c : Nat) (x : Nat → Nat → Int) (v : Nat → Int) (w : World) (hx : Words w A n x) (hn : n ≤ 1000000) :
    Calls Tryd.prog 114 #[.slice A n c, wv v] w fun e w' => IdxOut x v n e ∧ Below w.heap.size w w' := by
  have hb0 := Lib.hid (show Below w.heap.size w (w.alloc (.cells (tab 4 .u64 v) 47)) from (Below.refl _ _).alloc (Nat.le_refl _) _)
  have r0 : rowOf (w.alloc (.cells (tab 4 .u64 v) 47)) w.heap.size = tab 4 .u64 v := rowOf_alloc_at _ _ _ _ rfl
  have z0 : w.heap.size < (w.alloc (.cells (tab 4 .u64 v) 47)).heap.size := by simp
  have hx' := Lib.hid hx
  clear hx
  go_enter Tryd.func114, Tryd.ntmps114
  go_wp2
  obtain ⟨w0, hw0⟩ : ∃ W, w.alloc (.cells (tab 4 .u64 v) 47) = W := ⟨_, rfl⟩
  rw [hw0] at hb0 r0 z0 ⊢
  clear hw0
  go_loopw [8] (fun i wr => ∃ k : Nat, k ≤ n ∧ i = .int .i64 k ∧ hasW x v k = false ∧ Below w0.heap.size w0 wr) (fun i _ => n - (intOf i).toNat)
  case atStart => exact ⟨0, by omega, rfl, rfl, Below.refl _ _⟩
  case round =>
    obtain ⟨k, hk, rfl, hall, hb⟩ := hrel
    have hb9 := Lib.hid hb
    have hsz9 := hb.size
    have hBr := Lib.hid (hb0.out.trans (hb.mono (by omega)))
    have t1 := (rowOf_below hb z0).trans r0
    have z1 : w.heap.size < wr.heap.size := by omega
    have hall' := Lib.hid hall
    clear hb r0 hall
    by_cases hlt : k < n
    · obtain ⟨a, rfl, ha, hld⟩ := (hx'.out.below (Nat.le_refl _) hBr.out.drew).load hlt
      have hki : (k : Int) < (n : Int) := by omega
      obtain ⟨E, hE⟩ : ∃ E, decide (tl 4 v = tl 4 (x k)) = E := ⟨_, rfl⟩
      have hs : hasW x v (k + 1) = E := by rw [hasW, hall'.out, hE]; rfl
      have hs' := Lib.hid hs
      clear hs
      go_wp2
      cases E
      all_goals
        first
        | go_region
        | fail
      all_goals go_wp2
      all_goals first
        | exact ⟨⟨k + 1, by omega, by go_num, hs'.out, hb9.out.drew⟩, by simp [intOf]; omega⟩
        | (go_ret; exact ⟨⟨k, rfl, by rw [hasW_true hs'.out (by omega)]; exact decide_eq_true (by omega)⟩, hBr.out.drew⟩)
    · obtain rfl : k = n := by omega
      go_wp2
      go_ret
      exact ⟨⟨-1, rfl, by rw [hall'.out]; rfl⟩, hBr.out⟩

theorem containsW_any (A : Option Addr) (n c : Nat) (x : Nat → Nat → Int) (v : Nat → Int) (w : World) (hx : Words w A n x) (hn : n ≤ 1000000) :
    Calls Tryd.prog 100 #[.slice A n c, wv v] w fun e w' => e = .returned (.bool (hasW x v n)) ∧ Below w.heap.size w w' := by
  have hb0 := Lib.hid (show Below w.heap.size w (w.alloc (.cells (tab 4 .u64 v) 47)) from (Below.refl _ _).alloc (Nat.le_refl _) _)
  have hI := Lib.hid (indexW_any A n c x v _ (hx.below (Nat.le_refl _) hb0.out) hn)
  clear hx
  go_enter Tryd.func100, Tryd.ntmps100
  go_wp2_with (go_at_call 114; refine hI.out.mono ?_; rintro e w1 ⟨⟨r, rfl, hr⟩, hb1⟩; have hr' := Lib.hid hr; clear hr)
  go_ret
  exact ⟨by rw [← hr'.out]; rfl, hb0.out.trans (hb1.mono (by simp))⟩

/-- has a log the first k words? -/
def allC (o : LogV) (x : Nat → Nat → Int) : Nat → Bool
  | 0 => true
  | k + 1 => allC o x k && hasW o.tx (x k) o.tn
theorem allC_false {o : LogV} {x : Nat → Nat → Int} {k n : Nat} (h : allC o x k = false) (hk : k ≤ n) : allC o x n = false := by
  induction n with
  | zero => obtain rfl : k = 0 := by omega
            exact h
  | succ n ih =>
    by_cases h1 : k = n + 1
    · subst h1; exact h
    · rw [allC, ih (by omega)]; rfl
/-- does a log fit? -/
def fitF (o : LogV) (f : Nat → Int) (x : Nat → Nat → Int) (n : Nat) : Bool := allC o x n && decide (tl 20 o.addr = tl 20 f)

set_option maxHeartbeats 4000000 in
theorem fits_any (o : LogV) (f : Nat → Int) (A : Option Addr) (n c : Nat) (x : Nat → Nat → Int) (w : World) (ho : o.Ok w) (hx : Words w A n x) (hn : n ≤ 1000000) (htn : o.tn ≤ 1000000) :
    Calls Tryd.prog 74 #[.agg o.row, .agg (tab 20 .u8 f), .slice A n c] w fun e w' => e = .returned (.bool (fitF o f x n)) ∧ Below w.heap.size w w' := by
  have hb0 := Lib.hid (show Below w.heap.size w ((w.alloc (.cells o.row 64)).alloc (.cells (tab 20 .u8 f) 61)) from ((Below.refl _ _).alloc (Nat.le_refl _) _).alloc (by simp) _)
  have r0 : rowOf ((w.alloc (.cells o.row 64)).alloc (.cells (tab 20 .u8 f) 61)) w.heap.size = o.row := (rowOf_alloc_past _ _ _ (by simp)).trans (rowOf_alloc_at _ _ _ _ rfl)
  have u0 : rowOf ((w.alloc (.cells o.row 64)).alloc (.cells (tab 20 .u8 f) 61)) (w.heap.size + 1) = tab 20 .u8 f := rowOf_alloc_at _ _ _ _ (by simp)
  have z0 : w.heap.size + 1 < ((w.alloc (.cells o.row 64)).alloc (.cells (tab 20 .u8 f) 61)).heap.size := by simp
  have hx' := Lib.hid hx
  have ho' := Lib.hid ho
  obtain ⟨tA, htA⟩ : ∃ tA, o.tA = tA := ⟨_, rfl⟩
  have hCo := Lib.hid fun (w1 : World) (h : Below w.heap.size w w1) (v : Nat → Int) => containsW_any o.tA o.tn o.tc o.tx v w1 (ho.topics.below (Nat.le_refl _) h) htn
  rw [htA] at hCo
  clear hx ho
  go_enter Tryd.func74, Tryd.ntmps74
  go_wp2
  obtain ⟨w0, hw0⟩ : ∃ W, (w.alloc (.cells o.row 64)).alloc (.cells (tab 20 .u8 f) 61) = W := ⟨_, rfl⟩
  rw [hw0] at hb0 r0 u0 z0 ⊢
  clear hw0
  go_loopw [11] (fun i wr => ∃ k : Nat, k ≤ n ∧ i = .int .i64 k ∧ allC o x k = true ∧ Below w0.heap.size w0 wr) (fun i _ => n - (intOf i).toNat)
  case atStart => exact ⟨0, by omega, rfl, rfl, Below.refl _ _⟩
  case round =>
    obtain ⟨k, hk, rfl, hall, hb⟩ := hrel
    have hb9 := Lib.hid hb
    have hsz9 := hb.size
    have hBr := Lib.hid (hb0.out.trans (hb.mono (by omega)))
    have t1 := (rowOf_below hb (show w.heap.size < _ by omega)).trans r0
    have t2 := (rowOf_below hb z0).trans u0
    have z1 : w.heap.size + 1 < wr.heap.size := by omega
    have z2 : w.heap.size < wr.heap.size := by omega
    have hall' := Lib.hid hall
    clear hb r0 u0 hall
    by_cases hlt : k < n
    · obtain ⟨a, rfl, _, hld⟩ := (hx'.out.below (Nat.le_refl _) hBr.out).load hlt
      have hki : (k : Int) < (n : Int) := by omega
      have hC := Lib.hid (hCo.out (wr.alloc (.cells (tab 4 .u64 (x k)) 47)) (hBr.out.alloc (by omega) _) (x k))
      obtain ⟨E, hE⟩ : ∃ E, hasW o.tx (x k) o.tn = E := ⟨_, rfl⟩
      have hs : allC o x (k + 1) = E := by rw [allC, hall'.out, hE]; rfl
      rw [hE] at hC
      have hs' := Lib.hid hs
      clear hE hs
      cases E
      all_goals go_wp2_with (go_at_call 100; refine hC.out.mono ?_; rintro e w3 ⟨rfl, hb3⟩; have hB3 := Lib.hid (((Below.refl wr.heap.size wr).alloc (Nat.le_refl _) (.cells (tab 4 .u64 (x k)) 47)).trans (hb3.mono (by simp))))
      all_goals first
        | exact ⟨⟨k + 1, by omega, by go_num, hs'.out, hb9.out.trans (hB3.out.mono (by omega))⟩, by simp [intOf]; omega⟩
        | (go_ret; exact ⟨by rw [fitF, allC_false hs'.out (by omega)]; rfl, hBr.out.trans (hB3.out.mono (by omega))⟩)
    · obtain rfl : k = n := by omega
      have hca : CellsAt wr ⟨w.heap.size, 0, none⟩ (tab 20 .u8 o.addr).toList := ⟨z2, fun i v hv => by
        have hi : i < 20 := by
          have := (List.getElem?_eq_some_iff.1 hv).1
          rw [Array.length_toList, tab_size] at this; exact this
        rw [Array.getElem?_toList, tab_get, if_pos hi] at hv
        rw [Addr.add_lit, cell_of_rowOf, t1, Nat.zero_add, LogV.row_addr _ _ hi, hv]⟩
      have hla := hca.load (P := Tryd.prog) Tryd.isAgg61 (fun w => by rw [tab_size]; exact Tryd.sizeOf61 w)
      clear hca
      go_wp2
      go_ret
      exact ⟨by rw [fitF, hall'.out]; rfl, hBr.out⟩
end Go.Proofs.YtfjigoimjaemmaaDoor
