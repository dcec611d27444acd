/- a nil memory, a nil stack: MemNil. -/
import Derived.Test.YtfjigoimjaemmaaStk2W
import Derived.Test.YtfjigoimjaemmaaMem7W
import Derived.Test.YtfjigoimjaemmaaCutW
namespace Go.Proofs.Ytfjigoimjaemmaa
open Go.RowKit
set_option linter.unusedSimpArgs false
set_option linter.unusedVariables false
set_option maxRecDepth 100000

section
variable (w : World)
theorem nilLen : Calls Try.prog 39 #[.pointer none] w fun e w' => e = .returned (.int .i64 0) ∧ w = w' := by
  go_enter Try.func39, Try.ntmps39
  go_wp2
  go_ret
  exact ⟨rfl, rfl⟩
theorem nilreach (a b : Nat → Int) : Calls Try.prog 82 #[.pointer none, wv a, wv b] w fun e w' => e = .returned (.tuple #[.int .u64 0, .bool false]) ∧ Below w.heap.size w w' := by
  go_enter Try.func82, Try.ntmps82
  go_wp2
  go_ret2
  refine ⟨rfl, ?_⟩
  (repeat' (first | exact Below.refl _ _ | assumption | refine Below.alloc ?_ (by (try simp only [World.size_alloc, World.size_setCell, World.size_drew, setRow_size] at *); first | done | omega) _ | refine Below.setCell ?_ (by (try simp only [World.size_alloc, World.size_setCell, World.size_drew, setRow_size] at *); first | done | omega) _ | refine Below.drew ?_ | refine Below.trans ?_ (Below.mono (by assumption) (by (try simp only [World.size_alloc, World.size_setCell, World.size_drew, setRow_size] at *); first | done | omega)) | refine below_setRow' ?_ (by (try simp only [World.size_alloc, World.size_setCell, World.size_drew, setRow_size] at *); first | done | omega) _))
theorem nilCost (a b : Nat → Int) : Calls Try.prog 38 #[.pointer none, wv a, wv b] w fun e w' => e = .returned (.tuple #[.int .u64 0, .bool false]) ∧ Below w.heap.size w w' := by
  go_enter Try.func38, Try.ntmps38
  go_wp2_with (go_at_call 82; refine (nilreach _ _ _).mono ?_; rintro e w1 ⟨rfl, hb1⟩)
  go_ret2
  refine ⟨rfl, ?_⟩
  (repeat' (first | exact Below.refl _ _ | assumption | refine Below.alloc ?_ (by (try simp only [World.size_alloc, World.size_setCell, World.size_drew, setRow_size] at *); first | done | omega) _ | refine Below.setCell ?_ (by (try simp only [World.size_alloc, World.size_setCell, World.size_drew, setRow_size] at *); first | done | omega) _ | refine Below.drew ?_ | refine Below.trans ?_ (Below.mono (by assumption) (by (try simp only [World.size_alloc, World.size_setCell, World.size_drew, setRow_size] at *); first | done | omega)) | refine below_setRow' ?_ (by (try simp only [World.size_alloc, World.size_setCell, World.size_drew, setRow_size] at *); first | done | omega) _))
theorem nilReach (a b : Nat → Int) : Calls Try.prog 36 #[.pointer none, wv a, wv b] w fun e w' => e = .returned (.bool false) ∧ Below w.heap.size w w' := by
  go_enter Try.func36, Try.ntmps36
  go_wp2_with (go_at_call 82; refine (nilreach _ _ _).mono ?_; rintro e w1 ⟨rfl, hb1⟩)
  go_ret
  refine ⟨rfl, ?_⟩
  (repeat' (first | exact Below.refl _ _ | assumption | refine Below.alloc ?_ (by (try simp only [World.size_alloc, World.size_setCell, World.size_drew, setRow_size] at *); first | done | omega) _ | refine Below.setCell ?_ (by (try simp only [World.size_alloc, World.size_setCell, World.size_drew, setRow_size] at *); first | done | omega) _ | refine Below.drew ?_ | refine Below.trans ?_ (Below.mono (by assumption) (by (try simp only [World.size_alloc, World.size_setCell, World.size_drew, setRow_size] at *); first | done | omega)) | refine below_setRow' ?_ (by (try simp only [World.size_alloc, World.size_setCell, World.size_drew, setRow_size] at *); first | done | omega) _))
theorem nilRead (a n : Int) : Calls Try.prog 61 #[.pointer none, .int .i64 a, .int .i64 n] w fun e w' => e = .returned (.slice none 0 0) ∧ w = w' := by
  go_enter Try.func61, Try.ntmps61
  go_wp2
  go_ret
  exact ⟨rfl, rfl⟩
theorem nilWrite (a : Int) (A : Option Addr) (n c : Nat) : Calls Try.prog 55 #[.pointer none, .int .i64 a, .slice A n c] w fun e w' => e = .returned (.tuple #[]) ∧ w = w' := by
  go_enter Try.func55, Try.ntmps55
  go_wp2
  go_end0
  exact ⟨rfl, rfl⟩
theorem nilCopy (a b n : Int) : Calls Try.prog 57 #[.pointer none, .int .i64 a, .int .i64 b, .int .i64 n] w fun e w' => e = .returned (.tuple #[]) ∧ w = w' := by
  go_enter Try.func57, Try.ntmps57
  go_wp2_with (first
    | (go_at_call 61; refine (nilRead _ _ _).mono ?_; rintro e w1 ⟨rfl, rfl⟩)
    | (go_at_call 55; refine (nilWrite _ _ _ _ _).mono ?_; rintro e w1 ⟨rfl, rfl⟩))
  go_end0
  exact ⟨rfl, rfl⟩
theorem nilSetWord (a : Int) (x : Nat → Int) (hx : W64 x) : Calls Try.prog 59 #[.pointer none, .int .i64 a, wv x] w fun e w' => e = .returned (.tuple #[]) ∧ Below w.heap.size w w' := by
  have hB := Lib.hid fun (w1 : World) => wordBytes_any x hx w1
  clear hx
  go_enter Try.func59, Try.ntmps59
  go_wp2_with (first
    | (go_at_call 88; refine (hB.out _).mono ?_; rintro e w1 ⟨rfl, hb1⟩; have hs1 := hb1.size; simp only [World.size_alloc] at hs1 hb1)
    | (go_at_call 55; refine (nilWrite _ _ _ _ _).mono ?_; rintro e w2 ⟨rfl, rfl⟩))
  go_end0
  exact ⟨rfl, (((Below.refl _ _).alloc (Nat.le_refl _) _).trans (hb1.mono (by omega))).alloc (by omega) _⟩
theorem dgF_zero (x : Nat → Int) : dgF x 0 = zf := by funext i; simp [dgF, zf]
theorem nilWord (a : Int) : Calls Try.prog 62 #[.pointer none, .int .i64 a] w fun e w' => e = .returned (wv (wdF zf)) ∧ Below w.heap.size w w' := by
  have hF := Lib.hid fun (w1 : World) => wordFrom_any none 0 0 zf w1 (fun j hj => absurd hj (by omega)) (by omega) (fun j hj => absurd hj (by omega))
  rw [dgF_zero] at hF
  go_enter Try.func62, Try.ntmps62
  go_wp2_with (first
    | (go_at_call 61; refine (nilRead _ _ _).mono ?_; rintro e w1 ⟨rfl, rfl⟩)
    | (go_at_call 90; refine (hF.out _).mono ?_; rintro e w2 ⟨rfl, hb2⟩; have hs2 := hb2.size; simp only [World.size_alloc] at hs2 hb2; have hq2 : rowFit w2 w.heap.size = some 4 := (rowFit_below hb2 (by omega)).trans (by rw [rowFit_alloc_at _ _ _ _ rfl, tab_size])))
  refine bodyPost_ret (res_word Try.results62 _ _ _ (tab 4 .u64 (wdF zf)) rfl (by rw [rowOf_setRow_same _ _ _ (by rw [hq2]; rfl)]) (by rw [tab_size])) rfl ⟨rfl, ?_⟩
  exact below_setRow' (((Below.refl _ _).alloc (Nat.le_refl _) _).trans (hb2.mono (by omega))) (Nat.le_refl _) _

theorem nilSLen : Calls Try.prog 53 #[.pointer none] w fun e w' => e = .returned (.int .i64 0) ∧ w = w' := by
  go_enter Try.func53, Try.ntmps53
  go_wp2
  go_ret
  exact ⟨rfl, rfl⟩
theorem nilPush (a : Nat → Int) : Calls Try.prog 49 #[.pointer none, wv a] w fun e w' => e = .returned (.bool false) ∧ Below w.heap.size w w' := by
  go_enter Try.func49, Try.ntmps49
  go_wp2
  go_ret
  refine ⟨rfl, ?_⟩
  (repeat' (first | exact Below.refl _ _ | assumption | refine Below.alloc ?_ (by (try simp only [World.size_alloc, World.size_setCell, World.size_drew, setRow_size] at *); first | done | omega) _ | refine Below.setCell ?_ (by (try simp only [World.size_alloc, World.size_setCell, World.size_drew, setRow_size] at *); first | done | omega) _ | refine Below.drew ?_ | refine Below.trans ?_ (Below.mono (by assumption) (by (try simp only [World.size_alloc, World.size_setCell, World.size_drew, setRow_size] at *); first | done | omega)) | refine below_setRow' ?_ (by (try simp only [World.size_alloc, World.size_setCell, World.size_drew, setRow_size] at *); first | done | omega) _))
theorem nilPop : Calls Try.prog 51 #[.pointer none] w fun e w' => e = .returned (.tuple #[wv (fn4 0 0 0 0), .bool false]) ∧ Below w.heap.size w w' := by
  go_enter Try.func51, Try.ntmps51
  go_wp2_with (go_at_call 53; refine (nilSLen _).mono ?_; rintro e w1 ⟨rfl, rfl⟩)
  exact bodyPost_ret (results_cell_tmp Try.results51 _ _ _ (tab 4 .u64 (fn4 0 0 0 0)) (.bool false) 4 Try.isAgg24 Try.sizeOf24 rfl rfl (by simp [go_sem]) (by simp [go_sem])) rfl ⟨rfl, by (repeat' (first | exact Below.refl _ _ | assumption | refine Below.alloc ?_ (by (try simp only [World.size_alloc, World.size_setCell, World.size_drew, setRow_size] at *); first | done | omega) _ | refine Below.setCell ?_ (by (try simp only [World.size_alloc, World.size_setCell, World.size_drew, setRow_size] at *); first | done | omega) _ | refine Below.drew ?_ | refine Below.trans ?_ (Below.mono (by assumption) (by (try simp only [World.size_alloc, World.size_setCell, World.size_drew, setRow_size] at *); first | done | omega)) | refine below_setRow' ?_ (by (try simp only [World.size_alloc, World.size_setCell, World.size_drew, setRow_size] at *); first | done | omega) _))⟩
theorem nilDup (k : Int) : Calls Try.prog 50 #[.pointer none, .int .i64 k] w fun e w' => e = .returned (.bool false) ∧ w = w' := by
  by_cases h0 : k < 1
  · go_enter Try.func50, Try.ntmps50
    go_wp2_with (go_at_call 53; refine (nilSLen _).mono ?_; rintro e w1 ⟨rfl, rfl⟩)
    go_ret
    exact ⟨rfl, rfl⟩
  · have h1 : 0 < k := by omega
    go_enter Try.func50, Try.ntmps50
    go_wp2_with (go_at_call 53; refine (nilSLen _).mono ?_; rintro e w1 ⟨rfl, rfl⟩)
    go_ret
    exact ⟨rfl, rfl⟩
theorem nilSwap (k : Int) : Calls Try.prog 52 #[.pointer none, .int .i64 k] w fun e w' => e = .returned (.bool false) ∧ w = w' := by
  by_cases h0 : k < 1
  · go_enter Try.func52, Try.ntmps52
    go_wp2_with (go_at_call 53; refine (nilSLen _).mono ?_; rintro e w1 ⟨rfl, rfl⟩)
    go_ret
    exact ⟨rfl, rfl⟩
  · have h1 : -1 < k := by omega
    go_enter Try.func52, Try.ntmps52
    go_wp2_with (go_at_call 53; refine (nilSLen _).mono ?_; rintro e w1 ⟨rfl, rfl⟩)
    go_ret
    exact ⟨rfl, rfl⟩
theorem nilAll : Calls Try.prog 65 #[.pointer none] w fun e w' => e = .returned (.slice none 0 0) ∧ w = w' := by
  go_enter Try.func65, Try.ntmps65
  go_wp2
  go_ret
  exact ⟨rfl, rfl⟩
end
end Go.Proofs.Ytfjigoimjaemmaa
