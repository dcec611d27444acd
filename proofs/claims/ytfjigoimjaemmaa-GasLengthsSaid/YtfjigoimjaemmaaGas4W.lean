/- gas: the walk of GasLengths. -/
import Derived.Test.YtfjigoimjaemmaaGas3W
import Derived.Test.YtfjigoimjaemmaaWordW
import Derived.Deep.RegionHeld3
import Derived.Deep.DrawnRows
namespace Go.Proofs.Ytfjigoimjaemmaa
open Go.RowKit
set_option linter.unusedSimpArgs false
set_option linter.unusedVariables false
set_option maxRecDepth 100000

noncomputable def expF (a : Nat → Int) : Int := 10 + 50 * (((lenB (bitW a) : Int) + 7) / 8)
theorem expF_bd {a : Nat → Int} (ha : W64 a) : 0 ≤ expF a ∧ expF a ≤ 1660 := by have := lenB_le ha; unfold expF; omega

set_option maxHeartbeats 400000 in
theorem gasExp_any (a : Nat → Int) (ha : W64 a) (w : World) :
    Calls Try.prog 41 #[wv a] w fun e w' => e = .returned (.int .u64 (expF a)) ∧ Below w.heap.size w w' := by
  have hl := lenB_le ha
  have ha' := Lib.hid ha
  clear ha
  go_enter Try.func41, Try.ntmps41
  go_wp2_with (first
    | (go_at_call 115; refine (wordLen_val a ha'.out _).mono ?_; rintro e w1 ⟨rfl, hb1⟩; have hs1 := hb1.size)
    | (go_at_call 85; go_in))
  go_ret
  refine ⟨ret_num (by unfold expF; omega), ?_⟩
  (repeat' (first | exact Below.refl _ _ | assumption | refine Below.alloc ?_ (by (try simp only [World.size_alloc, World.size_setCell, World.size_drew, setRow_size] at *); omega) _ | refine Below.setCell ?_ (by (try simp only [World.size_alloc, World.size_setCell, World.size_drew, setRow_size] at *); omega) _ | refine Below.drew ?_ | refine Below.trans ?_ (Below.mono (by assumption) (by (try simp only [World.size_alloc, World.size_setCell, World.size_drew, setRow_size] at *); omega)) | refine below_setRow' ?_ (by (try simp only [World.size_alloc, World.size_setCell, World.size_drew, setRow_size] at *); omega) _))

set_option maxHeartbeats 400000 in
theorem refExp_any (a : Nat → Int) (ha : W64 a) (w : World) :
    Calls Try.prog 42 #[wv a] w fun e w' => e = .returned (.int .u64 (expF a)) ∧ Below w.heap.size w w' := by
  have hl := lenB_le ha
  have ha' := Lib.hid ha
  clear ha
  go_enter Try.func42, Try.ntmps42
  go_wp2_with (first
    | (go_at_call 86; refine (refOf_any a ha'.out _).mono ?_; rintro e w1 ⟨rfl, hb1⟩; have hs1 := hb1.size)
    | (go_at_call 87; refine (refLen_val a _).mono ?_; rintro e w2 ⟨rfl, hb2⟩))
  go_ret
  refine ⟨ret_num (by unfold expF; omega), ?_⟩
  (repeat' (first | exact Below.refl _ _ | assumption | refine Below.alloc ?_ (by (try simp only [World.size_alloc, World.size_setCell, World.size_drew, setRow_size] at *); omega) _ | refine Below.setCell ?_ (by (try simp only [World.size_alloc, World.size_setCell, World.size_drew, setRow_size] at *); omega) _ | refine Below.drew ?_ | refine Below.trans ?_ (Below.mono (by assumption) (by (try simp only [World.size_alloc, World.size_setCell, World.size_drew, setRow_size] at *); omega)) | refine below_setRow' ?_ (by (try simp only [World.size_alloc, World.size_setCell, World.size_drew, setRow_size] at *); omega) _))

set_option maxHeartbeats 400000 in
theorem gasCopy_any (n : Int) (h0 : 0 ≤ n) (h1 : n ≤ 4294967296) (w : World) :
    Calls Try.prog 43 #[.int .u64 n] w fun e w' => e = .returned (.int .u64 (3 * wordsF n)) ∧ w = w' := by
  have hw : 0 ≤ wordsF n ∧ wordsF n ≤ 134217729 := by unfold wordsF; omega
  go_enter Try.func43, Try.ntmps43
  go_wp2_with (go_at_call 30; refine (memWords_any _ (by omega) (by omega) _).mono ?_; rintro e w1 ⟨rfl, rfl⟩)
  go_ret
  exact ⟨rfl, rfl⟩
set_option maxHeartbeats 400000 in
theorem gasKeccak_any (n : Int) (h0 : 0 ≤ n) (h1 : n ≤ 4294967296) (w : World) :
    Calls Try.prog 44 #[.int .u64 n] w fun e w' => e = .returned (.int .u64 (30 + 6 * wordsF n)) ∧ w = w' := by
  have hw : 0 ≤ wordsF n ∧ wordsF n ≤ 134217729 := by unfold wordsF; omega
  go_enter Try.func44, Try.ntmps44
  go_wp2_with (go_at_call 30; refine (memWords_any _ (by omega) (by omega) _).mono ?_; rintro e w1 ⟨rfl, rfl⟩)
  go_ret
  exact ⟨ret_num (by omega), rfl⟩
set_option maxHeartbeats 400000 in
theorem gasLog_any (t n : Int) (t0 : 0 ≤ t) (t1 : t ≤ 4) (h0 : 0 ≤ n) (h1 : n ≤ 4294967296) (w : World) :
    Calls Try.prog 45 #[.int .i64 t, .int .u64 n] w fun e w' => e = .returned (.int .u64 (375 + 375 * t + 8 * n)) ∧ w = w' := by
  go_enter Try.func45, Try.ntmps45
  go_wp2
  go_ret
  exact ⟨rfl, rfl⟩
set_option maxHeartbeats 400000 in
theorem gasDeposit_any (n : Int) (h0 : 0 ≤ n) (h1 : n ≤ 4294967296) (w : World) :
    Calls Try.prog 46 #[.int .u64 n] w fun e w' => e = .returned (.int .u64 (200 * n)) ∧ w = w' := by
  go_enter Try.func46, Try.ntmps46
  go_wp2
  go_ret
  exact ⟨rfl, rfl⟩
set_option maxHeartbeats 400000 in
theorem gasCreate_any (n : Int) (c : Bool) (h0 : 0 ≤ n) (h1 : n ≤ 4294967296) (w : World) :
    Calls Try.prog 47 #[.int .u64 n, .bool c] w fun e w' => e = .returned (.int .u64 (32000 + wordsF n * (if c then 8 else 2))) ∧ w = w' := by
  have hw : 0 ≤ wordsF n ∧ wordsF n ≤ 134217729 := by unfold wordsF; omega
  cases c
  all_goals
    go_enter Try.func47, Try.ntmps47
    go_wp2_with (first
      | (go_at_call 30; refine (memWords_any _ (by omega) (by omega) _).mono ?_; rintro e w1 ⟨rfl, rfl⟩)
      | (go_at_call 79; refine (either_any _ _ _ _).mono ?_; rintro e w1 ⟨rfl, rfl⟩))
    go_ret
    exact ⟨rfl, rfl⟩

theorem u64w {n : Int} (h0 : 0 ≤ n) (h1 : n < 18446744073709551616) : IntKind.u64.wrap n = n := by rw [IntKind.wrap_u64]; omega

attribute [local go_sem ↓] Go.wp_at_zero Go.wp_at_succ
set_option maxHeartbeats 1000000 in
theorem gasLengths_any (n t : Int) (a : Nat → Int) (salt : Bool) (ha : W64 a) (n0 : 0 ≤ n) (n1 : n < 18446744073709551616) (t0 : 0 ≤ t) (t1 : t < 256) (w : World) :
    Calls Try.prog 11 #[.int .u64 n, .int .u8 t, wv a, .bool salt] w fun e w' => e = .returned (.bool true) ∧ Below w.heap.size w w' := by
  have ha' := Lib.hid ha
  clear ha
  obtain ⟨m, hm⟩ : ∃ m : Int, n % 4294967297 = m := ⟨_, rfl⟩
  have hm0 : 0 ≤ m ∧ m ≤ 4294967296 := by omega
  obtain ⟨u, hu⟩ : ∃ u : Int, t % 5 = u := ⟨_, rfl⟩
  have hu0 : 0 ≤ u ∧ u ≤ 4 := by omega
  have hw : 0 ≤ wordsF m ∧ wordsF m ≤ 134217729 := by unfold wordsF; omega
  have k1 : IntKind.u64.wrap (3 * wordsF m) = 3 * wordsF m := u64w (by omega) (by omega)
  have k2 : IntKind.u64.wrap (6 * wordsF m) = 6 * wordsF m := u64w (by omega) (by omega)
  have k3 : IntKind.u64.wrap (30 + 6 * wordsF m) = 30 + 6 * wordsF m := u64w (by omega) (by omega)
  have k4 : IntKind.u64.wrap (375 * u) = 375 * u := u64w (by omega) (by omega)
  have k5 : IntKind.u64.wrap (375 + 375 * u) = 375 + 375 * u := u64w (by omega) (by omega)
  have k6 : IntKind.u64.wrap (8 * m) = 8 * m := u64w (by omega) (by omega)
  have k7 : IntKind.u64.wrap (375 + 375 * u + 8 * m) = 375 + 375 * u + 8 * m := u64w (by omega) (by omega)
  have k8 : IntKind.u64.wrap (200 * m) = 200 * m := u64w (by omega) (by omega)
  have k9 : IntKind.u64.wrap u = u := u64w (by omega) (by omega)
  have k10 : (32000 + wordsF m * 8 == 32000 + 2 * wordsF m + 6 * wordsF m) = true := by simp; omega
  have k11 : (32000 + wordsF m * 2 == 32000 + 2 * wordsF m) = true := by simp; omega
  cases salt
  all_goals
    go_enter Try.func11, Try.ntmps11
    go_wp2_with (first
      | (go_at_call 31; refine (refWords_any _ (by omega) (by omega) _).mono ?_; rintro e w1 ⟨rfl, rfl⟩))
    go_region_held3 (fun w' => rowOf w' w.heap.size = tab 4 .u64 a ∧ w.heap.size < w'.heap.size ∧ Below w.heap.size w w') (first | exact keepRow (by assumption) (by assumption) | assumption | (refine ⟨?_, ?_, ?_⟩; (simp [go_sem]); (simp); (repeat' (first | exact Below.refl _ _ | assumption | refine Below.alloc ?_ (by (try simp only [World.size_alloc, World.size_setCell, World.size_drew, setRow_size] at *); omega) _ | refine Below.setCell ?_ (by (try simp only [World.size_alloc, World.size_setCell, World.size_drew, setRow_size] at *); omega) _ | refine Below.drew ?_ | refine Below.trans ?_ (Below.mono (by assumption) (by (try simp only [World.size_alloc, World.size_setCell, World.size_drew, setRow_size] at *); omega)) | refine below_setRow' ?_ (by (try simp only [World.size_alloc, World.size_setCell, World.size_drew, setRow_size] at *); omega) _)))) (first
      | (go_at_call 43; refine (gasCopy_any _ (by omega) (by omega) _).mono ?_; rintro e w1 ⟨rfl, rfl⟩)
      | (go_at_call 44; refine (gasKeccak_any _ (by omega) (by omega) _).mono ?_; rintro e w1 ⟨rfl, rfl⟩)
      | (go_at_call 45; refine (gasLog_any _ _ (by omega) (by omega) (by omega) (by omega) _).mono ?_; rintro e w1 ⟨rfl, rfl⟩)
      | (go_at_call 46; refine (gasDeposit_any _ (by omega) (by omega) _).mono ?_; rintro e w1 ⟨rfl, rfl⟩)
      | (go_at_call 47; refine (gasCreate_any _ _ (by omega) (by omega) _).mono ?_; rintro e w1 ⟨rfl, rfl⟩)
      | (go_at_call 21; refine (fixed12_any _).mono ?_; rintro e w1 ⟨rfl, hb1⟩)
      | (go_at_call 41; refine (gasExp_any a ha'.out _).mono ?_; rintro e w2 ⟨rfl, hb2⟩)
      | (go_at_call 42; refine (refExp_any a ha'.out _).mono ?_; rintro e w3 ⟨rfl, hb3⟩))
    all_goals
      go_wp2
      have hh : rowOf w3 w.heap.size = tab 4 .u64 a ∧ w.heap.size < w3.heap.size ∧ Below w.heap.size w w3 := by assumption
      go_ret
      exact ⟨rfl, hh.2.2⟩
end Go.Proofs.Ytfjigoimjaemmaa
