/- gas: the walks of what a transaction costs ahead of all. -/
import Derived.Test.YtfjigoimjaemmaaGas2W
import Derived.Test.YtfjigoimjaemmaaRead
namespace Go.Proofs.Ytfjigoimjaemmaa
open Go.RowKit
set_option linter.unusedSimpArgs false
set_option linter.unusedVariables false
set_option maxRecDepth 100000

/-- how many words so many bytes are -/
def wordsF (n : Int) : Int := (n + 31) / 32

set_option maxHeartbeats 400000 in
theorem memWords_any (n : Int) (h0 : 0 ≤ n) (h1 : n < 18446744073709551616) (w : World) :
    Calls Try.prog 30 #[.int .u64 n] w fun e w' => e = .returned (.int .u64 (wordsF n)) ∧ w = w' := by
  by_cases hr : 0 < n % 32
  all_goals
    go_enter Try.func30, Try.ntmps30
    go_wp2
    go_ret
    exact ⟨ret_int (by unfold wordsF; omega), rfl⟩

set_option maxHeartbeats 400000 in
theorem refWords_any (n : Int) (h0 : 0 ≤ n) (h1 : n < 18446744073709551616) (w : World) :
    Calls Try.prog 31 #[.int .u64 n] w fun e w' => e = .returned (.int .u64 (wordsF n)) ∧ w = w' := by
  by_cases hr : n % 32 = 0
  all_goals
    go_enter Try.func31, Try.ntmps31
    go_wp2
    go_ret
    exact ⟨ret_int (by unfold wordsF; omega), rfl⟩

/-- what the first k bytes cost -/
def dcost (b : Nat → Int) : Nat → Int
  | 0 => 0
  | k + 1 => dcost b k + if b k = 0 then 4 else 16
theorem dcost_bd (b : Nat → Int) (k : Nat) : 0 ≤ dcost b k ∧ dcost b k ≤ 16 * k := by
  induction k with
  | zero => simp [dcost]
  | succ k ih =>
    unfold dcost
    split <;> omega

def intrinsicF (b : Nat → Int) (len : Nat) (create : Bool) (addresses slots : Int) : Int :=
  21000 + 2400 * addresses + 1900 * slots + dcost b len + (if create then 32000 + 2 * wordsF len else 0)

set_option maxHeartbeats 1000000 in
theorem intrinsic_any (A : Option Addr) (len cap : Nat) (b : Nat → Int) (create : Bool) (n m : Int) (w : World) (hb : Ints w .u8 A len b) (hlen : len ≤ 4294967296) (n0 : 0 ≤ n) (n1 : n ≤ 4294967296) (m0 : 0 ≤ m) (m1 : m ≤ 4294967296) :
    Calls Try.prog 28 #[.slice A len cap, .bool create, .int .u64 n, .int .u64 m] w fun e w' => e = .returned (.int .u64 (intrinsicF b len create n m)) ∧ w = w' := by
  go_enter Try.func28, Try.ntmps28
  go_wp2_with fail
  go_loop [9, 20] (fun c i => ∃ k : Nat, k ≤ len ∧ i = .int .i64 k ∧ c = .int .u64 (21000 + 2400 * n + 1900 * m + dcost b k)) (fun _ i => len - (intOf i).toNat)
  case atStart => exact ⟨0, by omega, rfl, by simp [dcost]⟩
  case round =>
    obtain ⟨k, hk, rfl, rfl⟩ := hrel
    have hd := dcost_bd b k
    by_cases hlt : k < len
    · obtain ⟨a, rfl, ha, hc⟩ := hb k hlt
      have hS := Lib.hid (show dcost b (k + 1) = dcost b k + if b k = 0 then 4 else 16 from rfl)
      clear hb
      go_wp2_with (go_at_call 79; refine (either_any _ _ _ _).mono ?_; rintro e w1 ⟨rfl, rfl⟩)
      refine ⟨⟨k + 1, by omega, by go_num, ?_⟩, by simp [intOf]; omega⟩
      rw [hS.out, Int.add_assoc]
    · have hk' : k = len := by omega
      subst hk'
      have hwd : 0 ≤ wordsF k ∧ wordsF k ≤ 134217729 := by unfold wordsF; omega
      cases create
      all_goals
        go_wp2_with (go_at_call 30; refine (memWords_any _ (by omega) (by omega) _).mono ?_; rintro e w1 ⟨rfl, rfl⟩)
        go_ret
        exact ⟨ret_int (by simp [intrinsicF]; try omega), rfl⟩

set_option maxHeartbeats 1000000 in
theorem refIntrinsic_any (A : Option Addr) (len cap : Nat) (b : Nat → Int) (create : Bool) (n m : Int) (w : World) (hb : Ints w .u8 A len b) (hlen : len ≤ 4294967296) (n0 : 0 ≤ n) (n1 : n ≤ 4294967296) (m0 : 0 ≤ m) (m1 : m ≤ 4294967296) :
    Calls Try.prog 29 #[.slice A len cap, .bool create, .int .u64 n, .int .u64 m] w fun e w' => e = .returned (.int .u64 (intrinsicF b len create n m)) ∧ w = w' := by
  go_enter Try.func29, Try.ntmps29
  go_wp2_with fail
  go_loop [9, 13] (fun c i => ∃ k : Nat, k ≤ len ∧ i = .int .i64 k ∧ c = .int .u64 (21000 + dcost b k)) (fun _ i => len - (intOf i).toNat)
  case atStart => exact ⟨0, by omega, rfl, by simp [dcost]⟩
  case round =>
    obtain ⟨k, hk, rfl, rfl⟩ := hrel
    have hd := dcost_bd b k
    by_cases hlt : k < len
    · obtain ⟨a, rfl, ha, hc⟩ := hb k hlt
      have hS := Lib.hid (show dcost b (k + 1) = dcost b k + if b k = 0 then 4 else 16 from rfl)
      clear hb
      by_cases hz : b k = 0
      · have hz1 : (b k != 0) = false := by simp [hz]
        have hz2 := Lib.hid hz
        clear hz
        go_wp2_with fail
        refine ⟨⟨k + 1, by omega, by go_num, ?_⟩, by simp [intOf]; omega⟩
        rw [hS.out, if_pos hz2.out, Int.add_assoc]
      · have hz1 : (b k != 0) = true := by simp [hz]
        have hz2 := Lib.hid hz
        clear hz
        go_wp2_with fail
        refine ⟨⟨k + 1, by omega, by go_num, ?_⟩, by simp [intOf]; omega⟩
        rw [hS.out, if_neg hz2.out]
        go_num
    · have hk' : k = len := by omega
      subst hk'
      have hwd : 0 ≤ wordsF k ∧ wordsF k ≤ 134217729 := by unfold wordsF; omega
      cases create
      all_goals
        go_wp2_with (go_at_call 31; refine (refWords_any _ (by omega) (by omega) _).mono ?_; rintro e w1 ⟨rfl, rfl⟩)
        go_ret
        exact ⟨ret_int (by simp [intrinsicF]; try omega), rfl⟩

set_option maxHeartbeats 1000000 in
theorem gasIntrinsic_any (A : Option Addr) (len cap : Nat) (b : Nat → Int) (create : Bool) (n m : Int) (w : World) (hb : Ints w .u8 A len b) (n0 : 0 ≤ n) (n1 : n < 18446744073709551616) (m0 : 0 ≤ m) (m1 : m < 18446744073709551616) :
    Calls Try.prog 7 #[.slice A len cap, .bool create, .int .u64 n, .int .u64 m] w fun e w' => e = .returned (.bool true) ∧ Below w.heap.size w w' := by
  by_cases hlen : len ≤ 5000
  · go_enter Try.func7, Try.ntmps7
    go_wp2_with (first
      | (go_at_call 28; refine (intrinsic_any A len cap b create _ _ _ (hb.below (Nat.le_refl _) hb1) (by omega) (by omega) (by omega) (by omega) (by omega)).mono ?_; rintro e w2 ⟨rfl, rfl⟩)
      | (go_at_call 29; refine (refIntrinsic_any A len cap b create _ _ _ (hb.below (Nat.le_refl _) hb1) (by omega) (by omega) (by omega) (by omega) (by omega)).mono ?_; rintro e w3 ⟨rfl, rfl⟩)
      | (go_at_call 21; refine (fixed12_any _).mono ?_; rintro e w1 ⟨rfl, hb1⟩))
    go_ret
    exact ⟨rfl, hb1⟩
  · go_enter Try.func7, Try.ntmps7
    go_wp2_with (go_at_call 21; refine (fixed12_any _).mono ?_; rintro e w1 ⟨rfl, hb1⟩)
    go_ret
    exact ⟨rfl, hb1⟩
end Go.Proofs.Ytfjigoimjaemmaa
