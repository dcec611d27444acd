/- a word's bytes: the walks. -/
import Derived.Test.YtfjigoimjaemmaaDoorWordW
namespace Go.Proofs.YtfjigoimjaemmaaDoor
open Go.RowKit
set_option linter.unusedSimpArgs false
set_option linter.unusedVariables false
set_option maxRecDepth 100000

@[go_sem ↓] theorem run_index_word (f : Nat → Int) (k : Nat) (w : World) : (Instr.index 47 (.agg (tab 4 .u64 f)) (.int .i64 (k : Int))).run Tryd.prog w = if k < 4 then .ok (.int .u64 (f k)) w else (Instr.index 47 (.agg (tab 4 .u64 f)) (.int .i64 (k : Int))).run Tryd.prog w := by
  split
  · rename_i h
    simp [Instr.index, go_sem, Tryd.underlying47, h]
  · rfl

/-- a word's p-th byte, the highest first -/
def bytF (a : Nat → Int) (p : Nat) : Int := digF a (31 - p)
theorem bytF_bd {a : Nat → Int} (ha : W64 a) (p : Nat) : 0 ≤ bytF a p ∧ bytF a p < 256 := by
  unfold bytF digF; omega
/-- the lowest n bytes alone -/
def lowB (a : Nat → Int) (n : Nat) (p : Nat) : Int := if 31 - p < n ∧ p < 32 then bytF a p else 0
theorem lowB_zero (a : Nat → Int) : lowB a 0 = zf := by funext p; simp [lowB, zf]
theorem lowB_succ (a : Nat → Int) (n : Nat) (hn : n < 32) (v : Int) (h : v = digF a n) : upd (lowB a n) (31 - n) v = lowB a (n + 1) := by
  subst h
  funext p
  unfold upd lowB bytF
  by_cases h1 : p = 31 - n
  · subst h1; rw [if_pos rfl, if_pos (by omega), show 31 - (31 - n) = n by omega]
  · rw [if_neg h1]
    by_cases h2 : 31 - p < n ∧ p < 32
    · rw [if_pos h2, if_pos (by omega)]
    · rw [if_neg h2, if_neg (by omega)]
theorem lowB_all (a : Nat → Int) (k : IntKind) : tab 32 k (lowB a 32) = tab 32 k (bytF a) := tab_ext fun i hi => by unfold lowB; rw [if_pos (by omega)]

set_option maxHeartbeats 1000000 in
theorem wordBytes_any (a : Nat → Int) (ha : W64 a) (w : World) :
    Calls Tryd.prog 68 #[wv a] w fun e w' => e = .returned (.agg (tab 32 .u8 (bytF a))) ∧ Below w.heap.size w w' := by
  go_enter Tryd.func68, Tryd.ntmps68
  go_wp2_with fail
  go_loopw [8] (fun i wr => ∃ k : Nat, k ≤ 4 ∧ i = .int .i64 k ∧ wr = ((w.alloc (.cells (tab 4 .u64 a) 47)).alloc (.cells (tab 32 .u8 zf) 39)).alloc (.cells (tab 32 .u8 (lowB a (8 * k))) 39)) (fun i _ => 4 - (intOf i).toNat)
  case atStart => exact ⟨0, by omega, rfl, by rw [Nat.mul_zero, lowB_zero]⟩
  case round =>
    obtain ⟨k, hk, rfl, rfl⟩ := hrel
    by_cases hlt : k < 4
    · have hA := ha k hlt
      have ha' := Lib.hid ha
      clear ha
      go_wp2_with fail
      go_loopw [12] (fun i wr => ∃ j : Nat, j ≤ 8 ∧ i = .int .i64 j ∧ wr = ((w.alloc (.cells (tab 4 .u64 a) 47)).alloc (.cells (tab 32 .u8 zf) 39)).alloc (.cells (tab 32 .u8 (lowB a (8 * k + j))) 39)) (fun i _ => 8 - (intOf i).toNat)
      case atStart => exact ⟨0, by omega, rfl, rfl⟩
      case round =>
        obtain ⟨j, hj, rfl, rfl⟩ := hrel
        by_cases hj8 : j < 8
        · have hi : (31 : Int) - 8 * (k : Int) - (j : Int) = ((31 - (8 * k + j) : Nat) : Int) := by omega
          have hi0 : (0 : Int) ≤ 31 - 8 * (k : Int) - (j : Int) := by omega
          have hi1 : (31 : Int) - 8 * (k : Int) - (j : Int) < 32 := by omega
          have hi2 : ((31 : Int) - 8 * (k : Int) - (j : Int)).toNat = 31 - (8 * k + j) := by omega
          have hP : 0 ≤ a k / 2 ^ (8 * j) := pdiv_nonneg hA.1 _
          go_wp2_with fail
          refine ⟨⟨j + 1, by omega, by go_num, ?_⟩, by simp [intOf]; omega⟩
          rw [lowB_succ a (8 * k + j) (by omega) _ (by unfold digF; rw [show (8 * k + j) / 8 = k by omega, show (8 * k + j) % 8 = j by omega]), Nat.add_assoc]
        · obtain rfl : j = 8 := by omega
          go_wp2_with fail
          exact ⟨⟨k + 1, by omega, by go_num, by rw [show 8 * (k + 1) = 8 * k + 8 by omega]⟩, by simp [intOf]; omega⟩
    · obtain rfl : k = 4 := by omega
      go_wp2_with fail
      refine bodyPost_ret (res_b32 Tryd.results68 _ _ _ (tab 32 .u8 (lowB a 32)) rfl (by simp [go_sem]) (by simp [go_sem])) rfl ⟨by rw [lowB_all], ?_⟩
      (repeat' (first | exact Below.refl _ _ | assumption | refine Below.alloc ?_ (by (try simp only [World.size_alloc, World.size_setCell, World.size_drew, setRow_size] at *); first | done | omega) _ | refine Below.setCell ?_ (by (try simp only [World.size_alloc, World.size_setCell, World.size_drew, setRow_size] at *); first | done | omega) _ | refine Below.drew ?_ | refine Below.trans ?_ (Below.mono (by assumption) (by (try simp only [World.size_alloc, World.size_setCell, World.size_drew, setRow_size] at *); first | done | omega)) | refine below_setRow' ?_ (by (try simp only [World.size_alloc, World.size_setCell, World.size_drew, setRow_size] at *); first | done | omega) _))

theorem lowD_succ (d : Nat → Int) (n : Nat) (hn : n < 32) (v : Int) (h : v = d n) : upd (fun p => if 31 - p < n ∧ p < 32 then d (31 - p) else 0) (31 - n) v = fun p => if 31 - p < n + 1 ∧ p < 32 then d (31 - p) else 0 := by
  subst h
  funext p
  unfold upd
  by_cases h1 : p = 31 - n
  · subst h1; rw [if_pos rfl, if_pos (by omega), show 31 - (31 - n) = n by omega]
  · rw [if_neg h1]
    show (if 31 - p < n ∧ p < 32 then d (31 - p) else 0) = _
    by_cases h2 : 31 - p < n ∧ p < 32
    · rw [if_pos h2, if_pos (by omega)]
    · rw [if_neg h2, if_neg (by omega)]

set_option maxHeartbeats 1000000 in
theorem refBytes_any (d : Nat → Int) (hd : ∀ i, i < 32 → 0 ≤ d i ∧ d i < 256) (w : World) :
    Calls Tryd.prog 70 #[.agg (tab 32 .i64 d)] w fun e w' => e = .returned (.agg (tab 32 .u8 fun p => d (31 - p))) ∧ Below w.heap.size w w' := by
  have hd' := Lib.hid hd
  clear hd
  obtain ⟨L, hL⟩ : ∃ L : Nat → Nat → Int, ∀ n, L n = fun p => if 31 - p < n ∧ p < 32 then d (31 - p) else 0 := ⟨fun n p => if 31 - p < n ∧ p < 32 then d (31 - p) else 0, fun _ => rfl⟩
  have hL' := Lib.hid hL
  have hLs : Hid (∀ n v, n < 32 → v = d n → upd (L n) (31 - n) v = L (n + 1)) := Lib.hid (fun n v hn hv => by rw [hL, hL]; exact lowD_succ d n hn v hv)
  have hL0 : Hid (L 0 = zf) := Lib.hid (by rw [hL]; funext p; simp [zf])
  have hL32 : Hid (tab 32 .u8 (L 32) = tab 32 .u8 fun p => d (31 - p)) := Lib.hid (tab_ext fun i hi => by rw [hL]; simp only []; rw [if_pos (by omega)])
  clear hL
  go_enter Tryd.func70, Tryd.ntmps70
  go_wp2_with fail
  go_loopw [4] (fun i wr => ∃ k : Nat, k ≤ 32 ∧ i = .int .i64 k ∧ wr = ((w.alloc (.cells (tab 32 .i64 d) 126)).alloc (.cells (tab 32 .u8 zf) 39)).alloc (.cells (tab 32 .u8 (L k)) 39)) (fun i _ => 32 - (intOf i).toNat)
  case atStart => exact ⟨0, by omega, rfl, by rw [hL0.out]⟩
  case round =>
    obtain ⟨k, hk, rfl, rfl⟩ := hrel
    by_cases hlt : k < 32
    · have hA := hd'.out k hlt
      have hi0 : (0 : Int) ≤ 31 - (k : Int) := by omega
      have hi1 : (31 : Int) - (k : Int) < 32 := by omega
      have hi2 : ((31 : Int) - (k : Int)).toNat = 31 - k := by omega
      go_wp2_with fail
      refine ⟨⟨k + 1, by omega, by go_num, ?_⟩, by simp [intOf]; omega⟩
      rw [hLs.out k _ hlt rfl]
    · obtain rfl : k = 32 := by omega
      go_wp2_with fail
      refine bodyPost_ret (res_b32 Tryd.results70 _ _ _ (tab 32 .u8 (L 32)) rfl (by simp [go_sem]) (by simp [go_sem])) rfl ⟨by rw [hL32.out], ?_⟩
      (repeat' (first | exact Below.refl _ _ | assumption | refine Below.alloc ?_ (by (try simp only [World.size_alloc, World.size_setCell, World.size_drew, setRow_size] at *); first | done | omega) _ | refine Below.setCell ?_ (by (try simp only [World.size_alloc, World.size_setCell, World.size_drew, setRow_size] at *); first | done | omega) _ | refine Below.drew ?_ | refine Below.trans ?_ (Below.mono (by assumption) (by (try simp only [World.size_alloc, World.size_setCell, World.size_drew, setRow_size] at *); first | done | omega)) | refine below_setRow' ?_ (by (try simp only [World.size_alloc, World.size_setCell, World.size_drew, setRow_size] at *); first | done | omega) _))
end Go.Proofs.YtfjigoimjaemmaaDoor
