/- a frame's memory: the reference's reach; MemFar. -/
import Derived.Test.YtfjigoimjaemmaaMem2W
namespace Go.Proofs.Ytfjigoimjaemmaa
open Go.RowKit
set_option linter.unusedSimpArgs false
set_option linter.unusedVariables false
set_option maxRecDepth 100000

/-- the reference's smallness -/
def rsmallB (a : Nat → Int) : Bool := smallB a && decide (a 0 ≤ 4194304)

set_option maxHeartbeats 400000 in
theorem refSmall_any (a : Nat → Int) (w : World) :
    Calls Try.prog 83 #[wv a] w fun e w' => e = .returned (.tuple #[.int .u64 (if rsmallB a then a 0 else 0), .bool (rsmallB a)]) ∧ Below w.heap.size w w' := by
  by_cases h1 : a 1 = 0
  · by_cases h2 : a 2 = 0
    · by_cases h3 : a 3 = 0
      · by_cases h0 : a 0 ≤ 4194304
        · have e : rsmallB a = true := by simp [rsmallB, smallB, h1, h2, h3, h0]
          rw [e]
          have n1 : (a 1 != 0) = false := by simp [h1]
          have n2 : (a 2 != 0) = false := by simp [h2]
          have n3 : (a 3 != 0) = false := by simp [h3]
          clear h1 h2 h3 e
          go_enter Try.func83, Try.ntmps83
          go_wp2
          go_ret2
          refine ⟨rfl, ?_⟩
          (repeat' (first | exact Below.refl _ _ | assumption | refine Below.alloc ?_ (by (try simp only [World.size_alloc, World.size_setCell, World.size_drew, setRow_size] at *); first | done | omega) _ | refine Below.setCell ?_ (by (try simp only [World.size_alloc, World.size_setCell, World.size_drew, setRow_size] at *); first | done | omega) _ | refine Below.drew ?_ | refine Below.trans ?_ (Below.mono (by assumption) (by (try simp only [World.size_alloc, World.size_setCell, World.size_drew, setRow_size] at *); first | done | omega)) | refine below_setRow' ?_ (by (try simp only [World.size_alloc, World.size_setCell, World.size_drew, setRow_size] at *); first | done | omega) _))
        · have e : rsmallB a = false := by simp [rsmallB, smallB, h1, h2, h3, h0]
          rw [e]
          have n1 : (a 1 != 0) = false := by simp [h1]
          have n2 : (a 2 != 0) = false := by simp [h2]
          have n3 : (a 3 != 0) = false := by simp [h3]
          clear h1 h2 h3 e
          go_enter Try.func83, Try.ntmps83
          go_wp2
          go_ret2
          refine ⟨rfl, ?_⟩
          (repeat' (first | exact Below.refl _ _ | assumption | refine Below.alloc ?_ (by (try simp only [World.size_alloc, World.size_setCell, World.size_drew, setRow_size] at *); first | done | omega) _ | refine Below.setCell ?_ (by (try simp only [World.size_alloc, World.size_setCell, World.size_drew, setRow_size] at *); first | done | omega) _ | refine Below.drew ?_ | refine Below.trans ?_ (Below.mono (by assumption) (by (try simp only [World.size_alloc, World.size_setCell, World.size_drew, setRow_size] at *); first | done | omega)) | refine below_setRow' ?_ (by (try simp only [World.size_alloc, World.size_setCell, World.size_drew, setRow_size] at *); first | done | omega) _))
      · have e : rsmallB a = false := by simp [rsmallB, smallB, h1, h2, h3]
        rw [e]
        have n1 : (a 1 != 0) = false := by simp [h1]
        have n2 : (a 2 != 0) = false := by simp [h2]
        have n3 : (a 3 != 0) = true := by simp [h3]
        clear h1 h2 h3 e
        go_enter Try.func83, Try.ntmps83
        go_wp2
        go_ret2
        refine ⟨rfl, ?_⟩
        (repeat' (first | exact Below.refl _ _ | assumption | refine Below.alloc ?_ (by (try simp only [World.size_alloc, World.size_setCell, World.size_drew, setRow_size] at *); first | done | omega) _ | refine Below.setCell ?_ (by (try simp only [World.size_alloc, World.size_setCell, World.size_drew, setRow_size] at *); first | done | omega) _ | refine Below.drew ?_ | refine Below.trans ?_ (Below.mono (by assumption) (by (try simp only [World.size_alloc, World.size_setCell, World.size_drew, setRow_size] at *); first | done | omega)) | refine below_setRow' ?_ (by (try simp only [World.size_alloc, World.size_setCell, World.size_drew, setRow_size] at *); first | done | omega) _))
    · have e : rsmallB a = false := by simp [rsmallB, smallB, h1, h2]
      rw [e]
      have n1 : (a 1 != 0) = false := by simp [h1]
      have n2 : (a 2 != 0) = true := by simp [h2]
      clear h1 h2 e
      go_enter Try.func83, Try.ntmps83
      go_wp2
      go_ret2
      refine ⟨rfl, ?_⟩
      (repeat' (first | exact Below.refl _ _ | assumption | refine Below.alloc ?_ (by (try simp only [World.size_alloc, World.size_setCell, World.size_drew, setRow_size] at *); first | done | omega) _ | refine Below.setCell ?_ (by (try simp only [World.size_alloc, World.size_setCell, World.size_drew, setRow_size] at *); first | done | omega) _ | refine Below.drew ?_ | refine Below.trans ?_ (Below.mono (by assumption) (by (try simp only [World.size_alloc, World.size_setCell, World.size_drew, setRow_size] at *); first | done | omega)) | refine below_setRow' ?_ (by (try simp only [World.size_alloc, World.size_setCell, World.size_drew, setRow_size] at *); first | done | omega) _))
  · have e : rsmallB a = false := by simp [rsmallB, smallB, h1]
    rw [e]
    have n1 : (a 1 != 0) = true := by simp [h1]
    clear h1 e
    go_enter Try.func83, Try.ntmps83
    go_wp2
    go_ret2
    refine ⟨rfl, ?_⟩
    (repeat' (first | exact Below.refl _ _ | assumption | refine Below.alloc ?_ (by (try simp only [World.size_alloc, World.size_setCell, World.size_drew, setRow_size] at *); first | done | omega) _ | refine Below.setCell ?_ (by (try simp only [World.size_alloc, World.size_setCell, World.size_drew, setRow_size] at *); first | done | omega) _ | refine Below.drew ?_ | refine Below.trans ?_ (Below.mono (by assumption) (by (try simp only [World.size_alloc, World.size_setCell, World.size_drew, setRow_size] at *); first | done | omega)) | refine below_setRow' ?_ (by (try simp only [World.size_alloc, World.size_setCell, World.size_drew, setRow_size] at *); first | done | omega) _))

/-- the same, at a length that is a multiple of 32 -/
def rreachW (r : Option Int) : Value := match r with | some x => .tuple #[.int .i64 (x * 32), .bool true] | none => .tuple #[.int .i64 0, .bool false]

set_option maxHeartbeats 1000000 in
theorem refReach_any (len : Nat) (hl : len ≤ 4194304) (hm : len % 32 = 0) (a k : Nat → Int) (ha : Wd a) (hk : Wd k) (w : World) :
    Calls Try.prog 37 #[.int .i64 len, wv a, wv k] w fun e w' => e = .returned (rreachW (reachF len a k)) ∧ Below w.heap.size w w' := by
  obtain ⟨⟨a0, a0'⟩, _, _, _⟩ := ha
  obtain ⟨⟨k0, k0'⟩, _, _, _⟩ := hk
  have hw : 0 ≤ wordsF (a 0 + k 0) := by unfold wordsF; omega
  by_cases hz : tl 4 k = tl 4 (fn4 0 0 0 0)
  · have hF : rreachW (reachF len a k) = .tuple #[.int .i64 len, .bool true] := by
      unfold reachF z4; rw [if_pos hz]
      have : (len : Int) / 32 * 32 = len := by omega
      simp only [rreachW, this]
    rw [hF]
    clear hF
    go_enter Try.func37, Try.ntmps37
    go_wp2_with fail
    go_ret2
    refine ⟨rfl, ?_⟩
    (repeat' (first | exact Below.refl _ _ | assumption | refine Below.alloc ?_ (by (try simp only [World.size_alloc, World.size_setCell, World.size_drew, setRow_size] at *); first | done | omega) _ | refine Below.setCell ?_ (by (try simp only [World.size_alloc, World.size_setCell, World.size_drew, setRow_size] at *); first | done | omega) _ | refine Below.drew ?_ | refine Below.trans ?_ (Below.mono (by assumption) (by (try simp only [World.size_alloc, World.size_setCell, World.size_drew, setRow_size] at *); first | done | omega)) | refine below_setRow' ?_ (by (try simp only [World.size_alloc, World.size_setCell, World.size_drew, setRow_size] at *); first | done | omega) _))
  · have hF : reachF len a k = if rsmallB a = true ∧ rsmallB k = true ∧ a 0 + k 0 ≤ 4194304 then some (max ((len : Int) / 32) (wordsF (a 0 + k 0))) else none := by
      unfold reachF z4; rw [if_neg hz]
      by_cases hc : smallB a = true ∧ smallB k = true ∧ a 0 + k 0 ≤ 4194304
      · rw [if_pos hc, if_pos ⟨by simp [rsmallB, hc.1]; omega, by simp [rsmallB, hc.2.1]; omega, hc.2.2⟩]
      · rw [if_neg hc, if_neg fun h => hc ⟨by have := h.1; simp [rsmallB] at this; exact this.1, by have := h.2.1; simp [rsmallB] at this; exact this.1, h.2.2⟩]
    rw [hF]
    clear hF
    cases hsa : rsmallB a <;> cases hsk : rsmallB k
    all_goals
      have hA := refSmall_any a
      have hK := refSmall_any k
      rw [hsa] at hA
      rw [hsk] at hK
      have hA' := Lib.hid hA
      have hK' := Lib.hid hK
      clear hA hK
    case true.true =>
      have h1 : a 0 ≤ 4194304 := by simp [rsmallB] at hsa; exact hsa.2
      have h2 : k 0 ≤ 4194304 := by simp [rsmallB] at hsk; exact hsk.2
      clear hsa hsk
      have hw2 : wordsF (a 0 + k 0) ≤ 262145 := by unfold wordsF; omega
      by_cases h3 : 4194304 < a 0 + k 0
      · rw [if_neg (by omega)]
        go_enter Try.func37, Try.ntmps37
        go_wp2_with (first
          | (go_at_call 83; first | (with_reducible refine (hA'.out _).mono ?_; rintro e w1 ⟨rfl, hb1⟩; have ⟨gr1, gq1, gs1⟩ := row_facts hb1; have hs1 := hb1.size) | (with_reducible refine (hK'.out _).mono ?_; rintro e w2 ⟨rfl, hb2⟩; have ⟨gr2, gq2, gs2⟩ := row_facts hb2; have hs2 := hb2.size)))
        all_goals
          go_light
          go_ret2
          refine ⟨rfl, ?_⟩
          (repeat' (first | exact Below.refl _ _ | assumption | refine Below.alloc ?_ (by (try simp only [World.size_alloc, World.size_setCell, World.size_drew, setRow_size] at *); first | done | omega) _ | refine Below.setCell ?_ (by (try simp only [World.size_alloc, World.size_setCell, World.size_drew, setRow_size] at *); first | done | omega) _ | refine Below.drew ?_ | refine Below.trans ?_ (Below.mono (by assumption) (by (try simp only [World.size_alloc, World.size_setCell, World.size_drew, setRow_size] at *); first | done | omega)) | refine below_setRow' ?_ (by (try simp only [World.size_alloc, World.size_setCell, World.size_drew, setRow_size] at *); first | done | omega) _))
      · rw [if_pos ⟨rfl, rfl, by omega⟩]
        go_enter Try.func37, Try.ntmps37
        go_wp2_with (first
          | (go_at_call 31; refine (refWords_any _ (by omega) (by omega) _).mono ?_; rintro e w3 ⟨rfl, rfl⟩)
          | (go_at_call 83; first | (with_reducible refine (hA'.out _).mono ?_; rintro e w1 ⟨rfl, hb1⟩; have ⟨gr1, gq1, gs1⟩ := row_facts hb1; have hs1 := hb1.size) | (with_reducible refine (hK'.out _).mono ?_; rintro e w2 ⟨rfl, hb2⟩; have ⟨gr2, gq2, gs2⟩ := row_facts hb2; have hs2 := hb2.size)))
        all_goals
          go_light
          go_ret2
          refine ⟨?_, ?_⟩
          · have hm : max ((len : Int) / 32) (wordsF (a 0 + k 0)) * 32 = max (len : Int) (wordsF (a 0 + k 0) * 32) := by omega
            unfold rreachW; simp only [hm]; rfl
          · (repeat' (first | exact Below.refl _ _ | assumption | refine Below.alloc ?_ (by (try simp only [World.size_alloc, World.size_setCell, World.size_drew, setRow_size] at *); first | done | omega) _ | refine Below.setCell ?_ (by (try simp only [World.size_alloc, World.size_setCell, World.size_drew, setRow_size] at *); first | done | omega) _ | refine Below.drew ?_ | refine Below.trans ?_ (Below.mono (by assumption) (by (try simp only [World.size_alloc, World.size_setCell, World.size_drew, setRow_size] at *); first | done | omega)) | refine below_setRow' ?_ (by (try simp only [World.size_alloc, World.size_setCell, World.size_drew, setRow_size] at *); first | done | omega) _))
    all_goals
      rw [if_neg (by simp)]
      clear hsa hsk
      go_enter Try.func37, Try.ntmps37
      go_wp2_with (first
        | (go_at_call 83; first | (with_reducible refine (hA'.out _).mono ?_; rintro e w1 ⟨rfl, hb1⟩; have ⟨gr1, gq1, gs1⟩ := row_facts hb1; have hs1 := hb1.size) | (with_reducible refine (hK'.out _).mono ?_; rintro e w2 ⟨rfl, hb2⟩; have ⟨gr2, gq2, gs2⟩ := row_facts hb2; have hs2 := hb2.size)))
      all_goals
        go_light
        go_ret2
        refine ⟨rfl, ?_⟩
        (repeat' (first | exact Below.refl _ _ | assumption | refine Below.alloc ?_ (by (try simp only [World.size_alloc, World.size_setCell, World.size_drew, setRow_size] at *); first | done | omega) _ | refine Below.setCell ?_ (by (try simp only [World.size_alloc, World.size_setCell, World.size_drew, setRow_size] at *); first | done | omega) _ | refine Below.drew ?_ | refine Below.trans ?_ (Below.mono (by assumption) (by (try simp only [World.size_alloc, World.size_setCell, World.size_drew, setRow_size] at *); first | done | omega)) | refine below_setRow' ?_ (by (try simp only [World.size_alloc, World.size_setCell, World.size_drew, setRow_size] at *); first | done | omega) _))
end Go.Proofs.Ytfjigoimjaemmaa
