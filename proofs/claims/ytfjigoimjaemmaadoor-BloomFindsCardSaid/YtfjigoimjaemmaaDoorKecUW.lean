/- keccak: all rounds of the reference. -/
import Derived.Test.YtfjigoimjaemmaaDoorKecPW
namespace Go.Proofs.YtfjigoimjaemmaaDoor
open Go.RowKit
set_option linter.unusedSimpArgs false
set_option linter.unusedVariables false
set_option maxRecDepth 100000
theorem tR_succ (s : Nat → Int) (n : Nat) : tR s (n + 1) = cl25 (rRound (tR s n) (cstF n)) := rfl
theorem tR_zero (s : Nat → Int) : tR s 0 = s := rfl
attribute [local irreducible] tR rRound cstF
attribute [local go_sem ↓] Go.wp_at_zero Go.wp_at_succ

set_option maxHeartbeats 1000000 in
theorem refTurn_any (s : Nat → Int) (w : World) :
    Calls Tryd.prog 16 #[.agg (tab 25 .u64 s)] w fun e w' => e = .returned (.agg (tab 25 .u64 (turnF s))) ∧ Below w.heap.size w w' := by
  go_enter Tryd.func16, Tryd.ntmps16
  go_wp2_with (first
    | (go_at_call 52; refine (constants_any _).mono ?_; rintro e w1 ⟨rfl, hb1⟩; have hs1 := hb1.size; simp only [World.size_alloc] at hs1; have ⟨gr1, gq1, gs1⟩ := row_facts hb1))
  have hb0 : Below w.heap.size w w1 := by (repeat' (first | exact Below.refl _ _ | assumption | refine Below.alloc ?_ (by (try simp only [World.size_alloc, World.size_setCell, World.size_drew, setRow_size] at *); first | done | omega) _ | refine Below.setCell ?_ (by (try simp only [World.size_alloc, World.size_setCell, World.size_drew, setRow_size] at *); first | done | omega) _ | refine Below.drew ?_ | refine Below.trans ?_ (Below.mono (by assumption) (by (try simp only [World.size_alloc, World.size_setCell, World.size_drew, setRow_size] at *); first | done | omega)) | refine below_setRow' ?_ (by (try simp only [World.size_alloc, World.size_setCell, World.size_drew, setRow_size] at *); first | done | omega) _))
  have hq0 : rowFit w1 w.heap.size = some 25 := by rw [gq1 _ (by simp; omega)]; simp [go_sem]
  have hr0 : rowOf w1 w.heap.size = tab 25 .u64 (tR s 0) := by rw [gr1 _ (by simp; omega)]; simp [go_sem, tR_zero]
  have hq1 : rowFit w1 (w.heap.size + 1) = some 25 := by rw [gq1 _ (by simp)]; simp [go_sem]
  have hst : rowOf (w1.alloc (.cells (tab 24 .u64 cstF) 97)) w.heap.size = tab 25 .u64 (tR s 0) ∧ rowFit (w1.alloc (.cells (tab 24 .u64 cstF) 97)) w.heap.size = some 25 ∧ rowFit (w1.alloc (.cells (tab 24 .u64 cstF) 97)) (w.heap.size + 1) = some 25 ∧ rowOf (w1.alloc (.cells (tab 24 .u64 cstF) 97)) w1.heap.size = tab 24 .u64 cstF ∧ w1.heap.size < (w1.alloc (.cells (tab 24 .u64 cstF) 97)).heap.size ∧ w.heap.size + 2 ≤ w1.heap.size ∧ Below w.heap.size w (w1.alloc (.cells (tab 24 .u64 cstF) 97)) := by
    refine ⟨by rw [rowOf_alloc_past _ _ _ (by omega), hr0], by rw [rowFit_alloc_past _ _ _ (by omega), hq0], by rw [rowFit_alloc_past _ _ _ (by omega), hq1], rowOf_alloc_at _ _ _ _ rfl, by rw [World.size_alloc]; omega, by omega, hb0.alloc (by omega) _⟩
  obtain ⟨G, hG⟩ : ∃ G, w1.heap.size = G := ⟨_, rfl⟩
  rw [hG] at hst ⊢
  clear hb0 hq0 hr0 hq1 gr1 gq1 gs1 hs1 hb1 hG
  go_loopw [4] (fun i wr => ∃ n : Nat, n ≤ 24 ∧ i = .int .i64 n ∧ rowOf wr w.heap.size = tab 25 .u64 (tR s n) ∧ rowFit wr w.heap.size = some 25 ∧ rowFit wr (w.heap.size + 1) = some 25 ∧ rowOf wr G = tab 24 .u64 cstF ∧ G < wr.heap.size ∧ w.heap.size + 2 ≤ G ∧ Below w.heap.size w wr) (fun i _ => 24 - (intOf i).toNat)
  case atStart => exact ⟨0, by omega, rfl, hst⟩
  case round =>
    obtain ⟨n, hn, rfl, r0, q0, q1, rG, sG, s2, hb⟩ := hrel
    clear hst
    by_cases hlt : n < 24
    · obtain ⟨f, hf⟩ : ∃ f, tR s n = f := ⟨_, rfl⟩
      have hsucc := tR_succ s n
      rw [hf] at r0 hsucc
      obtain ⟨c, hc⟩ : ∃ c, cstF n = c := ⟨_, rfl⟩
      rw [hc] at hsucc
      have hs' := Lib.hid hsucc
      clear hf hsucc
      have hn5 : n < 24 ∧ (n : Int) < 24 ∧ (0 : Int) ≤ n := by omega
      have hS : rowOf wr w.heap.size = tab 25 .u64 f ∧ rowOf wr G = tab 24 .u64 cstF ∧ rowFit wr w.heap.size = some 25 ∧ rowFit wr (w.heap.size + 1) = some 25 ∧ G < wr.heap.size ∧ w.heap.size + 2 ≤ G ∧ Below w.heap.size w wr := ⟨r0, rG, q0, q1, sG, s2, hb⟩
      have hS' := Lib.hid hS
      clear hS
      go_wp2
      go_region_with (go_at_call 53; refine (refRound_any _ _ _).mono ?_; rintro e w2 ⟨rfl, hb2⟩; have g0 : rowFit w2 w.heap.size = some 25 := (rowFit_below hb2 (by simp only [World.size_drew]; omega)).trans q0; have g1 : rowFit w2 (w.heap.size + 1) = some 25 := (rowFit_below hb2 (by simp only [World.size_drew]; omega)).trans q1; have gG : rowOf w2 G = tab 24 .u64 cstF := (rowOf_below hb2 (by simp only [World.size_drew]; omega)).trans rG; have gs2 := hb2.size; simp only [World.size_drew] at gs2)
      all_goals go_wp2
      all_goals
        refine ⟨⟨n + 1, by omega, by go_num, ?_, ?_, ?_, ?_, ?_, s2, ?_⟩, by simp [intOf]; omega⟩
        · rw [rowOf_setRow_same _ _ _ (by rw [g0]; rfl), hs'.out, cl25_tab]
        · rw [rowFit_setRow_same _ _ _ (by rw [g0]; rfl), tab_size]
        · rw [rowFit_setRow_other _ _ _ _ (by omega), g1]
        · rw [rowOf_setRow_other _ _ _ _ (by omega), gG]
        · rw [setRow_size]; omega
        · simp only [World.size_drew] at hb2
          exact below_setRow' (hb.trans (Below.trans (Below.drew (Below.refl _ _)) (hb2.mono (by have := hb.size; omega)))) (by omega) _
    · have hn24 : n = 24 := by omega
      rw [hn24] at r0
      clear hn24
      go_wp2
      refine bodyPost_ret (res_u25 Tryd.results16 _ _ _ (tab 25 .u64 (turnF s)) rfl (by rw [rowOf_setRow_same _ _ _ (by rw [q1]; rfl)]; rfl) (by simp [go_sem])) rfl ⟨rfl, ?_⟩
      (repeat' (first | exact Below.refl _ _ | assumption | refine Below.alloc ?_ (by (try simp only [World.size_alloc, World.size_setCell, World.size_drew, setRow_size] at *); first | done | omega) _ | refine Below.setCell ?_ (by (try simp only [World.size_alloc, World.size_setCell, World.size_drew, setRow_size] at *); first | done | omega) _ | refine Below.drew ?_ | refine Below.trans ?_ (Below.mono (by assumption) (by (try simp only [World.size_alloc, World.size_setCell, World.size_drew, setRow_size] at *); first | done | omega)) | refine below_setRow' ?_ (by (try simp only [World.size_alloc, World.size_setCell, World.size_drew, setRow_size] at *); first | done | omega) _))
end Go.Proofs.YtfjigoimjaemmaaDoor
