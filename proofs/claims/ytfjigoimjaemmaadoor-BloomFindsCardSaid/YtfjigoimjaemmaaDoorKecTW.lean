/- keccak: all rounds of the given program. -/
import Derived.Test.YtfjigoimjaemmaaDoorKecRW
namespace Go.Proofs.YtfjigoimjaemmaaDoor
open Go.RowKit
set_option linter.unusedSimpArgs false
set_option linter.unusedVariables false
set_option maxRecDepth 100000

@[go_sem ↓] theorem run_index_u24 (f : Nat → Int) (k : Nat) (w : World) : (Instr.index 97 (.agg (tab 24 .u64 f)) (.int .i64 (k : Int))).run Tryd.prog w = if k < 24 then .ok (.int .u64 (f k)) w else (Instr.index 97 (.agg (tab 24 .u64 f)) (.int .i64 (k : Int))).run Tryd.prog w := by
  split
  · rename_i h
    simp [Instr.index, go_sem, Tryd.underlying97, h]
  · rfl

set_option maxHeartbeats 1000000 in
theorem turn_any (s : Nat → Int) (w : World) (hL : KLaid w) :
    Calls Tryd.prog 15 #[.agg (tab 25 .u64 s)] w fun e w' => e = .returned (.agg (tab 25 .u64 (turnF s))) ∧ Below w.heap.size w w' := by
  have hL' := Lib.hid hL
  obtain ⟨t0, t1, t2, t3⟩ := hL
  clear t1 t2
  have t4 : 0 < w.heap.size := by omega
  go_enter Tryd.func15, Tryd.ntmps15
  go_wp2
  clear t0
  go_loopw [6] (fun i wr => ∃ n : Nat, n ≤ 24 ∧ i = .int .i64 n ∧ rowOf wr w.heap.size = tab 25 .u64 (tK s n) ∧ rowFit wr w.heap.size = some 25 ∧ rowFit wr (w.heap.size + 1) = some 25 ∧ w.heap.size + 2 ≤ wr.heap.size ∧ Below w.heap.size w wr) (fun i _ => 24 - (intOf i).toNat)
  case atStart =>
    refine ⟨0, by omega, rfl, ?_, ?_, ?_, ?_, ?_⟩
    · simp [go_sem, tK]
    · simp [go_sem]
    · simp [go_sem]
    · simp
    · (repeat' (first | exact Below.refl _ _ | assumption | refine Below.alloc ?_ (by (try simp only [World.size_alloc, World.size_setCell, World.size_drew, setRow_size] at *); first | done | omega) _ | refine Below.setCell ?_ (by (try simp only [World.size_alloc, World.size_setCell, World.size_drew, setRow_size] at *); first | done | omega) _ | refine Below.drew ?_ | refine Below.trans ?_ (Below.mono (by assumption) (by (try simp only [World.size_alloc, World.size_setCell, World.size_drew, setRow_size] at *); first | done | omega)) | refine below_setRow' ?_ (by (try simp only [World.size_alloc, World.size_setCell, World.size_drew, setRow_size] at *); first | done | omega) _))
  case round =>
    obtain ⟨n, hn, rfl, r0, q0, q1, sz, hb⟩ := hrel
    have hLr := Lib.hid (hL'.out.below hb)
    by_cases hlt : n < 24
    · obtain ⟨f, hf⟩ : ∃ f, tK s n = f := ⟨_, rfl⟩
      obtain ⟨c, hc⟩ : ∃ c, cstF n = c := ⟨_, rfl⟩
      rw [hf] at r0
      have hf' := Lib.hid hf
      have hc' := Lib.hid hc
      clear hf
      go_wp2_with (first
        | (go_at_call 51; refine (round_any _ _ hLr.out).mono ?_; rintro e w1 ⟨rfl, hb1⟩; have g0 : rowFit w1 w.heap.size = some 25 := (rowFit_below hb1 (by omega)).trans q0; have g1 : rowFit w1 (w.heap.size + 1) = some 25 := (rowFit_below hb1 (by omega)).trans q1; have gs1 := hb1.size))
      refine ⟨⟨n + 1, by omega, by go_num, ?_, ?_, ?_, ?_, ?_⟩, by simp [intOf]; omega⟩
      · rw [rowOf_setCell_same, rowOf_setRow_same _ _ _ (by rw [g0]; rfl), tab_set]
        simp only [tK, hf'.out, hc'.out, cl25_tab]
      · rw [rowFit_setCell, rowFit_setRow_same _ _ _ (by rw [g0]; rfl), tab_size]
      · rw [rowFit_setCell, rowFit_setRow_other _ _ _ _ (by omega), g1]
      · rw [World.size_setCell, setRow_size]; omega
      · exact (below_setRow' (hb.trans (hb1.mono (by omega))) (by omega) _).setCell (by simp) _
    · have hn24 : n = 24 := by omega
      rw [hn24, tK_eq] at r0
      clear hn24
      go_wp2
      refine bodyPost_ret (res_u25 Tryd.results15 _ _ _ (tab 25 .u64 (turnF s)) rfl (by rw [rowOf_setRow_same _ _ _ (by rw [q1]; rfl)]; rfl) (by simp [go_sem])) rfl ⟨rfl, ?_⟩
      (repeat' (first | exact Below.refl _ _ | assumption | refine Below.alloc ?_ (by (try simp only [World.size_alloc, World.size_setCell, World.size_drew, setRow_size] at *); first | done | omega) _ | refine Below.setCell ?_ (by (try simp only [World.size_alloc, World.size_setCell, World.size_drew, setRow_size] at *); first | done | omega) _ | refine Below.drew ?_ | refine Below.trans ?_ (Below.mono (by assumption) (by (try simp only [World.size_alloc, World.size_setCell, World.size_drew, setRow_size] at *); first | done | omega)) | refine below_setRow' ?_ (by (try simp only [World.size_alloc, World.size_setCell, World.size_drew, setRow_size] at *); first | done | omega) _))
end Go.Proofs.YtfjigoimjaemmaaDoor
