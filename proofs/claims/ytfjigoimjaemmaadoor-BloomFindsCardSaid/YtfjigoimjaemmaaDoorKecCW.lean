/- keccak: the reference's constants. -/
import Derived.Test.YtfjigoimjaemmaaDoorKecF
import Derived.BigRegion
import Derived.Deep.RegionHeld3
import Derived.Deep.DrawnRows
namespace Go.Proofs.YtfjigoimjaemmaaDoor
open Go.RowKit
set_option linter.unusedSimpArgs false
set_option linter.unusedVariables false
set_option maxRecDepth 100000

/-- the row of bits, by number -/
def nxF (n : Nat) : Nat := if 256 ≤ 2 * n then (2 * n) ^^^ 369 else 2 * n
def ngF : Nat → Nat
  | 0 => 1
  | k + 1 => nxF (ngF k)
def orF (f : Nat → Int) (i j : Nat) : Int := bits .or .u64 (f i) (IntKind.u64.wrap (2 ^ (2 ^ j - 1)))
def ccIn (n : Nat) (i : Nat) (f : Nat → Int) : Nat → Nat → Int
  | 0 => f
  | j + 1 => if ngF (n + j) % 2 = 1 then upd (ccIn n i f j) i (orF (ccIn n i f j) i j) else ccIn n i f j
def ccOut : Nat → Nat → Int
  | 0 => zf
  | i + 1 => ccIn (7 * i) i (ccOut i) 7
theorem ng_lt : ∀ k, k < 169 → ngF k < 256 := by decide
set_option maxHeartbeats 4000000 in
theorem cc_eq : ∀ i, i < 24 → ccOut 24 i = cstF i := by decide

theorem ng_zero : ngF (7 * 0) = 1 := rfl
theorem ng_succ (i j : Nat) : ngF (7 * i + (j + 1)) = nxF (ngF (7 * i + j)) := rfl
theorem ccIn_succ (n i : Nat) (f : Nat → Int) (j : Nat) : ccIn n i f (j + 1) = if ngF (n + j) % 2 = 1 then upd (ccIn n i f j) i (orF (ccIn n i f j) i j) else ccIn n i f j := rfl
theorem ccOut_succ (i : Nat) : ccOut (i + 1) = ccIn (7 * i) i (ccOut i) 7 := rfl
theorem ccIn_zero (n i : Nat) (f : Nat → Int) : ccIn n i f 0 = f := rfl
theorem xor_369 (a : Nat) (h : a < 512) : bits .xor .i64 (a : Int) 369 = ((a ^^^ 369 : Nat) : Int) ∧ a ^^^ 369 < 512 := by
  have hx : a ^^^ 369 < 2 ^ 9 := Nat.xor_lt_two_pow (by omega) (by omega)
  have h1 : (BitVec.ofInt 64 (a : Int)).toNat = a := by
    rw [BitVec.ofInt_natCast, BitVec.toNat_ofNat]; exact Nat.mod_eq_of_lt (by omega)
  have h2 : (BitVec.ofInt 64 (369 : Int)).toNat = 369 := by decide
  refine ⟨?_, by omega⟩
  show IntKind.i64.wrap ((BitVec.ofInt 64 (a : Int) ^^^ BitVec.ofInt 64 (369 : Int)).toNat : Int) = _
  rw [BitVec.toNat_xor, h1, h2, i64w (by omega) (by omega)]

attribute [local irreducible] ngF ccIn ccOut
attribute [local go_sem ↓] Go.wp_at_zero Go.wp_at_succ
set_option maxHeartbeats 4000000 in
theorem constants_any (w : World) :
    Calls Tryd.prog 52 #[] w fun e w' => e = .returned (.agg (tab 24 .u64 cstF)) ∧ Below w.heap.size w w' := by
  go_enter Tryd.func52, Tryd.ntmps52
  go_wp2
  go_loopw [2, 3] (fun t i wr => ∃ n : Nat, n ≤ 24 ∧ i = .int .i64 n ∧ t = .int .i64 (ngF (7 * n) : Nat) ∧ rowFit wr w.heap.size = some 24 ∧ rowOf wr (w.heap.size + 1) = tab 24 .u64 (ccOut n) ∧ rowFit wr (w.heap.size + 1) = some 24 ∧ w.heap.size + 2 ≤ wr.heap.size ∧ Below w.heap.size w wr) (fun _ i _ => 24 - (intOf i).toNat)
  case atStart =>
    refine ⟨0, by omega, rfl, by rw [ng_zero]; rfl, ?_, ?_, ?_, ?_, ?_⟩
    · simp [go_sem]
    · simp [go_sem, ccOut]
    · simp [go_sem]
    · simp
    · (repeat' (first | exact Below.refl _ _ | assumption | refine Below.alloc ?_ (by (try simp only [World.size_alloc, World.size_setCell, World.size_drew, setRow_size] at *); first | done | omega) _ | refine Below.setCell ?_ (by (try simp only [World.size_alloc, World.size_setCell, World.size_drew, setRow_size] at *); first | done | omega) _ | refine Below.drew ?_ | refine Below.trans ?_ (Below.mono (by assumption) (by (try simp only [World.size_alloc, World.size_setCell, World.size_drew, setRow_size] at *); first | done | omega)) | refine below_setRow' ?_ (by (try simp only [World.size_alloc, World.size_setCell, World.size_drew, setRow_size] at *); first | done | omega) _))
  case round =>
    obtain ⟨i, hi, rfl, rfl, q0, r1, q1, sz, hb⟩ := hrel
    by_cases hlt : i < 24
    · have hS : rowFit wr w.heap.size = some 24 ∧ rowOf wr (w.heap.size + 1) = tab 24 .u64 (ccIn (7 * i) i (ccOut i) 0) ∧ rowFit wr (w.heap.size + 1) = some 24 ∧ w.heap.size + 2 ≤ wr.heap.size ∧ Below w.heap.size w wr := ⟨q0, by rw [ccIn_zero]; exact r1, q1, sz, hb⟩
      clear q0 r1 q1 sz hb
      go_wp2
      go_loopw [2, 4] (fun t k wr => ∃ j : Nat, j ≤ 7 ∧ k = .int .i64 j ∧ t = .int .i64 (ngF (7 * i + j) : Nat) ∧ rowFit wr w.heap.size = some 24 ∧ rowOf wr (w.heap.size + 1) = tab 24 .u64 (ccIn (7 * i) i (ccOut i) j) ∧ rowFit wr (w.heap.size + 1) = some 24 ∧ w.heap.size + 2 ≤ wr.heap.size ∧ Below w.heap.size w wr) (fun _ k _ => 7 - (intOf k).toNat)
      case atStart => exact ⟨0, by omega, rfl, rfl, hS⟩
      case round =>
        obtain ⟨j, hj, rfl, rfl, q0, r1, q1, sz, hb⟩ := hrel
        clear hS
        by_cases hlj : j < 7
        · have hm0 := ng_lt (7 * i + j) (by omega)
          have hnx := ng_succ i j
          have hcc := ccIn_succ (7 * i) i (ccOut i) j
          obtain ⟨m, hm⟩ : ∃ m, ngF (7 * i + j) = m := ⟨_, rfl⟩
          obtain ⟨f, hf⟩ : ∃ f, ccIn (7 * i) i (ccOut i) j = f := ⟨_, rfl⟩
          rw [hm] at hm0 hnx hcc
          rw [hf] at r1 hcc
          rw [hm]
          have hx := xor_369 (2 * m) (by omega)
          obtain ⟨z, hz⟩ : ∃ z, 2 * m ^^^ 369 = z := ⟨_, rfl⟩
          rw [hz] at hx
          obtain ⟨hx1, hx2⟩ := hx
          rw [show ((2 * m : Nat) : Int) = (m : Int) * 2 from by omega] at hx1
          have hnx' := Lib.hid hnx
          have hcc' := Lib.hid hcc
          have hz' := Lib.hid hz
          clear hnx hcc hm hf hz
          have hi5 : i < 24 ∧ (i : Int) < 24 ∧ (0 : Int) ≤ i := by omega
          by_cases h1 : m % 2 = 1
          · have h1' : ((m : Int) % 2 == 1) = true := by simp; omega
            have p0 : (0 : Int) ≤ (j : Int) := by omega
            obtain ⟨P, hP⟩ : ∃ P : Nat, 2 ^ j = P := ⟨_, rfl⟩
            have hP1 : 1 ≤ P ∧ P ≤ 64 := by
              subst hP
              exact ⟨Nat.pow_pos (by omega), Nat.pow_le_pow_right (n := 2) (by omega) (show j ≤ 6 by omega)⟩
            have e1 : (2 : Int) ^ j = (P : Int) := by rw [← hP]; simp
            have e2 : IntKind.u64.wrap (P : Int) = P := u64w (by omega) (by omega)
            have e3 : IntKind.u64.wrap ((P : Int) - 1) = (P : Int) - 1 := u64w (by omega) (by omega)
            obtain ⟨p, hp⟩ : ∃ p : Nat, (P : Int) - 1 = p := ⟨P - 1, by omega⟩
            rw [hp] at e3
            have hor : orF f i j = bits .or .u64 (f i) (IntKind.u64.wrap (2 ^ p)) := by
              unfold orF; rw [hP, show P - 1 = p from by omega]
            have hor' := Lib.hid hor
            have p1 : (0 : Int) ≤ (p : Int) := by omega
            have hp63 : p ≤ 63 := by omega
            clear hP hor hP1
            go_wp2
            go_region
            all_goals go_wp2
            all_goals
              rw [← hor'.out]
              refine ⟨⟨j + 1, by omega, by go_num, ?_, ?_, ?_, ?_, ?_, ?_⟩, by simp [intOf]; omega⟩
              · rw [hnx'.out]; unfold nxF
                first
                  | (rw [if_pos (by omega), hz'.out])
                  | (rw [if_neg (by omega)]; simp only [Value.int.injEq, true_and]; omega)
              · simp only [rowFit_drew, rowFit_setCell]; exact q0
              · rw [hcc'.out, if_pos h1, rowOf_drew, rowOf_setCell_same, r1, tab_set]
              · simp only [rowFit_drew, rowFit_setCell]; exact q1
              · simp only [World.size_drew, World.size_setCell]; exact sz
              · exact (hb.setCell (by simp) _).drew
          · have h1' : ((m : Int) % 2 == 1) = false := by simp; omega
            go_wp2
            all_goals
              refine ⟨⟨j + 1, by omega, by go_num, ?_, q0, ?_, q1, sz, hb⟩, by simp [intOf]; omega⟩
              · rw [hnx'.out]; unfold nxF
                first
                  | (rw [if_pos (by omega), hz'.out])
                  | (rw [if_neg (by omega)]; simp only [Value.int.injEq, true_and]; omega)
              · rw [hcc'.out, if_neg h1]; exact r1
        · have hj7 : j = 7 := by omega
          have r2 := r1
          rw [hj7, ← ccOut_succ] at r2
          have e8 : ngF (7 * i + j) = ngF (7 * (i + 1)) := by rw [hj7, show 7 * i + 7 = 7 * (i + 1) from by omega]
          rw [e8]
          obtain ⟨m, hm⟩ : ∃ m, ngF (7 * (i + 1)) = m := ⟨_, rfl⟩
          rw [hm]
          have hm' := Lib.hid hm
          have r2' := Lib.hid r2
          clear hm e8 hj7 r1 r2
          go_wp2
          refine ⟨⟨i + 1, by omega, by go_num, by rw [hm'.out], q0, r2'.out, q1, sz, hb⟩, by simp [intOf]; omega⟩
    · have hi24 : i = 24 := by omega
      have e9 : tab 24 .u64 (ccOut 24) = tab 24 .u64 cstF := tab_ext (f := ccOut 24) (g := cstF) cc_eq
      rw [hi24, e9] at r1
      clear e9
      clear hi24
      go_wp2
      refine bodyPost_ret (res_u24 Tryd.results52 _ _ _ (tab 24 .u64 cstF) rfl (by rw [rowOf_setRow_same _ _ _ (by rw [q0]; rfl)]) (by simp [go_sem])) rfl ⟨rfl, ?_⟩
      (repeat' (first | exact Below.refl _ _ | assumption | refine Below.alloc ?_ (by (try simp only [World.size_alloc, World.size_setCell, World.size_drew, setRow_size] at *); first | done | omega) _ | refine Below.setCell ?_ (by (try simp only [World.size_alloc, World.size_setCell, World.size_drew, setRow_size] at *); first | done | omega) _ | refine Below.drew ?_ | refine Below.trans ?_ (Below.mono (by assumption) (by (try simp only [World.size_alloc, World.size_setCell, World.size_drew, setRow_size] at *); first | done | omega)) | refine below_setRow' ?_ (by (try simp only [World.size_alloc, World.size_setCell, World.size_drew, setRow_size] at *); first | done | omega) _))
end Go.Proofs.YtfjigoimjaemmaaDoor
