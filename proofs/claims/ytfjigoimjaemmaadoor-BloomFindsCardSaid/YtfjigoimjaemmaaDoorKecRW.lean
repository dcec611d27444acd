/- keccak: a round of the given program. -/
import Derived.Test.YtfjigoimjaemmaaDoorKecF
import Derived.BigRegion
import Derived.Deep.RegionHeld3
import Derived.Deep.DrawnRows
namespace Go.Proofs.YtfjigoimjaemmaaDoor
open Go.RowKit
set_option linter.unusedSimpArgs false
set_option linter.unusedVariables false
set_option maxRecDepth 100000

/-- the tables of the rounds lie where the program's text lays them -/
def KLaid (w : World) : Prop := rowOf w 0 = tab 24 .u64 cstF ∧ rowOf w 1 = tab 24 .i64 plcF ∧ rowOf w 2 = tab 24 .i64 trnF ∧ 3 ≤ w.heap.size
theorem KLaid.below {w w' : World} (h : KLaid w) (hb : Below w.heap.size w w') : KLaid w' := by
  obtain ⟨h0, h1, h2, h3⟩ := h
  exact ⟨by rw [rowOf_below hb (by omega), h0], by rw [rowOf_below hb (by omega), h1], by rw [rowOf_below hb (by omega), h2], by have := hb.size; omega⟩

/-- the memory of a round: the state's block, the result's, that of the five sums -/
def KS (w wr : World) (f c : Nat → Int) : Prop :=
  rowOf wr w.heap.size = tab 25 .u64 f ∧ rowFit wr w.heap.size = some 25 ∧ rowFit wr (w.heap.size + 1) = some 25 ∧ rowOf wr (w.heap.size + 1 + 1) = tab 5 .u64 c ∧ rowFit wr (w.heap.size + 1 + 1) = some 5 ∧ w.heap.size + 3 ≤ wr.heap.size ∧ Below w.heap.size w wr
theorem KS.drew {w wr : World} {f c : Nat → Int} (h : KS w wr f c) : KS w wr.drew f c :=
  ⟨h.1, h.2.1, h.2.2.1, h.2.2.2.1, h.2.2.2.2.1, h.2.2.2.2.2.1, h.2.2.2.2.2.2.drew⟩
theorem KS.set0 {w wr : World} {f c : Nat → Int} (h : KS w wr f c) (i : Nat) (v : Int) : KS w (wr.setCell ⟨w.heap.size, i, none⟩ (.int .u64 v)) (upd f i v) c := by
  obtain ⟨h1, h2, h3, h4, h5, h6, h7⟩ := h
  refine ⟨by rw [rowOf_setCell_same, h1, tab_set], by rw [rowFit_setCell, h2], by rw [rowFit_setCell, h3], by rw [rowOf_setCell_other _ _ _ _ (by simp; omega), h4], by rw [rowFit_setCell, h5], by rw [World.size_setCell]; exact h6, h7.setCell (by simp) _⟩
theorem KS.set2 {w wr : World} {f c : Nat → Int} (h : KS w wr f c) (i : Nat) (v : Int) : KS w (wr.setCell ⟨w.heap.size + 1 + 1, i, none⟩ (.int .u64 v)) f (upd c i v) := by
  obtain ⟨h1, h2, h3, h4, h5, h6, h7⟩ := h
  refine ⟨by rw [rowOf_setCell_other _ _ _ _ (by simp; omega), h1], by rw [rowFit_setCell, h2], by rw [rowFit_setCell, h3], by rw [rowOf_setCell_same, h4, tab_set], by rw [rowFit_setCell, h5], by rw [World.size_setCell]; exact h6, h7.setCell (by simp; omega) _⟩
theorem KS.alloc {w wr : World} {f c : Nat → Int} (h : KS w wr f c) (o : Obj) : KS w (wr.alloc o) f c := by
  obtain ⟨h1, h2, h3, h4, h5, h6, h7⟩ := h
  have hs : (wr.alloc o).heap.size = wr.heap.size + 1 := World.size_alloc _ _
  refine ⟨by rw [rowOf_alloc_past _ _ _ (by omega), h1], by rw [rowFit_alloc_past _ _ _ (by omega), h2], by rw [rowFit_alloc_past _ _ _ (by omega), h3], by rw [rowOf_alloc_past _ _ _ (by omega), h4], by rw [rowFit_alloc_past _ _ _ (by omega), h5], by omega, h7.alloc (by omega) _⟩

@[go_sem] theorem run_arrayAt_u5 (a : Addr) (cap : Nat) (w : World) : (Instr.arrayAt 143 (.slice (some a) 5 cap)).run Tryd.prog w = .ok (.pointer (some a)) w := by
  simp [Instr.arrayAt, run_underlying Tryd.underlying143]
@[go_sem ↓] theorem u64_ones : (if IntKind.u64.signed = true then (-1 : Int) else IntKind.u64.max) = IntKind.u64.max := rfl
theorem plc_nat : ∀ k, k < 24 → plcF k = (plcN k : Nat) := by decide
theorem plc_lt : ∀ k, k < 24 → plcN k < 25 := by decide
theorem trn_nat : ∀ k, k < 24 → trnF k = (trnN k : Nat) := by decide
theorem trn_lt : ∀ k, k < 24 → 0 < trnN k ∧ trnN k < 64 := by decide

@[go_sem ↓] theorem run_index_i24 (f : Nat → Int) (k : Nat) (w : World) : (Instr.index 145 (.agg (tab 24 .i64 f)) (.int .i64 (k : Int))).run Tryd.prog w = if k < 24 then .ok (.int .i64 (f k)) w else (Instr.index 145 (.agg (tab 24 .i64 f)) (.int .i64 (k : Int))).run Tryd.prog w := by
  split
  · rename_i h
    simp [Instr.index, go_sem, Tryd.underlying145, h]
  · rfl

attribute [local go_sem ↓] Go.wp_at_zero Go.wp_at_succ
set_option maxHeartbeats 4000000 in
theorem round_any (s : Nat → Int) (w : World) (hL : KLaid w) :
    Calls Tryd.prog 51 #[.agg (tab 25 .u64 s)] w fun e w' => e = .returned (.agg (tab 25 .u64 (kRound s))) ∧ Below w.heap.size w w' := by
  obtain ⟨t0, t1, t2, t3⟩ := hL
  have hn1 := Lib.hid t1
  have hn2 := Lib.hid t2
  clear t0 t1 t2
  go_enter Tryd.func51, Tryd.ntmps51
  go_wp2
  go_loopw [15] (fun i wr => ∃ n : Nat, n ≤ 5 ∧ i = .int .i64 n ∧ KS w wr s (upK (cK s) n)) (fun i _ => 5 - (intOf i).toNat)
  case atStart =>
    refine ⟨0, by omega, rfl, ?_, ?_, ?_, ?_, ?_, ?_, ?_⟩
    · simp [go_sem]
    · simp [go_sem]
    · simp [go_sem]
    · simp [go_sem, upK_zero]
    · simp [go_sem]
    · simp
    · (repeat' (first | exact Below.refl _ _ | assumption | refine Below.alloc ?_ (by (try simp only [World.size_alloc, World.size_setCell, World.size_drew, setRow_size] at *); first | done | omega) _ | refine Below.setCell ?_ (by (try simp only [World.size_alloc, World.size_setCell, World.size_drew, setRow_size] at *); first | done | omega) _ | refine Below.drew ?_ | refine Below.trans ?_ (Below.mono (by assumption) (by (try simp only [World.size_alloc, World.size_setCell, World.size_drew, setRow_size] at *); first | done | omega)) | refine below_setRow' ?_ (by (try simp only [World.size_alloc, World.size_setCell, World.size_drew, setRow_size] at *); first | done | omega) _))
  case round =>
    obtain ⟨n, hn, rfl, hK⟩ := hrel
    have hK' := Lib.hid hK
    obtain ⟨r0, q0, q1, r2, q2, sz, hb⟩ := hK
    by_cases hlt : n < 5
    · go_wp2
      have k5 : IntKind.i64.wrap ((n : Int) + 5) = n + 5 := i64w (by omega) (by omega)
      have k10 : IntKind.i64.wrap ((n : Int) + 10) = n + 10 := i64w (by omega) (by omega)
      have k15 : IntKind.i64.wrap ((n : Int) + 15) = n + 15 := i64w (by omega) (by omega)
      have k20 : IntKind.i64.wrap ((n : Int) + 20) = n + 20 := i64w (by omega) (by omega)
      have z0 : (0 : Int) ≤ (n : Int) ∧ (n : Int) < 25 ∧ n < 25 ∧ (n : Int) < 5 := by omega
      have z5 : (0 : Int) ≤ (n : Int) + 5 ∧ (n : Int) + 5 < 25 ∧ n + 5 < 25 := by omega
      have z10 : (0 : Int) ≤ (n : Int) + 10 ∧ (n : Int) + 10 < 25 ∧ n + 10 < 25 := by omega
      have z15 : (0 : Int) ≤ (n : Int) + 15 ∧ (n : Int) + 15 < 25 ∧ n + 15 < 25 := by omega
      have z20 : (0 : Int) ≤ (n : Int) + 20 ∧ (n : Int) + 20 < 25 ∧ n + 20 < 25 := by omega
      go_region_held3 (fun w' => rowOf w' w.heap.size = tab 25 .u64 s ∧ rowFit w' (w.heap.size + 1 + 1) = some 5) (first | assumption | (refine ⟨?_, ?_⟩ <;> (simp only [rowOf_drew, rowFit_drew, rowFit_setCell]; first | assumption | (rw [rowOf_setCell_other _ _ _ _ (by simp; omega)]; assumption)))) (fail)
      all_goals go_wp2
      refine ⟨⟨n + 1, by omega, by go_num, ?_⟩, by simp [intOf]; omega⟩
      rw [← upK_succ (cK s) n _ rfl]
      exact (hK'.out.set2 n _).drew
    · have hn5 : n = 5 := by omega
      have hK2 : KS w wr s (cK s) := by
        have := hK'.out
        rw [hn5] at this
        unfold KS at this ⊢
        rw [upK_tab] at this
        exact this
      obtain ⟨c, hc⟩ : ∃ c, cK s = c := ⟨_, rfl⟩
      rw [hc] at hK2
      clear hK' r0 q0 q1 r2 q2 sz hb hn5
      go_wp2
      go_loopw [44] (fun i wr => ∃ x : Nat, x ≤ 5 ∧ i = .int .i64 x ∧ KS w wr (thOut c s x) c) (fun i _ => 5 - (intOf i).toNat)
      case atStart => exact ⟨0, by omega, rfl, hK2⟩
      case round =>
        obtain ⟨x, hx, rfl, hK⟩ := hrel
        clear hK2
        have hK' := Lib.hid hK
        obtain ⟨r0, q0, q1, r2, q2, sz, hb⟩ := hK
        by_cases hlt : x < 5
        · go_wp2
          have k4 : IntKind.i64.wrap ((x : Int) + 4) = x + 4 := i64w (by omega) (by omega)
          have k1 : IntKind.i64.wrap ((x : Int) + 1) = x + 1 := i64w (by omega) (by omega)
          have m4 : ((x : Int) + 4).tmod 5 = ((x + 4) % 5 : Nat) := by rw [Int.tmod_eq_emod_of_nonneg (by omega)]; omega
          have m1 : ((x : Int) + 1).tmod 5 = ((x + 1) % 5 : Nat) := by rw [Int.tmod_eq_emod_of_nonneg (by omega)]; omega
          obtain ⟨p, hp⟩ : ∃ p, (x + 4) % 5 = p := ⟨_, rfl⟩
          obtain ⟨q, hq⟩ : ∃ q, (x + 1) % 5 = q := ⟨_, rfl⟩
          have hd : dK c x = bits .xor .u64 (c p) (rotF (c q) 1) := by unfold dK; rw [hp, hq]
          rw [hp] at m4
          rw [hq] at m1
          have p5 : p < 5 ∧ (p : Int) < 5 ∧ (0 : Int) ≤ p := by omega
          have q5 : q < 5 ∧ (q : Int) < 5 ∧ (0 : Int) ≤ q := by omega
          clear hp hq
          have hd' := Lib.hid hd
          clear hd
          go_region_held3 (fun w' => rowOf w' (w.heap.size + 1 + 1) = tab 5 .u64 c) (first | assumption) (first
            | (go_at_call 81; refine (rotate_any _ 1 (by omega) (by omega) _).mono ?_; rintro e w1 ⟨rfl, rfl⟩))
          all_goals go_wp2
          rw [← hd'.out]
          have hdx : ∃ d, dK c x = d := ⟨_, rfl⟩
          obtain ⟨d, hd⟩ := hdx
          rw [hd]
          have hd2 := Lib.hid hd
          have hK3 : KS w wr.drew (thIn d x (thOut c s x) 0) c := hK'.out.drew
          clear hd hd' m4 m1 k4 k1 p5 q5 r0 q0 q1 r2 q2 sz hb
          go_loopw [7] (fun y wr => ∃ m : Nat, m ≤ 5 ∧ y = .int .i64 (5 * (m : Int)) ∧ KS w wr (thIn d x (thOut c s x) m) c) (fun y _ => 25 - (intOf y).toNat)
          case atStart => exact ⟨0, by omega, rfl, hK3⟩
          case round =>
            obtain ⟨m, hm, rfl, hK⟩ := hrel
            clear hK3 hK'
            have hK' := Lib.hid hK
            obtain ⟨r0, q0, q1, r2, q2, sz, hb⟩ := hK
            by_cases hlm : m < 5
            · have k1 : IntKind.i64.wrap ((x : Int) + 5 * (m : Int)) = x + 5 * m := i64w (by omega) (by omega)
              have k2 : IntKind.i64.wrap (5 * (m : Int) + 5) = 5 * m + 5 := i64w (by omega) (by omega)
              obtain ⟨j, hj⟩ : ∃ j : Nat, x + 5 * m = j := ⟨_, rfl⟩
              have hj1 : (x : Int) + 5 * m = j := by omega
              have hj2 : j < 25 ∧ (j : Int) < 25 ∧ (0 : Int) ≤ j := by omega
              have hm2 : 5 * (m : Int) < 25 := by omega
              rw [hj1] at k1
              have hjj := Lib.hid hj
              clear hj
              go_wp2
              refine ⟨⟨m + 1, by omega, by go_num, ?_⟩, by simp [intOf]; omega⟩
              have := hK'.out.set0 j (xr (thIn d x (thOut c s x) m j) d)
              rw [← hjj.out] at this ⊢
              exact this
            · have hm5 : m = 5 := by omega
              have hK8 := hK'.out
              rw [hm5, ← hd2.out] at hK8
              have hK9 := Lib.hid hK8
              clear hm5 hK8
              go_wp2
              refine ⟨⟨x + 1, by omega, by go_num, hK9.out⟩, by simp [intOf]; omega⟩
        · have hx5 : x = 5 := by omega
          have hg : ∃ g, thOut c s 5 = g := ⟨_, rfl⟩
          obtain ⟨g, hg⟩ := hg
          rw [hx5, hg] at r0
          have hK4 : KS w wr g c := by have := hK'.out; rw [hx5, hg] at this; exact this
          have hc' := Lib.hid hc
          have hg' := Lib.hid hg
          have e1 : rowOf wr 1 = tab 24 .i64 plcF := by rw [rowOf_below hb (by omega)]; exact hn1.out
          clear hc hg hK' q0 q1 r2 q2 sz hb hx5
          go_wp2
          have hK5 : KS w wr (rpF g 0).1 c := hK4
          clear r0 e1 hK4
          go_loopw [8, 75] (fun l i wr => ∃ k : Nat, k ≤ 24 ∧ i = .int .i64 k ∧ l = .int .u64 (rpF g k).2 ∧ KS w wr (rpF g k).1 c) (fun _ i _ => 24 - (intOf i).toNat)
          case atStart => exact ⟨0, by omega, rfl, rfl, hK5⟩
          case round =>
            obtain ⟨k, hk, rfl, rfl, hK⟩ := hrel
            clear hK5
            have hK' := Lib.hid hK
            obtain ⟨r0, q0, q1, r2, q2, sz, hb⟩ := hK
            by_cases hlt : k < 24
            · have e2 : rowOf wr 2 = tab 24 .i64 trnF := by rw [rowOf_below hb (by omega)]; exact hn2.out
              obtain ⟨p, hp, hp1, hp2⟩ : ∃ p : Nat, plcN k = p ∧ plcF k = p ∧ p < 25 := ⟨plcN k, rfl, plc_nat k hlt, plc_lt k hlt⟩
              obtain ⟨q, hq, hq1, hq2, hq3⟩ : ∃ q : Nat, trnN k = q ∧ trnF k = q ∧ 0 < q ∧ q < 64 := ⟨trnN k, rfl, trn_nat k hlt, trn_lt k hlt⟩
              have hp' := Lib.hid hp
              have hq' := Lib.hid hq
              have hk5 : k < 24 ∧ (k : Int) < 24 ∧ (0 : Int) ≤ k := by omega
              have hp5 : p < 25 ∧ (p : Int) < 25 ∧ (0 : Int) ≤ p := by omega
              clear hp hq
              go_wp2_with (first
                | (go_at_call 81; refine (rotate_any _ q (by omega) (by omega) _).mono ?_; rintro e w1 ⟨rfl, rfl⟩))
              refine ⟨⟨k + 1, by omega, by go_num, ?_, ?_⟩, by simp [intOf]; omega⟩
              · simp only [rpF, hp'.out]
              · have := hK'.out.set0 p (rotF (rpF g k).2 q)
                simp only [rpF, hp'.out, hq'.out]
                exact this
            · have hk24 : k = 24 := by omega
              have hK6 := hK'.out
              rw [hk24] at hK6
              obtain ⟨h, hh⟩ : ∃ h, (rpF g 24).1 = h := ⟨_, rfl⟩
              rw [hh] at hK6
              have hh' := Lib.hid hh
              clear hh hK' r0 q0 q1 r2 q2 sz hb hk24
              go_wp2
              have hK7 : KS w wr (chOut h 0) c := hK6
              clear hK6
              go_loopw [12] (fun y wr => ∃ m : Nat, m ≤ 5 ∧ y = .int .i64 (5 * (m : Int)) ∧ KS w wr (chOut h m) c) (fun y _ => 25 - (intOf y).toNat)
              case atStart => exact ⟨0, by omega, rfl, hK7⟩
              case round =>
                obtain ⟨m, hm, rfl, hK⟩ := hrel
                clear hK7
                have hK' := Lib.hid hK
                obtain ⟨r0, q0, q1, r2, q2, sz, hb⟩ := hK
                by_cases hlm : m < 5
                · obtain ⟨y, hy⟩ : ∃ y : Nat, 5 * m = y := ⟨_, rfl⟩
                  rw [show (5 : Int) * (m : Int) = (y : Int) from by omega]
                  have hy0 : (0 : Int) ≤ (y : Int) ∧ (y : Int) ≤ (y : Int) + 5 ∧ (y : Int) + 5 ≤ 25 ∧ ¬ 25 = y ∧ (y : Int) < 25 := by omega
                  have hy1 : IntKind.i64.wrap ((y : Int) + 5) = y + 5 := i64w (by omega) (by omega)
                  have hld := run_ldArr_at (P := Tryd.prog) 143 5 .u64 (fun j => chOut h m (y + j)) Tryd.isAgg143 Tryd.sizeOf143 wr ⟨w.heap.size, y, none⟩ (fun i hi => by
                    rw [Addr.add_lit, cell_of_rowOf, r0, tab_get, if_pos (by omega)])
                  have hy' := Lib.hid hy
                  clear hy
                  obtain ⟨r, hr⟩ : ∃ r : Nat → Int, (fun j => chOut h m (y + j)) = r := ⟨_, rfl⟩
                  rw [hr] at hld
                  have hr' := Lib.hid hr
                  clear hr
                  go_wp2
                  obtain ⟨G, hG⟩ : ∃ G, wr.heap.size = G := ⟨_, rfl⟩
                  have hKa : KS w (wr.alloc (.cells (tab 5 .u64 r) 143)) (chIn r y (chOut h m) 0) c := hK'.out.alloc _
                  have hGa : rowOf (wr.alloc (.cells (tab 5 .u64 r) 143)) G = tab 5 .u64 r := rowOf_alloc_at _ _ _ _ hG.symm
                  have hGb : w.heap.size + 3 ≤ G := by omega
                  rw [hG, show y + 5 - y = 5 from by omega]
                  clear hld r0 q0 q1 r2 q2 sz hb hG hK'
                  go_loopw [101] (fun i wr => ∃ x' : Nat, x' ≤ 5 ∧ i = .int .i64 x' ∧ KS w wr (chIn r y (chOut h m) x') c ∧ rowOf wr G = tab 5 .u64 r) (fun i _ => 5 - (intOf i).toNat)
                  case atStart => exact ⟨0, by omega, rfl, hKa, hGa⟩
                  case round =>
                    obtain ⟨v, hv, rfl, hK, gG⟩ := hrel
                    clear hKa hGa
                    have hK' := Lib.hid hK
                    obtain ⟨r0, q0, q1, r2, q2, sz, hb⟩ := hK
                    by_cases hlv : v < 5
                    · have hrow : IntKind.i64.wrap ((v : Int) + (y : Int)) = v + y := i64w (by omega) (by omega)
                      go_wp2
                      have k2 : IntKind.i64.wrap ((v : Int) + 2) = v + 2 := i64w (by omega) (by omega)
                      have k1 : IntKind.i64.wrap ((v : Int) + 1) = v + 1 := i64w (by omega) (by omega)
                      have m2 : ((v : Int) + 2).tmod 5 = ((v + 2) % 5 : Nat) := by rw [Int.tmod_eq_emod_of_nonneg (by omega)]; omega
                      have m1 : ((v : Int) + 1).tmod 5 = ((v + 1) % 5 : Nat) := by rw [Int.tmod_eq_emod_of_nonneg (by omega)]; omega
                      obtain ⟨p, hp⟩ : ∃ p, (v + 2) % 5 = p := ⟨_, rfl⟩
                      obtain ⟨q, hq⟩ : ∃ q, (v + 1) % 5 = q := ⟨_, rfl⟩
                      have hd : chL r v = xr (r v) (an (notF (r q)) (r p)) := by unfold chL; rw [hp, hq]
                      rw [hp] at m2
                      rw [hq] at m1
                      have p5 : p < 5 ∧ (p : Int) < 5 ∧ (0 : Int) ≤ p := by omega
                      have q5 : q < 5 ∧ (q : Int) < 5 ∧ (0 : Int) ≤ q := by omega
                      have v5 : v < 5 ∧ (v : Int) < 5 ∧ (0 : Int) ≤ v := by omega
                      have s5 : v + y < 25 ∧ (v : Int) + (y : Int) < 25 ∧ (0 : Int) ≤ (v : Int) + (y : Int) := by omega
                      clear hp hq
                      have hd' := Lib.hid hd
                      clear hd
                      go_region_held3 (fun w' => rowOf w' G = tab 5 .u64 r ∧ rowFit w' w.heap.size = some 25) (first | assumption | (refine ⟨?_, ?_⟩ <;> (simp only [rowOf_drew, rowFit_drew, rowFit_setCell]; first | assumption | (rw [rowOf_setCell_other _ _ _ _ (by simp; omega)]; assumption)))) (fail)
                      all_goals go_wp2
                      refine ⟨⟨v + 1, by omega, by go_num, ?_, ?_⟩, by simp [intOf]; omega⟩
                      · have := (hK'.out.set0 (v + y) (chL r v)).drew
                        rw [hd'.out] at this
                        simp only [chIn, hd'.out]
                        exact this
                      · simp only [rowOf_drew]
                        rw [rowOf_setCell_other _ _ _ _ (by simp; omega)]; exact gG
                    · have hv5 : v = 5 := by omega
                      have hK8 := hK'.out
                      rw [hv5] at hK8
                      have hKs : KS w wr (chOut h (m + 1)) c := by
                        have e1 : chOut h (m + 1) = chIn (fun j => chOut h m (5 * m + j)) (5 * m) (chOut h m) 5 := rfl
                        rw [e1, hy'.out, hr'.out]; exact hK8
                      have hK9 := Lib.hid hKs
                      clear hK8 hKs hv5 hK'
                      go_wp2
                      refine ⟨⟨m + 1, by omega, ?_, hK9.out⟩, ?_⟩
                      · have := hy'.out
                        go_num
                      · have := hy'.out
                        simp [intOf]; omega
                · have hm5 : m = 5 := by omega
                  have hK8 := hK'.out
                  rw [hm5] at hK8
                  have e9 : chOut h 5 = kRound s := by unfold kRound; rw [hc'.out, hg'.out, hh'.out]
                  rw [e9] at hK8
                  clear r0 q0 q1 r2 q2 sz hb
                  obtain ⟨r0, q0, q1, r2, q2, sz, hb⟩ := hK8
                  clear hK' hm5 e9
                  go_wp2
                  refine bodyPost_ret (res_u25 Tryd.results51 _ _ _ (tab 25 .u64 (kRound s)) rfl (by rw [rowOf_setRow_same _ _ _ (by rw [q1]; rfl)]) (by simp [go_sem])) rfl ⟨rfl, ?_⟩
                  (repeat' (first | exact Below.refl _ _ | assumption | refine Below.alloc ?_ (by (try simp only [World.size_alloc, World.size_setCell, World.size_drew, setRow_size] at *); first | done | omega) _ | refine Below.setCell ?_ (by (try simp only [World.size_alloc, World.size_setCell, World.size_drew, setRow_size] at *); first | done | omega) _ | refine Below.drew ?_ | refine Below.trans ?_ (Below.mono (by assumption) (by (try simp only [World.size_alloc, World.size_setCell, World.size_drew, setRow_size] at *); first | done | omega)) | refine below_setRow' ?_ (by (try simp only [World.size_alloc, World.size_setCell, World.size_drew, setRow_size] at *); first | done | omega) _))
end Go.Proofs.YtfjigoimjaemmaaDoor
