/- the filter's search: the reference's Find. (under way) -/
import Derived.Test.YtfjigoimjaemmaaDoorFind3W
import Derived.BigQuiet
import Derived.Deep.QuietTactic
import Derived.WalkSmall
namespace Go.Proofs.YtfjigoimjaemmaaDoor
open Go.RowKit
set_option linter.unusedSimpArgs false
set_option linter.unusedVariables false
set_option maxRecDepth 100000
attribute [local go_sem ↓] Go.wp_at_zero Go.wp_at_succ

/-- the cells of logs in a list -/
def lcells (l : List LogV) : List (List Value) := l.map fun o => o.row.toList
theorem lcells_length (l : List LogV) : (lcells l).length = l.length := by simp [lcells]
/-- what a search answers: own cells of the logs found -/
def FoundOut (lo : Nat) (l : List LogV) (e : Ending) (w' : World) : Prop := ∃ v, e = .returned v ∧ OwnR w' lo 64 22 v (lcells l)
@[go_sem] theorem rowOf_drewN (w : World) (n b : Nat) : rowOf (w.drewN n) b = rowOf w b := rfl
@[go_sem] theorem rowFit_drewN (w : World) (n b : Nat) : rowFit (w.drewN n) b = rowFit w b := rfl
theorem below_drewN {B : Nat} {a w : World} (h : Below B a w) (n : Nat) : Below B a (w.drewN n) := ⟨h.os, h.tape, h.output, h.size, h.block⟩
theorem hasW_flip (x : Nat → Nat → Int) (v : Nat → Int) (k : Nat) : decide (tl 4 (x k) = tl 4 v) = decide (tl 4 v = tl 4 (x k)) := decide_eq_decide.2 eq_comm
theorem cell_row {w : World} {a : Addr} {n i : Nat} {v : Value} (h : w.cell? ((a.add n).add i) = some v) (hi : i ≠ 0) : (rowOf w a.block)[(a.add n).off + i]? = some v := by
  rw [add_pos _ _ hi, block_add, cell_of_rowOf] at h
  exact h

set_option maxHeartbeats 4000000 in
theorem refFind_any (A : Option Addr) (n c : Nat) (S : Nat → SlV) (f : Nat → Int) (A2 : Option Addr) (m c2 : Nat) (x : Nat → Nat → Int) (w : World) (hS : Seals w A n S) (hn : n ≤ 10) (hrn : ∀ k, k < n → (S k).rn ≤ 10) (hsm : ∀ k, k < n → ∀ r, r < (S k).rn → Small ((S k).R r).ln ((S k).R r).L) (hx : Words w A2 m x) (hm : m ≤ 20) :
    Calls Tryd.prog 41 #[.slice A n c, .agg (tab 20 .u8 f), .slice A2 m c2] w fun e w' => FoundOut w.heap.size (foundS S f x m n) e w' ∧ Below w.heap.size w w' := by
  have hb0 := Lib.hid (show Below w.heap.size w ((w.alloc (.cells (tab 20 .u8 f) 61)).alloc (.cells #[] 64)) from ((Below.refl _ _).alloc (Nat.le_refl _) _).alloc (by simp) _)
  have r0 : rowOf ((w.alloc (.cells (tab 20 .u8 f) 61)).alloc (.cells #[] 64)) w.heap.size = tab 20 .u8 f := (rowOf_alloc_past _ _ _ (by simp)).trans (rowOf_alloc_at _ _ _ _ rfl)
  have hO := Lib.hid (show OwnR ((w.alloc (.cells (tab 20 .u8 f) 61)).alloc (.cells #[] 64)) (w.heap.size + 1) 64 22 (.slice (some ⟨w.heap.size + 1, 0, none⟩) 0 0) [] by simpa using OwnR.empty (w.alloc (.cells (tab 20 .u8 f) 61)) (w.heap.size + 1) 64 22 (by simp))
  have hS' := Lib.hid hS
  have hx' := Lib.hid hx
  clear hS hx
  go_enter Tryd.func41, Tryd.ntmps41
  go_wp2
  go_loopw [7, 19] (fun d i wr => ∃ (k : Nat) (AY : Option Addr) (q cY : Nat), k ≤ n ∧ i = .int .i64 k ∧ d = .slice AY q cY ∧ q ≤ 300 * k ∧ OwnR wr (w.heap.size + 1) 64 22 (.slice AY q cY) (lcells (foundS S f x m k)) ∧ rowOf wr w.heap.size = tab 20 .u8 f ∧ w.heap.size < wr.heap.size ∧ Below w.heap.size w wr) (fun _ i _ => n - (intOf i).toNat)
  case atStart => exact ⟨0, _, _, _, by omega, rfl, rfl, by omega, hO.out, r0, by simp; omega, hb0.out⟩
  case round =>
    obtain ⟨k, AY, q, cY, hk, rfl, rfl, hq, hown, r1, z1, hb⟩ := hrel
    have hown' := Lib.hid hown
    have hb' := Lib.hid hb
    clear hown hb
    by_cases hlt : k < n
    · obtain ⟨a, rfl, ha, _, hok⟩ := (hS'.out.below (Nat.le_refl _) hb'.out).load hlt
      have hki : (k : Int) < (n : Int) := by omega
      obtain ⟨⟨a', e1, _, hca⟩, _⟩ := (hS'.out.below (Nat.le_refl _) hb'.out) k hlt
      obtain rfl := Option.some.inj e1
      have hcell := hca.2 161 _ (by rw [Array.getElem?_toList]; exact hok.cell)
      have hcell := cell_row hcell (by omega)
      have hrk := hrn k hlt
      have hok' := Lib.hid hok
      clear hca hok
      obtain ⟨rA, hrA⟩ : ∃ rA, (S k).rA = rA := ⟨_, rfl⟩
      obtain ⟨rn, hrn'⟩ : ∃ rn, (S k).rn = rn := ⟨_, rfl⟩
      rw [hrA, hrn'] at hcell
      rw [hrn'] at hrk
      have hcF := Lib.hid (show ∀ w1, Below w.heap.size w w1 → (rowOf w1 a.block)[(a.add (k * 162)).off + 161]? = some (.slice rA rn (S k).rc) ∧ a.block < w1.heap.size ∧ Rcs w1 rA rn (S k).R from fun w1 h => by
        obtain ⟨⟨a', e1, hl, hca⟩, hok⟩ := (hS'.out.below (Nat.le_refl _) h) k hlt
        obtain rfl := Option.some.inj e1
        have hcell := hca.2 161 _ (by rw [Array.getElem?_toList]; exact hok.cell)
        have hr := hok.rcs
        rw [hrA, hrn'] at hcell hr
        exact ⟨cell_row hcell (by omega), hl, hr⟩)
      obtain ⟨F0, hF0⟩ : ∃ F0, foundS S f x m k = F0 := ⟨_, rfl⟩
      have hFs : foundS S f x m (k + 1) = F0 ++ foundR (S k).R f x m rn := by rw [foundS, hF0, hrn']
      rw [hF0] at hown'
      have hFs' := Lib.hid hFs
      have hsmk := Lib.hid (hsm k hlt)
      rw [hrn'] at hsmk
      clear hFs hF0
      go_wp2
      go_loopw [7, 28] (fun d i wr => ∃ (r : Nat) (AY : Option Addr) (q cY : Nat), r ≤ rn ∧ i = .int .i64 r ∧ d = .slice AY q cY ∧ q ≤ 300 * k + 30 * r ∧ OwnR wr (w.heap.size + 1) 64 22 (.slice AY q cY) (lcells (F0 ++ foundR (S k).R f x m r)) ∧ rowOf wr w.heap.size = tab 20 .u8 f ∧ w.heap.size < wr.heap.size ∧ Below w.heap.size w wr) (fun _ i _ => rn - (intOf i).toNat)
      case atStart => exact ⟨0, _, _, _, by omega, rfl, rfl, by omega, by rw [foundR, List.append_nil]; exact hown'.out, r1, z1, hb'.out⟩
      case round =>
        clear r1 z1
        obtain ⟨r, AZ, q2, cZ, hr, rfl, rfl, hq2, hown2, r2, z2, hb2⟩ := hrel
        have hown2' := Lib.hid hown2
        have hb2' := Lib.hid hb2
        clear hown2 hb2
        obtain ⟨hc2, hl2, hR2⟩ := hcF.out _ hb2'.out
        have hR2' := Lib.hid hR2
        clear hR2
        by_cases hlr : r < rn
        · have hri : (r : Int) < (rn : Int) := by omega
          obtain ⟨⟨ar, rfl, hlar, hcr⟩, hokr⟩ := hR2'.out r hlr
          have hcell2 := cell_row (hcr.2 47 _ (by rw [Array.getElem?_toList]; exact hokr.cell)) (by omega)
          obtain ⟨lA, hlA⟩ : ∃ lA, ((S k).R r).lA = lA := ⟨_, rfl⟩
          obtain ⟨ln, hln⟩ : ∃ ln, ((S k).R r).ln = ln := ⟨_, rfl⟩
          rw [hlA, hln] at hcell2
          have hrF := Lib.hid (show ∀ w1, Below w.heap.size w w1 → (rowOf w1 ar.block)[(ar.add (r * 49)).off + 47]? = some (.slice lA ln ((S k).R r).lc) ∧ ar.block < w1.heap.size ∧ (rowOf w1 a.block)[(a.add (k * 162)).off + 161]? = some (.slice (some ar) rn (S k).rc) ∧ a.block < w1.heap.size ∧ Logs w1 lA ln ((S k).R r).L from fun w1 h => by
            obtain ⟨q1, q2, q3⟩ := hcF.out w1 h
            obtain ⟨⟨a', e1, hl, hca⟩, hok⟩ := q3 r hlr
            obtain rfl := Option.some.inj e1
            have hcell := hca.2 47 _ (by rw [Array.getElem?_toList]; exact hok.cell)
            have hr := hok.logs
            rw [hlA, hln] at hcell hr
            exact ⟨cell_row hcell (by omega), hl, q1, q2, hr⟩)
          obtain ⟨F1, hF1⟩ : ∃ F1, F0 ++ foundR (S k).R f x m r = F1 := ⟨_, rfl⟩
          have hFr : F0 ++ foundR (S k).R f x m (r + 1) = F1 ++ foundL ((S k).R r).L f x m ln := by rw [foundR, ← List.append_assoc, hF1, hln]
          rw [hF1] at hown2'
          have hFr' := Lib.hid hFr
          have hsr := Lib.hid (hsmk.out r hlr)
          rw [hln] at hsr
          have hln30 := hsr.out.1
          obtain ⟨L, hLe⟩ : ∃ L, ((S k).R r).L = L := ⟨_, rfl⟩
          rw [hLe] at hrF hFr' hsr
          clear hcr hokr hFr hF1
          go_wp2
          go_loopw [7, 42] (fun d i wr => ∃ (j : Nat) (AY : Option Addr) (q cY : Nat), j ≤ ln ∧ i = .int .i64 j ∧ d = .slice AY q cY ∧ q ≤ 300 * k + 30 * r + j ∧ OwnR wr (w.heap.size + 1) 64 22 (.slice AY q cY) (lcells (F1 ++ foundL L f x m j)) ∧ rowOf wr w.heap.size = tab 20 .u8 f ∧ w.heap.size < wr.heap.size ∧ Below w.heap.size w wr) (fun _ i _ => ln - (intOf i).toNat)
          case atStart => exact ⟨0, _, _, _, by omega, rfl, rfl, by omega, by rw [foundL, List.append_nil]; exact hown2'.out, r2, z2, hb2'.out⟩
          case round =>
            clear r2 z2 hcell2 hc2
            obtain ⟨j, AX, q3, cX, hj, rfl, rfl, hq3, hown3, r3, z3, hb3⟩ := hrel
            have hown3' := Lib.hid hown3
            have hb3' := Lib.hid hb3
            clear hown3 hb3
            by_cases hlj : j < ln
            · have hji : (j : Int) < (ln : Int) := by omega
              obtain ⟨hc31, hl31, hc32, hl32, hLg⟩ := hrF.out _ hb3'.out
              obtain ⟨⟨al, rfl, hlal, hcal⟩, hokl⟩ := hLg j hlj
              have hLgd := (hrF.out _ hb3'.out.drew).2.2.2.2
              have hca0 : CellsAt wr.drew (al.add (j * 22)) (tab 20 .u8 (L j).addr).toList := by
                obtain ⟨⟨a', e1, hl, hca⟩, hok⟩ := hLgd j hlj
                obtain rfl := Option.some.inj e1
                refine ⟨hca.1, fun i v hv => hca.2 i v ?_⟩
                have hi : i < 20 := by
                  have := (List.getElem?_eq_some_iff.1 hv).1
                  rw [Array.length_toList, tab_size] at this; exact this
                rw [Array.getElem?_toList, tab_get, if_pos hi] at hv
                rw [Array.getElem?_toList, LogV.row_addr _ _ hi, hv]
              have hla := hca0.load (P := Tryd.prog) Tryd.isAgg61 (fun w => by rw [tab_size]; exact Tryd.sizeOf61 w)
              clear hca0 hLgd hcal hLg
              go_wp2
              first
              | go_region
              | skip
              obtain ⟨D, hD⟩ : ∃ D, decide (tl 20 (L j).addr = tl 20 f) = D := ⟨_, rfl⟩
              have hD' := Lib.hid hD
              rw [hD]
              clear hD
              obtain ⟨tA, htA⟩ : ∃ tA, (L j).tA = tA := ⟨_, rfl⟩
              clear hla
              go_wp2
              go_loopw [12, 54] (fun d i wr => ∃ t : Nat, t ≤ m ∧ i = .int .i64 t ∧ d = .bool (D && allC (L j) x t) ∧ rowOf wr w.heap.size = tab 20 .u8 f ∧ w.heap.size < wr.heap.size ∧ OwnR wr (w.heap.size + 1) 64 22 (.slice AX q3 cX) (lcells (F1 ++ foundL L f x m j)) ∧ Below w.heap.size w wr) (fun _ i _ => m - (intOf i).toNat)
              case atStart => exact ⟨0, by omega, rfl, by rw [allC, Bool.and_true], r3, z3, hown3'.out.below (Below.refl _ _).drew, hb3'.out.drew⟩
              case round =>
                obtain ⟨t, ht, rfl, rfl, r4, z4, hown4, hb4⟩ := hrel
                have hown4' := Lib.hid hown4
                have hb4' := Lib.hid hb4
                clear hown4 hb4 r3 z3 hc31 hl31 hc32 hl32
                by_cases hlt4 : t < m
                · have hti : (t : Int) < (m : Int) := by omega
                  obtain ⟨p1, p2, p3, p4, hLg4⟩ := hrF.out _ hb4'.out
                  obtain ⟨⟨al', e1, hlal4, hcal4⟩, hokl4⟩ := hLg4 j hlj
                  obtain rfl := Option.some.inj e1
                  have hcell4 := cell_row (hcal4.2 20 _ (by rw [Array.getElem?_toList]; exact (L j).row_20)) (by omega)
                  rw [htA] at hcell4
                  obtain ⟨E, hE⟩ : ∃ E, (D && allC (L j) x t) = E := ⟨_, rfl⟩
                  rw [hE]
                  have hE' := Lib.hid hE
                  clear hE hcal4 hLg4 hokl4
                  have htn30 := (hsr.out.2 j hlj).1
                  obtain ⟨tn, htn⟩ : ∃ tn, (L j).tn = tn := ⟨_, rfl⟩
                  obtain ⟨tc, htc⟩ : ∃ tc, (L j).tc = tc := ⟨_, rfl⟩
                  rw [htn, htc] at hcell4
                  rw [htn] at htn30
                  have hlF := Lib.hid (show ∀ w1, Below w.heap.size w w1 → (rowOf w1 al.block)[(al.add (j * 22)).off + 20]? = some (.slice tA tn tc) ∧ al.block < w1.heap.size ∧ Words w1 tA tn (L j).tx from fun w1 h => by
                    obtain ⟨q1, q2, q3, q4, q5⟩ := hrF.out w1 h
                    obtain ⟨⟨a', e1, hl, hca⟩, hok⟩ := q5 j hlj
                    obtain rfl := Option.some.inj e1
                    have hcell := cell_row (hca.2 20 _ (by rw [Array.getElem?_toList]; exact (L j).row_20)) (by omega)
                    have ht := hok.topics
                    rw [htA, htn, htc] at hcell
                    rw [htA, htn] at ht
                    exact ⟨hcell, hl, ht⟩)
                  go_wp2
                  go_loopw [14, 63] (fun d i wr => ∃ u : Nat, u ≤ tn ∧ i = .int .i64 u ∧ d = .bool (hasW (L j).tx (x t) u) ∧ rowOf wr w.heap.size = tab 20 .u8 f ∧ w.heap.size < wr.heap.size ∧ OwnR wr (w.heap.size + 1) 64 22 (.slice AX q3 cX) (lcells (F1 ++ foundL L f x m j)) ∧ Below w.heap.size w wr) (fun _ i _ => tn - (intOf i).toNat)
                  case atStart => exact ⟨0, by omega, rfl, rfl, r4, z4, hown4'.out, hb4'.out⟩
                  case round =>
                    obtain ⟨u, hu, rfl, rfl, r5, z5, hown5, hb5⟩ := hrel
                    have hown5' := Lib.hid hown5
                    have hb5' := Lib.hid hb5
                    clear hown5 hb5 r4 z4 hcell4 hlal4 p1 p2 p3 p4
                    by_cases hlu : u < tn
                    · have hui : (u : Int) < (tn : Int) := by omega
                      obtain ⟨p1, p2, p3⟩ := hlF.out _ hb5'.out
                      obtain ⟨H, hH⟩ : ∃ H, hasW (L j).tx (x t) u = H := ⟨_, rfl⟩
                      obtain ⟨aT, hTA, _, _⟩ := p3.load hlu
                      have hw1 : ∀ q : Nat, (ldArr 47 (.pointer (some (aT.add (u * 4))))).run Tryd.prog (wr.drewN q) = .ok (wv ((L j).tx u)) (wr.drewN q) := fun q => by
                        obtain ⟨a1, e1, _, h⟩ := ((hlF.out _ (below_drewN hb5'.out q)).2.2).load hlu
                        obtain rfl := Option.some.inj (hTA.symm.trans e1)
                        exact h
                      obtain ⟨aX, rfl, _, _⟩ := (hx'.out.below (Nat.le_refl _) hb5'.out).load hlt4
                      have hw2 : ∀ q : Nat, (ldArr 47 (.pointer (some (aX.add (t * 4))))).run Tryd.prog (wr.drewN q) = .ok (wv (x t)) (wr.drewN q) := fun q => by
                        obtain ⟨a1, e1, _, h⟩ := (hx'.out.below (Nat.le_refl _) (below_drewN hb5'.out q)).load hlt4
                        obtain rfl := Option.some.inj e1
                        exact h
                      subst hTA
                      obtain ⟨I, hI⟩ : ∃ I, decide (tl 4 ((L j).tx u) = tl 4 (x t)) = I := ⟨_, rfl⟩
                      have hnext : hasW (L j).tx (x t) (u + 1) = (H || I) := by rw [hasW, hH, ← hasW_flip, hI]
                      have hnext' := Lib.hid hnext
                      rw [hH]
                      clear hH hnext p3
                      cases H
                      all_goals
                        go_wp2
                        go_quiet (fail)
                        go_wp2
                        exact ⟨⟨u + 1, by omega, by go_num, by rw [hnext'.out]; rfl, r5, z5, hown5'.out.below (below_drewN (Below.refl _ _) _), below_drewN hb5'.out _⟩, by simp [intOf]; omega⟩
                    · obtain rfl : u = tn := by omega
                      obtain ⟨H, hH⟩ : ∃ H, hasW (L j).tx (x t) u = H := ⟨_, rfl⟩
                      have hnext : (D && allC (L j) x (t + 1)) = (E && H) := by rw [allC, htn, hH, ← Bool.and_assoc, hE'.out]
                      have hnext' := Lib.hid hnext
                      rw [hH]
                      clear hH hnext
                      cases E
                      all_goals
                        go_wp2
                        exact ⟨⟨t + 1, by omega, by go_num, by rw [hnext'.out]; rfl, r5, z5, hown5'.out, hb5'.out⟩, by simp [intOf]; omega⟩
                · obtain rfl : t = m := by omega
                  have hfit : fitF (L j) f x t = (D && allC (L j) x t) := by rw [fitF, hD'.out, Bool.and_comm]
                  obtain ⟨E, hE⟩ : ∃ E, (D && allC (L j) x t) = E := ⟨_, rfl⟩
                  rw [hE] at hfit ⊢
                  have hFl : F1 ++ foundL L f x t (j + 1) = (F1 ++ foundL L f x t j) ++ if E then [L j] else [] := by rw [foundL, hfit, List.append_assoc]
                  clear hE hfit
                  cases E
                  · simp only [Bool.false_eq_true, if_false, List.append_nil] at hFl
                    have hFl' := Lib.hid hFl
                    clear hFl
                    go_wp2
                    exact ⟨⟨j + 1, _, _, _, by omega, by go_num, rfl, by omega, by rw [hFl'.out]; exact hown4'.out, r4, z4, hb4'.out⟩, by simp [intOf]; omega⟩
                  · simp only [if_true] at hFl
                    have hFl' := Lib.hid hFl
                    clear hFl
                    have hLg9 := (hrF.out _ hb4'.out).2.2.2.2
                    obtain ⟨al9, e9, hlal9, hld9, hok9⟩ := hLg9.load hlj
                    obtain rfl := Option.some.inj e9
                    have hq9 : (lcells (F1 ++ foundL L f x t j)).length = q3 := by
                      obtain ⟨_, _, hv9, _⟩ := hown4'.out.form
                      cases hv9
                      rfl
                    have hq9' := Lib.hid hq9
                    clear hq9 hok9 hLg9
                    go_wp2_with (at_builtin; refine wpList_append_row logElem rfl (.tmp 89) (.tmp 94) rfl (w.heap.size + 1) (.slice AX q3 cX) (lcells (F1 ++ foundL L f x t j)) rfl (hown4'.out.below ((Below.refl _ _).alloc (Nat.le_refl _) _)) wr.heap.size 1 (L j).row.toList rfl (by rw [Array.length_toList, LogV.row_size]) (by rw [rowOf_alloc_at _ _ _ _ rfl, Array.toArray_toList]) (by rw [Array.toArray_toList]; exact (L j).row_ok) (by rw [hq9'.out]; unfold maxLen; omega) (by rw [hq9'.out]; omega) (by have := hb4'.out.size; simp; omega) (wr.heap.size + 1) (by simp) ?_; rw [hq9'.out]; intro g3 c3 w3 ho3 ht3 hg3 hl3; have hO3 := Lib.hid ho3; have hB3 := Lib.hid ((hb4'.out.alloc hb4'.out.size (.cells (L j).row 64)).trans (ht3.below (by have := hb4'.out.size; simp; omega) (fun z hz => by have := (hown4'.out.lt hz).1; omega))); have r9 := (ht3.rowOf (show w.heap.size < _ by simp; omega) (fun hz => by have := (hown4'.out.lt hz).1; omega)).trans ((rowOf_alloc_past _ _ _ z4).trans r4); have z9 := ht3.size; simp only [World.size_alloc] at z9; clear ho3 ht3)
                    exact ⟨⟨j + 1, _, _, _, by omega, by go_num, rfl, by omega, by rw [hFl'.out]; simpa [lcells] using hO3.out, r9, by omega, hB3.out⟩, by simp [intOf]; omega⟩
            · obtain rfl : j = ln := by omega
              go_wp2
              exact ⟨⟨r + 1, _, _, _, by omega, by go_num, rfl, by omega, by rw [hFr'.out]; exact hown3'.out, r3, z3, hb3'.out⟩, by simp [intOf]; omega⟩
        · obtain rfl : r = rn := by omega
          go_wp2
          exact ⟨⟨k + 1, _, _, _, by omega, by go_num, rfl, by omega, by rw [hFs'.out]; exact hown2'.out, r2, z2, hb2'.out⟩, by simp [intOf]; omega⟩
    · obtain rfl : k = n := by omega
      go_wp2
      go_ret
      exact ⟨⟨_, rfl, hown'.out.lower (by omega)⟩, hb'.out⟩
end Go.Proofs.YtfjigoimjaemmaaDoor
