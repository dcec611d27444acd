/- the filter's search: Find. -/
import Derived.Test.YtfjigoimjaemmaaDoorFind5W
import Derived.Deep.CutRange
namespace Go.Proofs.YtfjigoimjaemmaaDoor
open Go.RowKit
set_option linter.unusedSimpArgs false
set_option linter.unusedVariables false
set_option maxRecDepth 100000
attribute [local irreducible] sumF KLaid
attribute [local go_sem ↓] Go.wp_at_zero Go.wp_at_succ

/-- a log's row -/
def lrow (f : Nat → Int) (u v : Value) : Array Value := ((tl 20 f).map (Value.int .u8) ++ [u, v]).toArray
@[go_sem] theorem lrow_size (f : Nat → Int) (u v : Value) : (lrow f u v).size = 22 := by simp [lrow, tl_length]
@[go_sem] theorem lrow_20 (f : Nat → Int) (u v x : Value) : (lrow f u v).setIfInBounds 20 x = lrow f x v := by simp [lrow, tl, List.range_succ]
@[go_sem] theorem lrow_21 (f : Nat → Int) (u v x : Value) : (lrow f u v).setIfInBounds 21 x = lrow f u x := by simp [lrow, tl, List.range_succ]
theorem lrow_eq (o : LogV) : o.row = lrow o.addr (.slice o.tA o.tn o.tc) (.slice o.dA o.dn o.dc) := rfl
@[go_sem] theorem log_lit (f : Nat → Int) : Array.foldl (fun (cs : Array Value) (x : Value × Nat) => cs.setIfInBounds x.snd x.fst) #[Value.int .u8 0, Value.int .u8 0, Value.int .u8 0, Value.int .u8 0, Value.int .u8 0, Value.int .u8 0, Value.int .u8 0, Value.int .u8 0, Value.int .u8 0, Value.int .u8 0, Value.int .u8 0, Value.int .u8 0, Value.int .u8 0, Value.int .u8 0, Value.int .u8 0, Value.int .u8 0, Value.int .u8 0, Value.int .u8 0, Value.int .u8 0, Value.int .u8 0, Value.slice none 0 0, Value.slice none 0 0] (tab 20 .u8 f).zipIdx 0 20 = lrow f (.slice none 0 0) (.slice none 0 0) := by
  rw [foldl_part _ _ 20 (tab_size _ _ _) (by decide)]
  rfl
/-- an address read at a log's head -/
theorem addr_load {w : World} {b : Nat} {o : LogV} (hr : rowOf w b = o.row) (hb : b < w.heap.size) : (ldArr 61 (.pointer (some ⟨b, 0, none⟩))).run Tryd.prog w = .ok (.agg (tab 20 .u8 o.addr)) w := by
  have hca : CellsAt w ⟨b, 0, none⟩ (tab 20 .u8 o.addr).toList := ⟨hb, fun i v hv => by
    have hi : i < 20 := by
      have := (List.getElem?_eq_some_iff.1 hv).1
      rw [Array.length_toList, tab_size] at this; exact this
    rw [Array.getElem?_toList, tab_get, if_pos hi] at hv
    rw [Addr.add_lit, cell_of_rowOf, hr, Nat.zero_add, LogV.row_addr _ _ hi, hv]⟩
  exact hca.load Tryd.isAgg61 (fun w => by rw [tab_size]; exact Tryd.sizeOf61 w)

set_option maxHeartbeats 4000000 in
theorem find_any (A : Option Addr) (n c : Nat) (S : Nat → SlV) (f : Nat → Int) (hf : ∀ j, j < 20 → 0 ≤ f j ∧ f j < 256) (A2 : Option Addr) (m c2 : Nat) (x : Nat → Nat → Int) (w : World) (hK : KLaid w) (hS : Seals w A n S) (hn : n ≤ 10) (hrn : ∀ k, k < n → (S k).rn ≤ 10) (hsm : ∀ k, k < n → ∀ r, r < (S k).rn → Small ((S k).R r).ln ((S k).R r).L)
    (hx : Words w A2 m x) (hw : ∀ j, j < m → ∀ i, i < 4 → 0 ≤ x j i ∧ x j i < 18446744073709551616) (hm : m ≤ 20) :
    Calls Tryd.prog 42 #[.slice A n c, .agg (tab 20 .u8 f), .slice A2 m c2] w fun e w' => CopsOut w.heap.size (foundS S f x m n) e w' ∧ Below w.heap.size w w' := by
  have hb0 := Lib.hid (show Below w.heap.size w (w.alloc (.cells (tab 20 .u8 f) 61)) from (Below.refl _ _).alloc (Nat.le_refl _) _)
  have r0 : rowOf (w.alloc (.cells (tab 20 .u8 f) 61)) w.heap.size = tab 20 .u8 f := rowOf_alloc_at _ _ _ _ rfl
  have h0 := Lib.hid (Below.refl w.heap.size w)
  have hS' := Lib.hid hS
  have hx' := Lib.hid hx
  have hK' := Lib.hid hK
  have hw' := Lib.hid hw
  have hf' := Lib.hid hf
  clear hS hx hK hw hf
  go_enter Tryd.func42, Tryd.ntmps42
  go_wp2
  go_loopw [7, 16] (fun d i wr => ∃ (k : Nat) (AY : Option Addr) (q cY : Nat) (l : List LogV), k ≤ n ∧ i = .int .i64 k ∧ d = .slice AY q cY ∧ q ≤ 300 * k ∧ Cops wr (w.heap.size + 1) (.slice AY q cY) (foundS S f x m k) l ∧ rowOf wr w.heap.size = tab 20 .u8 f ∧ w.heap.size < wr.heap.size ∧ Below w.heap.size w wr) (fun _ i _ => n - (intOf i).toNat)
  case atStart => exact ⟨0, _, _, _, [], by omega, rfl, rfl, by omega, Cops.nil _ _, r0, by simp, hb0.out⟩
  case round =>
    obtain ⟨k, AY, q, cY, l, hk, rfl, rfl, hq, hown, r1, z1, hb⟩ := hrel
    have hown' := Lib.hid hown
    have hb' := Lib.hid hb
    clear hown hb r0
    by_cases hlt : k < n
    · obtain ⟨a, rfl, ha, hld, hok⟩ := (hS'.out.below (Nat.le_refl _) hb'.out).load hlt
      have hki : (k : Int) < (n : Int) := by omega
      have hrk := hrn k hlt
      have hcell := hok.cell
      have hsz := hok.size
      have hone := hok.one
      have hR := Lib.hid hok.rcs
      obtain ⟨row, hrow⟩ : ∃ row, (S k).row = row := ⟨_, rfl⟩
      obtain ⟨rA, hrA⟩ : ∃ rA, (S k).rA = rA := ⟨_, rfl⟩
      obtain ⟨rn, hrn'⟩ : ∃ rn, (S k).rn = rn := ⟨_, rfl⟩
      obtain ⟨rc, hrc⟩ : ∃ rc, (S k).rc = rc := ⟨_, rfl⟩
      rw [hrow] at hld hcell hsz hone
      rw [hrA, hrn', hrc] at hcell
      rw [hrA, hrn'] at hR
      rw [hrn'] at hrk
      obtain ⟨F0, hF0⟩ : ∃ F0, foundS S f x m k = F0 := ⟨_, rfl⟩
      have hFs : foundS S f x m (k + 1) = F0 ++ foundR (S k).R f x m rn := by rw [foundS, hF0, hrn']
      rw [hF0] at hown'
      have hFs' := Lib.hid hFs
      have hsmk := Lib.hid (hsm k hlt)
      rw [hrn'] at hsmk
      have hat : row[161]'(by omega) = .slice rA rn rc := by
        rw [Array.getElem?_eq_getElem (by omega)] at hcell
        exact Option.some.inj hcell
      clear hFs hF0 hrow hok
      have hRF := Lib.hid (show ∀ w1, Below w.heap.size w w1 → Rcs w1 rA rn (S k).R from fun w1 h => by
        have h2 := ((hS'.out k hlt).2.rcs).below (Nat.le_refl _) h
        rw [hrA, hrn'] at h2
        exact h2)
      have q1 : rowOf (wr.alloc (.cells row 80)) w.heap.size = tab 20 .u8 f := (rowOf_alloc_past _ _ _ z1).trans r1
      have y1 : w.heap.size < (wr.alloc (.cells row 80)).heap.size := by simp; omega
      have hbA := Lib.hid (hb'.out.alloc hb'.out.size (.cells row 80))
      have hownA := Lib.hid (hown'.out.below ((Below.refl _ _).alloc (Nat.le_refl _) (.cells row 80)))
      go_wp2
      obtain ⟨wA, hwA⟩ : ∃ W, wr.alloc (.cells row 80) = W := ⟨_, rfl⟩
      rw [hwA] at q1 y1 hbA hownA ⊢
      clear hwA hR hsz hone hat hld
      go_loopw [7, 23] (fun d i wr => ∃ (r : Nat) (AY : Option Addr) (q cY : Nat) (l : List LogV), r ≤ rn ∧ i = .int .i64 r ∧ d = .slice AY q cY ∧ q ≤ 300 * k + 30 * r ∧ Cops wr (w.heap.size + 1) (.slice AY q cY) (F0 ++ foundR (S k).R f x m r) l ∧ rowOf wr w.heap.size = tab 20 .u8 f ∧ w.heap.size < wr.heap.size ∧ Below w.heap.size w wr) (fun _ i _ => rn - (intOf i).toNat)
      case atStart => exact ⟨0, _, _, _, _, by omega, rfl, rfl, by omega, by rw [foundR, List.append_nil]; exact hownA.out, q1, y1, hbA.out⟩
      case round =>
        clear r1 z1 q1 y1 hq hownA hbA
        obtain ⟨r, AZ, q2, cZ, l2, hr, rfl, rfl, hq2, hown2, r2, z2, hb2⟩ := hrel
        have hown2' := Lib.hid hown2
        have hb2' := Lib.hid hb2
        clear hown2 hb2
        by_cases hlr : r < rn
        · have hri : (r : Int) < (rn : Int) := by omega
          obtain ⟨ar, rfl, hlar, hldr, hokr⟩ := (hRF.out _ hb2'.out).load hlr
          have hcellr := hokr.cell
          have hszr := hokr.size
          have honer := hokr.one
          obtain ⟨rowr, hrowr⟩ : ∃ rowr, ((S k).R r).row = rowr := ⟨_, rfl⟩
          obtain ⟨lA, hlA⟩ : ∃ lA, ((S k).R r).lA = lA := ⟨_, rfl⟩
          obtain ⟨ln, hln⟩ : ∃ ln, ((S k).R r).ln = ln := ⟨_, rfl⟩
          obtain ⟨lc, hlc⟩ : ∃ lc, ((S k).R r).lc = lc := ⟨_, rfl⟩
          rw [hrowr] at hldr hcellr hszr honer
          rw [hlA, hln, hlc] at hcellr
          have hatr : rowr[47]'(by omega) = .slice lA ln lc := by
            rw [Array.getElem?_eq_getElem (by omega)] at hcellr
            exact Option.some.inj hcellr
          obtain ⟨F1, hF1⟩ : ∃ F1, F0 ++ foundR (S k).R f x m r = F1 := ⟨_, rfl⟩
          have hFr : F0 ++ foundR (S k).R f x m (r + 1) = F1 ++ foundL ((S k).R r).L f x m ln := by rw [foundR, ← List.append_assoc, hF1, hln]
          rw [hF1] at hown2'
          have hFr' := Lib.hid hFr
          have hsr := Lib.hid (hsmk.out r hlr)
          rw [hln] at hsr
          have hln30 := hsr.out.1
          obtain ⟨L, hLe⟩ : ∃ L, ((S k).R r).L = L := ⟨_, rfl⟩
          have hLF := Lib.hid (show ∀ w1, Below w.heap.size w w1 → Logs w1 lA ln L from fun w1 h => by
            have h2 := (((hRF.out w h0.out) r hlr).2.logs).below (Nat.le_refl _) h
            rw [hlA, hln, hLe] at h2
            exact h2)
          rw [hLe] at hFr' hsr
          clear hFr hF1 hrowr hokr
          have hOf := Lib.hid fun (w1 : World) (h : Below w.heap.size w w1) => of_any lA ln lc L w1 (hK'.out.below h) (hLF.out _ h) (by omega) (fun j hj => by have := (hsr.out.2 j hj).1; omega)
          have hnm := not_may (L := L) (f := f) (x := x) (m := m) (n := ln)
          have hBB := addL_B zf_B L ln
          obtain ⟨b, hbe⟩ : ∃ b, addL zf L ln = b := ⟨_, rfl⟩
          rw [hbe] at hOf hnm hBB
          have hMay := Lib.hid fun (w1 : World) (h : Below w.heap.size w w1) => may_any b hBB f hf'.out A2 m c2 x w1 (hK'.out.below h) (hx'.out.below (Nat.le_refl _) h) hw'.out (by omega)
          obtain ⟨E, hE⟩ : ∃ E, (allT b x m && hasF b (sumF f 20)) = E := ⟨_, rfl⟩
          rw [hE] at hMay hnm
          have hnm' := Lib.hid hnm
          clear hnm hBB hE hbe
          have q2 : rowOf (wr.alloc (.cells rowr 82)) w.heap.size = tab 20 .u8 f := (rowOf_alloc_past _ _ _ z2).trans r2
          have y2 : w.heap.size < (wr.alloc (.cells rowr 82)).heap.size := by simp; omega
          have v2 : rowOf (wr.alloc (.cells rowr 82)) wr.heap.size = rowr := rowOf_alloc_at _ _ _ _ rfl
          have u2 : wr.heap.size < (wr.alloc (.cells rowr 82)).heap.size := by simp
          have hbC := Lib.hid (hb2'.out.alloc hb2'.out.size (.cells rowr 82))
          have hownC := Lib.hid (hown2'.out.below ((Below.refl _ _).alloc (Nat.le_refl _) (.cells rowr 82)))
          go_upto_region 8 with fail
          obtain ⟨wC, hwC⟩ : ∃ W, wr.alloc (.cells rowr 82) = W := ⟨_, rfl⟩
          rw [hwC] at q2 y2 v2 u2 hbC hownC ⊢
          obtain ⟨X, hX⟩ : ∃ X, wr.heap.size = X := ⟨_, rfl⟩
          rw [hX] at v2 u2 ⊢
          clear hwC hldr
          have hsz := hbC.out.size
          obtain ⟨E', hE'⟩ : ∃ E', (!E) = E' := ⟨_, rfl⟩
          go_cut [23, 33] from 23 to 58 (fun i e wx => i = .int .i64 r ∧ e = .bool E' ∧ rowOf wx w.heap.size = tab 20 .u8 f ∧ rowOf wx X = rowr ∧ Below wC.heap.size wC wx)
          case first =>
            first
            | (go_region_with (first
              | (go_at_call 32; (with_reducible refine (hOf.out _ hbC.out.drew).mono ?_); rintro e w3 ⟨rfl, hb3⟩; have hc3 := Lib.hid ((Below.refl wC.heap.size wC).drew.trans (hb3.mono (by simp))); have hs3 := hc3.out.size; have q3 := (rowOf_below hc3.out y2).trans q2)
              | (go_at_call 73; (with_reducible refine (hMay.out _ (hbC.out.trans (hc3.out.mono hsz))).mono ?_); rintro e w4 ⟨rfl, hb4⟩; have hc4 := Lib.hid (hc3.out.trans (hb4.mono (by omega)))))) 
            | fail
            all_goals
              go_wp2_with fail
              go_meet
              exact ⟨rfl, rfl, (rowOf_below hc4.out y2).trans q2, (rowOf_below hc4.out u2).trans v2, hc4.out⟩
          case rest =>
            obtain ⟨rfl, rfl, q4, v4, hb4⟩ := hcut
            obtain ⟨w4, rfl⟩ : ∃ W, W = wc := ⟨_, rfl⟩
            have hc4 := Lib.hid hb4
            have hs4 := hb4.size
            clear hb4
            cases E
            · obtain rfl : E' = true := hE'.symm
              have hnil := hnm'.out rfl ln (Nat.le_refl _)
              go_wp2
              exact ⟨⟨r + 1, _, _, _, _, by omega, by go_num, rfl, by omega, by rw [hFr'.out, hnil, List.append_nil]; exact hownC.out.below hc4.out, q4, by omega, hbC.out.trans (hc4.out.mono hsz)⟩, by simp [intOf]; omega⟩
            · obtain rfl : E' = false := hE'.symm
              have hb4w := Lib.hid (hbC.out.trans (hc4.out.mono hsz))
              have hown4 := Lib.hid (hownC.out.below hc4.out)
              have y4 : w.heap.size < w4.heap.size := by omega
              clear hc4 hownC hbC q2 y2 v2 u2 r2 z2 hown2' hb2' hnm' hMay hOf
              go_wp2
              go_loopw [7, 37] (fun d i wr => ∃ (j : Nat) (AY : Option Addr) (q cY : Nat) (l : List LogV), j ≤ ln ∧ i = .int .i64 j ∧ d = .slice AY q cY ∧ q ≤ 300 * k + 30 * r + j ∧ Cops wr (w.heap.size + 1) (.slice AY q cY) (F1 ++ foundL L f x m j) l ∧ rowOf wr w.heap.size = tab 20 .u8 f ∧ w.heap.size < wr.heap.size ∧ Below w.heap.size w wr) (fun _ i _ => ln - (intOf i).toNat)
              case atStart => exact ⟨0, _, _, _, _, by omega, rfl, rfl, by omega, by rw [foundL, List.append_nil]; exact hown4.out, q4, y4, hb4w.out⟩
              case round =>
                clear q4 y4 hown4 hb4w v4
                obtain ⟨j, AX, q3, cX, l3, hj, rfl, rfl, hq3, hown3, r3, z3, hb3⟩ := hrel
                have hown3' := Lib.hid hown3
                have hb3' := Lib.hid hb3
                clear hown3 hb3
                by_cases hlj : j < ln
                · have hji : (j : Int) < (ln : Int) := by omega
                  obtain ⟨al, rfl, hlal, hldl, hokl⟩ := (hLF.out _ hb3'.out).load hlj
                  obtain ⟨hsj1, hsj2⟩ := hsr.out.2 j hlj
                  have hFit := Lib.hid (fits_any (L j) f A2 m c2 x (wr.alloc (.cells (L j).row 64)) (hokl.below (Nat.le_refl _) ((Below.refl _ _).alloc (Nat.le_refl _) _)) (hx'.out.below (Nat.le_refl _) (hb3'.out.alloc hb3'.out.size _)) (by omega) (by omega))
                  obtain ⟨E, hE⟩ : ∃ E, fitF (L j) f x m = E := ⟨_, rfl⟩
                  have hFl : F1 ++ foundL L f x m (j + 1) = (F1 ++ foundL L f x m j) ++ if E then [L j] else [] := by rw [foundL, hE, List.append_assoc]
                  rw [hE] at hFit
                  have hFl' := Lib.hid hFl
                  clear hFl hE hokl
                  have q5 : rowOf (wr.alloc (.cells (L j).row 64)) w.heap.size = tab 20 .u8 f := (rowOf_alloc_past _ _ _ z3).trans r3
                  have v5 : rowOf (wr.alloc (.cells (L j).row 64)) wr.heap.size = (L j).row := rowOf_alloc_at _ _ _ _ rfl
                  have hld5 := run_ldArr (P := Tryd.prog) 64 22 Tryd.isAgg64 Tryd.sizeOf64 (wr.alloc (.cells (L j).row 64)) wr.heap.size (by rw [v5, LogV.row_size])
                  rw [v5] at hld5
                  cases E
                  all_goals go_wp2_with (go_at_call 74; refine hFit.out.mono ?_; rintro e w6 ⟨rfl, hb6⟩; have hs6 := hb6.size; simp only [World.size_alloc] at hs6; have q6 := (rowOf_below hb6 (show w.heap.size < _ by simp; omega)).trans q5; have v6 := (rowOf_below hb6 (show wr.heap.size < _ by simp)).trans v5; have hc6 := Lib.hid (((Below.refl wr.heap.size wr).alloc (Nat.le_refl _) (.cells (L j).row 64)).trans (hb6.mono (by simp))))
                  · exact ⟨⟨j + 1, _, _, _, _, by omega, by go_num, rfl, by omega, by rw [hFl'.out]; simpa using hown3'.out.below hc6.out, q6, by omega, hb3'.out.trans (hc6.out.mono (by omega))⟩, by simp [intOf]; omega⟩
                  · have hC6 := Lib.hid (hb3'.out.trans (hc6.out.mono (by omega)))
                    obtain ⟨Z, hZ⟩ : ∃ Z, wr.heap.size = Z := ⟨_, rfl⟩
                    rw [hZ] at v6 ⊢
                    have hZ6 : Z < w6.heap.size := by omega
                    have hw6 : w.heap.size + 1 ≤ w6.heap.size := by omega
                    obtain ⟨tA, htA⟩ : ∃ tA, (L j).tA = tA := ⟨_, rfl⟩
                    obtain ⟨tn, htn⟩ : ∃ tn, (L j).tn = tn := ⟨_, rfl⟩
                    obtain ⟨tc, htc⟩ : ∃ tc, (L j).tc = tc := ⟨_, rfl⟩
                    obtain ⟨dA, hdA⟩ : ∃ dA, (L j).dA = dA := ⟨_, rfl⟩
                    obtain ⟨dn, hdn⟩ : ∃ dn, (L j).dn = dn := ⟨_, rfl⟩
                    obtain ⟨dc, hdc⟩ : ∃ dc, (L j).dc = dc := ⟨_, rfl⟩
                    have hCW := Lib.hid (show ∀ w1, Below w.heap.size w w1 → _ from fun w1 h => cloneW_any (L j).tA (L j).tn (L j).tc (L j).tx w1 ((hLF.out _ h) j hlj).2.topics (by omega))
                    have hCB := Lib.hid (show ∀ w1, Below w.heap.size w w1 → _ from fun w1 h => cloneB_any (L j).dA (L j).dn (L j).dc (L j).dx w1 ((hLF.out _ h) j hlj).2.data (by omega))
                    have k20 := (L j).row_20
                    have k21 := (L j).row_21
                    rw [htA, htn, htc] at hCW k20
                    rw [hdA, hdn, hdc] at hCB k21
                    have a6 := addr_load (w := w6.drew) (b := Z) (o := L j) v6 hZ6
                    have hown6 := Lib.hid (hown3'.out.below hc6.out)
                    have hq9 : (lcells l3).length = q3 := by
                      obtain ⟨_, _, hv9, _⟩ := hown3'.out.own.form
                      cases hv9
                      rfl
                    have hq9' := Lib.hid hq9
                    clear hq9 hld5 hldl v5 q5 hb6
                    (go_region_law (first
                      | (refine step_append_row logElem rfl (.tmp 45) (.tmp 55) rfl (w.heap.size + 1) (.slice AX q3 cX) (lcells l3) (by simp [Act.eval, Act.put]) (hV8.out.below ((Below.refl _ _).alloc (Nat.le_refl _) _)) w8.heap.size 1 (LogV.mk (L j).addr A7 tn c7 (L j).tx A8 dn c8 (L j).dx).row.toList (by simp [Act.eval, Act.put]) (by rw [Array.length_toList, LogV.row_size]) (by rw [rowOf_alloc_at _ _ _ _ rfl, Array.toArray_toList, lrow_eq]) (by rw [Array.toArray_toList]; exact LogV.row_ok _) (by rw [hq9'.out]; unfold maxLen; omega) (by rw [hq9'.out]; omega) (by simp; omega) (w8.heap.size + 1) (by simp) ?_; rw [hq9'.out]; intro g3 c3 w9 ho9 ht9 hg9 hl9; have hO9 := Lib.hid ho9; have hT9 := Lib.hid ht9; have hG9 := Lib.hid hg9; clear ho9 ht9 hg9)
                      | (go_simp; go_at_call 75; (with_reducible refine (hCW.out _ hC6.out.drew).mono ?_); rintro e w7 ⟨⟨v7, rfl, ho7⟩, hb7⟩; obtain ⟨A7, c7, hv7, -⟩ := ho7.form; rw [wrows_length] at hv7; subst hv7; have hc7 := Lib.hid ((Below.refl w6.heap.size w6).drew.trans (hb7.mono (by simp))); have hs7 := hc7.out.size; have v7r := (rowOf_below hc7.out hZ6).trans v6; have a7 := addr_load (w := w7) (b := Z) (o := L j) v7r (by omega); have hO7 := Lib.hid ho7; clear ho7 hb7)
                      | (go_simp; go_at_call 76; (with_reducible refine (hCB.out _ (hC6.out.trans (hc7.out.mono (by omega)))).mono ?_); rintro e w8 ⟨⟨v8, rfl, ho8⟩, hb8⟩; obtain ⟨A8, c8, hv8, -⟩ := OwnI.form ho8; rw [tl_length] at hv8; subst hv8; have hc8 := Lib.hid hb8; have hs8 := hb8.size; have v8r := (rowOf_below hc8.out (by omega)).trans v7r; have a8 := addr_load (w := w8) (b := Z) (o := L j) v8r (by omega); have hO8 := Lib.hid ho8; have hV8 := Lib.hid (hown6.out.own.below (hc7.out.trans (hc8.out.mono hs7))); clear ho8 hb8)))
                    all_goals
                      go_wp2
                      have hM := hown6.out.made hC6.out hw6 q6 hc7.out hc8.out htn hdn hO7.out hO8.out _ _ hO9.out hT9.out hG9.out
                      exact ⟨⟨j + 1, _, _, _, _, by omega, by go_num, rfl, by omega, by rw [hFl'.out]; simp only [if_true]; exact hM.1, hM.2.1, hM.2.2.1, hM.2.2.2⟩, by simp [intOf]; omega⟩
                · obtain rfl : j = ln := by omega
                  go_wp2
                  exact ⟨⟨r + 1, _, _, _, _, by omega, by go_num, rfl, by omega, by rw [hFr'.out]; exact hown3'.out, r3, z3, hb3'.out⟩, by simp [intOf]; omega⟩
        · obtain rfl : r = rn := by omega
          go_wp2
          exact ⟨⟨k + 1, _, _, _, _, by omega, by go_num, rfl, by omega, by rw [hFs'.out]; exact hown2'.out, r2, z2, hb2'.out⟩, by simp [intOf]; omega⟩
    · obtain rfl : k = n := by omega
      go_wp2
      go_ret
      exact ⟨⟨_, _, rfl, ⟨hown'.out.own.lower (by omega), hown'.out.len, fun i a b h1 h2 => by
        have h := hown'.out.each i a b h1 h2
        exact ⟨h.addr, h.tn, h.tx, h.dn, h.dx, h.top.lower (by omega), h.dat.lower (by omega), h.ne⟩⟩⟩, hb'.out⟩
end Go.Proofs.YtfjigoimjaemmaaDoor
