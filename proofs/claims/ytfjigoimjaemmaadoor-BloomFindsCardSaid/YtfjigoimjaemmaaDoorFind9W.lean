/- the filter's search: BloomFinds. -/
import Derived.Test.YtfjigoimjaemmaaDoorFind8W
namespace Go.Proofs.YtfjigoimjaemmaaDoor
open Go.RowKit
set_option linter.unusedSimpArgs false
set_option linter.unusedVariables false
set_option maxRecDepth 100000
attribute [local irreducible] sumF KLaid
attribute [local go_sem ↓] Go.wp_at_zero Go.wp_at_succ

/-- what the law's guards let in of the first k blocks -/
def FineS (S : Nat → SlV) (k : Nat) : Prop := ∀ j, j < k → (S j).rn ≤ 10 ∧ ∀ r, r < (S j).rn → Small ((S j).R r).ln ((S j).R r).L
/-- of the first k receipts -/
def FineR (R : Nat → RcV) (k : Nat) : Prop := ∀ r, r < k → Small (R r).ln (R r).L

set_option maxHeartbeats 4000000 in
theorem bloomFinds_any (A : Option Addr) (n c : Nat) (S : Nat → SlV) (f : Nat → Int) (hf : ∀ j, j < 20 → 0 ≤ f j ∧ f j < 256) (A2 : Option Addr) (m c2 : Nat) (x : Nat → Nat → Int) (w : World) (hKL : KLaid w) (hS : Seals w A n S) (hx : Words w A2 m x)
    (hw : ∀ j, j < m → ∀ i, i < 4 → 0 ≤ x j i ∧ x j i < 18446744073709551616) :
    Calls Tryd.prog 11 #[.slice A n c, .agg (tab 20 .u8 f), .slice A2 m c2] w fun e w' => e = .returned (.bool true) ∧ Below w.heap.size w w' := by
  have hb0 := Lib.hid (show Below w.heap.size w (w.alloc (.cells (tab 20 .u8 f) 61)) from (Below.refl _ _).alloc (Nat.le_refl _) _)
  have r0 : rowOf (w.alloc (.cells (tab 20 .u8 f) 61)) w.heap.size = tab 20 .u8 f := rowOf_alloc_at _ _ _ _ rfl
  have z0 : w.heap.size < (w.alloc (.cells (tab 20 .u8 f) 61)).heap.size := by simp
  have hFx := Lib.hid fun (w1 : World) (h : Below w.heap.size w w1) => fixed29_any w1 (hKL.below h)
  have hS' := Lib.hid hS
  have hx' := Lib.hid hx
  have hKL' := Lib.hid hKL
  have hw' := Lib.hid hw
  have hf' := Lib.hid hf
  clear hS hx hKL hw hf
  by_cases hn : n ≤ 10
  · by_cases hm : m ≤ 20
    · have d1 : decide ((10 : Int) < (n : Int)) = false := decide_eq_false (by omega)
      have d2 : decide ((20 : Int) < (m : Int)) = false := decide_eq_false (by omega)
      go_enter Tryd.func11, Tryd.ntmps11
      go_wp2_with fail
      clear d1 d2
      obtain ⟨w0, hw0⟩ : ∃ W, w.alloc (.cells (tab 20 .u8 f) 61) = W := ⟨_, rfl⟩
      rw [hw0] at hb0 r0 z0 ⊢
      clear hw0
      go_loopw [26] (fun i wr => ∃ k : Nat, k ≤ n ∧ i = .int .i64 k ∧ FineS S k ∧ rowOf wr w.heap.size = tab 20 .u8 f ∧ w.heap.size < wr.heap.size ∧ Below w.heap.size w wr) (fun i _ => n - (intOf i).toNat)
      case atStart => exact ⟨0, by omega, rfl, fun j hj => absurd hj (by omega), r0, z0, hb0.out⟩
      case round =>
        obtain ⟨k, hk, rfl, hfine, r1, z1, hb⟩ := hrel
        have hfine' := Lib.hid hfine
        have hb' := Lib.hid hb
        clear hfine hb r0 z0 hb0
        by_cases hlt : k < n
        · obtain ⟨a, rfl, ha, hld, hok⟩ := (hS'.out.below (Nat.le_refl _) hb'.out).load hlt
          have hki : (k : Int) < (n : Int) := by omega
          have hcell := hok.cell
          have hsz := hok.size
          have hone := hok.one
          obtain ⟨row, hrow⟩ : ∃ row, (S k).row = row := ⟨_, rfl⟩
          obtain ⟨rA, hrA⟩ : ∃ rA, (S k).rA = rA := ⟨_, rfl⟩
          obtain ⟨rn, hrn'⟩ : ∃ rn, (S k).rn = rn := ⟨_, rfl⟩
          obtain ⟨rc, hrc⟩ : ∃ rc, (S k).rc = rc := ⟨_, rfl⟩
          rw [hrow] at hld hcell hsz hone
          rw [hrA, hrn', hrc] at hcell
          have hRF := Lib.hid (show ∀ w1, Below w.heap.size w w1 → Rcs w1 rA rn (S k).R from fun w1 h => by
            have h2 := ((hS'.out k hlt).2.rcs).below (Nat.le_refl _) h
            rw [hrA, hrn'] at h2
            exact h2)
          have hat : row[161]'(by omega) = .slice rA rn rc := by
            rw [Array.getElem?_eq_getElem (by omega)] at hcell
            exact Option.some.inj hcell
          have hFk := Lib.hid (show rn ≤ 10 → FineR (S k).R rn → FineS S (k + 1) from fun h1 h2 j hj => by
            by_cases e : j = k
            · subst e; rw [hrn']; exact ⟨h1, h2⟩
            · exact hfine'.out j (by omega))
          have q1 : rowOf (wr.alloc (.cells row 80)) w.heap.size = tab 20 .u8 f := (rowOf_alloc_past _ _ _ z1).trans r1
          have y1 : w.heap.size < (wr.alloc (.cells row 80)).heap.size := by simp; omega
          have hbA := Lib.hid (hb'.out.alloc hb'.out.size (.cells row 80))
          clear hrow hok
          by_cases hr10 : rn ≤ 10
          · have d1 : decide ((10 : Int) < (rn : Int)) = false := decide_eq_false (by omega)
            go_wp2
            clear d1
            obtain ⟨wA, hwA⟩ : ∃ W, wr.alloc (.cells row 80) = W := ⟨_, rfl⟩
            rw [hwA] at q1 y1 hbA ⊢
            clear hwA hsz hone hat hld
            go_loopw [38] (fun i wr => ∃ r : Nat, r ≤ rn ∧ i = .int .i64 r ∧ FineR (S k).R r ∧ rowOf wr w.heap.size = tab 20 .u8 f ∧ w.heap.size < wr.heap.size ∧ Below w.heap.size w wr) (fun i _ => rn - (intOf i).toNat)
            case atStart => exact ⟨0, by omega, rfl, fun j hj => absurd hj (by omega), q1, y1, hbA.out⟩
            case round =>
              obtain ⟨r, hr, rfl, hfr, r2, z2, hb2⟩ := hrel
              have hfr' := Lib.hid hfr
              have hb2' := Lib.hid hb2
              clear hfr hb2 r1 z1 q1 y1 hbA
              by_cases hlr : r < rn
              · have hri : (r : Int) < (rn : Int) := by omega
                obtain ⟨ar, rfl, hlar, hldr, hokr⟩ := (hRF.out _ hb2'.out).load hlr
                have hcellr := hokr.cell
                have hszr := hokr.size
                have honer := hokr.one
                have hGr := Lib.hid fun (w1 : World) (h : Below w.heap.size w w1) => great29_any ((S k).R r).lA ((S k).R r).ln ((S k).R r).lc ((S k).R r).L w1 (((hRF.out w1 h) r hlr).2.logs)
                obtain ⟨rowr, hrowr⟩ : ∃ rowr, ((S k).R r).row = rowr := ⟨_, rfl⟩
                obtain ⟨lA, hlA⟩ : ∃ lA, ((S k).R r).lA = lA := ⟨_, rfl⟩
                obtain ⟨ln, hln⟩ : ∃ ln, ((S k).R r).ln = ln := ⟨_, rfl⟩
                obtain ⟨lc, hlc⟩ : ∃ lc, ((S k).R r).lc = lc := ⟨_, rfl⟩
                rw [hrowr] at hldr hcellr hszr honer
                rw [hlA, hln, hlc] at hcellr hGr
                have hatr : rowr[47]'(by omega) = .slice lA ln lc := by
                  rw [Array.getElem?_eq_getElem (by omega)] at hcellr
                  exact Option.some.inj hcellr
                have hFr := Lib.hid (show Small ln ((S k).R r).L → FineR (S k).R (r + 1) from fun h1 j hj => by
                  by_cases e : j = r
                  · subst e; rw [hln]; exact h1
                  · exact hfr'.out j (by omega))
                have hbC := Lib.hid (hb2'.out.alloc hb2'.out.size (.cells rowr 82))
                have q2 : rowOf (wr.alloc (.cells rowr 82)) w.heap.size = tab 20 .u8 f := (rowOf_alloc_past _ _ _ z2).trans r2
                have s2 : w.heap.size < (wr.alloc (.cells rowr 82)).heap.size := by simp; omega
                clear hokr hrowr hlA hln hlc
                go_wp2_with (first
                  | (go_at_call 28; refine (hGr.out _ hbC.out).mono ?_; rintro e w3 ⟨⟨g3, rfl, hg3⟩, hb3⟩; have hs3 := hb3.size; have hB3 := Lib.hid (hbC.out.trans (hb3.mono hbC.out.size)); have r3 := (rowOf_below hb3 s2).trans q2; have hgs3 := Lib.hid hg3; clear hg3 hb3; cases g3)
                  | (go_at_call 29; refine (hFx.out _ hB3.out).mono ?_; rintro e w9 ⟨rfl, hb9⟩; have hB9 := Lib.hid (hB3.out.trans (hb9.mono hB3.out.size))))
                all_goals first
                  | exact ⟨⟨r + 1, by omega, by go_num, hFr.out (hgs3.out (by trivial)), r3, Nat.lt_of_lt_of_le s2 hs3, hB3.out⟩, by simp [intOf]; omega⟩
                  | (go_ret; exact ⟨rfl, hB9.out⟩)
              · obtain rfl : r = rn := by omega
                go_wp2
                exact ⟨⟨k + 1, by omega, by go_num, hFk.out hr10 hfr'.out, r2, z2, hb2'.out⟩, by simp [intOf]; omega⟩
          · have d1 : decide ((10 : Int) < (rn : Int)) = true := decide_eq_true (by omega)
            go_wp2_with (go_at_call 29; refine (hFx.out _ hbA.out).mono ?_; rintro e w9 ⟨rfl, hb9⟩; have hB9 := Lib.hid (hbA.out.trans (hb9.mono hbA.out.size)))
            go_ret
            exact ⟨rfl, hB9.out⟩
        · obtain rfl : k = n := by omega
          have hrn : ∀ j, j < k → (S j).rn ≤ 10 := fun j hj => (hfine'.out j hj).1
          have hsm : ∀ j, j < k → ∀ r, r < (S j).rn → Small ((S j).R r).ln ((S j).R r).L := fun j hj => (hfine'.out j hj).2
          have hRf := Lib.hid fun (w1 : World) (h : Below w.heap.size w w1) => refFind_any A k c S f A2 m c2 x w1 (hS'.out.below (Nat.le_refl _) h) hn hrn hsm (hx'.out.below (Nat.le_refl _) h) hm
          have hFi := Lib.hid fun (w1 : World) (h : Below w.heap.size w w1) => find_any A k c S f hf'.out A2 m c2 x w1 (hKL'.out.below h) (hS'.out.below (Nat.le_refl _) h) hn hrn hsm (hx'.out.below (Nat.le_refl _) h) hw'.out hm
          have hOk := Lib.hid fun (w1 : World) (h : Below w.heap.size w w1) => foundS_ok (f := f) (x := x) (m := m) (hS'.out.below (Nat.le_refl _) h)
          have hLen := foundS_len (f := f) (x := x) (m := m) k hrn fun j hj r hr => (hsm j hj r hr).1
          have hTn : ∀ o ∈ foundS S f x m k, o.tn ≤ 30 := fun o ho => by
            obtain ⟨j, r, i, hj, hr, hi, rfl⟩ := foundS_mem k ho
            exact ((hsm j hj r hr).2 i hi).1
          have hTn' := Lib.hid hTn
          obtain ⟨F, hF⟩ : ∃ F, foundS S f x m k = F := ⟨_, rfl⟩
          rw [hF] at hRf hFi hOk hLen hTn'
          clear hF hTn hrn hsm
          obtain ⟨q, hFl⟩ : ∃ q, F.length = q := ⟨_, rfl⟩
          have hFl' := Lib.hid hFl
          have hSm := Lib.hid (show ∀ (w1 : World) (v v' : Value) (lo lo' : Nat) (l' : List LogV), Below w.heap.size w w1 → OwnR w1 lo 64 22 v (lcells F) → Cops w1 lo' v' F l' → Calls Tryd.prog 43 #[v', v] w1 fun e w' => e = .returned (.bool true) ∧ Below w1.heap.size w1 w' from fun w1 v v' lo lo' l' hb h1 h2 => by
            obtain ⟨A1, c1, rfl, hL1⟩ := h1.asLogs (hOk.out w1 hb)
            obtain ⟨A3, c3, rfl, hL3, hs3⟩ := h2.asLogs (hOk.out w1 hb)
            exact sameLogs_any A3 F.length c3 _ A1 c1 _ w1 hL3 hL1 hs3 (by omega) fun j hj => by
              have : F.getD j default ∈ F := by simp [List.getD, hj]
              have := hTn'.out _ this
              omega)
          go_wp2_with (first
            | (go_at_call 41; refine (hRf.out _ hb'.out).mono ?_; rintro e w3 ⟨⟨v3, rfl, ho3⟩, hb3⟩; have hs3 := hb3.size; have hB3 := Lib.hid (hb'.out.trans (hb3.mono hb'.out.size)); have r3 := (rowOf_below hb3 z1).trans r1; have z3 := Nat.lt_of_lt_of_le z1 hs3; have hO3 := Lib.hid ho3; clear ho3 hb3)
            | (go_at_call 42; refine (hFi.out _ hB3.out).mono ?_; rintro e w4 ⟨⟨v4, l4, rfl, ho4⟩, hb4⟩; obtain ⟨A4, c4, hv4, -⟩ := ho4.own.form; rw [lcells_length, ho4.len, hFl] at hv4; subst hv4; have hs4 := hb4.size; have hB4 := Lib.hid (hB3.out.trans (hb4.mono hB3.out.size)); have r4 := (rowOf_below hb4 z3).trans r3; have z4 := Nat.lt_of_lt_of_le z3 hs4; have hO4 := Lib.hid ho4; have hO34 := Lib.hid (hO3.out.below hb4); clear ho4 hb4)
            | (go_at_call 43; refine (hSm.out _ _ _ _ _ _ hB4.out hO34.out hO4.out).mono ?_; rintro e w5 ⟨rfl, hb5⟩; have hs5 := hb5.size; have hB5 := Lib.hid (hB4.out.trans (hb5.mono hB4.out.size)); have r5 := (rowOf_below hb5 z4).trans r4; have z5 := Nat.lt_of_lt_of_le z4 hs5; have hO5 := Lib.hid (hO4.out.below hb5); clear hb5))
          have hI := Lib.hid (show ClrInv w w5 f w3.heap.size (.slice A4 q c4) l4 w5 from ⟨hB5.out, Nat.le_refl _, fun _ _ => rfl, hO5.out.own, r5⟩)
          have hl4 := Lib.hid (hO5.out.len.trans hFl'.out)
          have hC5 := Lib.hid (show ∀ j, j < q → ∃ o, Cop w5 w3.heap.size (.slice A4 q c4) o (l4.getD j default) from fun j hj => by
            have h1 : F[j]? = some (F[j]'(by rw [hFl'.out]; exact hj)) := List.getElem?_eq_getElem _
            have h2 : l4[j]? = some (l4.getD j default) := by simp [List.getD, hl4.out, hj]
            exact ⟨_, hO5.out.each j _ _ h1 h2⟩)
          rw [hFl] at hLen
          clear hFl hO34 r4 r3 r5 hO4
          go_loopw [62] (fun i wr => ∃ j : Nat, j ≤ q ∧ i = .int .i64 j ∧ ClrInv w w5 f w3.heap.size (.slice A4 q c4) l4 wr) (fun i _ => q - (intOf i).toNat)
          case atStart => exact ⟨0, by omega, rfl, hI.out⟩
          case round =>
            obtain ⟨j, hj, rfl, hi⟩ := hrel
            have hi' := Lib.hid hi
            have hbi := Lib.hid hi.bel
            have hri := hi.row
            have hzi := hi.size
            clear hi r1 z1
            by_cases hlj : j < q
            · have hji : (j : Int) < (q : Int) := by omega
              obtain ⟨a4, rfl, _, hld⟩ := hi'.out.own.loadL (j := j) (by rw [hl4.out]; exact hlj)
              obtain ⟨o, hco⟩ := hC5.out j hlj
              obtain ⟨W2, W3, k1, k2, k3, k4, k5⟩ := hi'.out.step hco z3 z5
              obtain ⟨o', ho'⟩ : ∃ o', l4.getD j default = o' := ⟨_, rfl⟩
              have ho2 : l4[j]?.getD default = o' := by rw [← ho']; simp [List.getD]
              rw [ho'] at hld k1 k2 k3
              have m1 := o'.row_20
              have m2 := o'.row_21
              obtain ⟨tA, htA⟩ : ∃ f, o'.tA = f := ⟨_, rfl⟩
              obtain ⟨tn, htn⟩ : ∃ f, o'.tn = f := ⟨_, rfl⟩
              obtain ⟨tc, htc⟩ : ∃ f, o'.tc = f := ⟨_, rfl⟩
              obtain ⟨dA, hdA⟩ : ∃ f, o'.dA = f := ⟨_, rfl⟩
              obtain ⟨dn, hdn⟩ : ∃ f, o'.dn = f := ⟨_, rfl⟩
              obtain ⟨dc, hdc⟩ : ∃ f, o'.dc = f := ⟨_, rfl⟩
              rw [htA, htn, htc] at k1
              rw [hdA, hdn, hdc] at k3
              have k4' := Lib.hid k4
              clear k4 hco ho'
              go_wp2_with (simp only [k1, k3])
              exact ⟨⟨j + 1, by omega, by go_num, k4'.out⟩, by simp [intOf]; omega⟩
            · obtain rfl : j = q := by omega
              have zr : w.heap.size < wr.heap.size := by omega
              have hFx2 := Lib.hid (hFx.out _ hbi.out.drew)
              go_wp2_with fail
              first
              | (go_region_with (first
                | (go_at_call 29; (with_reducible refine hFx2.out.mono ?_); rintro e w6 ⟨rfl, hb6⟩; have hc6 := Lib.hid ((Below.refl wr.heap.size wr).drew.trans (hb6.mono (by simp))); have hs6 := hc6.out.size; have hB6 := Lib.hid (hbi.out.trans (hc6.out.mono hbi.out.size)); have r6 := (rowOf_below hc6.out zr).trans hri; have z6 := Nat.lt_of_lt_of_le zr hs6; clear hb6)
                | (go_at_call 42; (with_reducible refine (hFi.out _ hB6.out).mono ?_); rintro e w7 ⟨⟨v7, l7, rfl, ho7⟩, hb7⟩; have hs7 := hb7.size; have hB7 := Lib.hid (hB6.out.trans (hb7.mono hB6.out.size)); have r7 := (rowOf_below hb7 z6).trans r6; have z7 := Nat.lt_of_lt_of_le z6 hs7; have hO7 := Lib.hid ho7; clear ho7 hb7)
                | (go_at_call 41; (with_reducible refine (hRf.out _ hB7.out).mono ?_); rintro e w8 ⟨⟨v8, rfl, ho8⟩, hb8⟩; have hs8 := hb8.size; have hB8 := Lib.hid (hB7.out.trans (hb8.mono hB7.out.size)); have hO8 := Lib.hid ho8; have hO78 := Lib.hid (hO7.out.below hb8); clear ho8 hb8)
                | (go_at_call 43; (with_reducible refine (hSm.out _ _ _ _ _ _ hB8.out hO8.out hO78.out).mono ?_); rintro e w9 ⟨rfl, hb9⟩; have hB9 := Lib.hid (hB8.out.trans (hb9.mono hB8.out.size)); clear hb9)))
              | fail
              all_goals
                go_wp2
                go_ret
                exact ⟨rfl, hB9.out⟩
    · go_enter Tryd.func11, Tryd.ntmps11
      go_wp2_with (go_at_call 29; refine (hFx.out _ hb0.out).mono ?_; rintro e w9 ⟨rfl, hb9⟩; have hB9 := Lib.hid (hb0.out.trans (hb9.mono (by simp))))
      go_ret
      exact ⟨rfl, hB9.out⟩
  · go_enter Tryd.func11, Tryd.ntmps11
    go_wp2_with (go_at_call 29; refine (hFx.out _ hb0.out).mono ?_; rintro e w9 ⟨rfl, hb9⟩; have hB9 := Lib.hid (hb0.out.trans (hb9.mono (by simp))))
    go_ret
    exact ⟨rfl, hB9.out⟩
end Go.Proofs.YtfjigoimjaemmaaDoor
