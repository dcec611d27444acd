/- the filter: BloomOf. -/
import Derived.Test.YtfjigoimjaemmaaDoorBlm10W
namespace Go.Proofs.YtfjigoimjaemmaaDoor
open Go.RowKit
set_option linter.unusedSimpArgs false
set_option linter.unusedVariables false
set_option maxRecDepth 100000
attribute [local irreducible] sumF KLaid
attribute [local go_sem ↓] Go.wp_at_zero Go.wp_at_succ

theorem has_logs (L : Nat → LogV) (n k : Nat) (hk : k < n) (b : BV) (h : b.dat ∈ logD (L k) (L k).tn) : hasF (addL zf L n) (sumF b.x b.n) = true :=
  hasF_of fun i hi hp => by
    rw [bitB_addL zf_B L i hi, bitB_zf, Bool.or_false, ← anyD_all]
    exact List.any_eq_true.2 ⟨b.dat, List.mem_flatMap.2 ⟨k, List.mem_range.2 hk, h⟩, hp⟩
theorem cnt_logs (L : Nat → LogV) (n : Nat) : cnt (bitB (addL zf L n)) 2048 = cnt (inL L n) 2048 := cnt_congr _ fun i hi => by rw [bitB_addL zf_B L i hi, bitB_zf, Bool.or_false]

set_option maxHeartbeats 4000000 in
theorem bloomOf_any (A : Option Addr) (n c : Nat) (L : Nat → LogV) (w : World) (hKL : KLaid w) (hL : Logs w A n L) :
    Calls Tryd.prog 9 #[.slice A n c] w fun e w' => e = .returned (.bool true) ∧ Below w.heap.size w w' := by
  have hG := Lib.hid (great29_any A n c L w hL)
  have hFx := Lib.hid fun (w1 : World) (h : Below w.heap.size w w1) => fixed29_any w1 (hKL.below h)
  have hL' := Lib.hid hL
  have hKL' := Lib.hid hKL
  obtain ⟨F1, hF1⟩ : ∃ F, addL zf L n = F := ⟨_, rfl⟩
  obtain ⟨I, hI⟩ : ∃ I, inL L n = I := ⟨_, rfl⟩
  have hB1 := Lib.hid (show B256 F1 by rw [← hF1]; exact addL_B zf_B L n)
  have hbit := Lib.hid (show ∀ i, i < 2048 → bitB F1 i = I i from fun i hi => by rw [← hF1, ← hI, bitB_addL zf_B L i hi, bitB_zf, Bool.or_false])
  have hcn := cnt_logs L n
  have hhas := Lib.hid fun (k : Nat) (hk : k < n) (b : BV) (h : b.dat ∈ logD (L k) (L k).tn) => has_logs L n k hk b h
  rw [hF1] at hhas
  rw [hF1, hI] at hcn
  have hOf := Lib.hid fun (w1 : World) (h : Below w.heap.size w w1) (hS : Small n L) => of_any A n c L w1 (hKL.below h) (hL.below (Nat.le_refl _) h) (by have := hS.1; omega) (fun j hj => by have := (hS.2 j hj).1; omega)
  rw [hF1] at hOf
  have hOr := Lib.hid fun (w1 : World) (h : Below w.heap.size w w1) (hS : Small n L) => refOf29_any A n c L w1 (hL.below (Nat.le_refl _) h) hS
  rw [hI] at hOr
  obtain ⟨C, hC⟩ : ∃ C : Nat → Nat, ∀ k, C k = cnt I k := ⟨cnt I, fun _ => rfl⟩
  have hC0 := Lib.hid (show C 0 = 0 by rw [hC]; rfl)
  have hCs := Lib.hid (show ∀ k, C (k + 1) = C k + if I k then 1 else 0 from fun k => by rw [hC, hC]; rfl)
  have hCl := Lib.hid (show ∀ k, C k ≤ k from fun k => by rw [hC]; exact cnt_le I k)
  obtain ⟨T, hT⟩ : ∃ T, C 2048 = T := ⟨_, rfl⟩
  have hCT := Lib.hid hT
  rw [← hC, hT] at hcn
  have hCo := Lib.hid fun (w1 : World) => count_any F1 hB1.out w1
  rw [hcn] at hCo
  clear hcn hC hT hF1 hI hL hKL
  go_enter Tryd.func9, Tryd.ntmps9
  go_wp2_with (first
    | (go_at_call 28; refine hG.out.mono ?_; rintro e w1 ⟨⟨g1, rfl, hg1⟩, hb1⟩; have hs1 := hb1.size; have hBw1 := Lib.hid hb1; have hgs1 := Lib.hid hg1; clear hg1; cases g1)
    | (go_at_call 29; refine (hFx.out _ hBw1.out).mono ?_; rintro e w9 ⟨rfl, hb9⟩; have hB9 := Lib.hid (hBw1.out.trans (hb9.mono hs1)))
    | (go_at_call 32; refine (hOf.out _ hBw1.out (hgs1.out (by trivial))).mono ?_; rintro e w2 ⟨rfl, hb2⟩; have hs2 := hb2.size; have hBw2 := Lib.hid (hBw1.out.trans (hb2.mono hs1)))
    | (go_at_call 33; refine (hOr.out _ (hBw2.out.alloc (by omega) _) (hgs1.out (by trivial))).mono ?_; rintro e w3 ⟨⟨g, rfl, hrg, hgz, hgl⟩, hb3⟩; have hs3 := hb3.size; simp only [World.size_alloc] at hs3 hgl; have m3 := (rowOf_below hb3 (show w2.heap.size < _ by simp)).trans (rowOf_alloc_at _ _ _ _ rfl); have hBw3 := Lib.hid ((hBw2.out.alloc (by omega) (.cells (tab 256 .u8 F1) 52)).trans (hb3.mono (by simp; omega)))))
  all_goals try (go_ret; exact ⟨rfl, hB9.out⟩)
  have hsm := hgs1.out (by trivial)
  have hS' := Lib.hid hsm
  obtain ⟨X, hX⟩ : ∃ X, w2.heap.size = X := ⟨_, rfl⟩
  rw [hX] at m3 hs3 ⊢
  have hX3 : X < w3.heap.size := by omega
  clear hb3 hb2 hb1 hsm hgs1 hgl
  go_loopw [5, 21] (fun d i wr => ∃ k : Nat, k ≤ 2048 ∧ i = .int .i64 k ∧ d = .int .i64 (C k) ∧ w3 = wr) (fun _ i _ => 2048 - (intOf i).toNat)
  case atStart => exact ⟨0, by omega, rfl, by rw [hC0.out]; rfl, rfl⟩
  case round =>
    obtain ⟨k, hk, rfl, rfl, rfl⟩ := hrel
    by_cases hlt : k < 2048
    · have hki : (k : Int) < 2048 := by omega
      have hCk := hCl.out k
      have hCsk := hCs.out k
      have hCki : (C k : Int) ≤ 2048 := by omega
      obtain ⟨E, hE⟩ : ∃ E, I k = E := ⟨_, rfl⟩
      rw [hE] at hCsk
      cases E
      · go_wp2
        exact ⟨⟨k + 1, by omega, by go_num, by rw [hCsk]; rfl, by trivial⟩, by simp [intOf]; omega⟩
      · go_wp2
        exact ⟨⟨k + 1, by omega, by go_num, by rw [hCsk]; go_num, by trivial⟩, by simp [intOf]; omega⟩
    · have hCk : C k = T := by rw [show k = 2048 by omega]; exact hCT.out
      obtain ⟨z, hz⟩ : ∃ z : Int, (k : Int) = z := ⟨_, rfl⟩
      have hz2 : ¬ z < 2048 := by omega
      rw [hCk, hz]
      clear hCk hz hk hlt
      go_wp2
      have hrg' := Lib.hid hrg
      clear hrg hCs hCl hC0
      go_loopw [31] (fun i wr => ∃ k : Nat, k ≤ n ∧ i = .int .i64 k ∧ Below w3.heap.size w3 wr) (fun i _ => n - (intOf i).toNat)
      case atStart => exact ⟨0, by omega, rfl, Below.refl _ _⟩
      case round =>
        obtain ⟨k, hk, rfl, hb⟩ := hrel
        have hb9 := Lib.hid hb
        have hsz9 := hb.size
        have t1 := (rowOf_below hb hX3).trans m3
        have hBr := Lib.hid (hBw3.out.trans (hb.mono (by omega)))
        clear hb
        by_cases hlt : k < n
        · obtain ⟨a, rfl, ha, hld, hok⟩ := (hL'.out.below (Nat.le_refl _) hBr.out).load hlt
          have hki : (k : Int) < (n : Int) := by omega
          have htk := (hS'.out.2 k hlt).1
          have hn30 := hS'.out.1
          have hXr : X < wr.heap.size := by omega
          have hBt := Lib.hid (bytes29_any (L k) (wr.alloc (.cells (L k).row 64)) (hok.below (Nat.le_refl _) ((Below.refl _ _).alloc (Nat.le_refl _) _)) (by omega))
          have hhask := Lib.hid (hhas.out k hlt)
          have hld5 := run_ldArr (P := Tryd.prog) 64 22 Tryd.isAgg64 Tryd.sizeOf64 (wr.alloc (.cells (L k).row 64)) wr.heap.size (by rw [rowOf_alloc_at _ _ _ _ rfl, LogV.row_size])
          rw [rowOf_alloc_at _ _ _ _ rfl] at hld5
          obtain ⟨D, hD⟩ : ∃ D, logD (L k) (L k).tn = D := ⟨_, rfl⟩
          rw [hD] at hhask
          have hD' := Lib.hid hD
          clear hok hD
          go_wp2_with (go_at_call 34; refine hBt.out.mono ?_; rintro e w5 ⟨⟨A2, c2, Zs, rfl, hZ, hZd⟩, hb5⟩; rw [hD'.out] at hZd; have hs5 := hb5.size; simp only [World.size_alloc] at hs5; have hZ' := Lib.hid hZ; have hZd' := Lib.hid hZd; have t5 := (rowOf_below hb5 (show X < _ by simp; omega)).trans ((rowOf_alloc_past _ _ _ hXr).trans t1); have hB5 := Lib.hid ((hb9.out.alloc hsz9 (.cells (L k).row 64)).trans (hb5.mono (by simp; omega))); clear hZ hZd)
          have hBs := hZ'.out.bss
          have hBs2 := Lib.hid hBs.2
          have hZl := Lib.hid hBs.1
          have hX5 : X < w5.heap.size := by omega
          clear hBs
          go_loopw [38] (fun i wq => ∃ j : Nat, j ≤ (L k).tn + 1 ∧ i = .int .i64 j ∧ Below w5.heap.size w5 wq) (fun i _ => (L k).tn + 1 - (intOf i).toNat)
          case atStart => exact ⟨0, by omega, rfl, Below.refl _ _⟩
          case round =>
            obtain ⟨j, hj, rfl, hb7⟩ := hrel
            have hb7' := Lib.hid hb7
            have hsz7 := hb7.size
            have t7 := (rowOf_below hb7 hX5).trans t5
            clear hb7
            by_cases hjt : j < (L k).tn + 1
            · obtain ⟨⟨a7, rfl, ha7, hc7⟩, hok7⟩ := (hBs2.out.below (Nat.le_refl _) hb7'.out) j hjt
              have hjl : j < Zs.length := by rw [← hZl.out]; exact hjt
              have hmem : Zs.getD j default ∈ Zs := by simp [List.getD, hjl]
              have hcap := hZ'.out.caps _ hmem
              have hin := hhask.out (Zs.getD j default) (by rw [← hZd'.out]; exact List.mem_map_of_mem hmem)
              obtain ⟨⟨bA, bn, bc, bx⟩, hbe⟩ : ∃ b, Zs.getD j default = b := ⟨_, rfl⟩
              unfold BV.val at hc7
              change _ = some (Value.slice (Zs.getD j default).A (Zs.getD j default).n (Zs.getD j default).c) at hc7
              change (Zs.getD j default).Ok _ at hok7
              rw [hbe] at hc7 hok7 hcap hin
              simp only at hc7 hcap hin
              have hHa := has_any F1 hB1.out bA bn bc bx _ (hKL'.out.below (hBw3.out.trans ((hB5.out.trans (hb7'.out.mono (by omega))).mono (by omega)))) hok7.ints hcap hok7.len hok7.bytes
              rw [hin] at hHa
              have hHa' := Lib.hid hHa
              have hji : (j : Int) < (((L k).tn + 1 : Nat) : Int) := by omega
              clear hHa hbe hok7 hin hmem hcap
              go_wp2_with (go_at_call 35; refine hHa'.out.mono ?_; rintro e w8 ⟨rfl, hb8⟩)
              exact ⟨⟨j + 1, by omega, by go_num, hb7'.out.trans (hb8.mono hsz7)⟩, by simp [intOf]; omega⟩
            · obtain rfl : j = (L k).tn + 1 := by omega
              go_wp2
              exact ⟨⟨k + 1, by omega, by go_num, hB5.out.trans (hb7'.out.mono (by omega))⟩, by simp [intOf]; omega⟩
        · obtain rfl : k = n := by omega
          have hrr := (rowOf_below hb9.out hgz).trans hrg'.out
          have hgr : g < wr.heap.size := by omega
          have hXr : X < wr.heap.size := by omega
          go_wp2_with (first
            | (go_at_call 29; refine (hFx.out _ hBr.out).mono ?_; rintro e w11 ⟨rfl, hb11⟩; have hs11 := hb11.size; have v1 := (rowOf_below hb11 hXr).trans t1; have v2 := (rowOf_below hb11 hgr).trans hrr; have hg11 : g < w11.heap.size := (by omega))
            | (go_at_call 36; refine (refSame_any F1 hB1.out I hbit.out g w11 hg11 v2).mono ?_; rintro e w12 ⟨rfl, hb12⟩; have hc12 := Lib.hid (hb11.trans (hb12.mono (by omega))); have hs12 := hc12.out.size; have x1 := (rowOf_below hc12.out hXr).trans t1)
            | (go_at_call 37; refine (hCo.out w12).mono ?_; rintro e w13 ⟨rfl, hb13⟩; have hc13 := Lib.hid (hc12.out.trans (hb13.mono (by omega)))))
          go_ret
          exact ⟨rfl, hBr.out.trans (hc13.out.mono (by have := hBr.out.size; omega))⟩
end Go.Proofs.YtfjigoimjaemmaaDoor
