/- the filter: BloomHas. -/
import Derived.Test.YtfjigoimjaemmaaDoorBlm5W
namespace Go.Proofs.YtfjigoimjaemmaaDoor
open Go.RowKit
set_option linter.unusedSimpArgs false
set_option linter.unusedVariables false
set_option maxRecDepth 100000
attribute [local irreducible] sumF KLaid
attribute [local go_sem ↓] Go.wp_at_zero Go.wp_at_succ

/-- are the first k places set? -/
def andN (b h : Nat → Int) : Nat → Bool
  | 0 => true
  | k + 1 => andN b h k && bitB b (plF h k)
theorem andN_three (b h : Nat → Int) : andN b h 3 = hasF b h := by simp [andN, hasF]
theorem hasF_add3 {b : Nat → Int} (hb : B256 b) (h : Nat → Int) : hasF (add3 b h) h = true := hasF_of fun i hi hp => by rw [bitB_add3 hb h i hi, hp]; rfl

set_option maxHeartbeats 4000000 in
theorem bloomHas_any (b : Nat → Int) (hB : B256 b) (A : Option Addr) (n c : Nat) (x : Nat → Int) (w : World) (hK : KLaid w) (hx : Ints w .u8 A n x) (hc : n ≤ c) (hn : c ≤ maxLen) (hxb : ∀ j, j < n → 0 ≤ x j ∧ x j < 256) :
    Calls Tryd.prog 10 #[.agg (tab 256 .u8 b), .slice A n c] w fun e w' => e = .returned (.bool true) ∧ Below w.heap.size w w' := by
  have hb0 : Below w.heap.size w (w.alloc (.cells (tab 256 .u8 b) 52)) := (Below.refl _ _).alloc (Nat.le_refl _) _
  by_cases hbig : 1000 < n
  · have hF := Lib.hid (fixed29_any _ (hK.below hb0))
    have hbi : (1000 : Int) < (n : Int) := by omega
    clear hK hx hxb hB hbig
    go_enter Tryd.func10, Tryd.ntmps10
    go_wp2_with (go_at_call 29; refine hF.out.mono ?_; rintro e w1 ⟨rfl, hb1⟩)
    go_ret
    exact ⟨rfl, hb0.trans (hb1.mono (by simp))⟩
  · have hbi : ¬ (1000 : Int) < (n : Int) := by omega
    have hPl := fun (w1 : World) (hb : Below w.heap.size w w1) => refPlaces_any A n c x w1 (hx.below (Nat.le_refl _) hb) (by omega) hxb
    have hAd := fun (w1 : World) (hb : Below w.heap.size w w1) => add_any b hB A n c x w1 (hK.below hb) (hx.below (Nat.le_refl _) hb) hc (by omega) hxb
    have hHa := fun (w1 : World) (hb : Below w.heap.size w w1) (b' : Nat → Int) (hB' : B256 b') => has_any b' hB' A n c x w1 (hK.below hb) (hx.below (Nat.le_refl _) hb) hc (by omega) hxb
    have hSe := fun (w1 : World) (hb : Below w.heap.size w w1) (g : Nat) (hr : rowOf w1 g = #[.slice A n c]) (hg : g < w1.heap.size) => refSet_any (some ⟨g, 0, none⟩) 1 1 (fun _ => ⟨A, n, c, x⟩) w1 (fun j hj => ⟨⟨_, rfl, hg, by
      obtain rfl : j = 0 := by omega
      rw [Addr.add_lit, cell_of_rowOf, hr, Nat.zero_add]; rfl⟩, ⟨hx.below (Nat.le_refl _) hb, by show n ≤ _; omega, hxb⟩⟩) (by omega)
    have hFx := fun (w1 : World) (hb : Below w.heap.size w w1) => fixed29_any w1 (hK.below hb)
    have e1 : anyP (fun _ => (⟨A, n, c, x⟩ : BV)) 1 = inP (sumF x n) := by funext i; simp [anyP]
    rw [e1] at hSe
    obtain ⟨h, hh⟩ : ∃ h, sumF x n = h := ⟨_, rfl⟩
    rw [hh] at hPl hAd hHa hSe
    obtain ⟨m, hm⟩ : ∃ m, add3 b h = m := ⟨_, rfl⟩
    have hmB : B256 m := by rw [← hm]; exact add3_B hB h
    have hmh : hasF m h = true := by rw [← hm]; exact hasF_add3 hB h
    have hmb : ∀ i, i < 2048 → bitB m i = (inP h i || bitB b i) := fun i hi => by rw [← hm]; exact bitB_add3 hB h i hi
    rw [hm] at hAd
    have hPl' := Lib.hid hPl
    have hAd' := Lib.hid hAd
    have hHa' := Lib.hid hHa
    have hSe' := Lib.hid hSe
    have hFx' := Lib.hid hFx
    have hB' := Lib.hid hB
    have hmB' := Lib.hid hmB
    have hmh' := Lib.hid hmh
    have hmb' := Lib.hid hmb
    have hb0' := Lib.hid hb0
    clear hPl hAd hHa hSe hFx hB hmB hmh hmb hb0 hK hx hxb hbig hh e1 hm
    go_enter Tryd.func10, Tryd.ntmps10
    go_wp2_with (go_at_call 38; refine (hPl'.out _ hb0'.out).mono ?_; rintro e w1 ⟨⟨A1, c1, rfl, hi1, hf1⟩, hb1⟩; have hI1 := Lib.hid hi1; have hs1 := hb1.size; simp only [World.size_alloc] at hs1; have r1 := (rowOf_below hb1 (show w.heap.size < _ by simp)).trans (rowOf_alloc_at _ _ _ _ rfl); have hB1 := Lib.hid (hb0'.out.trans (hb1.mono (by simp))); clear hi1 hf1)
    go_loopw [5, 18] (fun d i wr => ∃ k : Nat, k ≤ 3 ∧ i = .int .i64 k ∧ d = .bool (andN b h k) ∧ Below w1.heap.size w1 wr) (fun _ i _ => 3 - (intOf i).toNat)
    case atStart => exact ⟨0, by omega, rfl, rfl, Below.refl _ _⟩
    case round =>
      obtain ⟨k, hk, rfl, rfl, hb⟩ := hrel
      have hb' := Lib.hid hb
      have hsz := hb.size
      have r2 := (rowOf_below hb (show w.heap.size < _ by omega)).trans r1
      clear hb
      by_cases hlt : k < 3
      · obtain ⟨a, rfl, ha, hc1⟩ := (hI1.out.below (Nat.le_refl _) hb'.out) k hlt
        obtain ⟨p, hp⟩ : ∃ p, plF h k = p := ⟨_, rfl⟩
        have hpl := plF_lt h k
        rw [hp] at hpl
        rw [show plI h k = (p : Int) by unfold plI; rw [hp]] at hc1
        have hBi := fun (w2 : World) => bit_any b hB'.out p hpl w2
        obtain ⟨D, hD⟩ : ∃ D, andN b h k = D := ⟨_, rfl⟩
        obtain ⟨E, hE⟩ : ∃ E, bitB b p = E := ⟨_, rfl⟩
        have hDE : andN b h (k + 1) = (D && E) := by rw [andN, hD, hp, hE]
        rw [hE] at hBi
        rw [hD]
        have hBi' := Lib.hid hBi
        have hDE' := Lib.hid hDE
        have hki : (k : Int) < 3 := by omega
        clear hBi hD hE hDE hp
        cases D
        · go_wp2
          exact ⟨⟨k + 1, by omega, by go_num, by rw [hDE'.out]; rfl, hb'.out⟩, by simp [intOf]; omega⟩
        · go_wp2_with (go_at_call 31; refine (hBi'.out _).mono ?_; rintro e w2 ⟨rfl, hb2⟩)
          exact ⟨⟨k + 1, by omega, by go_num, by rw [hDE'.out]; simp, hb'.out.trans (hb2.mono (by omega))⟩, by simp [intOf]; omega⟩
      · obtain rfl : k = 3 := by omega
        rw [andN_three]
        obtain ⟨D, hD⟩ : ∃ D, hasF b h = D := ⟨_, rfl⟩
        rw [hD]
        have hD' := Lib.hid hD
        have hBr := Lib.hid (hB1.out.trans (hb'.out.mono (by omega)))
        clear hD hlt hk
        go_wp2_with (first
          | (go_at_call 39; refine (hAd'.out _ hBr.out).mono ?_; rintro e w3 ⟨rfl, hb3⟩; have hs3 := hb3.size; have r3 := (rowOf_below hb3 (show w.heap.size < _ by omega)).trans r2; have hB3 := Lib.hid (hBr.out.trans (hb3.mono (by omega))))
          | (go_at_call 40; refine (hSe'.out _ ((hB3.out.alloc (by omega) _).alloc (by simp; omega) _) (w3.heap.size + 1) (rowOf_alloc_at _ _ _ _ (by simp)) (by simp)).mono ?_; rintro e w4 ⟨rfl, hr4, hg4, hb4⟩; have hs4 := hb4.size))
        have r4 := (rowOf_below hb4 (show w.heap.size < _ by simp; omega)).trans ((rowOf_alloc_past _ _ _ (by simp; omega)).trans ((rowOf_alloc_past _ _ _ (by omega)).trans r3))
        have m4 := (rowOf_below hb4 (show w3.heap.size < _ by simp; omega)).trans ((rowOf_alloc_past _ _ _ (by simp)).trans (rowOf_alloc_at _ _ _ _ rfl))
        have hB4 := Lib.hid (((hB3.out.alloc (by omega) (.cells (tab 256 .u8 m) 52)).alloc (by simp; omega) (.cells #[.slice A n c] 29)).trans (hb4.mono (by simp; omega)))
        simp only [World.size_alloc] at hr4 hg4 hs4
        obtain ⟨X, hX⟩ : ∃ X, w3.heap.size = X := ⟨_, rfl⟩
        rw [hX] at hr4 hg4 hs4 m4 ⊢
        have hwX : w.heap.size < X := by omega
        clear hb4 hX r3 r2 r1 hs3 hs1 hb3 hb1
        go_loopw [37] (fun i wr => ∃ k : Nat, k ≤ 2048 ∧ i = .int .i64 k ∧ Below w4.heap.size w4 wr) (fun i _ => 2048 - (intOf i).toNat)
        case atStart => exact ⟨0, by omega, rfl, Below.refl _ _⟩
        case round =>
          obtain ⟨k, hk, rfl, hb⟩ := hrel
          have hb9 := Lib.hid hb
          have hsz9 := hb.size
          have t1 := (rowOf_below hb (show w.heap.size < _ by omega)).trans r4
          have t2 := (rowOf_below hb (show X < _ by omega)).trans m4
          have t3 := (rowOf_below hb hg4).trans hr4
          clear hb
          by_cases hlt : k < 2048
          · have hki : (k : Int) < 2048 := by omega
            have hBm := fun (w2 : World) => bit_any m hmB'.out k hlt w2
            have hBb := fun (w2 : World) => bit_any b hB'.out k hlt w2
            obtain ⟨E, hE⟩ : ∃ E, bitB b k = E := ⟨_, rfl⟩
            obtain ⟨I, hI⟩ : ∃ I, inP h k = I := ⟨_, rfl⟩
            rw [hmb'.out k hlt, hI, hE] at hBm
            rw [hE] at hBb
            have hBm' := Lib.hid hBm
            have hBb' := Lib.hid hBb
            clear hBm hBb hE
            go_wp2
            cases I
            all_goals
              first
              | (go_region_with (go_at_call 31; first
                | ((with_reducible refine (hBm'.out _).mono ?_); rintro e w5 ⟨rfl, hb5⟩; have hb50 := Lib.hid (((Below.refl wr.heap.size wr).drew).trans (hb5.mono (by simp))); have ⟨gr5, gq5, gs5⟩ := row_facts (hb5.mono (show X + 3 ≤ _ by simp; omega)); have v1 := (gr5 w.heap.size (by omega)).trans (show _ = tab 256 .u8 b from t1); have v2 := (gr5 X (by omega)).trans (show _ = tab 256 .u8 m from t2); have v3 := (gr5 (X + 1 + 1) (by omega)).trans (show _ = tabB 2048 (inP h) from t3))
                | ((with_reducible refine (hBb'.out _).mono ?_); rintro e w6 ⟨rfl, hb6⟩; have hb60 := Lib.hid (hb50.out.trans (hb6.mono (by have := hb50.out.size; omega))))))
              | fail
              all_goals
                go_wp2
                exact ⟨⟨k + 1, by omega, by go_num, hb9.out.trans ((by first | exact hb60.out | exact hb50.out : Below wr.heap.size wr _).mono (by omega))⟩, by simp [intOf]; omega⟩
          · obtain rfl : k = 2048 := by omega
            have hBk := Lib.hid (hB4.out.trans (hb9.out.mono (by omega)))
            go_wp2_with (first
              | (go_at_call 29; refine (hFx'.out _ hBk.out).mono ?_; rintro e w7 ⟨rfl, hb7⟩; have hs7 := hb7.size; have u1 := (rowOf_below hb7 (show w.heap.size < _ by omega)).trans t1; have u2 := (rowOf_below hb7 (show X < _ by omega)).trans t2; have hB7 := Lib.hid (hBk.out.trans (hb7.mono (by omega))))
              | (go_at_call 35; first
                | ((with_reducible refine (hHa'.out _ hB7.out b hB'.out).mono ?_); rw [hD'.out]; rintro e w8 ⟨rfl, hb8⟩; have hs8 := hb8.size; have x1 := (rowOf_below hb8 (show w.heap.size < _ by omega)).trans u1; have x2 := (rowOf_below hb8 (show X < _ by omega)).trans u2; have hB8 := Lib.hid (hB7.out.trans (hb8.mono (by omega))))
                | ((with_reducible refine (hHa'.out _ hB8.out m hmB'.out).mono ?_); rw [hmh'.out]; rintro e w9 ⟨rfl, hb9⟩; have hB9 := Lib.hid (hB8.out.trans (hb9.mono (by omega))))))
            go_ret
            exact ⟨rfl, hB9.out⟩
end Go.Proofs.YtfjigoimjaemmaaDoor
