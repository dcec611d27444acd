/- the filter: BloomJoins. -/
import Derived.Test.YtfjigoimjaemmaaDoorBlm7W
namespace Go.Proofs.YtfjigoimjaemmaaDoor
open Go.RowKit
set_option linter.unusedSimpArgs false
set_option linter.unusedVariables false
set_option maxRecDepth 100000
attribute [local irreducible] sumF KLaid
attribute [local go_sem ↓] Go.wp_at_zero Go.wp_at_succ

set_option maxHeartbeats 4000000 in
theorem bloomJoins_any (a b : Nat → Int) (ha : B256 a) (hb : B256 b) (A1 : Option Addr) (n1 c1 : Nat) (K : Nat → LogV) (A2 : Option Addr) (n2 c2 : Nat) (L : Nat → LogV) (w : World) (hKL : KLaid w) (hK : Logs w A1 n1 K) (hL : Logs w A2 n2 L) :
    Calls Tryd.prog 8 #[.slice A1 n1 c1, .slice A2 n2 c2, .agg (tab 256 .u8 a), .agg (tab 256 .u8 b)] w fun e w' => e = .returned (.bool true) ∧ Below w.heap.size w w' := by
  have hb0 : Below w.heap.size w ((w.alloc (.cells (tab 256 .u8 a) 52)).alloc (.cells (tab 256 .u8 b) 52)) := ((Below.refl _ _).alloc (Nat.le_refl _) _).alloc (by simp) _
  have hG1 := Lib.hid fun (w1 : World) (h : Below w.heap.size w w1) => great29_any A1 n1 c1 K w1 (hK.below (Nat.le_refl _) h)
  have hG2 := Lib.hid fun (w1 : World) (h : Below w.heap.size w w1) => great29_any A2 n2 c2 L w1 (hL.below (Nat.le_refl _) h)
  have hFx := Lib.hid fun (w1 : World) (h : Below w.heap.size w w1) => fixed29_any w1 (hKL.below h)
  have hK' := Lib.hid hK
  have hL' := Lib.hid hL
  have hKL' := Lib.hid hKL
  have hb0' := Lib.hid hb0
  have ha' := Lib.hid ha
  have hb' := Lib.hid hb
  clear hK hL hKL hb0 ha hb
  go_enter Tryd.func8, Tryd.ntmps8
  go_wp2_with (first
    | (go_at_call 30; refine (join_any a b _).mono ?_; rintro e w6 ⟨rfl, hb6⟩; have hs6 := hb6.size; have r6 := (rowOf_below hb6 (show w.heap.size < _ by omega)).trans r5; have u6 := (rowOf_below hb6 (show w.heap.size + 1 < _ by omega)).trans u5; have hB6 := Lib.hid (hB5.out.trans (hb6.mono (by omega))); have hL6 := Lib.hid (hL5.out.below (Nat.le_refl _) hb6))
    | (go_at_call 28; first
      | ((with_reducible refine (hG2.out _ hB1.out).mono ?_); rintro e w2 ⟨⟨g2, rfl, hg2⟩, hb2⟩; have hs2 := hb2.size; have hB2 := Lib.hid (hB1.out.trans (hb2.mono (by omega))); have r2 := (rowOf_below hb2 (show w.heap.size < _ by omega)).trans r1; have u2 := (rowOf_below hb2 (show w.heap.size + 1 < _ by omega)).trans u1; have hgs2 := Lib.hid hg2; clear hg2; cases g2)
      | ((with_reducible refine (hG1.out _ hb0'.out).mono ?_); rintro e w1 ⟨⟨g1, rfl, hg1⟩, hb1⟩; have hs1 := hb1.size; simp only [World.size_alloc] at hs1; have hB1 := Lib.hid (hb0'.out.trans (hb1.mono (by simp; omega))); have r1 := (rowOf_below hb1 (show w.heap.size < _ by simp; omega)).trans ((rowOf_alloc_past _ _ _ (by simp)).trans (rowOf_alloc_at _ _ _ _ rfl)); have u1 := (rowOf_below hb1 (show w.heap.size + 1 < _ by simp)).trans (rowOf_alloc_at _ _ _ _ (by simp)); have hgs1 := Lib.hid hg1; clear hg1; cases g1))
    | (go_at_call 29; first
      | (refine (hFx.out _ hB2.out).mono ?_; rintro e w3 ⟨rfl, hb3⟩; have hB9 := Lib.hid (hB2.out.trans (hb3.mono hB2.out.size)))
      | (refine (hFx.out _ hB1.out).mono ?_; rintro e w3 ⟨rfl, hb3⟩; have hB9 := Lib.hid (hB1.out.trans (hb3.mono hB1.out.size))))
    | (at_builtin; first
      | (refine wpList_app_rows logElem rfl (.tmp 21) (.tmp 22) rfl w.heap.size _ (lrows n1 K) rfl hO4.out A2 n2 c2 (lrows n2 L) (lrows_length _ _) rfl (hL'.out.below (Nat.le_refl _) hB4.out).rowsAt (lrows_lens _ _) (lrows_one _ _) (by have h1 := (hgs1.out (by trivial)).1; have h2 := (hgs2.out (by trivial)).1; simp only [lrows_length, maxLen]; omega) (by have h1 := (hgs1.out (by trivial)).1; have h2 := (hgs2.out (by trivial)).1; simp only [lrows_length]; omega) hB4.out.size ?_; intro v5 w5 ho5 ha5; rw [catL_rows] at ho5; obtain ⟨A5, c5, hv5, -⟩ := ho5.form; rw [lrows_length] at hv5; subst hv5; have hB5 := Lib.hid (hB4.out.trans (ha5.1.below hB4.out.size (fun x hx => (hO4.out.lt hx).1))); have r5 := (ha5.1.rowOf (show w.heap.size < _ by omega) (fun hx => hne4.out _ (.inl rfl) hx)).trans r4; have u5 := (ha5.1.rowOf (show w.heap.size + 1 < _ by omega) (fun hx => hne4.out _ (.inr rfl) hx)).trans u4; have hs5 := ha5.1.size; have hL5 := Lib.hid (ho5.logs fun j hj => by (by_cases hj1 : j < n1; (rw [catL, if_pos hj1]; exact ((hK'.out.below (Nat.le_refl _) hB5.out) j hj1).2); (rw [catL, if_neg hj1]; exact ((hL'.out.below (Nat.le_refl _) hB5.out) (j - n1) (by omega)).2))); clear ho5 ha5)
      | (refine wpList_app_rows logElem rfl (.tmp 19) (.tmp 20) rfl w.heap.size (.slice (some ⟨w2.heap.size, 0, none⟩) 0 0) [] rfl (OwnR.empty w2 w.heap.size 64 22 hB2.out.size) A1 n1 c1 (lrows n1 K) (lrows_length _ _) rfl (hK'.out.below (Nat.le_refl _) (hB2.out.alloc hB2.out.size _)).rowsAt (lrows_lens _ _) (lrows_one _ _) (by have h1 := (hgs1.out (by trivial)).1; simp only [lrows_length, List.length_nil, maxLen]; omega) (by have h1 := (hgs1.out (by trivial)).1; simp only [lrows_length, List.length_nil]; omega) (by have := hB2.out.size; simp; omega) ?_; rw [List.nil_append]; intro v4 w4 ho4 ha4; have hO4 := Lib.hid ho4; have hs4 := ha4.1.size; simp only [World.size_alloc] at hs4; have hB4 := Lib.hid ((hB2.out.alloc hB2.out.size (.cells #[] 64)).trans (ha4.1.below (by have := hB2.out.size; simp; omega) (fun x hx => by simp only [Value.ownBlock, Option.some.injEq] at hx; have := hB2.out.size; omega))); have r4 := (ha4.1.rowOf (show w.heap.size < _ by simp; omega) (fun hx => by simp only [Value.ownBlock, Option.some.injEq] at hx; omega)).trans ((rowOf_alloc_past _ _ _ (by omega)).trans r2); have u4 := (ha4.1.rowOf (show w.heap.size + 1 < _ by simp; omega) (fun hx => by simp only [Value.ownBlock, Option.some.injEq] at hx; omega)).trans ((rowOf_alloc_past _ _ _ (by omega)).trans u2); have hne4 : Hid (∀ x, (x = w.heap.size ∨ x = w.heap.size + 1) → ¬ v4.ownBlock = some x) := Lib.hid (fun x hx e => by rcases ha4.2 with h | h <;> rw [h] at e <;> simp only [Value.ownBlock, World.size_alloc, Option.some.injEq] at e <;> omega); clear ho4 ha4)))
  all_goals try (go_ret; exact ⟨rfl, hB9.out⟩)
  have hk1 := hgs1.out (by trivial)
  have hl1 := hgs2.out (by trivial)
  have r7 : rowOf (w6.alloc (.cells (tab 256 .u8 (joinF a b)) 52)) w.heap.size = tab 256 .u8 a := (rowOf_alloc_past _ _ _ (by omega)).trans r6
  have u7 : rowOf (w6.alloc (.cells (tab 256 .u8 (joinF a b)) 52)) (w.heap.size + 1) = tab 256 .u8 b := (rowOf_alloc_past _ _ _ (by omega)).trans u6
  have m7 : rowOf (w6.alloc (.cells (tab 256 .u8 (joinF a b)) 52)) w6.heap.size = tab 256 .u8 (joinF a b) := rowOf_alloc_at _ _ _ _ rfl
  have hB7 := Lib.hid (hB6.out.alloc (by omega) (.cells (tab 256 .u8 (joinF a b)) 52))
  have hL7 := Lib.hid (hL6.out.below (Nat.le_refl _) ((Below.refl _ _).alloc (Nat.le_refl _) (.cells (tab 256 .u8 (joinF a b)) 52)))
  have hs7 : w6.heap.size + 1 = (w6.alloc (.cells (tab 256 .u8 (joinF a b)) 52)).heap.size := by simp
  obtain ⟨X, hX⟩ : ∃ X, w6.heap.size = X := ⟨_, rfl⟩
  rw [hX] at m7 hs7 hs6 ⊢
  obtain ⟨w7, hw7⟩ : ∃ W, w6.alloc (.cells (tab 256 .u8 (joinF a b)) 52) = W := ⟨_, rfl⟩
  rw [hw7] at r7 u7 m7 hB7 hL7 hs7 ⊢
  have hwX : w.heap.size + 1 < X := by omega
  have hX7 : X < w7.heap.size := by omega
  have hOf1 := Lib.hid fun (w1 : World) (h : Below w.heap.size w w1) => of_any A1 n1 c1 K w1 (hKL'.out.below h) (hK'.out.below (Nat.le_refl _) h) (by have := hk1.1; omega) (fun j hj => by have := (hk1.2 j hj).1; omega)
  have hOf2 := Lib.hid fun (w1 : World) (h : Below w.heap.size w w1) => of_any A2 n2 c2 L w1 (hKL'.out.below h) (hL'.out.below (Nat.le_refl _) h) (by have := hl1.1; omega) (fun j hj => by have := (hl1.2 j hj).1; omega)
  have hOf3 := Lib.hid fun (w1 : World) (h : Below w.heap.size w w1) (h' : Below w7.heap.size w7 w1) => of_any A5 (n1 + n2) c5 (catL n1 K L) w1 (hKL'.out.below h) (hL7.out.below (Nat.le_refl _) h') (by have := hl1.1; have := hk1.1; omega) (fun j hj => by
    by_cases hj1 : j < n1
    · rw [catL, if_pos hj1]; have := (hk1.2 j hj1).1; omega
    · rw [catL, if_neg hj1]; have := (hl1.2 (j - n1) (by omega)).1; omega)
  have hE1 := join_of n1 n2 K L
  have hE2 := join_comm ha'.out hb'.out
  have hJb := Lib.hid fun i hi => bitB_join ha'.out hb'.out i hi
  have hJB := Lib.hid (joinF_B ha'.out hb'.out)
  obtain ⟨F1, hF1⟩ : ∃ F, addL zf K n1 = F := ⟨_, rfl⟩
  obtain ⟨F2, hF2⟩ : ∃ F, addL zf L n2 = F := ⟨_, rfl⟩
  obtain ⟨F3, hF3⟩ : ∃ F, addL zf (catL n1 K L) (n1 + n2) = F := ⟨_, rfl⟩
  rw [hF1] at hOf1 hE1
  rw [hF2] at hOf2 hE1
  rw [hF3] at hOf3 hE1
  have hJn := Lib.hid fun (f g : Nat → Int) (w : World) => join_any f g w
  clear hF1 hF2 hF3 hk1 hl1 hw7 hX r6 u6 hb6 hs6 r5 u5 r4 u4 hs4 hs5 r2 u2 r1 u1 hs1 hs2 hgs1 hgs2 hb1 hb2 hL6 hL5 hO4 hne4
  go_loopw [27] (fun i wr => ∃ k : Nat, k ≤ 2048 ∧ i = .int .i64 k ∧ Below w7.heap.size w7 wr) (fun i _ => 2048 - (intOf i).toNat)
  case atStart => exact ⟨0, by omega, rfl, Below.refl _ _⟩
  case round =>
    obtain ⟨k, hk, rfl, hb⟩ := hrel
    have hb9 := Lib.hid hb
    have hsz9 := hb.size
    have t1 := (rowOf_below hb (show w.heap.size < _ by omega)).trans r7
    have t2 := (rowOf_below hb (show w.heap.size + 1 < _ by omega)).trans u7
    have t3 := (rowOf_below hb (show X < _ by omega)).trans m7
    clear hb
    by_cases hlt : k < 2048
    · have hki : (k : Int) < 2048 := by omega
      have hBj := fun (w2 : World) => bit_any (joinF a b) hJB.out k hlt w2
      have hBa := fun (w2 : World) => bit_any a ha'.out k hlt w2
      have hBb := fun (w2 : World) => bit_any b hb'.out k hlt w2
      rw [hJb.out k hlt] at hBj
      obtain ⟨E, hE⟩ : ∃ E, bitB a k = E := ⟨_, rfl⟩
      obtain ⟨I, hI⟩ : ∃ I, bitB b k = I := ⟨_, rfl⟩
      rw [hE, hI] at hBj
      rw [hE] at hBa
      rw [hI] at hBb
      have hBj' := Lib.hid hBj
      have hBa' := Lib.hid hBa
      have hBb' := Lib.hid hBb
      clear hBj hBa hBb hE hI
      go_wp2
      cases E
      all_goals
        first
        | (go_region_with (go_at_call 31; first
          | ((with_reducible refine (hBj'.out _).mono ?_); rintro e w8 ⟨rfl, hb8⟩; have hb80 := Lib.hid (((Below.refl wr.heap.size wr).drew).trans (hb8.mono (by simp))); have v1 := (rowOf_below hb80.out (show w.heap.size < _ by omega)).trans t1; have v2 := (rowOf_below hb80.out (show w.heap.size + 1 < _ by omega)).trans t2; have hs8 := hb80.out.size)
          | ((with_reducible refine (hBa'.out _).mono ?_); rintro e w9 ⟨rfl, hbx9⟩; have hb90 := Lib.hid (hb80.out.trans (hbx9.mono (by omega))); have q2 := (rowOf_below hb90.out (show w.heap.size + 1 < _ by omega)).trans t2; have hs90 := hb90.out.size)
          | ((with_reducible refine (hBb'.out _).mono ?_); rintro e w10 ⟨rfl, hb10⟩; have hb100 := Lib.hid (hb90.out.trans (hb10.mono (by omega))))))
        | fail
      all_goals
        go_wp2
        exact ⟨⟨k + 1, by omega, by go_num, hb9.out.trans ((by first | exact hb100.out | exact hb90.out : Below wr.heap.size wr _).mono (by omega))⟩, by simp [intOf]; omega⟩
    · obtain rfl : k = 2048 := by omega
      have hBk := Lib.hid (hB7.out.trans (hb9.out.mono (by omega)))
      go_wp2
      first
      | (go_region_with (first
        | (go_at_call 29; (with_reducible refine (hFx.out _ hBk.out.drew).mono ?_); rintro e w11 ⟨rfl, hb11⟩; have hc11 := Lib.hid (((Below.refl wr.heap.size wr).drew).trans (hb11.mono (by simp))); have hs11 := hc11.out.size; have hB11 := Lib.hid (hBk.out.trans (hc11.out.mono (by omega))))
        | (go_at_call 32; first
          | ((with_reducible refine (hOf3.out _ hB14.out (hb9.out.trans (hc14.out.mono (by omega)))).mono ?_); rintro e w15 ⟨rfl, hb15⟩; have hc15 := Lib.hid (hc14.out.trans (hb15.mono (by omega))); have hs15 := hc15.out.size; have hB15 := Lib.hid (hBk.out.trans (hc15.out.mono (by omega))); have v1 := (rowOf_below hc15.out (show w.heap.size < _ by omega)).trans t1; have v2 := (rowOf_below hc15.out (show w.heap.size + 1 < _ by omega)).trans t2)
          | ((with_reducible refine (hOf2.out _ hB12.out).mono ?_); rintro e w13 ⟨rfl, hb13⟩; have hc13 := Lib.hid (hc12.out.trans (hb13.mono (by omega))); have hs13 := hc13.out.size; have hB13 := Lib.hid (hBk.out.trans (hc13.out.mono (by omega))))
          | ((with_reducible refine (hOf1.out _ hB11.out).mono ?_); rintro e w12 ⟨rfl, hb12⟩; have hc12 := Lib.hid (hc11.out.trans (hb12.mono (by omega))); have hs12 := hc12.out.size; have hB12 := Lib.hid (hBk.out.trans (hc12.out.mono (by omega)))))
        | (go_at_call 30; first
          | ((with_reducible refine (hJn.out b a w16).mono ?_); rintro e w17 ⟨rfl, hb17⟩; have hc17 := Lib.hid (hc16.out.trans (hb17.mono (by omega))); have hs17 := hc17.out.size; have hB17 := Lib.hid (hBk.out.trans (hc17.out.mono (by omega))))
          | ((with_reducible refine (hJn.out a b w15).mono ?_); rintro e w16 ⟨rfl, hb16⟩; have hc16 := Lib.hid (hc15.out.trans (hb16.mono (by omega))); have hs16 := hc16.out.size; have hB16 := Lib.hid (hBk.out.trans (hc16.out.mono (by omega))); have x1 := (rowOf_below hc16.out (show w.heap.size < _ by omega)).trans t1; have x2 := (rowOf_below hc16.out (show w.heap.size + 1 < _ by omega)).trans t2)
          | ((with_reducible refine (hJn.out F1 F2 w13).mono ?_); rintro e w14 ⟨rfl, hb14⟩; have hc14 := Lib.hid (hc13.out.trans (hb14.mono (by omega))); have hs14 := hc14.out.size; have hB14 := Lib.hid (hBk.out.trans (hc14.out.mono (by omega)))))))
      | fail
      all_goals
        go_wp2
        go_ret
        exact ⟨rfl, hB17.out⟩
end Go.Proofs.YtfjigoimjaemmaaDoor
