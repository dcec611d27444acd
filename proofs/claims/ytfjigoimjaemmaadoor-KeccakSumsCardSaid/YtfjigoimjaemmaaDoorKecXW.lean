/- keccak: the walk of KeccakSums. -/
import Derived.Test.YtfjigoimjaemmaaDoorKecVW
import Derived.Test.YtfjigoimjaemmaaDoorStrW
namespace Go.Proofs.YtfjigoimjaemmaaDoor
open Go.RowKit
set_option linter.unusedSimpArgs false
set_option linter.unusedVariables false
set_option maxRecDepth 100000
attribute [local irreducible] sumF KLaid
attribute [local go_sem ↓] Go.wp_at_zero Go.wp_at_succ

set_option maxHeartbeats 1000000 in
theorem keccakSums_any (A : Option Addr) (n c : Nat) (x : Nat → Int) (w : World) (hL : KLaid w) (hx : Ints w .u8 A n x) (hc : n ≤ c) (hn : n ≤ maxLen) (hxb : ∀ j, j < n → 0 ≤ x j ∧ x j < 256) :
    Calls Tryd.prog 7 #[.slice A n c] w fun e w' => e = .returned (.bool true) ∧ Below w.heap.size w w' := by
  by_cases hbig : 3000 < n
  · have hF := fixed05_any w hL
    have hF' := Lib.hid hF
    have hb3 : (3000 : Int) < (n : Int) := by omega
    clear hF hL hx hxb
    go_enter Tryd.func7, Tryd.ntmps7
    go_wp2_with (go_at_call 14; refine hF'.out.mono ?_; rintro e w1 ⟨rfl, hb1⟩)
    go_ret
    exact ⟨rfl, hb1⟩
  · have hsm : n ≤ 3000 := by omega
    have hb3 : ¬ (3000 : Int) < (n : Int) := by omega
    have hI0 : OwnI (w.alloc (.cells #[] 5)) w.heap.size 5 .u8 (.slice (some ⟨w.heap.size, 0, none⟩) 0 0) [] := OwnI.lit w w.heap.size 5 .u8 #[] [] rfl (Nat.le_refl _) (by simp)
    have hxI : Ints (w.alloc (.cells #[] 5)) .u8 A n x := hx.below (Nat.le_refl _) (below_alloc_self _ _)
    obtain ⟨F, hF⟩ : ∃ F, sumF x n = F := ⟨_, rfl⟩
    obtain ⟨G, hG⟩ : ∃ G, wdF (dgF F 32) = G := ⟨_, rfl⟩
    obtain ⟨S, hSt⟩ : ∃ S, strF n x = S := ⟨_, rfl⟩
    have hS := fun (w' : World) (B : Option Addr) (k : Nat) (hK : KLaid w') (hy : Ints w' .u8 B n x) (hk : n ≤ k) => sum_any B n k x w' hK hy hk (by omega) hxb
    have hR := fun (w' : World) (B : Option Addr) (k : Nat) (hy : Ints w' .u8 B n x) => refSum_any B n k x w' hy (by omega) hxb
    have hW := fun (w' : World) (B : Option Addr) (k : Nat) (hK : KLaid w') (hy : Ints w' .u8 B n x) (hk : n ≤ k) => word_any B n k x w' hK hy hk (by omega) hxb
    have hV := fun (w' : World) (B : Option Addr) (k : Nat) (hy : Ints w' .u8 B n x) => refWordH_any B n k x w' hy (by omega) hxb
    have hC := fun (w' : World) (B : Option Addr) (k : Nat) (hy : Ints w' .u8 B n x) => Ints.str hy k
    rw [hF] at hS hR hW hV
    rw [hG] at hW hV
    rw [hSt] at hC
    have hI0' := Lib.hid hI0
    have hxI' := Lib.hid hxI
    have hL' := Lib.hid hL
    have hx' := Lib.hid hx
    have hS' := Lib.hid hS
    have hR' := Lib.hid hR
    have hW' := Lib.hid hW
    have hV' := Lib.hid hV
    have hC' := Lib.hid hC
    clear hI0 hxI hL hx hxb hS hR hW hV hC hF hG hSt
    go_enter Tryd.func7, Tryd.ntmps7
    go_wp2_with (first
      | (at_builtin; refine wpList_app bytesE rfl (.tmp 8) (.tmp 9) rfl (.slice (some ⟨w.heap.size, 0, none⟩) 0 0) [] rfl hI0'.out A n c x rfl hxI'.out (by simp only [List.length_nil, maxLen]; omega) (by simp only [List.length_nil]; omega) (by simp) ?_; rw [List.nil_append]; intro v1 w1 ho1 ha1; obtain ⟨A1, c1, e1, hc1, hi1, _⟩ := ho1.ints; rw [tl_length] at e1 hc1 hi1; subst e1; have hB1 : Below w.heap.size w w1 := (below_alloc_self w _).trans (ha1.1.below (by simp) (fun b hb => by simp only [Value.ownBlock, Option.some.injEq] at hb; omega)); have hO1 := Lib.hid (show Ints w1 .u8 A1 n x from fun j hj => by (obtain ⟨a, h1, h2, h3⟩ := hi1 j hj; exact ⟨a, h1, h2, by rw [h3]; show some (Value.int .u8 ((tl n x).getD j 0)) = _; rw [tl_getD _ _ _ hj]⟩)); clear ho1 ha1 hi1)
      | (go_at_call 14; refine (fixed05_any _ (hL'.out.below hB1)).mono ?_; rintro e w2 ⟨rfl, hb2⟩)
      | (go_at_call 23; refine (hS'.out _ _ _ ((hL'.out.below hB1).below hb2) (hO1.out.below (Nat.le_refl _) hb2) hc1).mono ?_; rintro e w3 ⟨rfl, hb3⟩; have hb13 := hb2.trans (hb3.mono hb2.size))
      | (go_at_call 24; refine (hR'.out _ _ _ ((hx'.out.below (Nat.le_refl _) hB1).below (Nat.le_refl _) hb13)).mono ?_; rintro e w4 ⟨rfl, hb4⟩; have hb14 := hb13.trans (hb4.mono hb13.size))
      | (go_at_call 26; refine (hW'.out _ _ _ ((hL'.out.below hB1).below hb14) (hO1.out.below (Nat.le_refl _) hb14) hc1).mono ?_; rintro e w5 ⟨rfl, hb5⟩; have hb15 := hb14.trans (hb5.mono hb14.size))
      | (go_at_call 27; refine (hV'.out _ _ _ ((hx'.out.below (Nat.le_refl _) hB1).below (Nat.le_refl _) hb15)).mono ?_; rintro e w6 ⟨rfl, hb6⟩; have hb16 := hb15.trans (hb6.mono hb15.size); have cv1 := hC'.out _ _ c1 (hO1.out.below (Nat.le_refl _) hb16); have cv2 := hC'.out _ _ c ((hx'.out.below (Nat.le_refl _) hB1).below (Nat.le_refl _) hb16)))
    go_ret
    exact ⟨rfl, hB1.trans (hb16.mono hB1.size)⟩
end Go.Proofs.YtfjigoimjaemmaaDoor
