/- the filter's search: the walks. -/
import Derived.Test.YtfjigoimjaemmaaDoorBlm11W
import Derived.Test.YtfjigoimjaemmaaDoorSealW
namespace Go.Proofs.YtfjigoimjaemmaaDoor
open Go.RowKit
set_option linter.unusedSimpArgs false
set_option linter.unusedVariables false
set_option maxRecDepth 100000
attribute [local irreducible] sumF KLaid
attribute [local go_sem ↓] Go.wp_at_zero Go.wp_at_succ

/-- are the first k words in the filter? -/
def allT (b : Nat → Int) (x : Nat → Nat → Int) : Nat → Bool
  | 0 => true
  | k + 1 => allT b x k && hasF b (sumF (bytF (x k)) 32)
theorem allT_false {b : Nat → Int} {x : Nat → Nat → Int} {k n : Nat} (h : allT b x k = false) (hk : k ≤ n) : allT b x n = false := by
  induction n with
  | zero => obtain rfl : k = 0 := by omega
            exact h
  | succ n ih =>
    by_cases h1 : k = n + 1
    · subst h1; exact h
    · rw [allT, ih (by omega)]; rfl
theorem tab_ints {w : World} {g n : Nat} {k : IntKind} {f : Nat → Int} (hr : rowOf w g = tab n k f) (hg : g < w.heap.size) : Ints w k (some ⟨g, 0, none⟩) n f := fun j hj =>
  ⟨_, rfl, hg, by rw [Addr.add_lit, cell_of_rowOf, hr, Nat.zero_add, tab_get, if_pos hj]⟩

set_option maxHeartbeats 4000000 in
theorem may_any (b : Nat → Int) (hB : B256 b) (f : Nat → Int) (hf : ∀ j, j < 20 → 0 ≤ f j ∧ f j < 256) (A : Option Addr) (n c : Nat) (x : Nat → Nat → Int) (w : World) (hK : KLaid w) (hx : Words w A n x)
    (hw : ∀ j, j < n → ∀ i, i < 4 → 0 ≤ x j i ∧ x j i < 18446744073709551616) (hn : n ≤ 1000000) :
    Calls Tryd.prog 73 #[.agg (tab 256 .u8 b), .agg (tab 20 .u8 f), .slice A n c] w fun e w' => e = .returned (.bool (allT b x n && hasF b (sumF f 20))) ∧ Below w.heap.size w w' := by
  have hb0 := Lib.hid (show Below w.heap.size w ((w.alloc (.cells (tab 256 .u8 b) 52)).alloc (.cells (tab 20 .u8 f) 61)) from ((Below.refl _ _).alloc (Nat.le_refl _) _).alloc (by simp) _)
  have r0 : rowOf ((w.alloc (.cells (tab 256 .u8 b) 52)).alloc (.cells (tab 20 .u8 f) 61)) w.heap.size = tab 256 .u8 b := (rowOf_alloc_past _ _ _ (by simp)).trans (rowOf_alloc_at _ _ _ _ rfl)
  have u0 : rowOf ((w.alloc (.cells (tab 256 .u8 b) 52)).alloc (.cells (tab 20 .u8 f) 61)) (w.heap.size + 1) = tab 20 .u8 f := rowOf_alloc_at _ _ _ _ (by simp)
  have z0 : w.heap.size + 1 < ((w.alloc (.cells (tab 256 .u8 b) 52)).alloc (.cells (tab 20 .u8 f) 61)).heap.size := by simp
  have hHa := Lib.hid fun (w1 : World) (hb : Below w.heap.size w w1) (g m : Nat) (y : Nat → Int) (hm : m ≤ 32) (hy : ∀ j, j < m → 0 ≤ y j ∧ y j < 256) (hg : g < w1.heap.size) (hr : rowOf w1 g = tab m .u8 y) => has_any b hB (some ⟨g, 0, none⟩) m m y w1 (hK.below hb) (tab_ints hr hg) (Nat.le_refl _) (by omega) hy
  have hx' := Lib.hid hx
  have hf' := Lib.hid hf
  have hw' := Lib.hid hw
  clear hK hx hf hw
  go_enter Tryd.func73, Tryd.ntmps73
  go_wp2
  obtain ⟨w0, hw0⟩ : ∃ W, (w.alloc (.cells (tab 256 .u8 b) 52)).alloc (.cells (tab 20 .u8 f) 61) = W := ⟨_, rfl⟩
  rw [hw0] at hb0 r0 u0 z0 ⊢
  clear hw0
  go_loopw [12] (fun i wr => ∃ k : Nat, k ≤ n ∧ i = .int .i64 k ∧ allT b x k = true ∧ Below w0.heap.size w0 wr) (fun i _ => n - (intOf i).toNat)
  case atStart => exact ⟨0, by omega, rfl, rfl, Below.refl _ _⟩
  case round =>
    obtain ⟨k, hk, rfl, hall, hb⟩ := hrel
    have hb9 := Lib.hid hb
    have hsz9 := hb.size
    have hBr := Lib.hid (hb0.out.trans (hb.mono (by omega)))
    have t1 := (rowOf_below hb (show w.heap.size < _ by omega)).trans r0
    have t2 := (rowOf_below hb z0).trans u0
    have z1 : w.heap.size + 1 < wr.heap.size := by omega
    have hall' := Lib.hid hall
    clear hb r0 u0 hall
    by_cases hlt : k < n
    · obtain ⟨a, rfl, _, hld⟩ := (hx'.out.below (Nat.le_refl _) hBr.out).load hlt
      have hki : (k : Int) < (n : Int) := by omega
      have hwb := Lib.hid fun (w1 : World) => wordBytes_any (x k) (hw'.out k hlt) w1
      have hbd := Lib.hid fun j (_ : j < 32) => bytF_bd (hw'.out k hlt) j
      obtain ⟨E, hE⟩ : ∃ E, hasF b (sumF (bytF (x k)) 32) = E := ⟨_, rfl⟩
      have hs : allT b x (k + 1) = E := by rw [allT, hall'.out, hE]; rfl
      obtain ⟨y, hy⟩ : ∃ y, bytF (x k) = y := ⟨_, rfl⟩
      rw [hy] at hwb hbd hE
      have hE' := Lib.hid hE
      have hs' := Lib.hid hs
      clear hE hs hy
      go_wp2_with (go_at_call 68; refine (hwb.out _).mono ?_; rintro e w3 ⟨rfl, hb3⟩; have hs3 := hb3.size; simp only [World.size_alloc] at hs3; have hB3 := Lib.hid (((Below.refl wr.heap.size wr).alloc (Nat.le_refl _) (.cells (wv (x k)).cells 47)).trans (hb3.mono (by simp))))
      have q1 := (rowOf_below hB3.out (show w.heap.size < _ by omega)).trans t1
      have q3 : w3.heap.size < (w3.alloc (.cells (tab 32 .u8 y) 39)).heap.size := by simp
      have p1 : rowOf (w3.alloc (.cells (tab 32 .u8 y) 39)) w.heap.size = tab 256 .u8 b := (rowOf_alloc_past _ _ _ (by omega)).trans q1
      have p2 : rowOf (w3.alloc (.cells (tab 32 .u8 y) 39)) w3.heap.size = tab 32 .u8 y := rowOf_alloc_at _ _ _ _ rfl
      have hB4 := Lib.hid (hB3.out.alloc (by omega) (.cells (tab 32 .u8 y) 39))
      obtain ⟨X, hX⟩ : ∃ X, w3.heap.size = X := ⟨_, rfl⟩
      rw [hX] at q3 p2 ⊢
      have zX : w.heap.size < X := by omega
      obtain ⟨w4, hw4⟩ : ∃ W, w3.alloc (.cells (tab 32 .u8 y) 39) = W := ⟨_, rfl⟩
      rw [hw4] at q3 p1 p2 hB4 ⊢
      have hC := Lib.hid (hHa.out w4.drew (hBr.out.trans (hB4.out.drew.mono (by omega))) X 32 y (by omega) hbd.out q3 p2)
      rw [hE'.out] at hC
      have hs4 := hB4.out.size
      have z4 : w.heap.size < w4.heap.size := by omega
      clear hX hw4 q1 hb3
      cases E
      all_goals
        first
        | (go_region_with (go_at_call 35; (with_reducible refine hC.out.mono ?_); rintro e w5 ⟨rfl, hb5⟩; have hB5 := Lib.hid (hB4.out.trans (((Below.refl w4.heap.size w4).drew.trans (hb5.mono (by simp))).mono hs4))))
        | fail
      all_goals go_wp2
      all_goals first
        | exact ⟨⟨k + 1, by omega, by go_num, hs'.out, hb9.out.trans (hB5.out.mono (by omega))⟩, by simp [intOf]; omega⟩
        | (go_ret; exact ⟨by rw [allT_false hs'.out (by omega)]; rfl, hBr.out.trans (hB5.out.mono (by omega))⟩)
    · obtain rfl : k = n := by omega
      have hC := Lib.hid (hHa.out wr.drew hBr.out.drew (w.heap.size + 1) 20 f (by omega) hf'.out z1 t2)
      obtain ⟨E, hE⟩ : ∃ E, hasF b (sumF f 20) = E := ⟨_, rfl⟩
      rw [hE] at hC
      have hE' := Lib.hid hE
      clear hE
      go_wp2
      first
      | (go_region_with (go_at_call 35; (with_reducible refine hC.out.mono ?_); rintro e w5 ⟨rfl, hb5⟩; have hB5 := Lib.hid (hBr.out.trans (((Below.refl wr.heap.size wr).drew.trans (hb5.mono (by simp))).mono (by omega)))))
      | fail
      all_goals
        go_wp2
        go_ret
        exact ⟨by rw [hall'.out, hE'.out]; rfl, hB5.out⟩
end Go.Proofs.YtfjigoimjaemmaaDoor
