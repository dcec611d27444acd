/- keccak: the hash of the given program. -/
import Derived.Test.YtfjigoimjaemmaaDoorKecSW
import Derived.Test.YtfjigoimjaemmaaDoorCopyW
namespace Go.Proofs.YtfjigoimjaemmaaDoor
open Go.RowKit
set_option linter.unusedSimpArgs false
set_option linter.unusedVariables false
set_option maxRecDepth 100000

theorem bytesE : IntElem Tryd.prog 29 5 .u8 1 := .mk' Tryd.underlying29 (by kernel_rfl)
/-- the state behind q whole blocks -/
def spK (x : Nat → Int) : Nat → Nat → Int
  | 0 => zf
  | q + 1 => turnF (abX (spK x q) (fun j => x (136 * q + j)) 136)
theorem spK_zero (x : Nat → Int) : spK x 0 = zf := rfl
theorem spK_succ (x : Nat → Int) (q : Nat) : spK x (q + 1) = turnF (abX (spK x q) (fun j => x (136 * q + j)) 136) := rfl
/-- the last block: r bytes of it came in -/
def lastF (y : Nat → Int) (r : Nat) : Nat → Int := upd (upd (ovl zf 0 r y) r 1) 135 (bits .or .u8 (upd (ovl zf 0 r y) r 1 135) 128)
/-- a state's first 32 bytes -/
def outF (s : Nat → Int) (i : Nat) : Int := s (i / 8) / 2 ^ (i % 8 * 8) % 256
/-- the hash of n bytes -/
def sumF (x : Nat → Int) (n : Nat) : Nat → Int := outF (turnF (abX (spK x (n / 136)) (lastF (fun j => x (136 * (n / 136) + j)) (n % 136)) 136))

/-- the memory of a hash: the result's block, the state's -/
def SS (w wr : World) (s : Nat → Int) : Prop :=
  rowFit wr w.heap.size = some 32 ∧ rowOf wr (w.heap.size + 1) = tab 25 .u64 s ∧ rowFit wr (w.heap.size + 1) = some 25 ∧ w.heap.size + 2 ≤ wr.heap.size ∧ Below w.heap.size w wr

theorem or_u8 (a : Int) (h : 0 ≤ a ∧ a < 256) : 0 ≤ bits .or .u8 a 128 ∧ bits .or .u8 a 128 < 256 := by
  obtain ⟨n, rfl⟩ : ∃ n : Nat, a = n := ⟨a.toNat, by omega⟩
  have : ∀ m : Nat, m < 256 → 0 ≤ bits .or .u8 (m : Int) 128 ∧ bits .or .u8 (m : Int) 128 < 256 := by decide +kernel
  exact this n (by omega)
theorem lastF_bd {y : Nat → Int} {r : Nat} (h : ∀ j, j < r → 0 ≤ y j ∧ y j < 256) (j : Nat) : 0 ≤ lastF y r j ∧ lastF y r j < 256 := by
  have h0 : ∀ j, 0 ≤ ovl zf 0 r y j ∧ ovl zf 0 r y j < 256 := by
    intro j; unfold ovl
    by_cases hj : j < r
    · rw [if_pos (by omega)]; exact h _ (by omega)
    · rw [if_neg (by omega)]; exact ⟨Int.le_refl _, by show (0 : Int) < 256; omega⟩
  have h1 : ∀ j, 0 ≤ upd (ovl zf 0 r y) r 1 j ∧ upd (ovl zf 0 r y) r 1 j < 256 := by
    intro j; unfold upd
    split
    · omega
    · exact h0 j
  unfold lastF
  rw [upd.eq_1]
  split
  · exact or_u8 _ (h1 135)
  · exact h1 j

theorem lastF_def (y : Nat → Int) (r : Nat) : lastF y r = upd (upd (ovl zf 0 r y) r 1) 135 (bits .or .u8 (upd (ovl zf 0 r y) r 1 135) 128) := rfl
attribute [local irreducible] abX turnF spK lastF
attribute [local go_sem ↓] Go.wp_at_zero Go.wp_at_succ
set_option maxHeartbeats 2000000 in
theorem sum_any (A : Option Addr) (n c : Nat) (x : Nat → Int) (w : World) (hL : KLaid w) (hx : Ints w .u8 A n x) (hc : n ≤ c) (hn : n ≤ 1000000000) (hxb : ∀ j, j < n → 0 ≤ x j ∧ x j < 256) :
    Calls Tryd.prog 23 #[.slice A n c] w fun e w' => e = .returned (.agg (tab 32 .u8 (sumF x n))) ∧ Below w.heap.size w w' := by
  have hxb' := Lib.hid hxb
  clear hxb
  have hL' := Lib.hid hL
  have hx' := Lib.hid hx
  clear hL hx
  go_enter Tryd.func23, Tryd.ntmps23
  go_wp2
  go_loopw [0] (fun b wr => ∃ (q m c' : Nat) (A' : Option Addr), 136 * q + m = n ∧ b = .slice A' m c' ∧ m ≤ c' ∧ Ints w .u8 A' m (fun j => x (136 * q + j)) ∧ SS w wr (spK x q)) (fun b _ => match b with | .slice _ m _ => m | _ => 0)
  case atStart =>
    refine ⟨0, n, c, A, by omega, rfl, hc, ?_, ?_, ?_, ?_, ?_, ?_⟩
    · have := hx'.out
      intro j hj
      have h2 := this j hj
      simpa using h2
    · simp [go_sem]
    · simp [go_sem, spK_zero]
    · simp [go_sem]
    · simp
    · (repeat' (first | exact Below.refl _ _ | assumption | refine Below.alloc ?_ (by (try simp only [World.size_alloc, World.size_setCell, World.size_drew, setRow_size] at *); first | done | omega) _ | refine Below.setCell ?_ (by (try simp only [World.size_alloc, World.size_setCell, World.size_drew, setRow_size] at *); first | done | omega) _ | refine Below.drew ?_ | refine Below.trans ?_ (Below.mono (by assumption) (by (try simp only [World.size_alloc, World.size_setCell, World.size_drew, setRow_size] at *); first | done | omega)) | refine below_setRow' ?_ (by (try simp only [World.size_alloc, World.size_setCell, World.size_drew, setRow_size] at *); first | done | omega) _))
  case round =>
    obtain ⟨q, m, c', A', hqm, rfl, hmc, hI, hS⟩ := hrel
    have hS' := Lib.hid hS
    obtain ⟨q0, r1, q1, sz, hb⟩ := hS
    by_cases hlt : 136 ≤ m
    · have hIa := hI
      have hLr := Lib.hid (hL'.out.below hb)
      obtain ⟨a, rfl, ha, hca⟩ := hI 0 (by omega)
      clear hca
      have hIw := hIa.below (Nat.le_refl _) hb
      have hIw' := Lib.hid hIw
      have hI' := Lib.hid hIa
      clear hIa hI hIw
      have z1 : (136 : Int) ≤ (m : Int) ∧ (136 : Int) ≤ (c' : Int) := by omega
      have hc0 : ¬ c' = 0 := by omega
      have hsp := spK_succ x q
      have hq' := hqm
      obtain ⟨f, hf⟩ : ∃ f, spK x q = f := ⟨_, rfl⟩
      rw [hf] at r1 hsp
      have hsp' := Lib.hid hsp
      have hbd : ∀ j, j < 136 → 0 ≤ x (136 * q + j) ∧ x (136 * q + j) < 256 := fun j hj => hxb'.out _ (by omega)
      have hbd' := Lib.hid hbd
      have hAb := absorb_any f (some a) 136 c' (fun j => x (136 * q + j)) wr.drew (show KLaid wr from hLr.out) (show Ints wr .u8 (some a) 136 (fun j => x (136 * q + j)) from fun j hj => hIw'.out j (by omega)) (by omega) hbd'.out
      have hAb' := Lib.hid hAb
      clear hf hsp hbd hAb
      go_wp2
      go_region_with (go_at_call 62; refine hAb'.out.mono ?_; rintro e w2 ⟨rfl, hb2⟩; have g0 : rowFit w2 w.heap.size = some 32 := (rowFit_below hb2 (by simp only [World.size_drew]; omega)).trans q0; have g1 : rowFit w2 (w.heap.size + 1) = some 25 := (rowFit_below hb2 (by simp only [World.size_drew]; omega)).trans q1; have gs2 := hb2.size; simp only [World.size_drew] at gs2)
      all_goals go_wp2
      all_goals
        refine ⟨⟨q + 1, m - 136, c' - 136, _, by omega, rfl, by omega, ?_, ?_⟩, ?_⟩
        · intro j hj
          obtain ⟨a2, h1, h2, h3⟩ := hI'.out (136 + j) (by omega)
          obtain rfl := Option.some.inj h1
          rw [if_neg (by omega)]
          refine ⟨a.add 136, rfl, by rw [block_add]; exact h2, ?_⟩
          rw [add_add, h3]
          simp only []
          rw [show 136 * q + (136 + j) = 136 * (q + 1) + j from by omega]
        · refine ⟨?_, ?_, ?_, ?_, ?_⟩
          · rw [rowFit_setRow_other _ _ _ _ (by omega), g0]
          · rw [rowOf_setRow_same _ _ _ (by rw [g1]; rfl), hsp'.out]
          · rw [rowFit_setRow_same _ _ _ (by rw [g1]; rfl), tab_size]
          · rw [setRow_size]; omega
          · simp only [World.size_drew] at hb2
            exact below_setRow' (hb.trans (Below.trans (Below.drew (Below.refl _ _)) (hb2.mono (by have := hb.size; omega)))) (by omega) _
        · show m - 136 < m
          omega
    · have hIw := hI.below (Nat.le_refl _) hb
      obtain ⟨f, hf⟩ : ∃ f, spK x q = f := ⟨_, rfl⟩
      have hLr := Lib.hid (hL'.out.below hb)
      rw [hf] at r1
      have hq : q = n / 136 ∧ m = n % 136 := by omega
      have hsum : sumF x n = outF (turnF (abX f (lastF (fun j => x (136 * q + j)) m) 136)) := by
        unfold sumF; rw [← hq.1, ← hq.2, hf]
      obtain ⟨y, hy⟩ : ∃ y : Nat → Int, (fun j => x (136 * q + j)) = y := ⟨_, rfl⟩
      have hyb : ∀ j, j < m → 0 ≤ y j ∧ y j < 256 := fun j hj => by rw [← hy]; exact hxb'.out _ (by omega)
      rw [hy] at hsum hIw
      have hsum' := Lib.hid hsum
      have hyb' := Lib.hid hyb
      have hIw' := Lib.hid hIw
      clear hsum hyb hIw hy hf hq hI
      have hm0 : (m : Int) < 136 := by omega
      go_wp2_with (first
        | ((refine wpList_copy_tab rfl (.tmp 17) (.tmp 18) 29 29 5 .u8 1 rfl bytesE wr.heap.size 0 136 136 136 zf A' m c' y rfl rfl (rowOf_alloc_at _ _ _ _ rfl) (by rw [rowFit_alloc_at _ _ _ _ rfl, tab_size]) (hIw'.out.below (Nat.le_refl _) (Below.alloc (Below.refl _ _) (Nat.le_refl _) _)) (by omega) ?_; rw [show min m 136 = m from by omega]; intro w3 hr3 hq3 ho3)))
      obtain ⟨G, hG⟩ : ∃ G, wr.heap.size = G := ⟨_, rfl⟩
      have hsA : (wr.alloc (.cells (tab 136 .u8 zf) 123)).heap.size = wr.heap.size + 1 := World.size_alloc _ _
      have hB3 : Below wr.heap.size wr w3 := Below.trans (Below.alloc (Below.refl _ _) (Nat.le_refl _) _) (ho3.below (by omega) (fun b hb => Nat.le_of_eq hb.symm))
      have hs3 := ho3.size
      rw [hsA] at hs3
      rw [hG] at hr3 hq3 hs3 hB3 ⊢
      obtain ⟨W4, hW4⟩ : ∃ W4, (w3.setCell ⟨G, m, none⟩ (.int .u8 1)).setCell ⟨G, 135, none⟩ (.int .u8 (bits .or .u8 (upd (ovl zf 0 m y) m 1 135) 128)) = W4 := ⟨_, rfl⟩
      have hB4 : Below G wr W4 := by
        rw [← hW4]
        exact (hB3.setCell (by simp) _).setCell (by simp) _
      have hR4 : rowOf W4 G = tab 136 .u8 (lastF y m) := by
        rw [← hW4, rowOf_setCell_same, rowOf_setCell_same, hr3, tab_set, tab_set, lastF_def]
      have hs4 : G < W4.heap.size := by rw [← hW4, World.size_setCell, World.size_setCell]; omega
      rw [hW4]
      have r4 : rowOf W4 (w.heap.size + 1) = tab 25 .u64 f := (rowOf_below hB4 (by omega)).trans r1
      have p0 : rowFit W4 w.heap.size = some 32 := (rowFit_below hB4 (by omega)).trans q0
      have p1 : rowFit W4 (w.heap.size + 1) = some 25 := (rowFit_below hB4 (by omega)).trans q1
      have hb4 : Below w.heap.size w W4 := hb.trans (hB4.mono (by omega))
      have hAb := absorb_any f (some ⟨G, 0, none⟩) 136 136 (lastF y m) W4.drew (show KLaid W4 from hLr.out.below (by rw [hG]; exact hB4)) (show Ints W4 .u8 (some ⟨G, 0, none⟩) 136 (lastF y m) from fun j hj => ⟨⟨G, 0, none⟩, rfl, hs4, by rw [Addr.add_lit, cell_of_rowOf, Nat.zero_add, hR4, tab_get, if_pos hj]⟩) (by omega) (fun j _ => lastF_bd hyb'.out j)
      have hAb' := Lib.hid hAb
      have szG : w.heap.size + 2 ≤ G := by omega
      clear hAb hR4 hB4 hW4 hB3 hs3 hr3 hq3 ho3 hsA r1 q0 q1 hIw' hS' sz
      go_region_with (go_at_call 62; refine hAb'.out.mono ?_; rintro e w5 ⟨rfl, hb5⟩; have g0 : rowFit w5 w.heap.size = some 32 := (rowFit_below hb5 (by simp only [World.size_drew]; omega)).trans p0; have g1 : rowFit w5 (w.heap.size + 1) = some 25 := (rowFit_below hb5 (by simp only [World.size_drew]; omega)).trans p1; have gs5 := hb5.size; simp only [World.size_drew] at gs5; simp only [World.size_drew] at hb5; have hb6 : Below w.heap.size w w5 := hb4.trans (Below.trans (Below.drew (Below.refl _ _)) (hb5.mono (by have := hb4.size; omega))))
      all_goals go_wp2
      all_goals
        obtain ⟨S, hS⟩ : ∃ S, turnF (abX f (lastF y m) 136) = S := ⟨_, rfl⟩
        have hsum2 := hsum'.out
        rw [hS] at hsum2 ⊢
        have hsum3 := Lib.hid hsum2
        obtain ⟨H, hH⟩ : ∃ H, w5.heap.size = H := ⟨_, rfl⟩
        have hT : ∃ wr, wr = (w5.setRow (w.heap.size + 1) (tab 25 .u64 S)).alloc (.cells (tab 32 .u8 zf) 40) ∧ rowFit wr w.heap.size = some 32 ∧ rowOf wr (w.heap.size + 1) = tab 25 .u64 S ∧ rowOf wr H = tab 32 .u8 (upK (outF S) 0) ∧ rowFit wr H = some 32 ∧ H < wr.heap.size ∧ w.heap.size + 2 ≤ H ∧ Below w.heap.size w wr := by
          have hz5 : (w5.setRow (w.heap.size + 1) (tab 25 .u64 S)).heap.size = H := by rw [setRow_size, hH]
          refine ⟨_, rfl, ?_, ?_, ?_, ?_, ?_, ?_, ?_⟩
          · rw [rowFit_alloc_past _ _ _ (by omega), rowFit_setRow_other _ _ _ _ (by omega), g0]
          · rw [rowOf_alloc_past _ _ _ (by omega), rowOf_setRow_same _ _ _ (by rw [g1]; rfl)]
          · rw [rowOf_alloc_at _ _ _ _ hz5.symm, upK_zero]
          · rw [rowFit_alloc_at _ _ _ _ hz5.symm, tab_size]
          · rw [World.size_alloc]; omega
          · omega
          · exact (below_setRow' hb6 (by omega) _).alloc (by omega) _
        obtain ⟨wr2, hwr2, hT'⟩ := hT
        rw [← hwr2, hH]
        clear hwr2 hsum2 hsum' hAb' hb5 hb6 g0 g1 gs5 hH hS hb4 p0 p1 r4 hs4 hb hLr
        go_loopw [29] (fun i wr => ∃ n : Nat, n ≤ 32 ∧ i = .int .i64 n ∧ rowFit wr w.heap.size = some 32 ∧ rowOf wr (w.heap.size + 1) = tab 25 .u64 S ∧ rowOf wr H = tab 32 .u8 (upK (outF S) n) ∧ rowFit wr H = some 32 ∧ H < wr.heap.size ∧ w.heap.size + 2 ≤ H ∧ Below w.heap.size w wr) (fun i _ => 32 - (intOf i).toNat)
        case atStart => exact ⟨0, by omega, rfl, hT'⟩
        case round =>
          obtain ⟨n, hn32, rfl, q0, r1, rH, qH, sH, s2, hb⟩ := hrel
          clear hT'
          by_cases hlt : n < 32
          · have hout : outF S n = S (n / 8) / 2 ^ (n % 8 * 8) % 256 := rfl
            have e8 : (n : Int).tmod 8 = ((n % 8 : Nat) : Int) := by rw [Int.tmod_eq_emod_of_nonneg (by omega)]; omega
            have e9 : (n : Int).tdiv 8 = ((n / 8 : Nat) : Int) := by rw [Int.tdiv_eq_ediv_of_nonneg (by omega)]; omega
            have e8' : (n : Int) % 8 = ((n % 8 : Nat) : Int) := by omega
            have e9' : (n : Int) / 8 = ((n / 8 : Nat) : Int) := by omega
            obtain ⟨q, hq⟩ : ∃ q, n / 8 = q := ⟨_, rfl⟩
            obtain ⟨r, hr⟩ : ∃ r, n % 8 = r := ⟨_, rfl⟩
            rw [hq] at hout e9 e9'
            rw [hr] at hout e8 e8'
            have hq5 : q < 25 ∧ (q : Int) < 25 ∧ (0 : Int) ≤ q := by omega
            have hr5 : r < 8 ∧ (r : Int) < 8 ∧ (0 : Int) ≤ r := by omega
            have k1 : IntKind.i64.wrap ((r : Int) * 8) = r * 8 := i64w (by omega) (by omega)
            have k2 : (0 : Int) ≤ (r : Int) * 8 := by omega
            have hout' := Lib.hid hout
            clear hout hq hr
            go_wp2
            refine ⟨⟨n + 1, by omega, by go_num, ?_, ?_, ?_, ?_, ?_, s2, ?_⟩, by simp [intOf]; omega⟩
            · rw [rowFit_setCell, q0]
            · rw [rowOf_setCell_other _ _ _ _ (by simp; omega), r1]
            · rw [rowOf_setCell_same, rH, tab_set, upK_succ (outF S) n _ hout'.out.symm]
            · rw [rowFit_setCell, qH]
            · rw [World.size_setCell]; exact sH
            · exact hb.setCell (by simp; omega) _
          · have hn5 : n = 32 := by omega
            rw [hn5, upK_tab] at rH
            clear hn5
            go_wp2
            refine bodyPost_ret (res_hash Tryd.results23 _ _ _ (tab 32 .u8 (outF S)) rfl (by rw [rowOf_setRow_same _ _ _ (by rw [q0]; rfl)]) (by simp [go_sem])) rfl ⟨by rw [hsum3.out], ?_⟩
            exact below_setRow' hb (by omega) _
end Go.Proofs.YtfjigoimjaemmaaDoor
