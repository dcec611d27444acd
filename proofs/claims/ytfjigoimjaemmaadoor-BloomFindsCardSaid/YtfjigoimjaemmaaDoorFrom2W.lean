/- words out of bytes: the walks of the reference's From and Word. -/
import Derived.Test.YtfjigoimjaemmaaDoorFromW
import Derived.BigRegion
import Derived.Test.YtfjigoimjaemmaaDoorCopyW
import Derived.Deep.RegionHeld3
import Derived.Deep.DrawnRows
namespace Go.Proofs.YtfjigoimjaemmaaDoor
open Go.RowKit
set_option linter.unusedSimpArgs false
set_option linter.unusedVariables false
set_option maxRecDepth 100000
attribute [local go_sem ↓] Go.wp_at_zero Go.wp_at_succ

/-- f up to k, noughts behind -/
def upD (f : Nat → Int) (k : Nat) : Nat → Int := fun j => if j < k then f j else 0

set_option maxHeartbeats 1000000 in
theorem refFrom_any (A : Option Addr) (m c : Nat) (x : Nat → Int) (w : World) (hx : Ints w .u8 A m x) (hm : m ≤ 1000000000) (hxb : ∀ j, j < m → 0 ≤ x j ∧ x j < 256) :
    Calls Tryd.prog 65 #[.slice A m c] w fun e w' => e = .returned (.agg (tab 32 .i64 (dgF x m))) ∧ Below w.heap.size w w' := by
  have hx' := Lib.hid hx
  have hxb' := Lib.hid hxb
  clear hx hxb
  go_enter Tryd.func65, Tryd.ntmps65
  go_wp2
  go_loopw [4] (fun i wr => ∃ k : Nat, k ≤ 32 ∧ k ≤ m ∧ i = .int .i64 k ∧ rowFit wr w.heap.size = some 32 ∧ rowOf wr (w.heap.size + 1) = tab 32 .i64 (upD (dgF x m) k) ∧ rowFit wr (w.heap.size + 1) = some 32 ∧ w.heap.size + 2 ≤ wr.heap.size ∧ Below w.heap.size w wr) (fun i _ => 32 - (intOf i).toNat)
  case atStart =>
    refine ⟨0, by omega, by omega, rfl, ?_, ?_, ?_, ?_, ?_⟩
    · simp [go_sem]
    · simp only [rowOf_alloc_at _ _ _ _ (show w.heap.size + 1 = (w.alloc _).heap.size from by simp)]
      exact tab_ext fun i hi => by simp [upD, zf]
    · simp [go_sem]
    · simp
    · (repeat' (first | exact Below.refl _ _ | assumption | refine Below.alloc ?_ (by (try simp only [World.size_alloc, World.size_setCell, World.size_drew, setRow_size] at *); first | done | omega) _ | refine Below.setCell ?_ (by (try simp only [World.size_alloc, World.size_setCell, World.size_drew, setRow_size] at *); first | done | omega) _ | refine Below.drew ?_ | refine Below.trans ?_ (Below.mono (by assumption) (by (try simp only [World.size_alloc, World.size_setCell, World.size_drew, setRow_size] at *); first | done | omega)) | refine below_setRow' ?_ (by (try simp only [World.size_alloc, World.size_setCell, World.size_drew, setRow_size] at *); first | done | omega) _))
  case round =>
    obtain ⟨k, hk, hkm, rfl, q0, r1, q1, sz, hb⟩ := hrel
    by_cases hlt : k < 32
    · by_cases hlm : k < m
      · obtain ⟨a, rfl, ha, hc⟩ := hx'.out.below (Nat.le_refl _) hb (m - 1 - k) (by omega)
        have hv := hxb'.out (m - 1 - k) (by omega)
        have hdg : dgF x m k = x (m - 1 - k) := by unfold dgF; rw [if_pos hlm]
        obtain ⟨p, hp⟩ : ∃ p, m - 1 - k = p := ⟨_, rfl⟩
        rw [hp] at hc hv hdg
        have hp1 : (m : Int) - 1 - (k : Int) = (p : Int) := by omega
        have w1 : IntKind.i64.wrap ((m : Int) - 1) = m - 1 := i64w (by omega) (by omega)
        have w2 : IntKind.i64.wrap ((p : Int)) = p := i64w (by omega) (by omega)
        have hp2 : (0 : Int) ≤ (p : Int) ∧ (p : Int) < (m : Int) := by omega
        have hk2 : (k : Int) < 32 ∧ (k : Int) < (m : Int) := by omega
        have hdg' := Lib.hid hdg
        clear hp hdg
        go_wp2
        refine ⟨⟨k + 1, by omega, by omega, by go_num, ?_, ?_, ?_, ?_, ?_⟩, by simp [intOf]; omega⟩
        · rw [rowFit_setCell, q0]
        · rw [rowOf_setCell_same, r1, tab_set]
          refine tab_ext fun i hi => ?_
          unfold upd upD
          by_cases h1 : i = k
          · rw [if_pos h1, if_pos (by omega), h1, hdg'.out]
          · by_cases h2 : i < k
            · rw [if_neg h1, if_pos h2, if_pos (by omega)]
            · rw [if_neg h1, if_neg h2, if_neg (by omega)]
        · rw [rowFit_setCell, q1]
        · rw [World.size_setCell]; exact sz
        · exact hb.setCell (by simp) _
      · have hkm2 : k = m := by omega
        have hfin : tab 32 .i64 (upD (dgF x m) k) = tab 32 .i64 (dgF x m) := tab_ext fun i hi => by
          unfold upD dgF; rw [hkm2]; split <;> rfl
        rw [hfin] at r1
        clear hfin hkm2
        go_wp2
        refine bodyPost_ret (res_dig Tryd.results65 _ _ _ (tab 32 .i64 (dgF x m)) rfl (by rw [rowOf_setRow_same _ _ _ (by rw [q0]; rfl)]) (by simp [go_sem])) rfl ⟨rfl, ?_⟩
        exact below_setRow' hb (by omega) _
    · have hk32 : k = 32 := by omega
      have hfin : tab 32 .i64 (upD (dgF x m) k) = tab 32 .i64 (dgF x m) := tab_ext fun i hi => by
        unfold upD; rw [if_pos (by omega)]
      rw [hfin] at r1
      clear hfin hk32
      go_wp2
      refine bodyPost_ret (res_dig Tryd.results65 _ _ _ (tab 32 .i64 (dgF x m)) rfl (by rw [rowOf_setRow_same _ _ _ (by rw [q0]; rfl)]) (by simp [go_sem])) rfl ⟨rfl, ?_⟩
      exact below_setRow' hb (by omega) _

/-- the lanes when t digits, from above, have been taken -/
def dwF (d : Nat → Int) (t : Nat) (j : Nat) : Int := hW d j (min 8 (t - 8 * (3 - j)))

set_option maxHeartbeats 1000000 in
theorem refWord_any (d : Nat → Int) (hd : ∀ i, i < 32 → 0 ≤ d i ∧ d i < 256) (w : World) :
    Calls Tryd.prog 66 #[.agg (tab 32 .i64 d)] w fun e w' => e = .returned (wv (wdF d)) ∧ Below w.heap.size w w' := by
  have hd' := Lib.hid hd
  clear hd
  go_enter Tryd.func66, Tryd.ntmps66
  go_wp2
  go_loopw [4] (fun i wr => ∃ t : Nat, t ≤ 32 ∧ i = .int .i64 (31 - (t : Int)) ∧ rowOf wr w.heap.size = tab 32 .i64 d ∧ rowFit wr (w.heap.size + 1) = some 4 ∧ rowOf wr (w.heap.size + 1 + 1) = tab 4 .u64 (dwF d t) ∧ rowFit wr (w.heap.size + 1 + 1) = some 4 ∧ w.heap.size + 3 ≤ wr.heap.size ∧ Below w.heap.size w wr) (fun i _ => (intOf i + 1).toNat)
  case atStart =>
    refine ⟨0, by omega, rfl, ?_, ?_, ?_, ?_, ?_, ?_⟩
    · simp [go_sem]
    · simp [go_sem]
    · rw [rowOf_alloc_at _ _ _ _ (by simp)]
      exact tab_ext fun i hi => by
        unfold dwF
        rw [show min 8 (0 - 8 * (3 - i)) = 0 from by omega]
        rcases i with _ | _ | _ | _ | i <;> first | rfl | omega
    · simp [go_sem]
    · simp
    · (repeat' (first | exact Below.refl _ _ | assumption | refine Below.alloc ?_ (by (try simp only [World.size_alloc, World.size_setCell, World.size_drew, setRow_size] at *); first | done | omega) _ | refine Below.setCell ?_ (by (try simp only [World.size_alloc, World.size_setCell, World.size_drew, setRow_size] at *); first | done | omega) _ | refine Below.drew ?_ | refine Below.trans ?_ (Below.mono (by assumption) (by (try simp only [World.size_alloc, World.size_setCell, World.size_drew, setRow_size] at *); first | done | omega)) | refine below_setRow' ?_ (by (try simp only [World.size_alloc, World.size_setCell, World.size_drew, setRow_size] at *); first | done | omega) _))
  case round =>
    obtain ⟨t, ht, rfl, r0, q1, r2, q2, sz, hb⟩ := hrel
    by_cases hlt : t < 32
    · have hv := hd'.out (31 - t) (by omega)
      obtain ⟨p, hp⟩ : ∃ p, 31 - t = p := ⟨_, rfl⟩
      rw [show (31 : Int) - (t : Int) = (p : Int) from by omega]
      have hstep : ∀ j, j < 4 → dwF d (t + 1) j = upd (dwF d t) (p / 8) (dwF d t (p / 8) * 256 + d p) j := by
        intro j hj
        unfold upd dwF
        by_cases h1 : j = p / 8
        · rw [if_pos h1, ← h1]
          obtain ⟨k, hk⟩ : ∃ k, min 8 (t - 8 * (3 - j)) = k := ⟨_, rfl⟩
          rw [show min 8 (t + 1 - 8 * (3 - j)) = k + 1 from by omega, hk]
          simp only [hW]
          rw [show 8 * j + (7 - k) = p from by omega]
        · rw [if_neg h1]
          rw [show min 8 (t + 1 - 8 * (3 - j)) = min 8 (t - 8 * (3 - j)) from by omega]
      have hbd : 0 ≤ dwF d t (p / 8) ∧ dwF d t (p / 8) < 72057594037927936 := by
        unfold dwF
        have h := hW_bd hd'.out (show p / 8 < 4 by omega) (min 8 (t - 8 * (3 - p / 8))) (by omega)
        refine ⟨h.1, Int.lt_of_lt_of_le h.2 ?_⟩
        have h7 : 8 * min 8 (t - 8 * (3 - p / 8)) ≤ 56 := by omega
        have := Nat.pow_le_pow_right (n := 2) (by omega) h7
        rw [show ((2 : Int) ^ (8 * min 8 (t - 8 * (3 - p / 8)))) = ((2 ^ (8 * min 8 (t - 8 * (3 - p / 8))) : Nat) : Int) from by simp]
        omega
      have hstep' := Lib.hid (tab_ext (k := .u64) hstep)
      clear hstep
      obtain ⟨f, hf⟩ : ∃ f, dwF d t = f := ⟨_, rfl⟩
      rw [hf] at r2 hbd hstep'
      rw [hp] at hv
      obtain ⟨q, hq⟩ : ∃ q, p / 8 = q := ⟨_, rfl⟩
      have e9 : (p : Int).tdiv 8 = (q : Int) := by rw [Int.tdiv_eq_ediv_of_nonneg (by omega)]; omega
      have e9' : (p : Int) / 8 = (q : Int) := by omega
      rw [hq] at hbd hstep'
      have hp5 : p < 32 ∧ (p : Int) < 32 ∧ (0 : Int) ≤ p := by omega
      have hq5 : q < 4 ∧ (q : Int) < 4 ∧ (0 : Int) ≤ q := by omega
      have k1 : IntKind.u64.wrap (f q * 256) = f q * 256 := u64w (by omega) (by omega)
      have k2 : IntKind.u64.wrap (d p) = d p := u64w (by omega) (by omega)
      have k3 : IntKind.u64.wrap (f q * 256 + d p) = f q * 256 + d p := u64w (by omega) (by omega)
      have hpt := Lib.hid hp
      clear hf hq hp
      go_wp2
      go_region
      all_goals go_wp2
      refine ⟨⟨t + 1, by omega, by have := hpt.out; simp only [Value.int.injEq, true_and]; omega, ?_, ?_, ?_, ?_, ?_, ?_⟩, by simp [intOf]⟩
      · rw [rowOf_drew, rowOf_setCell_other _ _ _ _ (by simp; omega), r0]
      · rw [rowFit_drew, rowFit_setCell, q1]
      · rw [rowOf_drew, rowOf_setCell_same, r2, tab_set, hstep'.out]
      · rw [rowFit_drew, rowFit_setCell, q2]
      · rw [World.size_drew, World.size_setCell]; exact sz
      · exact (hb.setCell (by simp; omega) _).drew
    · have ht32 : t = 32 := by omega
      have hfin : tab 4 .u64 (dwF d t) = tab 4 .u64 (wdF d) := tab_ext fun i hi => by
        unfold dwF wdF; rw [show min 8 (t - 8 * (3 - i)) = 8 from by omega]
      rw [hfin] at r2
      rw [show (31 : Int) - (t : Int) = -1 from by omega]
      clear hfin ht32
      go_wp2
      refine bodyPost_ret (res_word Tryd.results66 _ _ _ (tab 4 .u64 (wdF d)) rfl (by rw [rowOf_setRow_same _ _ _ (by rw [q1]; rfl)]) (by rw [tab_size])) rfl ⟨rfl, ?_⟩
      exact below_setRow' hb (by omega) _

/-- the lanes when lane i has k digits, from below -/
def luF (d : Nat → Int) (i k : Nat) (j : Nat) : Int := if j < i then wdF d j else if j = i then lW d i k else 0

theorem bytesElem2 : IntElem Tryd.prog 29 5 .u8 1 := .mk' Tryd.underlying29 (by kernel_rfl)
set_option maxHeartbeats 2000000 in
theorem wordFrom_any (A : Option Addr) (m c : Nat) (x : Nat → Int) (w : World) (hx : Ints w .u8 A m x) (hm : m ≤ 32) (hxb : ∀ j, j < m → 0 ≤ x j ∧ x j < 256) :
    Calls Tryd.prog 64 #[.slice A m c] w fun e w' => e = .returned (wv (wdF (dgF x m))) ∧ Below w.heap.size w w' := by
  have hd : ∀ i, i < 32 → 0 ≤ dgF x m i ∧ dgF x m i < 256 := fun i hi => by
    unfold dgF; split
    · exact hxb _ (by omega)
    · omega
  have hd' := Lib.hid hd
  have hx' := Lib.hid hx
  clear hx hxb hd
  have k1 : (32 : Int) - (m : Int) = ((32 - m : Nat) : Int) := by omega
  obtain ⟨o, ho⟩ : ∃ o, 32 - m = o := ⟨_, rfl⟩
  rw [ho] at k1
  have k2 : IntKind.i64.wrap (o : Int) = o := i64w (by omega) (by omega)
  have k3 : (0 : Int) ≤ (o : Int) ∧ (o : Int) ≤ 32 ∧ (m : Int) ≤ 32 := by omega
  have hB0 : Below w.heap.size w ((w.alloc (.cells (tab 4 .u64 (fn4 0 0 0 0)) 47)).alloc (.cells (tab 32 .u8 zf) 39)) := by (repeat' (first | exact Below.refl _ _ | assumption | refine Below.alloc ?_ (by (try simp only [World.size_alloc, World.size_setCell, World.size_drew, setRow_size] at *); first | done | omega) _ | refine Below.setCell ?_ (by (try simp only [World.size_alloc, World.size_setCell, World.size_drew, setRow_size] at *); first | done | omega) _ | refine Below.drew ?_ | refine Below.trans ?_ (Below.mono (by assumption) (by (try simp only [World.size_alloc, World.size_setCell, World.size_drew, setRow_size] at *); first | done | omega)) | refine below_setRow' ?_ (by (try simp only [World.size_alloc, World.size_setCell, World.size_drew, setRow_size] at *); first | done | omega) _))
  have hI2 := hx'.out.below (Nat.le_refl _) hB0
  have hR2 : rowOf ((w.alloc (.cells (tab 4 .u64 (fn4 0 0 0 0)) 47)).alloc (.cells (tab 32 .u8 zf) 39)) (w.heap.size + 1) = tab 32 .u8 zf := by simp [go_sem]
  have hQ2 : rowFit ((w.alloc (.cells (tab 4 .u64 (fn4 0 0 0 0)) 47)).alloc (.cells (tab 32 .u8 zf) 39)) (w.heap.size + 1) = some 32 := by simp [go_sem]
  have hQ3 : rowFit ((w.alloc (.cells (tab 4 .u64 (fn4 0 0 0 0)) 47)).alloc (.cells (tab 32 .u8 zf) 39)) w.heap.size = some 4 := by simp [go_sem]
  have hI2' := Lib.hid hI2
  have hR2' := Lib.hid hR2
  have hQ2' := Lib.hid hQ2
  have hQ3' := Lib.hid hQ3
  have hB0' := Lib.hid hB0
  have hov : ∀ dL, (m = 0 ∧ dL = 0) ∨ dL = m → tab 32 .u8 (ovl zf (if m = 0 then 0 else o) (min m dL) x) = tab 32 .u8 (fun p => dgF x m (31 - p)) := by
    intro dL h
    refine tab_ext fun p hp => ?_
    unfold ovl dgF zf
    by_cases h0 : m = 0
    · rw [if_neg (by omega), if_neg (by omega)]
    · rw [if_neg h0]
      by_cases h1 : 31 - p < m
      · rw [if_pos (by omega), if_pos h1, show m - 1 - (31 - p) = p - o from by omega]
      · rw [if_neg (by omega), if_neg h1]
  have hov' := Lib.hid hov
  clear hB0 hI2 hR2 hQ2 hQ3 hov
  by_cases hm0 : m = 0
  all_goals
    have hom : (32 = o) = (m = 0) := by simp only [eq_iff_iff]; omega
    have hoo : 32 - o = m := by omega
    go_enter Tryd.func64, Tryd.ntmps64
    go_wp2_with (first
      | (refine wpList_copy_tab rfl (.tmp 18) (.tmp 19) 29 29 5 .u8 1 rfl bytesElem2 (w.heap.size + 1) 0 32 0 0 zf A m c x rfl rfl hR2'.out hQ2'.out hI2'.out (by omega) ?_; intro w3 hr3 hq3 ho3)
      | (refine wpList_copy_tab rfl (.tmp 18) (.tmp 19) 29 29 5 .u8 1 rfl bytesElem2 (w.heap.size + 1) o 32 m m zf A m c x rfl rfl hR2'.out hQ2'.out hI2'.out (by omega) ?_; intro w3 hr3 hq3 ho3))
    have hA : rowOf w3 (w.heap.size + 1) = tab 32 .u8 (fun p => dgF x m (31 - p)) := by
      first
        | (rw [hr3]; have h := hov'.out 0 (.inl ⟨hm0, rfl⟩); rw [if_pos hm0] at h; exact h)
        | (rw [hr3]; have h := hov'.out m (.inr rfl); rw [if_neg hm0] at h; exact h)
    have hs2 : ((w.alloc (.cells (tab 4 .u64 (fn4 0 0 0 0)) 47)).alloc (.cells (tab 32 .u8 zf) 39)).heap.size = w.heap.size + 2 := by simp
    have hB3 : Below w.heap.size w w3 := hB0'.out.trans (ho3.below (by omega) (fun b hb => by rw [show b = w.heap.size + 1 from hb]; omega))
    have hQ4 : rowFit w3 w.heap.size = some 4 := (ho3.rowFit (by omega) (by omega)).trans hQ3'.out
    have hs3 := ho3.size
    obtain ⟨G, hG⟩ : ∃ G, w3.heap.size = G := ⟨_, rfl⟩
    obtain ⟨d, hdd⟩ : ∃ d, dgF x m = d := ⟨_, rfl⟩
    have hdn := hd'.out
    rw [hdd] at hA hdn
    have hdd' := Lib.hid hdd
    have hdn' := Lib.hid hdn
    have hst : rowFit (w3.alloc (.cells (tab 4 .u64 (fn4 0 0 0 0)) 47)) w.heap.size = some 4 ∧ rowOf (w3.alloc (.cells (tab 4 .u64 (fn4 0 0 0 0)) 47)) (w.heap.size + 1) = tab 32 .u8 (fun p => d (31 - p)) ∧ rowOf (w3.alloc (.cells (tab 4 .u64 (fn4 0 0 0 0)) 47)) G = tab 4 .u64 (luF d 0 0) ∧ rowFit (w3.alloc (.cells (tab 4 .u64 (fn4 0 0 0 0)) 47)) G = some 4 ∧ G < (w3.alloc (.cells (tab 4 .u64 (fn4 0 0 0 0)) 47)).heap.size ∧ w.heap.size + 2 ≤ G ∧ Below w.heap.size w (w3.alloc (.cells (tab 4 .u64 (fn4 0 0 0 0)) 47)) := by
      refine ⟨by rw [rowFit_alloc_past _ _ _ (by omega), hQ4], by rw [rowOf_alloc_past _ _ _ (by omega), hA], ?_, by rw [rowFit_alloc_at _ _ _ _ hG.symm, tab_size], by rw [World.size_alloc]; omega, by omega, hB3.alloc (by omega) _⟩
      rw [rowOf_alloc_at _ _ _ _ hG.symm]
      exact tab_ext fun j hj => by
        unfold luF
        rcases j with _ | _ | _ | _ | j <;> first | rfl | omega
    rw [hG]
    clear hA hB3 hQ4 hs3 hs2 hG hdd hdn hr3 hq3 ho3 hB0' hI2' hR2' hQ2' hQ3' hov' hoo hom k1 k2 k3 ho
    go_loopw [21] (fun t wr => ∃ i : Nat, i ≤ 4 ∧ t = .int .i64 i ∧ rowFit wr w.heap.size = some 4 ∧ rowOf wr (w.heap.size + 1) = tab 32 .u8 (fun p => d (31 - p)) ∧ rowOf wr G = tab 4 .u64 (luF d i 0) ∧ rowFit wr G = some 4 ∧ G < wr.heap.size ∧ w.heap.size + 2 ≤ G ∧ Below w.heap.size w wr) (fun t _ => 4 - (intOf t).toNat)
    case atStart => exact ⟨0, by omega, rfl, hst⟩
    case round =>
      obtain ⟨i, hi, rfl, hst2⟩ := hrel
      clear hst
      by_cases hlt : i < 4
      · go_wp2
        rw [show decide ((i : Int) < 4) = true from by simp; omega]
        go_loopw [24] (fun t wr => ∃ k : Nat, k ≤ 8 ∧ t = .int .i64 k ∧ rowFit wr w.heap.size = some 4 ∧ rowOf wr (w.heap.size + 1) = tab 32 .u8 (fun p => d (31 - p)) ∧ rowOf wr G = tab 4 .u64 (luF d i k) ∧ rowFit wr G = some 4 ∧ G < wr.heap.size ∧ w.heap.size + 2 ≤ G ∧ Below w.heap.size w wr) (fun t _ => 8 - (intOf t).toNat)
        case atStart => exact ⟨0, by omega, rfl, hst2⟩
        case round =>
          obtain ⟨k, hk, rfl, q0, rA, rG, qG, sG, s2, hb⟩ := hrel
          clear hst2
          by_cases hlk : k < 8
          · have hor := or_low (lW d i k) (d (8 * i + k)) k hlk (lW_bd hdn'.out hlt k hk) (hdn'.out _ (by omega))
            rw [Nat.mul_comm k 8] at hor
            have hl1 : luF d i k i = lW d i k := by unfold luF; rw [if_neg (by omega), if_pos rfl]
            have hstep : tab 4 .u64 (upd (luF d i k) i (lW d i k + d (8 * i + k) * 2 ^ (8 * k))) = tab 4 .u64 (luF d i (k + 1)) := tab_ext fun j hj => by
              unfold upd luF
              by_cases h1 : j = i
              · rw [if_pos h1, if_neg (by omega), if_pos h1]; rfl
              · rw [if_neg h1, if_neg h1, if_neg h1]
            have hv := hdn'.out (8 * i + k) (by omega)
            have hp1 : (31 : Int) - 8 * (i : Int) - (k : Int) = ((31 - (8 * i + k) : Nat) : Int) := by omega
            have hp3 : d (31 - (31 - (8 * i + k))) = d (8 * i + k) := by rw [show 31 - (31 - (8 * i + k)) = 8 * i + k from by omega]
            obtain ⟨p, hp⟩ : ∃ p, 31 - (8 * i + k) = p := ⟨_, rfl⟩
            rw [hp] at hp1 hp3
            obtain ⟨v, hv'⟩ : ∃ v, d (8 * i + k) = v := ⟨_, rfl⟩
            rw [hv'] at hp3 hv hor hstep
            obtain ⟨f, hf⟩ : ∃ f, luF d i k = f := ⟨_, rfl⟩
            rw [hf] at rG hl1 hstep
            rw [← hl1] at hor hstep
            have hi5 : i < 4 ∧ (i : Int) < 4 ∧ (0 : Int) ≤ i := by omega
            have hk5 : k < 8 ∧ (k : Int) < 8 ∧ (0 : Int) ≤ k := by omega
            have hp5 : p < 32 ∧ (p : Int) < 32 ∧ (0 : Int) ≤ p := by omega
            have w1 : IntKind.i64.wrap (8 * (i : Int)) = 8 * i := i64w (by omega) (by omega)
            have w2 : IntKind.i64.wrap (31 - 8 * (i : Int)) = 31 - 8 * i := i64w (by omega) (by omega)
            have w3 : IntKind.i64.wrap ((p : Int)) = p := i64w (by omega) (by omega)
            have w4 : IntKind.i64.wrap (8 * (k : Int)) = 8 * k := i64w (by omega) (by omega)
            have w5 : (0 : Int) ≤ 8 * (k : Int) := by omega
            have hor' := Lib.hid hor
            have hstep' := Lib.hid hstep
            clear hor hstep hl1 hf hv' hp
            go_wp2
            go_region
            all_goals go_wp2
            refine ⟨⟨k + 1, by omega, by go_num, ?_, ?_, ?_, ?_, ?_, s2, ?_⟩, by simp [intOf]; omega⟩
            · rw [rowFit_drew, rowFit_setCell, q0]
            · rw [rowOf_drew, rowOf_setCell_other _ _ _ _ (by simp; omega), rA]
            · rw [rowOf_drew, rowOf_setCell_same, rG, tab_set, hor'.out, hstep'.out]
            · rw [rowFit_drew, rowFit_setCell, qG]
            · rw [World.size_drew, World.size_setCell]; exact sG
            · exact (hb.setCell (by simp; omega) _).drew
          · have hk8 : k = 8 := by omega
            have hfin : tab 4 .u64 (luF d i k) = tab 4 .u64 (luF d (i + 1) 0) := tab_ext fun j hj => by
              unfold luF
              rw [hk8]
              by_cases h1 : j < i
              · rw [if_pos h1, if_pos (by omega)]
              · by_cases h2 : j = i
                · rw [if_neg h1, if_pos h2, if_pos (by omega), h2, lW_hW]
                · rw [if_neg h1, if_neg h2, if_neg (by omega)]
                  split <;> rfl
            rw [hfin] at rG
            clear hfin hk8
            go_wp2
            exact ⟨⟨i + 1, by omega, by go_num, q0, rA, rG, qG, sG, s2, hb⟩, by simp [intOf]; omega⟩
      · have hi4 : i = 4 := by omega
        obtain ⟨q0, rA, rG, qG, sG, s2, hb⟩ := hst2
        have hfin : tab 4 .u64 (luF d i 0) = tab 4 .u64 (wdF d) := tab_ext fun j hj => by
          unfold luF; rw [if_pos (by omega)]
        rw [hfin] at rG
        clear hfin hi4
        go_wp2
        refine bodyPost_ret (res_word Tryd.results64 _ _ _ (tab 4 .u64 (wdF d)) rfl (by rw [rowOf_setRow_same _ _ _ (by rw [q0]; rfl)]) (by rw [tab_size])) rfl ⟨by rw [hdd'.out], ?_⟩
        exact below_setRow' hb (by omega) _
end Go.Proofs.YtfjigoimjaemmaaDoor
