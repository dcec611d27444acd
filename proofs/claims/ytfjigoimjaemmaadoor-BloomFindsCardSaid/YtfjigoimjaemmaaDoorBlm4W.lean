/- the filter: the walk of Of. -/
import Derived.Test.YtfjigoimjaemmaaDoorBlm3W
import Derived.Test.YtfjigoimjaemmaaDoorLogW
namespace Go.Proofs.YtfjigoimjaemmaaDoor
open Go.RowKit
set_option linter.unusedSimpArgs false
set_option linter.unusedVariables false
set_option maxRecDepth 100000
attribute [local irreducible] sumF KLaid
attribute [local go_sem ↓] Go.wp_at_zero Go.wp_at_succ

/-- a filter with the first k words more -/
def addT (b : Nat → Int) (tx : Nat → Nat → Int) : Nat → Nat → Int
  | 0 => b
  | k + 1 => add3 (addT b tx k) (sumF (bytF (tx k)) 32)
/-- a filter with the first k logs more -/
def addL (b : Nat → Int) (L : Nat → LogV) : Nat → Nat → Int
  | 0 => b
  | k + 1 => addT (add3 (addL b L k) (sumF (L k).addr 20)) (L k).tx (L k).tn
theorem addT_B {b : Nat → Int} (hb : B256 b) (tx : Nat → Nat → Int) : ∀ k, B256 (addT b tx k)
  | 0 => hb
  | k + 1 => add3_B (addT_B hb tx k) _
theorem addL_B {b : Nat → Int} (hb : B256 b) (L : Nat → LogV) : ∀ k, B256 (addL b L k)
  | 0 => hb
  | k + 1 => addT_B (add3_B (addL_B hb L k) _) _ _
theorem zf_B : B256 zf := fun j _ => by simp [zf]
/-- the bits of the first k words -/
def inT (tx : Nat → Nat → Int) : Nat → Nat → Bool
  | 0, _ => false
  | k + 1, i => inP (sumF (bytF (tx k)) 32) i || inT tx k i
/-- the bits of the first k logs -/
def inL (L : Nat → LogV) : Nat → Nat → Bool
  | 0, _ => false
  | k + 1, i => inT (L k).tx (L k).tn i || (inP (sumF (L k).addr 20) i || inL L k i)
theorem bitB_addT {b : Nat → Int} (hb : B256 b) (tx : Nat → Nat → Int) (i : Nat) (hi : i < 2048) : ∀ k, bitB (addT b tx k) i = (inT tx k i || bitB b i)
  | 0 => by simp [addT, inT]
  | k + 1 => by rw [addT, bitB_add3 (addT_B hb tx k) _ i hi, bitB_addT hb tx i hi k, inT, Bool.or_assoc]
theorem bitB_addL {b : Nat → Int} (hb : B256 b) (L : Nat → LogV) (i : Nat) (hi : i < 2048) : ∀ k, bitB (addL b L k) i = (inL L k i || bitB b i)
  | 0 => by simp [addL, inL]
  | k + 1 => by rw [addL, bitB_addT (add3_B (addL_B hb L k) _) _ i hi, bitB_add3 (addL_B hb L k) _ i hi, bitB_addL hb L i hi k, inL, Bool.or_assoc, Bool.or_assoc]
theorem bitB_zf (i : Nat) : bitB zf i = false := by simp [bitB, bt, zf]

set_option maxHeartbeats 4000000 in
theorem of_any (A : Option Addr) (n c : Nat) (L : Nat → LogV) (w : World) (hK : KLaid w) (hL : Logs w A n L) (hn : n ≤ 1000000) (htn : ∀ j, j < n → (L j).tn ≤ 1000000) :
    Calls Tryd.prog 32 #[.slice A n c] w fun e w' => e = .returned (.agg (tab 256 .u8 (addL zf L n))) ∧ Below w.heap.size w w' := by
  have hK' := Lib.hid hK
  have hL' := Lib.hid hL
  obtain ⟨B, hB⟩ : ∃ B : Nat → Nat → Int, ∀ k, addL zf L k = B k := ⟨addL zf L, fun _ => rfl⟩
  rw [hB]
  have hB' := Lib.hid hB
  clear hK hL hB
  go_enter Tryd.func32, Tryd.ntmps32
  go_wp2
  go_loopw [11] (fun i wr => ∃ k : Nat, k ≤ n ∧ i = .int .i64 k ∧ rowOf wr (w.heap.size + 1) = tab 256 .u8 (B k) ∧ rowFit wr (w.heap.size + 1) = some 256 ∧ rowFit wr w.heap.size = some 256 ∧ w.heap.size + 1 < wr.heap.size ∧ Below w.heap.size w wr) (fun i _ => n - (intOf i).toNat)
  case atStart =>
    refine ⟨0, by omega, rfl, ?_, ?_, ?_, by simp, by (repeat' (first | exact Below.refl _ _ | assumption | refine Below.alloc ?_ (by (try simp only [World.size_alloc, World.size_setCell, World.size_drew, setRow_size] at *); first | done | omega) _ | refine Below.setCell ?_ (by (try simp only [World.size_alloc, World.size_setCell, World.size_drew, setRow_size] at *); first | done | omega) _ | refine Below.drew ?_ | refine Below.trans ?_ (Below.mono (by assumption) (by (try simp only [World.size_alloc, World.size_setCell, World.size_drew, setRow_size] at *); first | done | omega)) | refine below_setRow' ?_ (by (try simp only [World.size_alloc, World.size_setCell, World.size_drew, setRow_size] at *); first | done | omega) _))⟩
    · rw [rowOf_alloc_at _ _ _ _ (by simp), ← hB'.out, addL]
    · rw [rowFit_alloc_at _ _ _ _ (by simp), tab_size]
    · rw [rowFit_alloc_past _ _ _ (by simp), rowFit_alloc_at _ _ _ _ rfl, tab_size]
  case round =>
    obtain ⟨k, hk, rfl, r0, q0, q1, sz, hb⟩ := hrel
    have hb' := Lib.hid hb
    clear hb
    by_cases hlt : k < n
    · obtain ⟨a, rfl, ha, hld, hok⟩ := (hL'.out.below (Nat.le_refl _) hb'.out).load hlt
      obtain ⟨g, hg⟩ : ∃ g, B k = g := ⟨_, rfl⟩
      have hgB : B256 g := by rw [← hg, ← hB'.out]; exact addL_B zf_B L k
      rw [hg] at r0
      have hok' := Lib.hid hok
      have hki : (k : Int) < (n : Int) := by omega
      have htk := htn k hlt
      have hAdd := fun (w1 : World) (hb : Below wr.heap.size wr w1) (hr : rowOf w1 wr.heap.size = (L k).row) (hs : wr.heap.size < w1.heap.size) => add_any g hgB (some ⟨wr.heap.size, 0, none⟩) 20 20 (L k).addr w1 (hK'.out.below (hb'.out.trans (hb.mono (by omega))))
        (fun j hj => ⟨_, rfl, hs, by rw [Addr.add_lit, cell_of_rowOf, hr, Nat.zero_add, LogV.row_addr _ _ hj]⟩) (Nat.le_refl _) (by omega) hok.addr
      obtain ⟨g1, hg1⟩ : ∃ g1, add3 g (sumF (L k).addr 20) = g1 := ⟨_, rfl⟩
      have hg1B : B256 g1 := by rw [← hg1]; exact add3_B hgB _
      rw [hg1] at hAdd
      have hAdd' := Lib.hid hAdd
      have hg1' := Lib.hid hg1
      have hg' := Lib.hid hg
      have hgB' := Lib.hid hgB
      have hg1B' := Lib.hid hg1B
      clear hAdd hg1 hg hgB hg1B hok
      obtain ⟨tA, htA⟩ : ∃ tA, (L k).tA = tA := ⟨_, rfl⟩
      go_wp2
      go_region_with (go_at_call 39; refine (hAdd'.out _ (by (repeat' (first | exact Below.refl _ _ | assumption | refine Below.alloc ?_ (by (try simp only [World.size_alloc, World.size_setCell, World.size_drew, setRow_size] at *); first | done | omega) _ | refine Below.setCell ?_ (by (try simp only [World.size_alloc, World.size_setCell, World.size_drew, setRow_size] at *); first | done | omega) _ | refine Below.drew ?_ | refine Below.trans ?_ (Below.mono (by assumption) (by (try simp only [World.size_alloc, World.size_setCell, World.size_drew, setRow_size] at *); first | done | omega)) | refine below_setRow' ?_ (by (try simp only [World.size_alloc, World.size_setCell, World.size_drew, setRow_size] at *); first | done | omega) _))) (by simp [go_sem]) (by simp)).mono ?_; rintro e w2 ⟨rfl, hb2⟩; have hs2 := hb2.size; simp only [World.size_drew, World.size_alloc] at hs2; have r2 := (rowOf_below hb2 (show wr.heap.size < _ by simp)).trans (show _ = (L k).row by simp [go_sem]); have q2 := (rowFit_below hb2 (show w.heap.size + 1 < _ by simp; omega)).trans (show _ = some 256 by rw [rowFit_drew, rowFit_alloc_past _ _ _ (by omega), q0]); have q3 := (rowFit_below hb2 (show w.heap.size < _ by simp; omega)).trans (show _ = some 256 by rw [rowFit_drew, rowFit_alloc_past _ _ _ (by omega), q1]))
      all_goals
        have hne : ¬ wr.heap.size = w.heap.size + 1 := by omega
        go_wp2
        have hW2 : Below w.heap.size w (w2.setRow (w.heap.size + 1) (tab 256 .u8 g1)) := below_setRow' (hb'.out.trans ((((Below.refl _ _).alloc (Nat.le_refl _) _).drew.trans (hb2.mono (by simp))).mono (by omega))) (by omega) _
        have hW2' := Lib.hid hW2
        have f0 : rowOf (w2.setRow (w.heap.size + 1) (tab 256 .u8 g1)) (w.heap.size + 1) = tab 256 .u8 g1 := rowOf_setRow_same _ _ _ (by rw [q2]; rfl)
        have f1 : rowFit (w2.setRow (w.heap.size + 1) (tab 256 .u8 g1)) (w.heap.size + 1) = some 256 := by rw [rowFit_setRow_same _ _ _ (by rw [q2]; rfl), tab_size]
        have f2 : rowFit (w2.setRow (w.heap.size + 1) (tab 256 .u8 g1)) w.heap.size = some 256 := by rw [rowFit_setRow_other _ _ _ _ (by omega), q3]
        obtain ⟨T, hT⟩ : ∃ T : Nat → Nat → Int, ∀ j, addT g1 (L k).tx j = T j := ⟨addT g1 (L k).tx, fun _ => rfl⟩
        have hT' := Lib.hid hT
        clear hW2 hT hb2 q2 q3 r2
        go_loopw [22] (fun i wr => ∃ j : Nat, j ≤ (L k).tn ∧ i = .int .i64 j ∧ rowOf wr (w.heap.size + 1) = tab 256 .u8 (T j) ∧ rowFit wr (w.heap.size + 1) = some 256 ∧ rowFit wr w.heap.size = some 256 ∧ w.heap.size + 1 < wr.heap.size ∧ Below w.heap.size w wr) (fun i _ => (L k).tn - (intOf i).toNat)
        case atStart => exact ⟨0, by omega, rfl, by rw [f0, ← hT'.out, addT], f1, f2, by rw [setRow_size]; omega, hW2'.out⟩
        case round =>
          clear f0 f1 f2 r0 q0 q1
          obtain ⟨j, hj, rfl, r3, q4, q5, sz3, hb3⟩ := hrel
          have hb3' := Lib.hid hb3
          clear hb3
          by_cases hjt : j < (L k).tn
          · obtain ⟨a3, e3, _, hld3⟩ := (((hL'.out k hlt).2.topics).below (Nat.le_refl _) hb3'.out).load hjt
            rw [htA] at e3
            subst e3
            obtain ⟨g3, hg3⟩ : ∃ g3, T j = g3 := ⟨_, rfl⟩
            rw [hg3] at r3
            have hg3B : B256 g3 := by rw [← hg3, ← hT'.out]; exact addT_B hg1B'.out _ _
            have hwj : W64 ((L k).tx j) := fun i hi => hok'.out.words j hjt i hi
            have hBy := fun (w1 : World) => wordBytes_any ((L k).tx j) hwj w1
            obtain ⟨y, hy⟩ : ∃ y, bytF ((L k).tx j) = y := ⟨_, rfl⟩
            have hyb : ∀ q, q < 32 → 0 ≤ y q ∧ y q < 256 := fun q _ => by rw [← hy]; exact bytF_bd hwj q
            rw [hy] at hBy
            have hAdd3 := fun (w1 : World) (bx : Nat) (hb : Below wr.heap.size wr w1) (hr : rowOf w1 bx = tab 32 .u8 y) (hs : bx < w1.heap.size) => add_any g3 hg3B (some ⟨bx, 0, none⟩) 32 32 y w1 (hK'.out.below (hb3'.out.trans (hb.mono (by omega))))
              (fun j hj => ⟨_, rfl, hs, by rw [Addr.add_lit, cell_of_rowOf, hr, Nat.zero_add, tab_get, if_pos hj]⟩) (Nat.le_refl _) (by omega) hyb
            obtain ⟨g4, hg4⟩ : ∃ g4, add3 g3 (sumF y 32) = g4 := ⟨_, rfl⟩
            rw [hg4] at hAdd3
            have hAdd3' := Lib.hid hAdd3
            have hBy' := Lib.hid hBy
            have hg4' := Lib.hid hg4
            have hg3' := Lib.hid hg3
            have hy' := Lib.hid hy
            have hji : (j : Int) < ((L k).tn : Int) := by omega
            clear hAdd3 hBy hg4 hg3 hy hg3B hyb hwj
            go_wp2_with (go_at_call 68; refine (hBy'.out _).mono ?_; rintro e w5 ⟨rfl, hb5⟩; have hs5 := hb5.size; simp only [World.size_alloc] at hs5 hb5)
            have hB5 : Below wr.heap.size wr w5 := ((Below.refl _ _).alloc (Nat.le_refl _) _).trans (hb5.mono (by omega))
            have r5 := (rowOf_below hB5 (show w.heap.size + 1 < _ by omega)).trans r3
            have q6 := (rowFit_below hB5 (show w.heap.size + 1 < _ by omega)).trans q4
            have q7 := (rowFit_below hB5 (show w.heap.size < _ by omega)).trans q5
            have z6 : w.heap.size + 1 < w5.heap.size := by omega
            have hB5' := Lib.hid hB5
            clear hB5 hb5 r3 q4 q5
            go_region_with (go_at_call 39; refine (hAdd3'.out _ w5.heap.size ((hB5'.out.alloc (by omega) _).drew) (by simp [go_sem]) (by simp)).mono ?_; rintro e w6 ⟨rfl, hb6⟩; have hs6 := hb6.size; simp only [World.size_drew, World.size_alloc] at hs6; have q8 := (rowFit_below hb6 (show w.heap.size + 1 < _ by simp; omega)).trans (show _ = some 256 by rw [rowFit_drew, rowFit_alloc_past _ _ _ (by omega), q6]); have q9 := (rowFit_below hb6 (show w.heap.size < _ by simp; omega)).trans (show _ = some 256 by rw [rowFit_drew, rowFit_alloc_past _ _ _ (by omega), q7]))
            all_goals
              go_wp2
              have hW6 : Below w.heap.size w (w6.setRow (w.heap.size + 1) (tab 256 .u8 g4)) := below_setRow' (hb3'.out.trans (((hB5'.out.mono (by omega)).alloc (by omega) _).drew.trans (hb6.mono (by simp; omega)))) (by omega) _
              refine ⟨⟨j + 1, by omega, by go_num, ?_, ?_, ?_, by rw [setRow_size]; omega, hW6⟩, by simp [intOf]; omega⟩
              · rw [rowOf_setRow_same _ _ _ (by rw [q8]; rfl), ← hT'.out, addT, hT'.out, hg3'.out, hy'.out, hg4'.out]
              · rw [rowFit_setRow_same _ _ _ (by rw [q8]; rfl), tab_size]
              · rw [rowFit_setRow_other _ _ _ _ (by omega), q9]
          · obtain rfl : j = (L k).tn := by omega
            go_wp2
            refine ⟨⟨k + 1, by omega, by go_num, ?_, q4, q5, sz3, hb3'.out⟩, by simp [intOf]; omega⟩
            rw [r3, ← hT'.out, ← hg1'.out, ← hg'.out, ← hB'.out, ← hB'.out, addL]
    · obtain rfl : k = n := by omega
      go_wp2
      refine bodyPost_ret (res_bloom Tryd.results32 _ _ _ (tab 256 .u8 (B k)) rfl (by rw [rowOf_setRow_same _ _ _ (by rw [q1]; rfl)]) (by rw [tab_size])) rfl ⟨rfl, ?_⟩
      exact below_setRow' hb'.out (Nat.le_refl _) _
end Go.Proofs.YtfjigoimjaemmaaDoor
