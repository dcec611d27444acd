/- keccak: the walk of KeccakEnds. -/
import Derived.Test.YtfjigoimjaemmaaDoorKecRSW
import Derived.Test.YtfjigoimjaemmaaDoorKecN
namespace Go.Proofs.YtfjigoimjaemmaaDoor
open Go.RowKit
set_option linter.unusedSimpArgs false
set_option linter.unusedVariables false
set_option maxRecDepth 100000
attribute [local irreducible] sumF KLaid
attribute [local go_sem ↓] Go.wp_at_zero Go.wp_at_succ
/-- the bytes that KeccakEnds tries -/
def endF (c : Int) (j : Nat) : Int := (c + (j : Int)) % 256

set_option maxHeartbeats 1000000 in
theorem keccakEnds_any (n c : Int) (n0 : 0 ≤ n) (n1 : n < 256) (c0 : 0 ≤ c) (c1 : c < 256) (w : World) (hL : KLaid w) :
    Calls Tryd.prog 5 #[.int .u8 n, .int .u8 c] w fun e w' => e = .returned (.bool true) ∧ Below w.heap.size w w' := by
  have hL' := Lib.hid hL
  clear hL
  obtain ⟨m, hm⟩ : ∃ m : Nat, 130 + n % 16 = m := ⟨(130 + n % 16).toNat, by omega⟩
  have hm1 : 130 ≤ m ∧ m < 146 := by omega
  have e1 : n.tmod 16 = n % 16 := Int.tmod_eq_emod_of_nonneg n0
  have hm2 : IntKind.i64.wrap (m : Int) = m := i64w (by omega) (by omega)
  have hm3 : (0 : Int) ≤ (m : Int) := by omega
  go_enter Tryd.func5, Tryd.ntmps5
  have hmk := run_make_tab (P := Tryd.prog) bytesE w .i64 m (by unfold maxLen; omega) (by omega)
  go_wp2
  clear hmk e1 hm2 hm
  go_loopw [14] (fun i wr => ∃ k : Nat, k ≤ m ∧ i = .int .i64 k ∧ rowOf wr w.heap.size = tab m .u8 (upK (endF c) k) ∧ rowFit wr w.heap.size = some m ∧ w.heap.size < wr.heap.size ∧ Below w.heap.size w wr) (fun i _ => m - (intOf i).toNat)
  case atStart =>
    refine ⟨0, by omega, rfl, ?_, ?_, ?_, ?_⟩
    · rw [rowOf_alloc_at _ _ _ _ rfl, upK_zero]
    · rw [rowFit_alloc_at _ _ _ _ rfl, tab_size]
    · rw [World.size_alloc]; omega
    · exact Below.alloc (Below.refl _ _) (Nat.le_refl _) _
  case round =>
    obtain ⟨k, hk, rfl, r0, q0, sz, hb⟩ := hrel
    by_cases hlt : k < m
    · have hk5 : (k : Int) < (m : Int) ∧ (0 : Int) ≤ (k : Int) := by omega
      go_wp2
      refine ⟨⟨k + 1, by omega, by go_num, ?_, ?_, ?_, ?_⟩, by simp [intOf]; omega⟩
      · rw [rowOf_setCell_same, r0, tab_set, upK_succ (endF c) k ((c + (k : Int)) % 256) rfl]
      · rw [rowFit_setCell, q0]
      · rw [World.size_setCell]; exact sz
      · exact hb.setCell (by simp) _
    · have hkm : k = m := by omega
      rw [hkm, upK_tab] at r0
      have hbd : ∀ j, j < m → 0 ≤ endF c j ∧ endF c j < 256 := fun j _ => by unfold endF; omega
      have hK := hL'.out.below hb
      have hI : Ints wr .u8 (some ⟨w.heap.size, 0, none⟩) m (endF c) := fun j hj => ⟨⟨w.heap.size, 0, none⟩, rfl, sz, by rw [Addr.add_lit, cell_of_rowOf, Nat.zero_add, r0, tab_get, if_pos hj]⟩
      have hF := fixed05_any wr hK
      have hS := fun (w' : World) (hbb : Below wr.heap.size wr w') => sum_any (some ⟨w.heap.size, 0, none⟩) m m (endF c) w' (hK.below hbb) (hI.below (Nat.le_refl _) hbb) (Nat.le_refl _) (by omega) hbd
      have hR := fun (w' : World) (hbb : Below wr.heap.size wr w') => refSum_any (some ⟨w.heap.size, 0, none⟩) m m (endF c) w' (hI.below (Nat.le_refl _) hbb) (by omega) hbd
      have hF' := Lib.hid hF
      have hS' := Lib.hid hS
      have hR' := Lib.hid hR
      clear hF hS hR hI hK hbd hkm r0 q0
      go_wp2_with (first
        | (go_at_call 14; refine hF'.out.mono ?_; rintro e w1 ⟨rfl, hb1⟩)
        | (go_at_call 23; refine (hS'.out _ hb1).mono ?_; rintro e w2 ⟨rfl, hb2⟩; have hb12 := hb1.trans (hb2.mono hb1.size))
        | (go_at_call 24; refine (hR'.out _ hb12).mono ?_; rintro e w3 ⟨rfl, hb3⟩))
      go_ret
      exact ⟨rfl, hb.trans ((hb12.trans (hb3.mono hb12.size)).mono (by omega))⟩
end Go.Proofs.YtfjigoimjaemmaaDoor
