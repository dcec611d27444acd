/- keccak: the hash as a word. -/
import Derived.Test.YtfjigoimjaemmaaDoorKecRSW
import Derived.Test.YtfjigoimjaemmaaDoorKecN
import Derived.Test.YtfjigoimjaemmaaDoorFrom2W
namespace Go.Proofs.YtfjigoimjaemmaaDoor
open Go.RowKit
set_option linter.unusedSimpArgs false
set_option linter.unusedVariables false
set_option maxRecDepth 100000
attribute [local irreducible] sumF KLaid
attribute [local go_sem ↓] Go.wp_at_zero Go.wp_at_succ

theorem sumF_bd (x : Nat → Int) (n : Nat) (j : Nat) : 0 ≤ sumF x n j ∧ sumF x n j < 256 := by
  unfold sumF outF; omega

set_option maxHeartbeats 1000000 in
theorem word_any (A : Option Addr) (n c : Nat) (x : Nat → Int) (w : World) (hL : KLaid w) (hx : Ints w .u8 A n x) (hc : n ≤ c) (hn : n ≤ 1000000000) (hxb : ∀ j, j < n → 0 ≤ x j ∧ x j < 256) :
    Calls Tryd.prog 26 #[.slice A n c] w fun e w' => e = .returned (wv (wdF (dgF (sumF x n) 32))) ∧ Below w.heap.size w w' := by
  have hS := fun (w' : World) (hb : Below w.heap.size w w') => sum_any A n c x w' (hL.below hb) (hx.below (Nat.le_refl _) hb) hc hn hxb
  obtain ⟨f, hf⟩ : ∃ f, sumF x n = f := ⟨_, rfl⟩
  have hfb : ∀ j, j < 32 → 0 ≤ f j ∧ f j < 256 := fun j _ => by rw [← hf]; exact sumF_bd x n j
  rw [hf] at hS
  have hS' := Lib.hid hS
  have hf' := Lib.hid hf
  have hfb' := Lib.hid hfb
  clear hS hx hxb hL hf hfb
  go_enter Tryd.func26, Tryd.ntmps26
  go_wp2_with (first
    | (go_at_call 23; refine (hS'.out _ (by (repeat' (first | exact Below.refl _ _ | assumption | refine Below.alloc ?_ (by (try simp only [World.size_alloc, World.size_setCell, World.size_drew, setRow_size] at *); first | done | omega) _ | refine Below.setCell ?_ (by (try simp only [World.size_alloc, World.size_setCell, World.size_drew, setRow_size] at *); first | done | omega) _ | refine Below.drew ?_ | refine Below.trans ?_ (Below.mono (by assumption) (by (try simp only [World.size_alloc, World.size_setCell, World.size_drew, setRow_size] at *); first | done | omega)) | refine below_setRow' ?_ (by (try simp only [World.size_alloc, World.size_setCell, World.size_drew, setRow_size] at *); first | done | omega) _)))).mono ?_; rintro e w1 ⟨rfl, hb1⟩; have hs1 := hb1.size; simp only [World.size_alloc] at hs1 hb1)
    | (go_at_call 64; refine (wordFrom_any _ 32 32 f _ (fun j hj => ⟨⟨w1.heap.size, 0, none⟩, rfl, by rw [World.size_alloc]; simp, by rw [Addr.add_lit, cell_of_rowOf, Nat.zero_add, rowOf_alloc_at _ _ _ _ rfl, tab_get, if_pos hj]⟩) (Nat.le_refl _) hfb'.out).mono ?_; rintro e w2 ⟨rfl, hb2⟩; have hs2 := hb2.size; simp only [World.size_alloc] at hs2 hb2; have hq2 : rowFit w2 w.heap.size = some 4 := (rowFit_below hb2 (by omega)).trans ((rowFit_alloc_past _ _ _ (by omega)).trans ((rowFit_below hb1 (by omega)).trans (by rw [rowFit_alloc_at _ _ _ _ rfl, tab_size])))))
  refine bodyPost_ret (res_word Tryd.results26 _ _ _ (tab 4 .u64 (wdF (dgF f 32))) rfl (by rw [rowOf_setRow_same _ _ _ (by rw [hq2]; rfl)]) (by rw [tab_size])) rfl ⟨by rw [hf'.out], ?_⟩
  have hb12 : Below w.heap.size w w2 := ((Below.alloc (Below.refl _ _) (Nat.le_refl _) _).trans (hb1.mono (by omega))).trans ((Below.alloc (Below.refl _ _) (by omega) _).trans (hb2.mono (by omega)))
  exact below_setRow' hb12 (Nat.le_refl _) _

set_option maxHeartbeats 1000000 in
theorem refWordH_any (A : Option Addr) (n c : Nat) (x : Nat → Int) (w : World) (hx : Ints w .u8 A n x) (hn : n ≤ 1000000000) (hxb : ∀ j, j < n → 0 ≤ x j ∧ x j < 256) :
    Calls Tryd.prog 27 #[.slice A n c] w fun e w' => e = .returned (wv (wdF (dgF (sumF x n) 32))) ∧ Below w.heap.size w w' := by
  have hS := fun (w' : World) (hb : Below w.heap.size w w') => refSum_any A n c x w' (hx.below (Nat.le_refl _) hb) hn hxb
  obtain ⟨f, hf⟩ : ∃ f, sumF x n = f := ⟨_, rfl⟩
  have hfb : ∀ j, j < 32 → 0 ≤ f j ∧ f j < 256 := fun j _ => by rw [← hf]; exact sumF_bd x n j
  have hdb : ∀ i, i < 32 → 0 ≤ dgF f 32 i ∧ dgF f 32 i < 256 := fun i hi => by
    unfold dgF; rw [if_pos hi]; exact hfb _ (by omega)
  rw [hf] at hS
  have hS' := Lib.hid hS
  have hf' := Lib.hid hf
  have hfb' := Lib.hid hfb
  have hdb' := Lib.hid hdb
  clear hS hx hxb hf hfb hdb
  go_enter Tryd.func27, Tryd.ntmps27
  go_wp2_with (first
    | (go_at_call 24; refine (hS'.out _ (by (repeat' (first | exact Below.refl _ _ | assumption | refine Below.alloc ?_ (by (try simp only [World.size_alloc, World.size_setCell, World.size_drew, setRow_size] at *); first | done | omega) _ | refine Below.setCell ?_ (by (try simp only [World.size_alloc, World.size_setCell, World.size_drew, setRow_size] at *); first | done | omega) _ | refine Below.drew ?_ | refine Below.trans ?_ (Below.mono (by assumption) (by (try simp only [World.size_alloc, World.size_setCell, World.size_drew, setRow_size] at *); first | done | omega)) | refine below_setRow' ?_ (by (try simp only [World.size_alloc, World.size_setCell, World.size_drew, setRow_size] at *); first | done | omega) _)))).mono ?_; rintro e w1 ⟨rfl, hb1⟩; have hs1 := hb1.size; simp only [World.size_alloc] at hs1 hb1)
    | (go_at_call 65; refine (refFrom_any _ 32 32 f _ (fun j hj => ⟨⟨w1.heap.size, 0, none⟩, rfl, by rw [World.size_alloc]; simp, by rw [Addr.add_lit, cell_of_rowOf, Nat.zero_add, rowOf_alloc_at _ _ _ _ rfl, tab_get, if_pos hj]⟩) (by omega) hfb'.out).mono ?_; rintro e w2 ⟨rfl, hb2⟩; have hs2 := hb2.size; simp only [World.size_alloc] at hs2 hb2; have hq2 : rowFit w2 w.heap.size = some 4 := (rowFit_below hb2 (by omega)).trans ((rowFit_alloc_past _ _ _ (by omega)).trans ((rowFit_below hb1 (by omega)).trans (by rw [rowFit_alloc_at _ _ _ _ rfl, tab_size]))))
    | (go_at_call 66; refine (refWord_any _ hdb'.out _).mono ?_; rintro e w3 ⟨rfl, hb3⟩; have hs3 := hb3.size; have hq3 : rowFit w3 w.heap.size = some 4 := (rowFit_below hb3 (by omega)).trans hq2))
  refine bodyPost_ret (res_word Tryd.results27 _ _ _ (tab 4 .u64 (wdF (dgF f 32))) rfl (by rw [rowOf_setRow_same _ _ _ (by rw [hq3]; rfl)]) (by rw [tab_size])) rfl ⟨by rw [hf'.out], ?_⟩
  have hb12 : Below w.heap.size w w2 := ((Below.alloc (Below.refl _ _) (Nat.le_refl _) _).trans (hb1.mono (by omega))).trans ((Below.alloc (Below.refl _ _) (by omega) _).trans (hb2.mono (by omega)))
  exact below_setRow' (hb12.trans (hb3.mono (by omega))) (Nat.le_refl _) _
end Go.Proofs.YtfjigoimjaemmaaDoor
