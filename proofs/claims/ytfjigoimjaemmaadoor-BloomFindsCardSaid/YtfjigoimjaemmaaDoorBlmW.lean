/- the filter: the walks of places, Add, Has, Join, Count, and of the reference's Bit and Places. -/
import Derived.Test.YtfjigoimjaemmaaDoorKecRSW
import Derived.Test.YtfjigoimjaemmaaDoorKecN
import Derived.Test.YtfjigoimjaemmaaDoorBlmF
import Derived.Test.YtfjigoimjaemmaaDoorBytesW
import Derived.Test.YtfjigoimjaemmaaDoorRowsW
import Derived.RegionTactic
import Derived.BigRegion
namespace Go.Proofs.YtfjigoimjaemmaaDoor
open Go.RowKit
set_option linter.unusedSimpArgs false
set_option linter.unusedVariables false
set_option maxRecDepth 100000
attribute [local irreducible] sumF KLaid
attribute [local go_sem ↓] Go.wp_at_zero Go.wp_at_succ

theorem hash_bd (x : Nat → Int) (n : Nat) (j : Nat) : 0 ≤ sumF x n j ∧ sumF x n j < 256 := by
  unfold sumF outF; omega
/-- the places as numbers -/
def plI (h : Nat → Int) (i : Nat) : Int := (plF h i : Int)
theorem plI_eq (h : Nat → Int) (i : Nat) : plI h i = (256 * h (2 * i) + h (2 * i + 1)) % 2048 := by unfold plI plF; omega

set_option maxHeartbeats 1000000 in
theorem places_any (A : Option Addr) (n c : Nat) (x : Nat → Int) (w : World) (hL : KLaid w) (hx : Ints w .u8 A n x) (hc : n ≤ c) (hn : n ≤ 1000000000) (hxb : ∀ j, j < n → 0 ≤ x j ∧ x j < 256) :
    Calls Tryd.prog 71 #[.slice A n c] w fun e w' => e = .returned (.agg (tab 3 .i64 (plI (sumF x n)))) ∧ Below w.heap.size w w' := by
  have hS := fun (w' : World) (hb : Below w.heap.size w w') => sum_any A n c x w' (hL.below hb) (hx.below (Nat.le_refl _) hb) hc hn hxb
  obtain ⟨f, hf⟩ : ∃ f, sumF x n = f := ⟨_, rfl⟩
  have hfb : ∀ j, 0 ≤ f j ∧ f j < 256 := fun j => by rw [← hf]; exact hash_bd x n j
  rw [hf] at hS ⊢
  have hS' := Lib.hid hS
  have hfb' := Lib.hid hfb
  clear hS hx hxb hL hf hfb
  go_enter Tryd.func71, Tryd.ntmps71
  go_wp2_with (first
    | (go_at_call 23; refine (hS'.out _ (by (repeat' (first | exact Below.refl _ _ | assumption | refine Below.alloc ?_ (by (try simp only [World.size_alloc, World.size_setCell, World.size_drew, setRow_size] at *); first | done | omega) _ | refine Below.setCell ?_ (by (try simp only [World.size_alloc, World.size_setCell, World.size_drew, setRow_size] at *); first | done | omega) _ | refine Below.drew ?_ | refine Below.trans ?_ (Below.mono (by assumption) (by (try simp only [World.size_alloc, World.size_setCell, World.size_drew, setRow_size] at *); first | done | omega)) | refine below_setRow' ?_ (by (try simp only [World.size_alloc, World.size_setCell, World.size_drew, setRow_size] at *); first | done | omega) _)))).mono ?_; rintro e w1 ⟨rfl, hb1⟩; have hs1 := hb1.size; simp only [World.size_alloc] at hs1 hb1))
  obtain ⟨G, hG⟩ : ∃ G, w1.heap.size = G := ⟨_, rfl⟩
  have hwb : Below w.heap.size w ((w1.alloc (.cells (tab 32 .u8 f) 40)).alloc (.cells (tab 3 .i64 zf) 133)) := ((((Below.refl _ _).alloc (Nat.le_refl _) _).trans (hb1.mono (by omega))).alloc (by omega) _).alloc (by simp; omega) _
  have hq0 : rowFit ((w1.alloc (.cells (tab 32 .u8 f) 40)).alloc (.cells (tab 3 .i64 zf) 133)) w.heap.size = some 3 := by
    rw [rowFit_alloc_past _ _ _ (by simp; omega), rowFit_alloc_past _ _ _ (by omega), rowFit_below hb1 (by omega), rowFit_alloc_at _ _ _ _ rfl, tab_size]
  rw [hG] at hs1 ⊢
  have hwb' := Lib.hid hwb
  have hq0' := Lib.hid hq0
  have hG' := Lib.hid hG
  clear hwb hq0 hG hb1
  go_loopw [8] (fun i wr => ∃ k : Nat, k ≤ 3 ∧ i = .int .i64 k ∧ rowOf wr G = tab 32 .u8 f ∧ rowOf wr (G + 1) = tab 3 .i64 (upto (plI f) k) ∧ rowFit wr (G + 1) = some 3 ∧ rowFit wr w.heap.size = some 3 ∧ G + 1 < wr.heap.size ∧ Below w.heap.size w wr) (fun i _ => 3 - (intOf i).toNat)
  case atStart =>
    refine ⟨0, by omega, rfl, ?_, ?_, ?_, hq0'.out, by simp [hG'.out], hwb'.out⟩
    · rw [rowOf_alloc_past _ _ _ (by simp [hG'.out]), rowOf_alloc_at _ _ _ _ hG'.out.symm]
    · rw [rowOf_alloc_at _ _ _ _ (by simp [hG'.out]), upto_zero]
    · rw [rowFit_alloc_at _ _ _ _ (by simp [hG'.out]), tab_size]
  case round =>
    obtain ⟨k, hk, rfl, r0, r1, q1, q2, sz, hb⟩ := hrel
    by_cases hlt : k < 3
    · have h1 := hfb'.out (2 * k)
      have h2 := hfb'.out (2 * k + 1)
      have k0 : (0 : Int) ≤ 2 * (k : Int) := by omega
      have k1 : 2 * (k : Int) < 32 := by omega
      have k2 : (2 * (k : Int)).toNat = 2 * k := by omega
      have k3 : (0 : Int) ≤ 2 * (k : Int) + 1 := by omega
      have k4 : 2 * (k : Int) + 1 < 32 := by omega
      have k5 : (2 * (k : Int) + 1).toNat = 2 * k + 1 := by omega
      have k6 : (k : Int) < 3 := by omega
      have e1 : IntKind.i64.wrap (2 * (k : Int)) = 2 * (k : Int) := i64w (by omega) (by omega)
      have e2 : IntKind.i64.wrap (2 * (k : Int) + 1) = 2 * (k : Int) + 1 := i64w (by omega) (by omega)
      have e3 : IntKind.i64.wrap (f (2 * k)) = f (2 * k) := i64w (by omega) (by omega)
      have e4 : IntKind.i64.wrap (f (2 * k + 1)) = f (2 * k + 1) := i64w (by omega) (by omega)
      have e5 : IntKind.i64.wrap (f (2 * k) * 256) = f (2 * k) * 256 := i64w (by omega) (by omega)
      have e6 := (place_bits _ _ h1 h2).trans (plI_eq f k).symm
      have hb' := Lib.hid hb
      clear hb h1 h2
      go_wp2
      go_region
      all_goals
        go_wp2
        refine ⟨⟨k + 1, by omega, by go_num, ?_, ?_, ?_, ?_, ?_, ?_⟩, by simp [intOf]; omega⟩
        · rw [rowOf_drew, rowOf_setCell_other _ _ _ _ (by simp), r0]
        · rw [rowOf_drew, rowOf_setCell_same, r1, tab_set, upto_succ (plI f) k _ rfl]
        · rw [rowFit_drew, rowFit_setCell, q1]
        · rw [rowFit_drew, rowFit_setCell, q2]
        · simpa using sz
        · exact (hb'.out.setCell (by simp; omega) _).drew
    · obtain rfl : k = 3 := by omega
      rw [upto_tab] at r1
      go_wp2
      refine bodyPost_ret (res_i3 Tryd.results71 _ _ _ (tab 3 .i64 (plI f)) rfl (by rw [rowOf_setRow_same _ _ _ (by rw [q2]; rfl)]) (by rw [tab_size])) rfl ⟨rfl, ?_⟩
      exact below_setRow' hb (Nat.le_refl _) _

@[go_sem ↓] theorem run_index_i3 (f : Nat → Int) (k : Nat) (w : World) : (Instr.index 133 (.agg (tab 3 .i64 f)) (.int .i64 (k : Int))).run Tryd.prog w = if k < 3 then .ok (.int .i64 (f k)) w else (Instr.index 133 (.agg (tab 3 .i64 f)) (.int .i64 (k : Int))).run Tryd.prog w := by
  split
  · rename_i h
    simp [Instr.index, go_sem, Tryd.underlying133, h]
  · rfl

/-- a filter with the first k places more -/
def addN (b h : Nat → Int) : Nat → Nat → Int
  | 0 => b
  | k + 1 => addF (addN b h k) (plF h k)
theorem addN_three (b h : Nat → Int) : addN b h 3 = add3 b h := rfl
theorem addN_B {b : Nat → Int} (hb : B256 b) (h : Nat → Int) : ∀ k, B256 (addN b h k)
  | 0 => hb
  | k + 1 => addF_B (addN_B hb h k) _

set_option maxHeartbeats 1000000 in
theorem add_any (b : Nat → Int) (hB : B256 b) (A : Option Addr) (n c : Nat) (x : Nat → Int) (w : World) (hL : KLaid w) (hx : Ints w .u8 A n x) (hc : n ≤ c) (hn : n ≤ 1000000000) (hxb : ∀ j, j < n → 0 ≤ x j ∧ x j < 256) :
    Calls Tryd.prog 39 #[.agg (tab 256 .u8 b), .slice A n c] w fun e w' => e = .returned (.agg (tab 256 .u8 (add3 b (sumF x n)))) ∧ Below w.heap.size w w' := by
  have hS := fun (w' : World) (hb : Below w.heap.size w w') => places_any A n c x w' (hL.below hb) (hx.below (Nat.le_refl _) hb) hc hn hxb
  obtain ⟨h, hf⟩ : ∃ h, sumF x n = h := ⟨_, rfl⟩
  rw [hf] at hS ⊢
  have hS' := Lib.hid hS
  have hB' := Lib.hid hB
  clear hS hx hxb hL hf hB
  go_enter Tryd.func39, Tryd.ntmps39
  go_wp2_with (first
    | (go_at_call 71; refine (hS'.out _ (by (repeat' (first | exact Below.refl _ _ | assumption | refine Below.alloc ?_ (by (try simp only [World.size_alloc, World.size_setCell, World.size_drew, setRow_size] at *); first | done | omega) _ | refine Below.setCell ?_ (by (try simp only [World.size_alloc, World.size_setCell, World.size_drew, setRow_size] at *); first | done | omega) _ | refine Below.drew ?_ | refine Below.trans ?_ (Below.mono (by assumption) (by (try simp only [World.size_alloc, World.size_setCell, World.size_drew, setRow_size] at *); first | done | omega)) | refine below_setRow' ?_ (by (try simp only [World.size_alloc, World.size_setCell, World.size_drew, setRow_size] at *); first | done | omega) _)))).mono ?_; rintro e w1 ⟨rfl, hb1⟩; have hs1 := hb1.size; simp only [World.size_alloc] at hs1 hb1))
  have r1 : rowOf w1 w.heap.size = tab 256 .u8 b := (rowOf_below hb1 (by omega)).trans ((rowOf_alloc_past _ _ _ (by simp)).trans (rowOf_alloc_at _ _ _ _ rfl))
  have q1 : rowFit w1 w.heap.size = some 256 := (rowFit_below hb1 (by omega)).trans ((rowFit_alloc_past _ _ _ (by simp)).trans (by rw [rowFit_alloc_at _ _ _ _ rfl, tab_size]))
  have q2 : rowFit w1 (w.heap.size + 1) = some 256 := (rowFit_below hb1 (by omega)).trans (by rw [rowFit_alloc_at _ _ _ _ (by simp), tab_size])
  have hwb := Lib.hid (show Below w.heap.size w w1 from (((Below.refl _ _).alloc (Nat.le_refl _) _).alloc (by simp) _).trans (hb1.mono (by omega)))
  clear hb1
  go_loopw [9] (fun i wr => ∃ k : Nat, k ≤ 3 ∧ i = .int .i64 k ∧ rowOf wr w.heap.size = tab 256 .u8 (addN b h k) ∧ rowFit wr w.heap.size = some 256 ∧ rowFit wr (w.heap.size + 1) = some 256 ∧ w.heap.size + 1 < wr.heap.size ∧ Below w.heap.size w wr) (fun i _ => 3 - (intOf i).toNat)
  case atStart => exact ⟨0, by omega, rfl, r1, q1, q2, by omega, hwb.out⟩
  case round =>
    obtain ⟨k, hk, rfl, r0, q0, q3, sz, hb⟩ := hrel
    by_cases hlt : k < 3
    · obtain ⟨p, hp⟩ : ∃ p, plF h k = p := ⟨_, rfl⟩
      have hpl := plF_lt h k
      rw [hp] at hpl
      have hpi : plI h k = (p : Int) := by unfold plI; rw [hp]
      obtain ⟨g, hg⟩ : ∃ g, addN b h k = g := ⟨_, rfl⟩
      have hgB := addN_B hB'.out h k
      rw [hg] at hgB r0
      have hv := hgB (255 - p / 8) (by omega)
      obtain ⟨Q, hQ⟩ : ∃ Q, 255 - p / 8 = Q := ⟨_, rfl⟩
      obtain ⟨R, hR⟩ : ∃ R, p % 8 = R := ⟨_, rfl⟩
      have e1 : IntKind.i64.wrap ((p : Int).tdiv 8) = ((p / 8 : Nat) : Int) := by rw [Int.tdiv_eq_ediv_of_nonneg (by omega)]; rw [i64w (by omega) (by omega)]; omega
      have e2 : IntKind.i64.wrap (255 - ((p / 8 : Nat) : Int)) = (Q : Int) := by rw [i64w (by omega) (by omega)]; omega
      have e3 : (p : Int).tmod 8 = (R : Int) := by rw [Int.tmod_eq_emod_of_nonneg (by omega)]; omega
      have hQ256 : (Q : Int) < 256 := by omega
      have hR8 : (R : Int) < 8 := by omega
      rw [hQ] at hv
      have hQ' := Lib.hid hQ
      have hR' := Lib.hid hR
      clear hQ hR
      have hb' := Lib.hid hb
      have hp' := Lib.hid hp
      have hg' := Lib.hid hg
      clear hb hp hgB hg
      go_wp2
      go_region
      all_goals
        go_wp2
        have hnew : tab 256 .u8 (upd g (255 - p / 8) (bits .or .u8 (g (255 - p / 8)) (2 ^ R % 256))) = tab 256 .u8 (addN b h (k + 1)) := by
          rw [← hR'.out, Int.emod_eq_of_lt (pow8 p).1 (pow8 p).2, addN, hg'.out, hp'.out]; rfl
        refine ⟨⟨k + 1, by omega, by go_num, ?_, ?_, ?_, ?_, ?_⟩, by simp [intOf]; omega⟩
        · rw [rowOf_drew, rowOf_setCell_same, r0, tab_set, hnew]
        · rw [rowFit_drew, rowFit_setCell, q0]
        · rw [rowFit_drew, rowFit_setCell, q3]
        · simpa using sz
        · exact (hb'.out.setCell (by simp) _).drew
    · obtain rfl : k = 3 := by omega
      rw [addN_three] at r0
      go_wp2
      refine bodyPost_ret (res_bloom Tryd.results39 _ _ _ (tab 256 .u8 (add3 b h)) rfl (by rw [rowOf_setRow_same _ _ _ (by rw [q3]; rfl)]) (by rw [tab_size])) rfl ⟨rfl, ?_⟩
      exact below_setRow' hb (by omega) _

set_option maxHeartbeats 1000000 in
theorem has_any (b : Nat → Int) (hB : B256 b) (A : Option Addr) (n c : Nat) (x : Nat → Int) (w : World) (hL : KLaid w) (hx : Ints w .u8 A n x) (hc : n ≤ c) (hn : n ≤ 1000000000) (hxb : ∀ j, j < n → 0 ≤ x j ∧ x j < 256) :
    Calls Tryd.prog 35 #[.agg (tab 256 .u8 b), .slice A n c] w fun e w' => e = .returned (.bool (hasF b (sumF x n))) ∧ Below w.heap.size w w' := by
  have hS := fun (w' : World) (hb : Below w.heap.size w w') => places_any A n c x w' (hL.below hb) (hx.below (Nat.le_refl _) hb) hc hn hxb
  obtain ⟨h, hf⟩ : ∃ h, sumF x n = h := ⟨_, rfl⟩
  rw [hf] at hS ⊢
  obtain ⟨D, hD⟩ : ∃ D, hasF b h = D := ⟨_, rfl⟩
  rw [hD]
  have hS' := Lib.hid hS
  have hB' := Lib.hid hB
  have hD' := Lib.hid hD
  clear hS hx hxb hL hf hB hD
  go_enter Tryd.func35, Tryd.ntmps35
  go_wp2_with (first
    | (go_at_call 71; refine (hS'.out _ (by (repeat' (first | exact Below.refl _ _ | assumption | refine Below.alloc ?_ (by (try simp only [World.size_alloc, World.size_setCell, World.size_drew, setRow_size] at *); first | done | omega) _ | refine Below.setCell ?_ (by (try simp only [World.size_alloc, World.size_setCell, World.size_drew, setRow_size] at *); first | done | omega) _ | refine Below.drew ?_ | refine Below.trans ?_ (Below.mono (by assumption) (by (try simp only [World.size_alloc, World.size_setCell, World.size_drew, setRow_size] at *); first | done | omega)) | refine below_setRow' ?_ (by (try simp only [World.size_alloc, World.size_setCell, World.size_drew, setRow_size] at *); first | done | omega) _)))).mono ?_; rintro e w1 ⟨rfl, hb1⟩; have hs1 := hb1.size; simp only [World.size_alloc] at hs1 hb1))
  have r1 : rowOf w1 w.heap.size = tab 256 .u8 b := (rowOf_below hb1 (by omega)).trans (rowOf_alloc_at _ _ _ _ rfl)
  have hwb := Lib.hid (show Below w.heap.size w w1 from ((Below.refl _ _).alloc (Nat.le_refl _) _).trans (hb1.mono (by omega)))
  clear hb1
  go_loop [9] (fun i => ∃ k : Nat, k ≤ 3 ∧ i = .int .i64 k ∧ ∀ j, j < k → bitB b (plF h j) = true) (fun i => 3 - (intOf i).toNat)
  case atStart => exact ⟨0, by omega, rfl, fun j hj => by omega⟩
  case round =>
    obtain ⟨k, hk, rfl, hall⟩ := hrel
    have hall' := Lib.hid hall
    clear hall
    by_cases hlt : k < 3
    · obtain ⟨p, hp⟩ : ∃ p, plF h k = p := ⟨_, rfl⟩
      have hpl := plF_lt h k
      rw [hp] at hpl
      have hpi : plI h k = (p : Int) := by unfold plI; rw [hp]
      have hv := hB'.out (255 - p / 8) (by omega)
      have hbit := bt_div (b (255 - p / 8)) hv.1 (p % 8)
      have h1 := and8_1 (b (255 - p / 8) / 2 ^ (p % 8)) ⟨pdiv_nonneg hv.1 _, pdiv_lt hv.1 hv.2 _⟩
      have i0 : (0 : Int) ≤ 255 - (p : Int) / 8 := by omega
      have i1 : (255 : Int) - (p : Int) / 8 < 256 := by omega
      have i2 : ((255 : Int) - (p : Int) / 8).toNat = 255 - p / 8 := by omega
      have i3 : ((p : Int) % 8).toNat = p % 8 := by omega
      have hp' := Lib.hid hp
      have hP := pdiv_nonneg hv.1 (p % 8)
      by_cases hset : bitB b p = true
      · have h2 : (b (255 - p / 8) / 2 ^ (p % 8) % 2 == 0) = false := by
          unfold bitB at hset
          rw [hbit] at hset
          have := of_decide_eq_true hset
          rw [this]; rfl
        have hset' := Lib.hid hset
        clear hp hbit hset
        go_wp2
        refine ⟨⟨k + 1, by omega, by go_num, fun j hj => ?_⟩, by simp [intOf]; omega⟩
        by_cases hjk : j = k
        · rw [hjk, hp'.out]; exact hset'.out
        · exact hall'.out j (by omega)
      · have h2 : (b (255 - p / 8) / 2 ^ (p % 8) % 2 == 0) = true := by
          unfold bitB at hset
          rw [hbit] at hset
          have : ¬ b (255 - p / 8) / 2 ^ (p % 8) % 2 = 1 := fun e => hset (decide_eq_true e)
          simp; omega
        have hDf : D = false := by
          rw [← hD'.out]
          unfold hasF
          have hf : bitB b (plF h k) = false := by rw [hp]; simpa using hset
          match k, hlt, hf with
          | 0, _, hf => rw [hf]; rfl
          | 1, _, hf => rw [hf]; simp
          | 2, _, hf => rw [hf]; simp
        clear hp hbit hset
        go_wp2
        go_ret
        exact ⟨rfl, hwb.out⟩
    · obtain rfl : k = 3 := by omega
      have hDt : D = true := by
        rw [← hD'.out]; unfold hasF
        rw [hall'.out 0 (by omega), hall'.out 1 (by omega), hall'.out 2 (by omega)]; rfl
      go_wp2
      go_ret
      exact ⟨rfl, hwb.out⟩
end Go.Proofs.YtfjigoimjaemmaaDoor
