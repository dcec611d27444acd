/- words: their digits, their length: the walks. -/
import Derived.Test.YtfjigoimjaemmaaDoorBase
import Derived.Test.YtfjigoimjaemmaaDoorShelf
import Derived.Lib.ItoaNum
namespace Go.Proofs.YtfjigoimjaemmaaDoor
open Go.RowKit
set_option linter.unusedSimpArgs false
set_option linter.unusedVariables false
set_option maxRecDepth 100000

theorem ret_num {k : IntKind} {a b : Int} (h : a = b) : Ending.returned (.int k a) = .returned (.int k b) := by rw [h]
/-- each of four numbers is one of 64 bits -/
def W64 (a : Nat → Int) : Prop := ∀ i, i < 4 → 0 ≤ a i ∧ a i < 18446744073709551616
/-- the i-th digit to the base 256 -/
def digF (a : Nat → Int) (i : Nat) : Int := a (i / 8) / 2 ^ (8 * (i % 8)) % 256
/-- f up to k, noughts behind -/
def upto (f : Nat → Int) (k : Nat) : Nat → Int := fun j => if j < k then f j else 0
theorem upto_zero (f : Nat → Int) : upto f 0 = zf := by funext j; simp [upto, zf]
theorem upto_succ (f : Nat → Int) (k : Nat) (v : Int) (h : v = f k) : upd (upto f k) k v = upto f (k + 1) := by
  subst h
  funext j
  unfold upd upto
  by_cases h1 : j = k
  · subst h1; simp
  · by_cases h2 : j < k
    · simp [h1, h2]; omega
    · simp [h1, h2]; omega
theorem upto_tab (f : Nat → Int) (n : Nat) (k : IntKind) : tab n k (upto f n) = tab n k f := tab_ext fun i hi => by simp [upto, hi]

theorem pdiv_nonneg {x : Int} (h : 0 ≤ x) (n : Nat) : 0 ≤ x / 2 ^ n := Int.ediv_nonneg h (Int.le_of_lt (Int.pow_pos (by omega)))
theorem pdiv_lt {x b : Int} (h : 0 ≤ x) (hb : x < b) (n : Nat) : x / 2 ^ n < b := Int.lt_of_le_of_lt (Int.ediv_le_self _ h) hb
theorem pdiv_succ (x : Int) (n : Nat) : x / 2 ^ n / 2 = x / 2 ^ (n + 1) := by
  rw [Int.ediv_ediv_of_nonneg (Int.le_of_lt (Int.pow_pos (by omega))), Int.pow_succ]

set_option maxHeartbeats 400000 in
theorem refOf_any (a : Nat → Int) (ha : W64 a) (w : World) :
    Calls Tryd.prog 69 #[wv a] w fun e w' => e = .returned (.agg (tab 32 .i64 (digF a))) ∧ Below w.heap.size w w' := by
  go_enter Tryd.func69, Tryd.ntmps69
  go_wp2_with fail
  go_loopw [4] (fun i wr => ∃ k : Nat, k ≤ 32 ∧ i = .int .i64 k ∧ wr = ((w.alloc (.cells (tab 4 .u64 a) 47)).alloc (.cells (tab 32 .i64 zf) 126)).alloc (.cells (tab 32 .i64 (upto (digF a) k)) 126)) (fun i _ => 32 - (intOf i).toNat)
  case atStart =>
    exact ⟨0, by omega, rfl, by rw [upto_zero]⟩
  case round =>
    obtain ⟨k, hk, rfl, rfl⟩ := hrel
    by_cases hlt : k < 32
    · have hq : k / 8 < 4 := by omega
      have hA := ha (k / 8) hq
      clear ha
      have hP : 0 ≤ a (k / 8) / 2 ^ (8 * (k % 8)) := pdiv_nonneg hA.1 _
      go_wp2_with fail
      exact ⟨⟨k + 1, by omega, by go_num, by rw [upto_succ (digF a) k (a (k / 8) / 2 ^ (8 * (k % 8)) % 256) rfl]⟩, by simp [intOf]; omega⟩
    · have hk' : k = 32 := by omega
      subst hk'
      go_wp2_with fail
      refine bodyPost_ret (res_dig Tryd.results69 _ _ _ (tab 32 .i64 (upto (digF a) 32)) rfl (by simp [go_sem]) (by simp [go_sem])) rfl ⟨by rw [upto_tab], ?_⟩
      (repeat' (first | exact Below.refl _ _ | assumption | refine Below.alloc ?_ (by (try simp only [World.size_alloc, World.size_setCell, World.size_drew, setRow_size] at *); first | done | omega) _ | refine Below.setCell ?_ (by (try simp only [World.size_alloc, World.size_setCell, World.size_drew, setRow_size] at *); first | done | omega) _ | refine Below.drew ?_ | refine Below.trans ?_ (Below.mono (by assumption) (by (try simp only [World.size_alloc, World.size_setCell, World.size_drew, setRow_size] at *); first | done | omega)) | refine below_setRow' ?_ (by (try simp only [World.size_alloc, World.size_setCell, World.size_drew, setRow_size] at *); first | done | omega) _))

/-- the n-th bit of a number's digits -/
def bitD (d : Nat → Int) (n : Nat) : Int := d (n / 8) / 2 ^ (n % 8) % 2

set_option maxHeartbeats 400000 in
theorem refBit_any (d : Nat → Int) (hd : ∀ i, i < 32 → 0 ≤ d i ∧ d i < 256) (n : Nat) (hn : n < 256) (w : World) :
    Calls Tryd.prog 110 #[.agg (tab 32 .i64 d), .int .i64 n] w fun e w' => e = .returned (.int .i64 (bitD d n)) ∧ Below w.heap.size w w' := by
  have hq : n / 8 < 32 := by omega
  have hA := hd (n / 8) hq
  clear hd
  go_enter Tryd.func110, Tryd.ntmps110
  go_wp2_with fail
  go_loop [5, 6] (fun x k => ∃ j : Nat, j ≤ n % 8 ∧ k = .int .i64 j ∧ x = .int .i64 (d (n / 8) / 2 ^ j)) (fun _ k => n % 8 - (intOf k).toNat)
  case atStart => exact ⟨0, by omega, rfl, by simp⟩
  case round =>
    obtain ⟨j, hj, rfl, rfl⟩ := hrel
    have hP : 0 ≤ d (n / 8) / 2 ^ j := pdiv_nonneg hA.1 _
    have hP2 : d (n / 8) / 2 ^ j < 256 := pdiv_lt hA.1 hA.2 _
    by_cases hlt : j < n % 8
    · go_wp2_with fail
      refine ⟨⟨j + 1, by omega, by go_num, ?_⟩, by simp [intOf]; omega⟩
      rw [pdiv_succ]
    · have hj' : j = n % 8 := by omega
      subst hj'
      go_wp2_with fail
      go_ret
      refine ⟨rfl, ?_⟩
      (repeat' (first | exact Below.refl _ _ | assumption | refine Below.alloc ?_ (by (try simp only [World.size_alloc, World.size_setCell, World.size_drew, setRow_size] at *); first | done | omega) _ | refine Below.setCell ?_ (by (try simp only [World.size_alloc, World.size_setCell, World.size_drew, setRow_size] at *); first | done | omega) _ | refine Below.drew ?_ | refine Below.trans ?_ (Below.mono (by assumption) (by (try simp only [World.size_alloc, World.size_setCell, World.size_drew, setRow_size] at *); first | done | omega)) | refine below_setRow' ?_ (by (try simp only [World.size_alloc, World.size_setCell, World.size_drew, setRow_size] at *); first | done | omega) _))

/-- L is how many of N bits there are up to the highest that is set -/
def LenIs (bit : Nat → Int) (N L : Nat) : Prop := L ≤ N ∧ (∀ j, L ≤ j → j < N → bit j = 0) ∧ (L = 0 ∨ bit (L - 1) = 1)
theorem LenIs.unique {bit : Nat → Int} {N L M : Nat} (h : LenIs bit N L) (k : LenIs bit N M) : L = M := by
  obtain ⟨h1, h2, h3⟩ := h
  obtain ⟨k1, k2, k3⟩ := k
  rcases Nat.lt_trichotomy L M with hlt | he | hgt
  · rcases k3 with k3 | k3
    · omega
    · have := h2 (M - 1) (by omega) (by omega)
      omega
  · exact he
  · rcases h3 with h3 | h3
    · omega
    · have := k2 (L - 1) (by omega) (by omega)
      omega
theorem LenIs.congr {b c : Nat → Int} {N L : Nat} (h : LenIs b N L) (e : ∀ j, j < N → b j = c j) : LenIs c N L := by
  obtain ⟨h1, h2, h3⟩ := h
  refine ⟨h1, fun j hj hn => by rw [← e j hn]; exact h2 j hj hn, ?_⟩
  rcases h3 with h3 | h3
  · exact .inl h3
  · by_cases h0 : L = 0
    · exact .inl h0
    · exact .inr (by rw [← e _ (by omega)]; exact h3)
theorem bitD_01 {d : Nat → Int} (n : Nat) : bitD d n = 0 ∨ bitD d n = 1 := by unfold bitD; omega

/-- the relation of Len's loop -/
def LRel (d : Nat → Int) (w : World) (n i : Value) (wr : World) : Prop :=
  ∃ k m : Nat, k ≤ 256 ∧ m ≤ k ∧ i = .int .i64 k ∧ n = .int .i64 m ∧ LenIs (bitD d) k m ∧ rowOf wr w.heap.size = tab 32 .i64 d ∧ Below w.heap.size w wr ∧ w.heap.size < wr.heap.size

set_option maxHeartbeats 400000 in
theorem refLen_any (d : Nat → Int) (hd : ∀ i, i < 32 → 0 ≤ d i ∧ d i < 256) (w : World) :
    Calls Tryd.prog 93 #[.agg (tab 32 .i64 d)] w fun e w' => ∃ L : Nat, e = .returned (.int .i64 L) ∧ LenIs (bitD d) 256 L ∧ Below w.heap.size w w' := by
  go_enter Tryd.func93, Tryd.ntmps93
  go_wp2_with fail
  go_loopw [3, 4] (fun n i wr => LRel d w n i wr) (fun _ i _ => 256 - (intOf i).toNat)
  case atStart =>
    refine ⟨0, 0, by omega, by omega, rfl, rfl, ⟨by omega, fun j hj hn => by omega, .inl rfl⟩, by simp [go_sem], ?_, by simp⟩
    (repeat' (first | exact Below.refl _ _ | assumption | refine Below.alloc ?_ (by (try simp only [World.size_alloc, World.size_setCell, World.size_drew, setRow_size] at *); first | done | omega) _ | refine Below.setCell ?_ (by (try simp only [World.size_alloc, World.size_setCell, World.size_drew, setRow_size] at *); first | done | omega) _ | refine Below.drew ?_ | refine Below.trans ?_ (Below.mono (by assumption) (by (try simp only [World.size_alloc, World.size_setCell, World.size_drew, setRow_size] at *); first | done | omega)) | refine below_setRow' ?_ (by (try simp only [World.size_alloc, World.size_setCell, World.size_drew, setRow_size] at *); first | done | omega) _))
  case round =>
    obtain ⟨k, m, hk, hm, rfl, rfl, hL, hr, hb, hs⟩ := hrel
    by_cases hlt : k < 256
    · have hC := refBit_any d hd k hlt
      have hL' := Lib.hid hL
      have hd' := Lib.hid hd
      clear hL hd
      rcases bitD_01 (d := d) k with hz | hz
      all_goals
        have hZ := Lib.hid hz
        rw [hz] at hC
        clear hz
        go_wp2_with (go_at_call 110; refine (hC _).mono ?_; rintro e w1 ⟨rfl, hb1⟩; have ⟨gr1, gq1, gs1⟩ := row_facts hb1)
        refine ⟨?_, by simp [intOf]; omega⟩
        obtain ⟨l1, l2, l3⟩ := hL'.out
      · refine ⟨k + 1, m, by omega, by omega, by go_num, rfl, ⟨by omega, fun j hj hn => ?_, l3⟩, ?_, hb.trans (hb1.mono (by omega)), by omega⟩
        · rcases Nat.lt_or_ge j k with h | h
          · exact l2 j hj h
          · obtain rfl : j = k := by omega
            exact hZ.out
        · rw [gr1 _ hs, hr]
      · refine ⟨k + 1, k + 1, by omega, by omega, by go_num, by go_num, ⟨by omega, fun j hj hn => by omega, .inr hZ.out⟩, ?_, hb.trans (hb1.mono (by omega)), by omega⟩
        rw [gr1 _ hs, hr]
    · have hk' : k = 256 := by omega
      subst hk'
      have hL' := Lib.hid hL
      clear hL hd
      go_wp2_with fail
      refine bodyPost_ret (results_tmp rfl _ _ _) rfl ⟨m, rfl, hL'.out, hb⟩

/-- the n-th bit of a word -/
def bitW (a : Nat → Int) (n : Nat) : Int := a (n / 64) / 2 ^ (n % 64) % 2

theorem pdiv_pdiv (x : Int) (m n : Nat) : x / 2 ^ m / 2 ^ n = x / 2 ^ (m + n) := by
  rw [Int.ediv_ediv_of_nonneg (Int.le_of_lt (Int.pow_pos (by omega))), Int.pow_add]
theorem mod_pdiv (x : Int) (n : Nat) (h : n < 8) : x % 256 / 2 ^ n % 2 = x / 2 ^ n % 2 := by
  have : n = 0 ∨ n = 1 ∨ n = 2 ∨ n = 3 ∨ n = 4 ∨ n = 5 ∨ n = 6 ∨ n = 7 := by omega
  rcases this with rfl | rfl | rfl | rfl | rfl | rfl | rfl | rfl <;> omega
theorem bitD_digF (a : Nat → Int) (n : Nat) : bitD (digF a) n = bitW a n := by
  unfold bitD digF bitW
  rw [mod_pdiv _ _ (Nat.mod_lt _ (by omega)), pdiv_pdiv]
  have h1 : n / 8 / 8 = n / 64 := by omega
  have h2 : 8 * (n / 8 % 8) + n % 8 = n % 64 := by omega
  rw [h1, h2]
theorem digF_bd (a : Nat → Int) (i : Nat) : 0 ≤ digF a i ∧ digF a i < 256 := by unfold digF; omega

theorem bitLen_len (x : Nat) (hx : x < 18446744073709551616) : (x ≠ 0 → 1 ≤ Lib.bitLen x ∧ 2 ^ (Lib.bitLen x - 1) ≤ x) ∧ x < 2 ^ Lib.bitLen x ∧ Lib.bitLen x ≤ 64 := by
  have hle : Lib.bitLen x ≤ 64 := Lib.bitLen_le x 64 (by omega) (by simpa using hx)
  by_cases h0 : x = 0
  · subst h0
    exact ⟨fun h => absurd rfl h, by decide, hle⟩
  · obtain ⟨h1, h2, h3⟩ := Lib.bitLenAux_bounds 64 x (by simpa using hx) h0
    exact ⟨fun _ => ⟨h1, h2⟩, h3, hle⟩

/-- the length of the word whose highest lane that is not nought is the k-th -/
theorem lenW (a : Nat → Int) (ha : W64 a) (k : Nat) (hk : k < 4) (h0 : a k ≠ 0) (hz : ∀ j, k < j → j < 4 → a j = 0) : LenIs (bitW a) 256 (64 * k + Lib.bitLen (a k).toNat) := by
  obtain ⟨x, hx⟩ : ∃ x : Nat, a k = x := ⟨(a k).toNat, by have := (ha k hk).1; omega⟩
  have hxb := (ha k hk).2
  obtain ⟨b1, b2, b3⟩ := bitLen_len x (by omega)
  obtain ⟨b4, b5⟩ := b1 (by omega)
  rw [hx]
  simp only [Int.toNat_natCast]
  refine ⟨by omega, fun j hj hn => ?_, .inr ?_⟩
  · unfold bitW
    by_cases hjk : j / 64 = k
    · rw [hjk, hx]
      have h2 : 2 ^ Lib.bitLen x ≤ 2 ^ (j % 64) := Nat.pow_le_pow_right (by omega) (by omega)
      have h3 : x / 2 ^ (j % 64) = 0 := Nat.div_eq_of_lt (by omega)
      have h4 : ((x : Int) / 2 ^ (j % 64)) = ((x / 2 ^ (j % 64) : Nat) : Int) := by rw [Int.natCast_ediv]; simp
      rw [h4, h3]; rfl
    · rw [hz (j / 64) (by omega) (by omega)]; simp
  · unfold bitW
    have h1 : (64 * k + Lib.bitLen x - 1) / 64 = k := by omega
    have h2 : (64 * k + Lib.bitLen x - 1) % 64 = Lib.bitLen x - 1 := by omega
    rw [h1, h2, hx]
    have h3 : x / 2 ^ (Lib.bitLen x - 1) = 1 := by
      have e : 2 ^ Lib.bitLen x = 2 * 2 ^ (Lib.bitLen x - 1) := by
        conv => lhs; rw [show Lib.bitLen x = (Lib.bitLen x - 1) + 1 from by omega, Nat.pow_succ]
        omega
      exact Nat.div_eq_of_lt_le (by omega) (by omega)
    have h4 : ((x : Int) / 2 ^ (Lib.bitLen x - 1)) = ((x / 2 ^ (Lib.bitLen x - 1) : Nat) : Int) := by rw [Int.natCast_ediv]; simp
    rw [h4, h3]; rfl
theorem lenW0 (a : Nat → Int) (hz : ∀ j, j < 4 → a j = 0) : LenIs (bitW a) 256 0 :=
  ⟨by omega, fun j _ hn => by unfold bitW; rw [hz (j / 64) (by omega)]; simp, .inl rfl⟩

set_option maxHeartbeats 400000 in
theorem wordLen_any (a : Nat → Int) (ha : W64 a) (w : World) :
    Calls Tryd.prog 107 #[wv a] w fun e w' => ∃ L : Nat, e = .returned (.int .i64 L) ∧ LenIs (bitW a) 256 L ∧ Below w.heap.size w w' := by
  go_enter Tryd.func107, Tryd.ntmps107
  go_wp2_with fail
  go_loop [3] (fun i => (∃ k : Nat, k < 4 ∧ i = .int .i64 k ∧ ∀ j, k < j → j < 4 → a j = 0) ∨ (i = .int .i64 (-1) ∧ ∀ j, j < 4 → a j = 0)) (fun i => (intOf i + 1).toNat)
  case atStart => exact .inl ⟨3, by omega, rfl, fun j h1 h2 => by omega⟩
  case round =>
    rcases hrel with ⟨k, hk, rfl, hz⟩ | ⟨rfl, hz⟩
    · have hA := ha k hk
      have hz' := Lib.hid hz
      have ha' := Lib.hid ha
      clear hz ha
      by_cases h0 : a k = 0
      · have h1 : (a k != 0) = false := by simp [h0]
        have h0' := Lib.hid h0
        clear h0
        go_wp2_with fail
        refine ⟨?_, by simp [intOf]⟩
        by_cases hk0 : k = 0
        · subst hk0
          refine .inr ⟨rfl, fun j hj => ?_⟩
          by_cases hj0 : j = 0
          · subst hj0; exact h0'.out
          · exact hz'.out j (by omega) hj
        · refine .inl ⟨k - 1, by omega, by go_num, fun j h1 h2 => ?_⟩
          by_cases hj0 : j = k
          · subst hj0; exact h0'.out
          · exact hz'.out j (by omega) h2
      · have h1 : (a k != 0) = true := by simp [h0]
        have h0' := Lib.hid h0
        clear h0
        have hbl : (0 : Int) ≤ Lib.bitLen (a k).toNat ∧ (Lib.bitLen (a k).toNat : Int) ≤ 64 := ⟨by omega, by have := (bitLen_len (a k).toNat (by omega)).2.2; omega⟩
        go_wp2_with (go_at_call 118; refine (Tryd.bits_Len64 _ _ (by omega) (by omega)).mono ?_; rintro e w1 ⟨rfl, rfl⟩)
        refine bodyPost_ret (results_tmp rfl _ _ _) rfl ⟨64 * k + Lib.bitLen (a k).toNat, ret_num (by simp), lenW a ha'.out k hk h0'.out hz'.out, ?_⟩
        · (repeat' (first | exact Below.refl _ _ | assumption | refine Below.alloc ?_ (by (try simp only [World.size_alloc, World.size_setCell, World.size_drew, setRow_size] at *); first | done | omega) _ | refine Below.setCell ?_ (by (try simp only [World.size_alloc, World.size_setCell, World.size_drew, setRow_size] at *); first | done | omega) _ | refine Below.drew ?_ | refine Below.trans ?_ (Below.mono (by assumption) (by (try simp only [World.size_alloc, World.size_setCell, World.size_drew, setRow_size] at *); first | done | omega)) | refine below_setRow' ?_ (by (try simp only [World.size_alloc, World.size_setCell, World.size_drew, setRow_size] at *); first | done | omega) _))
    · have hz' := Lib.hid hz
      clear hz ha
      go_wp2_with fail
      refine bodyPost_ret (results_tmp rfl _ _ _) rfl ⟨0, rfl, lenW0 a hz'.out, ?_⟩
      (repeat' (first | exact Below.refl _ _ | assumption | refine Below.alloc ?_ (by (try simp only [World.size_alloc, World.size_setCell, World.size_drew, setRow_size] at *); first | done | omega) _ | refine Below.setCell ?_ (by (try simp only [World.size_alloc, World.size_setCell, World.size_drew, setRow_size] at *); first | done | omega) _ | refine Below.drew ?_ | refine Below.trans ?_ (Below.mono (by assumption) (by (try simp only [World.size_alloc, World.size_setCell, World.size_drew, setRow_size] at *); first | done | omega)) | refine below_setRow' ?_ (by (try simp only [World.size_alloc, World.size_setCell, World.size_drew, setRow_size] at *); first | done | omega) _))

/-- how many bits a word has -/
noncomputable def lenB (bit : Nat → Int) : Nat := Classical.epsilon (LenIs bit 256)
theorem lenB_eq {bit : Nat → Int} {L : Nat} (h : LenIs bit 256 L) : L = lenB bit := h.unique (Classical.epsilon_spec (p := LenIs bit 256) ⟨L, h⟩)
theorem lenB_is {a : Nat → Int} (ha : W64 a) : LenIs (bitW a) 256 (lenB (bitW a)) := by
  have H : ∃ L, LenIs (bitW a) 256 L := by
    by_cases h3 : a 3 = 0
    · by_cases h2 : a 2 = 0
      · by_cases h1 : a 1 = 0
        · by_cases h0 : a 0 = 0
          · refine ⟨0, lenW0 a fun j hj => ?_⟩
            have : j = 0 ∨ j = 1 ∨ j = 2 ∨ j = 3 := by omega
            rcases this with rfl | rfl | rfl | rfl <;> assumption
          · refine ⟨_, lenW a ha 0 (by omega) h0 fun j h4 hj => ?_⟩
            have : j = 1 ∨ j = 2 ∨ j = 3 := by omega
            rcases this with rfl | rfl | rfl <;> assumption
        · refine ⟨_, lenW a ha 1 (by omega) h1 fun j h4 hj => ?_⟩
          have : j = 2 ∨ j = 3 := by omega
          rcases this with rfl | rfl <;> assumption
      · refine ⟨_, lenW a ha 2 (by omega) h2 fun j h4 hj => ?_⟩
        have : j = 3 := by omega
        subst this; assumption
    · exact ⟨_, lenW a ha 3 (by omega) h3 fun j h4 hj => by omega⟩
  exact Classical.epsilon_spec H
theorem lenB_le {a : Nat → Int} (ha : W64 a) : lenB (bitW a) ≤ 256 := (lenB_is ha).1
theorem wordLen_val (a : Nat → Int) (ha : W64 a) (w : World) :
    Calls Tryd.prog 107 #[wv a] w fun e w' => e = .returned (.int .i64 (lenB (bitW a))) ∧ Below w.heap.size w w' :=
  (wordLen_any a ha w).mono fun _ _ ⟨L, he, hL, hb⟩ => ⟨by rw [he, lenB_eq hL], hb⟩
theorem refLen_val (a : Nat → Int) (w : World) :
    Calls Tryd.prog 93 #[.agg (tab 32 .i64 (digF a))] w fun e w' => e = .returned (.int .i64 (lenB (bitW a))) ∧ Below w.heap.size w w' :=
  (refLen_any (digF a) (fun i _ => digF_bd a i) w).mono fun _ _ ⟨L, he, hL, hb⟩ => ⟨by rw [he, lenB_eq (hL.congr fun j _ => bitD_digF a j)], hb⟩
end Go.Proofs.YtfjigoimjaemmaaDoor
