/- bits of bytes: the plain laws of the filter. -/
import Derived.Test.YtfjigoimjaemmaaDoorLib
namespace Go.Proofs.YtfjigoimjaemmaaDoor
open Go.RowKit
set_option linter.unusedSimpArgs false
set_option linter.unusedVariables false

/-- the k-th bit of a byte -/
def bt (x : Int) (k : Nat) : Bool := x.toNat.testBit k
theorem bt_div (x : Int) (h : 0 ≤ x) (k : Nat) : bt x k = decide (x / 2 ^ k % 2 = 1) := by
  obtain ⟨a, rfl⟩ : ∃ a : Nat, x = a := ⟨x.toNat, by omega⟩
  unfold bt
  rw [Int.toNat_natCast, Nat.testBit_eq_decide_div_mod_eq]
  have e : ((a : Int) / 2 ^ k % 2 = 1) ↔ a / 2 ^ k % 2 = 1 := by
    rw [show ((2 : Int) ^ k) = ((2 ^ k : Nat) : Int) by simp]
    omega
  simp only [e]
theorem or8 (x y : Int) (hx : 0 ≤ x ∧ x < 256) (hy : 0 ≤ y ∧ y < 256) : (0 ≤ bits .or .u8 x y ∧ bits .or .u8 x y < 256) ∧ ∀ k, bt (bits .or .u8 x y) k = (bt x k || bt y k) := by
  obtain ⟨a, rfl⟩ : ∃ a : Nat, x = a := ⟨x.toNat, by omega⟩
  obtain ⟨b, rfl⟩ : ∃ b : Nat, y = b := ⟨y.toNat, by omega⟩
  have e : bits .or .u8 (a : Int) (b : Int) = ((a ||| b : Nat) : Int) := by
    show IntKind.u8.wrap ((BitVec.ofInt 8 (a : Int) ||| BitVec.ofInt 8 (b : Int)).toNat : Int) = _
    have ha : (BitVec.ofInt 8 (a : Int)).toNat = a := by rw [BitVec.ofInt_natCast, BitVec.toNat_ofNat]; exact Nat.mod_eq_of_lt (by omega)
    have hb : (BitVec.ofInt 8 (b : Int)).toNat = b := by rw [BitVec.ofInt_natCast, BitVec.toNat_ofNat]; exact Nat.mod_eq_of_lt (by omega)
    have hlt : a ||| b < 2 ^ 8 := Nat.or_lt_two_pow (by omega) (by omega)
    rw [BitVec.toNat_or, ha, hb, IntKind.wrap_u8]
    omega
  have hlt : a ||| b < 2 ^ 8 := Nat.or_lt_two_pow (by omega) (by omega)
  rw [e]
  refine ⟨by omega, fun k => ?_⟩
  unfold bt
  rw [Int.toNat_natCast, Int.toNat_natCast, Int.toNat_natCast, Nat.testBit_or]
theorem bt_pow (j k : Nat) : bt (2 ^ j) k = decide (j = k) := by
  unfold bt
  rw [show ((2 : Int) ^ j) = ((2 ^ j : Nat) : Int) by simp, Int.toNat_natCast, Nat.testBit_two_pow]
theorem bt_ext (x y : Int) (hx : 0 ≤ x ∧ x < 256) (hy : 0 ≤ y ∧ y < 256) (h : ∀ k, k < 8 → bt x k = bt y k) : x = y := by
  obtain ⟨a, rfl⟩ : ∃ a : Nat, x = a := ⟨x.toNat, by omega⟩
  obtain ⟨b, rfl⟩ : ∃ b : Nat, y = b := ⟨y.toNat, by omega⟩
  congr 1
  apply Nat.eq_of_testBit_eq
  intro i
  by_cases hi : i < 8
  · have := h i hi
    unfold bt at this
    simpa using this
  · have hp : 2 ^ 8 ≤ 2 ^ i := Nat.pow_le_pow_right (by omega) (by omega)
    rw [Nat.testBit_lt_two_pow (by omega), Nat.testBit_lt_two_pow (by omega)]
theorem and8_1 (x : Int) (hx : 0 ≤ x ∧ x < 256) : bits .and .u8 x 1 = x % 2 := by
  obtain ⟨a, rfl⟩ : ∃ a : Nat, x = a := ⟨x.toNat, by omega⟩
  show IntKind.u8.wrap ((BitVec.ofInt 8 (a : Int) &&& BitVec.ofInt 8 (1 : Int)).toNat : Int) = _
  have ha : (BitVec.ofInt 8 (a : Int)).toNat = a := by rw [BitVec.ofInt_natCast, BitVec.toNat_ofNat]; exact Nat.mod_eq_of_lt (by omega)
  have hb : (BitVec.ofInt 8 (1 : Int)).toNat = 1 := by decide
  rw [BitVec.toNat_and, ha, hb, Nat.and_one_is_mod, IntKind.wrap_u8]
  omega

/-- 256 bytes -/
def B256 (b : Nat → Int) : Prop := ∀ j, j < 256 → 0 ≤ b j ∧ b j < 256
/-- the i-th bit of a filter -/
def bitB (b : Nat → Int) (i : Nat) : Bool := bt (b (255 - i / 8)) (i % 8)
theorem bitB_ext {b c : Nat → Int} (hb : B256 b) (hc : B256 c) (h : ∀ i, i < 2048 → bitB b i = bitB c i) : tl 256 b = tl 256 c := by
  rw [tl_ext]
  intro j hj
  refine bt_ext _ _ (hb j hj) (hc j hj) fun k hk => ?_
  have := h (8 * (255 - j) + k) (by omega)
  unfold bitB at this
  rw [show 255 - (8 * (255 - j) + k) / 8 = j by omega, show (8 * (255 - j) + k) % 8 = k by omega] at this
  exact this
/-- a filter with a bit more -/
def addF (b : Nat → Int) (p : Nat) : Nat → Int := upd b (255 - p / 8) (bits .or .u8 (b (255 - p / 8)) (2 ^ (p % 8)))
theorem pow8 (p : Nat) : (0 : Int) ≤ 2 ^ (p % 8) ∧ (2 : Int) ^ (p % 8) < 256 := by
  have h : p % 8 < 8 := by omega
  generalize p % 8 = q at h
  match q, h with
  | 0, _ => decide
  | 1, _ => decide
  | 2, _ => decide
  | 3, _ => decide
  | 4, _ => decide
  | 5, _ => decide
  | 6, _ => decide
  | 7, _ => decide
theorem addF_B {b : Nat → Int} (hb : B256 b) (p : Nat) : B256 (addF b p) := fun j hj => by
  unfold addF upd
  split
  · exact (or8 _ _ (hb _ (by omega)) (pow8 p)).1
  · exact hb j hj
theorem bitB_addF {b : Nat → Int} (hb : B256 b) (p i : Nat) (hp : p < 2048) (hi : i < 2048) : bitB (addF b p) i = (decide (i = p) || bitB b i) := by
  unfold bitB addF upd
  by_cases h : 255 - i / 8 = 255 - p / 8
  · rw [if_pos h, (or8 _ _ (hb _ (by omega)) (pow8 p)).2, bt_pow, h, Bool.or_comm]
    congr 1
    rw [decide_eq_decide]
    omega
  · rw [if_neg h]
    have : ¬ i = p := fun e => h (by rw [e])
    simp [this]

/-- the i-th place of a hash -/
def plF (h : Nat → Int) (i : Nat) : Nat := ((256 * h (2 * i) + h (2 * i + 1)) % 2048).toNat
theorem plF_lt (h : Nat → Int) (i : Nat) : plF h i < 2048 := by unfold plF; omega
def add3 (b h : Nat → Int) : Nat → Int := addF (addF (addF b (plF h 0)) (plF h 1)) (plF h 2)
/-- is it one of a hash's places? -/
def inP (h : Nat → Int) (i : Nat) : Bool := decide (i = plF h 0) || decide (i = plF h 1) || decide (i = plF h 2)
theorem add3_B {b : Nat → Int} (hb : B256 b) (h : Nat → Int) : B256 (add3 b h) := addF_B (addF_B (addF_B hb _) _) _
theorem bitB_add3 {b : Nat → Int} (hb : B256 b) (h : Nat → Int) (i : Nat) (hi : i < 2048) : bitB (add3 b h) i = (inP h i || bitB b i) := by
  unfold add3 inP
  rw [bitB_addF (addF_B (addF_B hb _) _) _ _ (plF_lt _ _) hi, bitB_addF (addF_B hb _) _ _ (plF_lt _ _) hi, bitB_addF hb _ _ (plF_lt _ _) hi]
  cases decide (i = plF h 0) <;> cases decide (i = plF h 1) <;> cases decide (i = plF h 2) <;> simp
/-- are all of a hash's places set? -/
def hasF (b h : Nat → Int) : Bool := bitB b (plF h 0) && bitB b (plF h 1) && bitB b (plF h 2)
theorem hasF_of {b h : Nat → Int} (hs : ∀ i, i < 2048 → inP h i = true → bitB b i = true) : hasF b h = true := by
  unfold hasF
  rw [hs _ (plF_lt h 0) (by simp [inP]), hs _ (plF_lt h 1) (by simp [inP]), hs _ (plF_lt h 2) (by simp [inP])]
  rfl
/-- the join of two filters -/
def joinF (a b : Nat → Int) : Nat → Int := fun j => bits .or .u8 (a j) (b j)
theorem joinF_B {a b : Nat → Int} (ha : B256 a) (hb : B256 b) : B256 (joinF a b) := fun j hj => (or8 _ _ (ha j hj) (hb j hj)).1
theorem bitB_join {a b : Nat → Int} (ha : B256 a) (hb : B256 b) (i : Nat) (hi : i < 2048) : bitB (joinF a b) i = (bitB a i || bitB b i) := by
  unfold bitB joinF
  rw [(or8 _ _ (ha _ (by omega)) (hb _ (by omega))).2]

theorem place_bits (a b : Int) (ha : 0 ≤ a ∧ a < 256) (hb : 0 ≤ b ∧ b < 256) : bits .and .i64 (bits .or .i64 (a * 256) b) 2047 = (256 * a + b) % 2048 := by
  obtain ⟨x, rfl⟩ : ∃ x : Nat, a = x := ⟨a.toNat, by omega⟩
  obtain ⟨y, rfl⟩ : ∃ y : Nat, b = y := ⟨b.toNat, by omega⟩
  have e : bits .or .i64 ((x : Int) * 256) (y : Int) = ((256 * x + y : Nat) : Int) := by
    rw [show (x : Int) * 256 = ((x * 256 : Nat) : Int) by omega]
    show IntKind.i64.wrap ((BitVec.ofInt 64 ((x * 256 : Nat) : Int) ||| BitVec.ofInt 64 (y : Int)).toNat : Int) = _
    have h1 : (BitVec.ofInt 64 ((x * 256 : Nat) : Int)).toNat = x * 256 := by rw [BitVec.ofInt_natCast, BitVec.toNat_ofNat]; exact Nat.mod_eq_of_lt (by omega)
    have h2 : (BitVec.ofInt 64 (y : Int)).toNat = y := by rw [BitVec.ofInt_natCast, BitVec.toNat_ofNat]; exact Nat.mod_eq_of_lt (by omega)
    have h3 : x * 256 ||| y = x * 256 + y := by
      have := Nat.shiftLeft_add_eq_or_of_lt (i := 8) (b := y) (by omega) x
      rw [Nat.shiftLeft_eq] at this
      exact this.symm
    rw [BitVec.toNat_or, h1, h2, h3, IntKind.wrap_i64]
    omega
  rw [e]
  show IntKind.i64.wrap ((BitVec.ofInt 64 ((256 * x + y : Nat) : Int) &&& BitVec.ofInt 64 (2047 : Int)).toNat : Int) = _
  have h1 : (BitVec.ofInt 64 ((256 * x + y : Nat) : Int)).toNat = 256 * x + y := by rw [BitVec.ofInt_natCast, BitVec.toNat_ofNat]; exact Nat.mod_eq_of_lt (by omega)
  have h2 : (BitVec.ofInt 64 (2047 : Int)).toNat = 2 ^ 11 - 1 := by decide
  rw [BitVec.toNat_and, h1, h2, Nat.and_two_pow_sub_one_eq_mod, IntKind.wrap_i64]
  omega
end Go.Proofs.YtfjigoimjaemmaaDoor
