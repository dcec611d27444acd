/- a frame's memory: the walks. -/
import Derived.Test.YtfjigoimjaemmaaOwn
import Derived.Test.YtfjigoimjaemmaaWordsW
import Derived.Test.YtfjigoimjaemmaaShelf
import Derived.Deep.RegionHeld3
import Derived.Deep.DrawnRows
namespace Go.Proofs.Ytfjigoimjaemmaa
open Go.RowKit
set_option linter.unusedSimpArgs false
set_option linter.unusedVariables false
set_option maxRecDepth 100000

theorem bytesElem : IntElem Try.prog 38 5 .u8 1 := .mk' Try.underlying38 (by kernel_rfl)

/-- block g is a memory whose bytes are l; v is the slice in it -/
def MemIs (w : World) (lo g : Nat) (v : Value) (l : List Int) : Prop :=
  rowOf w g = #[v] ∧ rowFit w g = some 1 ∧ OwnI w lo 5 .u8 v l ∧ lo ≤ g ∧ g < w.heap.size ∧ v.ownBlock ≠ some g

/-- a word whose upper three parts are nought -/
def smallB (a : Nat → Int) : Bool := decide (a 1 = 0 ∧ a 2 = 0 ∧ a 3 = 0)

theorem or_zero (x y : Int) (hx : 0 ≤ x ∧ x < 18446744073709551616) (hy : 0 ≤ y ∧ y < 18446744073709551616) : 0 ≤ bits .or .u64 x y ∧ bits .or .u64 x y < 18446744073709551616 ∧ (bits .or .u64 x y = 0 ↔ x = 0 ∧ y = 0) := by
  obtain ⟨a, rfl⟩ : ∃ a : Nat, x = a := ⟨x.toNat, by omega⟩
  obtain ⟨b, rfl⟩ : ∃ b : Nat, y = b := ⟨y.toNat, by omega⟩
  have e : bits .or .u64 (a : Int) (b : Int) = ((a ||| b : Nat) : Int) := by
    show IntKind.u64.wrap ((BitVec.ofInt 64 (a : Int) ||| BitVec.ofInt 64 (b : Int)).toNat : Int) = _
    have ha : (BitVec.ofInt 64 (a : Int)).toNat = a := by rw [BitVec.ofInt_natCast, BitVec.toNat_ofNat]; exact Nat.mod_eq_of_lt (by omega)
    have hb : (BitVec.ofInt 64 (b : Int)).toNat = b := by rw [BitVec.ofInt_natCast, BitVec.toNat_ofNat]; exact Nat.mod_eq_of_lt (by omega)
    have hlt : a ||| b < 2 ^ 64 := Nat.or_lt_two_pow (by omega) (by omega)
    rw [BitVec.toNat_or, ha, hb, IntKind.wrap_u64]
    omega
  have hlt : a ||| b < 2 ^ 64 := Nat.or_lt_two_pow (by omega) (by omega)
  have h0 : a ||| b = 0 ↔ a = 0 ∧ b = 0 := Nat.or_eq_zero_iff
  rw [e]
  omega

set_option maxHeartbeats 400000 in
theorem wordSmall_any (a : Nat → Int) (h1 : 0 ≤ a 1 ∧ a 1 < 18446744073709551616) (h2 : 0 ≤ a 2 ∧ a 2 < 18446744073709551616) (h3 : 0 ≤ a 3 ∧ a 3 < 18446744073709551616) (w : World) :
    Calls Try.prog 114 #[wv a] w fun e w' => e = .returned (.tuple #[.int .u64 (if smallB a then a 0 else 0), .bool (smallB a)]) ∧ Below w.heap.size w w' := by
  obtain ⟨b1, b2, b3⟩ := or_zero (a 1) (a 2) h1 h2
  obtain ⟨c1, c2, c3⟩ := or_zero (bits .or .u64 (a 1) (a 2)) (a 3) ⟨b1, b2⟩ h3
  obtain ⟨y, hy⟩ : ∃ y, smallB a = y := ⟨_, rfl⟩
  have hy' : y = decide (a 1 = 0 ∧ a 2 = 0 ∧ a 3 = 0) := hy.symm
  rw [hy]
  cases y
  · have ht : (bits .or .u64 (bits .or .u64 (a 1) (a 2)) (a 3) != 0) = true := by
      have := of_decide_eq_false hy'.symm
      simp only [bne_iff_ne, ne_eq]
      intro hz
      have h1 := c3.1 hz
      exact this ⟨(b3.1 h1.1).1, (b3.1 h1.1).2, h1.2⟩
    clear hy hy' b1 b2 b3 c1 c2 c3
    go_enter Try.func114, Try.ntmps114
    go_wp2
    go_ret2
    refine ⟨rfl, ?_⟩
    (repeat' (first | exact Below.refl _ _ | assumption | refine Below.alloc ?_ (by (try simp only [World.size_alloc, World.size_setCell, World.size_drew, setRow_size] at *); first | done | omega) _ | refine Below.setCell ?_ (by (try simp only [World.size_alloc, World.size_setCell, World.size_drew, setRow_size] at *); first | done | omega) _ | refine Below.drew ?_ | refine Below.trans ?_ (Below.mono (by assumption) (by (try simp only [World.size_alloc, World.size_setCell, World.size_drew, setRow_size] at *); first | done | omega)) | refine below_setRow' ?_ (by (try simp only [World.size_alloc, World.size_setCell, World.size_drew, setRow_size] at *); first | done | omega) _))
  · have ht : (bits .or .u64 (bits .or .u64 (a 1) (a 2)) (a 3) != 0) = false := by
      have := of_decide_eq_true hy'.symm
      have hz := c3.2 ⟨b3.2 ⟨this.1, this.2.1⟩, this.2.2⟩
      simp [hz]
    clear hy hy' b1 b2 b3 c1 c2 c3
    go_enter Try.func114, Try.ntmps114
    go_wp2
    go_ret2
    refine ⟨rfl, ?_⟩
    (repeat' (first | exact Below.refl _ _ | assumption | refine Below.alloc ?_ (by (try simp only [World.size_alloc, World.size_setCell, World.size_drew, setRow_size] at *); first | done | omega) _ | refine Below.setCell ?_ (by (try simp only [World.size_alloc, World.size_setCell, World.size_drew, setRow_size] at *); first | done | omega) _ | refine Below.drew ?_ | refine Below.trans ?_ (Below.mono (by assumption) (by (try simp only [World.size_alloc, World.size_setCell, World.size_drew, setRow_size] at *); first | done | omega)) | refine below_setRow' ?_ (by (try simp only [World.size_alloc, World.size_setCell, World.size_drew, setRow_size] at *); first | done | omega) _))

set_option maxHeartbeats 400000 in
theorem memLen_any (w : World) (lo g : Nat) (v : Value) (l : List Int) (h : MemIs w lo g v l) (hl : l.length ≤ maxLen) :
    Calls Try.prog 39 #[.pointer (some ⟨g, 0, none⟩)] w fun e w' => e = .returned (.int .i64 l.length) ∧ w = w' := by
  obtain ⟨hr, hf, ho, hg, hgs, hne⟩ := h
  obtain ⟨A, c, rfl, _, _⟩ := ho.form
  clear ho hne
  unfold maxLen at hl
  go_enter Try.func39, Try.ntmps39
  go_wp2
  go_ret
  exact ⟨rfl, rfl⟩

/-- how many words reach some bytes, if that is not refused -/
def reachF (len : Nat) (a k : Nat → Int) : Option Int :=
  if tl 4 k = z4 then some (len / 32)
  else if smallB a = true ∧ smallB k = true ∧ a 0 + k 0 ≤ 4194304 then some (max (len / 32) (wordsF (a 0 + k 0)))
  else none
def reachV (r : Option Int) : Value := match r with | some x => .tuple #[.int .u64 x, .bool true] | none => .tuple #[.int .u64 0, .bool false]

/-- four numbers of 64 bits -/
def Wd (a : Nat → Int) : Prop := (0 ≤ a 0 ∧ a 0 < 18446744073709551616) ∧ (0 ≤ a 1 ∧ a 1 < 18446744073709551616) ∧ (0 ≤ a 2 ∧ a 2 < 18446744073709551616) ∧ (0 ≤ a 3 ∧ a 3 < 18446744073709551616)

set_option maxHeartbeats 1000000 in
theorem memreach_any (w : World) (lo g : Nat) (v : Value) (l : List Int) (h : MemIs w lo g v l) (hl : l.length ≤ 4194304) (a k : Nat → Int) (ha : Wd a) (hk : Wd k) :
    Calls Try.prog 82 #[.pointer (some ⟨g, 0, none⟩), wv a, wv k] w fun e w' => e = .returned (reachV (reachF l.length a k)) ∧ Below w.heap.size w w' := by
  obtain ⟨hr, hf, ho, hg, hgs, hne⟩ := h
  obtain ⟨A, c, rfl, _, _⟩ := ho.form
  clear ho hne
  obtain ⟨⟨a0, a0'⟩, a1, a2, a3⟩ := ha
  obtain ⟨⟨k0, k0'⟩, k1, k2, k3⟩ := hk
  have hw : 0 ≤ wordsF (a 0 + k 0) := by unfold wordsF; omega
  by_cases hz : tl 4 k = tl 4 (fn4 0 0 0 0)
  · have hF : reachF l.length a k = some ((l.length : Int) / 32) := by unfold reachF z4; rw [if_pos hz]
    rw [hF]
    clear hF
    go_enter Try.func82, Try.ntmps82
    go_wp2_with fail
    go_ret2
    refine ⟨rfl, ?_⟩
    (repeat' (first | exact Below.refl _ _ | assumption | refine Below.alloc ?_ (by (try simp only [World.size_alloc, World.size_setCell, World.size_drew, setRow_size] at *); first | done | omega) _ | refine Below.setCell ?_ (by (try simp only [World.size_alloc, World.size_setCell, World.size_drew, setRow_size] at *); first | done | omega) _ | refine Below.drew ?_ | refine Below.trans ?_ (Below.mono (by assumption) (by (try simp only [World.size_alloc, World.size_setCell, World.size_drew, setRow_size] at *); first | done | omega)) | refine below_setRow' ?_ (by (try simp only [World.size_alloc, World.size_setCell, World.size_drew, setRow_size] at *); first | done | omega) _))
  · have hF : reachF l.length a k = if smallB a = true ∧ smallB k = true ∧ a 0 + k 0 ≤ 4194304 then some (max ((l.length : Int) / 32) (wordsF (a 0 + k 0))) else none := by unfold reachF z4; rw [if_neg hz]
    rw [hF]
    clear hF
    cases hsa : smallB a <;> cases hsk : smallB k
    all_goals
      have hA := wordSmall_any a a1 a2 a3
      have hK := wordSmall_any k k1 k2 k3
      rw [hsa] at hA
      rw [hsk] at hK
      have hA' := Lib.hid hA
      have hK' := Lib.hid hK
      clear hA hK hsa hsk
    case true.true =>
      by_cases h1 : 4194304 < a 0
      · rw [if_neg (by omega)]
        go_enter Try.func82, Try.ntmps82
        go_wp2_with (first
          | (go_at_call 30; refine (memWords_any _ (by omega) (by omega) _).mono ?_; rintro e w3 ⟨rfl, rfl⟩)
          | (go_at_call 114; first | (with_reducible refine (hA'.out _).mono ?_; rintro e w1 ⟨rfl, hb1⟩; have ⟨gr1, gq1, gs1⟩ := row_facts hb1) | (with_reducible refine (hK'.out _).mono ?_; rintro e w2 ⟨rfl, hb2⟩; have ⟨gr2, gq2, gs2⟩ := row_facts hb2)))
        all_goals
          go_light
          go_ret2
          refine ⟨?_, ?_⟩
          · first | rfl | (unfold reachV; simp only []; congr 3; omega)
          · (repeat' (first | exact Below.refl _ _ | assumption | refine Below.alloc ?_ (by (try simp only [World.size_alloc, World.size_setCell, World.size_drew, setRow_size] at *); first | done | omega) _ | refine Below.setCell ?_ (by (try simp only [World.size_alloc, World.size_setCell, World.size_drew, setRow_size] at *); first | done | omega) _ | refine Below.drew ?_ | refine Below.trans ?_ (Below.mono (by assumption) (by (try simp only [World.size_alloc, World.size_setCell, World.size_drew, setRow_size] at *); first | done | omega)) | refine below_setRow' ?_ (by (try simp only [World.size_alloc, World.size_setCell, World.size_drew, setRow_size] at *); first | done | omega) _))
      · by_cases h2 : 4194304 < k 0
        · rw [if_neg (by omega)]
          go_enter Try.func82, Try.ntmps82
          go_wp2_with (first
            | (go_at_call 30; refine (memWords_any _ (by omega) (by omega) _).mono ?_; rintro e w3 ⟨rfl, rfl⟩)
            | (go_at_call 114; first | (with_reducible refine (hA'.out _).mono ?_; rintro e w1 ⟨rfl, hb1⟩; have ⟨gr1, gq1, gs1⟩ := row_facts hb1) | (with_reducible refine (hK'.out _).mono ?_; rintro e w2 ⟨rfl, hb2⟩; have ⟨gr2, gq2, gs2⟩ := row_facts hb2)))
          all_goals
            go_light
            go_ret2
            refine ⟨?_, ?_⟩
            · first | rfl | (unfold reachV; simp only []; congr 3; omega)
            · (repeat' (first | exact Below.refl _ _ | assumption | refine Below.alloc ?_ (by (try simp only [World.size_alloc, World.size_setCell, World.size_drew, setRow_size] at *); first | done | omega) _ | refine Below.setCell ?_ (by (try simp only [World.size_alloc, World.size_setCell, World.size_drew, setRow_size] at *); first | done | omega) _ | refine Below.drew ?_ | refine Below.trans ?_ (Below.mono (by assumption) (by (try simp only [World.size_alloc, World.size_setCell, World.size_drew, setRow_size] at *); first | done | omega)) | refine below_setRow' ?_ (by (try simp only [World.size_alloc, World.size_setCell, World.size_drew, setRow_size] at *); first | done | omega) _))
        · by_cases h3 : 4194304 < a 0 + k 0
          · rw [if_neg (by omega)]
            go_enter Try.func82, Try.ntmps82
            go_wp2_with (first
              | (go_at_call 30; refine (memWords_any _ (by omega) (by omega) _).mono ?_; rintro e w3 ⟨rfl, rfl⟩)
              | (go_at_call 114; first | (with_reducible refine (hA'.out _).mono ?_; rintro e w1 ⟨rfl, hb1⟩; have ⟨gr1, gq1, gs1⟩ := row_facts hb1) | (with_reducible refine (hK'.out _).mono ?_; rintro e w2 ⟨rfl, hb2⟩; have ⟨gr2, gq2, gs2⟩ := row_facts hb2)))
            all_goals
              go_light
              go_ret2
              refine ⟨?_, ?_⟩
              · first | rfl | (unfold reachV; simp only []; congr 3; omega)
              · (repeat' (first | exact Below.refl _ _ | assumption | refine Below.alloc ?_ (by (try simp only [World.size_alloc, World.size_setCell, World.size_drew, setRow_size] at *); first | done | omega) _ | refine Below.setCell ?_ (by (try simp only [World.size_alloc, World.size_setCell, World.size_drew, setRow_size] at *); first | done | omega) _ | refine Below.drew ?_ | refine Below.trans ?_ (Below.mono (by assumption) (by (try simp only [World.size_alloc, World.size_setCell, World.size_drew, setRow_size] at *); first | done | omega)) | refine below_setRow' ?_ (by (try simp only [World.size_alloc, World.size_setCell, World.size_drew, setRow_size] at *); first | done | omega) _))
          · rw [if_pos ⟨rfl, rfl, by omega⟩]
            go_enter Try.func82, Try.ntmps82
            go_wp2_with (first
              | (go_at_call 30; refine (memWords_any _ (by omega) (by omega) _).mono ?_; rintro e w3 ⟨rfl, rfl⟩)
              | (go_at_call 114; first | (with_reducible refine (hA'.out _).mono ?_; rintro e w1 ⟨rfl, hb1⟩; have ⟨gr1, gq1, gs1⟩ := row_facts hb1) | (with_reducible refine (hK'.out _).mono ?_; rintro e w2 ⟨rfl, hb2⟩; have ⟨gr2, gq2, gs2⟩ := row_facts hb2)))
            all_goals
              go_light
              go_ret2
              refine ⟨?_, ?_⟩
              · first | rfl | (unfold reachV; simp only []; congr 3; omega)
              · (repeat' (first | exact Below.refl _ _ | assumption | refine Below.alloc ?_ (by (try simp only [World.size_alloc, World.size_setCell, World.size_drew, setRow_size] at *); first | done | omega) _ | refine Below.setCell ?_ (by (try simp only [World.size_alloc, World.size_setCell, World.size_drew, setRow_size] at *); first | done | omega) _ | refine Below.drew ?_ | refine Below.trans ?_ (Below.mono (by assumption) (by (try simp only [World.size_alloc, World.size_setCell, World.size_drew, setRow_size] at *); first | done | omega)) | refine below_setRow' ?_ (by (try simp only [World.size_alloc, World.size_setCell, World.size_drew, setRow_size] at *); first | done | omega) _))
    all_goals
      rw [if_neg (by simp)]
      go_enter Try.func82, Try.ntmps82
      go_wp2_with (first
        | (go_at_call 30; refine (memWords_any _ (by omega) (by omega) _).mono ?_; rintro e w3 ⟨rfl, rfl⟩)
        | (go_at_call 114; first | (with_reducible refine (hA'.out _).mono ?_; rintro e w1 ⟨rfl, hb1⟩; have ⟨gr1, gq1, gs1⟩ := row_facts hb1) | (with_reducible refine (hK'.out _).mono ?_; rintro e w2 ⟨rfl, hb2⟩; have ⟨gr2, gq2, gs2⟩ := row_facts hb2)))
      all_goals
        go_light
        go_ret2
        refine ⟨?_, ?_⟩
        · first | rfl | (unfold reachV; simp only []; congr 3; omega)
        · (repeat' (first | exact Below.refl _ _ | assumption | refine Below.alloc ?_ (by (try simp only [World.size_alloc, World.size_setCell, World.size_drew, setRow_size] at *); first | done | omega) _ | refine Below.setCell ?_ (by (try simp only [World.size_alloc, World.size_setCell, World.size_drew, setRow_size] at *); first | done | omega) _ | refine Below.drew ?_ | refine Below.trans ?_ (Below.mono (by assumption) (by (try simp only [World.size_alloc, World.size_setCell, World.size_drew, setRow_size] at *); first | done | omega)) | refine below_setRow' ?_ (by (try simp only [World.size_alloc, World.size_setCell, World.size_drew, setRow_size] at *); first | done | omega) _))

/-- what so many words cost -/
def priceF (n : Int) : Int := if 4294967296 < n then 18446744073709551615 else 3 * n + n * n / 512

theorem or_nil (x : Int) (h : 0 ≤ x ∧ x < 18446744073709551616) : bits .or .u64 0 x = x ∧ bits .or .u64 x 0 = x := by
  obtain ⟨a, rfl⟩ : ∃ a : Nat, x = a := ⟨x.toNat, by omega⟩
  have ha : (BitVec.ofInt 64 (a : Int)).toNat = a := by rw [BitVec.ofInt_natCast, BitVec.toNat_ofNat]; exact Nat.mod_eq_of_lt (by omega)
  constructor
  · show IntKind.u64.wrap ((BitVec.ofInt 64 (0 : Int) ||| BitVec.ofInt 64 (a : Int)).toNat : Int) = _
    rw [BitVec.toNat_or, ha, IntKind.wrap_u64]
    simp; omega
  · show IntKind.u64.wrap ((BitVec.ofInt 64 (a : Int) ||| BitVec.ofInt 64 (0 : Int)).toNat : Int) = _
    rw [BitVec.toNat_or, ha, IntKind.wrap_u64]
    simp; omega

set_option maxHeartbeats 1000000 in
theorem memPrice_any (n : Int) (h0 : 0 ≤ n) (h1 : n < 18446744073709551616) (w : World) :
    Calls Try.prog 33 #[.int .u64 n] w fun e w' => e = .returned (.int .u64 (priceF n)) ∧ w = w' := by
  unfold priceF
  by_cases hg : 4294967296 < n
  · rw [if_pos hg]
    go_enter Try.func33, Try.ntmps33
    go_wp2_with fail
    go_ret
    exact ⟨rfl, rfl⟩
  · rw [if_neg hg]
    obtain ⟨m, rfl⟩ : ∃ m : Nat, n = m := ⟨n.toNat, by omega⟩
    have hM := Try.bits_Mul64 m m (by omega) (by omega) w
    by_cases he : m = 4294967296
    · subst he
      have hM' := Lib.hid hM
      clear hM
      have ho := (or_nil 36028797018963968 (by omega)).2
      go_enter Try.func33, Try.ntmps33
      go_wp2_with (go_at_call 81; refine hM'.out.mono ?_; rintro e w1 ⟨rfl, rfl⟩)
      go_ret
      exact ⟨ret_i (by simp), rfl⟩
    · have hlt : m ≤ 4294967295 := by omega
      have hsq : m * m ≤ 4294967295 * 4294967295 := Nat.mul_le_mul hlt hlt
      have hq : m * m / 18446744073709551616 = 0 := Nat.div_eq_of_lt (by omega)
      have hr : m * m % 18446744073709551616 = m * m := Nat.mod_eq_of_lt (by omega)
      rw [hq, hr] at hM
      have ho := or_nil (((m * m : Nat) : Int) / 512) (by omega)
      have ho1 := ho.1
      have hM' := Lib.hid hM
      obtain ⟨x, hx⟩ : ∃ x, m * m = x := ⟨_, rfl⟩
      have e1 : (m : Int) * m = x := by rw [← hx]; simp
      rw [e1]
      rw [hx] at hsq ho1 hM'
      clear hM hq hr ho hx e1
      go_enter Try.func33, Try.ntmps33
      go_wp2_with (go_at_call 81; refine hM'.out.mono ?_; rintro e w1 ⟨rfl, rfl⟩)
      go_ret
      exact ⟨rfl, rfl⟩

end Go.Proofs.Ytfjigoimjaemmaa
