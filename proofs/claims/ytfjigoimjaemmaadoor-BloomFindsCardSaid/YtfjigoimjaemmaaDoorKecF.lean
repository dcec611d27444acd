/- keccak: what both ways of a round make, in plain words; they are the same. -/
import Derived.Test.YtfjigoimjaemmaaDoorKecW
namespace Go.Proofs.YtfjigoimjaemmaaDoor
open Go.RowKit
set_option linter.unusedSimpArgs false
set_option linter.unusedVariables false
set_option maxRecDepth 100000

abbrev xr (a b : Int) : Int := bits .xor .u64 a b
abbrev an (a b : Int) : Int := bits .and .u64 a b
/-- the constants, the places, the turns -/
def cstL : List Int := [1, 32898, 9223372036854808714, 9223372039002292224, 32907, 2147483649, 9223372039002292353, 9223372036854808585, 138, 136, 2147516425, 2147483658, 2147516555, 9223372036854775947, 9223372036854808713, 9223372036854808579, 9223372036854808578, 9223372036854775936, 32778, 9223372039002259466, 9223372039002292353, 9223372036854808704, 2147483649, 9223372039002292232]
def plcL : List Int := [10, 7, 11, 17, 18, 3, 5, 16, 8, 21, 24, 4, 15, 23, 19, 13, 12, 2, 20, 14, 22, 9, 6, 1]
def trnL : List Int := [1, 3, 6, 10, 15, 21, 28, 36, 45, 55, 2, 14, 27, 41, 56, 8, 25, 43, 62, 18, 39, 61, 20, 44]
def cstF (i : Nat) : Int := cstL.getD i 0
def plcF (i : Nat) : Int := plcL.getD i 0
def trnF (i : Nat) : Int := trnL.getD i 0
def plcN (i : Nat) : Nat := (plcF i).toNat
def trnN (i : Nat) : Nat := (trnF i).toNat

/-! the given program's round -/
def cK (s : Nat → Int) (x : Nat) : Int := xr (xr (xr (xr (s x) (s (x + 5))) (s (x + 10))) (s (x + 15))) (s (x + 20))
def dK (c : Nat → Int) (x : Nat) : Int := xr (c ((x + 4) % 5)) (rotF (c ((x + 1) % 5)) 1)
def thIn (d : Int) (x : Nat) (f : Nat → Int) : Nat → Nat → Int
  | 0 => f
  | m + 1 => upd (thIn d x f m) (x + 5 * m) (xr (thIn d x f m (x + 5 * m)) d)
def thOut (c s : Nat → Int) : Nat → Nat → Int
  | 0 => s
  | x + 1 => thIn (dK c x) x (thOut c s x) 5
def rpF (s : Nat → Int) : Nat → (Nat → Int) × Int
  | 0 => (s, s 1)
  | i + 1 => (upd (rpF s i).1 (plcN i) (rotF (rpF s i).2 (trnN i)), (rpF s i).1 (plcN i))
/-- a lane's bits turned -/
def notF (a : Int) : Int := bits .xor .u64 IntKind.u64.max a
def chL (r : Nat → Int) (x : Nat) : Int := xr (r x) (an (notF (r ((x + 1) % 5))) (r ((x + 2) % 5)))
def chIn (r : Nat → Int) (y : Nat) (f : Nat → Int) : Nat → Nat → Int
  | 0 => f
  | x + 1 => upd (chIn r y f x) (x + y) (chL r x)
def chOut (f : Nat → Int) : Nat → Nat → Int
  | 0 => f
  | m + 1 => chIn (fun j => chOut f m (5 * m + j)) (5 * m) (chOut f m) 5
def kRound (s : Nat → Int) : Nat → Int := chOut (rpF (thOut (cK s) s 5) 24).1 5

/-! the reference's -/
def cIn (s : Nat → Int) (x : Nat) (f : Nat → Int) : Nat → Nat → Int
  | 0 => f
  | m + 1 => upd (cIn s x f m) x (xr (cIn s x f m x) (s (x + 5 * m)))
def cOut (s : Nat → Int) : Nat → Nat → Int
  | 0 => zf
  | x + 1 => cIn s x (cOut s x) 5
def aIn (s c : Nat → Int) (x : Nat) (f : Nat → Int) : Nat → Nat → Int
  | 0 => f
  | m + 1 => upd (aIn s c x f m) (x + 5 * m) (xr (xr (s (x + 5 * m)) (c ((x + 4) % 5))) (rotF (c ((x + 1) % 5)) 1))
def aOut (s c : Nat → Int) : Nat → Nat → Int
  | 0 => zf
  | x + 1 => aIn s c x (aOut s c x) 5
def bXY : Nat → Nat × Nat
  | 0 => (1, 0)
  | t + 1 => ((bXY t).2, (2 * (bXY t).1 + 3 * (bXY t).2) % 5)
def bF (a : Nat → Int) : Nat → Nat → Int
  | 0 => upd zf 0 (a 0)
  | t + 1 => upd (bF a t) ((bXY t).2 + 5 * ((2 * (bXY t).1 + 3 * (bXY t).2) % 5)) (rotF (a ((bXY t).1 + 5 * (bXY t).2)) ((t + 1) * (t + 2) / 2 % 64))
def oL (b : Nat → Int) (x y : Nat) : Int := xr (b (x + 5 * y)) (an (IntKind.u64.wrap (18446744073709551615 - b ((x + 1) % 5 + 5 * y))) (b ((x + 2) % 5 + 5 * y)))
def oIn (b : Nat → Int) (x : Nat) (f : Nat → Int) : Nat → Nat → Int
  | 0 => f
  | y + 1 => upd (oIn b x f y) (x + 5 * y) (oL b x y)
def oOut (b : Nat → Int) : Nat → Nat → Int
  | 0 => zf
  | x + 1 => oIn b x (oOut b x) 5
def rRound (s : Nat → Int) (k : Int) : Nat → Int := upd (oOut (bF (aOut s (cOut s 5) 5) 24) 5) 0 (xr (oOut (bF (aOut s (cOut s 5) 5) 24) 5 0) k)

/-- f up to k, noughts behind -/
def upK (f : Nat → Int) (k : Nat) : Nat → Int := fun j => if j < k then f j else 0
theorem upK_zero (f : Nat → Int) : upK f 0 = zf := by funext j; simp [upK, zf]
theorem upK_succ (f : Nat → Int) (k : Nat) (v : Int) (h : v = f k) : upd (upK f k) k v = upK f (k + 1) := by
  subst h
  funext j
  unfold upd upK
  by_cases h1 : j = k
  · subst h1; simp
  · by_cases h2 : j < k
    · rw [if_neg h1, if_pos h2, if_pos (by omega)]
    · rw [if_neg h1, if_neg h2, if_neg (by omega)]
theorem upK_tab (f : Nat → Int) (n : Nat) (k : IntKind) : tab n k (upK f n) = tab n k f := tab_ext fun i hi => by simp [upK, hi]

/-! they are the same -/
theorem xr_def (a b : Int) : xr a b = ((BitVec.ofInt 64 a ^^^ BitVec.ofInt 64 b).toNat : Int) := by
  show IntKind.u64.wrap ((BitVec.ofInt 64 a ^^^ BitVec.ofInt 64 b).toNat : Int) = _
  rw [IntKind.wrap_u64]
  have := (BitVec.ofInt 64 a ^^^ BitVec.ofInt 64 b).isLt
  omega
theorem ofInt_toNat (v : BitVec 64) : BitVec.ofInt 64 (v.toNat : Int) = v := by
  rw [BitVec.ofInt_natCast, BitVec.ofNat_toNat, BitVec.setWidth_eq]
theorem xr_assoc (a b c : Int) : xr (xr a b) c = xr a (xr b c) := by
  simp only [xr_def, ofInt_toNat, BitVec.xor_assoc]
theorem xr_zero (a b : Int) : xr (xr 0 a) b = xr a b := by
  simp only [xr_def, ofInt_toNat]
  simp
theorem not_eq (a b : Int) : an (notF a) b = an (IntKind.u64.wrap (18446744073709551615 - a)) b := by
  have : notF a = IntKind.u64.wrap (18446744073709551615 - a) := by
    have h1 : notF a = ((BitVec.allOnes 64 ^^^ BitVec.ofInt 64 a).toNat : Int) := by
      unfold notF
      rw [show IntKind.u64.max = (18446744073709551615 : Int) from rfl]
      exact xr_def _ _
    rw [h1, BitVec.allOnes_xor, IntKind.wrap_u64, BitVec.toNat_not]
    have h2 : ((BitVec.ofInt 64 a).toNat : Int) = a % 18446744073709551616 := by
      rw [BitVec.toNat_ofInt]; omega
    have h3 := (BitVec.ofInt 64 a).isLt
    omega
  rw [this]

theorem th_at (c s : Nat → Int) : ∀ i, i < 25 → thOut c s 5 i = xr (s i) (dK c (i % 5))
  | 0, _ => rfl
  | 1, _ => rfl
  | 2, _ => rfl
  | 3, _ => rfl
  | 4, _ => rfl
  | 5, _ => rfl
  | 6, _ => rfl
  | 7, _ => rfl
  | 8, _ => rfl
  | 9, _ => rfl
  | 10, _ => rfl
  | 11, _ => rfl
  | 12, _ => rfl
  | 13, _ => rfl
  | 14, _ => rfl
  | 15, _ => rfl
  | 16, _ => rfl
  | 17, _ => rfl
  | 18, _ => rfl
  | 19, _ => rfl
  | 20, _ => rfl
  | 21, _ => rfl
  | 22, _ => rfl
  | 23, _ => rfl
  | 24, _ => rfl
  | _ + 25, h => absurd h (by omega)
theorem a_at (s c : Nat → Int) : ∀ i, i < 25 → aOut s c 5 i = xr (xr (s i) (c ((i % 5 + 4) % 5))) (rotF (c ((i % 5 + 1) % 5)) 1)
  | 0, _ => rfl
  | 1, _ => rfl
  | 2, _ => rfl
  | 3, _ => rfl
  | 4, _ => rfl
  | 5, _ => rfl
  | 6, _ => rfl
  | 7, _ => rfl
  | 8, _ => rfl
  | 9, _ => rfl
  | 10, _ => rfl
  | 11, _ => rfl
  | 12, _ => rfl
  | 13, _ => rfl
  | 14, _ => rfl
  | 15, _ => rfl
  | 16, _ => rfl
  | 17, _ => rfl
  | 18, _ => rfl
  | 19, _ => rfl
  | 20, _ => rfl
  | 21, _ => rfl
  | 22, _ => rfl
  | 23, _ => rfl
  | 24, _ => rfl
  | _ + 25, h => absurd h (by omega)
theorem c_at (s : Nat → Int) : ∀ i, i < 5 → cOut s 5 i = xr (xr (xr (xr (xr 0 (s i)) (s (i + 5))) (s (i + 10))) (s (i + 15))) (s (i + 20))
  | 0, _ => rfl
  | 1, _ => rfl
  | 2, _ => rfl
  | 3, _ => rfl
  | 4, _ => rfl
  | _ + 5, h => absurd h (by omega)
/-- where a lane comes from, and by how much it is turned -/
def srcN : List Nat := [0, 6, 12, 18, 24, 3, 9, 10, 16, 22, 1, 7, 13, 19, 20, 4, 5, 11, 17, 23, 2, 8, 14, 15, 21]
def byN : List Nat := [0, 44, 43, 21, 14, 28, 20, 3, 45, 61, 1, 6, 25, 8, 18, 27, 36, 10, 15, 56, 62, 55, 39, 41, 2]
def mvF (a : Nat → Int) (i : Nat) : Int := if i = 0 then a 0 else rotF (a (srcN.getD i 0)) (byN.getD i 0)
theorem rp_at (s : Nat → Int) : ∀ i, i < 25 → (rpF s 24).1 i = mvF s i
  | 0, _ => rfl
  | 1, _ => rfl
  | 2, _ => rfl
  | 3, _ => rfl
  | 4, _ => rfl
  | 5, _ => rfl
  | 6, _ => rfl
  | 7, _ => rfl
  | 8, _ => rfl
  | 9, _ => rfl
  | 10, _ => rfl
  | 11, _ => rfl
  | 12, _ => rfl
  | 13, _ => rfl
  | 14, _ => rfl
  | 15, _ => rfl
  | 16, _ => rfl
  | 17, _ => rfl
  | 18, _ => rfl
  | 19, _ => rfl
  | 20, _ => rfl
  | 21, _ => rfl
  | 22, _ => rfl
  | 23, _ => rfl
  | 24, _ => rfl
  | _ + 25, h => absurd h (by omega)
theorem b_at (a : Nat → Int) : ∀ i, i < 25 → bF a 24 i = mvF a i
  | 0, _ => rfl
  | 1, _ => rfl
  | 2, _ => rfl
  | 3, _ => rfl
  | 4, _ => rfl
  | 5, _ => rfl
  | 6, _ => rfl
  | 7, _ => rfl
  | 8, _ => rfl
  | 9, _ => rfl
  | 10, _ => rfl
  | 11, _ => rfl
  | 12, _ => rfl
  | 13, _ => rfl
  | 14, _ => rfl
  | 15, _ => rfl
  | 16, _ => rfl
  | 17, _ => rfl
  | 18, _ => rfl
  | 19, _ => rfl
  | 20, _ => rfl
  | 21, _ => rfl
  | 22, _ => rfl
  | 23, _ => rfl
  | 24, _ => rfl
  | _ + 25, h => absurd h (by omega)
theorem ch_at (f : Nat → Int) : ∀ i, i < 25 → chOut f 5 i = xr (f i) (an (notF (f (i / 5 * 5 + (i % 5 + 1) % 5))) (f (i / 5 * 5 + (i % 5 + 2) % 5)))
  | 0, _ => rfl
  | 1, _ => rfl
  | 2, _ => rfl
  | 3, _ => rfl
  | 4, _ => rfl
  | 5, _ => rfl
  | 6, _ => rfl
  | 7, _ => rfl
  | 8, _ => rfl
  | 9, _ => rfl
  | 10, _ => rfl
  | 11, _ => rfl
  | 12, _ => rfl
  | 13, _ => rfl
  | 14, _ => rfl
  | 15, _ => rfl
  | 16, _ => rfl
  | 17, _ => rfl
  | 18, _ => rfl
  | 19, _ => rfl
  | 20, _ => rfl
  | 21, _ => rfl
  | 22, _ => rfl
  | 23, _ => rfl
  | 24, _ => rfl
  | _ + 25, h => absurd h (by omega)
theorem o_at (b : Nat → Int) : ∀ i, i < 25 → oOut b 5 i = xr (b i) (an (IntKind.u64.wrap (18446744073709551615 - b (i / 5 * 5 + (i % 5 + 1) % 5))) (b (i / 5 * 5 + (i % 5 + 2) % 5)))
  | 0, _ => rfl
  | 1, _ => rfl
  | 2, _ => rfl
  | 3, _ => rfl
  | 4, _ => rfl
  | 5, _ => rfl
  | 6, _ => rfl
  | 7, _ => rfl
  | 8, _ => rfl
  | 9, _ => rfl
  | 10, _ => rfl
  | 11, _ => rfl
  | 12, _ => rfl
  | 13, _ => rfl
  | 14, _ => rfl
  | 15, _ => rfl
  | 16, _ => rfl
  | 17, _ => rfl
  | 18, _ => rfl
  | 19, _ => rfl
  | 20, _ => rfl
  | 21, _ => rfl
  | 22, _ => rfl
  | 23, _ => rfl
  | 24, _ => rfl
  | _ + 25, h => absurd h (by omega)

theorem src_lt : ∀ i, i < 25 → srcN.getD i 0 < 25 := by decide
theorem ta_eq (s : Nat → Int) (i : Nat) (h : i < 25) : thOut (cK s) s 5 i = aOut s (cOut s 5) 5 i := by
  have e : ∀ j, j < 5 → cOut s 5 j = cK s j := fun j hj => by rw [c_at s j hj, xr_zero]; rfl
  rw [th_at _ _ i h, a_at _ _ i h, dK, e _ (Nat.mod_lt _ (by omega)), e _ (Nat.mod_lt _ (by omega)), xr_assoc]
theorem mv_eq {a b : Nat → Int} (h : ∀ i, i < 25 → a i = b i) (i : Nat) (hi : i < 25) : mvF a i = mvF b i := by
  unfold mvF
  rw [h 0 (by omega), h _ (src_lt i hi)]
theorem round_eq (s : Nat → Int) (k : Int) (i : Nat) (h : i < 25) : upd (kRound s) 0 (xr (kRound s 0) k) i = rRound s k i := by
  have e : ∀ j, j < 25 → kRound s j = oOut (bF (aOut s (cOut s 5) 5) 24) 5 j := by
    intro j hj
    have m : ∀ l, l < 25 → (rpF (thOut (cK s) s 5) 24).1 l = bF (aOut s (cOut s 5) 5) 24 l := fun l hl => by
      rw [rp_at _ l hl, b_at _ l hl]; exact mv_eq (ta_eq s) l hl
    unfold kRound
    rw [ch_at _ j hj, o_at _ j hj, m j hj, m _ (by omega), m _ (by omega), not_eq]
  unfold rRound upd
  rw [e 0 (by omega), e i h]

/-- f up to 25, noughts behind -/
def cl25 (f : Nat → Int) : Nat → Int := fun i => if i < 25 then f i else 0
theorem cl25_tab (f : Nat → Int) (k : IntKind) : tab 25 k (cl25 f) = tab 25 k f := tab_ext fun i hi => by simp [cl25, hi]
def tK (s : Nat → Int) : Nat → Nat → Int
  | 0 => s
  | n + 1 => cl25 (upd (kRound (tK s n)) 0 (xr (kRound (tK s n) 0) (cstF n)))
def tR (s : Nat → Int) : Nat → Nat → Int
  | 0 => s
  | n + 1 => cl25 (rRound (tR s n) (cstF n))
theorem tK_eq (s : Nat → Int) (n : Nat) : tK s n = tR s n := by
  induction n with
  | zero => rfl
  | succ n ih =>
    funext i
    simp only [tK, tR, cl25]
    by_cases h : i < 25
    · rw [if_pos h, if_pos h, ih]; exact round_eq _ _ i h
    · rw [if_neg h, if_neg h]
/-- a state behind all rounds -/
def turnF (s : Nat → Int) : Nat → Int := tR s 24
end Go.Proofs.YtfjigoimjaemmaaDoor
