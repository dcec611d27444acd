/- gas: the walks. -/
import Derived.Test.YtfjigoimjaemmaaBase
namespace Go.Proofs.Ytfjigoimjaemmaa
open Go.RowKit
set_option linter.unusedSimpArgs false
set_option linter.unusedVariables false

set_option maxHeartbeats 400000 in
theorem either_any (c : Bool) (a b : Int) (w : World) :
    Calls Try.prog 79 #[.bool c, .int .u64 a, .int .u64 b] w fun e w' => e = .returned (.int .u64 (if c then a else b)) ∧ w = w' := by
  cases c
  · go_enter Try.func79, Try.ntmps79
    go_wp2
    go_ret
    exact ⟨rfl, rfl⟩
  · go_enter Try.func79, Try.ntmps79
    go_wp2
    go_ret
    exact ⟨rfl, rfl⟩

/-- the list of four noughts -/
def z4 : List Int := tl 4 (fn4 0 0 0 0)

def againF (f n x : List Int) : Int :=
  (if f ≠ z4 ∧ n = z4 then -4800 else 0) + (if f ≠ z4 ∧ x = z4 then 4800 else 0) + (if f = x ∧ f = z4 then 19900 else 0) + (if f = x ∧ f ≠ z4 then 2800 else 0)

theorem ret_int {k : IntKind} {a b : Int} (h : a = b) : Ending.returned (.int k a) = .returned (.int k b) := by rw [h]

set_option maxRecDepth 100000 in
set_option maxHeartbeats 400000 in
theorem again_any (f n x : Nat → Int) (w : World) :
    Calls Try.prog 80 #[wv f, wv n, wv x] w fun e w' => e = .returned (.int .i64 (againF (tl 4 f) (tl 4 n) (tl 4 x))) ∧ Below w.heap.size w w' := by
  go_enter Try.func80, Try.ntmps80
  go_wp2
  all_goals
    go_ret
    refine ⟨ret_int ?_, ?_⟩
    · grind [againF, z4]
    · (repeat' (first | exact Below.refl _ _ | assumption | refine Below.alloc ?_ (by (try simp only [World.size_alloc, World.size_setCell, World.size_drew, setRow_size] at *); omega) _ | refine Below.setCell ?_ (by (try simp only [World.size_alloc, World.size_setCell, World.size_drew, setRow_size] at *); omega) _ | refine Below.drew ?_ | refine Below.trans ?_ (Below.mono (by assumption) (by (try simp only [World.size_alloc, World.size_setCell, World.size_drew, setRow_size] at *); omega)) | refine below_setRow' ?_ (by (try simp only [World.size_alloc, World.size_setCell, World.size_drew, setRow_size] at *); omega) _))

def sstoreF (f n x : List Int) (cold : Bool) : Int × Int :=
  if n = x then ((if cold then 2100 else 0) + 100, 0)
  else if f ≠ n then ((if cold then 2100 else 0) + 100, againF f n x)
  else if f = z4 then ((if cold then 2100 else 0) + 20000, 0)
  else if x = z4 then ((if cold then 2100 else 0) + 2900, 4800)
  else ((if cold then 2100 else 0) + 2900, 0)

theorem ret_int2 {k l : IntKind} {a b c d : Int} (h : (a, c) = (b, d)) : Ending.returned (.tuple #[.int k a, .int l c]) = .returned (.tuple #[.int k b, .int l d]) := by
  injection h with h1 h2; rw [h1, h2]

set_option maxRecDepth 100000 in
set_option maxHeartbeats 400000 in
theorem sstore_any (f n x : Nat → Int) (c : Bool) (w : World) :
    Calls Try.prog 19 #[wv f, wv n, wv x, .bool c] w fun e w' => e = .returned (.tuple #[.int .u64 (sstoreF (tl 4 f) (tl 4 n) (tl 4 x) c).1, .int .i64 (sstoreF (tl 4 f) (tl 4 n) (tl 4 x) c).2]) ∧ Below w.heap.size w w' := by
  cases c
  all_goals
    go_enter Try.func19, Try.ntmps19
    go_wp2_with (first
      | (go_at_call 79; refine (either_any _ _ _ _).mono ?_; rintro e w' ⟨rfl, rfl⟩)
      | (go_at_call 80; refine (again_any _ _ _ _).mono ?_; rintro e w1 ⟨rfl, hb1⟩))
    all_goals
      go_light
      go_ret2
      refine ⟨ret_int2 ?_, ?_⟩
      · grind [sstoreF, z4]
      · (repeat' (first | exact Below.refl _ _ | assumption | refine Below.alloc ?_ (by (try simp only [World.size_alloc, World.size_setCell, World.size_drew, setRow_size] at *); omega) _ | refine Below.setCell ?_ (by (try simp only [World.size_alloc, World.size_setCell, World.size_drew, setRow_size] at *); omega) _ | refine Below.drew ?_ | refine Below.trans ?_ (Below.mono (by assumption) (by (try simp only [World.size_alloc, World.size_setCell, World.size_drew, setRow_size] at *); omega)) | refine below_setRow' ?_ (by (try simp only [World.size_alloc, World.size_setCell, World.size_drew, setRow_size] at *); omega) _))

set_option maxRecDepth 100000 in
set_option maxHeartbeats 1000000 in
theorem refSstore_any (f n x : Nat → Int) (c : Bool) (w : World) :
    Calls Try.prog 20 #[wv f, wv n, wv x, .bool c] w fun e w' => e = .returned (.tuple #[.int .u64 (sstoreF (tl 4 f) (tl 4 n) (tl 4 x) c).1, .int .i64 (sstoreF (tl 4 f) (tl 4 n) (tl 4 x) c).2]) ∧ Below w.heap.size w w' := by
  cases c
  all_goals
    go_enter Try.func20, Try.ntmps20
    go_wp2
    all_goals
      go_light
      go_ret2
      refine ⟨ret_int2 ?_, ?_⟩
      · grind [sstoreF, againF, z4]
      · (repeat' (first | exact Below.refl _ _ | assumption | refine Below.alloc ?_ (by (try simp only [World.size_alloc, World.size_setCell, World.size_drew, setRow_size] at *); omega) _ | refine Below.setCell ?_ (by (try simp only [World.size_alloc, World.size_setCell, World.size_drew, setRow_size] at *); omega) _ | refine Below.drew ?_ | refine Below.trans ?_ (Below.mono (by assumption) (by (try simp only [World.size_alloc, World.size_setCell, World.size_drew, setRow_size] at *); omega)) | refine below_setRow' ?_ (by (try simp only [World.size_alloc, World.size_setCell, World.size_drew, setRow_size] at *); omega) _))

set_option maxRecDepth 100000 in
set_option maxHeartbeats 400000 in
theorem part_any (a : Int) (h0 : 0 ≤ a) (h1 : a < 18446744073709551616) (w : World) :
    Calls Try.prog 22 #[.int .u64 a] w fun e w' => e = .returned (.int .u64 (a - a / 64)) ∧ w = w' := by
  go_enter Try.func22, Try.ntmps22
  go_wp2
  go_ret
  exact ⟨rfl, rfl⟩

set_option maxRecDepth 100000 in
set_option maxHeartbeats 400000 in
theorem refund_any (a b : Int) (h0 : 0 ≤ a) (h1 : a < 18446744073709551616) (w : World) :
    Calls Try.prog 23 #[.int .u64 a, .int .u64 b] w fun e w' => e = .returned (.int .u64 (min b (a / 5))) ∧ w = w' := by
  go_enter Try.func23, Try.ntmps23
  go_wp2
  all_goals
    go_ret
    exact ⟨ret_int (by omega), rfl⟩

set_option maxRecDepth 100000 in
set_option maxHeartbeats 400000 in
theorem fixed12_any (w : World) : Calls Try.prog 21 #[] w fun e w' => e = .returned (.bool true) ∧ Below w.heap.size w w' := by
  have h1 : sstoreF (tl 4 (fn4 0 0 0 0)) (tl 4 (fn4 0 0 0 0)) (tl 4 (fn4 1 0 0 0)) true = (22100, 0) := by decide
  have h2 : sstoreF (tl 4 (fn4 1 0 0 0)) (tl 4 (fn4 1 0 0 0)) (tl 4 (fn4 0 0 0 0)) false = (2900, 4800) := by decide
  go_enter Try.func21, Try.ntmps21
  go_wp2_with (first
    | (go_at_call 19; refine (sstore_any _ _ _ _ _).mono ?_; rintro e w1 ⟨rfl, hb1⟩; have hs1 := hb1.size)
    | (go_at_call 22; refine (part_any _ (by omega) (by omega) _).mono ?_; rintro e w1 ⟨rfl, rfl⟩)
    | (go_at_call 23; refine (refund_any _ _ (by omega) (by omega) _).mono ?_; rintro e w1 ⟨rfl, rfl⟩))
  go_ret
  refine ⟨rfl, ?_⟩
  (repeat' (first | exact Below.refl _ _ | assumption | refine Below.alloc ?_ (by (try simp only [World.size_alloc, World.size_setCell, World.size_drew, setRow_size] at *); omega) _ | refine Below.setCell ?_ (by (try simp only [World.size_alloc, World.size_setCell, World.size_drew, setRow_size] at *); omega) _ | refine Below.drew ?_ | refine Below.trans ?_ (Below.mono (by assumption) (by (try simp only [World.size_alloc, World.size_setCell, World.size_drew, setRow_size] at *); omega)) | refine below_setRow' ?_ (by (try simp only [World.size_alloc, World.size_setCell, World.size_drew, setRow_size] at *); omega) _))

set_option maxRecDepth 100000 in
set_option maxHeartbeats 400000 in
theorem gasStores_any (f n x : Nat → Int) (c : Bool) (w : World) :
    Calls Try.prog 3 #[wv f, wv n, wv x, .bool c] w fun e w' => e = .returned (.bool true) ∧ Below w.heap.size w w' := by
  go_enter Try.func3, Try.ntmps3
  go_wp2_with (first
    | (go_at_call 19; refine (sstore_any _ _ _ _ _).mono ?_; rintro e w1 ⟨rfl, hb1⟩; have ⟨hc1, hf1, hr1, hq1, hs1⟩ := below_facts hb1)
    | (go_at_call 20; refine (refSstore_any _ _ _ _ _).mono ?_; rintro e w2 ⟨rfl, hb2⟩; have hs2 := hb2.size)
    | (go_at_call 21; refine (fixed12_any _).mono ?_; rintro e w3 ⟨rfl, hb3⟩))
  go_ret
  refine ⟨rfl, ?_⟩
  (repeat' (first | exact Below.refl _ _ | assumption | refine Below.alloc ?_ (by (try simp only [World.size_alloc, World.size_setCell, World.size_drew, setRow_size] at *); omega) _ | refine Below.setCell ?_ (by (try simp only [World.size_alloc, World.size_setCell, World.size_drew, setRow_size] at *); omega) _ | refine Below.drew ?_ | refine Below.trans ?_ (Below.mono (by assumption) (by (try simp only [World.size_alloc, World.size_setCell, World.size_drew, setRow_size] at *); omega)) | refine below_setRow' ?_ (by (try simp only [World.size_alloc, World.size_setCell, World.size_drew, setRow_size] at *); omega) _))

end Go.Proofs.Ytfjigoimjaemmaa
