/- gas: the walk of GasNever. -/
import Derived.Test.YtfjigoimjaemmaaGas2W
import Derived.Test.YtfjigoimjaemmaaRead
namespace Go.Proofs.Ytfjigoimjaemmaa
open Go.RowKit
set_option linter.unusedSimpArgs false
set_option linter.unusedVariables false
set_option maxRecDepth 100000

/-- what is known of the sums behind k stores to a slot that was f at first and is n now: m times it has come back -/
def NInv (f n : List Int) (k : Nat) (R C : Int) : Prop :=
  0 ≤ R ∧ R ≤ 24700 * k ∧ 100 * k ≤ C ∧ C ≤ 20000 * k ∧
  ∃ m : Int, 0 ≤ m ∧ R = (if f ≠ z4 ∧ n = z4 then 4800 else 0) + (if f = z4 then 19900 else 2800) * m ∧
    (if f = z4 then 20100 else 3000) * m + (if f = n then 0 else if f = z4 then 20000 else 2900) ≤ C

theorem ninv_start (f : List Int) : NInv f f 0 0 0 := by
  refine ⟨by omega, by omega, by omega, by omega, 0, by omega, ?_, ?_⟩
  · by_cases h : f = z4 <;> simp [h]
  · simp

theorem ninv_end {f n : List Int} {k : Nat} {R C : Int} (h : NInv f n k R C) (he : f = n) (hk : 0 < k) : R < C := by
  obtain ⟨h1, h2, h3, h4, m, hm, hR, hC⟩ := h
  subst he
  by_cases hz : f = z4 <;> simp [hz] at hR hC <;> omega

theorem ninv_step {f n : List Int} {k : Nat} {R C c r : Int} (h : NInv f n k R C) (x : List Int) (hs : sstoreF f n x false = (c, r)) :
    NInv f x (k + 1) (R + r) (C + c) ∧ 0 ≤ c ∧ c ≤ 20000 ∧ -4800 ≤ r ∧ r ≤ 24700 := by
  obtain ⟨h1, h2, h3, h4, m, hm, hR, hC⟩ := h
  have hk : ((k + 1 : Nat) : Int) = k + 1 := by omega
  have hd : ∃ m' : Int, 0 ≤ m' ∧ R + r = (if f ≠ z4 ∧ x = z4 then 4800 else 0) + (if f = z4 then 19900 else 2800) * m' ∧
      (if f = z4 then 20100 else 3000) * m' + (if f = x then 0 else if f = z4 then 20000 else 2900) ≤ C + c ∧ 0 ≤ r + R ∧ 100 ≤ c ∧ c ≤ 20000 ∧ -4800 ≤ r ∧ r ≤ 24700 := by
    refine ⟨if f ≠ n ∧ f = x then m + 1 else m, ?_, ?_, ?_, ?_, ?_, ?_, ?_, ?_⟩
    all_goals
      unfold sstoreF againF at hs
      by_cases hfz : f = z4 <;> by_cases hnz : n = z4 <;> by_cases hxz : x = z4 <;> by_cases hnx : n = x <;> by_cases hfn : f = n <;> by_cases hfx : f = x
      all_goals
        simp [hfz, hnz, hxz, hnx, hfn, hfx] at hs hR hC ⊢
      all_goals grind
  obtain ⟨m', a1, a2, a3, a4, a5, a6, a7, a8⟩ := hd
  exact ⟨⟨by omega, by omega, by omega, by omega, m', a1, a2, a3⟩, by omega, a6, a7, a8⟩

/-- what holds at each round's head -/
def NRel (f : Nat → Int) (x : Nat → Nat → Int) (len : Nat) (w : World) (r c i : Value) (wr : World) : Prop :=
  ∃ (k : Nat) (R C : Int) (now : Nat → Int), k ≤ len ∧ i = .int .i64 k ∧ r = .int .i64 R ∧ c = .int .u64 C ∧ NInv (tl 4 f) (tl 4 now) k R C ∧
    rowOf wr w.heap.size = tab 4 .u64 f ∧ rowOf wr (w.heap.size + 1) = tab 4 .u64 now ∧ rowFit wr (w.heap.size + 1) = some 4 ∧ Below w.heap.size w wr ∧ w.heap.size + 1 < wr.heap.size

theorem sstore_hid (f n x : Nat → Int) (w : World) :
    Calls Try.prog 19 #[wv f, wv n, wv x, .bool false] w fun e w' => ∃ c r : Int, e = .returned (.tuple #[.int .u64 c, .int .i64 r]) ∧ Hid (sstoreF (tl 4 f) (tl 4 n) (tl 4 x) false = (c, r)) ∧ Below w.heap.size w w' :=
  (sstore_any f n x false w).mono fun _ _ ⟨he, hb⟩ => ⟨_, _, he, rfl, hb⟩

set_option maxHeartbeats 1000000 in
theorem gasNever_any (f : Nat → Int) (x : Nat → Nat → Int) (A : Option Addr) (len cap : Nat) (w : World) (hx : Words w A len x) (hlen : len ≤ 500) :
    Calls Try.prog 4 #[wv f, .slice A len cap] w fun e w' => e = .returned (.bool true) ∧ Below w.heap.size w w' := by
  go_enter Try.func4, Try.ntmps4
  go_wp2_with fail
  go_loopw [6, 7, 19] (fun r c i wr => NRel f x len w r c i wr) (fun _ _ i _ => len - (intOf i).toNat)
  case atStart =>
    refine ⟨0, 0, 0, f, by omega, rfl, rfl, rfl, ninv_start _, ?_, ?_, ?_, ?_, ?_⟩
    · simp [go_sem]
    · simp [go_sem]
    · simp [go_sem]
    · (repeat' (first | exact Below.refl _ _ | assumption | refine Below.alloc ?_ (by (try simp only [World.size_alloc, World.size_setCell, World.size_drew, setRow_size] at *); omega) _ | refine Below.setCell ?_ (by (try simp only [World.size_alloc, World.size_setCell, World.size_drew, setRow_size] at *); omega) _ | refine Below.drew ?_ | refine Below.trans ?_ (Below.mono (by assumption) (by (try simp only [World.size_alloc, World.size_setCell, World.size_drew, setRow_size] at *); omega)) | refine below_setRow' ?_ (by (try simp only [World.size_alloc, World.size_setCell, World.size_drew, setRow_size] at *); omega) _))
    · simp
  case round =>
    obtain ⟨k, R, C, now, hk, rfl, rfl, rfl, hinv, hr0, hr1, hf1, hb, hsz⟩ := hrel
    have hsz0 : w.heap.size < wr.heap.size := by omega
    by_cases hlt : k < len
    · obtain ⟨a, rfl, ha, hld⟩ := (hx.below (Nat.le_refl _) hb).load hlt
      have hI := Lib.hid hinv
      clear hinv
      go_wp2_with (first
        | (go_at_call 19; refine (sstore_hid _ _ _ _).mono ?_; rintro e w1 ⟨c, r, rfl, hcr, hb1⟩; have ⟨gc1, gz1, gr1, gq1, gs1⟩ := below_facts hb1; have hn := ninv_step hI.out _ hcr.out; have ⟨q1, q2, q3, q4⟩ := hn.2; have q5 := hn.1.1; have q6 := hn.1.2.2.2.1; have hJ := Lib.hid hn.1; clear hn hcr; have ⟨o1, o2, o3, o4, _⟩ := hI.out))
      refine ⟨⟨k + 1, R + r, C + c, x k, by omega, by go_num, rfl, rfl, hJ.out, ?_, ?_, ?_, ?_, ?_⟩, by simp [intOf]; omega⟩
      all_goals (clear hx hld hI hJ; go_light)
      · go_simp
      · go_simp
      · go_simp
      · simp only [World.size_alloc] at gs1 hb1
        exact below_setRow' ((hb.alloc (by omega) _).trans (hb1.mono (by omega))) (by omega) _
      · simp only [World.size_alloc] at gs1
        simp; omega
    · have hI := Lib.hid hinv
      have ⟨o1, o2, o3, o4, _⟩ := hinv
      have hk' : k = len := by omega
      clear hinv
      go_wp2_with (first
        | (go_at_call 21; refine (fixed12_any _).mono ?_; rintro e w1 ⟨rfl, hb1⟩; have ⟨gc1, gz1, gr1, gq1, gs1⟩ := below_facts hb1))
      all_goals
        go_light
        go_ret
        refine ⟨?_, hb.trans (hb1.mono (by omega))⟩
        first
        | rfl
        | (refine ret_bool ?_
           have he : tl 4 now = tl 4 f := by assumption
           have := ninv_end hI.out he.symm (by omega)
           simp; omega)

set_option maxHeartbeats 1000000 in
theorem gasNever_all (f : Nat → Int) (x : Nat → Nat → Int) (A : Option Addr) (len cap : Nat) (w : World) (hx : Words w A len x) :
    Calls Try.prog 4 #[wv f, .slice A len cap] w fun e w' => e = .returned (.bool true) ∧ Below w.heap.size w w' := by
  by_cases hlen : len ≤ 500
  · exact gasNever_any f x A len cap w hx hlen
  · go_enter Try.func4, Try.ntmps4
    go_wp2_with (first
      | (go_at_call 21; refine (fixed12_any _).mono ?_; rintro e w1 ⟨rfl, hb1⟩; have hs1 := hb1.size))
    go_ret
    refine ⟨rfl, ?_⟩
    (repeat' (first | exact Below.refl _ _ | assumption | refine Below.alloc ?_ (by (try simp only [World.size_alloc, World.size_setCell, World.size_drew, setRow_size] at *); omega) _ | refine Below.setCell ?_ (by (try simp only [World.size_alloc, World.size_setCell, World.size_drew, setRow_size] at *); omega) _ | refine Below.drew ?_ | refine Below.trans ?_ (Below.mono (by assumption) (by (try simp only [World.size_alloc, World.size_setCell, World.size_drew, setRow_size] at *); omega)) | refine below_setRow' ?_ (by (try simp only [World.size_alloc, World.size_setCell, World.size_drew, setRow_size] at *); omega) _))
end Go.Proofs.Ytfjigoimjaemmaa
