/- the filter: the reference's Set. -/
import Derived.Test.YtfjigoimjaemmaaDoorBlm2W
namespace Go.Proofs.YtfjigoimjaemmaaDoor
open Go.RowKit
set_option linter.unusedSimpArgs false
set_option linter.unusedVariables false
set_option maxRecDepth 100000
attribute [local irreducible] sumF KLaid
attribute [local go_sem ↓] Go.wp_at_zero Go.wp_at_succ

theorem Ints.only {T : Nat → Prop} {w w' : World} {k : IntKind} {A : Option Addr} {n : Nat} {x : Nat → Int} (h : Ints w k A n x) (ho : Only T w w') (hn : ∀ a, A = some a → ¬ T a.block) : Ints w' k A n x := fun j hj => by
  obtain ⟨a, h1, h2, h3⟩ := h j hj
  exact ⟨a, h1, Nat.lt_of_lt_of_le h2 ho.size, by rw [ho.cell (by rw [block_add]; exact h2) (by rw [block_add]; exact hn a h1), h3]⟩
/-- an array of truths -/
def tabB (n : Nat) (f : Nat → Bool) : Array Value := ((List.range n).map fun i => Value.bool (f i)).toArray
theorem tabB_size (n : Nat) (f : Nat → Bool) : (tabB n f).size = n := by simp [tabB]
theorem tabB_get (n : Nat) (f : Nat → Bool) (i : Nat) : (tabB n f)[i]? = if i < n then some (.bool (f i)) else none := by
  unfold tabB
  by_cases h : i < n <;> simp [h]
def updB (f : Nat → Bool) (i : Nat) (v : Bool) : Nat → Bool := fun j => if j = i then v else f j
theorem tabB_set (n : Nat) (f : Nat → Bool) (i : Nat) (v : Bool) : (tabB n f).setIfInBounds i (.bool v) = tabB n (updB f i v) := by
  apply Array.ext_getElem?
  intro j
  rw [Array.getElem?_setIfInBounds, tabB_get, tabB_get, tabB_size]
  by_cases hj : j < n <;> by_cases hi : i = j <;> simp [hj, hi, updB] <;> intro h <;> exact absurd h.symm hi
theorem tabB_ext {n : Nat} {f g : Nat → Bool} (h : ∀ i, i < n → f i = g i) : tabB n f = tabB n g := by
  unfold tabB
  congr 1
  exact List.map_congr_left fun i hi => by rw [h i (by simpa using hi)]
theorem tabB_getElem (n : Nat) (f : Nat → Bool) (i : Nat) (h : i < (tabB n f).size) : (tabB n f)[i]'h = .bool (f i) := by
  have h1 := tabB_get n f i
  rw [Array.getElem?_eq_getElem h, if_pos (by simpa [tabB_size] using h)] at h1
  exact Option.some.inj h1
attribute [go_sem] tabB_size tabB_get tabB_set tabB_getElem
theorem run_make_B (w : World) (n : Nat) (h63 : n ≤ 1000000) :
    (Instr.makeSlice 58 (.int .i64 n) (.int .i64 n)).run Tryd.prog w = .ok (.slice (some ⟨w.heap.size, 0, none⟩) n n) (w.alloc (.cells (tabB n fun _ => false) 4)) := by
  obtain ⟨i, hi, hz, hsz, hbb⟩ := info_parts (show (Tryd.prog.info? 4).map (fun i => (i.zero, i.size, i.bytes)) = some (some (.bool false), 1, 1) by kernel_rfl)
  have h := run_make (P := Tryd.prog) w 58 4 i _ Tryd.underlying58 hi hz .i64 .i64 n n (by omega) (by omega) (by rw [hbb]; omega) (by omega)
  rw [hsz, Nat.mul_one, Int.toNat_natCast] at h
  rw [h]
  congr 3
  show madeCells #[Value.bool false] n = _
  apply Array.toList_inj.1
  rw [toList_madeCells_one]
  apply List.ext_getElem?
  intro j
  by_cases hj : j < n <;> simp [tabB, hj, List.getElem?_replicate]

/-- bytes in memory -/
structure BV where
  A : Option Addr
  n : Nat
  c : Nat
  x : Nat → Int
def BV.val (b : BV) : Value := .slice b.A b.n b.c
structure BV.Ok (b : BV) (w : World) : Prop where
  ints : Ints w .u8 b.A b.n b.x
  len : b.n ≤ 1000000000
  bytes : ∀ j, j < b.n → 0 ≤ b.x j ∧ b.x j < 256
theorem BV.Ok.below {b : BV} {w w' : World} {B : Nat} (h : b.Ok w) (hB : w.heap.size ≤ B) (hb : Below B w w') : b.Ok w' := ⟨h.ints.below hB hb, h.len, h.bytes⟩
/-- the slice at A of n rows of bytes -/
def Bss (w : World) (A : Option Addr) (n : Nat) (Y : Nat → BV) : Prop := ∀ j, j < n → (∃ a : Addr, A = some a ∧ a.block < w.heap.size ∧ w.cell? (a.add j) = some (Y j).val) ∧ (Y j).Ok w
theorem Bss.below {w w' : World} {A : Option Addr} {n B : Nat} {Y : Nat → BV} (h : Bss w A n Y) (hB : w.heap.size ≤ B) (hb : Below B w w') : Bss w' A n Y := fun j hj => by
  obtain ⟨⟨a, h1, h2, h3⟩, h4⟩ := h j hj
  exact ⟨⟨a, h1, Nat.lt_of_lt_of_le h2 hb.size, by rw [hb.cell (by rw [block_add]; omega), h3]⟩, h4.below hB hb⟩
/-- the bits that the first k rows set -/
def anyP (Y : Nat → BV) : Nat → Nat → Bool
  | 0, _ => false
  | k + 1, i => anyP Y k i || inP (sumF (Y k).x (Y k).n) i
/-- one of the first k places -/
def inN (h : Nat → Int) : Nat → Nat → Bool
  | 0, _ => false
  | k + 1, i => inN h k i || decide (i = plF h k)
theorem inN_three (h : Nat → Int) (i : Nat) : inN h 3 i = inP h i := by simp [inN, inP]

set_option maxHeartbeats 2000000 in
theorem refSet_any (A : Option Addr) (n c : Nat) (Y : Nat → BV) (w : World) (hY : Bss w A n Y) (hn : n ≤ 1000000) :
    Calls Tryd.prog 40 #[.slice A n c] w fun e w' => e = .returned (.slice (some ⟨w.heap.size, 0, none⟩) 2048 2048) ∧ rowOf w' w.heap.size = tabB 2048 (anyP Y n) ∧ w.heap.size < w'.heap.size ∧ Below w.heap.size w w' := by
  have hmk := run_make_B w 2048 (by omega)
  rw [show ((2048 : Nat) : Int) = 2048 from rfl] at hmk
  have hY' := Lib.hid hY
  clear hY
  go_enter Tryd.func40, Tryd.ntmps40
  go_wp2
  clear hmk
  go_loopw [10] (fun i wr => ∃ k : Nat, k ≤ n ∧ i = .int .i64 k ∧ rowOf wr w.heap.size = tabB 2048 (anyP Y k) ∧ rowFit wr w.heap.size = some 2048 ∧ w.heap.size < wr.heap.size ∧ Below w.heap.size w wr) (fun i _ => n - (intOf i).toNat)
  case atStart =>
    refine ⟨0, by omega, rfl, ?_, ?_, by simp, by (repeat' (first | exact Below.refl _ _ | assumption | refine Below.alloc ?_ (by (try simp only [World.size_alloc, World.size_setCell, World.size_drew, setRow_size] at *); first | done | omega) _ | refine Below.setCell ?_ (by (try simp only [World.size_alloc, World.size_setCell, World.size_drew, setRow_size] at *); first | done | omega) _ | refine Below.drew ?_ | refine Below.trans ?_ (Below.mono (by assumption) (by (try simp only [World.size_alloc, World.size_setCell, World.size_drew, setRow_size] at *); first | done | omega)) | refine below_setRow' ?_ (by (try simp only [World.size_alloc, World.size_setCell, World.size_drew, setRow_size] at *); first | done | omega) _))⟩
    · simp [go_sem]; rfl
    · simp [go_sem]
  case round =>
    obtain ⟨k, hk, rfl, r0, q0, sz, hb⟩ := hrel
    have hb' := Lib.hid hb
    clear hb
    by_cases hlt : k < n
    · obtain ⟨⟨a, rfl, ha, hc⟩, hok⟩ := (hY'.out.below (Nat.le_refl _) hb'.out) k hlt
      unfold BV.val at hc
      have hP := refPlaces_any (Y k).A (Y k).n (Y k).c (Y k).x wr hok.ints hok.len hok.bytes
      obtain ⟨h, hh⟩ : ∃ h, sumF (Y k).x (Y k).n = h := ⟨_, rfl⟩
      rw [hh] at hP
      obtain ⟨F, hF⟩ : ∃ F, anyP Y k = F := ⟨_, rfl⟩
      rw [hF] at r0
      have hP' := Lib.hid hP
      have hh' := Lib.hid hh
      have hF' := Lib.hid hF
      have hki : (k : Int) < (n : Int) := by omega
      clear hP hh hF hok
      go_wp2_with (go_at_call 38; refine (hP'.out).mono ?_; rintro e w2 ⟨⟨A2, c2, rfl, hi2, hf2⟩, hb2⟩; have hI2 := Lib.hid hi2; have hF2 := Lib.hid hf2; clear hi2 hf2)
      have r2 := (rowOf_below hb2 (show w.heap.size < _ by omega)).trans r0
      have q2 := (rowFit_below hb2 (show w.heap.size < _ by omega)).trans q0
      have s2 := hb2.size
      have hB2 := Lib.hid (hb'.out.trans (hb2.mono (by omega)))
      clear r0 q0 hb2
      go_loopw [20] (fun i wr => ∃ j : Nat, j ≤ 3 ∧ i = .int .i64 j ∧ rowOf wr w.heap.size = tabB 2048 (fun i => F i || inN h j i) ∧ rowFit wr w.heap.size = some 2048 ∧ Only (fun b => b = w.heap.size) w2 wr) (fun i _ => 3 - (intOf i).toNat)
      case atStart => exact ⟨0, by omega, rfl, by rw [r2]; exact tabB_ext fun i hi => by simp [inN], q2, Only.refl _ _⟩
      case round =>
        obtain ⟨j, hj, rfl, r3, q3, ho⟩ := hrel
        have hB3 := Lib.hid (hB2.out.trans (ho.below (by omega) (fun x hx => by omega)))
        have s3 := ho.size
        by_cases hj3 : j < 3
        · have hI3 := hI2.out.only ho (fun a ha e => by have := hF2.out a ha; omega)
          obtain ⟨a3, e3, z3, c3⟩ := hI3 j hj3
          obtain rfl := e3
          obtain ⟨p, hp⟩ : ∃ p, plF h j = p := ⟨_, rfl⟩
          have hpl := plF_lt h j
          rw [hp] at hpl
          rw [show plI h j = (p : Int) by unfold plI; rw [hp]] at c3
          have hpi : (p : Int) < 2048 := by omega
          have hji : (j : Int) < 3 := by omega
          have ho' := Lib.hid ho
          have hp' := Lib.hid hp
          clear ho hp hI3
          go_wp2
          refine ⟨⟨j + 1, by omega, by go_num, ?_, ?_, ?_⟩, by simp [intOf]; omega⟩
          · rw [rowOf_setCell_same, r3, tabB_set]
            exact tabB_ext fun i hi => by
              unfold updB
              by_cases h1 : i = p
              · subst h1; simp [inN, hp'.out]
              · rw [if_neg h1]; simp [inN, hp'.out, h1]
          · rw [rowFit_setCell, q3]
          · exact ho'.out.trans (Only.setCell wr ⟨w.heap.size, p, none⟩ _) (fun x _ hx => hx)
        · obtain rfl : j = 3 := by omega
          go_wp2
          refine ⟨⟨k + 1, by omega, by go_num, ?_, q3, by omega, hB3.out⟩, by simp [intOf]; omega⟩
          rw [r3]
          exact tabB_ext fun i hi => by rw [inN_three, anyP, hh'.out, hF'.out]
    · obtain rfl : k = n := by omega
      go_wp2
      go_ret
      exact ⟨rfl, r0, sz, hb'.out⟩
end Go.Proofs.YtfjigoimjaemmaaDoor
