/- a frame's stack: MemBack. -/
import Derived.Test.YtfjigoimjaemmaaStk2W
import Derived.BigQuiet
import Derived.Deep.QuietTactic
import Derived.WalkSmall
namespace Go.Proofs.Ytfjigoimjaemmaa
open Go.RowKit
set_option linter.unusedSimpArgs false
set_option linter.unusedVariables false
set_option maxRecDepth 100000

@[go_sem] theorem rowOf_drewN (w : World) (n b : Nat) : rowOf (w.drewN n) b = rowOf w b := rfl
@[go_sem] theorem rowFit_drewN (w : World) (n b : Nat) : rowFit (w.drewN n) b = rowFit w b := rfl
theorem MTouch.belowS {w w' : World} {B lo g : Nat} {v v' : Value} {l : List (Nat → Int)} (h : MTouch w w' g v v') (hm : StkIs w lo g v l) (hB : B ≤ lo) (hw : B ≤ w.heap.size) : Below B w w' := by
  refine h.1.below hw ?_
  rintro x (rfl | hx)
  · have := hm.2.2.2.1; omega
  · have := (hm.2.2.1.lt hx).1; omega

/-- the first k of x -/
def pre (x : Nat → Nat → Int) (k : Nat) : List (Nat → Int) := (List.range k).map x
theorem pre_length (x : Nat → Nat → Int) (k : Nat) : (pre x k).length = k := by simp [pre]
theorem pre_succ (x : Nat → Nat → Int) (k : Nat) : pre x (k + 1) = pre x k ++ [x k] := by simp [pre, List.range_succ]
theorem pre_getD (x : Nat → Nat → Int) (k j : Nat) (h : j < k) : (pre x k).getD j zf = x j := by simp [pre, List.getD, h]

theorem swap_twice (L : List (Nat → Int)) (t m : Nat) (ht : t < L.length) (hm : m < t) :
    (((L.set t (L.getD m zf)).set m (L.getD t zf)).set t (((L.set t (L.getD m zf)).set m (L.getD t zf)).getD m zf)).set m (((L.set t (L.getD m zf)).set m (L.getD t zf)).getD t zf) = L := by
  have hml : m < L.length := by omega
  have e1 : ((L.set t (L.getD m zf)).set m (L.getD t zf)).getD m zf = L.getD t zf := by simp [List.getD, hml]
  have e2 : ((L.set t (L.getD m zf)).set m (L.getD t zf)).getD t zf = L.getD m zf := by
    simp only [List.getD]; rw [List.getElem?_set_ne (by omega), List.getElem?_set_self ht]; rfl
  rw [e1, e2]
  apply List.ext_getElem?
  intro i
  by_cases h1 : i = m
  · subst h1; rw [List.getElem?_set_self (by simp; omega)]; simp [List.getD, hml]
  · rw [List.getElem?_set_ne (by omega)]
    by_cases h2 : i = t
    · subst h2; rw [List.getElem?_set_self (by simp; omega)]; simp [List.getD, ht]
    · rw [List.getElem?_set_ne (by omega), List.getElem?_set_ne (by omega), List.getElem?_set_ne (by omega)]

set_option maxHeartbeats 2000000 in
theorem memBack_any (A : Option Addr) (n c : Nat) (x : Nat → Nat → Int) (d : Int) (w : World) (hx : Words w A n x) (hd : I64 d) (hn : n ≤ 1000) :
    Calls Try.prog 12 #[.slice A n c, .int .i64 d] w fun e w' => e = .returned (.bool true) ∧ Below w.heap.size w w' := by
  have hn' : ¬ (1000 : Int) < (n : Int) := by omega
  have hX := Lib.hid hx
  clear hx
  obtain ⟨g, hg⟩ : ∃ g, w.heap.size = g := ⟨_, rfl⟩
  have hNew := stkNew_any w
  rw [hg] at hNew ⊢
  have hNew' := Lib.hid hNew
  have hg' := Lib.hid hg
  clear hNew hg
  go_enter Try.func12, Try.ntmps12
  go_wp2_with (go_at_call 48; refine hNew'.out.mono ?_; rintro e w1 ⟨rfl, hm1, hb1⟩; have hS1 := Lib.hid hm1; have hB1 := Lib.hid hb1; clear hm1 hb1)
  go_loopw [28] (fun i wr => ∃ (k : Nat) (v : Value), k ≤ n ∧ i = .int .i64 k ∧ StkIs wr g g v (pre x k) ∧ Below g w wr) (fun i _ => n - (intOf i).toNat)
  case atStart => exact ⟨0, _, by omega, rfl, hS1.out, hB1.out⟩
  case round =>
    obtain ⟨k, v, hk, rfl, hS, hb⟩ := hrel
    have hS' := Lib.hid hS
    have hsz : g < wr.heap.size := hS.2.2.2.2.1
    have hb' := Lib.hid hb
    clear hS hb
    by_cases hlt : k < n
    · obtain ⟨a, rfl, ha, hld⟩ := (hX.out.below (by rw [hg'.out]; exact Nat.le_refl _) hb'.out).load hlt
      have hPu := Lib.hid fun (w2 : World) (h : StkIs w2 g g v (pre x k)) => stkPush_any w2 g g v (pre x k) h (by rw [pre_length]; omega) (by have := h.2.2.2.2.1; omega) (x k)
      go_wp2_with (go_at_call 49; refine (hPu.out _ (hS'.out.below (by (repeat' (first | exact Below.refl _ _ | assumption | refine Below.alloc ?_ (by (try simp only [World.size_alloc, World.size_setCell, World.size_drew, setRow_size] at *); first | done | omega) _ | refine Below.setCell ?_ (by (try simp only [World.size_alloc, World.size_setCell, World.size_drew, setRow_size] at *); first | done | omega) _ | refine Below.drew ?_ | refine Below.trans ?_ (Below.mono (by assumption) (by (try simp only [World.size_alloc, World.size_setCell, World.size_drew, setRow_size] at *); first | done | omega)) | refine below_setRow' ?_ (by (try simp only [World.size_alloc, World.size_setCell, World.size_drew, setRow_size] at *); first | done | omega) _))))).mono ?_; rintro e w2 ⟨rfl, v2, hs2, ht2⟩; have hS2 := Lib.hid hs2; have hT2 := Lib.hid ht2; clear hs2 ht2)
      have q := hS2.out
      rw [if_pos (by rw [pre_length]; omega), ← pre_succ] at q
      refine ⟨⟨k + 1, v2, by omega, by go_num, q, ?_⟩, by simp [intOf]; omega⟩
      exact hb'.out.trans (((Below.refl _ _).alloc (by omega) _).trans (hT2.out.belowS (hS'.out.below (by (repeat' (first | exact Below.refl _ _ | assumption | refine Below.alloc ?_ (by (try simp only [World.size_alloc, World.size_setCell, World.size_drew, setRow_size] at *); first | done | omega) _ | refine Below.setCell ?_ (by (try simp only [World.size_alloc, World.size_setCell, World.size_drew, setRow_size] at *); first | done | omega) _ | refine Below.drew ?_ | refine Below.trans ?_ (Below.mono (by assumption) (by (try simp only [World.size_alloc, World.size_setCell, World.size_drew, setRow_size] at *); first | done | omega)) | refine below_setRow' ?_ (by (try simp only [World.size_alloc, World.size_setCell, World.size_drew, setRow_size] at *); first | done | omega) _)))) (Nat.le_refl _) (by simp; omega)))
    · obtain rfl : k = n := by omega
      obtain ⟨hd0, hd1⟩ : I64 d := hd
      have hlen := pre_length x k
      have hget : ∀ j, j < k → (pre x k).getD j zf = x j := fun j hj => pre_getD x k j hj
      obtain ⟨L, hL⟩ : ∃ L, pre x k = L := ⟨_, rfl⟩
      rw [hL] at hS' hlen hget
      have hL' := Lib.hid hL
      clear hL
      have hDu := fun (w2 : World) (h : StkIs w2 g g v L) => stkDup_any w2 g g v L h (by omega) (by have := h.2.2.2.2.1; omega) d ⟨hd0, hd1⟩
      rw [hlen] at hDu
      have hd : I64 d := ⟨hd0, hd1⟩
      by_cases hdu : 1 ≤ d ∧ d ≤ k
      · obtain ⟨m, hm⟩ : ∃ m : Nat, (k : Int) - d = m := ⟨((k : Int) - d).toNat, by omega⟩
        have hmk : m < k := by omega
        rw [decide_eq_true ⟨hdu.1, hdu.2, by omega⟩, if_pos ⟨hdu.1, hdu.2, by omega⟩, show k - d.toNat = m by omega, hget m hmk] at hDu
        have hDu' := Lib.hid hDu
        have hPo' := Lib.hid fun (w2 : World) (v2 : Value) (h : StkIs w2 g g v2 (L ++ [x m])) => stkPop_some w2 g g v2 L (x m) h
        obtain ⟨a, rfl, ha, _⟩ := hX.out m hmk
        have hwr : IntKind.i64.wrap ((k : Int) - d) = m := by rw [hm]; exact i64w (by omega) (by omega)
        have hmk' : (m : Int) < (k : Int) := by omega
        clear hDu hdu hget hm
        go_wp2_with (first
          | (go_at_call 50; refine (hDu'.out _ hS'.out).mono ?_; rintro e w2 ⟨rfl, v2, hs2, ht2⟩; have hS2 := Lib.hid hs2; have hB2 := Lib.hid (hb'.out.trans (ht2.belowS hS'.out (Nat.le_refl _) (by omega))); clear hs2 ht2)
          | (go_at_call 51; refine (hPo'.out _ _ hS2.out).mono ?_; rintro e w3 ⟨rfl, v3, hs3, ht3⟩; have hS3 := Lib.hid hs3; have hB3 := Lib.hid (hB2.out.trans (ht3.belowS hS2.out (Nat.le_refl _) (Nat.le_of_lt hS2.out.2.2.2.2.1))); clear hs3 ht3))
        have hB4 : Below g w (w3.alloc (.cells (tab 4 .u64 (x m)) 24)) := hB3.out.alloc (Nat.le_of_lt hS3.out.2.2.2.2.1) _
        have hld : ∀ q : Nat, (ldArr 24 (.pointer (some (a.add (m * 4))))).run Try.prog ((w3.alloc (.cells (tab 4 .u64 (x m)) 24)).drewN q) = .ok (wv (x m)) ((w3.alloc (.cells (tab 4 .u64 (x m)) 24)).drewN q) := fun q => by
          obtain ⟨a1, e1, _, q⟩ := (hX.out.below (by rw [hg'.out]; exact Nat.le_refl _) (below_drewN hB4 q)).load (j := m) (by omega)
          obtain rfl := Option.some.inj e1
          exact q
        have hB4' := Lib.hid hB4
        clear hB4
        go_quiet (fail)
        have hS9 := Lib.hid (hS3.out.below (below_drewN ((Below.refl _ _).alloc (Nat.le_refl _) (.cells (tab 4 .u64 (x m)) 24)) nq))
        have hB9 := Lib.hid (below_drewN hB4'.out nq)
        have hSw1 := fun (w2 : World) (v2 : Value) (h : StkIs w2 g g v2 L) => stkSwap_any w2 g g v2 L h d hd
        rw [hlen] at hSw1
        by_cases hsw : 1 ≤ d ∧ d < k
        · rw [decide_eq_true hsw, if_pos hsw] at hSw1
          obtain ⟨L1, hL1⟩ : ∃ L1, (L.set (k - 1) (L.getD (k - 1 - d.toNat) zf)).set (k - 1 - d.toNat) (L.getD (k - 1) zf) = L1 := ⟨_, rfl⟩
          rw [hL1] at hSw1
          have hl1 : L1.length = k := by rw [← hL1, List.length_set, List.length_set, hlen]
          have hSw2 := fun (w2 : World) (v2 : Value) (h : StkIs w2 g g v2 L1) => stkSwap_any w2 g g v2 L1 h d hd
          rw [hl1, decide_eq_true hsw, if_pos hsw, show (L1.set (k - 1) (L1.getD (k - 1 - d.toNat) zf)).set (k - 1 - d.toNat) (L1.getD (k - 1) zf) = L by rw [← hL1]; exact swap_twice L (k - 1) (k - 1 - d.toNat) (by omega) (by omega)] at hSw2
          have hSw1' := Lib.hid hSw1
          have hSw2' := Lib.hid hSw2
          clear hSw1 hSw2 hl1 hL1 hsw hlen
          go_wp2_with (go_at_call 52; first
            | ((with_reducible refine (hSw2'.out _ _ hS11.out).mono ?_); rintro e w12 ⟨rfl, v12, hs12, ht12⟩; have hS12 := Lib.hid hs12; have hB12 := Lib.hid (hB11.out.trans (ht12.belowS hS11.out (Nat.le_refl _) (Nat.le_of_lt hS11.out.2.2.2.2.1))); clear hs12 ht12)
            | ((with_reducible refine (hSw1'.out _ _ hS9.out).mono ?_); rintro e w11 ⟨rfl, v11, hs11, ht11⟩; have hS11 := Lib.hid hs11; have hB11 := Lib.hid (hB9.out.trans (ht11.belowS hS9.out (Nat.le_refl _) (Nat.le_of_lt hS9.out.2.2.2.2.1))); clear hs11 ht11))
          go_loopw [10] (fun i wr => ∃ (j : Nat) (y : Int) (v : Value), j ≤ k ∧ i = .int .i64 y ∧ y + 1 ≤ j ∧ j ≤ y + 1 ∧ StkIs wr g g v (pre x j) ∧ Below g w wr) (fun i _ => (intOf i + 1).toNat)
          case atStart => exact ⟨k, _, _, Nat.le_refl _, rfl, by omega, by omega, by rw [hL'.out]; exact hS12.out, hB12.out⟩
          case round =>
            obtain ⟨j, y, v5, hj, rfl, y1, y2, hS, hb⟩ := hrel
            have hSb := Lib.hid hS
            have hsz5 : g < wr.heap.size := hS.2.2.2.2.1
            have hb5 := Lib.hid hb
            clear hS hb
            cases j with
            | zero =>
              obtain rfl : y = -1 := by omega
              have hLe := Lib.hid fun (w6 : World) (h : Below wr.heap.size wr w6) => stkLen_any w6 g g v5 (pre x 0) (hSb.out.below h)
              go_wp2_with (first
                | (go_at_call 32; refine (fixed10_any _).mono ?_; rintro e w6 ⟨rfl, hb6⟩; have hB6 := Lib.hid hb6; clear hb6)
                | (go_at_call 53; refine (hLe.out _ hB6.out).mono ?_; rintro e w7 ⟨rfl, rfl⟩))
              go_ret
              exact ⟨rfl, hb5.out.trans (hB6.out.mono (by omega))⟩
            | succ j =>
              obtain rfl : y = (j : Int) := by omega
              have hPo := Lib.hid fun (w6 : World) (h : Below wr.heap.size wr w6) => stkPop_some w6 g g v5 (pre x j) (x j) (by rw [← pre_succ]; exact hSb.out.below h)
              have hj' : (j : Int) < (k : Int) := by omega
              go_wp2_with (go_at_call 51; refine (hPo.out _ (Below.refl _ _)).mono ?_; rintro e w6 ⟨rfl, v6, hs6, ht6⟩; have hS6 := Lib.hid hs6; have hT6 := Lib.hid ht6; clear hs6 ht6)
              have hB6 : Below g w (w6.alloc (.cells (tab 4 .u64 (x j)) 24)) := (hb5.out.trans (hT6.out.belowS hSb.out (Nat.le_refl _) (by omega))).alloc (by have := hS6.out.2.2.2.2.1; omega) _
              have hB6' := Lib.hid hB6
              have hld : ∀ q : Nat, (ldArr 24 (.pointer (some (a.add (j * 4))))).run Try.prog ((w6.alloc (.cells (tab 4 .u64 (x j)) 24)).drewN q) = .ok (wv (x j)) ((w6.alloc (.cells (tab 4 .u64 (x j)) 24)).drewN q) := fun q => by
                obtain ⟨a1, e1, _, q⟩ := (hX.out.below (by rw [hg'.out]; exact Nat.le_refl _) (below_drewN hB6 q)).load (j := j) (by omega)
                obtain rfl := Option.some.inj e1
                exact q
              clear hB6
              go_quiet (fail)
              go_wp2
              refine ⟨⟨j, _, v6, by omega, rfl, by omega, by omega, hS6.out.below (below_drewN ((Below.refl _ _).alloc (Nat.le_refl _) _) _), below_drewN hB6'.out _⟩, by simp [intOf] <;> omega⟩
        · rw [decide_eq_false hsw, if_neg hsw] at hSw1
          have hSw1' := Lib.hid hSw1
          clear hSw1 hsw hlen
          go_wp2_with (go_at_call 52; ((with_reducible refine (hSw1'.out _ _ hS9.out).mono ?_); rintro e w12 ⟨rfl, v12, hs12, ht12⟩; have hS12 := Lib.hid hs12; have hB12 := Lib.hid (hB9.out.trans (ht12.belowS hS9.out (Nat.le_refl _) (Nat.le_of_lt hS9.out.2.2.2.2.1))); clear hs12 ht12))
          go_loopw [10] (fun i wr => ∃ (j : Nat) (y : Int) (v : Value), j ≤ k ∧ i = .int .i64 y ∧ y + 1 ≤ j ∧ j ≤ y + 1 ∧ StkIs wr g g v (pre x j) ∧ Below g w wr) (fun i _ => (intOf i + 1).toNat)
          case atStart => exact ⟨k, _, _, Nat.le_refl _, rfl, by omega, by omega, by rw [hL'.out]; exact hS12.out, hB12.out⟩
          case round =>
            obtain ⟨j, y, v5, hj, rfl, y1, y2, hS, hb⟩ := hrel
            have hSb := Lib.hid hS
            have hsz5 : g < wr.heap.size := hS.2.2.2.2.1
            have hb5 := Lib.hid hb
            clear hS hb
            cases j with
            | zero =>
              obtain rfl : y = -1 := by omega
              have hLe := Lib.hid fun (w6 : World) (h : Below wr.heap.size wr w6) => stkLen_any w6 g g v5 (pre x 0) (hSb.out.below h)
              go_wp2_with (first
                | (go_at_call 32; refine (fixed10_any _).mono ?_; rintro e w6 ⟨rfl, hb6⟩; have hB6 := Lib.hid hb6; clear hb6)
                | (go_at_call 53; refine (hLe.out _ hB6.out).mono ?_; rintro e w7 ⟨rfl, rfl⟩))
              go_ret
              exact ⟨rfl, hb5.out.trans (hB6.out.mono (by omega))⟩
            | succ j =>
              obtain rfl : y = (j : Int) := by omega
              have hPo := Lib.hid fun (w6 : World) (h : Below wr.heap.size wr w6) => stkPop_some w6 g g v5 (pre x j) (x j) (by rw [← pre_succ]; exact hSb.out.below h)
              have hj' : (j : Int) < (k : Int) := by omega
              go_wp2_with (go_at_call 51; refine (hPo.out _ (Below.refl _ _)).mono ?_; rintro e w6 ⟨rfl, v6, hs6, ht6⟩; have hS6 := Lib.hid hs6; have hT6 := Lib.hid ht6; clear hs6 ht6)
              have hB6 : Below g w (w6.alloc (.cells (tab 4 .u64 (x j)) 24)) := (hb5.out.trans (hT6.out.belowS hSb.out (Nat.le_refl _) (by omega))).alloc (by have := hS6.out.2.2.2.2.1; omega) _
              have hB6' := Lib.hid hB6
              have hld : ∀ q : Nat, (ldArr 24 (.pointer (some (a.add (j * 4))))).run Try.prog ((w6.alloc (.cells (tab 4 .u64 (x j)) 24)).drewN q) = .ok (wv (x j)) ((w6.alloc (.cells (tab 4 .u64 (x j)) 24)).drewN q) := fun q => by
                obtain ⟨a1, e1, _, q⟩ := (hX.out.below (by rw [hg'.out]; exact Nat.le_refl _) (below_drewN hB6 q)).load (j := j) (by omega)
                obtain rfl := Option.some.inj e1
                exact q
              clear hB6
              go_quiet (fail)
              go_wp2
              refine ⟨⟨j, _, v6, by omega, rfl, by omega, by omega, hS6.out.below (below_drewN ((Below.refl _ _).alloc (Nat.le_refl _) _) _), below_drewN hB6'.out _⟩, by simp [intOf] <;> omega⟩
      · rw [decide_eq_false (fun h => hdu ⟨h.1, h.2.1⟩), if_neg (fun h => hdu ⟨h.1, h.2.1⟩)] at hDu
        have hDu' := Lib.hid hDu
        clear hDu hdu hget
        go_wp2_with (go_at_call 50; refine (hDu'.out _ hS'.out).mono ?_; rintro e w2 ⟨rfl, v2, hs2, ht2⟩; have hS9 := Lib.hid hs2; have hB9 := Lib.hid (hb'.out.trans (ht2.belowS hS'.out (Nat.le_refl _) (by omega))); clear hs2 ht2)
        have hSw1 := fun (w2 : World) (v2 : Value) (h : StkIs w2 g g v2 L) => stkSwap_any w2 g g v2 L h d hd
        rw [hlen] at hSw1
        by_cases hsw : 1 ≤ d ∧ d < k
        · rw [decide_eq_true hsw, if_pos hsw] at hSw1
          obtain ⟨L1, hL1⟩ : ∃ L1, (L.set (k - 1) (L.getD (k - 1 - d.toNat) zf)).set (k - 1 - d.toNat) (L.getD (k - 1) zf) = L1 := ⟨_, rfl⟩
          rw [hL1] at hSw1
          have hl1 : L1.length = k := by rw [← hL1, List.length_set, List.length_set, hlen]
          have hSw2 := fun (w2 : World) (v2 : Value) (h : StkIs w2 g g v2 L1) => stkSwap_any w2 g g v2 L1 h d hd
          rw [hl1, decide_eq_true hsw, if_pos hsw, show (L1.set (k - 1) (L1.getD (k - 1 - d.toNat) zf)).set (k - 1 - d.toNat) (L1.getD (k - 1) zf) = L by rw [← hL1]; exact swap_twice L (k - 1) (k - 1 - d.toNat) (by omega) (by omega)] at hSw2
          have hSw1' := Lib.hid hSw1
          have hSw2' := Lib.hid hSw2
          clear hSw1 hSw2 hl1 hL1 hsw hlen
          go_wp2_with (go_at_call 52; first
            | ((with_reducible refine (hSw2'.out _ _ hS11.out).mono ?_); rintro e w12 ⟨rfl, v12, hs12, ht12⟩; have hS12 := Lib.hid hs12; have hB12 := Lib.hid (hB11.out.trans (ht12.belowS hS11.out (Nat.le_refl _) (Nat.le_of_lt hS11.out.2.2.2.2.1))); clear hs12 ht12)
            | ((with_reducible refine (hSw1'.out _ _ hS9.out).mono ?_); rintro e w11 ⟨rfl, v11, hs11, ht11⟩; have hS11 := Lib.hid hs11; have hB11 := Lib.hid (hB9.out.trans (ht11.belowS hS9.out (Nat.le_refl _) (Nat.le_of_lt hS9.out.2.2.2.2.1))); clear hs11 ht11))
          go_loopw [10] (fun i wr => ∃ (j : Nat) (y : Int) (v : Value), j ≤ k ∧ i = .int .i64 y ∧ y + 1 ≤ j ∧ j ≤ y + 1 ∧ StkIs wr g g v (pre x j) ∧ Below g w wr) (fun i _ => (intOf i + 1).toNat)
          case atStart => exact ⟨k, _, _, Nat.le_refl _, rfl, by omega, by omega, by rw [hL'.out]; exact hS12.out, hB12.out⟩
          case round =>
            obtain ⟨j, y, v5, hj, rfl, y1, y2, hS, hb⟩ := hrel
            have hSb := Lib.hid hS
            have hsz5 : g < wr.heap.size := hS.2.2.2.2.1
            have hb5 := Lib.hid hb
            clear hS hb
            cases j with
            | zero =>
              obtain rfl : y = -1 := by omega
              have hLe := Lib.hid fun (w6 : World) (h : Below wr.heap.size wr w6) => stkLen_any w6 g g v5 (pre x 0) (hSb.out.below h)
              go_wp2_with (first
                | (go_at_call 32; refine (fixed10_any _).mono ?_; rintro e w6 ⟨rfl, hb6⟩; have hB6 := Lib.hid hb6; clear hb6)
                | (go_at_call 53; refine (hLe.out _ hB6.out).mono ?_; rintro e w7 ⟨rfl, rfl⟩))
              go_ret
              exact ⟨rfl, hb5.out.trans (hB6.out.mono (by omega))⟩
            | succ j =>
              obtain rfl : y = (j : Int) := by omega
              have hPo := Lib.hid fun (w6 : World) (h : Below wr.heap.size wr w6) => stkPop_some w6 g g v5 (pre x j) (x j) (by rw [← pre_succ]; exact hSb.out.below h)
              obtain ⟨a, rfl, ha, _⟩ := hX.out j (by omega)
              have hj' : (j : Int) < (k : Int) := by omega
              go_wp2_with (go_at_call 51; refine (hPo.out _ (Below.refl _ _)).mono ?_; rintro e w6 ⟨rfl, v6, hs6, ht6⟩; have hS6 := Lib.hid hs6; have hT6 := Lib.hid ht6; clear hs6 ht6)
              have hB6 : Below g w (w6.alloc (.cells (tab 4 .u64 (x j)) 24)) := (hb5.out.trans (hT6.out.belowS hSb.out (Nat.le_refl _) (by omega))).alloc (by have := hS6.out.2.2.2.2.1; omega) _
              have hB6' := Lib.hid hB6
              have hld : ∀ q : Nat, (ldArr 24 (.pointer (some (a.add (j * 4))))).run Try.prog ((w6.alloc (.cells (tab 4 .u64 (x j)) 24)).drewN q) = .ok (wv (x j)) ((w6.alloc (.cells (tab 4 .u64 (x j)) 24)).drewN q) := fun q => by
                obtain ⟨a1, e1, _, q⟩ := (hX.out.below (by rw [hg'.out]; exact Nat.le_refl _) (below_drewN hB6 q)).load (j := j) (by omega)
                obtain rfl := Option.some.inj e1
                exact q
              clear hB6
              go_quiet (fail)
              go_wp2
              refine ⟨⟨j, _, v6, by omega, rfl, by omega, by omega, hS6.out.below (below_drewN ((Below.refl _ _).alloc (Nat.le_refl _) _) _), below_drewN hB6'.out _⟩, by simp [intOf] <;> omega⟩
        · rw [decide_eq_false hsw, if_neg hsw] at hSw1
          have hSw1' := Lib.hid hSw1
          clear hSw1 hsw hlen
          go_wp2_with (go_at_call 52; ((with_reducible refine (hSw1'.out _ _ hS9.out).mono ?_); rintro e w12 ⟨rfl, v12, hs12, ht12⟩; have hS12 := Lib.hid hs12; have hB12 := Lib.hid (hB9.out.trans (ht12.belowS hS9.out (Nat.le_refl _) (Nat.le_of_lt hS9.out.2.2.2.2.1))); clear hs12 ht12))
          go_loopw [10] (fun i wr => ∃ (j : Nat) (y : Int) (v : Value), j ≤ k ∧ i = .int .i64 y ∧ y + 1 ≤ j ∧ j ≤ y + 1 ∧ StkIs wr g g v (pre x j) ∧ Below g w wr) (fun i _ => (intOf i + 1).toNat)
          case atStart => exact ⟨k, _, _, Nat.le_refl _, rfl, by omega, by omega, by rw [hL'.out]; exact hS12.out, hB12.out⟩
          case round =>
            obtain ⟨j, y, v5, hj, rfl, y1, y2, hS, hb⟩ := hrel
            have hSb := Lib.hid hS
            have hsz5 : g < wr.heap.size := hS.2.2.2.2.1
            have hb5 := Lib.hid hb
            clear hS hb
            cases j with
            | zero =>
              obtain rfl : y = -1 := by omega
              have hLe := Lib.hid fun (w6 : World) (h : Below wr.heap.size wr w6) => stkLen_any w6 g g v5 (pre x 0) (hSb.out.below h)
              go_wp2_with (first
                | (go_at_call 32; refine (fixed10_any _).mono ?_; rintro e w6 ⟨rfl, hb6⟩; have hB6 := Lib.hid hb6; clear hb6)
                | (go_at_call 53; refine (hLe.out _ hB6.out).mono ?_; rintro e w7 ⟨rfl, rfl⟩))
              go_ret
              exact ⟨rfl, hb5.out.trans (hB6.out.mono (by omega))⟩
            | succ j =>
              obtain rfl : y = (j : Int) := by omega
              have hPo := Lib.hid fun (w6 : World) (h : Below wr.heap.size wr w6) => stkPop_some w6 g g v5 (pre x j) (x j) (by rw [← pre_succ]; exact hSb.out.below h)
              obtain ⟨a, rfl, ha, _⟩ := hX.out j (by omega)
              have hj' : (j : Int) < (k : Int) := by omega
              go_wp2_with (go_at_call 51; refine (hPo.out _ (Below.refl _ _)).mono ?_; rintro e w6 ⟨rfl, v6, hs6, ht6⟩; have hS6 := Lib.hid hs6; have hT6 := Lib.hid ht6; clear hs6 ht6)
              have hB6 : Below g w (w6.alloc (.cells (tab 4 .u64 (x j)) 24)) := (hb5.out.trans (hT6.out.belowS hSb.out (Nat.le_refl _) (by omega))).alloc (by have := hS6.out.2.2.2.2.1; omega) _
              have hB6' := Lib.hid hB6
              have hld : ∀ q : Nat, (ldArr 24 (.pointer (some (a.add (j * 4))))).run Try.prog ((w6.alloc (.cells (tab 4 .u64 (x j)) 24)).drewN q) = .ok (wv (x j)) ((w6.alloc (.cells (tab 4 .u64 (x j)) 24)).drewN q) := fun q => by
                obtain ⟨a1, e1, _, q⟩ := (hX.out.below (by rw [hg'.out]; exact Nat.le_refl _) (below_drewN hB6 q)).load (j := j) (by omega)
                obtain rfl := Option.some.inj e1
                exact q
              clear hB6
              go_quiet (fail)
              go_wp2
              refine ⟨⟨j, _, v6, by omega, rfl, by omega, by omega, hS6.out.below (below_drewN ((Below.refl _ _).alloc (Nat.le_refl _) _) _), below_drewN hB6'.out _⟩, by simp [intOf] <;> omega⟩

set_option maxHeartbeats 400000 in
theorem memBack_all (A : Option Addr) (n c : Nat) (x : Nat → Nat → Int) (d : Int) (w : World) (hx : Words w A n x) (hd : I64 d) :
    Calls Try.prog 12 #[.slice A n c, .int .i64 d] w fun e w' => e = .returned (.bool true) ∧ Below w.heap.size w w' := by
  by_cases hn : n ≤ 1000
  · exact memBack_any A n c x d w hx hd hn
  · have hn' : (1000 : Int) < (n : Int) := by omega
    clear hx hn
    go_enter Try.func12, Try.ntmps12
    go_wp2_with (first
      | (go_at_call 48; refine (stkNew_any _).mono ?_; rintro e w1 ⟨rfl, hm1, hb1⟩; have hB1 := Lib.hid hb1; clear hm1 hb1)
      | (go_at_call 32; refine (fixed10_any _).mono ?_; rintro e w6 ⟨rfl, hb6⟩))
    go_ret
    exact ⟨rfl, hB1.out.trans (hb6.mono hB1.out.size)⟩
end Go.Proofs.Ytfjigoimjaemmaa
