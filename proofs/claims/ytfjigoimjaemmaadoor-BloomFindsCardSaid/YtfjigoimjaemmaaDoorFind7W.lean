/- the filter's search: SameLogs of the same logs. -/
import Derived.Test.YtfjigoimjaemmaaDoorFind6W
import Derived.Test.YtfjigoimjaemmaaDoorStrW
namespace Go.Proofs.YtfjigoimjaemmaaDoor
open Go.RowKit
set_option linter.unusedSimpArgs false
set_option linter.unusedVariables false
set_option maxRecDepth 100000
attribute [local go_sem ↓] Go.wp_at_zero Go.wp_at_succ

/-- two logs say the same -/
structure SameL (a b : LogV) : Prop where
  addr : a.addr = b.addr
  tn : a.tn = b.tn
  tx : a.tx = b.tx
  dn : a.dn = b.dn
  dx : a.dx = b.dx

set_option maxHeartbeats 4000000 in
theorem sameLogs_any (A1 : Option Addr) (n c1 : Nat) (K : Nat → LogV) (A2 : Option Addr) (c2 : Nat) (L : Nat → LogV) (w : World) (hK : Logs w A1 n K) (hL : Logs w A2 n L) (hS : ∀ j, j < n → SameL (K j) (L j)) (hn : n ≤ 1000000) (htn : ∀ j, j < n → (L j).tn ≤ 1000000) :
    Calls Tryd.prog 43 #[.slice A1 n c1, .slice A2 n c2] w fun e w' => e = .returned (.bool true) ∧ Below w.heap.size w w' := by
  have hK' := Lib.hid hK
  have hL' := Lib.hid hL
  clear hK hL
  go_enter Tryd.func43, Tryd.ntmps43
  go_wp2
  go_loopw [14] (fun i wr => ∃ k : Nat, k ≤ n ∧ i = .int .i64 k ∧ Below w.heap.size w wr) (fun i _ => n - (intOf i).toNat)
  case atStart => exact ⟨0, by omega, rfl, Below.refl _ _⟩
  case round =>
    obtain ⟨k, hk, rfl, hb⟩ := hrel
    have hb' := Lib.hid hb
    clear hb
    by_cases hlt : k < n
    · have hki : (k : Int) < (n : Int) := by omega
      obtain ⟨⟨a1, rfl, _, _⟩, _⟩ := hK'.out k hlt
      obtain ⟨⟨a2, rfl, _, _⟩, _⟩ := hL'.out k hlt
      obtain ⟨s1, s2, s3, s4, s5⟩ := hS k hlt
      have htk := htn k hlt
      have hKF := Lib.hid (show ∀ w1, Below w.heap.size w w1 → (ldArr 61 (.pointer (some (a1.add (k * 22))))).run Tryd.prog w1 = .ok (.agg (tab 20 .u8 (K k).addr)) w1 ∧ (rowOf w1 a1.block)[(a1.add (k * 22)).off + 20]? = some (.slice (K k).tA (K k).tn (K k).tc) ∧ (rowOf w1 a1.block)[(a1.add (k * 22)).off + 21]? = some (.slice (K k).dA (K k).dn (K k).dc) ∧ Words w1 (K k).tA (K k).tn (K k).tx ∧ Ints w1 .u8 (K k).dA (K k).dn (K k).dx ∧ a1.block < w1.heap.size from fun w1 h => by
        obtain ⟨⟨a, e, hl, hca⟩, hok⟩ := (hK'.out.below (Nat.le_refl _) h) k hlt
        obtain rfl := Option.some.inj e
        exact ⟨addr_at hca, cell_row (hca.2 20 _ (by rw [Array.getElem?_toList]; exact (K k).row_20)) (by omega), cell_row (hca.2 21 _ (by rw [Array.getElem?_toList]; exact (K k).row_21)) (by omega), hok.topics, hok.data, hl⟩)
      have hLF := Lib.hid (show ∀ w1, Below w.heap.size w w1 → (ldArr 61 (.pointer (some (a2.add (k * 22))))).run Tryd.prog w1 = .ok (.agg (tab 20 .u8 (L k).addr)) w1 ∧ (rowOf w1 a2.block)[(a2.add (k * 22)).off + 20]? = some (.slice (L k).tA (L k).tn (L k).tc) ∧ (rowOf w1 a2.block)[(a2.add (k * 22)).off + 21]? = some (.slice (L k).dA (L k).dn (L k).dc) ∧ Words w1 (L k).tA (L k).tn (L k).tx ∧ Ints w1 .u8 (L k).dA (L k).dn (L k).dx ∧ a2.block < w1.heap.size from fun w1 h => by
        obtain ⟨⟨a, e, hl, hca⟩, hok⟩ := (hL'.out.below (Nat.le_refl _) h) k hlt
        obtain rfl := Option.some.inj e
        exact ⟨addr_at hca, cell_row (hca.2 20 _ (by rw [Array.getElem?_toList]; exact (L k).row_20)) (by omega), cell_row (hca.2 21 _ (by rw [Array.getElem?_toList]; exact (L k).row_21)) (by omega), hok.topics, hok.data, hl⟩)
      rw [s1, s2, s3, s4, s5] at hKF
      clear s1 s2 s3 s4 s5
      obtain ⟨f, hf⟩ : ∃ f, (L k).addr = f := ⟨_, rfl⟩
      obtain ⟨tn, htne⟩ : ∃ f, (L k).tn = f := ⟨_, rfl⟩
      obtain ⟨tx, htx⟩ : ∃ f, (L k).tx = f := ⟨_, rfl⟩
      obtain ⟨dn, hdn⟩ : ∃ f, (L k).dn = f := ⟨_, rfl⟩
      obtain ⟨dx, hdx⟩ : ∃ f, (L k).dx = f := ⟨_, rfl⟩
      obtain ⟨tA2, htA2⟩ : ∃ f, (L k).tA = f := ⟨_, rfl⟩
      obtain ⟨tc2, htc2⟩ : ∃ f, (L k).tc = f := ⟨_, rfl⟩
      obtain ⟨dA2, hdA2⟩ : ∃ f, (L k).dA = f := ⟨_, rfl⟩
      obtain ⟨dc2, hdc2⟩ : ∃ f, (L k).dc = f := ⟨_, rfl⟩
      obtain ⟨tA1, htA1⟩ : ∃ f, (K k).tA = f := ⟨_, rfl⟩
      obtain ⟨tc1, htc1⟩ : ∃ f, (K k).tc = f := ⟨_, rfl⟩
      obtain ⟨dA1, hdA1⟩ : ∃ f, (K k).dA = f := ⟨_, rfl⟩
      obtain ⟨dc1, hdc1⟩ : ∃ f, (K k).dc = f := ⟨_, rfl⟩
      rw [hf, htne, htx, hdn, hdx, htA1, htc1, hdA1, hdc1] at hKF
      rw [hf, htne, htx, hdn, hdx, htA2, htc2, hdA2, hdc2] at hLF
      rw [htne] at htk
      clear hf htne htx hdn hdx htA2 htc2 hdA2 hdc2 htA1 htc1 hdA1 hdc1
      obtain ⟨-, p2, p3, -, -, p6⟩ := hKF.out _ hb'.out
      obtain ⟨-, q2, q3, -, -, q6⟩ := hLF.out _ hb'.out
      have i1 : ∀ q : Nat, (ldArr 61 (.pointer (some (a1.add (k * 22))))).run Tryd.prog (wr.drewN q) = .ok (.agg (tab 20 .u8 f)) (wr.drewN q) := fun q => (hKF.out _ (below_drewN hb'.out q)).1
      have i2 : ∀ q : Nat, (ldArr 61 (.pointer (some (a2.add (k * 22))))).run Tryd.prog (wr.drewN q) = .ok (.agg (tab 20 .u8 f)) (wr.drewN q) := fun q => (hLF.out _ (below_drewN hb'.out q)).1
      have j1 : ∀ q : Nat, (convert 29 9 (.slice dA1 dn dc1)).run Tryd.prog (wr.drewN q) = .ok (.string (strF dn dx)) (wr.drewN q) := fun q => (hKF.out _ (below_drewN hb'.out q)).2.2.2.2.1.str dc1
      have j2 : ∀ q : Nat, (convert 29 9 (.slice dA2 dn dc2)).run Tryd.prog (wr.drewN q) = .ok (.string (strF dn dx)) (wr.drewN q) := fun q => (hLF.out _ (below_drewN hb'.out q)).2.2.2.2.1.str dc2
      go_wp2
      go_quiet (fail)
      go_wp2
      have hb1 := Lib.hid (below_drewN hb'.out nq)
      clear i1 i2 j1 j2 p2 p3 p6 q2 q3 q6
      go_loopw [64] (fun i wr => ∃ t : Nat, t ≤ tn ∧ i = .int .i64 t ∧ Below w.heap.size w wr) (fun i _ => tn - (intOf i).toNat)
      case atStart => exact ⟨0, by omega, rfl, hb1.out⟩
      case round =>
        obtain ⟨t, ht, rfl, hb2⟩ := hrel
        have hb2' := Lib.hid hb2
        clear hb2
        by_cases hlt2 : t < tn
        · have hti : (t : Int) < (tn : Int) := by omega
          obtain ⟨-, p2, -, p4, -, p6⟩ := hKF.out _ hb2'.out
          obtain ⟨-, q2, -, q4, -, q6⟩ := hLF.out _ hb2'.out
          obtain ⟨b1, e1, _, _⟩ := p4.load hlt2
          obtain ⟨b2, e2, _, _⟩ := q4.load hlt2
          have w1 : ∀ q : Nat, (ldArr 47 (.pointer (some (b1.add (t * 4))))).run Tryd.prog (wr.drewN q) = .ok (wv (tx t)) (wr.drewN q) := fun q => by
            obtain ⟨a, e, _, h⟩ := ((hKF.out _ (below_drewN hb2'.out q)).2.2.2.1).load hlt2
            obtain rfl := Option.some.inj (e1.symm.trans e)
            exact h
          have w2 : ∀ q : Nat, (ldArr 47 (.pointer (some (b2.add (t * 4))))).run Tryd.prog (wr.drewN q) = .ok (wv (tx t)) (wr.drewN q) := fun q => by
            obtain ⟨a, e, _, h⟩ := ((hLF.out _ (below_drewN hb2'.out q)).2.2.2.1).load hlt2
            obtain rfl := Option.some.inj (e2.symm.trans e)
            exact h
          subst e1 e2
          clear p4 q4
          go_wp2
          go_quiet (fail)
          go_wp2
          exact ⟨⟨t + 1, by omega, by go_num, below_drewN hb2'.out _⟩, by simp [intOf]; omega⟩
        · obtain rfl : t = tn := by omega
          go_wp2
          exact ⟨⟨k + 1, by omega, by go_num, hb2'.out⟩, by simp [intOf]; omega⟩
    · obtain rfl : k = n := by omega
      go_wp2
      go_ret
      exact ⟨rfl, hb'.out⟩
end Go.Proofs.YtfjigoimjaemmaaDoor
