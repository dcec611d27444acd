/- operations: the rules of their rows; the walks of small and of cut. -/
import Derived.Test.YtfjigoimjaemmaaOpW
import Derived.Deep.Light
namespace Go.Proofs.Ytfjigoimjaemmaa
open Go.RowKit
set_option linter.unusedSimpArgs false
set_option linter.unusedVariables false
set_option maxRecDepth 100000

/-- four cells from o on -/
def at4 (cs : Array Value) (o : Nat) : Array Value := #[cs[o]?.getD undef, cs[o + 1]?.getD undef, cs[o + 2]?.getD undef, cs[o + 3]?.getD undef]
attribute [go_sem] at4
theorem run_ldArr_off4 {P : Program} (t : Nat) (hA : ∀ w, (isAgg t).run P w = .ok true w) (hS : ∀ w, (sizeOf t).run P w = .ok 4 w) (w : World) (b o : Nat) (h : o + 4 ≤ (rowOf w b).size) :
    (ldArr t (.pointer (some ⟨b, o, none⟩))).run P w = .ok (.agg (at4 (rowOf w b) o)) w := by
  have hl := run_loadCells_list (P := P) w ⟨b, o, none⟩ (at4 (rowOf w b) o).toList (fun j v hv => by
    rw [Addr.add_lit, cell_of_rowOf]
    have g : ∀ i, i < 4 → (rowOf w b)[o + i]? = some ((rowOf w b)[o + i]?.getD undef) := fun i hi => by
      rw [Array.getElem?_eq_getElem (show o + i < (rowOf w b).size by omega)]; rfl
    match j, hv with
    | 0, hv => simp only [at4, List.getElem?_cons_zero, Option.some.injEq] at hv; subst hv; exact g 0 (by omega)
    | 1, hv => simp only [at4, List.getElem?_cons_zero, List.getElem?_cons_succ, Option.some.injEq] at hv; subst hv; exact g 1 (by omega)
    | 2, hv => simp only [at4, List.getElem?_cons_zero, List.getElem?_cons_succ, Option.some.injEq] at hv; subst hv; exact g 2 (by omega)
    | 3, hv => simp only [at4, List.getElem?_cons_zero, List.getElem?_cons_succ, Option.some.injEq] at hv; subst hv; exact g 3 (by omega)
    | j + 4, hv => simp [at4] at hv)
  simp only [Array.length_toList, Array.toArray_toList] at hl
  rw [show (at4 (rowOf w b) o).size = 4 from rfl] at hl
  simp [ldArr, Instr.loadAt, Instr.sureAddr, loadVar, Sem.run_bind, hA, hS, hl]
/-- a word in the middle of a block -/
@[go_sem] theorem run_ld_word_off (w : World) (b o : Nat) (ho : (o == 0) = false) :
    (ldArr 24 (.pointer (some ⟨b, o, none⟩))).run Try.prog w = if o + 4 ≤ (rowOf w b).size then .ok (.agg (at4 (rowOf w b) o)) w else (Instr.loadAt 24 (.pointer (some ⟨b, o, none⟩))).run Try.prog w := by
  split
  · rename_i h; exact run_ldArr_off4 _ Try.isAgg24 Try.sizeOf24 w b o h
  · rfl

@[go_sem ↓] theorem ld_op (v : Value) : Instr.loadAt 53 v = ldArr 53 v := rfl
@[go_sem ↓] theorem st_op (v x : Value) : Instr.storeAt 53 v x = stArr 53 v x := rfl
@[go_sem] theorem run_st_op (w : World) (b : Nat) (cs : Array Value) :
    (stArr 53 (.pointer (some ⟨b, 0, none⟩)) (.agg cs)).run Try.prog w = if rowFit w b = some 13 ∧ cs.size = 13 ∧ okCells cs = true then .ok () (w.setRow b cs) else stBad Try.prog 53 b (.agg cs) w :=
  run_stArr_if _ 13 Try.sizeOf53 w b cs
theorem OpV.row_ok (o : OpV) : okCells o.row = true := by simp [OpV.row, okCells, Value.oneCell']
theorem OpV.row_size (o : OpV) : o.row.size = 13 := rfl
attribute [go_sem] OpV.row_ok OpV.row_size
@[go_sem] theorem OpV.row_0 (o : OpV) : o.row[0]? = some (.int .i64 o.kind) := rfl
@[go_sem] theorem OpV.row_1 (o : OpV) : o.row[1]? = some (.int .i64 o.n) := rfl
@[go_sem] theorem OpV.row_2 (o : OpV) : o.row[2]? = some (.int .i64 o.m) := rfl
@[go_sem] theorem OpV.row_3 (o : OpV) : o.row[3]? = some (.int .i64 o.k) := rfl
@[go_sem] theorem OpV.row_4 (o : OpV) : o.row[4]? = some (.int .u64 (o.a 0)) := rfl
@[go_sem] theorem OpV.row_5 (o : OpV) : o.row[5]? = some (.int .u64 (o.a 1)) := rfl
@[go_sem] theorem OpV.row_6 (o : OpV) : o.row[6]? = some (.int .u64 (o.a 2)) := rfl
@[go_sem] theorem OpV.row_7 (o : OpV) : o.row[7]? = some (.int .u64 (o.a 3)) := rfl
@[go_sem] theorem OpV.row_8 (o : OpV) : o.row[8]? = some (.int .u64 (o.b 0)) := rfl
@[go_sem] theorem OpV.row_9 (o : OpV) : o.row[9]? = some (.int .u64 (o.b 1)) := rfl
@[go_sem] theorem OpV.row_10 (o : OpV) : o.row[10]? = some (.int .u64 (o.b 2)) := rfl
@[go_sem] theorem OpV.row_11 (o : OpV) : o.row[11]? = some (.int .u64 (o.b 3)) := rfl
@[go_sem] theorem OpV.row_12 (o : OpV) : o.row[12]? = some (.slice o.A o.len o.cap) := rfl

set_option maxHeartbeats 400000 in
theorem small10_any (a : Nat → Int) (w : World) :
    Calls Try.prog 84 #[wv a] w fun e w' => (∃ b, e = .returned (.bool b)) ∧ Below w.heap.size w w' := by
  go_enter Try.func84, Try.ntmps84
  go_wp2_with fail
  all_goals
    go_light
    go_ret
    refine ⟨⟨_, rfl⟩, ?_⟩
    (repeat' (first | exact Below.refl _ _ | assumption | refine Below.alloc ?_ (by (try simp only [World.size_alloc, World.size_setCell, World.size_drew, setRow_size] at *); first | done | omega) _ | refine Below.setCell ?_ (by (try simp only [World.size_alloc, World.size_setCell, World.size_drew, setRow_size] at *); first | done | omega) _ | refine Below.drew ?_ | refine Below.trans ?_ (Below.mono (by assumption) (by (try simp only [World.size_alloc, World.size_setCell, World.size_drew, setRow_size] at *); first | done | omega)) | refine below_setRow' ?_ (by (try simp only [World.size_alloc, World.size_setCell, World.size_drew, setRow_size] at *); first | done | omega) _))

set_option maxHeartbeats 1000000 in
theorem cut10_any (A : Option Addr) (n c : Nat) (f : Nat → OpV) (w : World) (hf : Ops w A n f) (hc : n ≤ c) (hm : c ≤ maxLen) :
    Calls Try.prog 40 #[.slice A n c] w fun e w' => (∃ m, m ≤ n ∧ e = .returned (.slice A m c)) ∧ Below w.heap.size w w' := by
  unfold maxLen at hm
  go_enter Try.func40, Try.ntmps40
  go_wp2_with fail
  go_loopw [7] (fun i wr => ∃ k : Nat, k ≤ n ∧ i = .int .i64 k ∧ Below w.heap.size w wr) (fun i _ => n - (intOf i).toNat)
  case atStart => exact ⟨0, by omega, rfl, Below.refl _ _⟩
  case round =>
    obtain ⟨k, hk, rfl, hb⟩ := hrel
    have hsz := hb.size
    by_cases hlt : k < n
    · obtain ⟨a, rfl, ha, hld, hok⟩ := (hf.below (Nat.le_refl _) hb).load hlt
      have k1 := hok.kind.1
      have k2 := hok.kind.2
      have k3 := hok.lencap
      have k4 := hok.cap
      unfold maxLen at k4
      have k5 := hok.k.1
      have k6 := hok.k.2
      have h1 := hok.a 0 (by omega)
      have h2 := hok.b 0 (by omega)
      clear hf hok
      have hB0 : Below w.heap.size w (wr.alloc (.cells (f k).row 53)) := hb.alloc (by omega) _
      have hB0' := Lib.hid hB0
      clear hB0
      go_wp2_with (go_at_call 84; first
        | (refine (small10_any _ _).mono ?_; rintro e w2 ⟨⟨b2, rfl⟩, hb2⟩; have hB2 := Lib.hid (hB1.out.trans (hb2.mono hB1.out.size)); have ⟨gr2, gq2, gs2⟩ := row_facts (hb2.mono (show wr.heap.size + 1 ≤ w1.heap.size by omega)); cases b2)
        | (refine (small10_any _ _).mono ?_; rintro e w1 ⟨⟨b1, rfl⟩, hb1⟩; have hB1 := Lib.hid (hB0'.out.trans (hb1.mono hB0'.out.size)); simp only [World.size_alloc] at hb1; have ⟨gr1, gq1, gs1⟩ := row_facts hb1; simp only [World.size_alloc] at gs1; cases b1))
      all_goals
        first
        | (go_ret; exact ⟨⟨k, by omega, rfl⟩, by first | exact hB2.out | exact hB1.out | exact hB0'.out⟩)
        | (refine ⟨⟨k + 1, by omega, by go_num, ?_⟩, by simp [intOf]; omega⟩; first | exact hB2.out | exact hB1.out | exact hB0'.out)
    · have hk' : k = n := by omega
      subst hk'
      go_wp2_with fail
      go_ret
      exact ⟨⟨_, Nat.le_refl _, rfl⟩, hb⟩
end Go.Proofs.Ytfjigoimjaemmaa
