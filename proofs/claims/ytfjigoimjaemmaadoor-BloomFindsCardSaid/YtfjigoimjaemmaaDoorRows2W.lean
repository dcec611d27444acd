/- slices of rows: append of many rows; one cell each. -/
import Derived.Test.YtfjigoimjaemmaaDoorRowsW
namespace Go.Proofs.YtfjigoimjaemmaaDoor
open Go.RowKit
set_option linter.unusedSimpArgs false
set_option linter.unusedVariables false
set_option maxRecDepth 100000

section
variable {P : Program} {w : World}
/-- the slice at A of the rows rs -/
def RowsAt (w : World) (A : Option Addr) (rs : List (List Value)) : Prop := (rs ≠ [] → ∃ a, A = some a) ∧ ∀ a, A = some a → ∀ j u, rs.flatten[j]? = some u → w.cell? (a.add j) = some u
theorem run_app_rows (lo : Nat) {t e : TypeId} {sz bytes : Nat} (ty : TypeId) (hE : RowElem P t e sz bytes) (v : Value) (l : List (List Value)) (hown : OwnR w lo e sz v l) (A : Option Addr) (c : Nat) (rs : List (List Value)) (hr : RowsAt w A rs) (hrs : ∀ r ∈ rs, r.length = sz) (h1 : ∀ u ∈ rs.flatten, u.oneCell' = true)
    (h63 : l.length + rs.length ≤ maxLen) (hbytes : (l.length + rs.length) * bytes ≤ 140737488355328) (hlo : lo ≤ w.heap.size) :
    ∃ v' w', (Builtin.append_ #[t, t] ty #[v, .slice A rs.length c]).run P w = .ok v' w' ∧ OwnR w' lo e sz v' (l ++ rs) ∧ Appended w w' v v' := by
  obtain ⟨i, z, hi, hz, hs, hb, hzc⟩ := hE.hi
  rcases Nat.eq_zero_or_pos rs.length with h0 | h0
  · have hnil : rs = [] := List.eq_nil_of_length_eq_zero h0
    subst hnil
    refine ⟨v, w, ?_, by rw [List.append_nil]; exact hown, Only.refl _ _, .inl rfl⟩
    have hf : (Builtin.firstCells i.size 0 (.slice A 0 c)).run P w = .ok #[] w := by
      cases A <;> simp [Builtin.firstCells, loadCells, loadCellsFrom]
    rcases hown.1.2 with ⟨rfl, h2⟩ | ⟨g, cap, cur, rfl, hg, hh, hn, hcm, hcs, htk⟩
    · simp [Builtin.append_, run_underlying hE.ht, sizeOf, typeInfo, hi, Builtin.lenOf, hf]
    · simp [Builtin.append_, run_underlying hE.ht, sizeOf, typeInfo, hi, Builtin.lenOf, hf, hn, storeCells]
  · obtain ⟨a, rfl⟩ := hr.1 (by intro e; rw [e] at h0; simp at h0)
    obtain ⟨v', w', hrun, h2, h3, _, h5⟩ := run_append_own_at (P := P) w lo t ty e i z sz bytes hE.ht hi hz hs hb hzc hE.hs v l.length l.flatten hown.1 a rs.length c rs.flatten (flat_length hrs) (hr.2 a rfl) h1 h63 hbytes hlo
    refine ⟨v', w', hrun, ⟨by rw [List.length_append, List.flatten_append]; exact h2, fun q hq => ?_⟩, Only.of_grown h3, h5⟩
    rcases List.mem_append.1 hq with h | h
    · exact hown.2 q h
    · exact hrs q h
theorem wpList_app_rows {ops : Array Oper} {rest : List Oper} {o : Oper} {a : Act} {Q : Exit → Act → World → Prop} {t e : TypeId} {sz bytes : Nat} (hE : RowElem P t e sz bytes) (hgd : o.guard = none) (s x : Operand)
    (ho : o.op = .call { callee := .builtin .append, args := #[s, x], argTypes := #[t, t] }) (lo : Nat) (v : Value) (l : List (List Value)) (hs : a.eval s = v) (hown : OwnR w lo e sz v l)
    (A : Option Addr) (n c : Nat) (rs : List (List Value)) (hn : rs.length = n) (hx : a.eval x = .slice A n c) (hr : RowsAt w A rs) (hrs : ∀ r ∈ rs, r.length = sz) (h1 : ∀ u ∈ rs.flatten, u.oneCell' = true)
    (h63 : l.length + rs.length ≤ maxLen) (hbytes : (l.length + rs.length) * bytes ≤ 140737488355328) (hlo : lo ≤ w.heap.size)
    (h : ∀ v' w', OwnR w' lo e sz v' (l ++ rs) → Appended w w' v v' → wpList P ops Q rest (a.put o.dst v') w') : wpList P ops Q (o :: rest) a w := by
  subst hn
  obtain ⟨v', w', h1', h2, h3⟩ := run_app_rows (P := P) lo o.type hE v l hown A c rs hr hrs h1 h63 hbytes hlo
  exact Lib.wpList_append_run w hgd s x t t ho _ _ hs hx v' w' h1' (h v' w' h2 h3)
/-- an empty literal -/
theorem OwnR.empty (w : World) (lo : Nat) (e : TypeId) (s : Nat) (hlo : lo ≤ w.heap.size) : OwnR (w.alloc (.cells #[] e)) lo e s (.slice (some ⟨w.heap.size, 0, none⟩) 0 0) [] :=
  ⟨⟨by simp, .inr ⟨w.heap.size, 0, #[], rfl, hlo, heap_alloc_last w _, Nat.le_refl _, by unfold maxLen; omega, by simp, by simp⟩⟩, by simp⟩
theorem OwnR.rowsAt {lo : Nat} {e : TypeId} {s : Nat} {A : Option Addr} {n c : Nat} {l : List (List Value)} (h : OwnR w lo e s (.slice A n c) l) : RowsAt w A l := by
  obtain ⟨A', c', hv, _, _, h3, h4⟩ := h.form
  cases hv
  refine ⟨h3, fun a ha j u hu => ?_⟩
  obtain ⟨_, _, ho, hs, _, hq⟩ := h4 a ha
  rcases Nat.eq_zero_or_pos s with h0 | h0
  · exfalso
    have := (List.getElem?_eq_some_iff.1 hu).1
    rw [flat_length h.2, h0] at this
    omega
  · have hj := (List.getElem?_eq_some_iff.1 hu).1
    rw [flat_length h.2] at hj
    have hq1 : j / s < l.length := Nat.div_lt_of_lt_mul (by rw [Nat.mul_comm]; exact hj)
    have hd : j = j / s * s + j % s := by rw [Nat.mul_comm]; exact (Nat.div_add_mod j s).symm
    have hf := flat_get h.2 (j / s) (j % s) _ (List.getElem?_eq_getElem hq1) (Nat.mod_lt _ h0)
    rw [← hd, hu] at hf
    have := hq (j / s) _ (List.getElem?_eq_getElem hq1) (j % s) u hf.symm
    rw [← hd] at this
    exact this
end
end Go.Proofs.YtfjigoimjaemmaaDoor
