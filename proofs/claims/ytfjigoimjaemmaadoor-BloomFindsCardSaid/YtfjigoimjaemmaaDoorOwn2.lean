/- slices that the call itself has made: literals, stores, shifted worlds. -/
import Derived.Test.YtfjigoimjaemmaaDoorOwn
import Derived.Deep.Onto
import Derived.Laws.MakeOwn
import Derived.Laws.OwnMore
namespace Go.Proofs.YtfjigoimjaemmaaDoor
open Go.RowKit
set_option linter.unusedSimpArgs false
set_option linter.unusedVariables false
set_option maxRecDepth 100000

theorem OwnI.lower {w : World} {lo lo' : Nat} {e : TypeId} {k : IntKind} {v : Value} {l : List Int} (h : OwnI w lo e k v l) (hl : lo' ≤ lo) : OwnI w lo' e k v l := World.ownsRow.mono h hl
/-- a literal, newly made -/
theorem OwnI.lit (w : World) (lo : Nat) (e : TypeId) (k : IntKind) (cs : Array Value) (l : List Int) (hc : cs.toList = l.map (Value.int k)) (hlo : lo ≤ w.heap.size) (hl : l.length ≤ maxLen) :
    OwnI (w.alloc (.cells cs e)) lo e k (.slice (some ⟨w.heap.size, 0, none⟩) l.length l.length) l := by
  have hs : cs.size = l.length := by rw [← Array.length_toList, hc, List.length_map]
  refine ⟨by simp, .inr ⟨w.heap.size, l.length, cs, rfl, hlo, heap_alloc_last w _, Nat.le_refl _, hl, by rw [hs, Nat.mul_one], ?_⟩⟩
  rw [hc, Nat.mul_one, List.take_of_length_le (by simp)]
theorem OwnI.ints {w : World} {lo : Nat} {e : TypeId} {k : IntKind} {v : Value} {l : List Int} (h : OwnI w lo e k v l) : ∃ A c, v = .slice A l.length c ∧ l.length ≤ c ∧ Ints w k A l.length (fun j => l.getD j 0) ∧ ∀ a, A = some a → lo ≤ a.block ∧ a.off = 0 ∧ a.spot = none := by
  obtain ⟨A, c, h1, h2, h3⟩ := h.form
  refine ⟨A, c, h1, ?_, h2, fun a ha => ⟨(h3 a ha).1, (h3 a ha).2.1, (h3 a ha).2.2.1⟩⟩
  cases A with
  | none =>
    rcases h.2 with ⟨rfl, h0⟩ | ⟨g, cap, cur, hv, _⟩
    · simp only [Value.slice.injEq, true_and] at h1; omega
    · rw [h1] at hv; cases hv
  | some a => exact (h3 a rfl).2.2.2.2.1
/-- one number is turned -/
theorem OwnI.set {w : World} {lo g c : Nat} {e : TypeId} {k : IntKind} {l : List Int} (i : Nat) (u : Int) (h : OwnI w lo e k (.slice (some ⟨g, 0, none⟩) l.length c) l) :
    OwnI (w.setCell ⟨g, i, none⟩ (.int k u)) lo e k (.slice (some ⟨g, 0, none⟩) l.length c) (l.set i u) := by
  rcases h.2 with ⟨hv, _⟩ | ⟨g', cap, cur, hv, hg, hh, hn, hcm, hcs, htk⟩
  · cases hv
  · cases hv
    refine ⟨by simp, .inr ⟨g, c, cur.setIfInBounds i (.int k u), by simp, hg, ?_, by simpa using hn, hcm, by simpa using hcs, ?_⟩⟩
    · unfold World.setCell
      simp only [Array.getElem?_modify, if_true, hh]
      rfl
    · simp only [Array.toList_setIfInBounds, List.length_set]
      rw [List.take_set, htk, List.map_set]
theorem made_tab (k : IntKind) (n : Nat) : madeCells (Value.int k 0).cells n = tab n k (fun _ => 0) := by
  refine tab_lit _ _ _ _ ?_
  show (madeCells #[Value.int k 0] n).toList = _
  rw [toList_madeCells_one]
  apply List.ext_getElem?
  intro j
  by_cases hj : j < n
  · rw [List.getElem?_map, tl_get n _ j hj]; simp [hj]
  · rw [List.getElem?_eq_none (by simp; omega), List.getElem?_eq_none (by rw [List.length_map, tl_length]; omega)]
/-- make([]T, n) -/
theorem run_make_tab {P : Program} {t e : TypeId} {k : IntKind} {bytes : Nat} (hE : IntElem P t e k bytes) (w : World) (kl : IntKind) (n : Nat) (h63 : n ≤ maxLen) (hb : bytes * n ≤ 281474976710656) :
    (Instr.makeSlice t (.int kl n) (.int kl n)).run P w = .ok (.slice (some ⟨w.heap.size, 0, none⟩) n n) (w.alloc (.cells (tab n k zf) e)) := by
  obtain ⟨i, hi, hz, hsz, hbb⟩ := hE.hi
  have h := run_make (P := P) w t e i _ hE.ht hi hz kl kl n n (by omega) (by omega) (by rw [hbb, ← Int.natCast_mul]; omega) (by unfold maxLen at h63; omega)
  rw [hsz, Nat.mul_one, Int.toNat_natCast, made_tab] at h
  exact h
end Go.Proofs.YtfjigoimjaemmaaDoor
