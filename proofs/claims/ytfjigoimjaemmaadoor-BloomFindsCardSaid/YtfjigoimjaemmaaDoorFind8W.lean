/- the filter's search: what was found, as logs. -/
import Derived.Test.YtfjigoimjaemmaaDoorFind7W
import Derived.Laws.IdiomCopy
namespace Go.Proofs.YtfjigoimjaemmaaDoor
open Go.RowKit
set_option linter.unusedSimpArgs false
set_option linter.unusedVariables false
set_option maxRecDepth 100000

theorem only_setCells (b : Nat) : ∀ (vs : List Value) (o : Nat) (w : World), Only (fun x => x = b) w (w.setCells b o vs)
  | [], _, w => Only.refl _ w
  | v :: r, o, w => (Only.setCell w ⟨b, o, none⟩ v).trans (only_setCells b r (o + 1) _) fun x _ h => h
theorem rowFit_setCells (b n : Nat) : ∀ (vs : List Value) (o : Nat) (w : World), rowFit (w.setCells b o vs) n = rowFit w n
  | [], _, w => rfl
  | v :: r, o, w => by rw [World.setCells, rowFit_setCells b n r (o + 1), rowFit_setCell]
theorem size_setCells (b : Nat) : ∀ (vs : List Value) (o : Nat) (w : World), (w.setCells b o vs).heap.size = w.heap.size
  | [], _, w => rfl
  | v :: r, o, w => by rw [World.setCells, size_setCells b r (o + 1), World.size_setCell]
/-- a slice that can be cleared: its cells fit into its block -/
def Clr (w : World) (s : Nat) (A : Option Addr) (n : Nat) : Prop := n = 0 ∨ ∃ g m, A = some ⟨g, 0, none⟩ ∧ rowFit w g = some m ∧ n * s ≤ m
theorem Clr.keep {w w' : World} {s : Nat} {A : Option Addr} {n : Nat} (h : Clr w s A n) (hf : ∀ a, A = some a → rowFit w' a.block = rowFit w a.block) : Clr w' s A n := by
  rcases h with h | ⟨g, m, rfl, h1, h2⟩
  · exact .inl h
  · exact .inr ⟨g, m, rfl, by rw [hf _ rfl]; exact h1, h2⟩
theorem run_clear {P : Program} {t e s : Nat} {z : Value} (ht : P.underlying t = some (.slice e)) (hv : ∀ w, (zeroValue e).run P w = .ok z w) (hs : z.cells.size = s) (h1 : okCells z.cells = true) (w : World) (A : Option Addr) (n c : Nat) (h : Clr w s A n) :
    ∃ w', (∀ ty, (Builtin.clear_ #[t] ty #[.slice A n c]).run P w = .ok (.tuple #[]) w') ∧ Only (fun b => ∃ a, A = some a ∧ b = a.block) w w' ∧ (∀ b, rowFit w' b = rowFit w b) ∧ w'.heap.size = w.heap.size := by
  rcases h with rfl | ⟨g, m, rfl, h2, h3⟩
  · exact ⟨w, fun ty => by cases A <;> simp [Builtin.clear_, run_underlying ht], Only.refl _ _, fun _ => rfl, rfl⟩
  · rcases Nat.eq_zero_or_pos n with rfl | hn
    · exact ⟨w, fun ty => by simp [Builtin.clear_, run_underlying ht], Only.refl _ _, fun _ => rfl, rfl⟩
    · obtain ⟨ty0, hb, hsz⟩ := rowFit_some h2
      have hlen : (Builtin.zeroCells z.cells n).toList.length = n * s := by simp [Builtin.zeroCells, hs]
      have hst := run_storeCells_cells (P := P) g 0 (Builtin.zeroCells z.cells n).toList 0 w
        (fun j hj => by
          rw [hlen] at hj
          rw [cell_of_rowOf, Array.getElem?_eq_getElem (by rw [hsz]; omega)]; rfl)
        (fun j hj => frozen_of_fit w g _ (by rw [h2]; rfl))
        (fun v hv => by
          simp only [Builtin.zeroCells, Array.toList_map, List.mem_map] at hv
          obtain ⟨i, hi, rfl⟩ := hv
          have hi' : i < n * z.cells.size := by simpa using hi
          have hpos : 0 < z.cells.size := by
            rcases Nat.eq_zero_or_pos z.cells.size with h0 | h0
            · rw [h0] at hi'; simp at hi'
            · exact h0
          have hm : i % z.cells.size < z.cells.size := Nat.mod_lt _ hpos
          rw [getElem!_pos z.cells _ hm]
          rw [okCells, Array.all_eq_true] at h1
          exact h1 _ hm)
      simp only [Nat.add_zero] at hst
      refine ⟨_, fun ty => ?_, (only_setCells g (Builtin.zeroCells z.cells n).toList 0 w).weaken fun x _ hx => ⟨_, rfl, hx⟩, fun b => rowFit_setCells g b _ 0 w, size_setCells g _ 0 w⟩
      obtain ⟨k, rfl⟩ : ∃ k, n = k + 1 := ⟨n - 1, by omega⟩
      simp [Builtin.clear_, run_underlying ht, hv, hst]
theorem foundL_mem {L : Nat → LogV} {f : Nat → Int} {x : Nat → Nat → Int} {m : Nat} {o : LogV} : ∀ n, o ∈ foundL L f x m n → ∃ j, j < n ∧ o = L j
  | 0, h => by simp [foundL] at h
  | n + 1, h => by
    rw [foundL, List.mem_append] at h
    rcases h with h | h
    · obtain ⟨j, hj, e⟩ := foundL_mem n h
      exact ⟨j, by omega, e⟩
    · split at h
      · exact ⟨n, by omega, List.mem_singleton.1 h⟩
      · simp at h
theorem foundR_mem {R : Nat → RcV} {f : Nat → Int} {x : Nat → Nat → Int} {m : Nat} {o : LogV} : ∀ n, o ∈ foundR R f x m n → ∃ r j, r < n ∧ j < (R r).ln ∧ o = (R r).L j
  | 0, h => by simp [foundR] at h
  | n + 1, h => by
    rw [foundR, List.mem_append] at h
    rcases h with h | h
    · obtain ⟨r, j, hr, hj, e⟩ := foundR_mem n h
      exact ⟨r, j, by omega, hj, e⟩
    · obtain ⟨j, hj, e⟩ := foundL_mem _ h
      exact ⟨n, j, by omega, hj, e⟩
theorem foundS_mem {S : Nat → SlV} {f : Nat → Int} {x : Nat → Nat → Int} {m : Nat} {o : LogV} : ∀ n, o ∈ foundS S f x m n → ∃ k r j, k < n ∧ r < (S k).rn ∧ j < ((S k).R r).ln ∧ o = ((S k).R r).L j
  | 0, h => by simp [foundS] at h
  | n + 1, h => by
    rw [foundS, List.mem_append] at h
    rcases h with h | h
    · obtain ⟨k, r, j, hk, hr, hj, e⟩ := foundS_mem n h
      exact ⟨k, r, j, by omega, hr, hj, e⟩
    · obtain ⟨r, j, hr, hj, e⟩ := foundR_mem _ h
      exact ⟨n, r, j, by omega, hr, hj, e⟩
theorem foundR_len {R : Nat → RcV} {f : Nat → Int} {x : Nat → Nat → Int} {m : Nat} : ∀ n, (∀ r, r < n → (R r).ln ≤ 30) → (foundR R f x m n).length ≤ 30 * n
  | 0, _ => by simp [foundR]
  | n + 1, h => by
    rw [foundR, List.length_append]
    have h1 := foundR_len (f := f) (x := x) (m := m) n fun r hr => h r (by omega)
    have h2 := foundL_length (R n).L f x m (R n).ln
    have h3 := h n (by omega)
    omega
theorem foundS_len {S : Nat → SlV} {f : Nat → Int} {x : Nat → Nat → Int} {m : Nat} : ∀ n, (∀ k, k < n → (S k).rn ≤ 10) → (∀ k, k < n → ∀ r, r < (S k).rn → ((S k).R r).ln ≤ 30) → (foundS S f x m n).length ≤ 300 * n
  | 0, _, _ => by simp [foundS]
  | n + 1, h, h' => by
    rw [foundS, List.length_append]
    have h1 := foundS_len (f := f) (x := x) (m := m) n (fun r hr => h r (by omega)) (fun r hr => h' r (by omega))
    have h2 := foundR_len (R := (S n).R) (f := f) (x := x) (m := m) (S n).rn (h' n (by omega))
    have h3 := h n (by omega)
    omega
theorem foundS_ok {w : World} {A : Option Addr} {S : Nat → SlV} {f : Nat → Int} {x : Nat → Nat → Int} {m n : Nat} (h : Seals w A n S) : ∀ o ∈ foundS S f x m n, o.Ok w := by
  intro o ho
  obtain ⟨k, r, j, hk, hr, hj, rfl⟩ := foundS_mem n ho
  exact ((((h k hk).2.rcs) r hr).2.logs j hj).2

/-- own rows of logs, as logs -/
theorem OwnR.asLogs {w : World} {lo : Nat} {v : Value} {l : List LogV} (h : OwnR w lo 64 22 v (lcells l)) (hok : ∀ o ∈ l, o.Ok w) : ∃ A c, v = .slice A l.length c ∧ Logs w A l.length (fun j => l.getD j default) := by
  obtain ⟨A, c, hv, _, _, h3, h4⟩ := h.form
  rw [lcells_length] at hv
  refine ⟨A, c, hv, fun j hj => ?_⟩
  have hg : l[j]? = some (l.getD j default) := by simp [List.getD, hj]
  have hc : (lcells l)[j]? = some (l.getD j default).row.toList := by rw [lcells, List.getElem?_map, hg]; rfl
  obtain ⟨a, rfl⟩ := h3 (by intro e; have := congrArg List.length e; rw [lcells_length] at this; simp at this; subst this; simp at hj)
  obtain ⟨_, q1, _, _, _, q5⟩ := h4 a rfl
  refine ⟨⟨a, rfl, q1, by rw [block_add]; exact q1, fun i u hu => ?_⟩, hok _ (List.mem_of_getElem? hg)⟩
  rw [add_add]
  exact q5 j _ hc i u hu
/-- a copy is a log -/
theorem OwnR.words {w : World} {lo : Nat} {A : Option Addr} {n c : Nat} {x : Nat → Nat → Int} (h : OwnR w lo 47 4 (.slice A n c) (wrows n x)) : Words w A n x := fun j hj => by
  obtain ⟨A', c', hv, _, _, h3, h4⟩ := h.form
  rw [wrows_length] at hv
  cases hv
  obtain ⟨a, rfl⟩ := h3 (by intro e; have := congrArg List.length e; rw [wrows_length] at this; simp at this; omega)
  obtain ⟨_, q1, _, _, _, q5⟩ := h4 a rfl
  refine ⟨a, rfl, q1, fun i hi => q5 j _ (wrows_get n x j hj) i _ ?_⟩
  rcases i with _ | _ | _ | _ | i
  · rfl
  · rfl
  · rfl
  · rfl
  · omega
theorem OwnI.intsF {w : World} {lo : Nat} {A : Option Addr} {n c : Nat} {x : Nat → Int} (h : OwnI w lo 5 .u8 (.slice A n c) (tl n x)) : Ints w .u8 A n x := by
  obtain ⟨A', c', hv, h2, _⟩ := h.form
  rw [tl_length] at hv h2
  cases hv
  intro j hj
  have := h2 j hj
  simp only [List.getD, tl_get n x j hj, Option.getD_some] at this
  exact this
theorem Cop.ok {w w0 : World} {lo : Nat} {v : Value} {o o' : LogV} (h : Cop w lo v o o') (ho : o.Ok w0) : o'.Ok w := by
  refine ⟨by rw [h.addr]; exact ho.addr, h.top.words, ?_, OwnI.intsF h.dat, ?_⟩
  · rw [h.tn, h.tx]; exact ho.words
  · rw [h.dn, h.dx]; exact ho.bytes
theorem Cop.same {w : World} {lo : Nat} {v : Value} {o o' : LogV} (h : Cop w lo v o o') : SameL o' o := ⟨h.addr, h.tn, h.tx, h.dn, h.dx⟩
theorem Cop.clrT {w : World} {lo : Nat} {v : Value} {o o' : LogV} (h : Cop w lo v o o') : Clr w 4 o'.tA o'.tn := by
  obtain ⟨A', c', hv, hle, _, h3, h4⟩ := h.top.form
  rw [wrows_length] at hv hle
  generalize o'.tA = tA at hv ⊢
  generalize o'.tn = tn at *
  cases hv
  cases A' with
  | none =>
    rcases Nat.eq_zero_or_pos tn with h0 | h0
    · exact .inl h0
    · obtain ⟨a, e⟩ := h3 (by intro e; have := congrArg List.length e; rw [wrows_length] at this; simp at this; omega)
      cases e
  | some a =>
    obtain ⟨_, _, h5, h6, h7, _⟩ := h4 a rfl
    obtain ⟨b, o, s⟩ := a
    simp only at h5 h6 h7
    subst h5 h6
    exact .inr ⟨b, _, rfl, h7, Nat.mul_le_mul_right 4 hle⟩
theorem Cop.clrD {w : World} {lo : Nat} {v : Value} {o o' : LogV} (h : Cop w lo v o o') : Clr w 1 o'.dA o'.dn := by
  obtain ⟨A', c', hv, h2, h3⟩ := OwnI.form h.dat
  rw [tl_length] at hv h2
  generalize o'.dA = tA at hv ⊢
  generalize o'.dn = tn at *
  cases hv
  cases A' with
  | none =>
    rcases Nat.eq_zero_or_pos tn with h0 | h0
    · exact .inl h0
    · obtain ⟨a, e, _⟩ := h2 0 h0
      cases e
  | some a =>
    obtain ⟨_, h5, h6, h7, h8, _⟩ := h3 a rfl
    rw [tl_length] at h8
    obtain ⟨b, o, s⟩ := a
    simp only at h5 h6 h7
    subst h5 h6
    exact .inr ⟨b, _, rfl, h7, by omega⟩
/-- the copies as logs -/
theorem Cops.asLogs {w w0 : World} {lo : Nat} {v : Value} {l l' : List LogV} (h : Cops w lo v l l') (hok : ∀ o ∈ l, o.Ok w0) : ∃ A c, v = .slice A l.length c ∧ Logs w A l.length (fun j => l'.getD j default) ∧ (∀ j, j < l.length → SameL (l'.getD j default) (l.getD j default)) := by
  have hj' : ∀ i b, l'[i]? = some b → ∃ a, l[i]? = some a := fun i b hb => by
    have hi := (List.getElem?_eq_some_iff.1 hb).1
    rw [h.len] at hi
    exact ⟨_, List.getElem?_eq_getElem hi⟩
  obtain ⟨A, c, hv, hL⟩ := h.own.asLogs fun o ho => by
    obtain ⟨i, hi, rfl⟩ := List.mem_iff_getElem.1 ho
    obtain ⟨a, ha⟩ := hj' i _ (List.getElem?_eq_getElem hi)
    exact (h.each i a _ ha (List.getElem?_eq_getElem hi)).ok (hok a (List.mem_of_getElem? ha))
  rw [h.len] at hv hL
  refine ⟨A, c, hv, hL, fun j hj => ?_⟩
  have h1 : l[j]? = some (l.getD j default) := by simp [List.getD, hj]
  have h2 : l'[j]? = some (l'.getD j default) := by simp [List.getD, h.len, hj]
  exact (h.each j _ _ h1 h2).same
/-- while the copies' own memory is cleared: what stands -/
structure ClrInv (w w5 : World) (f : Nat → Int) (lo : Nat) (v : Value) (l' : List LogV) (wr : World) : Prop where
  bel : Below w.heap.size w wr
  size : w5.heap.size ≤ wr.heap.size
  fit : ∀ b, b < w5.heap.size → rowFit wr b = rowFit w5 b
  own : OwnR wr lo 64 22 v (lcells l')
  row : rowOf wr w.heap.size = tab 20 .u8 f
theorem ClrInv.only {w w5 wr w' : World} {f : Nat → Int} {lo : Nat} {v : Value} {l' : List LogV} {A : Option Addr} (h : ClrInv w w5 f lo v l' wr) (ho : Only (fun b => ∃ a, A = some a ∧ b = a.block) wr w') (hf : ∀ b, b < wr.heap.size → rowFit w' b = rowFit wr b) (hlo : ∀ a, A = some a → w.heap.size < a.block)
    (hne : ∀ a, A = some a → v.ownBlock ≠ some a.block) (hw : w.heap.size < w5.heap.size) : ClrInv w w5 f lo v l' w' := by
  have hs := h.size
  refine ⟨h.bel.trans (ho.below h.bel.size fun x hx => ?_), Nat.le_trans hs ho.size, fun b hb => by rw [hf b (by omega)]; exact h.fit b hb, h.own.only ho fun b hb => ?_, ?_⟩
  · obtain ⟨a, ha, rfl⟩ := hx
    exact Nat.le_of_lt (hlo a ha)
  · rintro ⟨a, ha, rfl⟩
    exact hne a ha hb
  · rw [ho.rowOf (by omega) ?_, h.row]
    rintro ⟨a, ha, e⟩
    have := hlo a ha
    omega
theorem zero_word47 (w : World) : (zeroValue 47).run Tryd.prog w = .ok (wv (fn4 0 0 0 0)) w := zero_of Tryd.zeroValue47 (by kernel_rfl) w
theorem zero_u8 (w : World) : (zeroValue 5).run Tryd.prog w = .ok (.int .u8 0) w := zero_of Tryd.zeroValue5 (by kernel_rfl) w
/-- a copy's memory is cleared -/
theorem ClrInv.step {w w5 wr : World} {f : Nat → Int} {lo : Nat} {v : Value} {l' : List LogV} {o o' : LogV} (h : ClrInv w w5 f lo v l' wr) (hc : Cop w5 lo v o o') (hlo : w.heap.size < lo) (hw : w.heap.size < w5.heap.size) :
    ∃ W2 W3, (∀ ty, (Builtin.clear_ #[62] ty #[.slice o'.tA o'.tn o'.tc]).run Tryd.prog (wr.alloc (.cells o'.row 64)) = .ok (.tuple #[]) W2) ∧ rowOf W2 wr.heap.size = o'.row ∧
      (∀ ty, (Builtin.clear_ #[29] ty #[.slice o'.dA o'.dn o'.dc]).run Tryd.prog W2 = .ok (.tuple #[]) W3) ∧ ClrInv w w5 f lo v l' W3 ∧ wr.heap.size < W2.heap.size := by
  have hs := h.size
  have hA : Below wr.heap.size wr (wr.alloc (.cells o'.row 64)) := (Below.refl _ _).alloc (Nat.le_refl _) _
  have bT : ∀ a, o'.tA = some a → lo ≤ a.block ∧ a.block < w5.heap.size ∧ v.ownBlock ≠ some a.block := fun a ha => by
    have e : (Value.slice o'.tA o'.tn o'.tc).ownBlock = some a.block := by rw [ha]; rfl
    exact ⟨(hc.lt (.inl e)).1, (hc.lt (.inl e)).2, hc.ne _ (.inl e)⟩
  have bD : ∀ a, o'.dA = some a → lo ≤ a.block ∧ a.block < w5.heap.size ∧ v.ownBlock ≠ some a.block := fun a ha => by
    have e : (Value.slice o'.dA o'.dn o'.dc).ownBlock = some a.block := by rw [ha]; rfl
    exact ⟨(hc.lt (.inr e)).1, (hc.lt (.inr e)).2, hc.ne _ (.inr e)⟩
  have h1 : ClrInv w w5 f lo v l' (wr.alloc (.cells o'.row 64)) := h.only (A := none) (Only.of_below' _ hA) (fun b hb => rowFit_below hA hb) (fun a ha => by cases ha) (fun a ha => by cases ha) hw
  obtain ⟨W2, c1, c2, c3, c4⟩ := run_clear (P := Tryd.prog) (t := 62) (e := 47) (s := 4) Tryd.underlying62 zero_word47 rfl (okCells_tab 4 .u64 _) _ o'.tA o'.tn o'.tc (hc.clrT.keep fun a ha => h1.fit _ (bT a ha).2.1)
  have h2 : ClrInv w w5 f lo v l' W2 := h1.only c2 (fun b _ => c3 b) (fun a ha => by have := (bT a ha).1; omega) (fun a ha => (bT a ha).2.2) hw
  obtain ⟨W3, d1, d2, d3, d4⟩ := run_clear (P := Tryd.prog) (t := 29) (e := 5) (s := 1) Tryd.underlying29 zero_u8 rfl (by simp [okCells, Value.cells, Value.oneCell']) W2 o'.dA o'.dn o'.dc (hc.clrD.keep fun a ha => h2.fit _ (bD a ha).2.1)
  refine ⟨W2, W3, c1, ?_, d1, h2.only d2 (fun b _ => d3 b) (fun a ha => by have := (bD a ha).1; omega) (fun a ha => (bD a ha).2.2) hw, by rw [c4]; simp⟩
  rw [c2.rowOf (by simp) ?_, rowOf_alloc_at _ _ _ _ rfl]
  rintro ⟨a, ha, e⟩
  have := (bT a ha).2.1
  omega
/-- the load of the j-th row -/
theorem OwnR.loadL {w : World} {lo n c : Nat} {A : Option Addr} {l : List LogV} (h : OwnR w lo 64 22 (.slice A n c) (lcells l)) {j : Nat} (hj : j < l.length) : ∃ a, A = some a ∧ a.block < w.heap.size ∧ (ldArr 64 (.pointer (some (a.add (j * 22))))).run Tryd.prog w = .ok (.agg (l.getD j default).row) w := by
  obtain ⟨A', c', hv, _, _, h3, h4⟩ := h.form
  cases hv
  have hg : l[j]? = some (l.getD j default) := by simp [List.getD, hj]
  have hc : (lcells l)[j]? = some (l.getD j default).row.toList := by rw [lcells, List.getElem?_map, hg]; rfl
  obtain ⟨a, rfl⟩ := h3 (by intro e; have := congrArg List.length e; rw [lcells_length] at this; simp at this; subst this; simp at hj)
  obtain ⟨_, q1, _, _, _, q5⟩ := h4 a rfl
  refine ⟨a, rfl, q1, CellsAt.load Tryd.isAgg64 (fun w => by rw [LogV.row_size]; exact Tryd.sizeOf64 w) ⟨by rw [block_add]; exact q1, fun i u hu => ?_⟩⟩
  rw [add_add]
  exact q5 j _ hc i u hu
end Go.Proofs.YtfjigoimjaemmaaDoor
