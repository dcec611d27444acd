/- What a call may turn; slices that the call itself has made: append. -/
import Derived.Test.YtfjigoimjaemmaaDoorRead
import Derived.Maps.AppendAt
import Derived.Lib.AppendZerosOnto
import Derived.Lib.AppendZeros
namespace Go.Proofs.YtfjigoimjaemmaaDoor
open Go.RowKit
set_option linter.unusedSimpArgs false
set_option linter.unusedVariables false
set_option maxRecDepth 100000

/-- of the blocks that were there only those of T may have turned -/
structure Only (T : Nat → Prop) (w w' : World) : Prop where
  os : w'.os = w.os
  tape : w'.tape = w.tape
  output : w'.output = w.output
  size : w.heap.size ≤ w'.heap.size
  block : ∀ k, k < w.heap.size → ¬ T k → w'.heap[k]? = w.heap[k]?
theorem Only.refl (T : Nat → Prop) (w : World) : Only T w w := ⟨rfl, rfl, rfl, Nat.le_refl _, fun _ _ _ => rfl⟩
theorem Only.trans {T U : Nat → Prop} {a b c : World} (h : Only T a b) (k : Only U b c) (hU : ∀ x, x < a.heap.size → U x → T x) : Only T a c :=
  ⟨k.os.trans h.os, k.tape.trans h.tape, k.output.trans h.output, Nat.le_trans h.size k.size, fun i hi hn => (k.block i (Nat.lt_of_lt_of_le hi h.size) (fun hu => hn (hU i hi hu))).trans (h.block i hi hn)⟩
theorem Only.weaken {T U : Nat → Prop} {a b : World} (h : Only T a b) (hT : ∀ x, x < a.heap.size → T x → U x) : Only U a b :=
  ⟨h.os, h.tape, h.output, h.size, fun k hk hn => h.block k hk fun ht => hn (hT k hk ht)⟩
theorem Only.of_below {B : Nat} {w w' : World} (h : Below B w w') : Only (fun b => B ≤ b) w w' := ⟨h.os, h.tape, h.output, h.size, fun k _ hn => h.block k (by omega)⟩
theorem Only.of_below' {w w' : World} (T : Nat → Prop) (h : Below w.heap.size w w') : Only T w w' := (Only.of_below h).weaken fun x hx h => by omega
theorem Only.below {T : Nat → Prop} {B : Nat} {w w' : World} (h : Only T w w') (hB : B ≤ w.heap.size) (hT : ∀ x, T x → B ≤ x) : Below B w w' :=
  ⟨h.os, h.tape, h.output, h.size, fun k hk => h.block k (by omega) fun ht => by have := hT k ht; omega⟩
theorem Only.of_grown {row : Option Nat} {w w' : World} (h : w.grownBy w' row) : Only (fun b => row = some b) w w' := ⟨h.os, h.tape, h.output, h.size, fun k hk hn => h.block k hk fun e => hn e.symm⟩
theorem Only.rowOf {T : Nat → Prop} {w w' : World} (h : Only T w w') {b : Nat} (hb : b < w.heap.size) (hn : ¬ T b) : rowOf w' b = rowOf w b := by
  unfold Proofs.YtfjigoimjaemmaaDoor.rowOf; rw [h.block b hb hn]
theorem Only.rowFit {T : Nat → Prop} {w w' : World} (h : Only T w w') {b : Nat} (hb : b < w.heap.size) (hn : ¬ T b) : rowFit w' b = rowFit w b := by
  unfold Proofs.YtfjigoimjaemmaaDoor.rowFit; rw [h.block b hb hn]
theorem Only.cell {T : Nat → Prop} {w w' : World} (h : Only T w w') {a : Addr} (hb : a.block < w.heap.size) (hn : ¬ T a.block) : w'.cell? a = w.cell? a := World.cell?_of_block (h.block _ hb hn)

theorem Only.setCell (w : World) (a : Addr) (u : Value) : Only (fun b => b = a.block) w (w.setCell a u) := ⟨rfl, rfl, rfl, by simp [World.setCell], fun k hk hn => Below.heap_setCell _ _ _ _ hn⟩
theorem Only.alloc (T : Nat → Prop) (w : World) (o : Obj) : Only T w (w.alloc o) := ⟨rfl, rfl, rfl, by simp, fun k hk _ => Below.heap_alloc _ _ _ hk⟩
/-- where an owned slice lies: its block, if it has one -/
def ownAt (v : Value) (b : Nat) : Prop := v.ownBlock = some b

/-- what is known of the elements of a slice type: whole numbers of a kind -/
structure IntElem (P : Program) (t e : TypeId) (k : IntKind) (bytes : Nat) : Prop where
  ht : P.underlying t = some (.slice e)
  hi : ∃ i, P.info? e = some i ∧ i.zero = some (.int k 0) ∧ i.size = 1 ∧ i.bytes = bytes
theorem IntElem.mk' {P : Program} {t e : TypeId} {k : IntKind} {bytes : Nat} (ht : P.underlying t = some (.slice e)) (h : (P.info? e).map (fun i => (i.zero, i.size, i.bytes)) = some (some (.int k 0), 1, bytes)) : IntElem P t e k bytes :=
  ⟨ht, info_parts h⟩

/-- the call's own slice v holds the numbers l -/
def OwnI (w : World) (lo : Nat) (e : TypeId) (k : IntKind) (v : Value) (l : List Int) : Prop := w.ownsRow lo e 1 v l.length (l.map (Value.int k))
theorem OwnI.nil (w : World) (lo : Nat) (e : TypeId) (k : IntKind) : OwnI w lo e k (.slice none 0 0) [] := World.ownsRow_nil w lo e 1
theorem OwnI.form {w : World} {lo : Nat} {e : TypeId} {k : IntKind} {v : Value} {l : List Int} (h : OwnI w lo e k v l) : ∃ A c, v = .slice A l.length c ∧ Ints w k A l.length (fun j => l.getD j 0) ∧ (∀ a, A = some a → lo ≤ a.block ∧ a.off = 0 ∧ a.spot = none ∧ rowFit w a.block = some c ∧ l.length ≤ c ∧ ∀ j, j < l.length → (rowOf w a.block)[j]? = some (.int k (l.getD j 0))) := by
  rcases h.2 with ⟨rfl, h0⟩ | ⟨g, cap, cur, rfl, hg, hh, hn, hcm, hs, htk⟩
  · have hl : l = [] := List.eq_nil_of_length_eq_zero (by simpa using h0)
    subst hl
    exact ⟨none, 0, rfl, fun j hj => absurd hj (by simp), fun a ha => by cases ha⟩
  · have hcells : ∀ j, j < l.length → (rowOf w g)[j]? = some (.int k (l.getD j 0)) := by
      intro j hj
      rw [rowOf_of hh]
      have h1 : (cur.toList.take (l.length * 1))[j]? = some (.int k (l.getD j 0)) := by
        rw [htk]; simp [hj]
      rw [List.getElem?_take_of_lt (by omega)] at h1
      simpa using h1
    refine ⟨some ⟨g, 0, none⟩, cap, rfl, fun j hj => ⟨⟨g, 0, none⟩, rfl, (Array.getElem?_eq_some_iff.1 hh).1, ?_⟩, fun a ha => ?_⟩
    · rw [Addr.add_lit, cell_of_rowOf, Nat.zero_add]; exact hcells j hj
    · obtain rfl := Option.some.inj ha
      exact ⟨hg, rfl, rfl, by rw [rowFit_of hh, hs, Nat.mul_one], hn, hcells⟩
theorem ownsRow_only {T : Nat → Prop} {w w' : World} {lo : Nat} {e size n : Nat} {v : Value} {xs : List Value} (h : w.ownsRow lo e size v n xs) (ho : Only T w w') (hn : ∀ b, v.ownBlock = some b → ¬ T b) : w'.ownsRow lo e size v n xs := by
  refine ⟨h.1, ?_⟩
  rcases h.2 with h2 | ⟨g, cap, cur, rfl, hg, hh, hr⟩
  · exact .inl h2
  · exact .inr ⟨g, cap, cur, rfl, hg, (ho.block g (Array.getElem?_eq_some_iff.1 hh).1 (hn g rfl)).trans hh, hr⟩
theorem OwnI.only {T : Nat → Prop} {w w' : World} {lo : Nat} {e : TypeId} {k : IntKind} {v : Value} {l : List Int} (h : OwnI w lo e k v l) (ho : Only T w w') (hn : ∀ b, v.ownBlock = some b → ¬ T b) : OwnI w' lo e k v l := ownsRow_only h ho hn
theorem ownsRow_lt {w : World} {lo : Nat} {e size n : Nat} {v : Value} {xs : List Value} (h : w.ownsRow lo e size v n xs) {b : Nat} (hb : v.ownBlock = some b) : lo ≤ b ∧ b < w.heap.size := by
  rcases h.2 with ⟨rfl, _⟩ | ⟨g, cap, cur, rfl, hg, hh, _⟩
  · simp [Value.ownBlock] at hb
  · simp [Value.ownBlock] at hb
    subst hb
    exact ⟨hg, (Array.getElem?_eq_some_iff.1 hh).1⟩

section
variable {P : Program} {w : World}

/-- what append leaves -/
def Appended (w w' : World) (v v' : Value) : Prop := Only (fun b => v.ownBlock = some b) w w' ∧ (v'.ownBlock = v.ownBlock ∨ v'.ownBlock = some w.heap.size)

theorem run_app (lo : Nat) (t ty e : TypeId) (k : IntKind) (bytes : Nat) (hE : IntElem P t e k bytes) (v : Value) (l : List Int) (hown : OwnI w lo e k v l) (A : Option Addr) (m c : Nat) (b : Nat → Int) (hr : Ints w k A m b)
    (h63 : l.length + m ≤ maxLen) (hbytes : (l.length + m) * bytes ≤ 140737488355328) (hlo : lo ≤ w.heap.size) :
    ∃ v' w', (Builtin.append_ #[t, t] ty #[v, .slice A m c]).run P w = .ok v' w' ∧ OwnI w' lo e k v' (l ++ tl m b) ∧ Appended w w' v v' := by
  obtain ⟨i, hi, hz, hs, hb⟩ := hE.hi
  rcases Nat.eq_zero_or_pos m with h0 | h0
  · subst h0
    refine ⟨v, w, ?_, by simpa [tl] using hown, Only.refl _ _, .inl rfl⟩
    have hf : (Builtin.firstCells i.size 0 (.slice A 0 c)).run P w = .ok #[] w := by
      cases A <;> simp [Builtin.firstCells, loadCells, loadCellsFrom]
    rcases hown.2 with ⟨rfl, h1⟩ | ⟨g, cap, cur, rfl, hg, hh, hn, hcm, hcs, htk⟩
    · simp [Builtin.append_, run_underlying hE.ht, sizeOf, typeInfo, hi, Builtin.lenOf, hf]
    · simp [Builtin.append_, run_underlying hE.ht, sizeOf, typeInfo, hi, Builtin.lenOf, hf, hn, storeCells]
  · obtain ⟨a, rfl, _, _⟩ := hr 0 h0
    have hnews : ∀ j u, ((tl m b).map (Value.int k))[j]? = some u → w.cell? (a.add j) = some u := by
      intro j u hu
      by_cases hj : j < m
      · obtain ⟨a', ha, _, hc⟩ := hr j hj
        obtain rfl := Option.some.inj ha
        rw [List.getElem?_map, tl_get m b j hj] at hu
        rw [hc, ← Option.some.inj hu]
      · rw [List.getElem?_eq_none (by rw [List.length_map, tl_length]; omega)] at hu; cases hu
    obtain ⟨v', w', h1, h2, h3, _, h5⟩ := run_append_own_at (P := P) w lo t ty e i (.int k 0) 1 bytes hE.ht hi hz hs hb rfl (by omega) v l.length _ hown a m c _ (by simp [tl_length]) hnews (by simp [Value.oneCell']) h63 hbytes hlo
    refine ⟨v', w', h1, ?_, Only.of_grown h3, h5⟩
    unfold OwnI
    rw [List.length_append, tl_length, List.map_append]; exact h2

theorem wpList_app {ops : Array Oper} {rest : List Oper} {o : Oper} {a : Act} {Q : Exit → Act → World → Prop} {lo : Nat} {t e : TypeId} {k : IntKind} {bytes : Nat} (hE : IntElem P t e k bytes) (hgd : o.guard = none) (s x : Operand)
    (ho : o.op = .call { callee := .builtin .append, args := #[s, x], argTypes := #[t, t] }) (v : Value) (l : List Int) (hs : a.eval s = v) (hown : OwnI w lo e k v l)
    (A : Option Addr) (m c : Nat) (b : Nat → Int) (hx : a.eval x = .slice A m c) (hr : Ints w k A m b) (h63 : l.length + m ≤ maxLen) (hbytes : (l.length + m) * bytes ≤ 140737488355328) (hlo : lo ≤ w.heap.size)
    (h : ∀ v' w', OwnI w' lo e k v' (l ++ tl m b) → Appended w w' v v' → wpList P ops Q rest (a.put o.dst v') w') : wpList P ops Q (o :: rest) a w := by
  obtain ⟨v', w', h1, h2, h3⟩ := run_app (P := P) lo t o.type e k bytes hE v l hown A m c b hr h63 hbytes hlo
  exact Lib.wpList_append_run w hgd s x t t ho _ _ hs hx v' w' h1 (h v' w' h2 h3)

/-- append(v, make([]T, m)...) -/
theorem run_app_zeros (lo : Nat) (t tn ty e : TypeId) (k kn kq : IntKind) (bytes : Nat) (hE : IntElem P t e k bytes) (htn : P.underlying tn = some (.int kn)) (v : Value) (l : List Int) (hown : OwnI w lo e k v l) (m : Nat) (h0 : 0 < m)
    (h63 : l.length + m ≤ maxLen) (hbytes : (l.length + m) * bytes ≤ 140737488355328) (hlo : lo ≤ w.heap.size) :
    ∃ v' w', (Builtin.append_ #[t, tn] ty #[v, .int kq m]).run P w = .ok v' w' ∧ OwnI w' lo e k v' (l ++ List.replicate m 0) ∧ Appended w w' v v' := by
  obtain ⟨i, hi, hz, hsz, hb⟩ := hE.hi
  have hzc : ∀ n, (Builtin.zeroCells (Value.int k 0).cells n).toList = List.replicate n (.int k 0) := by
    intro n
    apply List.ext_getElem?
    intro j
    by_cases hj : j < n
    · simp [Builtin.zeroCells, Value.cells, hj, List.getElem?_replicate]
      rw [Nat.mod_one]; rfl
    · simp [Builtin.zeroCells, Value.cells, hj, List.getElem?_replicate]
  have hmap : (l ++ List.replicate m 0).map (Value.int k) = l.map (Value.int k) ++ List.replicate m (.int k 0) := by simp
  have fin : ∀ old, old < l.length + m → w.drew.alloc (.cells ((l.map (Value.int k)).toArray ++ Builtin.zeroCells (Value.int k 0).cells m ++ Builtin.zeroCells (Value.int k 0).cells (grownCap w (l.length + m) old e - (l.length + m))) e) = w.drew.alloc (.cells ((l.map (Value.int k)).toArray ++ Builtin.zeroCells (Value.int k 0).cells m ++ Builtin.zeroCells (Value.int k 0).cells (grownCap w (l.length + m) old e - (l.length + m))) e) →
      OwnI (w.drew.alloc (.cells ((l.map (Value.int k)).toArray ++ Builtin.zeroCells (Value.int k 0).cells m ++ Builtin.zeroCells (Value.int k 0).cells (grownCap w (l.length + m) old e - (l.length + m))) e)) lo e k (.slice (some ⟨w.heap.size, 0, none⟩) (l.length + m) (grownCap w (l.length + m) old e)) (l ++ List.replicate m 0) ∧
      Only (fun b => v.ownBlock = some b) w (w.drew.alloc (.cells ((l.map (Value.int k)).toArray ++ Builtin.zeroCells (Value.int k 0).cells m ++ Builtin.zeroCells (Value.int k 0).cells (grownCap w (l.length + m) old e - (l.length + m))) e)) := by
    intro old ho _
    have hge := grownCap_ge w (l.length + m) old e
    refine ⟨⟨by simp, .inr ⟨w.heap.size, _, _, by simp, hlo, heap_alloc_last w.drew _, by simpa using hge, grownCap_le_maxLen w _ old e h63, ?_, ?_⟩⟩, ⟨rfl, rfl, rfl, by simp, fun b hb _ => Below.heap_alloc w.drew _ b hb⟩⟩
    · simp [size_zeroCells, Value.cells]; omega
    · rw [hmap]
      simp only [Array.toList_append, hzc]
      rw [List.take_append_of_le_length (by simp), List.take_of_length_le (by simp)]
  rcases hown.2 with ⟨rfl, h1⟩ | ⟨g, cap, cur, rfl, hg, hh, hn, hcm, hcs, htk⟩
  · have hl : l = [] := List.eq_nil_of_length_eq_zero (by simpa using h1)
    subst hl
    have hr := Lib.run_append_nil_zeros (P := P) w t tn ty e i (.int k 0) kq kn hE.ht htn hi hz m h0 (by omega) (by simp [maxLen] at h63; omega) (by rw [hb]; simp at hbytes; omega)
    have := fin 0 (by omega) rfl
    simp only [List.map_nil, List.length_nil, Nat.zero_add, List.nil_append, Array.empty_append] at this ⊢
    exact ⟨_, _, hr, this.1, this.2, .inr rfl⟩
  · by_cases hroom : l.length + m ≤ cap
    · have hw : IntKind.i64.wrap (m : Int) = m := by rw [IntKind.wrap_i64]; simp [maxLen] at h63; omega
      have hneg : ¬ ((m : Int) < 0) := by omega
      have hm0 : m ≠ 0 := by omega
      have hns : ¬ (m * i.size = 0) := Nat.mul_ne_zero hm0 (by omega)
      have h48i : ¬ (281474976710656 < (m : Int) * (i.bytes : Int)) := by
        rw [← Int.natCast_mul, hb]
        have : m * bytes ≤ (l.length + m) * bytes := Nat.mul_le_mul_right _ (by omega)
        omega
      have hst := run_storeCells_at P g (l.length * i.size) e (List.replicate m (.int k 0)) 0 cur w hh (by rw [hsz, hcs]; simp; omega) (by simp [Value.oneCell'])
      simp only [Nat.add_zero] at hst
      have hz2 := hzc m
      have hrun : (Builtin.append_ #[t, tn] ty #[.slice (some ⟨g, 0, none⟩) l.length cap, .int kq m]).run P w = .ok (.slice (some ⟨g, 0, none⟩) (l.length + m) cap)
          (w.setRow g (cur.toList.take (l.length * i.size) ++ List.replicate m (Value.int k 0) ++ cur.toList.drop (l.length * i.size + (List.replicate m (Value.int k 0)).length)).toArray) := by
        simp [Builtin.append_, run_underlying hE.ht, run_underlying htn, sizeOf, typeInfo, zeroValue, hi, hz, asInt, asIntOf, hw, hneg, hns, hm0, h48i, Question.forced, Builtin.lenOf, hroom, Addr.add_lit, hz2, hst]
      refine ⟨_, _, hrun, ?_, ⟨rfl, rfl, rfl, by simp, fun b hb hnb => setRow_other w g b _ (fun e => hnb (by simp [Value.ownBlock, e]))⟩, .inl rfl⟩
      refine ⟨by simp, .inr ⟨g, cap, _, by simp, hg, setRow_heap w g cur _ e _ hh, by simpa using hroom, hcm, ?_, ?_⟩⟩
      · simp [hsz, hcs]; omega
      · rw [hmap]
        simp only [hsz, Nat.mul_one, List.length_append, List.length_replicate]
        rw [Nat.mul_one] at htk
        rw [htk, List.take_append_of_le_length (by simp), List.take_of_length_le (by simp)]
    · have holds : ∀ j u, (l.map (Value.int k))[j]? = some u → w.cell? ((⟨g, 0, none⟩ : Addr).add j) = some u := hown.cells (g := g) rfl
      have hold := run_firstCells_some (P := P) w.drew i.size l.length ⟨g, 0, none⟩ l.length cap (l.map (Value.int k)) (by simp [hsz]) holds
      have hr := Lib.run_append_grow_zeros (P := P) w t tn ty e i (.int k 0) kq kn hE.ht htn hi hz (some ⟨g, 0, none⟩) l.length cap _ hold m h0 (by omega) (by omega) (by simp [maxLen] at h63; omega) (by
        rw [hb]
        have : m * bytes ≤ (l.length + m) * bytes := Nat.mul_le_mul_right _ (by omega)
        omega) (by rw [hb]; exact growslice_fits (by omega) hbytes)
      have := fin cap (by omega) rfl
      exact ⟨_, _, hr, this.1, this.2, .inr rfl⟩

theorem wpList_app_zeros {ops : Array Oper} {rest : List Oper} {o : Oper} {a : Act} {Q : Exit → Act → World → Prop} {lo : Nat} {t tn e : TypeId} {k kn kq : IntKind} {bytes : Nat} (hE : IntElem P t e k bytes) (htn : P.underlying tn = some (.int kn)) (hgd : o.guard = none) (s x : Operand)
    (ho : o.op = .call { callee := .builtin .append, args := #[s, x], argTypes := #[t, tn] }) (v : Value) (l : List Int) (hs : a.eval s = v) (hown : OwnI w lo e k v l)
    (m : Nat) (h0 : 0 < m) (hx : a.eval x = .int kq m) (h63 : l.length + m ≤ maxLen) (hbytes : (l.length + m) * bytes ≤ 140737488355328) (hlo : lo ≤ w.heap.size)
    (h : ∀ v' w', OwnI w' lo e k v' (l ++ List.replicate m 0) → Appended w w' v v' → wpList P ops Q rest (a.put o.dst v') w') : wpList P ops Q (o :: rest) a w := by
  obtain ⟨v', w', h1, h2, h3⟩ := run_app_zeros (P := P) lo t tn o.type e k kn kq bytes hE htn v l hown m h0 h63 hbytes hlo
  exact Lib.wpList_append_run w hgd s x t tn ho _ _ hs hx v' w' h1 (h v' w' h2 h3)
end

end Go.Proofs.YtfjigoimjaemmaaDoor
