/- slices of rows (structs, arrays) that the call itself has made. -/
import Derived.Test.YtfjigoimjaemmaaDoorOwn
import Derived.Deep.AppendLies
import Derived.Deep.RegionLaw
import Derived.Deep.Onto
namespace Go.Proofs.YtfjigoimjaemmaaDoor
open Go.RowKit
set_option linter.unusedSimpArgs false
set_option linter.unusedVariables false
set_option maxRecDepth 100000

theorem flat_length {s : Nat} : ∀ {l : List (List Value)}, (∀ r ∈ l, r.length = s) → l.flatten.length = l.length * s
  | [], _ => by simp
  | r :: l, h => by
    rw [List.flatten_cons, List.length_append, h r (by simp), flat_length (fun x hx => h x (by simp [hx])), List.length_cons, Nat.succ_mul]
    omega
theorem flat_get {s : Nat} : ∀ {l : List (List Value)}, (∀ r ∈ l, r.length = s) → ∀ (j i : Nat) (r : List Value), l[j]? = some r → i < s → l.flatten[j * s + i]? = r[i]?
  | [], _, j, i, r, hj, _ => by simp at hj
  | x :: l, h, 0, i, r, hj, hi => by
    simp at hj; subst hj
    rw [List.flatten_cons, Nat.zero_mul, Nat.zero_add, List.getElem?_append_left (by rw [h x (by simp)]; exact hi)]
  | x :: l, h, j + 1, i, r, hj, hi => by
    have hx := h x (by simp)
    rw [List.flatten_cons, List.getElem?_append_right (by rw [hx, Nat.succ_mul]; omega), hx, show (j + 1) * s + i - s = j * s + i by rw [Nat.succ_mul]; omega]
    exact flat_get (fun y hy => h y (by simp [hy])) j i r (by simpa using hj) hi

/-- what is known of the elements of a slice type: rows of s cells, of so many bytes -/
structure RowElem (P : Program) (t e : TypeId) (s bytes : Nat) : Prop where
  ht : P.underlying t = some (.slice e)
  hi : ∃ i z, P.info? e = some i ∧ i.zero = some z ∧ i.size = s ∧ i.bytes = bytes ∧ z.cells.size = s
  hs : 0 < s
theorem RowElem.mk' {P : Program} {t e : TypeId} {s bytes : Nat} {z : Value} (ht : P.underlying t = some (.slice e)) (h : (P.info? e).map (fun i => (i.zero, i.size, i.bytes)) = some (some z, s, bytes)) (hz : z.cells.size = s) (hs : 0 < s) : RowElem P t e s bytes := by
  obtain ⟨i, h1, h2, h3, h4⟩ := info_parts h
  exact ⟨ht, ⟨i, z, h1, h2, h3, h4, hz⟩, hs⟩

/-- the call's own slice v holds the rows l, each of s cells -/
def OwnR (w : World) (lo : Nat) (e : TypeId) (s : Nat) (v : Value) (l : List (List Value)) : Prop := w.ownsRow lo e s v l.length l.flatten ∧ ∀ r ∈ l, r.length = s
theorem OwnR.nil (w : World) (lo : Nat) (e : TypeId) (s : Nat) : OwnR w lo e s (.slice none 0 0) [] := ⟨World.ownsRow_nil w lo e s, by simp⟩
theorem OwnR.lower {w : World} {lo lo' : Nat} {e : TypeId} {s : Nat} {v : Value} {l : List (List Value)} (h : OwnR w lo e s v l) (hl : lo' ≤ lo) : OwnR w lo' e s v l := ⟨World.ownsRow.mono h.1 hl, h.2⟩
theorem OwnR.only {T : Nat → Prop} {w w' : World} {lo : Nat} {e : TypeId} {s : Nat} {v : Value} {l : List (List Value)} (h : OwnR w lo e s v l) (ho : Only T w w') (hn : ∀ b, v.ownBlock = some b → ¬ T b) : OwnR w' lo e s v l := ⟨ownsRow_only h.1 ho hn, h.2⟩
theorem OwnR.below {w w' : World} {lo : Nat} {e : TypeId} {s : Nat} {v : Value} {l : List (List Value)} (h : OwnR w lo e s v l) (hb : Below w.heap.size w w') : OwnR w' lo e s v l := h.only (Only.of_below' (fun _ => False) hb) fun _ _ h => h
theorem OwnR.lt {w : World} {lo : Nat} {e : TypeId} {s : Nat} {v : Value} {l : List (List Value)} (h : OwnR w lo e s v l) {b : Nat} (hb : v.ownBlock = some b) : lo ≤ b ∧ b < w.heap.size := ownsRow_lt h.1 hb

theorem OwnR.form {w : World} {lo : Nat} {e : TypeId} {s : Nat} {v : Value} {l : List (List Value)} (h : OwnR w lo e s v l) : ∃ A c, v = .slice A l.length c ∧ l.length ≤ c ∧ c ≤ maxLen ∧ (l ≠ [] → ∃ a, A = some a) ∧
    ∀ a, A = some a → lo ≤ a.block ∧ a.block < w.heap.size ∧ a.off = 0 ∧ a.spot = none ∧ rowFit w a.block = some (c * s) ∧ ∀ j r, l[j]? = some r → ∀ i u, r[i]? = some u → w.cell? (a.add (j * s + i)) = some u := by
  obtain ⟨h, hr⟩ := h
  rcases h.2 with ⟨rfl, h0⟩ | ⟨g, cap, cur, rfl, hg, hh, hn, hcm, hs, htk⟩
  · have hl : l = [] := List.eq_nil_of_length_eq_zero (by simpa using h0)
    subst hl
    exact ⟨none, 0, rfl, by simp, by unfold maxLen; omega, fun h => absurd rfl h, fun a ha => by cases ha⟩
  · refine ⟨some ⟨g, 0, none⟩, cap, rfl, hn, hcm, fun _ => ⟨_, rfl⟩, fun a ha => ?_⟩
    obtain rfl := Option.some.inj ha
    refine ⟨hg, (Array.getElem?_eq_some_iff.1 hh).1, rfl, rfl, by rw [rowFit_of hh, hs], fun j r hj i u hi => ?_⟩
    have hrl := hr r (List.mem_of_getElem? hj)
    have his : i < s := by rw [← hrl]; exact (List.getElem?_eq_some_iff.1 hi).1
    have hjl : j < l.length := (List.getElem?_eq_some_iff.1 hj).1
    have hjs : j * s + i < l.length * s := Nat.lt_of_lt_of_le (show j * s + i < (j + 1) * s by rw [Nat.succ_mul]; omega) (Nat.mul_le_mul_right s hjl)
    rw [Addr.add_lit, cell_of_rowOf, rowOf_of hh, Nat.zero_add]
    have h1 : (cur.toList.take (l.length * s))[j * s + i]? = some u := by rw [htk, flat_get hr j i r hj his, hi]
    rw [List.getElem?_take_of_lt hjs] at h1
    simpa using h1

/-- the last row off -/
theorem OwnR.pop {w : World} {lo : Nat} {e : TypeId} {s c : Nat} {A : Option Addr} {l : List (List Value)} {r : List Value} (h : OwnR w lo e s (.slice A (l.length + 1) c) (l ++ [r])) : OwnR w lo e s (.slice A l.length c) l := by
  obtain ⟨h, hr⟩ := h
  have hrl : ∀ x ∈ l, x.length = s := fun x hx => hr x (by simp [hx])
  refine ⟨⟨flat_length hrl, ?_⟩, hrl⟩
  rcases h.2 with ⟨_, h0⟩ | ⟨g, cap, cur, hv, hg, hh, hn, hcm, hs, htk⟩
  · simp at h0
  · simp only [Value.slice.injEq] at hv
    obtain ⟨rfl, _, rfl⟩ := hv
    refine .inr ⟨g, c, cur, rfl, hg, hh, by simp at hn; omega, hcm, hs, ?_⟩
    have e1 : cur.toList.take (l.length * s) = ((l ++ [r]).flatten).take (l.length * s) := by
      rw [← htk, List.take_take]
      congr 1
      simp only [List.length_append, List.length_singleton, Nat.succ_mul]; omega
    rw [e1, List.flatten_append, List.take_append_of_le_length (by rw [flat_length hrl]; exact Nat.le_refl _), List.take_of_length_le (by rw [flat_length hrl]; exact Nat.le_refl _)]

/-- cs laid over a row from o on -/
def patch (row : Array Value) (o : Nat) (cs : Array Value) : Array Value := (row.toList.take o ++ cs.toList ++ row.toList.drop (o + cs.size)).toArray
theorem patch_size (row : Array Value) (o : Nat) (cs : Array Value) (h : o + cs.size ≤ row.size) : (patch row o cs).size = row.size := by
  simp only [patch, List.size_toArray, List.length_append, List.length_take, List.length_drop, Array.length_toList]; omega
theorem patch_get (row : Array Value) (o : Nat) (cs : Array Value) (h : o + cs.size ≤ row.size) (i : Nat) : (patch row o cs)[i]? = if o ≤ i ∧ i < o + cs.size then cs[i - o]? else row[i]? := by
  simp only [patch, List.getElem?_toArray]
  by_cases h1 : i < o
  · rw [List.append_assoc, List.getElem?_append_left (by simp; omega), List.getElem?_take_of_lt h1, if_neg (by omega)]; simp
  · rw [List.append_assoc, List.getElem?_append_right (by simp; omega), List.length_take, show min o row.toList.length = o by simp; omega]
    by_cases h2 : i < o + cs.size
    · rw [List.getElem?_append_left (by simp; omega), if_pos (by omega)]; simp
    · rw [List.getElem?_append_right (by simp; omega), if_neg (by omega), List.getElem?_drop, Array.length_toList, show o + cs.size + (i - o - cs.size) = i by omega]; simp
theorem run_stArr_at {P : Program} (t n : Nat) (hS : ∀ w, (sizeOf t).run P w = .ok n w) (w : World) (b o N : Nat) (cs : Array Value) (h : rowFit w b = some N) (hc : cs.size = n) (ho : o + n ≤ N) (h1 : okCells cs = true) :
    (stArr t (.pointer (some ⟨b, o, none⟩)) (.agg cs)).run P w = .ok () (w.setRow b (patch (rowOf w b) o cs)) := by
  obtain ⟨e, hb, hn⟩ := rowFit_some h
  have hs := run_storeCells_at P b o e cs.toList 0 (rowOf w b) w hb (by simp [hn, hc]; omega) (fun v hv => by
    rw [okCells, Array.all_eq_true] at h1
    obtain ⟨i, hi, rfl⟩ := Array.mem_iff_getElem.1 (Array.mem_toList_iff.1 hv)
    exact h1 i hi)
  simp only [Nat.add_zero, Array.toArray_toList, Array.length_toList] at hs
  simp [stArr, Instr.storeAt, Instr.sureAddr, storeVar, hS, hc, Value.cells, hs]
  simp [patch, hc]

/-- one row turned -/
theorem OwnR.set {w : World} {lo g c : Nat} {e : TypeId} {s n : Nat} {l : List (List Value)} (h : OwnR w lo e s (.slice (some ⟨g, 0, none⟩) n c) l) (j : Nat) (cs : Array Value) (hj : j < l.length) (hc : cs.size = s) :
    OwnR (w.setRow g (patch (rowOf w g) (j * s) cs)) lo e s (.slice (some ⟨g, 0, none⟩) n c) (l.set j cs.toList) := by
  obtain ⟨h, hr⟩ := h
  have hr' : ∀ r ∈ l.set j cs.toList, r.length = s := fun r hr1 => by
    rcases List.mem_or_eq_of_mem_set hr1 with h1 | h1
    · exact hr r h1
    · rw [h1, Array.length_toList, hc]
  refine ⟨⟨by rw [flat_length hr'], ?_⟩, hr'⟩
  rcases h.2 with ⟨hv, _⟩ | ⟨g', cap, cur, hv, hg, hh, hn, hcm, hs, htk⟩
  · cases hv
  · cases hv
    have hjs : j * s + s ≤ l.length * s := by
      have := Nat.mul_le_mul_right s hj
      rw [Nat.succ_mul] at this; omega
    have hls : l.length * s ≤ c * s := Nat.mul_le_mul_right s hn
    have hro : rowOf w g = cur := rowOf_of hh
    refine .inr ⟨g, c, patch cur (j * s) cs, by simp, hg, ?_, by simpa using hn, hcm, by rw [patch_size _ _ _ (by omega), hs], ?_⟩
    · rw [hro]; exact setRow_heap w g cur _ e _ hh
    · apply List.ext_getElem?
      intro i
      by_cases hi : i < l.length * s
      · have hs0 : 0 < s := by rcases Nat.eq_zero_or_pos s with h0 | h0; (subst h0; simp at hi); exact h0
        have hd : i = i / s * s + i % s := by rw [Nat.mul_comm]; exact (Nat.div_add_mod i s).symm
        have hm : i % s < s := Nat.mod_lt _ hs0
        have hq : i / s < l.length := Nat.div_lt_of_lt_mul (by rw [Nat.mul_comm]; exact hi)
        rw [List.length_set, List.getElem?_take_of_lt hi]
        have h0 : (patch cur (j * s) cs)[i]? = if j * s ≤ i ∧ i < j * s + cs.size then cs[i - j * s]? else cur[i]? := patch_get cur (j * s) cs (by omega) i
        rw [Array.getElem?_toList, h0]
        by_cases he : i / s = j
        · subst he
          rw [if_pos (by omega)]
          have := flat_get hr' (i / s) (i % s) cs.toList (by simp [hq]) hm
          rw [← hd] at this
          rw [this, show i - i / s * s = i % s by omega, Array.getElem?_toList]
        · have hne : ¬ (j * s ≤ i ∧ i < j * s + cs.size) := by
            rintro ⟨a1, a2⟩
            rw [hc] at a2
            exact he (Nat.div_eq_of_lt_le (by omega) (by rw [Nat.succ_mul]; omega))
          rw [if_neg hne]
          have hx : (l.set j cs.toList)[i / s]? = some (l[i / s]'hq) := by rw [List.getElem?_set_ne (by omega), List.getElem?_eq_getElem hq]
          have e1 := flat_get hr' (i / s) (i % s) _ hx hm
          have e2 := flat_get hr (i / s) (i % s) _ (List.getElem?_eq_getElem hq) hm
          rw [← hd] at e1 e2
          rw [e1, ← e2, ← htk, List.getElem?_take_of_lt hi, Array.getElem?_toList]
      · rw [List.getElem?_eq_none (by simp only [List.length_take, List.length_set]; omega), List.getElem?_eq_none (by rw [flat_length hr', List.length_set]; omega)]

theorem foldl_set : ∀ (l : List Value) (i : Nat) (acc : Array Value), i + l.length ≤ acc.size →
    (l.zipIdx i).foldl (fun cs x => cs.setIfInBounds x.snd x.fst) acc = (acc.toList.take i ++ l ++ acc.toList.drop (i + l.length)).toArray
  | [], i, acc, h => by simp
  | v :: l, i, acc, h => by
    rw [List.zipIdx_cons, List.foldl_cons, foldl_set l (i + 1) _ (by simp at h ⊢; omega)]
    congr 1
    simp only [List.length_cons] at h ⊢
    have hi : i < (acc.toList.set i v).length := by simp; omega
    rw [Array.toList_setIfInBounds, List.drop_set_of_lt (by omega), List.take_succ_eq_append_getElem hi, List.getElem_set_self, List.take_set_of_le (Nat.le_refl _), show i + 1 + l.length = i + (l.length + 1) by omega]
    simp
/-- a literal's cells, laid one by one -/
@[go_sem] theorem foldl_row (acc cs : Array Value) (n : Nat) (hn : cs.size = n) (h : acc.size = n) :
    Array.foldl (fun cs x => cs.setIfInBounds x.snd x.fst) acc cs.zipIdx 0 n = cs := by
  subst hn
  have e : cs.zipIdx.size = cs.size := by simp
  rw [← e, ← Array.foldl_toList, Array.toList_zipIdx, foldl_set _ _ _ (by simp [h])]
  simp only [List.take_zero, List.nil_append, Nat.zero_add, Array.length_toList]
  rw [List.drop_of_length_le (by simp [h]), List.append_nil]
/-- two results: an array (or a struct) and a value -/
theorem results_cell_tmp {P : Program} {fn : Func} {q r t : Nat} (h : fn.results = #[.cell q t, .tmp r]) (tmps : Array Value) (w : World) (g : Nat) (cs : Array Value) (y : Value) (n : Nat) (hA : ∀ w, (isAgg t).run P w = .ok true w) (hS : ∀ w, (sizeOf t).run P w = .ok n w)
    (hp : tmps.getD q undef = .pointer (some ⟨g, 0, none⟩)) (hy : tmps.getD r undef = y) (hc : rowOf w g = cs) (hn : cs.size = n) : (results fn tmps).run P w = .ok (.tuple #[.agg cs, y]) w := by
  have hl := run_ldArr (P := P) t n hA hS w g (by rw [hc, hn])
  rw [hc] at hl
  have hl' : (loadVar t ⟨g, 0, none⟩).run P w = .ok (.agg cs) w := by
    simpa [ldArr, Instr.loadAt, Instr.sureAddr] using hl
  have hp' : tmps[q]?.getD undef = .pointer (some ⟨g, 0, none⟩) := by simpa using hp
  have hy' : tmps[r]?.getD undef = y := by simpa using hy
  simp [results, h, hp', hy', asAddr, hl']
/-- at the append of one row, in a drawn region -/
theorem step_append_row {P : Program} {w : World} {ops : Array Oper} {o : Oper} {a : Act} {K : Act → World → Prop} {Q : Exit → Act → World → Prop} {E : Prop} {t e : TypeId} {sz bytes : Nat} (hE : RowElem P t e sz bytes) (hgd : o.guard = none) (s x : Operand)
    (ho : o.op = .call { callee := .builtin .append, args := #[s, x], argTypes := #[t, t] }) (lo : Nat) (v : Value) (l : List (List Value)) (hs : a.eval s = v) (hown : OwnR w lo e sz v l)
    (g0 c : Nat) (r : List Value) (hx : a.eval x = .slice (some ⟨g0, 0, none⟩) 1 c) (hl : r.length = sz) (hnews : rowOf w g0 = r.toArray) (h1 : okCells r.toArray = true)
    (h63 : l.length + 1 ≤ maxLen) (hbytes : (l.length + 1) * bytes ≤ 140737488355328) (hbase : lo ≤ w.heap.size) (H : Nat) (hH : w.heap.size = H)
    (h : ∀ g cap w', OwnR w' lo e sz (.slice (some ⟨g, 0, none⟩) (l.length + 1) cap) (l ++ [r]) → Only (fun b => v.ownBlock = some b) w w' → (v.ownBlock = some g ∨ g = H) → g < w'.heap.size → K (a.put o.dst (.slice (some ⟨g, 0, none⟩) (l.length + 1) cap)) w') :
    if Region.wanted o (yielded ops a.tmps) = true then Oper.wp P o a w K Q else E := by
  obtain ⟨i, z, hi, hz, hsz, hb, hzc⟩ := hE.hi
  have hrr : ∀ q ∈ l ++ [r], q.length = sz := fun q hq => by
    rcases List.mem_append.1 hq with h | h
    · exact hown.2 q h
    · rw [List.mem_singleton.1 h, hl]
  refine step_append_lies w hgd s x t ho lo e i z sz bytes hE.ht hi hz hsz hb hzc hE.hs v l.length l.flatten hs hown.1 ⟨g0, 0, none⟩ 1 c r hx (by rw [hl, Nat.one_mul]) (fun j u hu => ?_) (fun u hu => ?_) (by omega) h63 hbytes hbase H hH (fun g cap w' ho' hg' h3 h4 => h g cap w' ⟨?_, hrr⟩ (Only.of_grown hg' |>.weaken fun x _ hx => hx) h3 h4)
  · rw [Addr.add_lit, cell_of_rowOf, Nat.zero_add, hnews]; simpa using hu
  · rw [okCells, Array.all_eq_true] at h1
    obtain ⟨i, hi, rfl⟩ := List.mem_iff_getElem.1 hu
    have := h1 i (by simpa using hi)
    simpa using this
  · rw [List.length_append, List.length_singleton, List.flatten_append, List.flatten_cons, List.flatten_nil, List.append_nil]; exact ho'

/-- at the append of one row, in a plain region -/
theorem wpList_append_row {P : Program} {w : World} {ops : Array Oper} {rest : List Oper} {o : Oper} {a : Act} {Q : Exit → Act → World → Prop} {t e : TypeId} {sz bytes : Nat} (hE : RowElem P t e sz bytes) (hgd : o.guard = none) (s x : Operand)
    (ho : o.op = .call { callee := .builtin .append, args := #[s, x], argTypes := #[t, t] }) (lo : Nat) (v : Value) (l : List (List Value)) (hs : a.eval s = v) (hown : OwnR w lo e sz v l)
    (g0 c : Nat) (r : List Value) (hx : a.eval x = .slice (some ⟨g0, 0, none⟩) 1 c) (hl : r.length = sz) (hnews : rowOf w g0 = r.toArray) (h1 : okCells r.toArray = true)
    (h63 : l.length + 1 ≤ maxLen) (hbytes : (l.length + 1) * bytes ≤ 140737488355328) (hbase : lo ≤ w.heap.size) (H : Nat) (hH : w.heap.size = H)
    (h : ∀ g cap w', OwnR w' lo e sz (.slice (some ⟨g, 0, none⟩) (l.length + 1) cap) (l ++ [r]) → Only (fun b => v.ownBlock = some b) w w' → (v.ownBlock = some g ∨ g = H) → g < w'.heap.size → wpList P ops Q rest (a.put o.dst (.slice (some ⟨g, 0, none⟩) (l.length + 1) cap)) w') : wpList P ops Q (o :: rest) a w := by
  obtain ⟨i, z, hi, hz, hsz, hb, hzc⟩ := hE.hi
  have hrr : ∀ q ∈ l ++ [r], q.length = sz := fun q hq => by
    rcases List.mem_append.1 hq with h | h
    · exact hown.2 q h
    · rw [List.mem_singleton.1 h, hl]
  obtain ⟨g, cap, w', hrun, h2, h3, h4, h5⟩ := run_append_lies (P := P) w t o.type lo e i z sz bytes hE.ht hi hz hsz hb hzc hE.hs v l.length l.flatten hown.1 ⟨g0, 0, none⟩ 1 c r (by rw [hl, Nat.one_mul]) (fun j u hu => by
    rw [Addr.add_lit, cell_of_rowOf, Nat.zero_add, hnews]; simpa using hu) (fun u hu => by
    rw [okCells, Array.all_eq_true] at h1
    obtain ⟨i, hi, rfl⟩ := List.mem_iff_getElem.1 hu
    have := h1 i (by simpa using hi)
    simpa using this) (by omega) h63 hbytes hbase H hH
  refine Lib.wpList_append_run w hgd s x t t ho _ _ hs hx _ w' hrun (h g cap w' ⟨?_, hrr⟩ (Only.of_grown h3 |>.weaken fun x _ hx => hx) h4 h5)
  rw [List.length_append, List.length_singleton, List.flatten_append, List.flatten_cons, List.flatten_nil, List.append_nil]; exact h2
end Go.Proofs.YtfjigoimjaemmaaDoor
