/- the filter: own rows of bytes; the reference's bytes of a log. -/
import Derived.Test.YtfjigoimjaemmaaDoorBlm7W
import Derived.Test.YtfjigoimjaemmaaDoorBytesW
import Derived.Test.YtfjigoimjaemmaaDoorFrom2W
namespace Go.Proofs.YtfjigoimjaemmaaDoor
open Go.RowKit
set_option linter.unusedSimpArgs false
set_option linter.unusedVariables false
set_option maxRecDepth 100000
attribute [local irreducible] sumF KLaid
attribute [local go_sem ↓] Go.wp_at_zero Go.wp_at_succ

theorem rowsElem : RowElem Tryd.prog 65 29 1 24 := .mk' (z := .slice none 0 0) Tryd.underlying65 (by kernel_rfl) rfl (by omega)
instance : Inhabited BV := ⟨⟨none, 0, 0, zf⟩⟩
/-- the cells of rows of bytes -/
def bvs (Ys : List BV) : List (List Value) := Ys.map fun b => [b.val]
theorem bvs_length (Ys : List BV) : (bvs Ys).length = Ys.length := by simp [bvs]
theorem bvs_append (Xs Ys : List BV) : bvs Xs ++ bvs Ys = bvs (Xs ++ Ys) := by simp [bvs]
theorem bvs_lens (Ys : List BV) : ∀ r ∈ bvs Ys, r.length = 1 := by
  intro r hr
  simp only [bvs, List.mem_map] at hr
  obtain ⟨b, _, rfl⟩ := hr
  rfl
theorem bvs_one (Ys : List BV) : ∀ u ∈ (bvs Ys).flatten, u.oneCell' = true := by
  intro u hu
  simp only [bvs, List.mem_flatten, List.mem_map] at hu
  obtain ⟨r, ⟨b, _, rfl⟩, hu⟩ := hu
  rw [List.mem_singleton.1 hu]; rfl
/-- what a row of bytes says -/
def BV.dat (b : BV) : Nat × (Nat → Int) := (b.n, b.x)
/-- own rows of bytes, each row of them own -/
structure RowsB (w : World) (lo : Nat) (v : Value) (Ys : List BV) : Prop where
  own : OwnR w lo 29 1 v (bvs Ys)
  ok : ∀ b ∈ Ys, b.Ok w
  apart : ∀ b ∈ Ys, ∀ a, b.A = some a → lo ≤ a.block ∧ a.block < w.heap.size ∧ v.ownBlock ≠ some a.block
  caps : ∀ b ∈ Ys, b.n ≤ b.c
theorem RowsB.below {w w' : World} {lo : Nat} {v : Value} {Ys : List BV} (h : RowsB w lo v Ys) (hb : Below w.heap.size w w') : RowsB w' lo v Ys :=
  ⟨h.own.below hb, fun b hm => (h.ok b hm).below (Nat.le_refl _) hb, fun b hm a ha => ⟨(h.apart b hm a ha).1, Nat.lt_of_lt_of_le (h.apart b hm a ha).2.1 hb.size, (h.apart b hm a ha).2.2⟩, h.caps⟩
theorem BV.Ok.only {T : Nat → Prop} {w w' : World} {b : BV} (h : b.Ok w) (ho : Only T w w') (hn : ∀ a, b.A = some a → ¬ T a.block) : b.Ok w' := ⟨h.ints.only ho hn, h.len, h.bytes⟩
theorem RowsB.cat {w w' : World} {lo lo2 : Nat} {v v' v2 : Value} {Ys Zs : List BV} (h : RowsB w lo v Ys) (h2 : RowsB w lo2 v2 Zs) (hlo : lo ≤ lo2) (hv : ∀ x, v.ownBlock = some x → x < lo2)
    (hown : OwnR w' lo 29 1 v' (bvs Ys ++ bvs Zs)) (ha : Appended w w' v v') : RowsB w' lo v' (Ys ++ Zs) := by
  have hap : ∀ b ∈ Ys ++ Zs, ∀ a, b.A = some a → lo ≤ a.block ∧ a.block < w.heap.size ∧ v.ownBlock ≠ some a.block := fun b hm a hA => by
    rcases List.mem_append.1 hm with h1 | h1
    · exact h.apart b h1 a hA
    · have := h2.apart b h1 a hA
      exact ⟨by omega, this.2.1, fun e => by have := hv _ e; omega⟩
  refine ⟨by rw [← bvs_append]; exact hown, fun b hm => ?_, fun b hm a hA => ⟨(hap b hm a hA).1, Nat.lt_of_lt_of_le (hap b hm a hA).2.1 ha.1.size, fun e => ?_⟩, fun b hm => (List.mem_append.1 hm).elim (h.caps b) (h2.caps b)⟩
  · have hok : b.Ok w := by
      rcases List.mem_append.1 hm with h1 | h1
      · exact h.ok b h1
      · exact h2.ok b h1
    exact hok.only ha.1 fun a hA => (hap b hm a hA).2.2
  · rcases ha.2 with h1 | h1
    · exact (hap b hm a hA).2.2 (h1 ▸ e)
    · rw [h1] at e
      have := (hap b hm a hA).2.1
      simp at e
      omega
theorem RowsB.one {w : World} {lo : Nat} (b : BV) (hcap : b.n ≤ b.c) (hok : b.Ok w) (hlo : lo ≤ w.heap.size) (hA : ∀ a, b.A = some a → lo ≤ a.block ∧ a.block < w.heap.size) :
    RowsB (w.alloc (.cells #[b.val] 29)) lo (.slice (some ⟨w.heap.size, 0, none⟩) 1 1) [b] :=
  ⟨⟨⟨by simp [bvs], .inr ⟨w.heap.size, 1, #[b.val], rfl, hlo, heap_alloc_last w _, Nat.le_refl _, by unfold maxLen; omega, by simp, by simp [bvs]⟩⟩, bvs_lens _⟩,
    fun c hc => by rw [List.mem_singleton.1 hc]; exact hok.below (Nat.le_refl _) ((Below.refl _ _).alloc (Nat.le_refl _) _),
    fun c hc a ha => by rw [List.mem_singleton.1 hc] at ha; have := hA a ha; exact ⟨this.1, by simp; omega, fun e => by simp [Value.ownBlock] at e; omega⟩, fun c hc => by rw [List.mem_singleton.1 hc]; exact hcap⟩
theorem RowsB.bss {w : World} {lo : Nat} {A : Option Addr} {n c : Nat} {Ys : List BV} (h : RowsB w lo (.slice A n c) Ys) : n = Ys.length ∧ Bss w A n (fun j => Ys.getD j default) := by
  obtain ⟨A', c', hv, _, _, h3, h4⟩ := h.own.form
  rw [bvs_length] at hv
  simp only [Value.slice.injEq] at hv
  obtain ⟨rfl, rfl, rfl⟩ := hv
  refine ⟨rfl, fun j hj => ?_⟩
  obtain ⟨a, rfl⟩ := h3 (by intro e; rw [bvs, List.map_eq_nil_iff] at e; rw [e] at hj; simp at hj)
  have hg : Ys.getD j default = Ys[j] := by simp [List.getD, hj]
  have h5 := (h4 a rfl).2.2.2.2.2 j [(Ys[j]).val] (by simp [bvs, hj]) 0 (Ys[j]).val rfl
  simp only [hg]
  exact ⟨⟨a, rfl, (h4 a rfl).2.1, by rw [Nat.mul_one, Nat.add_zero] at h5; exact h5⟩, h.ok _ (List.getElem_mem hj)⟩
/-- what a log's bytes are: its address, its first k topics -/
def logD (o : LogV) (k : Nat) : List (Nat × (Nat → Int)) := (20, o.addr) :: (List.range k).map fun j => (32, bytF (o.tx j))
theorem logD_succ (o : LogV) (k : Nat) : logD o (k + 1) = logD o k ++ [(32, bytF (o.tx k))] := by simp [logD, List.range_succ]
/-- what Bytes answers -/
def BytesOut (o : LogV) (w w' : World) (e : Ending) : Prop := ∃ A c Ys, e = .returned (.slice A (o.tn + 1) c) ∧ RowsB w' w.heap.size (.slice A (o.tn + 1) c) Ys ∧ Ys.map BV.dat = logD o o.tn
/-- own bytes as a row of them -/
theorem OwnI.bv {w : World} {lo : Nat} {e : TypeId} {v : Value} {m : Nat} {x : Nat → Int} (h : OwnI w lo e .u8 v (tl m x)) (hm : m ≤ 1000000000) (h0 : 0 < m) (hx : ∀ j, j < m → 0 ≤ x j ∧ x j < 256) :
    ∃ A c, v = (⟨A, m, c, x⟩ : BV).val ∧ (⟨A, m, c, x⟩ : BV).Ok w ∧ (∀ a, A = some a → lo ≤ a.block ∧ a.block < w.heap.size) ∧ m ≤ c := by
  obtain ⟨A, c, e1, hc, hi, hf⟩ := h.ints
  rw [tl_length] at e1 hc hi
  have hi2 : Ints w .u8 A m x := fun j hj => by
    obtain ⟨a, h1, h2, h3⟩ := hi j hj
    exact ⟨a, h1, h2, by rw [h3]; simp [tl, hj]⟩
  exact ⟨A, c, e1, ⟨hi2, hm, hx⟩, fun a ha => ⟨(hf a ha).1, by obtain ⟨a', h1, h2, _⟩ := hi2 0 h0; rw [ha] at h1; cases h1; exact h2⟩, hc⟩
theorem RowsB.lower {w : World} {lo lo' : Nat} {v : Value} {Ys : List BV} (h : RowsB w lo v Ys) (hl : lo' ≤ lo) : RowsB w lo' v Ys :=
  ⟨h.own.lower hl, h.ok, fun b hm a ha => ⟨Nat.le_trans hl (h.apart b hm a ha).1, (h.apart b hm a ha).2⟩, h.caps⟩
theorem RowsB.push {w w5 : World} {lo x0 n c : Nat} {A : Option Addr} {v5 : Value} {Ys : List BV} {b : BV} (h : RowsB w lo (.slice A n c) Ys) (hcap : b.n ≤ b.c) (hb : b.Ok w) (hA : ∀ a, b.A = some a → x0 ≤ a.block ∧ a.block < w.heap.size) (hx0 : x0 ≤ w.heap.size) (hlo : lo ≤ x0)
    (hx : ∀ x, (Value.slice A n c).ownBlock = some x → x < x0) (ho : OwnR w5 lo 29 1 v5 (bvs Ys ++ bvs [b])) (ha : Appended (w.alloc (.cells #[b.val] 29)) w5 (.slice A n c) v5) :
    ∃ A' c', v5 = .slice A' (n + 1) c' ∧ RowsB w5 lo v5 (Ys ++ [b]) := by
  have h1 := (h.below ((Below.refl _ _).alloc (Nat.le_refl _) (.cells #[b.val] 29))).cat (RowsB.one (lo := x0) b hcap hb hx0 hA) hlo hx ho ha
  obtain ⟨A', c', hv, _⟩ := h1.own.form
  rw [bvs_length, List.length_append, List.length_singleton, ← h.bss.1] at hv
  exact ⟨A', c', hv, h1⟩
theorem refBytes_bytF (a : Nat → Int) (ha : W64 a) (w : World) :
    Calls Tryd.prog 70 #[.agg (tab 32 .i64 (digF a))] w fun e w' => e = .returned (.agg (tab 32 .u8 (bytF a))) ∧ Below w.heap.size w w' := refBytes_any (digF a) (fun i _ => by unfold digF; omega) w
theorem lit0 (w : World) (o : Obj) : OwnI ((w.alloc o).alloc (.cells #[] 5)) (w.heap.size + 1) 5 .u8 (.slice (some ⟨w.heap.size + 1, 0, none⟩) 0 0) [] := by
  simpa using OwnI.lit (w.alloc o) (w.heap.size + 1) 5 .u8 #[] [] rfl (by simp) (by simp [maxLen])
theorem row_ints2 (w : World) (k : IntKind) (n : Nat) (f : Nat → Int) (e : TypeId) (o : Obj) : Ints ((w.alloc (.cells (tab n k f) e)).alloc o) k (some ⟨w.heap.size, 0, none⟩) n f := fun j hj =>
  ⟨_, rfl, (by simp; omega), by rw [Addr.add_lit, cell_of_rowOf, rowOf_alloc_past _ _ _ (by simp), rowOf_alloc_at _ _ _ _ rfl, Nat.zero_add, tab_get, if_pos hj]⟩

set_option maxHeartbeats 4000000 in
theorem bytes29_any (o : LogV) (w : World) (ho : o.Ok w) (htn : o.tn ≤ 1000000) :
    Calls Tryd.prog 34 #[.agg o.row] w fun e w' => BytesOut o w w' e ∧ Below w.heap.size w w' := by
  have hb0 : Below w.heap.size w (w.alloc (.cells o.row 64)) := (Below.refl _ _).alloc (Nat.le_refl _) _
  have r0 : rowOf (w.alloc (.cells o.row 64)) w.heap.size = o.row := rowOf_alloc_at _ _ _ _ rfl
  have ho' := Lib.hid ho
  have hAd := Lib.hid (show Ints ((w.alloc (.cells o.row 64)).alloc (.cells #[] 5)) .u8 (some ⟨w.heap.size, 0, none⟩) 20 o.addr from fun j hj => ⟨_, rfl, (by simp; omega), by rw [Addr.add_lit, cell_of_rowOf, rowOf_alloc_past _ _ _ (by simp), r0, Nat.zero_add, LogV.row_addr _ _ hj]⟩)
  have hlit := Lib.hid (show OwnI ((w.alloc (.cells o.row 64)).alloc (.cells #[] 5)) (w.heap.size + 1) 5 .u8 (.slice (some ⟨w.heap.size + 1, 0, none⟩) 0 0) [] by simpa using OwnI.lit (w.alloc (.cells o.row 64)) (w.heap.size + 1) 5 .u8 #[] [] rfl (by simp) (by simp [maxLen]))
  have hb0' := Lib.hid (hb0.alloc (by simp) (.cells #[] 5))
  have hr0 := Lib.hid r0
  clear ho hb0 r0
  obtain ⟨tA, htA⟩ : ∃ tA, o.tA = tA := ⟨_, rfl⟩
  go_enter Tryd.func34, Tryd.ntmps34
  go_wp2_with (at_builtin; refine wpList_app bytesElem2 rfl (.tmp 9) (.tmp 11) rfl (.slice (some ⟨w.heap.size + 1, 0, none⟩) 0 0) [] rfl hlit.out (some ⟨w.heap.size, 0, none⟩) 20 20 o.addr rfl hAd.out (by simp [maxLen]) (by simp) (by simp) ?_; rw [List.nil_append]; intro v1 w1 ho1 ha1; have hs1 := ha1.1.size; simp only [World.size_alloc] at hs1; have hz1 : w.heap.size < w1.heap.size := (by omega); obtain ⟨A1, c1, e1, hok1, hap1, hcp1⟩ := ho1.bv (by omega) (by omega) ho'.out.addr; have e1' : v1 = .slice A1 20 c1 := e1; subst e1'; have hB1 := Lib.hid (hb0'.out.trans (ha1.1.below (by simp; omega) (fun x hx => by simp only [Value.ownBlock, Option.some.injEq] at hx; omega))); have r1 := (ha1.1.rowOf (show w.heap.size < _ by simp; omega) (fun hx => by simp only [Value.ownBlock, Option.some.injEq] at hx; omega)).trans ((rowOf_alloc_past _ _ _ (by simp)).trans hr0.out); have hOne := Lib.hid (RowsB.one (lo := w.heap.size + 1) (⟨A1, 20, c1, o.addr⟩ : BV) hcp1 hok1 (by omega) hap1); clear ho1 ha1 e1 hok1 hap1 hcp1)
  have hB2 := Lib.hid (hB1.out.alloc (by omega) (.cells #[.slice A1 20 c1] 29))
  have r2 := (rowOf_alloc_past w1 (.cells #[.slice A1 20 c1] 29) w.heap.size (by omega)).trans r1
  clear r1
  go_loopw [4, 18] (fun d i wr => ∃ (k : Nat) (A : Option Addr) (c : Nat) (Ys : List BV), k ≤ o.tn ∧ i = .int .i64 k ∧ d = .slice A (k + 1) c ∧ RowsB wr (w.heap.size + 1) (.slice A (k + 1) c) Ys ∧ Ys.map BV.dat = logD o k ∧ rowOf wr w.heap.size = o.row ∧ w.heap.size + 1 < wr.heap.size ∧ Below w.heap.size w wr) (fun _ i _ => o.tn - (intOf i).toNat)
  case atStart => exact ⟨0, _, _, _, by omega, rfl, rfl, hOne.out, rfl, r2, by simp; omega, hB2.out⟩
  case round =>
    obtain ⟨k, A, c, Ys, hk, rfl, rfl, hY, hdat, r3, sz, hb⟩ := hrel
    have hY' := Lib.hid hY
    have hdat' := Lib.hid hdat
    have hb' := Lib.hid hb
    clear hY hdat hb r2
    by_cases hlt : k < o.tn
    · obtain ⟨a3, e3, _, hld3⟩ := ((ho'.out.topics).below (Nat.le_refl _) hb'.out).load hlt
      rw [htA] at e3
      subst e3
      have hki : (k : Int) < (o.tn : Int) := by omega
      have hOf := Lib.hid fun (w1 : World) => refOf_any (o.tx k) (ho'.out.words k hlt) w1
      have hBy := Lib.hid fun (w1 : World) => refBytes_bytF (o.tx k) (ho'.out.words k hlt) w1
      have hbd := Lib.hid fun j (_ : j < 32) => bytF_bd (ho'.out.words k hlt) j
      have hsucc := Lib.hid (logD_succ o k)
      have hlen := hY'.out.bss.1
      have hl1 := Lib.hid (show ∀ b, (bvs Ys).length + (bvs [b]).length ≤ maxLen from fun b => by rw [bvs_length, bvs_length, ← hlen, List.length_singleton]; unfold maxLen; omega)
      have hl2 := Lib.hid (show ∀ b, ((bvs Ys).length + (bvs [b]).length) * 24 ≤ 140737488355328 from fun b => by rw [bvs_length, bvs_length, ← hlen, List.length_singleton]; omega)
      clear hlen
      obtain ⟨f, hf⟩ : ∃ f, bytF (o.tx k) = f := ⟨_, rfl⟩
      rw [hf] at hBy hbd hsucc
      clear hf
      go_wp2_with (first
        | (go_at_call 69; refine (hOf.out _).mono ?_; rintro e w3 ⟨rfl, hb3⟩; have hs3 := hb3.size)
        | (go_at_call 70; refine (hBy.out _).mono ?_; rintro e w4 ⟨rfl, hb4⟩; have hs4 := hb4.size; have hB4 := Lib.hid (hb3.trans (hb4.mono hs3)))
        | (at_builtin; refine wpList_app_rows rowsElem rfl (.tmp 32) (.tmp 34) rfl (w.heap.size + 1) (.slice A (k + 1) c) (bvs Ys) rfl (hY6.out.below (Below.alloc (Below.refl _ _) (Nat.le_refl _) (.cells #[.slice A6 32 c6] 29))).own (some ⟨w6.heap.size, 0, none⟩) 1 1 (bvs [⟨A6, 32, c6, f⟩]) rfl rfl hOne6.out.own.rowsAt (bvs_lens _) (bvs_one _) (hl1.out _) (hl2.out _) hz6.out ?_; intro v7 w7 ho7 ha7; have hs7 := ha7.1.size; simp only [World.size_alloc] at hs7; obtain ⟨A7, c7, e7, hY8'⟩ := RowsB.push (x0 := w4.heap.size + 1) hY6.out hcp6.out hok6.out hap6.out (by omega) (by omega) (fun x hx => by have := (hY'.out.own.lt hx).2; omega) ho7 ha7; subst e7; have hY8 := Lib.hid hY8'; have r7 := (ha7.1.rowOf (show w.heap.size < _ by simp; omega) (fun hx => by have := (hY'.out.own.lt hx).1; omega)).trans ((rowOf_alloc_past _ _ _ (by omega)).trans r6); have hB7 := Lib.hid (((hb'.out.trans (hB6.out.mono (by omega))).alloc (by omega) (.cells #[.slice A6 32 c6] 29)).trans (ha7.1.below (by simp; omega) (fun x hx => by have := (hY'.out.own.lt hx).1; omega))); clear ho7 ha7)
        | (at_builtin; refine wpList_app bytesElem2 rfl (.tmp 29) (.tmp 30) rfl (.slice (some ⟨w4.heap.size + 1, 0, none⟩) 0 0) [] rfl (lit0 w4 _) (some ⟨w4.heap.size, 0, none⟩) 32 32 f rfl (row_ints2 w4 _ _ _ _ _) (by simp [maxLen]) (by simp) (by simp) ?_; rw [List.nil_append]; intro v6 w6 ho6 ha6; have hs6 := ha6.1.size; simp only [World.size_alloc] at hs6; obtain ⟨A6, c6, e6, hok6', hap6', hcp6'⟩ := ho6.bv (by omega) (by omega) hbd.out; have e6' : v6 = .slice A6 32 c6 := e6; subst e6'; have hok6 := Lib.hid hok6'; have hcp6 := Lib.hid hcp6'; have hap6 := Lib.hid hap6'; have hB6 := Lib.hid (((hB4.out.alloc (by omega) (.cells (tab 32 .u8 f) 39)).alloc (by simp; omega) (.cells #[] 5)).trans (ha6.1.below (by simp; omega) (fun x hx => by simp only [Value.ownBlock, Option.some.injEq] at hx; omega))); have r6 := (rowOf_below hB6.out (show w.heap.size < _ by omega)).trans r3; have hY6 := Lib.hid (hY'.out.below hB6.out); have hOne6 := Lib.hid (RowsB.one (lo := w4.heap.size + 1) (⟨A6, 32, c6, f⟩ : BV) hcp6' hok6' (by omega) hap6'); have hz6 := Lib.hid (show w.heap.size + 1 ≤ (w6.alloc (.cells #[.slice A6 32 c6] 29)).heap.size by simp; omega); clear ho6 ha6 e6 hok6' hap6' hcp6'))
      exact ⟨⟨k + 1, A7, c7, Ys ++ [⟨A6, 32, c6, f⟩], by omega, by go_num, rfl, hY8.out, by rw [List.map_append, hdat'.out, hsucc.out]; rfl, r7, by omega, hB7.out⟩, by simp [intOf]; omega⟩
    · obtain rfl : k = o.tn := by omega
      go_wp2
      go_ret
      exact ⟨⟨A, c, Ys, rfl, hY'.out.lower (by omega), hdat'.out⟩, hb'.out⟩
end Go.Proofs.YtfjigoimjaemmaaDoor
