/- a frame's stack: All; the reference's Same; two stacks side by side. -/
import Derived.Test.YtfjigoimjaemmaaStk3W
import Derived.Test.YtfjigoimjaemmaaRows2W
import Derived.Test.YtfjigoimjaemmaaCutW
namespace Go.Proofs.Ytfjigoimjaemmaa
open Go.RowKit
set_option linter.unusedSimpArgs false
set_option linter.unusedVariables false
set_option maxRecDepth 100000

theorem wc_one (l : List (Nat → Int)) : ∀ u ∈ (l.map wc).flatten, u.oneCell' = true := by
  intro u hu
  simp only [List.mem_flatten, List.mem_map] at hu
  obtain ⟨r, ⟨a, _, rfl⟩, hu⟩ := hu
  simp only [wc, List.mem_map] at hu
  obtain ⟨x, _, rfl⟩ := hu
  rfl
theorem wc_lens (l : List (Nat → Int)) : ∀ r ∈ l.map wc, r.length = 4 := by
  intro r hr
  obtain ⟨a, _, rfl⟩ := List.mem_map.1 hr
  exact wc_length a
theorem OwnR.words {w : World} {lo : Nat} {A : Option Addr} {n c : Nat} {l : List (Nat → Int)} (h : OwnR w lo 24 4 (.slice A n c) (l.map wc)) : Words w A l.length (fun j => l.getD j zf) := by
  obtain ⟨A', c', hv, h1, h2, h3, h4⟩ := h.form
  cases hv
  intro j hj
  obtain ⟨a, rfl⟩ := h3 (by intro e; simp at e; subst e; simp at hj)
  obtain ⟨_, q1, _, _, _, q5⟩ := h4 a rfl
  refine ⟨a, rfl, q1, fun i hi => q5 j (wc (l.getD j zf)) ?_ i _ ?_⟩
  · rw [List.getElem?_map, List.getElem?_eq_getElem hj]; simp [List.getD, hj]
  · simp only [wc, List.getElem?_map, tl_get 4 _ i hi, Option.map_some]

set_option maxHeartbeats 1000000 in
theorem cloneW_any (w : World) (lo : Nat) (A : Option Addr) (n c : Nat) (l : List (Nat → Int)) (h : OwnR w lo 24 4 (.slice A n c) (l.map wc)) (hl : l.length ≤ 1024) :
    Calls Try.prog 92 #[.slice A n c] w fun e w' => (∃ v, e = .returned v ∧ OwnR w' w.heap.size 24 4 v (l.map wc)) ∧ Below w.heap.size w w' := by
  obtain ⟨A', c', hv, h1, h2, h3, h4⟩ := h.form
  cases hv
  rw [List.length_map] at *
  cases A with
  | none =>
    have hl0 : l = [] := by
      cases l with
      | nil => rfl
      | cons a l => obtain ⟨a, ha⟩ := h3 (by simp); cases ha
    subst hl0
    have hc : c = 0 := by
      rcases h.1.2 with ⟨hv, _⟩ | ⟨g, cap, cur, hv, _⟩
      · simpa using hv
      · cases hv
    subst hc
    have he := fun (w : World) => Lib.run_eql_slice_nil (P := Try.prog) w 29 24 none 0 0 0 0 Try.underlying29
    clear h h4 h3
    go_enter Try.func92, Try.ntmps92
    go_wp2
    go_ret
    exact ⟨⟨_, rfl, OwnR.nil _ _ _ _⟩, Below.refl _ _⟩
  | some a =>
    have he := fun (w : World) => Lib.run_eql_slice_nil (P := Try.prog) w 29 24 (some a) l.length c 0 0 Try.underlying29
    have hE := Lib.hid (OwnR.empty w w.heap.size 24 4 (Nat.le_refl _))
    have hb0 : Below w.heap.size w (w.alloc (.cells #[] 24)) := (Below.refl _ _).alloc (Nat.le_refl _) _
    have hR := Lib.hid (h.below hb0).rowsAt
    have hb0' := Lib.hid hb0
    clear h h4 h3 hb0
    go_enter Try.func92, Try.ntmps92
    go_wp2_with (at_builtin; refine wpList_app_rows wordElem rfl (.tmp 5) (.tmp 6) rfl w.heap.size (.slice (some ⟨w.heap.size, 0, none⟩) 0 0) [] rfl hE.out (some a) l.length c (l.map wc) (by rw [List.length_map]) rfl hR.out (wc_lens l) (wc_one l) (by simp [maxLen]; omega) (by simp; omega) (by simp) ?_; rw [List.nil_append]; intro v2 w2 ho2 ha2; have hO2 := Lib.hid ho2; have hA2 := Lib.hid ha2; clear ho2 ha2)
    go_ret
    exact ⟨⟨v2, rfl, hO2.out⟩, hb0'.out.trans (hA2.out.1.below (by simp) (fun b hb => by simp only [Value.ownBlock, Option.some.injEq] at hb; omega))⟩

set_option maxHeartbeats 1000000 in
theorem stkAll_any (w : World) (lo g : Nat) (v : Value) (l : List (Nat → Int)) (h : StkIs w lo g v l) (hl : l.length ≤ 1024) :
    Calls Try.prog 65 #[.pointer (some ⟨g, 0, none⟩)] w fun e w' => (∃ v, e = .returned v ∧ OwnR w' w.heap.size 24 4 v (l.map wc)) ∧ Below w.heap.size w w' := by
  obtain ⟨A, c, rfl, h1, h2, h3, h4⟩ := h.form
  have hS := Lib.hid h
  have hC := Lib.hid (cloneW_any w lo A l.length c l h.2.2.1 hl)
  obtain ⟨hr, hf, ho, hg, hgs, hne⟩ := h
  clear h3 h4 ho hne
  unfold maxLen at h2
  go_enter Try.func65, Try.ntmps65
  go_wp2_with (go_at_call 92; refine hC.out.mono ?_; rintro e w2 ⟨⟨v2, rfl, ho2⟩, hb2⟩; have hO2 := Lib.hid ho2; clear ho2)
  go_ret
  exact ⟨⟨v2, rfl, hO2.out⟩, hb2⟩

set_option maxHeartbeats 1000000 in
theorem refSameW_any (A B : Option Addr) (n c d : Nat) (x : Nat → Nat → Int) (w : World) (hx : Words w A n x) (hy : Words w B n x) (hn : n ≤ 1024) :
    Calls Try.prog 64 #[.slice A n c, .slice B n d] w fun e w' => e = .returned (.bool true) ∧ Below w.heap.size w w' := by
  have hX := Lib.hid hx
  have hY := Lib.hid hy
  clear hx hy
  go_enter Try.func64, Try.ntmps64
  go_wp2
  go_loopw [13] (fun i wr => ∃ k : Nat, k ≤ n ∧ i = .int .i64 k ∧ Below w.heap.size w wr) (fun i _ => n - (intOf i).toNat)
  case atStart => exact ⟨0, by omega, rfl, Below.refl _ _⟩
  case round =>
    obtain ⟨k, hk, rfl, hb⟩ := hrel
    have hb' := Lib.hid hb
    clear hb
    by_cases hlt : k < n
    · obtain ⟨a, rfl, _, _⟩ := hX.out k hlt
      obtain ⟨b, rfl, _, _⟩ := hY.out k hlt
      have h1 : ∀ q : Nat, (ldArr 24 (.pointer (some (a.add (k * 4))))).run Try.prog (wr.drewN q) = .ok (wv (x k)) (wr.drewN q) := fun q => by
        obtain ⟨a1, e1, _, h⟩ := (hX.out.below (Nat.le_refl _) (below_drewN hb'.out q)).load hlt
        obtain rfl := Option.some.inj e1
        exact h
      have h2 : ∀ q : Nat, (ldArr 24 (.pointer (some (b.add (k * 4))))).run Try.prog (wr.drewN q) = .ok (wv (x k)) (wr.drewN q) := fun q => by
        obtain ⟨a1, e1, _, h⟩ := (hY.out.below (Nat.le_refl _) (below_drewN hb'.out q)).load hlt
        obtain rfl := Option.some.inj e1
        exact h
      have hki : (k : Int) < (n : Int) := by omega
      go_wp2
      go_quiet (fail)
      go_wp2
      exact ⟨⟨k + 1, by omega, by go_num, below_drewN hb'.out _⟩, by simp [intOf]; omega⟩
    · obtain rfl : k = n := by omega
      go_wp2
      go_ret
      exact ⟨rfl, hb'.out⟩

/-- a stack at g and the reference's row, in a world; what was there stands -/
def Two (w : World) (g : Nat) (wr : World) (v sv : Value) (l : List (Nat → Int)) : Prop :=
  StkIs wr g g v l ∧ OwnR wr g 24 4 sv (l.map wc) ∧ (∀ b, sv.ownBlock = some b → b ≠ g ∧ v.ownBlock ≠ some b) ∧ l.length ≤ 1024 ∧ Below g w wr
theorem Two.below {w wr w' : World} {g : Nat} {v sv : Value} {l : List (Nat → Int)} (h : Two w g wr v sv l) (hb : Below wr.heap.size wr w') : Two w g w' v sv l :=
  ⟨h.1.below hb, h.2.1.below hb, h.2.2.1, h.2.2.2.1, h.2.2.2.2.trans (hb.mono (Nat.le_of_lt h.1.2.2.2.2.1))⟩
/-- the program's stack has turned -/
structure Half (w : World) (g : Nat) (wr : World) (v sv : Value) (l l' : List (Nat → Int)) : Prop where
  stk : StkIs wr g g v l'
  own : OwnR wr g 24 4 sv (l.map wc)
  apart : ∀ b, sv.ownBlock = some b → b ≠ g ∧ v.ownBlock ≠ some b
  below : Below g w wr
theorem Two.turned {w wr w2 : World} {g : Nat} {v v2 sv : Value} {l l' : List (Nat → Int)} (h : Two w g wr v sv l) (hs : StkIs w2 g g v2 l') (ht : MTouch wr w2 g v v2) : Half w g w2 v2 sv l l' := by
  refine ⟨hs, h.2.1.only ht.1 (fun b hb hT => ?_), fun b hb => ⟨(h.2.2.1 b hb).1, fun e => ?_⟩, h.2.2.2.2.trans (ht.belowS h.1 (Nat.le_refl _) (Nat.le_of_lt h.1.2.2.2.2.1))⟩
  · rcases hT with hT | hT
    · exact (h.2.2.1 b hb).1 hT
    · exact (h.2.2.1 b hb).2 hT
  · rcases ht.2 with h0 | ⟨b2, h0, h00⟩
    · exact (h.2.2.1 b hb).2 (by rw [← h0, e])
    · rw [h0] at e
      obtain rfl := Option.some.inj e
      have := (h.2.1.lt hb).2
      omega
theorem Half.below' {w wr w' : World} {g : Nat} {v sv : Value} {l l' : List (Nat → Int)} (h : Half w g wr v sv l l') (hb : Below wr.heap.size wr w') : Half w g w' v sv l l' :=
  ⟨h.stk.below hb, h.own.below hb, h.apart, h.below.trans (hb.mono (Nat.le_of_lt h.stk.2.2.2.2.1))⟩
/-- the reference's row has turned, too -/
theorem Half.two {w wr w2 : World} {g : Nat} {v sv sv2 : Value} {l l' : List (Nat → Int)} (h : Half w g wr v sv l l') (ho : OwnR w2 g 24 4 sv2 (l'.map wc)) (ht : Only (fun b => sv.ownBlock = some b) wr w2) (hb : ∀ b, sv2.ownBlock = some b → sv.ownBlock = some b ∨ wr.heap.size ≤ b) (hl : l'.length ≤ 1024) : Two w g w2 v sv2 l' := by
  refine ⟨h.stk.only ht (fun e => (h.apart g e).1 rfl) (fun b hv e => (h.apart b e).2 hv), ho, fun b e => ?_, hl, h.below.trans (ht.below (Nat.le_of_lt h.stk.2.2.2.2.1) (fun x hx => (h.own.lt hx).1))⟩
  rcases hb b e with h1 | h1
  · exact h.apart b h1
  · refine ⟨by have := h.stk.2.2.2.2.1; omega, fun e2 => ?_⟩
    have := (h.stk.2.2.1.lt e2).2
    omega
end Go.Proofs.Ytfjigoimjaemmaa
