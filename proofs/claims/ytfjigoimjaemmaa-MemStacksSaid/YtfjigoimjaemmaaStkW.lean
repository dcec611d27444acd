/- a frame's stack: the walks. -/
import Derived.Test.YtfjigoimjaemmaaMem2W
import Derived.Test.YtfjigoimjaemmaaRowsW
namespace Go.Proofs.Ytfjigoimjaemmaa
open Go.RowKit
set_option linter.unusedSimpArgs false
set_option linter.unusedVariables false
set_option maxRecDepth 100000

theorem wordElem : RowElem Try.prog 29 24 4 32 := .mk' (z := .agg #[.int .u64 0, .int .u64 0, .int .u64 0, .int .u64 0]) Try.underlying29 (by kernel_rfl) rfl (by omega)
/-- a word's cells -/
def wc (a : Nat → Int) : List Value := (tl 4 a).map (Value.int .u64)
theorem wc_tab (a : Nat → Int) : (wc a).toArray = tab 4 .u64 a := rfl
theorem wc_length (a : Nat → Int) : (wc a).length = 4 := by simp [wc, tl_length]

/-- block g is a stack whose words are l; v is the slice in it -/
def StkIs (w : World) (lo g : Nat) (v : Value) (l : List (Nat → Int)) : Prop :=
  rowOf w g = #[v] ∧ rowFit w g = some 1 ∧ OwnR w lo 24 4 v (l.map wc) ∧ lo ≤ g ∧ g < w.heap.size ∧ v.ownBlock ≠ some g
theorem StkIs.only {T : Nat → Prop} {w w' : World} {lo g : Nat} {v : Value} {l : List (Nat → Int)} (h : StkIs w lo g v l) (ho : Only T w w') (h1 : ¬ T g) (h2 : ∀ b, v.ownBlock = some b → ¬ T b) : StkIs w' lo g v l :=
  ⟨by rw [ho.rowOf h.2.2.2.2.1 h1, h.1], by rw [ho.rowFit h.2.2.2.2.1 h1, h.2.1], h.2.2.1.only ho h2, h.2.2.2.1, Nat.lt_of_lt_of_le h.2.2.2.2.1 ho.size, h.2.2.2.2.2⟩
theorem StkIs.below {w w' : World} {lo g : Nat} {v : Value} {l : List (Nat → Int)} (h : StkIs w lo g v l) (hb : Below w.heap.size w w') : StkIs w' lo g v l := h.only (Only.of_below' (fun _ => False) hb) (fun h => h) fun _ _ h => h
theorem StkIs.stored {w : World} {lo g : Nat} {v v' : Value} {l : List (Nat → Int)} (hr : rowOf w g = #[v]) (hf : rowFit w g = some 1) (ho : OwnR w lo 24 4 v' (l.map wc)) (hl : lo ≤ g) (hg : g < w.heap.size) (hne : v'.ownBlock ≠ some g) : StkIs (w.setCell ⟨g, 0, none⟩ v') lo g v' l := by
  refine ⟨by rw [rowOf_setCell_same, hr]; rfl, by rw [rowFit_setCell, hf], ho.only (Only.setCell w _ _) (fun b hb he => hne (by rw [hb, he])), hl, by simpa using hg, hne⟩
theorem StkIs.lower {w : World} {lo lo' g : Nat} {v : Value} {l : List (Nat → Int)} (h : StkIs w lo g v l) (hl : lo' ≤ lo) : StkIs w lo' g v l :=
  ⟨h.1, h.2.1, h.2.2.1.lower hl, by have := h.2.2.2.1; omega, h.2.2.2.2⟩
theorem StkIs.form {w : World} {lo g : Nat} {v : Value} {l : List (Nat → Int)} (h : StkIs w lo g v l) : ∃ A c, v = .slice A l.length c ∧ l.length ≤ c ∧ c ≤ maxLen ∧ (l ≠ [] → ∃ b, A = some ⟨b, 0, none⟩ ∧ b < w.heap.size ∧ rowFit w b = some (c * 4) ∧ b ≠ g) ∧ Words w A l.length (fun j => l.getD j zf) := by
  obtain ⟨hr, hf, ho, hg, hgs, hne⟩ := h
  obtain ⟨A, c, rfl, h1, h2, h3, h4⟩ := ho.form
  rw [List.length_map] at *
  refine ⟨A, c, rfl, h1, h2, fun hn => ?_, fun j hj => ?_⟩
  · obtain ⟨a, rfl⟩ := h3 (by simpa using hn)
    obtain ⟨_, q1, q2, q3, q4, _⟩ := h4 a rfl
    refine ⟨a.block, by cases a; simp at q2 q3; simp [q2, q3], q1, q4, fun e => hne (by rw [← e]; rfl)⟩
  · obtain ⟨a, rfl⟩ := h3 (by intro e; simp at e; subst e; simp at hj)
    obtain ⟨_, q1, _, _, _, q5⟩ := h4 a rfl
    refine ⟨a, rfl, q1, fun i hi => q5 j (wc (l.getD j zf)) ?_ i _ ?_⟩
    · rw [List.getElem?_map, List.getElem?_eq_getElem hj]; simp [List.getD, hj]
    · simp only [wc, List.getElem?_map, tl_get 4 _ i hi, Option.map_some]

set_option maxHeartbeats 400000 in
theorem stkNew_any (w : World) :
    Calls Try.prog 48 #[] w fun e w' => e = .returned (.pointer (some ⟨w.heap.size, 0, none⟩)) ∧ StkIs w' w.heap.size w.heap.size (.slice none 0 0) [] ∧ Below w.heap.size w w' := by
  go_enter Try.func48, Try.ntmps48
  go_wp2
  go_ret
  refine ⟨rfl, ⟨?_, ?_, OwnR.nil _ _ _ _, Nat.le_refl _, by simp, by simp [Value.ownBlock]⟩, ?_⟩
  · simp [go_sem]
  · simp [go_sem]
  · (repeat' (first | exact Below.refl _ _ | assumption | refine Below.alloc ?_ (by (try simp only [World.size_alloc, World.size_setCell, World.size_drew, setRow_size] at *); first | done | omega) _ | refine Below.setCell ?_ (by (try simp only [World.size_alloc, World.size_setCell, World.size_drew, setRow_size] at *); first | done | omega) _ | refine Below.drew ?_ | refine Below.trans ?_ (Below.mono (by assumption) (by (try simp only [World.size_alloc, World.size_setCell, World.size_drew, setRow_size] at *); first | done | omega)) | refine below_setRow' ?_ (by (try simp only [World.size_alloc, World.size_setCell, World.size_drew, setRow_size] at *); first | done | omega) _))

set_option maxHeartbeats 400000 in
theorem stkLen_any (w : World) (lo g : Nat) (v : Value) (l : List (Nat → Int)) (h : StkIs w lo g v l) :
    Calls Try.prog 53 #[.pointer (some ⟨g, 0, none⟩)] w fun e w' => e = .returned (.int .i64 l.length) ∧ w = w' := by
  obtain ⟨A, c, rfl, h1, h2, _, _⟩ := h.form
  obtain ⟨hr, hf, ho, hg, hgs, hne⟩ := h
  clear ho hne
  unfold maxLen at h2
  go_enter Try.func53, Try.ntmps53
  go_wp2
  go_ret
  exact ⟨rfl, rfl⟩

set_option maxHeartbeats 1000000 in
theorem stkPush_any (w : World) (lo g : Nat) (v : Value) (l : List (Nat → Int)) (h : StkIs w lo g v l) (hl : l.length ≤ 1024) (hlo : lo ≤ w.heap.size) (a : Nat → Int) :
    Calls Try.prog 49 #[.pointer (some ⟨g, 0, none⟩), wv a] w fun e w' => e = .returned (.bool (decide (l.length < 1024))) ∧ ∃ v', StkIs w' lo g v' (if l.length < 1024 then l ++ [a] else l) ∧ MTouch w w' g v v' := by
  obtain ⟨A, c, rfl, h1, h2, _, _⟩ := h.form
  have hS := Lib.hid h
  obtain ⟨hr, hf, ho, hg, hgs, hne⟩ := h
  clear ho hne
  unfold maxLen at h2
  by_cases hfull : l.length = 1024
  · rw [if_neg (by omega), decide_eq_false (by omega)]
    have hd : ((l.length : Int) == 1024) = true := by simp [hfull]
    clear hfull
    go_enter Try.func49, Try.ntmps49
    go_wp2
    go_ret
    have hb : Below w.heap.size w (w.alloc (.cells (tab 4 .u64 a) 24)) := (Below.refl _ _).alloc (Nat.le_refl _) _
    exact ⟨rfl, _, hS.out.below hb, Only.of_below' _ hb, .inl rfl⟩
  · rw [if_pos (by omega), decide_eq_true (by omega)]
    have hd : ((l.length : Int) == 1024) = false := by simp; omega
    have hlt : l.length < 1024 := by omega
    clear hfull
    go_enter Try.func49, Try.ntmps49
    go_wp2
    go_region_law (refine step_append_row wordElem rfl (.tmp 19) (.tmp 21) rfl lo (.slice A l.length c) (l.map wc) (by simp [Act.eval, Act.put]) (hS.out.2.2.1.below (by (repeat' (first | exact Below.refl _ _ | assumption | refine Below.alloc ?_ (by (try simp only [World.size_alloc, World.size_setCell, World.size_drew, setRow_size] at *); first | done | omega) _ | refine Below.setCell ?_ (by (try simp only [World.size_alloc, World.size_setCell, World.size_drew, setRow_size] at *); first | done | omega) _ | refine Below.drew ?_ | refine Below.trans ?_ (Below.mono (by assumption) (by (try simp only [World.size_alloc, World.size_setCell, World.size_drew, setRow_size] at *); first | done | omega)) | refine below_setRow' ?_ (by (try simp only [World.size_alloc, World.size_setCell, World.size_drew, setRow_size] at *); first | done | omega) _)))) (w.heap.size + 1) 1 (wc a) (by simp [Act.eval, Act.put]) (wc_length a) (by simp [go_sem, wc_tab]) (by simp [wc_tab, go_sem]) (by simp [maxLen]; omega) (by simp; omega) (by simp; omega) (w.heap.size + 2) (by simp) ?_; intro g2 c2 w2 ho2 ht2 hg2 hl2; have hr2 : rowOf w2 g = #[.slice A l.length c] := (ht2.rowOf (by simp; omega) hS.out.2.2.2.2.2).trans (by simp [go_sem, hr, hgs, show g < w.heap.size + 1 by omega]); have hq2 : rowFit w2 g = some 1 := (ht2.rowFit (by simp; omega) hS.out.2.2.2.2.2).trans (by simp [go_sem, hf, hgs, show g < w.heap.size + 1 by omega]); have hO2 := Lib.hid ho2; have hT2 := Lib.hid ht2; have hG2 := Lib.hid hg2; clear ho2 ht2 hg2)
    all_goals
      go_wp2
      go_ret
      have hb : Below w.heap.size w ((w.alloc (.cells (tab 4 .u64 a) 24)).alloc (.cells (tab 4 .u64 a) 24)).drew := by (repeat' (first | exact Below.refl _ _ | assumption | refine Below.alloc ?_ (by (try simp only [World.size_alloc, World.size_setCell, World.size_drew, setRow_size] at *); first | done | omega) _ | refine Below.setCell ?_ (by (try simp only [World.size_alloc, World.size_setCell, World.size_drew, setRow_size] at *); first | done | omega) _ | refine Below.drew ?_ | refine Below.trans ?_ (Below.mono (by assumption) (by (try simp only [World.size_alloc, World.size_setCell, World.size_drew, setRow_size] at *); first | done | omega)) | refine below_setRow' ?_ (by (try simp only [World.size_alloc, World.size_setCell, World.size_drew, setRow_size] at *); first | done | omega) _))
      have hne2 : (Value.slice (some ⟨g2, 0, none⟩) (l.length + 1) c2).ownBlock ≠ some g := by
        intro e
        have e2 : g2 = g := by simpa [Value.ownBlock] using e
        rcases hG2.out with h1 | h1
        · exact hS.out.2.2.2.2.2 (by rw [h1, e2])
        · omega
      refine ⟨rfl, .slice (some ⟨g2, 0, none⟩) (l.length + 1) c2, StkIs.stored hr2 hq2 (by have q := hO2.out; rw [List.length_map] at q; rw [List.map_append]; exact q) hg (by have := hT2.out.size; simp at this; omega) hne2, ?_, ?_⟩
      · exact (Only.of_below' _ hb).trans ((hT2.out.weaken (U := fun b => b = g ∨ (Value.slice A l.length c).ownBlock = some b) fun x _ hx => .inr hx).trans (Only.setCell w2 _ _) (fun x _ hx => .inl hx)) (fun x _ hx => hx)
      · rcases hG2.out with h1 | h1
        · exact .inl h1.symm
        · exact .inr ⟨g2, rfl, by omega⟩
end Go.Proofs.Ytfjigoimjaemmaa
