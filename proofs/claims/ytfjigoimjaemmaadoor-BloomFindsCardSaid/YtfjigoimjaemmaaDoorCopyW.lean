/- copy: numbers laid over a part of a block of numbers. -/
import Derived.Test.YtfjigoimjaemmaaDoorOwn
import Derived.Laws.CopyOwn
namespace Go.Proofs.YtfjigoimjaemmaaDoor
open Go.RowKit
set_option linter.unusedSimpArgs false
set_option linter.unusedVariables false
set_option maxRecDepth 100000

/-- x laid over f: m numbers from o on -/
def ovl (f : Nat → Int) (o m : Nat) (x : Nat → Int) : Nat → Int := fun j => if o ≤ j ∧ j < o + m then x (j - o) else f j

theorem wpList_copy_tab {P : Program} {w : World} {ops : Array Oper} {rest : List Oper} {o : Oper} {a : Act} {Q : Exit → Act → World → Prop} (hgd : o.guard = none) (d s : Operand) (dT sT e : TypeId) (k : IntKind) (bytes : Nat)
    (ho : o.op = .call { callee := .builtin .copy, args := #[d, s], argTypes := #[dT, sT] }) (hE : IntElem P dT e k bytes)
    (g off N dLen dCap : Nat) (f : Nat → Int) (A : Option Addr) (n c : Nat) (x : Nat → Int) (hd : a.eval d = .slice (some ⟨g, off, none⟩) dLen dCap) (hs : a.eval s = .slice A n c)
    (hr : rowOf w g = tab N k f) (hq : rowFit w g = some N) (hx : Ints w k A n x) (hfit : off + dLen ≤ N)
    (h : ∀ w', rowOf w' g = tab N k (ovl f off (min n dLen) x) → rowFit w' g = some N → Only (fun b => b = g) w w' → wpList P ops Q rest (a.put o.dst (.int .i64 ((min n dLen : Nat) : Int))) w') :
    wpList P ops Q (o :: rest) a w := by
  obtain ⟨i, hi, hz, hsz, hb⟩ := hE.hi
  have hi1 : (P.info? e).map (·.size) = some 1 := by rw [hi]; simp [hsz]
  obtain ⟨t, hg, hgs⟩ := rowFit_some hq
  by_cases h0 : min n dLen = 0
  · refine wpList_copy_nothing hgd d s dT sT ho e hE.ht hi1 _ _ dLen dCap n c hd hs h0 ?_
    have e1 : ovl f off (min n dLen) x = f := by
      funext j; simp only [ovl, h0]; rw [if_neg (by omega)]
    have := h w (by rw [e1, hr]) hq (Only.refl _ _)
    rw [h0] at this
    exact this
  · obtain ⟨m, hm⟩ : ∃ m, min n dLen = m := ⟨_, rfl⟩
    obtain ⟨ad, rfl, _, _⟩ := hx 0 (by omega)
    have hsrc : ∀ j u, ((tl m x).map (Value.int k))[j]? = some u → w.cell? (ad.add j) = some u := by
      intro j u hu
      by_cases hj : j < m
      · obtain ⟨a', ha, _, hc⟩ := hx j (by omega)
        obtain rfl := Option.some.inj ha
        rw [List.getElem?_map, tl_get m x j hj] at hu
        rw [hc, ← Option.some.inj hu]
      · rw [List.getElem?_eq_none (by rw [List.length_map, tl_length]; omega)] at hu; cases hu
    have hlen : ((tl m x).map (Value.int k)).length = m := by rw [List.length_map, tl_length]
    refine wpList_copy_own hgd d s dT sT ho e hE.ht hi1 g off dLen dCap ad n c hd hs (rowOf w g) t hg ((tl m x).map (Value.int k)) (by rw [hlen]; exact hm.symm) hsrc (by rw [hlen, hgs]; omega) (by
      intro v hv
      obtain ⟨y, _, rfl⟩ := List.mem_map.1 hv
      rfl) ?_
    rw [hlen]
    have hrow : ((rowOf w g).toList.take off ++ ((tl m x).map (Value.int k) ++ (rowOf w g).toList.drop (off + m))).toArray = tab N k (ovl f off m x) := by
      refine tab_lit _ _ _ _ ?_
      apply List.ext_getElem?
      intro j
      rw [hr]
      unfold tab
      have hNl : ((tl N f).map (Value.int k)).length = N := by rw [List.length_map, tl_length]
      by_cases hj : j < N
      · rw [List.getElem?_map (l := tl N _), tl_get N _ j hj]
        by_cases h1 : j < off
        · rw [List.getElem?_append_left (by rw [List.length_take, hNl]; omega), List.getElem?_take_of_lt h1, List.getElem?_map, tl_get N f j hj]
          simp [ovl, show ¬ off ≤ j from by omega]
        · rw [List.getElem?_append_right (by rw [List.length_take, hNl]; omega), List.length_take, hNl, show min off N = off from by omega]
          by_cases h2 : j < off + m
          · rw [List.getElem?_append_left (by rw [hlen]; omega), List.getElem?_map, tl_get m x _ (by omega)]
            simp [ovl, h2, show off ≤ j from by omega]
          · rw [List.getElem?_append_right (by rw [hlen]; omega), hlen, List.getElem?_drop, show off + m + (j - off - m) = j from by omega, List.getElem?_map, tl_get N f j hj]
            simp [ovl, h2]
      · rw [List.getElem?_eq_none (by simp only [List.length_append, List.length_take, List.length_drop, hNl, hlen]; omega), List.getElem?_eq_none (by rw [List.length_map, tl_length]; omega)]
    rw [hrow]
    have := h (w.setRow g (tab N k (ovl f off m x))) (by rw [hm]; exact rowOf_setRow_same _ _ _ (by rw [hq]; rfl)) (by rw [rowFit_setRow_same _ _ _ (by rw [hq]; rfl), tab_size]) ⟨rfl, rfl, rfl, by simp, fun b hb hn => setRow_other w g b _ hn⟩
    rw [hm] at this
    exact this
end Go.Proofs.YtfjigoimjaemmaaDoor
