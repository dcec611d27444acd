/- the filter's search: Find's plain law; what it answers. -/
import Derived.Test.YtfjigoimjaemmaaDoorFind4W
namespace Go.Proofs.YtfjigoimjaemmaaDoor
open Go.RowKit
set_option linter.unusedSimpArgs false
set_option linter.unusedVariables false
set_option maxRecDepth 100000

/-- the address at a log's head -/
theorem addr_at {w : World} {a : Addr} {o : LogV} (h : CellsAt w a o.row.toList) : (ldArr 61 (.pointer (some a))).run Tryd.prog w = .ok (.agg (tab 20 .u8 o.addr)) w := by
  have hca : CellsAt w a (tab 20 .u8 o.addr).toList := ⟨h.1, fun i v hv => by
    have hi : i < 20 := by
      have := (List.getElem?_eq_some_iff.1 hv).1
      rw [Array.length_toList, tab_size] at this; exact this
    rw [Array.getElem?_toList, tab_get, if_pos hi] at hv
    exact h.2 i v (by rw [Array.getElem?_toList, LogV.row_addr _ _ hi, hv])⟩
  exact hca.load Tryd.isAgg61 (fun w => by rw [tab_size]; exact Tryd.sizeOf61 w)
/-- a log's own copy, beside the slice v -/
structure Cop (w : World) (lo : Nat) (v : Value) (o o' : LogV) : Prop where
  addr : o'.addr = o.addr
  tn : o'.tn = o.tn
  tx : o'.tx = o.tx
  dn : o'.dn = o.dn
  dx : o'.dx = o.dx
  top : OwnR w lo 47 4 (.slice o'.tA o'.tn o'.tc) (wrows o'.tn o'.tx)
  dat : OwnI w lo 5 .u8 (.slice o'.dA o'.dn o'.dc) (tl o'.dn o'.dx)
  ne : ∀ b, ((Value.slice o'.tA o'.tn o'.tc).ownBlock = some b ∨ (Value.slice o'.dA o'.dn o'.dc).ownBlock = some b) → v.ownBlock ≠ some b
theorem Cop.lt {w : World} {lo : Nat} {v : Value} {o o' : LogV} (h : Cop w lo v o o') {b : Nat} (hb : (Value.slice o'.tA o'.tn o'.tc).ownBlock = some b ∨ (Value.slice o'.dA o'.dn o'.dc).ownBlock = some b) : lo ≤ b ∧ b < w.heap.size := by
  rcases hb with hb | hb
  · exact h.top.lt hb
  · exact ownsRow_lt h.dat hb
theorem Cop.only {T : Nat → Prop} {w w' : World} {lo : Nat} {v : Value} {o o' : LogV} (h : Cop w lo v o o') (ho : Only T w w') (hn : ∀ b, ((Value.slice o'.tA o'.tn o'.tc).ownBlock = some b ∨ (Value.slice o'.dA o'.dn o'.dc).ownBlock = some b) → ¬ T b) : Cop w' lo v o o' :=
  ⟨h.addr, h.tn, h.tx, h.dn, h.dx, h.top.only ho fun b hb => hn b (.inl hb), h.dat.only ho fun b hb => hn b (.inr hb), h.ne⟩
theorem Cop.below {w w' : World} {lo : Nat} {v : Value} {o o' : LogV} (h : Cop w lo v o o') (hb : Below w.heap.size w w') : Cop w' lo v o o' := h.only (Only.of_below' (fun _ => False) hb) fun _ _ h => h
theorem Cop.moved {w : World} {lo : Nat} {v v' : Value} {o o' : LogV} (h : Cop w lo v o o') (hn : ∀ b, ((Value.slice o'.tA o'.tn o'.tc).ownBlock = some b ∨ (Value.slice o'.dA o'.dn o'.dc).ownBlock = some b) → v'.ownBlock ≠ some b) : Cop w lo v' o o' :=
  ⟨h.addr, h.tn, h.tx, h.dn, h.dx, h.top, h.dat, hn⟩
/-- own copies of the logs l, in the slice v -/
structure Cops (w : World) (lo : Nat) (v : Value) (l l' : List LogV) : Prop where
  own : OwnR w lo 64 22 v (lcells l')
  len : l'.length = l.length
  each : ∀ (i : Nat) (a b : LogV), l[i]? = some a → l'[i]? = some b → Cop w lo v a b
theorem Cops.nil (w : World) (lo : Nat) : Cops w lo (.slice none 0 0) [] [] := ⟨OwnR.nil _ _ _ _, rfl, fun i a b h => by simp at h⟩
theorem Cops.below {w w' : World} {lo : Nat} {v : Value} {l l' : List LogV} (h : Cops w lo v l l') (hb : Below w.heap.size w w') : Cops w' lo v l l' := ⟨h.own.below hb, h.len, fun i a b h1 h2 => (h.each i a b h1 h2).below hb⟩
/-- one more -/
theorem Cops.snoc {w w' : World} {lo : Nat} {v v' : Value} {l l' : List LogV} {o o' : LogV} (h : Cops w lo v l l') (ho : OwnR w' lo 64 22 v' (lcells (l' ++ [o']))) (ht : Only (fun b => v.ownBlock = some b) w w') (hv : v'.ownBlock = v.ownBlock ∨ v'.ownBlock = some w.heap.size)
    (hc : Cop w lo v o o') : Cops w' lo v' (l ++ [o]) (l' ++ [o']) := by
  have key : ∀ a b, Cop w lo v a b → Cop w' lo v' a b := fun a b hab => (hab.only ht fun x hx hT => hab.ne x hx hT).moved fun x hx hT => by
    rcases hv with e | e
    · exact hab.ne x hx (by rw [← e]; exact hT)
    · rw [e] at hT
      have := (hab.lt hx).2
      have := Option.some.inj hT
      omega
  refine ⟨ho, by simp [h.len], fun i a b h1 h2 => ?_⟩
  by_cases hi : i < l.length
  · rw [List.getElem?_append_left hi] at h1
    rw [List.getElem?_append_left (by rw [h.len]; exact hi)] at h2
    exact key a b (h.each i a b h1 h2)
  · rw [List.getElem?_append_right (by omega)] at h1
    rw [List.getElem?_append_right (by rw [h.len]; omega), h.len] at h2
    have h3 := (List.getElem?_eq_some_iff.1 h1).1
    obtain hi0 : i - l.length = 0 := by simp at h3; omega
    rw [hi0] at h1 h2
    simp at h1 h2
    subst h1 h2
    exact key _ _ hc
/-- a copy is made, and appended -/
theorem Cops.made {w w6 w7 w8 w9 : World} {v : Value} {l l3 : List LogV} {o : LogV} {f : Nat → Int} {A7 A8 : Option Addr} {tn dn c7 c8 g3 n3 c3 : Nat} (h : Cops w6 (w.heap.size + 1) v l l3) (hb : Below w.heap.size w w6) (hlo : w.heap.size + 1 ≤ w6.heap.size) (hr : rowOf w6 w.heap.size = tab 20 .u8 f)
    (hc7 : Below w6.heap.size w6 w7) (hc8 : Below w7.heap.size w7 w8) (htn : o.tn = tn) (hdn : o.dn = dn) (hO7 : OwnR w7 w6.heap.size 47 4 (.slice A7 tn c7) (wrows tn o.tx)) (hO8 : OwnI w8 w7.heap.size 5 .u8 (.slice A8 dn c8) (tl dn o.dx))
    (cs : Array Value) (t : TypeId) (hO9 : OwnR w9 (w.heap.size + 1) 64 22 (.slice (some ⟨g3, 0, none⟩) n3 c3) (lcells l3 ++ [(LogV.mk o.addr A7 tn c7 o.tx A8 dn c8 o.dx).row.toList])) (hT9 : Only (fun b => v.ownBlock = some b) (w8.alloc (.cells cs t)) w9) (hG9 : v.ownBlock = some g3 ∨ g3 = w8.heap.size + 1) :
    Cops w9 (w.heap.size + 1) (.slice (some ⟨g3, 0, none⟩) n3 c3) (l ++ [o]) (l3 ++ [LogV.mk o.addr A7 tn c7 o.tx A8 dn c8 o.dx]) ∧ rowOf w9 w.heap.size = tab 20 .u8 f ∧ w.heap.size < w9.heap.size ∧ Below w.heap.size w w9 := by
  subst htn hdn
  have hb7 := hc7.size
  have hb8 := hc8.size
  have hA : Below w8.heap.size w8 (w8.alloc (.cells cs t)) := (Below.refl _ _).alloc (Nat.le_refl _) _
  have h8 : Cops (w8.alloc (.cells cs t)) (w.heap.size + 1) v l l3 := ((h.below hc7).below hc8).below hA
  have hv : ∀ b, v.ownBlock = some b → w.heap.size + 1 ≤ b ∧ b < w6.heap.size := fun b hb => h.own.lt hb
  have hs9 := hT9.size
  simp only [World.size_alloc] at hs9
  refine ⟨?_, ?_, by omega, ?_⟩
  · refine h8.snoc (by simpa [lcells] using hO9) hT9 ?_ ⟨rfl, rfl, rfl, rfl, rfl, ((hO7.below hc8).below hA).lower hlo, (OwnI.only hO8 (Only.of_below' (fun _ => False) hA) fun _ _ h => h).lower (by omega), ?_⟩
    · rcases hG9 with e | e
      · exact .inl (by rw [e]; rfl)
      · exact .inr (by rw [e]; simp [Value.ownBlock])
    · intro b hbb e
      have h1 := (hv b e).2
      rcases hbb with e1 | e1
      · have := (hO7.lt e1).1; omega
      · have := (ownsRow_lt hO8 e1).1; omega
  · rw [hT9.rowOf (by simp; omega) (fun e => by have := (hv _ e).1; omega), rowOf_alloc_past _ _ _ (by omega), rowOf_below hc8 (by omega), rowOf_below hc7 (by omega), hr]
  · refine ((hb.trans (hc7.mono (by omega))).trans (hc8.mono (by omega))).trans ((hA.mono (by omega)).trans (hT9.below (by simp; omega) fun x hx => by have := (hv x hx).1; omega))
/-- what a search answers: own copies -/
def CopsOut (lo : Nat) (l : List LogV) (e : Ending) (w' : World) : Prop := ∃ v l', e = .returned v ∧ Cops w' lo v l l'

/-- where the filter has not all, no log fits -/
theorem not_may {L : Nat → LogV} {f : Nat → Int} {x : Nat → Nat → Int} {m n : Nat} (h : (allT (addL zf L n) x m && hasF (addL zf L n) (sumF f 20)) = false) : ∀ k, k ≤ n → foundL L f x m k = []
  | 0, _ => rfl
  | k + 1, hk => by
    rw [foundL, not_may h k (by omega), List.nil_append]
    rw [if_neg]
    intro hf
    have h2 := fit_has (b := addL zf L n) hf (fun v hv => by
      have := has_logs L n k (by omega) ⟨none, v.1, 0, v.2⟩ hv
      exact this) sum_word sum_addr
    rw [h] at h2
    cases h2
end Go.Proofs.YtfjigoimjaemmaaDoor
