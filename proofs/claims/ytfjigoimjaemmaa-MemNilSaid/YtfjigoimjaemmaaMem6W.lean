/- a frame's memory: bytes read and written: the program's walks. -/
import Derived.Test.YtfjigoimjaemmaaMem4W
import Derived.Test.YtfjigoimjaemmaaCopyW
import Derived.Test.YtfjigoimjaemmaaOwn2
import Derived.Test.YtfjigoimjaemmaaOpW
namespace Go.Proofs.Ytfjigoimjaemmaa
open Go.RowKit
set_option linter.unusedSimpArgs false
set_option linter.unusedVariables false
set_option maxRecDepth 100000

/-- l, but n numbers of x laid from a place on -/
def wrF (l : List Int) (at' : Int) (n : Nat) (x : Nat → Int) (j : Nat) : Int := if 0 ≤ at' ∧ at' ≤ j ∧ (j : Int) < at' + n then x (j - at'.toNat) else l.getD j 0
def wrL (l : List Int) (at' : Int) (n : Nat) (x : Nat → Int) : List Int := tl l.length (wrF l at' n x)
theorem wrL_length (l : List Int) (at' : Int) (n : Nat) (x : Nat → Int) : (wrL l at' n x).length = l.length := tl_length _ _
theorem tl_self (l : List Int) : tl l.length (fun j => l.getD j 0) = l := by
  apply List.ext_getElem?
  intro i
  by_cases h : i < l.length
  · rw [tl_get _ _ _ h]; simp [List.getD, h]
  · rw [List.getElem?_eq_none (by rw [tl_length]; omega), List.getElem?_eq_none (by omega)]
theorem wrL_none (l : List Int) (at' : Int) (n : Nat) (x : Nat → Int) (h : at' < 0 ∨ (l.length : Int) ≤ at' ∨ n = 0) : wrL l at' n x = l := by
  refine Eq.trans ?_ (tl_self l)
  unfold wrL
  rw [tl_ext]
  intro i hi
  unfold wrF
  rw [if_neg (by omega)]

theorem wpList_copy_ownI {P : Program} {w : World} {ops : Array Oper} {rest : List Oper} {o : Oper} {a : Act} {Q : Exit → Act → World → Prop} (hgd : o.guard = none) (d s : Operand) (dT sT e : TypeId) (k : IntKind) (bytes : Nat)
    (ho : o.op = .call { callee := .builtin .copy, args := #[d, s], argTypes := #[dT, sT] }) (hE : IntElem P dT e k bytes) (lo g cap off dCap : Nat) (l : List Int) (hown : OwnI w lo e k (.slice (some ⟨g, 0, none⟩) l.length cap) l) (hoff : off ≤ l.length)
    (A : Option Addr) (n c : Nat) (x : Nat → Int) (hd : a.eval d = .slice (some ⟨g, off, none⟩) (l.length - off) dCap) (hs : a.eval s = .slice A n c) (hx : Ints w k A n x)
    (h : ∀ w', OwnI w' lo e k (.slice (some ⟨g, 0, none⟩) l.length cap) (wrL l off n x) → Only (fun b => b = g) w w' → wpList P ops Q rest (a.put o.dst (.int .i64 ((min n (l.length - off) : Nat) : Int))) w') :
    wpList P ops Q (o :: rest) a w := by
  obtain ⟨i, hi, hz, hsz, hb⟩ := hE.hi
  have hi1 : (P.info? e).map (·.size) = some 1 := by rw [hi]; simp [hsz]
  rcases hown.2 with ⟨hv, _⟩ | ⟨g', cap', cur, hv, hg, hh, hn, hcm, hcs, htk⟩
  · cases hv
  · cases hv
    rw [Nat.mul_one] at htk
    by_cases h0 : min n (l.length - off) = 0
    · refine wpList_copy_nothing hgd d s dT sT ho e hE.ht hi1 _ _ _ dCap n c hd hs h0 ?_
      have hnone : wrL l off n x = l := wrL_none _ _ _ _ (by omega)
      have := h w (by rw [hnone]; exact hown) (Only.refl _ _)
      rw [h0] at this
      exact this
    · obtain ⟨m, hm⟩ : ∃ m, min n (l.length - off) = m := ⟨_, rfl⟩
      obtain ⟨ad, rfl, _, _⟩ := hx 0 (by omega)
      have hsrc : ∀ j u, ((tl m x).map (Value.int k))[j]? = some u → w.cell? (ad.add j) = some u := by
        intro j u hu
        by_cases hj : j < m
        · obtain ⟨a', ha, _, hc⟩ := hx j (by omega)
          obtain rfl := Option.some.inj ha
          rw [List.getElem?_map, tl_get m x j hj] at hu
          rw [hc, ← Option.some.inj hu]
        · rw [List.getElem?_eq_none (by rw [List.length_map, tl_length]; omega)] at hu; cases hu
      have hlen : ((tl m x).map (Value.int k)).length = m := by rw [List.length_map, tl_length]
      refine wpList_copy_own hgd d s dT sT ho e hE.ht hi1 g off (l.length - off) dCap ad n c hd hs cur e hh ((tl m x).map (Value.int k)) (by rw [hlen]; exact hm.symm) hsrc (by rw [hlen, hcs]; omega) (by
        intro v hv
        obtain ⟨y, _, rfl⟩ := List.mem_map.1 hv
        rfl) ?_
      rw [hlen]
      have := h (w.setRow g (cur.toList.take off ++ ((tl m x).map (Value.int k) ++ cur.toList.drop (off + m))).toArray) ?_ ⟨rfl, rfl, rfl, by simp, fun b hb hn => setRow_other w g b _ hn⟩
      · rw [hm] at this; exact this
      · refine ⟨by simp [wrL_length], .inr ⟨g, cap, _, by rw [wrL_length], hg, setRow_heap w g cur _ e _ hh, by rw [wrL_length]; exact hn, hcm, ?_, ?_⟩⟩
        · simp only [List.size_toArray, List.length_append, List.length_take, List.length_drop, Array.length_toList, hlen, hcs]; omega
        · apply List.ext_getElem?
          intro j
          rw [wrL_length, Nat.mul_one]
          by_cases hj : j < l.length
          · rw [List.getElem?_take_of_lt hj, List.getElem?_map, wrL, tl_get _ _ _ hj]
            have hold : cur.toList[j]? = some (.int k (l.getD j 0)) := by
              have : (cur.toList.take l.length)[j]? = some (.int k (l.getD j 0)) := by rw [htk]; simp [List.getD, hj]
              rwa [List.getElem?_take_of_lt hj] at this
            simp only [List.getElem?_toArray, Option.map_some]
            by_cases h1 : j < off
            · rw [List.getElem?_append_left (by rw [List.length_take, Array.length_toList]; omega), List.getElem?_take_of_lt h1, hold]
              unfold wrF; rw [if_neg (by omega)]
            · rw [List.getElem?_append_right (by rw [List.length_take, Array.length_toList]; omega), List.length_take, Array.length_toList, show min off cur.size = off by omega]
              by_cases h2 : j < off + m
              · rw [List.getElem?_append_left (by rw [hlen]; omega), List.getElem?_map, tl_get m x _ (by omega)]
                unfold wrF; rw [if_pos (by omega)]; rfl
              · rw [List.getElem?_append_right (by rw [hlen]; omega), hlen, List.getElem?_drop, show off + m + (j - off - m) = j by omega, hold]
                unfold wrF; rw [if_neg (by omega)]
          · rw [List.getElem?_eq_none (by simp only [List.length_take]; omega), List.getElem?_eq_none (by rw [List.length_map, wrL_length]; omega)]

set_option maxHeartbeats 1000000 in
theorem memWrite_any (w : World) (lo g : Nat) (v : Value) (l : List Int) (h : MemIs w lo g v l) (hl : l.length ≤ 4194304) (at' : Int) (hat : I64 at') (A : Option Addr) (n c : Nat) (x : Nat → Int) (hx : Ints w .u8 A n x) :
    Calls Try.prog 55 #[.pointer (some ⟨g, 0, none⟩), .int .i64 at', .slice A n c] w fun e w' => e = .returned (.tuple #[]) ∧ MemIs w' lo g v (wrL l at' n x) ∧ Only (fun b => v.ownBlock = some b) w w' := by
  have hM := Lib.hid h
  obtain ⟨B, cp, rfl, hcp, hbi, hB⟩ := h.2.2.1.ints
  obtain ⟨hr, hf, ho, hg, hgs, hne⟩ := h
  obtain ⟨ha0, ha1⟩ := hat
  have hX := Lib.hid hx
  clear hx
  by_cases hin : 0 ≤ at' ∧ at' < l.length
  · obtain ⟨k, rfl⟩ : ∃ k : Nat, at' = k := ⟨at'.toNat, by omega⟩
    have hk : k < l.length := by omega
    have hki : (k : Int) < (l.length : Int) := by omega
    obtain ⟨a, rfl, hal, _⟩ := hbi k hk
    obtain ⟨b0, b1, b2⟩ := hB a rfl
    obtain ⟨b, rfl⟩ : ∃ b, a = ⟨b, 0, none⟩ := ⟨a.block, by cases a; simp at b1 b2; simp [b1, b2]⟩
    have hkc : ¬ cp = k := by omega
    clear ho hne hbi hB b1 b2 hin
    go_enter Try.func55, Try.ntmps55
    go_wp2_with (refine wpList_copy_ownI rfl (.tmp 26) (.tmp 27) 38 38 5 .u8 1 rfl bytesElem lo b cp k (cp - k) l hM.out.2.2.1 (by omega) A n c x rfl rfl hX.out ?_; intro w2 ho2 ht2; have hO2 := Lib.hid ho2; have hT2 := Lib.hid ht2; clear ho2 ht2)
    go_end0
    exact ⟨rfl, ⟨(hT2.out.rowOf hgs (fun e => hM.out.2.2.2.2.2 (by rw [e]; rfl))).trans hr, (hT2.out.rowFit hgs (fun e => hM.out.2.2.2.2.2 (by rw [e]; rfl))).trans hf, hO2.out, hg, Nat.lt_of_lt_of_le hgs hT2.out.size, hM.out.2.2.2.2.2⟩, hT2.out.weaken fun x _ hx => by rw [hx]; rfl⟩
  · rw [wrL_none _ _ _ _ (by omega)]
    by_cases h0 : at' < 0
    · clear hin ho hne hbi hB
      have h00 : ¬ 0 ≤ at' := by omega
      go_enter Try.func55, Try.ntmps55
      go_wp2_with fail
      go_end0
      exact ⟨rfl, hM.out, Only.refl _ _⟩
    · have h1 : ¬ at' < (l.length : Int) := by omega
      clear hin ho hne hbi hB
      go_enter Try.func55, Try.ntmps55
      go_wp2_with fail
      go_end0
      exact ⟨rfl, hM.out, Only.refl _ _⟩

/-- how many bytes a read hands back, and which -/
def readN (at' n : Int) : Nat := if at' < 0 ∨ n < 0 ∨ 4194304 < n then 0 else n.toNat
def readF (l : List Int) (at' : Int) (j : Nat) : Int := l.getD (at'.toNat + j) 0

/-- what a read hands back: a slice of n bytes -/
def ReadOut (n : Nat) (x : Nat → Int) (e : Ending) (w' : World) : Prop := ∃ A c, e = .returned (.slice A n c) ∧ Ints w' .u8 A n x ∧ n ≤ c
theorem Ints.shift {w : World} {k : IntKind} {b o n m : Nat} {x : Nat → Int} (h : Ints w k (some ⟨b, o, none⟩) n x) (hm : m ≤ n) : Ints w k (some ⟨b, o + m, none⟩) (n - m) (fun j => x (m + j)) := fun j hj => by
  obtain ⟨a, ha, hb, hc⟩ := h (m + j) (by omega)
  obtain rfl := Option.some.inj ha
  refine ⟨_, rfl, hb, ?_⟩
  rw [Addr.add_lit] at hc ⊢
  rw [← hc, Nat.add_assoc]

set_option maxHeartbeats 1000000 in
theorem memRead_any (w : World) (lo g : Nat) (v : Value) (l : List Int) (h : MemIs w lo g v l) (hl : l.length ≤ 4194304) (at' n : Int) (hat : I64 at') (hn : I64 n) :
    Calls Try.prog 61 #[.pointer (some ⟨g, 0, none⟩), .int .i64 at', .int .i64 n] w fun e w' => ReadOut (readN at' n) (readF l at') e w' ∧ Below w.heap.size w w' := by
  have hM := Lib.hid h
  obtain ⟨B, cp, rfl, hcp, hbi, hB⟩ := h.2.2.1.ints
  obtain ⟨hr, hf, ho, hg, hgs, hne⟩ := h
  obtain ⟨ha0, ha1⟩ := hat
  obtain ⟨hn0, hn1⟩ := hn
  clear ho hne
  by_cases hbad : at' < 0 ∨ n < 0 ∨ 4194304 < n
  · have e : readN at' n = 0 := by unfold readN; rw [if_pos hbad]
    rw [e]
    have fin : ReadOut 0 (readF l at') (.returned (.slice none 0 0)) w ∧ Below w.heap.size w w := ⟨⟨none, 0, rfl, fun j hj => absurd hj (by omega), by omega⟩, Below.refl _ _⟩
    have fin' := Lib.hid fin
    clear fin hbi hB e
    by_cases h1 : at' < 0
    · clear hbad
      go_enter Try.func61, Try.ntmps61
      go_wp2_with fail
      go_ret
      exact fin'.out
    · by_cases h2 : n < 0
      · clear hbad
        have h11 : 0 ≤ at' := by omega
        go_enter Try.func61, Try.ntmps61
        go_wp2_with fail
        go_ret
        exact fin'.out
      · have h3 : 4194304 < n := by omega
        have h11 : 0 ≤ at' := by omega
        have h22 : 0 ≤ n := by omega
        clear hbad h1 h2
        go_enter Try.func61, Try.ntmps61
        go_wp2_with fail
        go_ret
        exact fin'.out
  · have h11 : 0 ≤ at' := by omega
    obtain ⟨m, rfl⟩ : ∃ m : Nat, n = m := ⟨n.toNat, by omega⟩
    obtain ⟨k, rfl⟩ : ∃ k : Nat, at' = k := ⟨at'.toNat, by omega⟩
    have hm4 : (m : Int) ≤ 4194304 := by omega
    have e : readN k m = m := by unfold readN; rw [if_neg (by omega)]; omega
    rw [e]
    have hmk := run_make_tab (P := Try.prog) bytesElem w .i64 m (by unfold maxLen; omega) (by omega)
    have hbw : Below w.heap.size w (w.alloc (.cells (tab m .u8 zf) 5)) := (Below.refl _ _).alloc (Nat.le_refl _) _
    by_cases hin : k < l.length
    · have hki : (k : Int) < (l.length : Int) := by omega
      obtain ⟨a, rfl, hal, _⟩ := hbi k hin
      obtain ⟨b0, b1, b2⟩ := hB a rfl
      obtain ⟨b, rfl⟩ : ∃ b, a = ⟨b, 0, none⟩ := ⟨a.block, by cases a; simp at b1 b2; simp [b1, b2]⟩
      have hkc : ¬ cp = k := by omega
      have hsh := hbi.shift (m := k) (by omega)
      rw [Nat.zero_add] at hsh
      have hsh2 := Lib.hid (hsh.below (Nat.le_refl _) hbw)
      have hbw' := Lib.hid hbw
      have e' := Lib.hid e
      clear hbi hB b1 b2 hbad hsh e hbw ha0 hn0 hn1 ha1 h11
      go_enter Try.func61, Try.ntmps61
      go_wp2_with (refine wpList_copy_tab rfl (.tmp 31) (.tmp 37) 38 38 5 .u8 1 rfl bytesElem w.heap.size 0 m m m zf (some ⟨b, k, none⟩) (l.length - k) (cp - k) _ rfl rfl (rowOf_alloc_at _ _ _ _ rfl) (by rw [rowFit_alloc_at _ _ _ _ rfl, tab_size]) hsh2.out (by omega) ?_; intro w3 hr3 hq3 ho3; have hR3 := Lib.hid hr3; have hO3 := Lib.hid ho3; clear hr3 hq3 ho3)
      go_ret
      refine ⟨⟨_, m, rfl, fun j hj => ⟨_, rfl, ?_, ?_⟩, Nat.le_refl _⟩, ?_⟩
      · show w.heap.size < _; have := hO3.out.size; simp at this; omega
      · rw [Addr.add_lit, cell_of_rowOf, hR3.out, Nat.zero_add, tab_get, if_pos hj]
        unfold ovl readF
        by_cases hjm : j < l.length - k
        · rw [if_pos (by omega), Nat.sub_zero, Int.toNat_natCast]
        · rw [if_neg (by omega), Int.toNat_natCast]; simp [zf, List.getD, show ¬ k + j < l.length by omega]
      · exact hbw'.out.trans (hO3.out.below (by simp) (fun x hx => by omega))
    · have hki : ¬ (k : Int) < (l.length : Int) := by omega
      have hbw' := Lib.hid hbw
      have e' := Lib.hid e
      clear hbi hB hbad e hbw ha0 hn0 hn1 ha1 h11
      go_enter Try.func61, Try.ntmps61
      go_wp2_with fail
      go_ret
      refine ⟨⟨_, m, rfl, fun j hj => ⟨_, rfl, by simp, ?_⟩, Nat.le_refl _⟩, hbw'.out⟩
      rw [Addr.add_lit, cell_of_rowOf, rowOf_alloc_at _ _ _ _ rfl, Nat.zero_add, tab_get, if_pos hj]
      simp [zf, readF, List.getD, show ¬ k + j < l.length by omega]

set_option maxHeartbeats 1000000 in
theorem memCopy_any (w : World) (lo g : Nat) (v : Value) (l : List Int) (h : MemIs w lo g v l) (hl : l.length ≤ 4194304) (to' at' n : Int) (hto : I64 to') (hat : I64 at') (hn : I64 n) :
    Calls Try.prog 57 #[.pointer (some ⟨g, 0, none⟩), .int .i64 to', .int .i64 at', .int .i64 n] w fun e w' => e = .returned (.tuple #[]) ∧ MemIs w' lo g v (wrL l to' (readN at' n) (readF l at')) ∧ MTouch w w' g v v := by
  have hM := Lib.hid h
  have hR := Lib.hid (memRead_any w lo g v l h hl at' n hat hn)
  have hW := Lib.hid fun (w1 : World) (hb : Below w.heap.size w w1) (A : Option Addr) (c : Nat) (hx : Ints w1 .u8 A (readN at' n) (readF l at')) => memWrite_any w1 lo g v l (h.below hb) hl to' hto A _ c _ hx
  clear h hto hat hn
  go_enter Try.func57, Try.ntmps57
  go_wp2_with (first
    | (go_at_call 61; refine hR.out.mono ?_; rintro e w1 ⟨⟨A1, c1, rfl, hi1, _⟩, hb1⟩; have hI1 := Lib.hid hi1; clear hi1)
    | (go_at_call 55; refine (hW.out _ hb1 _ _ hI1.out).mono ?_; rintro e w2 ⟨rfl, hm2, ht2⟩; have hM2 := Lib.hid hm2; have hT2 := Lib.hid ht2; clear hm2 ht2))
  go_end0
  exact ⟨rfl, hM2.out, (Only.of_below' _ hb1).trans (hT2.out.weaken (U := fun b => b = g ∨ v.ownBlock = some b) fun x _ hx => .inr hx) (fun x _ hx => hx), .inl rfl⟩

theorem readF_bd {l : List Int} (hl : ∀ j, 0 ≤ l.getD j 0 ∧ l.getD j 0 < 256) (at' : Int) (j : Nat) : 0 ≤ readF l at' j ∧ readF l at' j < 256 := hl _
end Go.Proofs.Ytfjigoimjaemmaa
