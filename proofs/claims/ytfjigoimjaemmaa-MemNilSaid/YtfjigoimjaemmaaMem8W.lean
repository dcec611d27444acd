/- the reference's memory: the walks. -/
import Derived.Test.YtfjigoimjaemmaaMem7W
namespace Go.Proofs.Ytfjigoimjaemmaa
open Go.RowKit
set_option linter.unusedSimpArgs false
set_option linter.unusedVariables false
set_option maxRecDepth 100000

/-- what is handed back: a slice of n numbers in memory of the call's own -/
def FreshOut (H : Nat) (n : Nat) (x : Nat → Int) (e : Ending) (w' : World) : Prop := ∃ A c, e = .returned (.slice A n c) ∧ Ints w' .u8 A n x ∧ n ≤ c ∧ ∀ a, A = some a → H ≤ a.block
theorem lit_ints' (w : World) (u : Int) (t : TypeId) : Ints (w.alloc (.cells #[.int .u8 u] t)) .u8 (some ⟨w.heap.size, 0, none⟩) 1 (fun _ => u) := fun j hj => ⟨_, rfl, by rw [World.size_alloc]; simp, by
  obtain rfl : j = 0 := by omega
  rw [Addr.add_lit, cell_of_rowOf, Nat.zero_add, rowOf_alloc_at _ _ _ _ rfl]; rfl⟩
theorem Ints.congr {w : World} {k : IntKind} {A : Option Addr} {n : Nat} {x y : Nat → Int} (h : Ints w k A n x) (hxy : ∀ j, j < n → x j = y j) : Ints w k A n y := fun j hj => by
  obtain ⟨a, h1, h2, h3⟩ := h j hj
  exact ⟨a, h1, h2, by rw [h3, hxy j hj]⟩
theorem FreshOut.of_row {w' : World} {H g n : Nat} {f x : Nat → Int} (hr : rowOf w' g = tab n .u8 f) (hg : H ≤ g) (hs : g < w'.heap.size) (hf : ∀ j, j < n → f j = x j) : FreshOut H n x (.returned (.slice (some ⟨g, 0, none⟩) n n)) w' :=
  ⟨_, n, rfl, fun j hj => ⟨_, rfl, hs, by rw [Addr.add_lit, cell_of_rowOf, hr, Nat.zero_add, tab_get, if_pos hj, hf j hj]⟩, Nat.le_refl _, fun a ha => by obtain rfl := Option.some.inj ha; exact hg⟩

set_option maxHeartbeats 1000000 in
theorem refGrow_any (A : Option Addr) (n c : Nat) (x : Nat → Int) (w : World) (hx : Ints w .u8 A n x) (hn : n ≤ 4194304) (t : Nat) (ht : t ≤ 4194304) :
    Calls Try.prog 54 #[.slice A n c, .int .i64 t] w fun e w' => FreshOut w.heap.size (max t n) (fun j => if j < n then x j else 0) e w' ∧ Below w.heap.size w w' := by
  obtain ⟨m, hm⟩ : ∃ m, max t n = m := ⟨_, rfl⟩
  rw [hm]
  have hmk := run_make_tab (P := Try.prog) bytesElem w .i64 m (by unfold maxLen; omega) (by omega)
  have hbw : Below w.heap.size w (w.alloc (.cells (tab m .u8 zf) 5)) := (Below.refl _ _).alloc (Nat.le_refl _) _
  have hX := Lib.hid (hx.below (Nat.le_refl _) hbw)
  have hmx : max (t : Int) (n : Int) = (m : Int) := by omega
  have hnm : Hid (n ≤ m) := Lib.hid (by omega)
  clear hx hm hbw
  go_enter Try.func54, Try.ntmps54
  go_wp2_with (refine wpList_copy_tab rfl (.tmp 11) (.tmp 12) 38 38 5 .u8 1 rfl bytesElem w.heap.size 0 m m m zf A n c x rfl rfl (rowOf_alloc_at _ _ _ _ rfl) (by rw [rowFit_alloc_at _ _ _ _ rfl, tab_size]) hX.out (by omega) ?_; intro w3 hr3 hq3 ho3; have hR3 := Lib.hid hr3; have hO3 := Lib.hid ho3; clear hr3 hq3 ho3)
  go_ret
  refine ⟨FreshOut.of_row hR3.out (Nat.le_refl _) (by have := hO3.out.size; simp at this; omega) (fun j hj => ?_), ?_⟩
  · have := hnm.out
    unfold ovl
    by_cases h : j < n
    · rw [if_pos (by omega), if_pos h, Nat.sub_zero]
    · rw [if_neg (by omega), if_neg h]; rfl
  · exact ((Below.refl _ _).alloc (Nat.le_refl _) _).trans (hO3.out.below (by simp) (fun x hx => by omega))

set_option maxHeartbeats 2000000 in
theorem refWrite_any (A : Option Addr) (n c : Nat) (x : Nat → Int) (w : World) (hx : Ints w .u8 A n x) (hn : n ≤ 4194304) (at' : Int) (hat : I64 at') (B : Option Addr) (m d : Nat) (y : Nat → Int) (hy : Ints w .u8 B m y) (hm : m ≤ maxLen) :
    Calls Try.prog 56 #[.slice A n c, .int .i64 at', .slice B m d] w fun e w' => FreshOut w.heap.size n (fun j => if 0 ≤ at' ∧ at' ≤ j ∧ (j : Int) < at' + m then y (j - at'.toNat) else x j) e w' ∧ Below w.heap.size w w' := by
  have hmk := run_make_tab (P := Try.prog) bytesElem w .i64 n (by unfold maxLen; omega) (by omega)
  have hbw : Below w.heap.size w (w.alloc (.cells (tab n .u8 zf) 5)) := (Below.refl _ _).alloc (Nat.le_refl _) _
  have hX := Lib.hid (hx.below (Nat.le_refl _) hbw)
  have hY := Lib.hid hy
  obtain ⟨a0, a1⟩ := hat
  unfold maxLen at hm
  obtain ⟨F, hF⟩ : ∃ F : Nat → Nat → Int, ∀ k j, F k j = if 0 ≤ at' ∧ at' ≤ j ∧ (j : Int) < at' + k then y (j - at'.toNat) else x j := ⟨fun k j => if 0 ≤ at' ∧ at' ≤ j ∧ (j : Int) < at' + k then y (j - at'.toNat) else x j, fun _ _ => rfl⟩
  have hF' := Lib.hid hF
  clear hx hy hbw hF
  go_enter Try.func56, Try.ntmps56
  go_wp2_with (refine wpList_copy_tab rfl (.tmp 12) (.tmp 13) 38 38 5 .u8 1 rfl bytesElem w.heap.size 0 n n n zf A n c x rfl rfl (rowOf_alloc_at _ _ _ _ rfl) (by rw [rowFit_alloc_at _ _ _ _ rfl, tab_size]) hX.out (by omega) ?_; intro w3 hr3 hq3 ho3; have hR3 := Lib.hid hr3; have hQ3 := Lib.hid hq3; have hO3 := Lib.hid ho3; clear hr3 hq3 ho3)
  have hB3 : Below w.heap.size w w3 := ((Below.refl _ _).alloc (Nat.le_refl _) _).trans (hO3.out.below (by simp) (fun x hx => by omega))
  have hs3 : w.heap.size < w3.heap.size := by have := hO3.out.size; simp at this; omega
  have hB3' := Lib.hid hB3
  clear hB3 hmk
  go_loopw [8] (fun i wr => ∃ k : Nat, k ≤ m ∧ i = .int .i64 k ∧ rowOf wr w.heap.size = tab n .u8 (F k) ∧ rowFit wr w.heap.size = some n ∧ w.heap.size < wr.heap.size ∧ Below w.heap.size w wr) (fun i _ => m - (intOf i).toNat)
  case atStart =>
    refine ⟨0, by omega, rfl, ?_, hQ3.out, hs3, hB3'.out⟩
    rw [hR3.out]
    exact tab_ext fun j hj => by
      rw [hF'.out, if_neg (by omega)]; unfold ovl; rw [if_pos (by omega), Nat.sub_zero]
  case round =>
    obtain ⟨k, hk, rfl, r0, q0, sz, hb⟩ := hrel
    have hb' := Lib.hid hb
    clear hb
    by_cases h0 : at' < 0
    · have h00 : ¬ 0 ≤ at' := by omega
      by_cases hlt : k < m
      all_goals
        go_wp2_with fail
        go_ret
        exact ⟨FreshOut.of_row r0 (Nat.le_refl _) sz (fun j hj => by rw [hF'.out, if_neg (by omega), if_neg (by omega)]), hb'.out⟩
    · obtain ⟨p, rfl⟩ : ∃ p : Nat, at' = p := ⟨at'.toNat, by omega⟩
      clear a0 h0
      by_cases hlt : k < m
      · obtain ⟨b, rfl, hbs, hc⟩ := (hY.out.below (Nat.le_refl _) hb'.out) k hlt
        by_cases hin : p + k < n
        · have hin1 : (p : Int) < (n : Int) - (k : Int) := by omega
          have hin2 : (p : Int) + (k : Int) < (n : Int) := by omega
          have hin3 : ((p : Int) + (k : Int)).toNat = p + k := by omega
          go_wp2_with fail
          refine ⟨⟨k + 1, by omega, by go_num, ?_, ?_, ?_, ?_⟩, by simp [intOf]; omega⟩
          · rw [rowOf_setCell_same, r0, tab_set]
            exact tab_ext fun j hj => by
              rw [hF'.out, upd]
              by_cases he : j = p + k
              · rw [if_pos he, if_pos (by omega), show j - (p : Int).toNat = k by omega]
              · rw [if_neg he, hF'.out]
                by_cases h1 : (p : Int) ≤ j ∧ (j : Int) < p + k
                · rw [if_pos (by omega), if_pos (by omega)]
                · rw [if_neg (by omega), if_neg (by omega)]
          · rw [rowFit_setCell, q0]
          · rw [World.size_setCell]; exact sz
          · exact hb'.out.setCell (by simp) _
        · have hin1 : ¬ (p : Int) < (n : Int) - (k : Int) := by omega
          go_wp2_with fail
          refine ⟨⟨k + 1, by omega, by go_num, ?_, q0, sz, hb'.out⟩, by simp [intOf]; omega⟩
          rw [r0]
          exact tab_ext fun j hj => by
            rw [hF'.out, hF'.out]
            by_cases h1 : (p : Int) ≤ j ∧ (j : Int) < p + k
            · rw [if_pos (by omega), if_pos (by omega)]
            · rw [if_neg (by omega), if_neg (by omega)]
      · obtain rfl : k = m := by omega
        go_wp2_with fail
        go_ret
        exact ⟨FreshOut.of_row r0 (Nat.le_refl _) sz (fun j hj => by rw [hF'.out]), hb'.out⟩

set_option maxHeartbeats 2000000 in
theorem refRead_any (A : Option Addr) (n c : Nat) (x : Nat → Int) (w : World) (hx : Ints w .u8 A n x) (hn : n ≤ 4194304) (at' k : Int) (hat : I64 at') (hk : I64 k) :
    Calls Try.prog 58 #[.slice A n c, .int .i64 at', .int .i64 k] w fun e w' => FreshOut w.heap.size (readN at' k) (fun j => if at'.toNat + j < n then x (at'.toNat + j) else 0) e w' ∧ Below w.heap.size w w' := by
  have hI0 : OwnI (w.alloc (.cells #[] 5)) w.heap.size 5 .u8 (.slice (some ⟨w.heap.size, 0, none⟩) 0 0) [] := OwnI.lit w w.heap.size 5 .u8 #[] [] rfl (Nat.le_refl _) (by simp)
  have hb0 : Below w.heap.size w (w.alloc (.cells #[] 5)) := (Below.refl _ _).alloc (Nat.le_refl _) _
  have hX := Lib.hid hx
  obtain ⟨a0, a1⟩ := hat
  obtain ⟨k0, k1⟩ := hk
  obtain ⟨F, hF⟩ : ∃ F : Nat → Int, ∀ j, F j = if at'.toNat + j < n then x (at'.toNat + j) else 0 := ⟨fun j => if at'.toNat + j < n then x (at'.toNat + j) else 0, fun _ => rfl⟩
  have hF' := Lib.hid hF
  have hI0' := Lib.hid hI0
  have hb0' := Lib.hid hb0
  clear hx hF hI0 hb0
  by_cases h0 : at' < 0
  · have e : readN at' k = 0 := by unfold readN; rw [if_pos (by omega)]
    rw [e]
    go_enter Try.func58, Try.ntmps58
    go_wp2_with fail
    go_ret
    exact ⟨⟨_, 0, rfl, fun j hj => absurd hj (by omega), Nat.le_refl _, fun a ha => by obtain rfl := Option.some.inj ha; exact Nat.le_refl _⟩, hb0'.out⟩
  · obtain ⟨p, rfl⟩ : ∃ p : Nat, at' = p := ⟨at'.toNat, by omega⟩
    have h00 : ¬ (p : Int) < 0 := by omega
    clear a0
    obtain ⟨R, hR⟩ : ∃ R, readN p k = R := ⟨_, rfl⟩
    rw [hR]
    have hRk : R ≤ 4194304 ∧ (k = R ∨ R = 0 ∧ (k < 0 ∨ 4194304 < k)) := by
      unfold readN at hR
      split at hR <;> omega
    have hs0 : w.heap.size < (w.alloc (.cells #[] 5)).heap.size := by simp
    clear hR k0 k1
    go_enter Try.func58, Try.ntmps58
    go_wp2_with fail
    go_loopw [7, 8] (fun v i wr => ∃ q : Nat, q ≤ R ∧ i = .int .i64 q ∧ OwnI wr w.heap.size 5 .u8 v (tl q F) ∧ w.heap.size ≤ wr.heap.size ∧ Below w.heap.size w wr) (fun _ i _ => R - (intOf i).toNat)
    case atStart => exact ⟨0, by omega, rfl, hI0'.out, by omega, hb0'.out⟩
    case round =>
      obtain ⟨q, hq, rfl, hO, hsz, hb⟩ := hrel
      have hO' := Lib.hid hO
      have hb' := Lib.hid hb
      clear hO hb
      by_cases hgo : q < R
      · obtain rfl : k = (R : Int) := by omega
        have hgo' : (q : Int) < (R : Int) := by omega
        have hR4 : (R : Int) ≤ 4194304 := by omega
        have fin : ∀ (w1 w2 : World) (v v2 : Value) (X : Int), w1 = wr.alloc (.cells #[.int .u8 X] 5) → X = F q → OwnI wr w.heap.size 5 .u8 v (tl q F) → OwnI w2 w.heap.size 5 .u8 v2 (tl q F ++ tl 1 (fun _ => X)) → Appended w1 w2 v v2 →
            OwnI w2 w.heap.size 5 .u8 v2 (tl (q + 1) F) ∧ w.heap.size ≤ w2.heap.size ∧ Below w.heap.size w w2 := fun w1 w2 v v2 X e eX hv ho ha => by
          subst e
          have hs := ha.1.size
          simp only [World.size_alloc] at hs
          refine ⟨?_, by omega, hb'.out.trans (((Below.refl _ _).alloc hsz _).trans (ha.1.below (by rw [World.size_alloc]; omega) (fun b hbb => (ownsRow_lt hv hbb).1)))⟩
          have e1 : tl q F ++ tl 1 (fun _ => X) = tl (q + 1) F := by rw [eX]; simp [tl, List.range_succ]
          rw [e1] at ho; exact ho
        have fin' := Lib.hid fin
        have hOa := fun X : Int => Lib.hid (hO'.out.only (Only.alloc (fun _ => False) wr (.cells #[.int .u8 X] 5)) (fun _ _ h => h))
        clear fin hRk
        by_cases hin : p + q < n
        · have hin1 : (p : Int) < (n : Int) - (q : Int) := by omega
          have hin2 : (p : Int) + (q : Int) < (n : Int) := by omega
          have hin3 : ((p : Int) + (q : Int)).toNat = p + q := by omega
          obtain ⟨b, rfl, hbs, hc⟩ := (hX.out.below (Nat.le_refl _) hb'.out) (p + q) hin
          have hFq : Hid (x (p + q) = F q) := Lib.hid (by rw [hF'.out, Int.toNat_natCast, if_pos hin])
          go_wp2_with (at_builtin; refine wpList_app bytesElem rfl (.tmp 28) (.tmp 35) rfl _ (tl q F) rfl (hOa (x (p + q))).out (some ⟨wr.heap.size, 0, none⟩) 1 1 (fun _ => x (p + q)) rfl (lit_ints' _ _ _) (by simp only [tl_length, maxLen]; omega) (by simp only [tl_length]; omega) (by rw [World.size_alloc]; omega) ?_; intro v2 w2 ho2 ha2; have hN := Lib.hid (fin'.out _ _ _ _ _ rfl hFq.out hO'.out ho2 ha2); clear ho2 ha2)
          refine ⟨⟨q + 1, by omega, by go_num, hN.out⟩, by simp [intOf]; omega⟩
        · have hin1 : ¬ (p : Int) < (n : Int) - (q : Int) := by omega
          have hFq : Hid (0 = F q) := Lib.hid (by rw [hF'.out, Int.toNat_natCast, if_neg hin])
          go_wp2_with (at_builtin; refine wpList_app bytesElem rfl (.tmp 37) (.tmp 38) rfl _ (tl q F) rfl (hOa 0).out (some ⟨wr.heap.size, 0, none⟩) 1 1 (fun _ => 0) rfl (lit_ints' _ _ _) (by simp only [tl_length, maxLen]; omega) (by simp only [tl_length]; omega) (by rw [World.size_alloc]; omega) ?_; intro v2 w2 ho2 ha2; have hN := Lib.hid (fin'.out _ _ _ _ _ rfl hFq.out hO'.out ho2 ha2); clear ho2 ha2)
          refine ⟨⟨q + 1, by omega, by go_num, hN.out⟩, by simp [intOf]; omega⟩
      · obtain rfl : q = R := by omega
        have fin : ∀ v, OwnI wr w.heap.size 5 .u8 v (tl q F) → FreshOut w.heap.size q (fun j => if (p : Int).toNat + j < n then x ((p : Int).toNat + j) else 0) (.returned v) wr := fun v hv => by
          obtain ⟨A1, c1, rfl, hc1, hi1, hA1⟩ := hv.ints
          rw [tl_length] at *
          exact ⟨A1, c1, rfl, hi1.congr (fun j hj => by rw [← hF'.out]; simp [List.getD, tl_get q F j hj]), hc1, fun a ha => (hA1 a ha).1⟩
        have fin' := Lib.hid (fin _ hO'.out)
        clear fin
        by_cases h4 : 4194304 < k
        · have h44 : ¬ k ≤ 4194304 := by omega
          by_cases hqk : (q : Int) < k
          all_goals
            go_wp2_with fail
            go_ret
            exact ⟨fin'.out, hb'.out⟩
        · have hqk : ¬ (q : Int) < k := by omega
          go_wp2_with fail
          go_ret
          exact ⟨fin'.out, hb'.out⟩

set_option maxHeartbeats 1000000 in
theorem refMWord_any (A : Option Addr) (n c : Nat) (x : Nat → Int) (w : World) (hx : Ints w .u8 A n x) (hn : n ≤ 4194304) (hxb : ∀ j, j < n → 0 ≤ x j ∧ x j < 256) (at' : Int) (hat : I64 at') :
    Calls Try.prog 63 #[.slice A n c, .int .i64 at'] w fun e w' => e = .returned (wv (wdF (dgF (fun j => if at'.toNat + j < n then x (at'.toNat + j) else 0) (readN at' 32)))) ∧ Below w.heap.size w w' := by
  obtain ⟨F, hF⟩ : ∃ F : Nat → Int, (fun j => if at'.toNat + j < n then x (at'.toNat + j) else 0) = F := ⟨_, rfl⟩
  have hFb : ∀ j, 0 ≤ F j ∧ F j < 256 := fun j => by
    rw [← hF]; show 0 ≤ (if at'.toNat + j < n then x (at'.toNat + j) else 0) ∧ (if at'.toNat + j < n then x (at'.toNat + j) else 0) < 256
    split
    · exact hxb _ (by assumption)
    · omega
  have hdb : ∀ i, i < 32 → 0 ≤ dgF F (readN at' 32) i ∧ dgF F (readN at' 32) i < 256 := fun i hi => by
    unfold dgF; split
    · exact hFb _
    · omega
  have hR := fun (w1 : World) (hb : Below w.heap.size w w1) => refRead_any A n c x w1 (hx.below (Nat.le_refl _) hb) hn at' 32 hat ⟨by omega, by omega⟩
  rw [hF] at hR
  have hR' := Lib.hid hR
  have hF1 := Lib.hid fun (w1 : World) (B : Option Addr) (d : Nat) (hy : Ints w1 .u8 B (readN at' 32) F) => refFrom_any B _ d F w1 hy (by have := readN_le at'; omega) (fun j _ => hFb j)
  have hW := Lib.hid fun (w1 : World) => refWord_any (dgF F (readN at' 32)) hdb w1
  rw [hF]
  have hF' := Lib.hid hF
  clear hR hx hxb hat hFb hdb hF
  go_enter Try.func63, Try.ntmps63
  go_wp2_with (first
    | (go_at_call 58; refine (hR'.out _ (by (repeat' (first | exact Below.refl _ _ | assumption | refine Below.alloc ?_ (by (try simp only [World.size_alloc, World.size_setCell, World.size_drew, setRow_size] at *); first | done | omega) _ | refine Below.setCell ?_ (by (try simp only [World.size_alloc, World.size_setCell, World.size_drew, setRow_size] at *); first | done | omega) _ | refine Below.drew ?_ | refine Below.trans ?_ (Below.mono (by assumption) (by (try simp only [World.size_alloc, World.size_setCell, World.size_drew, setRow_size] at *); first | done | omega)) | refine below_setRow' ?_ (by (try simp only [World.size_alloc, World.size_setCell, World.size_drew, setRow_size] at *); first | done | omega) _)))).mono ?_; rintro e w1 ⟨⟨A1, c1, rfl, hi1, _⟩, hb1⟩; have hI1 := Lib.hid hi1; have hs1 := hb1.size; simp only [World.size_alloc] at hs1 hb1; clear hi1)
    | (go_at_call 91; refine (hF1.out _ _ _ hI1.out).mono ?_; rintro e w2 ⟨rfl, hb2⟩; have hs2 := hb2.size)
    | (go_at_call 66; refine (hW.out _).mono ?_; rintro e w3 ⟨rfl, hb3⟩; have hs3 := hb3.size; have hq3 : rowFit w3 w.heap.size = some 4 := (rowFit_below hb3 (by omega)).trans ((rowFit_below hb2 (by omega)).trans ((rowFit_below hb1 (by omega)).trans (by rw [rowFit_alloc_at _ _ _ _ rfl, tab_size]))))
    )
  refine bodyPost_ret (res_word Try.results63 _ _ _ (tab 4 .u64 (wdF (dgF F (readN at' 32)))) rfl (by rw [rowOf_setRow_same _ _ _ (by rw [hq3]; rfl)]) (by rw [tab_size])) rfl ⟨rfl, ?_⟩
  exact below_setRow' (((((Below.refl _ _).alloc (Nat.le_refl _) _).trans (hb1.mono (by omega))).trans (hb2.mono (by omega))).trans (hb3.mono (by omega))) (Nat.le_refl _) _

set_option maxHeartbeats 1000000 in
theorem refMSetWord_any (A : Option Addr) (n c : Nat) (x : Nat → Int) (w : World) (hx : Ints w .u8 A n x) (hn : n ≤ 4194304) (at' : Int) (hat : I64 at') (a : Nat → Int) (ha : W64 a) :
    Calls Try.prog 60 #[.slice A n c, .int .i64 at', wv a] w fun e w' => FreshOut w.heap.size n (fun j => if 0 ≤ at' ∧ at' ≤ j ∧ (j : Int) < at' + 32 then bytF a (j - at'.toNat) else x j) e w' ∧ Below w.heap.size w w' := by
  have hO := Lib.hid fun (w1 : World) => refOf_any a ha w1
  have hB := refBytes_any (digF a) (fun i _ => digF_bd a i)
  rw [show (fun p => digF a (31 - p)) = bytF a from rfl] at hB
  have hB' := Lib.hid hB
  have hW := Lib.hid fun (w1 : World) (hb : Below w.heap.size w w1) (B : Option Addr) (d : Nat) (hy : Ints w1 .u8 B 32 (bytF a)) => refWrite_any A n c x w1 (hx.below (Nat.le_refl _) hb) hn at' hat B 32 d (bytF a) hy (by unfold maxLen; omega)
  clear hx hat ha hB
  go_enter Try.func60, Try.ntmps60
  go_wp2_with (first
    | (go_at_call 86; refine (hO.out _).mono ?_; rintro e w1 ⟨rfl, hb1⟩; have hs1 := hb1.size; simp only [World.size_alloc] at hs1 hb1)
    | (go_at_call 89; refine (hB'.out _).mono ?_; rintro e w2 ⟨rfl, hb2⟩; have hs2 := hb2.size; have hb4 := Lib.hid (show Below w.heap.size w (w2.alloc (.cells (tab 32 .u8 (bytF a)) 127)) from ((((Below.refl _ _).alloc (Nat.le_refl _) _).trans (hb1.mono (by omega))).trans (hb2.mono (by omega))).alloc (by omega) _))
    | (go_at_call 56; refine (hW.out _ hb4.out _ _ (fun j hj => ⟨⟨w2.heap.size, 0, none⟩, rfl, by simp, by rw [Addr.add_lit, cell_of_rowOf, Nat.zero_add, rowOf_alloc_at _ _ _ _ rfl, tab_get, if_pos hj]⟩)).mono ?_; rintro e w3 ⟨⟨A3, c3, rfl, hi3, hc3, ha3⟩, hb3⟩; have hI3 := Lib.hid hi3; have hA3 := Lib.hid ha3; clear hi3 ha3))
  go_ret
  refine ⟨⟨A3, c3, rfl, hI3.out, hc3, fun a ha => Nat.le_trans ?_ (hA3.out a ha)⟩, hb4.out.trans (hb3.mono hb4.out.size)⟩
  exact hb4.out.size
end Go.Proofs.Ytfjigoimjaemmaa
