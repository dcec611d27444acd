/- a frame's stack: the walks of Pop, Dup, Swap. -/
import Derived.Test.YtfjigoimjaemmaaStkW
import Derived.Test.YtfjigoimjaemmaaOpW
import Derived.Deep.RegionWith
namespace Go.Proofs.Ytfjigoimjaemmaa
open Go.RowKit
set_option linter.unusedSimpArgs false
set_option linter.unusedVariables false
set_option maxRecDepth 100000

theorem MTouch.after {w w1 w2 : World} {g : Nat} {v v' : Value} (hb : Below w.heap.size w w1) (h : MTouch w1 w2 g v v') : MTouch w w2 g v v' :=
  ⟨(Only.of_below' _ hb).trans h.1 (fun x _ hx => hx), h.2.imp id fun ⟨b, h1, h2⟩ => ⟨b, h1, Nat.le_trans hb.size h2⟩⟩
theorem MTouch.below' {w w1 w2 : World} {g : Nat} {v v' : Value} (h : MTouch w w1 g v v') (hb : Below w1.heap.size w1 w2) : MTouch w w2 g v v' :=
  ⟨h.1.trans (Only.of_below' _ hb) (fun x _ hx => hx), h.2⟩

set_option maxHeartbeats 1000000 in
theorem stkPop_nil (w : World) (lo g : Nat) (v : Value) (h : StkIs w lo g v []) :
    Calls Try.prog 51 #[.pointer (some ⟨g, 0, none⟩)] w fun e w' => e = .returned (.tuple #[wv (fn4 0 0 0 0), .bool false]) ∧ Below w.heap.size w w' := by
  have hb : Below w.heap.size w (w.alloc (.cells (tab 4 .u64 (fn4 0 0 0 0)) 24)) := (Below.refl _ _).alloc (Nat.le_refl _) _
  have hL := Lib.hid fun (w1 : World) (hb : Below w.heap.size w w1) => stkLen_any w1 lo g v [] (h.below hb)
  clear h
  go_enter Try.func51, Try.ntmps51
  go_wp2_with (go_at_call 53; refine (hL.out _ (by (repeat' (first | exact Below.refl _ _ | assumption | refine Below.alloc ?_ (by (try simp only [World.size_alloc, World.size_setCell, World.size_drew, setRow_size] at *); first | done | omega) _ | refine Below.setCell ?_ (by (try simp only [World.size_alloc, World.size_setCell, World.size_drew, setRow_size] at *); first | done | omega) _ | refine Below.drew ?_ | refine Below.trans ?_ (Below.mono (by assumption) (by (try simp only [World.size_alloc, World.size_setCell, World.size_drew, setRow_size] at *); first | done | omega)) | refine below_setRow' ?_ (by (try simp only [World.size_alloc, World.size_setCell, World.size_drew, setRow_size] at *); first | done | omega) _)))).mono ?_; rintro e w1 ⟨rfl, rfl⟩)
  exact bodyPost_ret (results_cell_tmp Try.results51 _ _ _ (tab 4 .u64 (fn4 0 0 0 0)) (.bool false) 4 Try.isAgg24 Try.sizeOf24 rfl rfl (by simp [go_sem]) (by simp [go_sem])) rfl ⟨rfl, by (repeat' (first | exact Below.refl _ _ | assumption | refine Below.alloc ?_ (by (try simp only [World.size_alloc, World.size_setCell, World.size_drew, setRow_size] at *); first | done | omega) _ | refine Below.setCell ?_ (by (try simp only [World.size_alloc, World.size_setCell, World.size_drew, setRow_size] at *); first | done | omega) _ | refine Below.drew ?_ | refine Below.trans ?_ (Below.mono (by assumption) (by (try simp only [World.size_alloc, World.size_setCell, World.size_drew, setRow_size] at *); first | done | omega)) | refine below_setRow' ?_ (by (try simp only [World.size_alloc, World.size_setCell, World.size_drew, setRow_size] at *); first | done | omega) _))⟩

set_option maxHeartbeats 1000000 in
theorem stkPop_some (w : World) (lo g : Nat) (v : Value) (l : List (Nat → Int)) (a : Nat → Int) (h : StkIs w lo g v (l ++ [a])) :
    Calls Try.prog 51 #[.pointer (some ⟨g, 0, none⟩)] w fun e w' => e = .returned (.tuple #[wv a, .bool true]) ∧ ∃ v', StkIs w' lo g v' l ∧ MTouch w w' g v v' := by
  have hS := Lib.hid h
  obtain ⟨A, c, rfl, h1, h2, h3, h4⟩ := h.form
  obtain ⟨b, rfl, hbl, hbf, hbg⟩ := h3 (by simp)
  obtain ⟨hr, hf, ho, hg, hgs, hne⟩ := h
  obtain ⟨n, hn⟩ : ∃ n, l.length = n := ⟨_, rfl⟩
  have hn1 : (l ++ [a]).length = n + 1 := by simp [hn]
  rw [hn1] at hr h1 h4
  have hL := Lib.hid fun (w1 : World) (hb : Below w.heap.size w w1) => stkLen_any w1 lo g _ (l ++ [a]) (hS.out.below hb)
  rw [hn1] at hL
  have hPop : OwnR w lo 24 4 (.slice (some ⟨b, 0, none⟩) n c) (l.map wc) := by
    have q := ho
    rw [List.map_append, List.map_singleton, hn1] at q
    have q2 := OwnR.pop (l := l.map wc) (r := wc a) (by rw [List.length_map, hn]; exact q)
    rw [List.length_map, hn] at q2; exact q2
  have hP := Lib.hid hPop
  have hld : ∀ (w1 : World), Below w.heap.size w w1 → (ldArr 24 (.pointer (some ⟨b, n * 4, none⟩))).run Try.prog w1 = .ok (wv a) w1 := fun w1 hb => by
    obtain ⟨a1, e1, _, q⟩ := (h4.below (Nat.le_refl _) hb).load (j := n) (by omega)
    obtain rfl := Option.some.inj e1
    rw [Addr.add_lit, Nat.zero_add] at q
    rw [q]
    congr 2
    simp [List.getD, ← hn]
  have hl1 := hld (w.alloc (.cells (tab 4 .u64 (fn4 0 0 0 0)) 24)) (by (repeat' (first | exact Below.refl _ _ | assumption | refine Below.alloc ?_ (by (try simp only [World.size_alloc, World.size_setCell, World.size_drew, setRow_size] at *); first | done | omega) _ | refine Below.setCell ?_ (by (try simp only [World.size_alloc, World.size_setCell, World.size_drew, setRow_size] at *); first | done | omega) _ | refine Below.drew ?_ | refine Below.trans ?_ (Below.mono (by assumption) (by (try simp only [World.size_alloc, World.size_setCell, World.size_drew, setRow_size] at *); first | done | omega)) | refine below_setRow' ?_ (by (try simp only [World.size_alloc, World.size_setCell, World.size_drew, setRow_size] at *); first | done | omega) _)))
  clear hld h4 ho hPop hne hn1
  unfold maxLen at h2
  go_enter Try.func51, Try.ntmps51
  go_wp2_with (go_at_call 53; refine (hL.out _ (by (repeat' (first | exact Below.refl _ _ | assumption | refine Below.alloc ?_ (by (try simp only [World.size_alloc, World.size_setCell, World.size_drew, setRow_size] at *); first | done | omega) _ | refine Below.setCell ?_ (by (try simp only [World.size_alloc, World.size_setCell, World.size_drew, setRow_size] at *); first | done | omega) _ | refine Below.drew ?_ | refine Below.trans ?_ (Below.mono (by assumption) (by (try simp only [World.size_alloc, World.size_setCell, World.size_drew, setRow_size] at *); first | done | omega)) | refine below_setRow' ?_ (by (try simp only [World.size_alloc, World.size_setCell, World.size_drew, setRow_size] at *); first | done | omega) _)))).mono ?_; rintro e w1 ⟨rfl, rfl⟩)
  refine bodyPost_ret (results_cell_tmp Try.results51 _ _ _ (tab 4 .u64 a) (.bool true) 4 Try.isAgg24 Try.sizeOf24 rfl rfl (by simp [go_sem]) (by simp [go_sem])) rfl ?_
  have hb' : Below (w.setCell ⟨g, 0, none⟩ (.slice (some ⟨b, 0, none⟩) n c)).heap.size (w.setCell ⟨g, 0, none⟩ (.slice (some ⟨b, 0, none⟩) n c)) (((w.setCell ⟨g, 0, none⟩ (.slice (some ⟨b, 0, none⟩) n c)).alloc (.cells (tab 4 .u64 a) 24)).alloc (.cells (tab 4 .u64 a) 24)) :=
    ((Below.refl _ _).alloc (Nat.le_refl _) _).alloc (by simp) _
  have hst := StkIs.stored (v' := .slice (some ⟨b, 0, none⟩) n c) hr hf hP.out hg hgs (by intro e; exact hbg (by simpa [Value.ownBlock] using e))
  exact ⟨rfl, _, hst.below hb', ((Only.setCell w ⟨g, 0, none⟩ _).weaken (U := fun x => x = g ∨ (Value.slice (some ⟨b, 0, none⟩) (l ++ [a]).length c).ownBlock = some x) (fun x _ hx => .inl hx)).trans (Only.of_below' _ hb') (fun x _ hx => hx), .inl rfl⟩

set_option maxHeartbeats 1000000 in
theorem stkDup_any (w : World) (lo g : Nat) (v : Value) (l : List (Nat → Int)) (h : StkIs w lo g v l) (hl : l.length ≤ 1024) (hlo : lo ≤ w.heap.size) (k : Int) (hk : I64 k) :
    Calls Try.prog 50 #[.pointer (some ⟨g, 0, none⟩), .int .i64 k] w fun e w' => e = .returned (.bool (decide (1 ≤ k ∧ k ≤ l.length ∧ l.length < 1024))) ∧ ∃ v', StkIs w' lo g v' (if 1 ≤ k ∧ k ≤ l.length ∧ l.length < 1024 then l ++ [l.getD (l.length - k.toNat) zf] else l) ∧ MTouch w w' g v v' := by
  have hS := Lib.hid h
  obtain ⟨A, c, rfl, h1, h2, h3, h4⟩ := h.form
  obtain ⟨hr, hf, ho, hg, hgs, hne⟩ := h
  have hL := Lib.hid fun (w1 : World) (hb : Below w.heap.size w w1) => stkLen_any w1 lo g _ l (hS.out.below hb)
  obtain ⟨hk0, hk1⟩ := hk
  unfold maxLen at h2
  by_cases hin : 1 ≤ k ∧ k ≤ l.length
  · obtain ⟨i1, i2⟩ := hin
    obtain ⟨b, rfl, hbl, hbf, hbg⟩ := h3 (by intro e; subst e; simp at i2; omega)
    obtain ⟨m, hm⟩ : ∃ m : Nat, (l.length : Int) - k = m := ⟨((l.length : Int) - k).toNat, by omega⟩
    have hml : m < l.length := by omega
    have hmi : l.length - k.toNat = m := by omega
    rw [hmi]
    have hx : (m : Int) < (l.length : Int) := by omega
    have hld : ∀ (w1 : World), Below w.heap.size w w1 → (ldArr 24 (.pointer (some ⟨b, m * 4, none⟩))).run Try.prog w1 = .ok (wv (l.getD m zf)) w1 := fun w1 hb => by
      obtain ⟨a1, e1, _, q⟩ := (h4.below (Nat.le_refl _) hb).load (j := m) (by omega)
      obtain rfl := Option.some.inj e1
      rw [Addr.add_lit, Nat.zero_add] at q
      exact q
    have hPu := fun (w1 : World) (hb : Below w.heap.size w w1) => stkPush_any w1 lo g _ l (hS.out.below hb) hl (Nat.le_trans hlo hb.size) (l.getD m zf)
    have e1 : (decide (1 ≤ k ∧ k ≤ l.length ∧ l.length < 1024)) = decide (l.length < 1024) := by simp [i1, i2]
    have e2 : (if 1 ≤ k ∧ k ≤ l.length ∧ l.length < 1024 then l ++ [l.getD m zf] else l) = if l.length < 1024 then l ++ [l.getD m zf] else l := by simp [i1, i2]
    rw [e1, e2]
    obtain ⟨D, hD⟩ : ∃ D, decide (l.length < 1024) = D := ⟨_, rfl⟩
    obtain ⟨R, hR⟩ : ∃ R, (if l.length < 1024 then l ++ [l.getD m zf] else l) = R := ⟨_, rfl⟩
    obtain ⟨X, hX⟩ : ∃ X, l.getD m zf = X := ⟨_, rfl⟩
    rw [hD, hR] at hPu ⊢
    rw [hX] at hPu hld
    have hl1 := hld w.drew ((Below.refl _ _).drew)
    have hPu' := Lib.hid hPu
    clear hD hR hX hPu hld e1 e2 h4 ho hne hmi
    go_enter Try.func50, Try.ntmps50
    go_wp2_with (go_at_call 53; refine (hL.out _ (by (repeat' (first | exact Below.refl _ _ | assumption | refine Below.alloc ?_ (by (try simp only [World.size_alloc, World.size_setCell, World.size_drew, setRow_size] at *); first | done | omega) _ | refine Below.setCell ?_ (by (try simp only [World.size_alloc, World.size_setCell, World.size_drew, setRow_size] at *); first | done | omega) _ | refine Below.drew ?_ | refine Below.trans ?_ (Below.mono (by assumption) (by (try simp only [World.size_alloc, World.size_setCell, World.size_drew, setRow_size] at *); first | done | omega)) | refine below_setRow' ?_ (by (try simp only [World.size_alloc, World.size_setCell, World.size_drew, setRow_size] at *); first | done | omega) _)))).mono ?_; rintro e w1 ⟨rfl, rfl⟩)
    have hwr : IntKind.i64.wrap ((l.length : Int) - k) = m := by rw [hm]; exact i64w (by omega) (by omega)
    have hm' := Lib.hid hm
    clear hm
    go_region_with (go_at_call 49; refine (hPu'.out _ (by (repeat' (first | exact Below.refl _ _ | assumption | refine Below.alloc ?_ (by (try simp only [World.size_alloc, World.size_setCell, World.size_drew, setRow_size] at *); first | done | omega) _ | refine Below.setCell ?_ (by (try simp only [World.size_alloc, World.size_setCell, World.size_drew, setRow_size] at *); first | done | omega) _ | refine Below.drew ?_ | refine Below.trans ?_ (Below.mono (by assumption) (by (try simp only [World.size_alloc, World.size_setCell, World.size_drew, setRow_size] at *); first | done | omega)) | refine below_setRow' ?_ (by (try simp only [World.size_alloc, World.size_setCell, World.size_drew, setRow_size] at *); first | done | omega) _)))).mono ?_; rintro e w2 ⟨rfl, v2, hs2, ht2⟩; have hS2 := Lib.hid hs2; have hT2 := Lib.hid ht2; clear hs2 ht2)
    all_goals
      go_wp2
      go_ret
      exact ⟨rfl, _, hS2.out, hT2.out.after ((Below.refl _ _).drew)⟩
  · rw [if_neg (by omega), decide_eq_false (by omega)]
    by_cases h0 : k < 1
    · clear hin h3 h4 ho hne
      go_enter Try.func50, Try.ntmps50
      go_wp2_with (go_at_call 53; refine (hL.out _ (by (repeat' (first | exact Below.refl _ _ | assumption | refine Below.alloc ?_ (by (try simp only [World.size_alloc, World.size_setCell, World.size_drew, setRow_size] at *); first | done | omega) _ | refine Below.setCell ?_ (by (try simp only [World.size_alloc, World.size_setCell, World.size_drew, setRow_size] at *); first | done | omega) _ | refine Below.drew ?_ | refine Below.trans ?_ (Below.mono (by assumption) (by (try simp only [World.size_alloc, World.size_setCell, World.size_drew, setRow_size] at *); first | done | omega)) | refine below_setRow' ?_ (by (try simp only [World.size_alloc, World.size_setCell, World.size_drew, setRow_size] at *); first | done | omega) _)))).mono ?_; rintro e w1 ⟨rfl, rfl⟩)
      go_ret
      exact ⟨rfl, _, hS.out, Only.refl _ _, .inl rfl⟩
    · have hgt : (l.length : Int) < k := by omega
      clear hin h3 h4 ho hne
      go_enter Try.func50, Try.ntmps50
      go_wp2_with (go_at_call 53; refine (hL.out _ (by (repeat' (first | exact Below.refl _ _ | assumption | refine Below.alloc ?_ (by (try simp only [World.size_alloc, World.size_setCell, World.size_drew, setRow_size] at *); first | done | omega) _ | refine Below.setCell ?_ (by (try simp only [World.size_alloc, World.size_setCell, World.size_drew, setRow_size] at *); first | done | omega) _ | refine Below.drew ?_ | refine Below.trans ?_ (Below.mono (by assumption) (by (try simp only [World.size_alloc, World.size_setCell, World.size_drew, setRow_size] at *); first | done | omega)) | refine below_setRow' ?_ (by (try simp only [World.size_alloc, World.size_setCell, World.size_drew, setRow_size] at *); first | done | omega) _)))).mono ?_; rintro e w1 ⟨rfl, rfl⟩)
      go_ret
      exact ⟨rfl, _, hS.out, Only.refl _ _, .inl rfl⟩

/-- the row of a block whose two elements were changed -/
theorem swap_own {w : World} {lo b c n i j : Nat} {l : List (Nat → Int)} (ho : OwnR w lo 24 4 (.slice (some ⟨b, 0, none⟩) n c) (l.map wc)) (x y : Nat → Int) (hi : i < l.length) (hj : j < l.length) :
    OwnR ((w.setRow b (patch (rowOf w b) (i * 4) (tab 4 .u64 x))).setRow b (patch (rowOf (w.setRow b (patch (rowOf w b) (i * 4) (tab 4 .u64 x))) b) (j * 4) (tab 4 .u64 y))) lo 24 4 (.slice (some ⟨b, 0, none⟩) n c) (((l.set i x).set j y).map wc) := by
  have h1 := OwnR.set ho i (tab 4 .u64 x) (by simpa using hi) (tab_size _ _ _)
  have h2 := OwnR.set h1 j (tab 4 .u64 y) (by simpa using hj) (tab_size _ _ _)
  rw [List.map_set, List.map_set]
  exact h2

@[go_sem] theorem run_st_word_off (w : World) (b o : Nat) (cs : Array Value) (ho : (o == 0) = false) :
    (stArr 24 (.pointer (some ⟨b, o, none⟩)) (.agg cs)).run Try.prog w = match rowFit w b with
      | some N => if cs.size = 4 ∧ o + 4 ≤ N ∧ okCells cs = true then .ok () (w.setRow b (patch (rowOf w b) o cs)) else (Instr.storeAt 24 (.pointer (some ⟨b, o, none⟩)) (.agg cs)).run Try.prog w
      | none => (Instr.storeAt 24 (.pointer (some ⟨b, o, none⟩)) (.agg cs)).run Try.prog w := by
  cases hN : rowFit w b with
  | none => rfl
  | some N =>
    dsimp only
    split
    · rename_i h; exact run_stArr_at _ 4 Try.sizeOf24 w b o N cs hN h.1 h.2.1 h.2.2
    · rfl

set_option maxHeartbeats 1000000 in
theorem stkSwap_any (w : World) (lo g : Nat) (v : Value) (l : List (Nat → Int)) (h : StkIs w lo g v l) (k : Int) (hk : I64 k) :
    Calls Try.prog 52 #[.pointer (some ⟨g, 0, none⟩), .int .i64 k] w fun e w' => e = .returned (.bool (decide (1 ≤ k ∧ k < l.length))) ∧ ∃ v', StkIs w' lo g v' (if 1 ≤ k ∧ k < l.length then (l.set (l.length - 1) (l.getD (l.length - 1 - k.toNat) zf)).set (l.length - 1 - k.toNat) (l.getD (l.length - 1) zf) else l) ∧ MTouch w w' g v v' := by
  have hS := Lib.hid h
  obtain ⟨A, c, rfl, h1, h2, h3, h4⟩ := h.form
  obtain ⟨hr, hf, ho, hg, hgs, hne⟩ := h
  have hL := Lib.hid fun (w1 : World) (hb : Below w.heap.size w w1) => stkLen_any w1 lo g _ l (hS.out.below hb)
  obtain ⟨hk0, hk1⟩ := hk
  unfold maxLen at h2
  by_cases hin : 1 ≤ k ∧ k < l.length
  · rw [if_pos hin, decide_eq_true hin]
    obtain ⟨i1, i2⟩ := hin
    obtain ⟨b, rfl, hbl, hbf, hbg⟩ := h3 (by intro e; subst e; simp at i2; omega)
    obtain ⟨t, ht⟩ : ∃ t, l.length - 1 = t := ⟨_, rfl⟩
    obtain ⟨m, hm⟩ : ∃ m : Nat, (t : Int) - k = m := ⟨((t : Int) - k).toNat, by omega⟩
    have hmi : l.length - 1 - k.toNat = m := by omega
    rw [hmi, ht]
    have htl : (l.length : Int) = (t : Int) + 1 := by omega
    have hmt : m < t := by omega
    have hmt' : (m : Int) < (t : Int) := by omega
    have htt : (t : Int) < (l.length : Int) := by omega
    have hmm : (m : Int) < (l.length : Int) := by omega
    obtain ⟨X, hX⟩ : ∃ X, l.getD m zf = X := ⟨_, rfl⟩
    obtain ⟨Y, hY⟩ : ∃ Y, l.getD t zf = Y := ⟨_, rfl⟩
    rw [hX, hY]
    have hld : ∀ j, j < l.length → (ldArr 24 (.pointer (some ⟨b, j * 4, none⟩))).run Try.prog w.drew = .ok (wv (l.getD j zf)) w.drew := fun j hj => by
      obtain ⟨a1, e1, _, q⟩ := (h4.below (Nat.le_refl _) ((Below.refl _ _).drew)).load (j := j) (by omega)
      obtain rfl := Option.some.inj e1
      rw [Addr.add_lit, Nat.zero_add] at q
      exact q
    have hl1 := hld m (by omega)
    have hl2 := hld t (by omega)
    rw [hX] at hl1
    rw [hY] at hl2
    have hsz : (rowOf w b).size = c * 4 := by obtain ⟨_, _, q⟩ := rowFit_some hbf; exact q
    have o1 := swap_own (i := t) (j := m) ho X Y (by omega) (by omega)
    have o2 := swap_own (i := m) (j := t) ho Y X (by omega) (by omega)
    rw [List.set_comm _ _ (by omega)] at o2
    have s1 := run_stArr_at (P := Try.prog) 24 4 Try.sizeOf24 w.drew b (t * 4) (c * 4) (tab 4 .u64 X) hbf (tab_size _ _ _) (by omega) (okCells_tab _ _ _)
    have s3 := run_stArr_at (P := Try.prog) 24 4 Try.sizeOf24 w.drew b (m * 4) (c * 4) (tab 4 .u64 Y) hbf (tab_size _ _ _) (by omega) (okCells_tab _ _ _)
    rw [rowOf_drew, setRow_drew] at s1 s3
    obtain ⟨p1, hp1⟩ : ∃ p, patch (rowOf w b) (t * 4) (tab 4 .u64 X) = p := ⟨_, rfl⟩
    obtain ⟨p3, hp3⟩ : ∃ p, patch (rowOf w b) (m * 4) (tab 4 .u64 Y) = p := ⟨_, rfl⟩
    have z1 : p1.size = c * 4 := by rw [← hp1, patch_size _ _ _ (by rw [tab_size]; omega), hsz]
    have z3 : p3.size = c * 4 := by rw [← hp3, patch_size _ _ _ (by rw [tab_size]; omega), hsz]
    rw [hp1] at s1 o1
    rw [hp3] at s3 o2
    have s2 := run_stArr_at (P := Try.prog) 24 4 Try.sizeOf24 (w.setRow b p1).drew b (m * 4) (c * 4) (tab 4 .u64 Y) (by rw [rowFit_drew, rowFit_setRow_same _ _ _ (by rw [hbf]; rfl), z1]) (tab_size _ _ _) (by omega) (okCells_tab _ _ _)
    have s4 := run_stArr_at (P := Try.prog) 24 4 Try.sizeOf24 (w.setRow b p3).drew b (t * 4) (c * 4) (tab 4 .u64 X) (by rw [rowFit_drew, rowFit_setRow_same _ _ _ (by rw [hbf]; rfl), z3]) (tab_size _ _ _) (by omega) (okCells_tab _ _ _)
    rw [rowOf_drew, setRow_drew] at s2 s4
    obtain ⟨p2, hp2⟩ : ∃ p, patch (rowOf (w.setRow b p1) b) (m * 4) (tab 4 .u64 Y) = p := ⟨_, rfl⟩
    obtain ⟨p4, hp4⟩ : ∃ p, patch (rowOf (w.setRow b p3) b) (t * 4) (tab 4 .u64 X) = p := ⟨_, rfl⟩
    rw [hp2] at s2 o1
    rw [hp4] at s4 o2
    have fin : ∀ (p q : Array Value), OwnR ((w.setRow b p).setRow b q) lo 24 4 (.slice (some ⟨b, 0, none⟩) l.length c) (((l.set t X).set m Y).map wc) →
        StkIs ((w.setRow b p).setRow b q).drew lo g (.slice (some ⟨b, 0, none⟩) l.length c) ((l.set t X).set m Y) ∧ MTouch w ((w.setRow b p).setRow b q).drew g (.slice (some ⟨b, 0, none⟩) l.length c) (.slice (some ⟨b, 0, none⟩) l.length c) := fun p q hq => by
      refine ⟨⟨?_, ?_, hq, hg, by simpa using hgs, hne⟩, ⟨⟨rfl, rfl, rfl, by simp, fun x hx hn => ?_⟩, .inl rfl⟩⟩
      · rw [rowOf_drew, rowOf_setRow_other _ _ _ _ (fun e => hbg e.symm), rowOf_setRow_other _ _ _ _ (fun e => hbg e.symm), hr]
      · rw [rowFit_drew, rowFit_setRow_other _ _ _ _ (fun e => hbg e.symm), rowFit_setRow_other _ _ _ _ (fun e => hbg e.symm), hf]
      · have hxb : x ≠ b := fun e => hn (.inr (by simp [Value.ownBlock, e]))
        show ((w.setRow b p).setRow b q).heap[x]? = _
        rw [setRow_other _ _ _ _ hxb, setRow_other _ _ _ _ hxb]
    have F1 := Lib.hid (fin p1 p2 o1)
    have F2 := Lib.hid (fin p3 p4 o2)
    have hwr : IntKind.i64.wrap ((t : Int) - k) = m := by rw [hm]; exact i64w (by omega) (by omega)
    have hlen : (l.length : Int) - 1 = t := by omega
    have hk2 : (k : Int) ≤ (t : Int) := by omega
    clear hld ho hne h3 h4 hm hp1 hp2 hp3 hp4 z1 z3 o1 o2 hsz fin hX hY ht hmi htl
    go_enter Try.func52, Try.ntmps52
    go_wp2_with (go_at_call 53; refine (hL.out _ (by (repeat' (first | exact Below.refl _ _ | assumption | refine Below.alloc ?_ (by (try simp only [World.size_alloc, World.size_setCell, World.size_drew, setRow_size] at *); first | done | omega) _ | refine Below.setCell ?_ (by (try simp only [World.size_alloc, World.size_setCell, World.size_drew, setRow_size] at *); first | done | omega) _ | refine Below.drew ?_ | refine Below.trans ?_ (Below.mono (by assumption) (by (try simp only [World.size_alloc, World.size_setCell, World.size_drew, setRow_size] at *); first | done | omega)) | refine below_setRow' ?_ (by (try simp only [World.size_alloc, World.size_setCell, World.size_drew, setRow_size] at *); first | done | omega) _)))).mono ?_; rintro e w1 ⟨rfl, rfl⟩)
    go_region
    all_goals
      go_wp2
      go_ret
      first
      | exact ⟨rfl, _, F1.out⟩
      | exact ⟨rfl, _, F2.out⟩
  · rw [if_neg (by omega), decide_eq_false (by omega)]
    by_cases h0 : k < 1
    · clear hin h3 h4 ho hne
      go_enter Try.func52, Try.ntmps52
      go_wp2_with (go_at_call 53; refine (hL.out _ (by (repeat' (first | exact Below.refl _ _ | assumption | refine Below.alloc ?_ (by (try simp only [World.size_alloc, World.size_setCell, World.size_drew, setRow_size] at *); first | done | omega) _ | refine Below.setCell ?_ (by (try simp only [World.size_alloc, World.size_setCell, World.size_drew, setRow_size] at *); first | done | omega) _ | refine Below.drew ?_ | refine Below.trans ?_ (Below.mono (by assumption) (by (try simp only [World.size_alloc, World.size_setCell, World.size_drew, setRow_size] at *); first | done | omega)) | refine below_setRow' ?_ (by (try simp only [World.size_alloc, World.size_setCell, World.size_drew, setRow_size] at *); first | done | omega) _)))).mono ?_; rintro e w1 ⟨rfl, rfl⟩)
      go_ret
      exact ⟨rfl, _, hS.out, Only.refl _ _, .inl rfl⟩
    · have hgt : (l.length : Int) - 1 < k := by omega
      clear hin h3 h4 ho hne
      go_enter Try.func52, Try.ntmps52
      go_wp2_with (go_at_call 53; refine (hL.out _ (by (repeat' (first | exact Below.refl _ _ | assumption | refine Below.alloc ?_ (by (try simp only [World.size_alloc, World.size_setCell, World.size_drew, setRow_size] at *); first | done | omega) _ | refine Below.setCell ?_ (by (try simp only [World.size_alloc, World.size_setCell, World.size_drew, setRow_size] at *); first | done | omega) _ | refine Below.drew ?_ | refine Below.trans ?_ (Below.mono (by assumption) (by (try simp only [World.size_alloc, World.size_setCell, World.size_drew, setRow_size] at *); first | done | omega)) | refine below_setRow' ?_ (by (try simp only [World.size_alloc, World.size_setCell, World.size_drew, setRow_size] at *); first | done | omega) _)))).mono ?_; rintro e w1 ⟨rfl, rfl⟩)
      go_ret
      exact ⟨rfl, _, hS.out, Only.refl _ _, .inl rfl⟩
end Go.Proofs.Ytfjigoimjaemmaa
