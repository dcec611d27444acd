/- the filter's search: slices.Clone. -/
import Derived.Test.YtfjigoimjaemmaaDoorFind2W
import Derived.Test.YtfjigoimjaemmaaDoorSealW
import Derived.Lib.LazyBuf
namespace Go.Proofs.YtfjigoimjaemmaaDoor
open Go.RowKit
set_option linter.unusedSimpArgs false
set_option linter.unusedVariables false
set_option maxRecDepth 100000
attribute [local go_sem ↓] Go.wp_at_zero Go.wp_at_succ

@[go_sem ↓] theorem run_binop_nil_b (w : World) (a : Option Addr) (l c : Nat) : (Go.binOp .eql 29 (.slice a l c) (.slice none 0 0)).run Tryd.prog w = .ok (.bool a.isNone) w := by
  have h := Go.run_equal_slice_nil w 29 5 a l c Tryd.underlying29
  simp [Go.binOp, Sem.run_bind, h]
@[go_sem ↓] theorem run_binop_nil_w (w : World) (a : Option Addr) (l c : Nat) : (Go.binOp .eql 62 (.slice a l c) (.slice none 0 0)).run Tryd.prog w = .ok (.bool a.isNone) w := by
  have h := Go.run_equal_slice_nil w 62 47 a l c Tryd.underlying62
  simp [Go.binOp, Sem.run_bind, h]
/-- what a clone of bytes is -/
def CloneB (lo n : Nat) (x : Nat → Int) (e : Ending) (w' : World) : Prop := ∃ v, e = .returned v ∧ OwnI w' lo 5 .u8 v (tl n x)
set_option maxHeartbeats 4000000 in
theorem cloneB_any (A : Option Addr) (n c : Nat) (x : Nat → Int) (w : World) (hx : Ints w .u8 A n x) (hn : n ≤ 1000000) :
    Calls Tryd.prog 76 #[.slice A n c] w fun e w' => CloneB w.heap.size n x e w' ∧ Below w.heap.size w w' := by
  cases A with
  | none =>
    have h0 : n = 0 := by
      rcases Nat.eq_zero_or_pos n with h | h
      · exact h
      · obtain ⟨a, h1, _⟩ := hx 0 h; cases h1
    subst h0
    clear hx
    go_enter Tryd.func76, Tryd.ntmps76
    go_wp2
    go_ret
    exact ⟨⟨_, rfl, OwnI.nil w _ _ _⟩, Below.refl _ _⟩
  | some a =>
    have hx' := Lib.hid (hx.below (Nat.le_refl _) ((Below.refl w.heap.size w).alloc (Nat.le_refl _) (.cells #[] 5)))
    have hl := Lib.hid (show OwnI (w.alloc (.cells #[] 5)) w.heap.size 5 .u8 (.slice (some ⟨w.heap.size, 0, none⟩) 0 0) [] by simpa using OwnI.lit w w.heap.size 5 .u8 #[] [] rfl (by simp) (by simp [maxLen]))
    clear hx
    go_enter Tryd.func76, Tryd.ntmps76
    go_wp2_with (at_builtin; refine wpList_app bytesElem2 rfl (.tmp 5) (.tmp 6) rfl (.slice (some ⟨w.heap.size, 0, none⟩) 0 0) [] rfl hl.out (some a) n c x rfl hx'.out (by simp only [List.length_nil, maxLen]; omega) (by simp only [List.length_nil]; omega) (by simp) ?_; rw [List.nil_append]; intro v1 w1 ho1 ha1; have hO := Lib.hid ho1; have hB := Lib.hid (((Below.refl w.heap.size w).alloc (Nat.le_refl _) (.cells #[] 5)).trans (ha1.1.below (by simp) (fun b hb => by simp only [Value.ownBlock, Option.some.injEq] at hb; omega))); clear ho1 ha1)
    go_ret
    exact ⟨⟨_, rfl, hO.out⟩, hB.out⟩

theorem wordElem : RowElem Tryd.prog 62 47 4 32 := .mk' (z := wv (fn4 0 0 0 0)) Tryd.underlying62 (by kernel_rfl) rfl (by omega)
/-- the rows of n words -/
def wrow (x : Nat → Int) : List Value := [.int .u64 (x 0), .int .u64 (x 1), .int .u64 (x 2), .int .u64 (x 3)]
def wrows (n : Nat) (x : Nat → Nat → Int) : List (List Value) := (List.range n).map fun j => wrow (x j)
theorem wrows_length (n : Nat) (x : Nat → Nat → Int) : (wrows n x).length = n := by simp [wrows]
theorem wrows_lens (n : Nat) (x : Nat → Nat → Int) : ∀ r ∈ wrows n x, r.length = 4 := by
  intro r hr
  simp only [wrows, List.mem_map] at hr
  obtain ⟨j, _, rfl⟩ := hr
  rfl
theorem wrows_one (n : Nat) (x : Nat → Nat → Int) : ∀ u ∈ (wrows n x).flatten, u.oneCell' = true := by
  intro u hu
  simp only [List.mem_flatten, wrows, List.mem_map] at hu
  obtain ⟨r, ⟨j, _, rfl⟩, hu⟩ := hu
  simp only [wrow, List.mem_cons, List.not_mem_nil, or_false] at hu
  rcases hu with rfl | rfl | rfl | rfl <;> rfl
theorem wrows_get (n : Nat) (x : Nat → Nat → Int) (j : Nat) (h : j < n) : (wrows n x)[j]? = some (wrow (x j)) := by simp [wrows, h]
theorem Words.rowsAt {w : World} {A : Option Addr} {n : Nat} {x : Nat → Nat → Int} (h : Words w A n x) : RowsAt w A (wrows n x) := by
  refine ⟨fun hne => ?_, fun a ha j u hu => ?_⟩
  · have h0 : 0 < n := by
      rcases Nat.eq_zero_or_pos n with h0 | h0
      · subst h0; exact absurd rfl hne
      · exact h0
    obtain ⟨a, h1, _⟩ := h 0 h0
    exact ⟨a, h1⟩
  · have hj := (List.getElem?_eq_some_iff.1 hu).1
    rw [flat_length (wrows_lens n x), wrows_length] at hj
    have hq : j / 4 < n := by omega
    have hg := flat_get (wrows_lens n x) (j / 4) (j % 4) _ (wrows_get n x _ hq) (by omega)
    rw [show j / 4 * 4 + j % 4 = j by omega, hu] at hg
    obtain ⟨a', h1, h2, h3⟩ := h (j / 4) hq
    rw [ha] at h1; cases h1
    have h4 := h3 (j % 4) (by omega)
    rw [show j / 4 * 4 + j % 4 = j by omega] at h4
    rw [h4, hg]
    have : j % 4 = 0 ∨ j % 4 = 1 ∨ j % 4 = 2 ∨ j % 4 = 3 := by omega
    rcases this with e | e | e | e <;> rw [e] <;> rfl
/-- what a clone of words is -/
def CloneW (lo n : Nat) (x : Nat → Nat → Int) (e : Ending) (w' : World) : Prop := ∃ v, e = .returned v ∧ OwnR w' lo 47 4 v (wrows n x)
set_option maxHeartbeats 4000000 in
theorem cloneW_any (A : Option Addr) (n c : Nat) (x : Nat → Nat → Int) (w : World) (hx : Words w A n x) (hn : n ≤ 1000000) :
    Calls Tryd.prog 75 #[.slice A n c] w fun e w' => CloneW w.heap.size n x e w' ∧ Below w.heap.size w w' := by
  cases A with
  | none =>
    have h0 : n = 0 := by
      rcases Nat.eq_zero_or_pos n with h | h
      · exact h
      · obtain ⟨a, h1, _⟩ := hx 0 h; cases h1
    subst h0
    clear hx
    go_enter Tryd.func75, Tryd.ntmps75
    go_wp2
    go_ret
    exact ⟨⟨_, rfl, OwnR.nil w _ _ _⟩, Below.refl _ _⟩
  | some a =>
    have hx' := Lib.hid (hx.below (Nat.le_refl _) ((Below.refl w.heap.size w).alloc (Nat.le_refl _) (.cells #[] 47)))
    clear hx
    go_enter Tryd.func75, Tryd.ntmps75
    go_wp2_with (at_builtin; refine wpList_app_rows wordElem rfl (.tmp 5) (.tmp 6) rfl w.heap.size (.slice (some ⟨w.heap.size, 0, none⟩) 0 0) [] rfl (OwnR.empty w w.heap.size 47 4 (Nat.le_refl _)) (some a) n c (wrows n x) (wrows_length _ _) rfl hx'.out.rowsAt (wrows_lens _ _) (wrows_one _ _) (by simp only [wrows_length, List.length_nil, maxLen]; omega) (by simp only [wrows_length, List.length_nil]; omega) (by simp) ?_; rw [List.nil_append]; intro v1 w1 ho1 ha1; have hO := Lib.hid ho1; have hB := Lib.hid (((Below.refl w.heap.size w).alloc (Nat.le_refl _) (.cells #[] 47)).trans (ha1.1.below (by simp) (fun b hb => by simp only [Value.ownBlock, Option.some.injEq] at hb; omega))); clear ho1 ha1)
    go_ret
    exact ⟨⟨_, rfl, hO.out⟩, hB.out⟩

@[go_sem ↓] theorem ld_rc (v : Value) : Instr.loadAt 82 v = ldArr 82 v := rfl
@[go_sem ↓] theorem st_rc (v x : Value) : Instr.storeAt 82 v x = stArr 82 v x := rfl
@[go_sem] theorem run_st_rc (w : World) (b : Nat) (cs : Array Value) :
    (stArr 82 (.pointer (some ⟨b, 0, none⟩)) (.agg cs)).run Tryd.prog w = if rowFit w b = some 49 ∧ cs.size = 49 ∧ okCells cs = true then .ok () (w.setRow b cs) else stBad Tryd.prog 82 b (.agg cs) w :=
  run_stArr_if _ 49 Tryd.sizeOf82 w b cs
@[go_sem ↓] theorem ld_seal (v : Value) : Instr.loadAt 80 v = ldArr 80 v := rfl
@[go_sem ↓] theorem st_seal (v x : Value) : Instr.storeAt 80 v x = stArr 80 v x := rfl
@[go_sem] theorem run_st_seal (w : World) (b : Nat) (cs : Array Value) :
    (stArr 80 (.pointer (some ⟨b, 0, none⟩)) (.agg cs)).run Tryd.prog w = if rowFit w b = some 162 ∧ cs.size = 162 ∧ okCells cs = true then .ok () (w.setRow b cs) else stBad Tryd.prog 80 b (.agg cs) w :=
  run_stArr_if _ 162 Tryd.sizeOf80 w b cs
theorem Rcs.load {w : World} {A : Option Addr} {n : Nat} {R : Nat → RcV} (h : Rcs w A n R) {j : Nat} (hj : j < n) :
    ∃ a : Addr, A = some a ∧ a.block < w.heap.size ∧ (ldArr 82 (.pointer (some (a.add (j * 49))))).run Tryd.prog w = .ok (.agg (R j).row) w ∧ (R j).Ok w := by
  obtain ⟨⟨a, h1, h2, h3⟩, h4⟩ := h j hj
  exact ⟨a, h1, h2, h3.load Tryd.isAgg82 (fun w => by rw [h4.size]; exact Tryd.sizeOf82 w), h4⟩
theorem Seals.load {w : World} {A : Option Addr} {n : Nat} {S : Nat → SlV} (h : Seals w A n S) {j : Nat} (hj : j < n) :
    ∃ a : Addr, A = some a ∧ a.block < w.heap.size ∧ (ldArr 80 (.pointer (some (a.add (j * 162))))).run Tryd.prog w = .ok (.agg (S j).row) w ∧ (S j).Ok w := by
  obtain ⟨⟨a, h1, h2, h3⟩, h4⟩ := h j hj
  exact ⟨a, h1, h2, h3.load Tryd.isAgg80 (fun w => by rw [h4.size]; exact Tryd.sizeOf80 w), h4⟩

/-- the logs of the first k that fit -/
def foundL (L : Nat → LogV) (f : Nat → Int) (x : Nat → Nat → Int) (n : Nat) : Nat → List LogV
  | 0 => []
  | k + 1 => foundL L f x n k ++ if fitF (L k) f x n then [L k] else []
/-- of the first k receipts -/
def foundR (R : Nat → RcV) (f : Nat → Int) (x : Nat → Nat → Int) (n : Nat) : Nat → List LogV
  | 0 => []
  | k + 1 => foundR R f x n k ++ foundL (R k).L f x n (R k).ln
/-- of the first k blocks -/
def foundS (S : Nat → SlV) (f : Nat → Int) (x : Nat → Nat → Int) (n : Nat) : Nat → List LogV
  | 0 => []
  | k + 1 => foundS S f x n k ++ foundR (S k).R f x n (S k).rn
theorem foundL_length (L : Nat → LogV) (f : Nat → Int) (x : Nat → Nat → Int) (n : Nat) : ∀ k, (foundL L f x n k).length ≤ k
  | 0 => by simp [foundL]
  | k + 1 => by
    have := foundL_length L f x n k
    rw [foundL, List.length_append]
    split <;> simp <;> omega
/-- a log that fits has its address and the topics sought -/
theorem fit_has {b : Nat → Int} {o : LogV} {f : Nat → Int} {x : Nat → Nat → Int} {n : Nat} (h : fitF o f x n = true) (hb : ∀ v : Nat × (Nat → Int), v ∈ logD o o.tn → hasF b (sumF v.2 v.1) = true)
    (hsum : ∀ u v : Nat → Int, tl 4 u = tl 4 v → sumF (bytF u) 32 = sumF (bytF v) 32) (hadr : ∀ u v : Nat → Int, tl 20 u = tl 20 v → sumF u 20 = sumF v 20) : (allT b x n && hasF b (sumF f 20)) = true := by
  rw [fitF, Bool.and_eq_true, decide_eq_true_eq] at h
  have h1 : ∀ k, k ≤ n → allC o x k = true → allT b x k = true := by
    intro k
    induction k with
    | zero => intro _ _; rfl
    | succ k ih =>
      intro hk hc
      rw [allC, Bool.and_eq_true] at hc
      rw [allT, ih (by omega) hc.1, Bool.true_and]
      have h2 : ∀ m, hasW o.tx (x k) m = true → ∃ j, j < m ∧ tl 4 (x k) = tl 4 (o.tx j) := by
        intro m
        induction m with
        | zero => intro e; cases e
        | succ m ihm =>
          intro e
          rw [hasW, Bool.or_eq_true, decide_eq_true_eq] at e
          rcases e with e | e
          · obtain ⟨j, hj, h3⟩ := ihm e
            exact ⟨j, by omega, h3⟩
          · exact ⟨m, by omega, e⟩
      obtain ⟨j, hj, h3⟩ := h2 _ hc.2
      rw [hsum _ _ h3]
      exact hb (32, bytF (o.tx j)) (by rw [logD]; exact List.mem_cons_of_mem _ (List.mem_map.2 ⟨j, List.mem_range.2 hj, rfl⟩))
  rw [h1 n (Nat.le_refl _) h.1, ← hadr _ _ h.2, hb (20, o.addr) (by rw [logD]; exact List.mem_cons_self)]
  rfl
theorem sumF_few {x y : Nat → Int} (n : Nat) (hn : n < 136) (h : ∀ j, j < n → x j = y j) : sumF x n = sumF y n := by
  unfold sumF
  have e : n / 136 = 0 := Nat.div_eq_of_lt hn
  have e2 : n % 136 = n := Nat.mod_eq_of_lt hn
  rw [e, e2]
  have e3 : lastF (fun j => x (136 * 0 + j)) n = lastF (fun j => y (136 * 0 + j)) n := by
    have e4 : ovl zf 0 n (fun j => x (136 * 0 + j)) = ovl zf 0 n (fun j => y (136 * 0 + j)) := by
      funext p
      unfold ovl
      split
      · rename_i hp
        simp only [Nat.mul_zero, Nat.zero_add]
        exact h _ (by omega)
      · rfl
    unfold lastF
    rw [e4]
  rw [e3]
  rfl
theorem tl_eq {n : Nat} {u v : Nat → Int} (h : tl n u = tl n v) (j : Nat) (hj : j < n) : u j = v j := by
  have h1 := congrArg (fun l => l[j]?) h
  simp only [tl_get n _ j hj, Option.some.injEq] at h1
  exact h1
theorem sum_addr (u v : Nat → Int) (h : tl 20 u = tl 20 v) : sumF u 20 = sumF v 20 := sumF_few 20 (by omega) fun j hj => tl_eq h j hj
theorem sum_word (u v : Nat → Int) (h : tl 4 u = tl 4 v) : sumF (bytF u) 32 = sumF (bytF v) 32 := sumF_few 32 (by omega) fun j hj => by
  unfold bytF digF
  rw [tl_eq h _ (by omega)]
end Go.Proofs.YtfjigoimjaemmaaDoor
