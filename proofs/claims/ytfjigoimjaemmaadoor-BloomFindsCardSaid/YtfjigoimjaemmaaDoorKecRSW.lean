/- keccak: the hash of the reference. -/
import Derived.Test.YtfjigoimjaemmaaDoorKecQ
import Derived.Test.YtfjigoimjaemmaaDoorKecUW
import Derived.Test.YtfjigoimjaemmaaDoorOwn2
namespace Go.Proofs.YtfjigoimjaemmaaDoor
open Go.RowKit
set_option linter.unusedSimpArgs false
set_option linter.unusedVariables false
set_option maxRecDepth 100000

theorem tl_succ' (n : Nat) (f : Nat → Int) (g : Nat → Int) (h : g 0 = f n) : tl n f ++ tl 1 g = tl (n + 1) f := by
  unfold tl
  rw [List.range_succ, List.map_append]
  simp [h, List.range_succ]
theorem tl_congr {n : Nat} {f g : Nat → Int} (h : ∀ i, i < n → f i = g i) : tl n f = tl n g := tl_ext.2 h
theorem tl_set (n : Nat) (f : Nat → Int) (i : Nat) (u : Int) : (tl n f).set i u = tl n (upd f i u) := by
  apply List.ext_getElem?
  intro j
  by_cases hj : j < n
  · rw [tl_get n _ j hj, List.getElem?_set, tl_length, tl_get n f j hj]
    by_cases h : i = j
    · subst h; simp [hj, upd]
    · simp [h, upd, show ¬ j = i from fun e => h e.symm]
  · rw [List.getElem?_eq_none (by rw [List.length_set, tl_length]; omega), List.getElem?_eq_none (by rw [tl_length]; omega)]
theorem tl_getD (n : Nat) (f : Nat → Int) (i : Nat) (h : i < n) : (tl n f).getD i 0 = f i := by
  simp [List.getD, tl_get n f i h]

/-- the memory of the reference's hash while it gathers the bytes -/
def AI (w wr : World) (v : Value) (l : List Int) : Prop :=
  rowFit wr w.heap.size = some 32 ∧ OwnI wr (w.heap.size + 1) 5 .u8 v l ∧ w.heap.size + 1 ≤ wr.heap.size ∧ Below w.heap.size w wr
theorem AI.appended {w wr wr1 w2 : World} {v v' : Value} {l l' : List Int} (h : AI w wr v l) (hb : Below wr.heap.size wr wr1) (ho : OwnI w2 (w.heap.size + 1) 5 .u8 v' l') (ha : Appended wr1 w2 v v') : AI w w2 v' l' := by
  obtain ⟨h1, h2, h3, h4⟩ := h
  have hs := hb.size
  have hn : ∀ b, v.ownBlock = some b → w.heap.size + 1 ≤ b := fun b hb => (ownsRow_lt h2 hb).1
  refine ⟨?_, ho, by have := ha.1.size; omega, (h4.trans (hb.mono (by omega))).trans (ha.1.below (by omega) fun b hb => by have := hn b hb; omega)⟩
  rw [ha.1.rowFit (by omega) fun he => by have := hn _ he; omega, rowFit_below hb (by omega), h1]
theorem AI.own {w wr wr1 : World} {v : Value} {l : List Int} (h : AI w wr v l) (hb : Below wr.heap.size wr wr1) : OwnI wr1 (w.heap.size + 1) 5 .u8 v l := h.2.1.only (Only.of_below' (fun _ => False) hb) (fun _ _ h => h)
theorem lit_ints (w : World) (u : Int) (t : TypeId) : Ints (w.alloc (.cells #[.int .u8 u] t)) .u8 (some ⟨w.heap.size, 0, none⟩) 1 (fun _ => u) := fun j hj => ⟨_, rfl, by rw [World.size_alloc]; simp, by
  obtain rfl : j = 0 := by omega
  rw [Addr.add_lit, cell_of_rowOf, rowOf_alloc_at _ _ _ _ rfl]; rfl⟩
theorem below_alloc_self (w : World) (o : Obj) : Below w.heap.size w (w.alloc o) := Below.alloc (Below.refl _ _) (Nat.le_refl _) _

theorem pdivN {x : Int} (h : 0 ≤ x) (n : Nat) : 0 ≤ x / 2 ^ n := Int.ediv_nonneg h (Int.le_of_lt (Int.pow_pos (by omega)))
theorem xr_nonneg (a b : Int) : 0 ≤ xr a b := by rw [xr_def]; omega
theorem rRound_nonneg (s : Nat → Int) (k : Int) (i : Nat) (h : i < 25) : 0 ≤ rRound s k i := by
  unfold rRound upd
  split
  · exact xr_nonneg _ _
  · rw [o_at _ i h]; exact xr_nonneg _ _
theorem turnF_nonneg (s : Nat → Int) (i : Nat) : 0 ≤ turnF s i := by
  show 0 ≤ cl25 _ i
  unfold cl25
  split
  · exact rRound_nonneg _ _ i (by assumption)
  · exact Int.le_refl _
theorem allF_bd {x : Nat → Int} {n : Nat} (h : ∀ j, j < n → 0 ≤ x j ∧ x j < 256) {m : Nat} (j : Nat) (_ : j < m) : 0 ≤ allF x n j ∧ allF x n j < 256 := by
  have h0 : ∀ j, 0 ≤ padF x n j ∧ padF x n j < 256 := by
    intro j; unfold padF
    split
    · exact h j (by assumption)
    · split <;> omega
  unfold allF upd
  split
  · exact or_u8 _ (h0 _)
  · exact h0 j
attribute [local irreducible] abX turnF spK rsF allF
attribute [local go_sem ↓] Go.wp_at_zero Go.wp_at_succ
set_option maxHeartbeats 2000000 in
theorem refSum_any (A : Option Addr) (n c : Nat) (x : Nat → Int) (w : World) (hx : Ints w .u8 A n x) (hn : n ≤ 1000000000) (hxb : ∀ j, j < n → 0 ≤ x j ∧ x j < 256) :
    Calls Tryd.prog 24 #[.slice A n c] w fun e w' => e = .returned (.agg (tab 32 .u8 (sumF x n))) ∧ Below w.heap.size w w' := by
  have hxb' := Lib.hid hxb
  clear hxb
  have hx' := Lib.hid hx
  clear hx
  go_enter Tryd.func24, Tryd.ntmps24
  have hI0 : AI w ((w.alloc (.cells (tab 32 .u8 zf) 40)).alloc (.cells #[] 5)) (.slice (some ⟨w.heap.size + 1, 0, none⟩) 0 0) [] := by
    refine ⟨?_, ?_, by simp, ?_⟩
    · simp [go_sem]
    · have := OwnI.lit (w.alloc (.cells (tab 32 .u8 zf) 40)) (w.heap.size + 1) 5 .u8 #[] [] rfl (by simp) (by simp)
      rw [World.size_alloc] at this
      exact this
    · (repeat' (first | exact Below.refl _ _ | assumption | refine Below.alloc ?_ (by (try simp only [World.size_alloc, World.size_setCell, World.size_drew, setRow_size] at *); first | done | omega) _ | refine Below.setCell ?_ (by (try simp only [World.size_alloc, World.size_setCell, World.size_drew, setRow_size] at *); first | done | omega) _ | refine Below.drew ?_ | refine Below.trans ?_ (Below.mono (by assumption) (by (try simp only [World.size_alloc, World.size_setCell, World.size_drew, setRow_size] at *); first | done | omega)) | refine below_setRow' ?_ (by (try simp only [World.size_alloc, World.size_setCell, World.size_drew, setRow_size] at *); first | done | omega) _))
  have hxI : Ints ((w.alloc (.cells (tab 32 .u8 zf) 40)).alloc (.cells #[] 5)) .u8 A n x := hx'.out.below (Nat.le_refl _) (by (repeat' (first | exact Below.refl _ _ | assumption | refine Below.alloc ?_ (by (try simp only [World.size_alloc, World.size_setCell, World.size_drew, setRow_size] at *); first | done | omega) _ | refine Below.setCell ?_ (by (try simp only [World.size_alloc, World.size_setCell, World.size_drew, setRow_size] at *); first | done | omega) _ | refine Below.drew ?_ | refine Below.trans ?_ (Below.mono (by assumption) (by (try simp only [World.size_alloc, World.size_setCell, World.size_drew, setRow_size] at *); first | done | omega)) | refine below_setRow' ?_ (by (try simp only [World.size_alloc, World.size_setCell, World.size_drew, setRow_size] at *); first | done | omega) _)))
  have hI0' := Lib.hid hI0
  have hxI' := Lib.hid hxI
  clear hI0 hxI
  have hpad : ([] : List Int) ++ tl n x = tl n (padF x n) := by
    rw [List.nil_append]; exact tl_congr fun i hi => by unfold padF; rw [if_pos hi]
  have hpad' := Lib.hid hpad
  have hpad2 := tl_succ' n (padF x n) (fun _ => 1) (by unfold padF; rw [if_neg (by omega), if_pos rfl])
  have hpad2' := Lib.hid hpad2
  clear hpad2
  clear hpad
  go_wp2_with (first
    | (at_builtin; refine wpList_app bytesE rfl (.tmp 10) (.tmp 11) rfl (.slice (some ⟨w.heap.size + 1, 0, none⟩) 0 0) [] rfl hI0'.out.2.1 A n c x rfl hxI'.out (by simp only [List.length_nil, maxLen]; omega) (by simp only [List.length_nil]; omega) (by simp) ?_; intro v1 w1 ho1 ha1; have hI1 := Lib.hid (hI0'.out.appended (Below.refl _ _) ho1 ha1); rw [hpad'.out] at hI1; obtain ⟨A1, c1, e1, hf1⟩ := hI1.out.2.1.form; rw [tl_length] at e1; subst e1; clear ho1 ha1 hf1)
    | (at_builtin; refine wpList_app bytesE rfl (.tmp 13) (.tmp 14) rfl (.slice A1 n c1) (tl n (padF x n)) rfl (hI1.out.own (below_alloc_self _ _)) (some ⟨w1.heap.size, 0, none⟩) 1 1 (fun _ => 1) rfl (lit_ints _ _ _) (by simp only [tl_length, maxLen]; omega) (by simp only [tl_length]; omega) (by have := hI1.out.2.2.1; rw [World.size_alloc]; omega) ?_; intro v2 w2 ho2 ha2; have hI2 := Lib.hid (hI1.out.appended (below_alloc_self _ _) ho2 ha2); rw [hpad2'.out] at hI2; obtain ⟨A2, c2, e2, hf2⟩ := hI2.out.2.1.form; rw [tl_length] at e2; subst e2; clear ho2 ha2 hf2))
  have hst : AI w w2 (.slice A2 (n + 1) c2) (tl (n + 1) (padF x n)) := hI2.out
  clear hI0' hI1 hI2 hxI' hpad' hpad2'
  obtain ⟨N, hN⟩ : ∃ N, 136 * (n / 136 + 1) = N := ⟨_, rfl⟩
  go_loopw [3] (fun t wr => ∃ (m cc : Nat) (AA : Option Addr), n + 1 ≤ m ∧ m ≤ N ∧ t = .slice AA m cc ∧ AI w wr t (tl m (padF x n))) (fun t _ => match t with | .slice _ m _ => N - m | _ => 0)
  case atStart => exact ⟨n + 1, c2, A2, by omega, by omega, rfl, hst⟩
  case round =>
    obtain ⟨m, cc, AA, hm1, hm2, rfl, hA⟩ := hrel
    clear hst
    have hA' := Lib.hid hA
    clear hA
    by_cases hlt : m < N
    · have e1 : (m : Int).tmod 136 = ((m % 136 : Nat) : Int) := by rw [Int.tmod_eq_emod_of_nonneg (by omega)]; omega
      have e2 : ((m : Int) % 136 != 0) = true := by simp; omega
      have e3 := tl_succ' m (padF x n) (fun _ => 0) (by unfold padF; rw [if_neg (by omega), if_neg (by omega)])
      have e3' := Lib.hid e3
      have hmN : m ≤ 2000000000 := by omega
      clear e3 e1
      go_wp2_with (first
        | (at_builtin; refine wpList_app bytesE rfl (.tmp 20) (.tmp 21) rfl (.slice AA m cc) (tl m (padF x n)) rfl (hA'.out.own (below_alloc_self _ _)) (some ⟨wr.heap.size, 0, none⟩) 1 1 (fun _ => 0) rfl (lit_ints _ _ _) (by simp only [tl_length, maxLen]; omega) (by simp only [tl_length]; omega) (by have := hA'.out.2.2.1; rw [World.size_alloc]; omega) ?_; intro v2 w3 ho2 ha2; have hI2 := Lib.hid (hA'.out.appended (below_alloc_self _ _) ho2 ha2); rw [e3'.out] at hI2; obtain ⟨A3, c3, e4, hf2⟩ := hI2.out.2.1.form; rw [tl_length] at e4; subst e4; clear ho2 ha2 hf2))
      refine ⟨⟨m + 1, c3, A3, by omega, by omega, rfl, hI2.out⟩, ?_⟩
      show N - (m + 1) < N - m
      omega
    · have hmN : m = N := by omega
      obtain ⟨q0, hO, sz, hb⟩ := hA'.out
      have hO' := Lib.hid hO
      obtain ⟨g, rfl, hg1, hq⟩ : ∃ g, AA = some ⟨g, 0, none⟩ ∧ w.heap.size + 1 ≤ g ∧ rowFit wr g = some cc := by
        obtain ⟨A4, c4, e4, _, hA4⟩ := hO.form
        rw [tl_length] at e4
        cases e4
        cases AA with
        | none =>
          rcases hO.2 with ⟨hv, _⟩ | ⟨g, cap, cur, hv, _⟩
          · simp only [Value.slice.injEq, true_and] at hv; omega
          · cases hv
        | some a =>
          obtain ⟨h1, h2, h3, h4, _⟩ := hA4 a rfl
          obtain ⟨b, o, sp⟩ := a
          simp only at h1 h2 h3 h4
          subst h2; subst h3
          exact ⟨b, rfl, h1, h4⟩
      obtain ⟨L, hL⟩ : ∃ L : Nat, m = L + 1 := ⟨m - 1, by omega⟩
      have hgs : g < wr.heap.size := (ownsRow_lt hO rfl).2
      have hcell : wr.cell? ⟨g, L, none⟩ = some (.int .u8 (padF x n L)) := by
        obtain ⟨A4, c4, e4, _, hI, _⟩ := hO.ints
        rw [tl_length] at e4 hI
        cases e4
        obtain ⟨a, ha, _, hc⟩ := hI L (by omega)
        cases ha
        rw [Addr.add_lit, Nat.zero_add] at hc
        rw [hc]
        show some (Value.int .u8 ((tl m (padF x n)).getD L 0)) = _
        rw [tl_getD _ _ _ (by omega)]
      have hall : (tl m (padF x n)).set L (bits .or .u8 (padF x n L) 128) = tl m (allF x n) := by
        have hL2 : L = 136 * (n / 136) + 135 := by omega
        rw [tl_set, hL2]
        unfold allF; rfl
      have hl : (tl m (padF x n)).length = m := tl_length _ _
      have hO3 : OwnI (wr.setCell ⟨g, L, none⟩ (.int .u8 (bits .or .u8 (padF x n L) 128))) (w.heap.size + 1) 5 .u8 (.slice (some ⟨g, 0, none⟩) m cc) (tl m (allF x n)) := by
        have h2 : OwnI wr (w.heap.size + 1) 5 .u8 (.slice (some ⟨g, 0, none⟩) (tl m (padF x n)).length cc) (tl m (padF x n)) := by rw [hl]; exact hO'.out
        have h3 := h2.set L (bits .or .u8 (padF x n L) 128)
        rw [hall, hl] at h3
        exact h3
      have hk1 : (m : Int) - 1 = (L : Int) := by omega
      have hk2 : IntKind.i64.wrap ((L : Int)) = (L : Int) := i64w (by omega) (by omega)
      have hk3 : (0 : Int) ≤ (L : Int) ∧ (L : Int) < (m : Int) ∧ L < cc := by
        have := (OwnI.ints hO)
        obtain ⟨_, _, e, h, _⟩ := this
        rw [tl_length] at e h
        cases e
        exact ⟨by omega, by omega, by omega⟩
      have e2 : ((m : Int) % 136 != 0) = false := by simp; omega
      have hO3' := Lib.hid hO3
      have hmN' := Lib.hid hmN
      have hx63 : m ≤ 2000000000 := by omega
      obtain ⟨u, hu⟩ : ∃ u, padF x n L = u := ⟨_, rfl⟩
      rw [hu, cell_of_rowOf] at hcell
      rw [hu] at hO3'
      clear hO3 hO hall hmN hA' hO' hu hl hL
      go_wp2
      obtain ⟨W1, hW1⟩ : ∃ W1, wr.setCell ⟨g, L, none⟩ (.int .u8 (bits .or .u8 u 128)) = W1 := ⟨_, rfl⟩
      have hI1 : Ints W1 .u8 (some ⟨g, 0, none⟩) m (allF x n) := by
        obtain ⟨A4, c4, e4, _, hI, _⟩ := hO3'.out.ints
        rw [tl_length] at e4 hI
        cases e4
        rw [← hW1]
        intro j hj
        obtain ⟨a, ha, hab, hc⟩ := hI j hj
        refine ⟨a, ha, hab, ?_⟩
        rw [hc]
        show some (Value.int .u8 ((tl m (allF x n)).getD j 0)) = _
        rw [tl_getD _ _ _ hj]
      have p0 : rowFit W1 w.heap.size = some 32 := by rw [← hW1, rowFit_setCell, q0]
      have hs1 : W1.heap.size = wr.heap.size := by rw [← hW1, World.size_setCell]
      have hb1 : Below w.heap.size w W1 := by rw [← hW1]; exact hb.setCell (by simp; omega) _
      rw [hW1]
      have hmod : (m : Int) % 136 = ((m % 136 : Nat) : Int) := by omega
      obtain ⟨H, hH⟩ : ∃ H, wr.heap.size = H := ⟨_, rfl⟩
      rw [hH] at hs1 ⊢
      have hIb : ∀ j, j < m → 0 ≤ allF x n j ∧ allF x n j < 256 := allF_bd hxb'.out
      obtain ⟨F, hF⟩ : ∃ F, allF x n = F := ⟨_, rfl⟩
      rw [hF] at hI1 hIb
      have hIb' := Lib.hid hIb
      have hI1' := Lib.hid hI1
      have hF' := Lib.hid hF
      have hst : rowFit (W1.alloc (.cells (tab 25 .u64 zf) 23)) w.heap.size = some 32 ∧ rowOf (W1.alloc (.cells (tab 25 .u64 zf) 23)) H = tab 25 .u64 (rsF F 0) ∧ rowFit (W1.alloc (.cells (tab 25 .u64 zf) 23)) H = some 25 ∧ H < (W1.alloc (.cells (tab 25 .u64 zf) 23)).heap.size ∧ w.heap.size + 1 ≤ H ∧ Below H W1 (W1.alloc (.cells (tab 25 .u64 zf) 23)) ∧ Below w.heap.size w (W1.alloc (.cells (tab 25 .u64 zf) 23)) := by
        refine ⟨by rw [rowFit_alloc_past _ _ _ (by omega), p0], by rw [rowOf_alloc_at _ _ _ _ hs1.symm, rsF_zero], by rw [rowFit_alloc_at _ _ _ _ hs1.symm, tab_size], by rw [World.size_alloc]; omega, by omega, Below.alloc (Below.refl _ _) (by omega) _, hb1.alloc (by omega) _⟩
      clear hO3' hcell hW1 hF hI1 hIb p0 hb1 hb q0 hq hgs e2 hH hk1 hk2 hk3 sz
      obtain ⟨r136, h136⟩ : ∃ r136, (m : Int) % 136 = r136 := ⟨_, rfl⟩
      rw [h136]
      clear h136 hmod
      go_loopw [5] (fun i wr => ∃ k : Nat, k ≤ m ∧ i = .int .i64 k ∧ rowFit wr w.heap.size = some 32 ∧ rowOf wr H = tab 25 .u64 (rsF F k) ∧ rowFit wr H = some 25 ∧ H < wr.heap.size ∧ w.heap.size + 1 ≤ H ∧ Below H W1 wr ∧ Below w.heap.size w wr) (fun i _ => m - (intOf i).toNat)
      case atStart => exact ⟨0, by omega, rfl, hst⟩
      case round =>
        obtain ⟨k, hk, rfl, q0, rH, qH, sH, s2, hbW, hb⟩ := hrel
        clear hst
        by_cases hlk : k < m
        · obtain ⟨a, ha, hab, hc⟩ := hI1'.out.below (by omega) hbW k hlk
          cases ha
          rw [Addr.add_lit, Nat.zero_add, cell_of_rowOf] at hc
          have hv := hIb'.out k hlk
          have hsucc := rsF_succ F k
          have hss : rsS F (rsF F k) k = upd (rsF F k) (k % 136 / 8) (xr (rsF F k (k % 136 / 8)) (byX (F k) (k % 136))) := rfl
          obtain ⟨v, hv'⟩ : ∃ v, F k = v := ⟨_, rfl⟩
          obtain ⟨f, hf⟩ : ∃ f, rsF F k = f := ⟨_, rfl⟩
          rw [hv', hf] at hss
          rw [hv'] at hc hv
          rw [hf] at hsucc rH
          rw [hss] at hsucc
          have e1 : (k : Int).tmod 136 = ((k % 136 : Nat) : Int) := by rw [Int.tmod_eq_emod_of_nonneg (by omega)]; omega
          have e1' : (k : Int) % 136 = ((k % 136 : Nat) : Int) := by omega
          obtain ⟨y, hy⟩ : ∃ y, k % 136 = y := ⟨_, rfl⟩
          have hy136 : y < 136 := by omega
          rw [hy] at e1 e1' hsucc
          have hbx : byX v y = IntKind.u64.wrap (v * 2 ^ (y % 8 * 8)) := rfl
          have e8 : (y : Int).tmod 8 = ((y % 8 : Nat) : Int) := by rw [Int.tmod_eq_emod_of_nonneg (by omega)]; omega
          have e9 : (y : Int).tdiv 8 = ((y / 8 : Nat) : Int) := by rw [Int.tdiv_eq_ediv_of_nonneg (by omega)]; omega
          have e8' : (y : Int) % 8 = ((y % 8 : Nat) : Int) := by omega
          have e9' : (y : Int) / 8 = ((y / 8 : Nat) : Int) := by omega
          obtain ⟨q, hq⟩ : ∃ q, y / 8 = q := ⟨_, rfl⟩
          obtain ⟨r, hr⟩ : ∃ r, y % 8 = r := ⟨_, rfl⟩
          rw [hq] at hsucc e9 e9'
          rw [hr, Nat.mul_comm r 8] at hbx
          rw [hr] at e8 e8'
          have hq5 : q < 25 ∧ (q : Int) < 25 ∧ (0 : Int) ≤ q := by omega
          have hr5 : r < 8 ∧ (r : Int) < 8 ∧ (0 : Int) ≤ r := by omega
          have hk5 : (k : Int) < (m : Int) ∧ (0 : Int) ≤ (k : Int) := by omega
          have k1 : IntKind.i64.wrap (8 * (r : Int)) = 8 * r := i64w (by omega) (by omega)
          have k2 : (0 : Int) ≤ 8 * (r : Int) := by omega
          have hs' := Lib.hid hsucc
          have hbx' := Lib.hid hbx
          clear hsucc hss hv' hf hbx hq hr hy
          by_cases hlast : y = 135
          · have t1 : ((y : Int) == 135) = true := by simp; omega
            have hlast' := Lib.hid hlast
            clear hlast
            go_wp2
            go_region
            all_goals go_wp2_with (first
              | (go_at_call 16; refine (refTurn_any _ _).mono ?_; rintro e w4 ⟨rfl, hb4⟩; have g0 : rowFit w4 w.heap.size = some 32 := (rowFit_below hb4 (by simp only [World.size_drew, World.size_setCell]; omega)).trans (by rw [rowFit_drew, rowFit_setCell]; exact q0); have g1 : rowFit w4 H = some 25 := (rowFit_below hb4 (by simp only [World.size_drew, World.size_setCell]; omega)).trans (by rw [rowFit_drew, rowFit_setCell]; exact qH); have gs4 := hb4.size; simp only [World.size_drew, World.size_setCell] at gs4))
            all_goals
              have e5 := hs'.out
              rw [if_pos hlast'.out, hbx'.out] at e5
              simp only [World.size_drew, World.size_setCell] at hb4
              have hbs : Below H wr w4 := Below.trans ((Below.setCell (Below.refl _ _) (by simp) _).drew) (hb4.mono (by omega))
              refine ⟨⟨k + 1, by omega, by go_num, ?_, ?_, ?_, ?_, s2, ?_, ?_⟩, by simp [intOf]; omega⟩
              · rw [rowFit_setRow_other _ _ _ _ (by omega), g0]
              · rw [rowOf_setRow_same _ _ _ (by rw [g1]; rfl), e5]
              · rw [rowFit_setRow_same _ _ _ (by rw [g1]; rfl), tab_size]
              · rw [setRow_size]; omega
              · exact below_setRow' (hbW.trans hbs) (Nat.le_refl _) _
              · exact below_setRow' (hb.trans (hbs.mono (by omega))) (by omega) _
          · have t1 : ((y : Int) == 135) = false := by simp; omega
            have hlast' := Lib.hid hlast
            clear hlast
            go_wp2
            go_region
            all_goals go_wp2
            all_goals
              have e5 := hs'.out
              rw [if_neg hlast'.out, hbx'.out] at e5
              refine ⟨⟨k + 1, by omega, by go_num, ?_, ?_, ?_, ?_, s2, ?_, ?_⟩, by simp [intOf]; omega⟩
              · rw [rowFit_drew, rowFit_setCell, q0]
              · rw [rowOf_drew, rowOf_setCell_same, rH, tab_set, e5]
              · rw [rowFit_drew, rowFit_setCell, qH]
              · rw [World.size_drew, World.size_setCell]; exact sH
              · exact (hbW.setCell (by simp) _).drew
              · exact (hb.setCell (by simp; omega) _).drew
        · have hkm : k = N := by rw [← hmN'.out]; omega
          have hsum := all_sum x n
          rw [hF'.out, hN] at hsum
          rw [hkm] at rH
          obtain ⟨S, hS⟩ : ∃ S, rsF F N = S := ⟨_, rfl⟩
          rw [hS] at rH hsum
          have hS0 : ∀ i, 0 ≤ S i := fun i => by rw [← hS, ← hN, rs_next]; exact turnF_nonneg _ _
          have hS0' := Lib.hid hS0
          clear hS0
          have hsum' := Lib.hid hsum
          clear hkm hsum hS hbW
          go_wp2
          have hT : rowFit (wr.alloc (.cells (tab 32 .u8 zf) 40)) w.heap.size = some 32 ∧ rowOf (wr.alloc (.cells (tab 32 .u8 zf) 40)) H = tab 25 .u64 S ∧ rowOf (wr.alloc (.cells (tab 32 .u8 zf) 40)) wr.heap.size = tab 32 .u8 (upK (outF S) 0) ∧ rowFit (wr.alloc (.cells (tab 32 .u8 zf) 40)) wr.heap.size = some 32 ∧ wr.heap.size < (wr.alloc (.cells (tab 32 .u8 zf) 40)).heap.size ∧ H < wr.heap.size ∧ Below w.heap.size w (wr.alloc (.cells (tab 32 .u8 zf) 40)) := by
            refine ⟨by rw [rowFit_alloc_past _ _ _ (by omega), q0], by rw [rowOf_alloc_past _ _ _ sH, rH], by rw [rowOf_alloc_at _ _ _ _ rfl, upK_zero], by rw [rowFit_alloc_at _ _ _ _ rfl, tab_size], by rw [World.size_alloc]; omega, sH, hb.alloc (by omega) _⟩
          obtain ⟨R, hR⟩ : ∃ R, wr.heap.size = R := ⟨_, rfl⟩
          rw [hR] at hT ⊢
          clear q0 rH qH sH hb hR
          go_loopw [8] (fun i wr => ∃ j : Nat, j ≤ 32 ∧ i = .int .i64 j ∧ rowFit wr w.heap.size = some 32 ∧ rowOf wr H = tab 25 .u64 S ∧ rowOf wr R = tab 32 .u8 (upK (outF S) j) ∧ rowFit wr R = some 32 ∧ R < wr.heap.size ∧ H < R ∧ Below w.heap.size w wr) (fun i _ => 32 - (intOf i).toNat)
          case atStart => exact ⟨0, by omega, rfl, hT⟩
          case round =>
            obtain ⟨j, hj, rfl, q0, r1, rR, qR, sR, s3, hb⟩ := hrel
            clear hT
            by_cases hlt2 : j < 32
            · have hout : outF S j = S (j / 8) / 2 ^ (j % 8 * 8) % 256 := rfl
              have e8 : (j : Int).tmod 8 = ((j % 8 : Nat) : Int) := by rw [Int.tmod_eq_emod_of_nonneg (by omega)]; omega
              have e9 : (j : Int).tdiv 8 = ((j / 8 : Nat) : Int) := by rw [Int.tdiv_eq_ediv_of_nonneg (by omega)]; omega
              have e8' : (j : Int) % 8 = ((j % 8 : Nat) : Int) := by omega
              have e9' : (j : Int) / 8 = ((j / 8 : Nat) : Int) := by omega
              obtain ⟨q, hq⟩ : ∃ q, j / 8 = q := ⟨_, rfl⟩
              obtain ⟨r, hr⟩ : ∃ r, j % 8 = r := ⟨_, rfl⟩
              rw [hq] at hout e9 e9'
              rw [hr, Nat.mul_comm r 8] at hout
              rw [hr] at e8 e8'
              have hq5 : q < 25 ∧ (q : Int) < 25 ∧ (0 : Int) ≤ q := by omega
              have hr5 : r < 8 ∧ (r : Int) < 8 ∧ (0 : Int) ≤ r := by omega
              have k1 : IntKind.i64.wrap (8 * (r : Int)) = 8 * r := i64w (by omega) (by omega)
              have k2 : (0 : Int) ≤ 8 * (r : Int) := by omega
              have hout' := Lib.hid hout
              clear hout hq hr
              go_wp2
              have hn0 : 0 ≤ S q / 2 ^ (8 * r) := pdivN (hS0'.out q) _
              rw [Int.tmod_eq_emod_of_nonneg hn0, Int.emod_emod_of_dvd _ (Int.dvd_refl 256)]
              refine ⟨⟨j + 1, by omega, by go_num, ?_, ?_, ?_, ?_, ?_, s3, ?_⟩, by simp [intOf]; omega⟩
              · rw [rowFit_setCell, q0]
              · rw [rowOf_setCell_other _ _ _ _ (by simp; omega), r1]
              · rw [rowOf_setCell_same, rR, tab_set, upK_succ (outF S) j _ hout'.out.symm]
              · rw [rowFit_setCell, qR]
              · rw [World.size_setCell]; exact sR
              · exact hb.setCell (by simp; omega) _
            · have hn5 : j = 32 := by omega
              rw [hn5, upK_tab] at rR
              clear hn5
              go_wp2
              refine bodyPost_ret (res_hash Tryd.results24 _ _ _ (tab 32 .u8 (outF S)) rfl (by rw [rowOf_setRow_same _ _ _ (by rw [q0]; rfl)]) (by simp [go_sem])) rfl ⟨by rw [← hsum'.out], ?_⟩
              exact below_setRow' hb (by omega) _
end Go.Proofs.YtfjigoimjaemmaaDoor
