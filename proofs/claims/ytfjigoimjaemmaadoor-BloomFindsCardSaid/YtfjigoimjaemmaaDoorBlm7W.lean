/- logs: more than is gone through? -/
import Derived.Test.YtfjigoimjaemmaaDoorBlm5W
import Derived.Test.YtfjigoimjaemmaaDoorRows2W
namespace Go.Proofs.YtfjigoimjaemmaaDoor
open Go.RowKit
set_option linter.unusedSimpArgs false
set_option linter.unusedVariables false
set_option maxRecDepth 100000
attribute [local irreducible] sumF KLaid
attribute [local go_sem ↓] Go.wp_at_zero Go.wp_at_succ

theorem add_pos (a : Addr) (n : Nat) (h : n ≠ 0) : a.add n = ⟨a.block, a.off + n, none⟩ := by unfold Addr.add; rw [if_neg h]
/-- logs that are gone through -/
def Small (n : Nat) (L : Nat → LogV) : Prop := n ≤ 30 ∧ ∀ j, j < n → (L j).tn ≤ 30 ∧ (L j).dn ≤ 3000
/-- what Great answers -/
def GreatOut (n : Nat) (L : Nat → LogV) (e : Ending) : Prop := ∃ g : Bool, e = .returned (.bool g) ∧ (g = false → Small n L)

set_option maxHeartbeats 2000000 in
theorem great23_any (cs : Array Value) (A : Option Addr) (n c : Nat) (L : Nat → LogV) (w : World) (h49 : cs.size = 49) (h47 : cs[47]? = some (.slice A n c)) (h48 : cs[48]? = some (.slice none 0 0)) (hL : Logs w A n L) :
    Calls Tryd.prog 67 #[.agg cs] w fun e w' => GreatOut n L e ∧ Below w.heap.size w w' := by
  have hb0 : Below w.heap.size w (w.alloc (.cells cs 82)) := (Below.refl _ _).alloc (Nat.le_refl _) _
  have hL' := Lib.hid (hL.below (Nat.le_refl _) hb0)
  have hr0 : rowOf (w.alloc (.cells cs 82)) w.heap.size = cs := rowOf_alloc_at _ _ _ _ rfl
  have g47 : ∀ h : 47 < cs.size, cs[47]'h = .slice A n c := fun h => by rw [Array.getElem?_eq_getElem h] at h47; exact Option.some.inj h47
  have g48 : ∀ h : 48 < cs.size, cs[48]'h = .slice none 0 0 := fun h => by rw [Array.getElem?_eq_getElem h] at h48; exact Option.some.inj h48
  clear hL hb0
  by_cases hbig : 30 < n
  · have hbi : (30 : Int) < (n : Int) := by omega
    clear hL'
    go_enter Tryd.func67, Tryd.ntmps67
    go_wp2
    go_ret
    exact ⟨⟨true, rfl, fun h => by cases h⟩, by (repeat' (first | exact Below.refl _ _ | assumption | refine Below.alloc ?_ (by (try simp only [World.size_alloc, World.size_setCell, World.size_drew, setRow_size] at *); first | done | omega) _ | refine Below.setCell ?_ (by (try simp only [World.size_alloc, World.size_setCell, World.size_drew, setRow_size] at *); first | done | omega) _ | refine Below.drew ?_ | refine Below.trans ?_ (Below.mono (by assumption) (by (try simp only [World.size_alloc, World.size_setCell, World.size_drew, setRow_size] at *); first | done | omega)) | refine below_setRow' ?_ (by (try simp only [World.size_alloc, World.size_setCell, World.size_drew, setRow_size] at *); first | done | omega) _))⟩
  · have hbi : ¬ (30 : Int) < (n : Int) := by omega
    go_enter Tryd.func67, Tryd.ntmps67
    go_wp2
    go_loop [17] (fun i => ∃ k : Nat, k ≤ n ∧ i = .int .i64 k ∧ ∀ j, j < k → (L j).tn ≤ 30 ∧ (L j).dn ≤ 3000) (fun i => n - (intOf i).toNat)
    case atStart => exact ⟨0, by omega, rfl, fun j hj => by omega⟩
    case round =>
      obtain ⟨k, hk, rfl, hall⟩ := hrel
      have hall' := Lib.hid hall
      clear hall
      by_cases hlt : k < n
      · obtain ⟨⟨a, rfl, ha, hca⟩, hok⟩ := hL'.out k hlt
        have c20 := hca.2 20 _ (by rw [Array.getElem?_toList]; exact (L k).row_20)
        have c21 := hca.2 21 _ (by rw [Array.getElem?_toList]; exact (L k).row_21)
        have hki : (k : Int) < (n : Int) := by omega
        rw [add_pos _ 20 (by omega), block_add, cell_of_rowOf] at c20
        rw [add_pos _ 21 (by omega), block_add, cell_of_rowOf] at c21
        clear hok hca
        by_cases h1 : 30 < (L k).tn
        · have h1i : (30 : Int) < ((L k).tn : Int) := by omega
          go_wp2
          go_ret
          exact ⟨⟨true, rfl, fun h => by cases h⟩, by (repeat' (first | exact Below.refl _ _ | assumption | refine Below.alloc ?_ (by (try simp only [World.size_alloc, World.size_setCell, World.size_drew, setRow_size] at *); first | done | omega) _ | refine Below.setCell ?_ (by (try simp only [World.size_alloc, World.size_setCell, World.size_drew, setRow_size] at *); first | done | omega) _ | refine Below.drew ?_ | refine Below.trans ?_ (Below.mono (by assumption) (by (try simp only [World.size_alloc, World.size_setCell, World.size_drew, setRow_size] at *); first | done | omega)) | refine below_setRow' ?_ (by (try simp only [World.size_alloc, World.size_setCell, World.size_drew, setRow_size] at *); first | done | omega) _))⟩
        · have h1i : ¬ (30 : Int) < ((L k).tn : Int) := by omega
          by_cases h2 : 3000 < (L k).dn
          · have h2i : (3000 : Int) < ((L k).dn : Int) := by omega
            go_wp2
            go_ret
            exact ⟨⟨true, rfl, fun h => by cases h⟩, by (repeat' (first | exact Below.refl _ _ | assumption | refine Below.alloc ?_ (by (try simp only [World.size_alloc, World.size_setCell, World.size_drew, setRow_size] at *); first | done | omega) _ | refine Below.setCell ?_ (by (try simp only [World.size_alloc, World.size_setCell, World.size_drew, setRow_size] at *); first | done | omega) _ | refine Below.drew ?_ | refine Below.trans ?_ (Below.mono (by assumption) (by (try simp only [World.size_alloc, World.size_setCell, World.size_drew, setRow_size] at *); first | done | omega)) | refine below_setRow' ?_ (by (try simp only [World.size_alloc, World.size_setCell, World.size_drew, setRow_size] at *); first | done | omega) _))⟩
          · have h2i : ¬ (3000 : Int) < ((L k).dn : Int) := by omega
            go_wp2
            refine ⟨⟨k + 1, by omega, by go_num, fun j hj => ?_⟩, by simp [intOf]; omega⟩
            by_cases hjk : j = k
            · subst hjk; omega
            · exact hall'.out j (by omega)
      · obtain rfl : k = n := by omega
        go_wp2
        go_ret
        exact ⟨⟨false, rfl, fun _ => ⟨by omega, hall'.out⟩⟩, by (repeat' (first | exact Below.refl _ _ | assumption | refine Below.alloc ?_ (by (try simp only [World.size_alloc, World.size_setCell, World.size_drew, setRow_size] at *); first | done | omega) _ | refine Below.setCell ?_ (by (try simp only [World.size_alloc, World.size_setCell, World.size_drew, setRow_size] at *); first | done | omega) _ | refine Below.drew ?_ | refine Below.trans ?_ (Below.mono (by assumption) (by (try simp only [World.size_alloc, World.size_setCell, World.size_drew, setRow_size] at *); first | done | omega)) | refine below_setRow' ?_ (by (try simp only [World.size_alloc, World.size_setCell, World.size_drew, setRow_size] at *); first | done | omega) _))⟩

set_option maxHeartbeats 1000000 in
theorem great29_any (A : Option Addr) (n c : Nat) (L : Nat → LogV) (w : World) (hL : Logs w A n L) :
    Calls Tryd.prog 28 #[.slice A n c] w fun e w' => GreatOut n L e ∧ Below w.heap.size w w' := by
  have hG := fun (cs : Array Value) (h1 : cs.size = 49) (h2 : cs[47]? = some (.slice A n c)) (h3 : cs[48]? = some (.slice none 0 0)) => great23_any cs A n c L w h1 h2 h3 hL
  have hG' := Lib.hid hG
  clear hG hL
  go_enter Tryd.func28, Tryd.ntmps28
  go_wp2_with (go_at_call 67; refine (hG'.out _ (by rfl) (by rfl) (by rfl)).mono ?_; rintro e w1 ⟨⟨g, rfl, hg⟩, hb1⟩)
  go_ret
  exact ⟨⟨g, rfl, hg⟩, hb1⟩

theorem logElem : RowElem Tryd.prog 50 64 22 72 := .mk' (z := .agg (fixL.row.setIfInBounds 0 (.int .u8 0))) Tryd.underlying50 (by kernel_rfl) rfl (by omega)
/-- the rows of n logs -/
def lrows (n : Nat) (L : Nat → LogV) : List (List Value) := (List.range n).map fun j => (L j).row.toList
theorem lrows_length (n : Nat) (L : Nat → LogV) : (lrows n L).length = n := by simp [lrows]
theorem lrows_lens (n : Nat) (L : Nat → LogV) : ∀ r ∈ lrows n L, r.length = 22 := by
  intro r hr
  simp only [lrows, List.mem_map] at hr
  obtain ⟨j, _, rfl⟩ := hr
  rw [Array.length_toList, LogV.row_size]
theorem lrows_one (n : Nat) (L : Nat → LogV) : ∀ u ∈ (lrows n L).flatten, u.oneCell' = true := by
  intro u hu
  simp only [List.mem_flatten, lrows, List.mem_map] at hu
  obtain ⟨r, ⟨j, _, rfl⟩, hu⟩ := hu
  have := (L j).row_ok
  rw [okCells, Array.all_eq_true] at this
  obtain ⟨i, hi, rfl⟩ := List.mem_iff_getElem.1 hu
  simpa using this i (by simpa using hi)
theorem lrows_get (n : Nat) (L : Nat → LogV) (j : Nat) (h : j < n) : (lrows n L)[j]? = some (L j).row.toList := by simp [lrows, h]
theorem Logs.rowsAt {w : World} {A : Option Addr} {n : Nat} {L : Nat → LogV} (h : Logs w A n L) : RowsAt w A (lrows n L) := by
  refine ⟨fun hne => ?_, fun a ha j u hu => ?_⟩
  · have h0 : 0 < n := by
      rcases Nat.eq_zero_or_pos n with h0 | h0
      · subst h0; exact absurd rfl hne
      · exact h0
    obtain ⟨⟨a, ha, _⟩, _⟩ := h 0 h0
    exact ⟨a, ha⟩
  · have hj := (List.getElem?_eq_some_iff.1 hu).1
    rw [flat_length (lrows_lens n L), lrows_length] at hj
    have hq1 : j / 22 < n := by omega
    have hf := flat_get (lrows_lens n L) (j / 22) (j % 22) _ (lrows_get n L _ hq1) (by omega)
    rw [show j / 22 * 22 + j % 22 = j by omega, hu] at hf
    obtain ⟨⟨a', ha', _, hc⟩, _⟩ := h (j / 22) hq1
    rw [ha] at ha'
    obtain rfl := Option.some.inj ha'
    have := hc.2 (j % 22) u hf.symm
    rw [add_add, show j / 22 * 22 + j % 22 = j by omega] at this
    exact this
theorem OwnR.logs {w : World} {lo : Nat} {A : Option Addr} {n c : Nat} {L : Nat → LogV} (h : OwnR w lo 64 22 (.slice A n c) (lrows n L)) (hok : ∀ j, j < n → (L j).Ok w) : Logs w A n L := fun j hj => by
  obtain ⟨A', c', hv, _, _, h3, h4⟩ := h.form
  simp only [Value.slice.injEq] at hv
  obtain ⟨rfl, _, rfl⟩ := hv
  obtain ⟨a, rfl⟩ := h3 (by intro e; have := congrArg List.length e; rw [lrows_length] at this; simp at this; omega)
  obtain ⟨_, q1, _, _, _, q5⟩ := h4 a rfl
  refine ⟨⟨a, rfl, q1, by rw [block_add]; exact q1, fun i u hu => ?_⟩, hok j hj⟩
  rw [add_add]
  exact q5 j _ (lrows_get n L j hj) i u hu
/-- two rows of logs, one behind the other -/
def catL (n : Nat) (K L : Nat → LogV) (j : Nat) : LogV := if j < n then K j else L (j - n)
theorem catL_rows (n m : Nat) (K L : Nat → LogV) : lrows n K ++ lrows m L = lrows (n + m) (catL n K L) := by
  apply List.ext_getElem?
  intro i
  by_cases h1 : i < n
  · rw [List.getElem?_append_left (by rw [lrows_length]; exact h1), lrows_get _ _ _ h1, lrows_get _ _ _ (by omega), catL, if_pos h1]
  · rw [List.getElem?_append_right (by rw [lrows_length]; omega), lrows_length]
    by_cases h2 : i < n + m
    · rw [lrows_get _ _ _ (by omega), lrows_get _ _ _ h2, catL, if_neg h1]
    · rw [List.getElem?_eq_none (by rw [lrows_length]; omega), List.getElem?_eq_none (by rw [lrows_length]; omega)]
theorem inL_congr {K L : Nat → LogV} (n : Nat) (h : ∀ j, j < n → K j = L j) (i : Nat) : inL K n i = inL L n i := by
  induction n with
  | zero => rfl
  | succ n ih => rw [inL, inL, h n (by omega), ih fun j hj => h j (by omega)]
theorem inL_cat (n : Nat) (K L : Nat → LogV) (i : Nat) : ∀ m, inL (catL n K L) (n + m) i = (inL K n i || inL L m i)
  | 0 => by
    rw [Nat.add_zero, inL_congr n (K := catL n K L) (L := K) (fun j hj => by rw [catL, if_pos hj])]
    simp [inL]
  | m + 1 => by
    rw [← Nat.add_assoc, inL, inL_cat n K L i m, inL, catL, if_neg (by omega), show n + m - n = m by omega]
    cases inT (L m).tx (L m).tn i <;> cases inP (sumF (L m).addr 20) i <;> simp
theorem join_of (n m : Nat) (K L : Nat → LogV) : tl 256 (joinF (addL zf K n) (addL zf L m)) = tl 256 (addL zf (catL n K L) (n + m)) :=
  bitB_ext (joinF_B (addL_B zf_B _ _) (addL_B zf_B _ _)) (addL_B zf_B _ _) fun i hi => by
    rw [bitB_join (addL_B zf_B _ _) (addL_B zf_B _ _) i hi, bitB_addL zf_B K i hi, bitB_addL zf_B L i hi, bitB_addL zf_B _ i hi, bitB_zf, Bool.or_false, Bool.or_false, Bool.or_false, inL_cat]
theorem join_comm {a b : Nat → Int} (ha : B256 a) (hb : B256 b) : tl 256 (joinF a b) = tl 256 (joinF b a) :=
  bitB_ext (joinF_B ha hb) (joinF_B hb ha) fun i hi => by rw [bitB_join ha hb i hi, bitB_join hb ha i hi, Bool.or_comm]
end Go.Proofs.YtfjigoimjaemmaaDoor
