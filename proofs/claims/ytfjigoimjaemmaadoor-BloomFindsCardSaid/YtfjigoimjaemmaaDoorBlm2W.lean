/- the filter: the walks of Join, Count, and of the reference's Bit and Places. -/
import Derived.Test.YtfjigoimjaemmaaDoorBlmW
import Derived.Test.YtfjigoimjaemmaaDoorOwn2
import Derived.Test.YtfjigoimjaemmaaDoorBlm2F
import Derived.Test.YtfjigoimjaemmaaDoorShelf
import Derived.Deep.RegionHeld
namespace Go.Proofs.YtfjigoimjaemmaaDoor
open Go.RowKit
set_option linter.unusedSimpArgs false
set_option linter.unusedVariables false
set_option maxRecDepth 100000
attribute [local irreducible] sumF KLaid
attribute [local go_sem ↓] Go.wp_at_zero Go.wp_at_succ

/-- the first k bytes joined -/
def joinN (a b : Nat → Int) (k : Nat) : Nat → Int := fun j => if j < k then bits .or .u8 (a j) (b j) else a j
set_option maxHeartbeats 1000000 in
theorem join_any (a b : Nat → Int) (w : World) :
    Calls Tryd.prog 30 #[.agg (tab 256 .u8 a), .agg (tab 256 .u8 b)] w fun e w' => e = .returned (.agg (tab 256 .u8 (joinF a b))) ∧ Below w.heap.size w w' := by
  obtain ⟨J, hJ⟩ : ∃ J : Nat → Nat → Int, ∀ k, J k = joinN a b k := ⟨joinN a b, fun _ => rfl⟩
  have hJ' := Lib.hid hJ
  clear hJ
  go_enter Tryd.func30, Tryd.ntmps30
  go_wp2
  go_loopw [6] (fun i wr => ∃ k : Nat, k ≤ 256 ∧ i = .int .i64 k ∧ rowOf wr w.heap.size = tab 256 .u8 (J k) ∧ rowOf wr (w.heap.size + 1) = tab 256 .u8 b ∧ rowFit wr w.heap.size = some 256 ∧ rowFit wr (w.heap.size + 1 + 1) = some 256 ∧ w.heap.size + 2 < wr.heap.size ∧ Below w.heap.size w wr) (fun i _ => 256 - (intOf i).toNat)
  case atStart =>
    refine ⟨0, by omega, rfl, ?_, ?_, ?_, ?_, by simp, by (repeat' (first | exact Below.refl _ _ | assumption | refine Below.alloc ?_ (by (try simp only [World.size_alloc, World.size_setCell, World.size_drew, setRow_size] at *); first | done | omega) _ | refine Below.setCell ?_ (by (try simp only [World.size_alloc, World.size_setCell, World.size_drew, setRow_size] at *); first | done | omega) _ | refine Below.drew ?_ | refine Below.trans ?_ (Below.mono (by assumption) (by (try simp only [World.size_alloc, World.size_setCell, World.size_drew, setRow_size] at *); first | done | omega)) | refine below_setRow' ?_ (by (try simp only [World.size_alloc, World.size_setCell, World.size_drew, setRow_size] at *); first | done | omega) _))⟩
    · simp [go_sem]
      exact tab_ext fun j hj => by rw [hJ'.out, joinN, if_neg (by omega)]
    · simp [go_sem]
    · simp [go_sem]
    · simp [go_sem]
  case round =>
    obtain ⟨k, hk, rfl, r0, r1, q0, q2, sz, hb⟩ := hrel
    by_cases hlt : k < 256
    · obtain ⟨g, hg⟩ : ∃ g, J k = g := ⟨_, rfl⟩
      rw [hg] at r0
      have hki : (k : Int) < 256 := by omega
      have hb' := Lib.hid hb
      have hg' := Lib.hid hg
      clear hb hg
      go_wp2
      go_region
      all_goals
        go_wp2
        refine ⟨⟨k + 1, by omega, by go_num, ?_, ?_, ?_, ?_, ?_, ?_⟩, by simp [intOf]; omega⟩
        · rw [rowOf_drew, rowOf_setCell_same, r0, tab_set]
          exact tab_ext fun j hj => by
            rw [hJ'.out, upd, joinN, ← hg'.out, hJ'.out]
            by_cases h : j = k
            · rw [if_pos h, if_pos (by omega), joinN, if_neg (by omega), h]
            · rw [if_neg h, joinN]
              by_cases h2 : j < k
              · rw [if_pos h2, if_pos (by omega)]
              · rw [if_neg h2, if_neg (by omega)]
        · rw [rowOf_drew, rowOf_setCell_other _ _ _ _ (by simp), r1]
        · rw [rowFit_drew, rowFit_setCell, q0]
        · rw [rowFit_drew, rowFit_setCell, q2]
        · simpa using sz
        · exact (hb'.out.setCell (by simp) _).drew
    · obtain rfl : k = 256 := by omega
      rw [show tab 256 .u8 (J 256) = tab 256 .u8 (joinF a b) from tab_ext fun j hj => by rw [hJ'.out, joinN, if_pos hj]; rfl] at r0
      go_wp2
      refine bodyPost_ret (res_bloom Tryd.results30 _ _ _ (tab 256 .u8 (joinF a b)) rfl (by rw [rowOf_setRow_same _ _ _ (by rw [q2]; rfl)]) (by rw [tab_size])) rfl ⟨rfl, ?_⟩
      exact below_setRow' hb (by omega) _

set_option maxHeartbeats 1000000 in
theorem bit_any (b : Nat → Int) (hB : B256 b) (n : Nat) (hn : n < 2048) (w : World) :
    Calls Tryd.prog 31 #[.agg (tab 256 .u8 b), .int .i64 n] w fun e w' => e = .returned (.bool (bitB b n)) ∧ Below w.heap.size w w' := by
  have hv := hB (255 - n / 8) (by omega)
  have hbit : bitB b n = decide (b (255 - n / 8) / 2 ^ (n % 8) % 2 = 1) := bt_div _ hv.1 _
  have i0 : (0 : Int) ≤ 255 - (n : Int) / 8 := by omega
  have i1 : (255 : Int) - (n : Int) / 8 < 256 := by omega
  have i2 : ((255 : Int) - (n : Int) / 8).toNat = 255 - n / 8 := by omega
  obtain ⟨v, hvv⟩ : ∃ v, b (255 - n / 8) = v := ⟨_, rfl⟩
  rw [hvv] at hbit hv
  rw [hbit]
  clear hbit hB
  go_enter Tryd.func31, Tryd.ntmps31
  go_wp2
  go_loop [5, 6] (fun x i => ∃ k : Nat, k ≤ n % 8 ∧ i = .int .i64 k ∧ x = .int .i64 (v / 2 ^ k)) (fun _ i => n % 8 - (intOf i).toNat)
  case atStart => exact ⟨0, by omega, rfl, by simp⟩
  case round =>
    obtain ⟨k, hk, rfl, rfl⟩ := hrel
    have hP := pdiv_nonneg hv.1 k
    have hP2 := pdiv_lt hv.1 hv.2 k
    by_cases hlt : k < n % 8
    · go_wp2
      refine ⟨⟨k + 1, by omega, by go_num, ?_⟩, by simp [intOf]; omega⟩
      rw [pdiv_succ]
    · obtain rfl : k = n % 8 := by omega
      go_wp2
      go_ret
      refine ⟨?_, by (repeat' (first | exact Below.refl _ _ | assumption | refine Below.alloc ?_ (by (try simp only [World.size_alloc, World.size_setCell, World.size_drew, setRow_size] at *); first | done | omega) _ | refine Below.setCell ?_ (by (try simp only [World.size_alloc, World.size_setCell, World.size_drew, setRow_size] at *); first | done | omega) _ | refine Below.drew ?_ | refine Below.trans ?_ (Below.mono (by assumption) (by (try simp only [World.size_alloc, World.size_setCell, World.size_drew, setRow_size] at *); first | done | omega)) | refine below_setRow' ?_ (by (try simp only [World.size_alloc, World.size_setCell, World.size_drew, setRow_size] at *); first | done | omega) _))⟩
      rfl

@[go_sem ↓] theorem run_index_bloom (f : Nat → Int) (k : Nat) (w : World) : (Instr.index 52 (.agg (tab 256 .u8 f)) (.int .i64 (k : Int))).run Tryd.prog w = if k < 256 then .ok (.int .u8 (f k)) w else (Instr.index 52 (.agg (tab 256 .u8 f)) (.int .i64 (k : Int))).run Tryd.prog w := by
  split
  · rename_i h
    simp [Instr.index, go_sem, Tryd.underlying52, h]
  · rfl

theorem popAux_le (f x : Nat) : Lib.popAux f x ≤ f := by
  induction f generalizing x with
  | zero => simp [Lib.popAux]
  | succ f ih => unfold Lib.popAux; have := ih (x / 2); omega
theorem sumN_le (f : Nat → Nat) (m : Nat) (hf : ∀ j, f j ≤ m) (k : Nat) : sumN f k ≤ m * k := by
  induction k with
  | zero => simp [sumN]
  | succ k ih => unfold sumN; have := hf k; rw [Nat.mul_succ]; omega

theorem ones_le (x : Nat) : Lib.onesCount x ≤ 64 := popAux_le 64 x
theorem sumN_succ (f : Nat → Nat) (k : Nat) : sumN f (k + 1) = sumN f k + f k := rfl
theorem sumN_zero (f : Nat → Nat) : sumN f 0 = 0 := rfl
attribute [local irreducible] sumN cnt Lib.onesCount Lib.popAux
set_option maxHeartbeats 1000000 in
theorem count_any (b : Nat → Int) (hB : B256 b) (w : World) :
    Calls Tryd.prog 37 #[.agg (tab 256 .u8 b)] w fun e w' => e = .returned (.int .i64 (cnt (bitB b) 2048)) ∧ Below w.heap.size w w' := by
  obtain ⟨T, hT⟩ : ∃ T, cnt (bitB b) 2048 = T := ⟨_, rfl⟩
  have hall := cnt_all hB
  rw [hT] at hall ⊢
  have hall' := Lib.hid hall
  have hB' := Lib.hid hB
  clear hB hall hT
  go_enter Tryd.func37, Tryd.ntmps37
  go_wp2
  go_loop [3, 7] (fun n i => ∃ k : Nat, k ≤ 256 ∧ i = .int .i64 k ∧ n = .int .i64 (sumN (fun j => Lib.onesCount (b j).toNat) k)) (fun _ i => 256 - (intOf i).toNat)
  case atStart => exact ⟨0, by omega, rfl, by rw [sumN_zero]; rfl⟩
  case round =>
    obtain ⟨k, hk, rfl, rfl⟩ := hrel
    by_cases hlt : k < 256
    · have hv := hB'.out k hlt
      have hs := sumN_le (fun j => Lib.onesCount (b j).toNat) 64 (fun j => ones_le _) k
      have ho : Lib.onesCount (b k).toNat ≤ 64 := ones_le _
      obtain ⟨S, hS⟩ : ∃ S, sumN (fun j => Lib.onesCount (b j).toNat) k = S := ⟨_, rfl⟩
      obtain ⟨O, hO⟩ : ∃ O, Lib.onesCount (b k).toNat = O := ⟨_, rfl⟩
      have hC := Tryd.bits_OnesCount8 (b k) w hv.1 (by omega)
      have hc := fun (w : World) => Tryd.bits_OnesCount8 (b k) w hv.1 (by omega)
      rw [hS] at hs ⊢
      rw [hO] at ho
      have hc2 : ∀ w : World, Calls Tryd.prog 72 #[.int .u8 (b k)] w fun e w' => e = .returned (.int .i64 (O : Int)) ∧ w = w' := fun w => (hc w).mono fun e w' h => by rw [hO] at h; exact ⟨h.1, h.2.symm⟩
      have hc' := Lib.hid hc2
      have hS' := Lib.hid hS
      have hO' := Lib.hid hO
      clear hC hc hc2 hS hO
      go_wp2_with (go_at_call 72; refine (hc'.out _).mono ?_; rintro e w1 ⟨rfl, rfl⟩)
      refine ⟨⟨k + 1, by omega, by go_num, ?_⟩, by simp [intOf]; omega⟩
      rw [sumN_succ, hS'.out, hO'.out]
      go_num
    · obtain ⟨S, hS⟩ : ∃ S, sumN (fun j => Lib.onesCount (b j).toNat) k = S := ⟨_, rfl⟩
      have hST : S = T := by rw [← hS, show k = 256 by omega]; exact hall'.out
      have hki : ¬ (k : Int) < 256 := by omega
      rw [hS, hST]
      clear hS hST
      go_wp2
      go_ret
      exact ⟨rfl, by (repeat' (first | exact Below.refl _ _ | assumption | refine Below.alloc ?_ (by (try simp only [World.size_alloc, World.size_setCell, World.size_drew, setRow_size] at *); first | done | omega) _ | refine Below.setCell ?_ (by (try simp only [World.size_alloc, World.size_setCell, World.size_drew, setRow_size] at *); first | done | omega) _ | refine Below.drew ?_ | refine Below.trans ?_ (Below.mono (by assumption) (by (try simp only [World.size_alloc, World.size_setCell, World.size_drew, setRow_size] at *); first | done | omega)) | refine below_setRow' ?_ (by (try simp only [World.size_alloc, World.size_setCell, World.size_drew, setRow_size] at *); first | done | omega) _))⟩

/-- at the append of one number, in a drawn region -/
theorem step_app1 {P : Program} {w : World} {ops : Array Oper} {o : Oper} {a : Act} {K : Act → World → Prop} {Q : Exit → Act → World → Prop} {E : Prop} {t e : TypeId} {k : IntKind} {bytes : Nat} (hE : IntElem P t e k bytes) (hgd : o.guard = none) (s x : Operand)
    (ho : o.op = .call { callee := .builtin .append, args := #[s, x], argTypes := #[t, t] }) (lo : Nat) (v : Value) (l : List Int) (hs : a.eval s = v) (hown : OwnI w lo e k v l)
    (g0 c : Nat) (u : Int) (hx : a.eval x = .slice (some ⟨g0, 0, none⟩) 1 c) (hnews : rowOf w g0 = #[.int k u])
    (h63 : l.length + 1 ≤ maxLen) (hbytes : (l.length + 1) * bytes ≤ 140737488355328) (hbase : lo ≤ w.heap.size) (H : Nat) (hH : w.heap.size = H)
    (h : ∀ g cap w', OwnI w' lo e k (.slice (some ⟨g, 0, none⟩) (l.length + 1) cap) (l ++ [u]) → Only (fun b => v.ownBlock = some b) w w' → (v.ownBlock = some g ∨ g = H) → g < w'.heap.size → K (a.put o.dst (.slice (some ⟨g, 0, none⟩) (l.length + 1) cap)) w') :
    if Region.wanted o (yielded ops a.tmps) = true then Oper.wp P o a w K Q else E := by
  obtain ⟨i, hi, hz, hsz, hb⟩ := hE.hi
  refine step_append_lies w hgd s x t ho lo e i (.int k 0) 1 bytes hE.ht hi hz hsz hb rfl (by omega) v l.length _ hs hown ⟨g0, 0, none⟩ 1 c [.int k u] hx rfl (fun j y hy => ?_) (by simp [Value.oneCell']) (by omega) h63 hbytes hbase H hH (fun g cap w' ho' hg' h3 h4 => h g cap w' ?_ (Only.of_grown hg' |>.weaken fun x _ hx => hx) h3 h4)
  · rw [Addr.add_lit, cell_of_rowOf, Nat.zero_add, hnews]; simpa using hy
  · unfold OwnI; rw [List.length_append, List.length_singleton, List.map_append]; exact ho'
theorem intsElem : IntElem Tryd.prog 70 3 .i64 8 := .mk' Tryd.underlying70 (by kernel_rfl)
set_option maxHeartbeats 1000000 in
theorem refPlaces_any (A : Option Addr) (n c : Nat) (x : Nat → Int) (w : World) (hx : Ints w .u8 A n x) (hn : n ≤ 1000000000) (hxb : ∀ j, j < n → 0 ≤ x j ∧ x j < 256) :
    Calls Tryd.prog 38 #[.slice A n c] w fun e w' => (∃ A' c', e = .returned (.slice A' 3 c') ∧ Ints w' .i64 A' 3 (plI (sumF x n)) ∧ ∀ a, A' = some a → w.heap.size ≤ a.block) ∧ Below w.heap.size w w' := by
  have hS := refSum_any A n c x w hx hn hxb
  obtain ⟨f, hf⟩ : ∃ f, sumF x n = f := ⟨_, rfl⟩
  have hfb : ∀ j, 0 ≤ f j ∧ f j < 256 := fun j => by rw [← hf]; exact hash_bd x n j
  rw [hf] at hS ⊢
  have hS' := Lib.hid hS
  have hfb' := Lib.hid hfb
  clear hS hx hxb hf hfb
  go_enter Tryd.func38, Tryd.ntmps38
  go_wp2_with (first
    | (go_at_call 24; refine (hS'.out).mono ?_; rintro e w1 ⟨rfl, hb1⟩; have hs1 := hb1.size))
  obtain ⟨G, hG⟩ : ∃ G, w1.heap.size = G := ⟨_, rfl⟩
  have hwb : Below w.heap.size w ((w1.alloc (.cells (tab 32 .u8 f) 40)).alloc (.cells #[] 3)) := ((hb1.alloc (by omega) _).alloc (by simp; omega) _)
  have hI0 : OwnI ((w1.alloc (.cells (tab 32 .u8 f) 40)).alloc (.cells #[] 3)) (G + 1) 3 .i64 (.slice (some ⟨G + 1, 0, none⟩) 0 0) [] := by
    have := OwnI.lit (w1.alloc (.cells (tab 32 .u8 f) 40)) (G + 1) 3 .i64 #[] [] rfl (by simp [hG]) (by simp)
    simpa [hG] using this
  have hr0 : rowOf ((w1.alloc (.cells (tab 32 .u8 f) 40)).alloc (.cells #[] 3)) G = tab 32 .u8 f := by
    rw [rowOf_alloc_past _ _ _ (by simp [hG]), rowOf_alloc_at _ _ _ _ hG.symm]
  rw [hG] at hs1 ⊢
  have hwb' := Lib.hid hwb
  have hI0' := Lib.hid hI0
  have hr0' := Lib.hid hr0
  have hG' := Lib.hid hG
  clear hwb hI0 hr0 hG hb1
  go_loopw [4, 5] (fun v i wr => ∃ k : Nat, k ≤ 3 ∧ i = .int .i64 k ∧ rowOf wr G = tab 32 .u8 f ∧ OwnI wr (G + 1) 3 .i64 v (tl k (plI f)) ∧ G + 1 < wr.heap.size ∧ Below w.heap.size w wr) (fun _ i _ => 3 - (intOf i).toNat)
  case atStart => exact ⟨0, by omega, rfl, hr0'.out, hI0'.out, by simp [hG'.out], hwb'.out⟩
  case round =>
    obtain ⟨k, hk, rfl, r0, hO, sz, hb⟩ := hrel
    have hO' := Lib.hid hO
    have hb' := Lib.hid hb
    clear hO hb
    by_cases hlt : k < 3
    · have h1 := hfb'.out (2 * k)
      have h2 := hfb'.out (2 * k + 1)
      have k0 : (0 : Int) ≤ 2 * (k : Int) := by omega
      have k1 : 2 * (k : Int) < 32 := by omega
      have k2 : (2 * (k : Int)).toNat = 2 * k := by omega
      have k3 : (0 : Int) ≤ 2 * (k : Int) + 1 := by omega
      have k4 : 2 * (k : Int) + 1 < 32 := by omega
      have k5 : (2 * (k : Int) + 1).toNat = 2 * k + 1 := by omega
      have k6 : (k : Int) < 3 := by omega
      have e1 : IntKind.i64.wrap (2 * (k : Int)) = 2 * (k : Int) := i64w (by omega) (by omega)
      have e2 : IntKind.i64.wrap (2 * (k : Int) + 1) = 2 * (k : Int) + 1 := i64w (by omega) (by omega)
      have e3 : IntKind.i64.wrap (f (2 * k)) = f (2 * k) := i64w (by omega) (by omega)
      have e4 : IntKind.i64.wrap (f (2 * k + 1)) = f (2 * k + 1) := i64w (by omega) (by omega)
      have e5 : IntKind.i64.wrap (256 * f (2 * k)) = 256 * f (2 * k) := i64w (by omega) (by omega)
      have e6 : IntKind.i64.wrap (256 * f (2 * k) + f (2 * k + 1)) = 256 * f (2 * k) + f (2 * k + 1) := i64w (by omega) (by omega)
      have e7 : (256 * f (2 * k) + f (2 * k + 1)).tmod 2048 = plI f k := by rw [Int.tmod_eq_emod_of_nonneg (by omega), plI_eq]
      have n1 : 2 * k < 32 := by omega
      have n2 : 2 * k + 1 < 32 := by omega
      clear h1 h2
      go_wp2
      have hfin : ∀ (w1 w2 : World) (v v2 : Value), Below wr.heap.size wr w1 → rowOf w1 G = tab 32 .u8 f → OwnI wr (G + 1) 3 .i64 v (tl k (plI f)) → OwnI w2 (G + 1) 3 .i64 v2 (tl k (plI f) ++ [plI f k]) → Only (fun b => v.ownBlock = some b) w1 w2 →
          rowOf w2 G = tab 32 .u8 f ∧ OwnI w2 (G + 1) 3 .i64 v2 (tl (k + 1) (plI f)) ∧ G + 1 < w2.heap.size ∧ Below w.heap.size w w2 := fun w1 w2 v v2 hb1 hr1 hv ho ht => by
        have s1 := hb1.size
        have s2 := ht.size
        refine ⟨(ht.rowOf (by omega) (fun h => by have := (ownsRow_lt hv h).1; omega)).trans hr1, ?_, by omega, ?_⟩
        · have e1 : tl k (plI f) ++ [plI f k] = tl (k + 1) (plI f) := by simp [tl, List.range_succ]
          rw [e1] at ho; exact ho
        · exact (hb'.out.trans (hb1.mono (by omega))).trans (ht.below (by omega) (fun x hx => by have := (ownsRow_lt hv hx).1; omega))
      have hfin' := Lib.hid hfin
      clear hfin
      go_region_law (refine step_app1 intsElem rfl (.tmp 13) (.tmp 28) rfl (G + 1) _ (tl k (plI f)) (by simp [Act.eval, Act.put]) ((hO'.out.only (Only.of_below' (fun _ => False) (show Below wr.heap.size wr (wr.alloc (.cells #[.int .i64 (plI f k)] 3)).drew from ((Below.refl _ _).alloc (Nat.le_refl _) _).drew)) (fun _ _ h => h))) wr.heap.size 1 (plI f k) (by simp [Act.eval, Act.put]) (by rw [rowOf_drew, rowOf_alloc_at _ _ _ _ rfl]) (by simp [tl_length, maxLen]; omega) (by simp [tl_length]; omega) (by simp; omega) (wr.heap.size + 1) (by simp) ?_; rw [tl_length]; intro g2 c2 w2 ho2 ht2 hg2 hl2; have hN := Lib.hid (hfin'.out _ _ _ _ (((Below.refl _ _).alloc (Nat.le_refl _) _).drew) (by rw [rowOf_drew, rowOf_alloc_past _ _ _ (by omega), r0]) hO'.out ho2 ht2); clear ho2 ht2 hg2)
      all_goals
        go_wp2
        exact ⟨⟨k + 1, by omega, by go_num, hN.out⟩, by simp [intOf]; omega⟩
    · obtain rfl : k = 3 := by omega
      obtain ⟨A1, c1, rfl, hc1, hi1, hf1⟩ := hO'.out.ints
      rw [tl_length]
      rw [tl_length] at hi1
      have hi2 := Lib.hid (hi1)
      have hf2 := Lib.hid hf1
      clear hi1 hf1
      go_wp2
      go_ret
      exact ⟨⟨A1, c1, rfl, fun j hj => by (obtain ⟨a, q1, q2, q3⟩ := hi2.out j hj; exact ⟨a, q1, q2, by rw [q3]; simp [List.getD, tl_get 3 _ j hj]⟩), fun a ha => by have := (hf2.out a ha).1; omega⟩, hb'.out⟩
end Go.Proofs.YtfjigoimjaemmaaDoor
