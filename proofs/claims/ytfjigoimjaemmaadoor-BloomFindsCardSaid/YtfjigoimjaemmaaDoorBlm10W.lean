/- the filter: the reference's bits of logs; Same. -/
import Derived.Test.YtfjigoimjaemmaaDoorBlm9W
namespace Go.Proofs.YtfjigoimjaemmaaDoor
open Go.RowKit
set_option linter.unusedSimpArgs false
set_option linter.unusedVariables false
set_option maxRecDepth 100000
attribute [local irreducible] sumF KLaid
attribute [local go_sem ↓] Go.wp_at_zero Go.wp_at_succ

/-- what the first k logs' bytes are -/
def allD (L : Nat → LogV) (k : Nat) : List (Nat × (Nat → Int)) := (List.range k).flatMap fun j => logD (L j) (L j).tn
theorem allD_succ (L : Nat → LogV) (k : Nat) : allD L (k + 1) = allD L k ++ logD (L k) (L k).tn := by simp [allD, List.range_succ]
/-- a bit that one of some rows sets -/
def anyD (l : List (Nat × (Nat → Int))) (i : Nat) : Bool := l.any fun p => inP (sumF p.2 p.1) i
theorem anyD_append (l m : List (Nat × (Nat → Int))) (i : Nat) : anyD (l ++ m) i = (anyD l i || anyD m i) := by simp [anyD]
theorem anyD_log (o : LogV) (i : Nat) : ∀ k, anyD (logD o k) i = (inT o.tx k i || inP (sumF o.addr 20) i)
  | 0 => by simp [anyD, logD, inT]
  | k + 1 => by
    rw [logD_succ, anyD_append, anyD_log o i k, inT]
    simp only [anyD, List.any_cons, List.any_nil, Bool.or_false]
    rw [Bool.or_comm, Bool.or_assoc]
theorem anyD_all (L : Nat → LogV) (i : Nat) : ∀ k, anyD (allD L k) i = inL L k i
  | 0 => rfl
  | k + 1 => by rw [allD_succ, anyD_append, anyD_all L i k, anyD_log, inL, Bool.or_comm, Bool.or_assoc]
theorem anyP_list (Ys : List BV) (i : Nat) : ∀ k, k ≤ Ys.length → anyP (fun j => Ys.getD j default) k i = anyD ((Ys.take k).map BV.dat) i
  | 0, _ => rfl
  | k + 1, h => by
    have hk : k < Ys.length := h
    have hg : Ys.getD k default = Ys[k] := by simp [List.getD, hk]
    rw [anyP, anyP_list Ys i k (by omega), List.take_add_one, List.map_append, anyD_append, hg, List.getElem?_eq_getElem hk]
    simp [anyD, BV.dat]
theorem anyP_logs (Ys : List BV) (L : Nat → LogV) (n : Nat) (h : Ys.map BV.dat = allD L n) : anyP (fun j => Ys.getD j default) Ys.length = inL L n := by
  funext i
  rw [anyP_list Ys i _ (Nat.le_refl _), List.take_length, h, anyD_all]
theorem RowsB.empty (w : World) (lo : Nat) (hlo : lo ≤ w.heap.size) : RowsB (w.alloc (.cells #[] 29)) lo (.slice (some ⟨w.heap.size, 0, none⟩) 0 0) [] :=
  ⟨OwnR.empty w lo _ 1 hlo, fun b h => absurd h (by simp), fun b h => absurd h (by simp), fun b h => absurd h (by simp)⟩

set_option maxHeartbeats 4000000 in
theorem refOf29_any (A : Option Addr) (n c : Nat) (L : Nat → LogV) (w : World) (hL : Logs w A n L) (hS : Small n L) :
    Calls Tryd.prog 33 #[.slice A n c] w fun e w' => (∃ g, e = .returned (.slice (some ⟨g, 0, none⟩) 2048 2048) ∧ rowOf w' g = tabB 2048 (inL L n) ∧ g < w'.heap.size ∧ w.heap.size ≤ g) ∧ Below w.heap.size w w' := by
  have hL' := Lib.hid hL
  have hS' := Lib.hid hS
  have hE := Lib.hid (RowsB.empty w w.heap.size (Nat.le_refl _))
  clear hL hS
  go_enter Tryd.func33, Tryd.ntmps33
  go_wp2
  go_loopw [3, 8] (fun d i wr => ∃ (k : Nat) (A : Option Addr) (m c : Nat) (Ys : List BV), k ≤ n ∧ i = .int .i64 k ∧ d = .slice A m c ∧ m ≤ 31 * k ∧ RowsB wr w.heap.size (.slice A m c) Ys ∧ Ys.map BV.dat = allD L k ∧ Below w.heap.size w wr) (fun _ i _ => n - (intOf i).toNat)
  case atStart => exact ⟨0, _, _, _, [], by omega, rfl, rfl, by omega, hE.out, rfl, (Below.refl _ _).alloc (Nat.le_refl _) _⟩
  case round =>
    obtain ⟨k, AY, m, cY, Ys, hk, rfl, rfl, hm, hY, hdat, hb⟩ := hrel
    have hY' := Lib.hid hY
    have hdat' := Lib.hid hdat
    have hb' := Lib.hid hb
    have sz := hb.size
    clear hY hdat hb
    by_cases hlt : k < n
    · obtain ⟨a, rfl, ha, hld, hok⟩ := (hL'.out.below (Nat.le_refl _) hb'.out).load hlt
      have hki : (k : Int) < (n : Int) := by omega
      have hn30 := hS'.out.1
      have htk := (hS'.out.2 k hlt).1
      have hBt := Lib.hid (bytes29_any (L k) wr hok (by omega))
      have hlen := hY'.out.bss.1
      have hl1 := Lib.hid (show ∀ Zs : List BV, Zs.length = (L k).tn + 1 → (bvs Ys).length + (bvs Zs).length ≤ maxLen from fun Zs h => by rw [bvs_length, bvs_length, h, ← hlen]; unfold maxLen; omega)
      have hl2 := Lib.hid (show ∀ Zs : List BV, Zs.length = (L k).tn + 1 → ((bvs Ys).length + (bvs Zs).length) * 24 ≤ 140737488355328 from fun Zs h => by rw [bvs_length, bvs_length, h, ← hlen]; omega)
      have hsucc := Lib.hid (allD_succ L k)
      have hlen' := Lib.hid hlen
      obtain ⟨tn, htn⟩ : ∃ tn, (L k).tn = tn := ⟨_, rfl⟩
      have htn' := Lib.hid htn
      clear hlen hok htn
      go_wp2_with (first
        | (go_at_call 34; refine hBt.out.mono ?_; rintro e w2 ⟨⟨A2, c2, Zs, rfl, hZ, hZd⟩, hb2⟩; rw [htn'.out] at hZ; rw [htn'.out]; have hs2 := hb2.size; have hZ' := Lib.hid hZ; have hZd' := Lib.hid hZd; have hZl := Lib.hid (show Zs.length = (L k).tn + 1 from (by rw [htn'.out]; exact hZ.bss.1.symm)); have hY2 := Lib.hid (hY'.out.below hb2); have hB2 := Lib.hid (hb'.out.trans (hb2.mono sz)); clear hZ hZd)
        | (at_builtin; refine wpList_app_rows rowsElem rfl (.tmp 11) (.tmp 16) rfl w.heap.size (.slice AY m cY) (bvs Ys) rfl hY2.out.own A2 (tn + 1) c2 (bvs Zs) ((bvs_length Zs).trans (hZ'.out.bss.1.symm)) rfl hZ'.out.own.rowsAt (bvs_lens _) (bvs_one _) (hl1.out Zs hZl.out) (hl2.out Zs hZl.out) (by omega) ?_; intro v5 w5 ho5 ha5; have hR5 := RowsB.cat hY2.out hZ'.out sz (fun x hx => (hY'.out.own.lt hx).2) ho5 ha5; have hR5' := Lib.hid hR5; obtain ⟨A5, c5, e5, -⟩ := hR5.own.form; rw [bvs_length, List.length_append, ← hlen'.out, ← hZ'.out.bss.1] at e5; subst e5; have hB5 := Lib.hid (hB2.out.trans (ha5.1.below (by omega) (fun x hx => (hY'.out.own.lt hx).1))); clear ho5 ha5 hR5))
      exact ⟨⟨k + 1, A5, m + (tn + 1), c5, Ys ++ Zs, by omega, by go_num, rfl, by have := htn'.out; omega, hR5'.out, by rw [List.map_append, hdat'.out, hZd'.out, hsucc.out], hB5.out⟩, by simp [intOf]; omega⟩
    · obtain rfl : k = n := by omega
      have hn30 := hS'.out.1
      have hb1 := hY'.out.bss
      have hSet := Lib.hid (refSet_any AY m cY _ wr hb1.2 (by omega))
      rw [hb1.1, anyP_logs Ys L k hdat'.out, ← hb1.1] at hSet
      clear hb1
      go_wp2_with (go_at_call 40; refine hSet.out.mono ?_; rintro e w2 ⟨rfl, hr2, hg2, hb2⟩; have hr2' := Lib.hid hr2; have hg2' := Lib.hid hg2; clear hr2 hg2)
      go_ret
      exact ⟨⟨_, rfl, hr2'.out, hg2'.out, sz⟩, hb'.out.trans (hb2.mono sz)⟩

set_option maxHeartbeats 4000000 in
theorem refSame_any (b : Nat → Int) (hB : B256 b) (F : Nat → Bool) (hF : ∀ i, i < 2048 → bitB b i = F i) (g : Nat) (w : World) (hg : g < w.heap.size) (hr : rowOf w g = tabB 2048 F) :
    Calls Tryd.prog 36 #[.agg (tab 256 .u8 b), .slice (some ⟨g, 0, none⟩) 2048 2048] w fun e w' => e = .returned (.bool true) ∧ Below w.heap.size w w' := by
  have hb0 := Lib.hid (show Below w.heap.size w (w.alloc (.cells (tab 256 .u8 b) 52)) from (Below.refl _ _).alloc (Nat.le_refl _) _)
  have r0 : rowOf (w.alloc (.cells (tab 256 .u8 b) 52)) w.heap.size = tab 256 .u8 b := rowOf_alloc_at _ _ _ _ rfl
  have g0 : rowOf (w.alloc (.cells (tab 256 .u8 b) 52)) g = tabB 2048 F := (rowOf_alloc_past _ _ _ hg).trans hr
  have z0 : w.heap.size < (w.alloc (.cells (tab 256 .u8 b) 52)).heap.size := by simp
  have hB' := Lib.hid hB
  have hF' := Lib.hid hF
  go_enter Tryd.func36, Tryd.ntmps36
  go_wp2
  clear hB hF hr
  obtain ⟨w0, hw0⟩ : ∃ W, w.alloc (.cells (tab 256 .u8 b) 52) = W := ⟨_, rfl⟩
  rw [hw0] at hb0 r0 g0 z0 ⊢
  clear hw0
  go_loopw [8] (fun i wr => ∃ k : Nat, k ≤ 2048 ∧ i = .int .i64 k ∧ Below w0.heap.size w0 wr) (fun i _ => 2048 - (intOf i).toNat)
  case atStart => exact ⟨0, by omega, rfl, Below.refl _ _⟩
  case round =>
    obtain ⟨k, hk, rfl, hb⟩ := hrel
    have hb9 := Lib.hid hb
    have hsz9 := hb.size
    have t1 := (rowOf_below hb z0).trans r0
    have t2 := (rowOf_below hb (show g < _ by omega)).trans g0
    have z1 : w.heap.size < wr.heap.size := by omega
    have z2 : g < wr.heap.size := by omega
    clear hb r0 g0
    by_cases hlt : k < 2048
    · have hki : (k : Int) < 2048 := by omega
      have hBi := fun (w2 : World) => bit_any b hB'.out k hlt w2
      rw [hF'.out k hlt] at hBi
      obtain ⟨E, hE⟩ : ∃ E, F k = E := ⟨_, rfl⟩
      rw [hE] at hBi
      have hBi' := Lib.hid hBi
      clear hBi
      go_wp2
      go_region_with (go_at_call 31; refine (hBi'.out _).mono ?_; rintro e w5 ⟨rfl, hb5⟩; have hb50 := Lib.hid (((Below.refl wr.heap.size wr).drew).trans (hb5.mono (by simp))); have v1 := (rowOf_below hb50.out z1).trans t1; have v2 := (rowOf_below hb50.out z2).trans t2; have v3 := hb50.out.size; have v4 : g < w5.heap.size := (by omega))
      all_goals
        go_wp2
        exact ⟨⟨k + 1, by omega, by go_num, hb9.out.trans (hb50.out.mono (by omega))⟩, by simp [intOf]; omega⟩
    · obtain rfl : k = 2048 := by omega
      go_wp2
      go_ret
      exact ⟨rfl, hb0.out.trans (hb9.out.mono (by omega))⟩
end Go.Proofs.YtfjigoimjaemmaaDoor
