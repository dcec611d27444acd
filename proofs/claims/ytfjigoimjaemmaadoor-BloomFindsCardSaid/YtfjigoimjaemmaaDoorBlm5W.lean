/- the filter: the chapter's examples; BloomHas. -/
import Derived.Test.YtfjigoimjaemmaaDoorBlm4W
namespace Go.Proofs.YtfjigoimjaemmaaDoor
open Go.RowKit
set_option linter.unusedSimpArgs false
set_option linter.unusedVariables false
set_option maxRecDepth 100000
attribute [local irreducible] sumF KLaid
attribute [local go_sem ↓] Go.wp_at_zero Go.wp_at_succ

theorem foldl_part (acc cs : Array Value) (n : Nat) (hn : cs.size = n) (h : n ≤ acc.size) :
    Array.foldl (fun cs x => cs.setIfInBounds x.snd x.fst) acc cs.zipIdx 0 n = (cs.toList ++ acc.toList.drop n).toArray := by
  subst hn
  have e : cs.zipIdx.size = cs.size := by simp
  rw [← e, ← Array.foldl_toList, Array.toList_zipIdx, foldl_set _ _ _ (by simp; omega)]
  simp
/-- the example's log -/
def fixL : LogV := ⟨upd zf 0 1, none, 0, 0, fun _ => zf, none, 0, 0, zf⟩
theorem fix_lit : Array.foldl (fun (cs : Array Value) (x : Value × Nat) => cs.setIfInBounds x.snd x.fst) #[Value.int .u8 0, Value.int .u8 0, Value.int .u8 0, Value.int .u8 0, Value.int .u8 0, Value.int .u8 0, Value.int .u8 0, Value.int .u8 0, Value.int .u8 0, Value.int .u8 0, Value.int .u8 0, Value.int .u8 0, Value.int .u8 0, Value.int .u8 0, Value.int .u8 0, Value.int .u8 0, Value.int .u8 0, Value.int .u8 0, Value.int .u8 0, Value.int .u8 0, Value.slice none 0 0, Value.slice none 0 0] (tab 20 .u8 (upd zf 0 1)).zipIdx 0 20 = fixL.row := by
  rw [foldl_part _ _ 20 (tab_size _ _ _) (by decide)]
  rfl
theorem fixL_ok (w : World) : fixL.Ok w := ⟨fun j _ => by simp only [fixL, upd, zf]; split <;> omega, fun j hj => absurd hj (by simp [fixL]), fun j hj => absurd hj (by simp [fixL]), fun j hj => absurd hj (by simp [fixL]), fun j hj => absurd hj (by simp [fixL])⟩
theorem fix_logs (w : World) (g : Nat) (hr : rowOf w g = fixL.row) (hg : g < w.heap.size) : Logs w (some ⟨g, 0, none⟩) 1 (fun _ => fixL) := fun j hj => by
  obtain rfl : j = 0 := by omega
  refine ⟨⟨⟨g, 0, none⟩, rfl, hg, by rw [block_add]; exact hg, fun i v hv => ?_⟩, fixL_ok w⟩
  simp only [Nat.zero_mul, Addr.add_lit, Nat.zero_add, cell_of_rowOf, hr]
  simpa using hv
theorem cnt_fix (L : Nat → LogV) (h : (L 0).tn = 0) : 1 ≤ cnt (bitB (addL zf L 1)) 2048 ∧ cnt (bitB (addL zf L 1)) 2048 ≤ 3 := by
  have e : cnt (bitB (addL zf L 1)) 2048 = cnt (inP (sumF (L 0).addr 20)) 2048 := cnt_congr _ fun i hi => by
    rw [bitB_addL zf_B L i hi 1, bitB_zf, inL, inL, h, inT]; simp
  rw [e]
  exact cnt_inP _

set_option maxHeartbeats 1000000 in
theorem fixed29_any (w : World) (hK : KLaid w) :
    Calls Tryd.prog 29 #[] w fun e w' => e = .returned (.bool true) ∧ Below w.heap.size w w' := by
  have hOf := fun (w1 : World) (hb : Below w.heap.size w w1) (hr : rowOf w1 w.heap.size = fixL.row) (hs : w.heap.size < w1.heap.size) => of_any (some ⟨w.heap.size, 0, none⟩) 1 1 (fun _ => fixL) w1 (hK.below hb) (fix_logs w1 _ hr hs) (by omega) (fun j hj => by simp [fixL])
  have hNil := fun (w1 : World) (hb : Below w.heap.size w w1) => of_any none 0 0 (fun _ => fixL) w1 (hK.below hb) (fun j hj => absurd hj (by omega)) (by omega) (fun j hj => absurd hj (by omega))
  rw [show addL zf (fun _ => fixL) 0 = zf from by rw [addL]] at hNil
  have hcf := cnt_fix (fun _ => fixL) (by simp [fixL])
  have hBB : B256 (addL zf (fun _ => fixL) 1) := addL_B zf_B _ _
  obtain ⟨b, hb⟩ : ∃ b, addL zf (fun _ => fixL) 1 = b := ⟨_, rfl⟩
  rw [hb] at hOf hcf hBB
  have hCn := fun (w1 : World) => count_any b hBB w1
  obtain ⟨T, hT⟩ : ∃ T, cnt (bitB b) 2048 = T := ⟨_, rfl⟩
  rw [hT] at hCn hcf
  have hc1 : (1 : Int) ≤ (T : Int) := by omega
  have hc2 : (T : Int) ≤ 3 := by omega
  have hlit := fix_lit
  have hOf' := Lib.hid hOf
  have hNil' := Lib.hid hNil
  have hCn' := Lib.hid hCn
  clear hOf hNil hCn hcf hBB hT hb hK
  go_enter Tryd.func29, Tryd.ntmps29
  go_wp2_with (first
    | (go_at_call 32; first
      | ((with_reducible refine (hOf'.out _ ((Below.refl _ _).alloc (Nat.le_refl _) _) (rowOf_alloc_at _ _ _ _ rfl) (by simp)).mono ?_); rintro e w1 ⟨rfl, hb1⟩; have hB1 := Lib.hid (((Below.refl _ _).alloc (Nat.le_refl _) _).trans (hb1.mono (by simp))))
      | ((with_reducible refine (hNil'.out _ hB2.out).mono ?_); rintro e w3 ⟨rfl, hb3⟩; have hB3 := Lib.hid (hB2.out.trans (hb3.mono hB2.out.size))))
    | (go_at_call 37; refine (hCn'.out _).mono ?_; rintro e w2 ⟨rfl, hb2⟩; have hB2 := Lib.hid (hB1.out.trans (hb2.mono hB1.out.size))))
  go_ret
  exact ⟨rfl, hB3.out⟩
end Go.Proofs.YtfjigoimjaemmaaDoor
