/- a frame's memory: MemSums. -/
import Derived.Test.YtfjigoimjaemmaaMem4W
import Derived.Test.YtfjigoimjaemmaaCutW
namespace Go.Proofs.Ytfjigoimjaemmaa
open Go.RowKit
set_option linter.unusedSimpArgs false
set_option linter.unusedVariables false
set_option maxRecDepth 100000

theorem growL_none (l : List Int) : growL l none = l := rfl
theorem OpV.Ok.wda {o : OpV} {w : World} (h : o.Ok w) : Wd (fn4 (o.a 0) (o.a 1) (o.a 2) (o.a 3)) :=
  wd_fn4 ⟨(h.a 0 (by omega)).1, (h.a 0 (by omega)).2, (h.a 1 (by omega)).1, (h.a 1 (by omega)).2, (h.a 2 (by omega)).1, (h.a 2 (by omega)).2, (h.a 3 (by omega)).1, (h.a 3 (by omega)).2⟩
theorem OpV.Ok.wdb {o : OpV} {w : World} (h : o.Ok w) : Wd (fn4 (o.b 0) (o.b 1) (o.b 2) (o.b 3)) :=
  wd_fn4 ⟨(h.b 0 (by omega)).1, (h.b 0 (by omega)).2, (h.b 1 (by omega)).1, (h.b 1 (by omega)).2, (h.b 2 (by omega)).1, (h.b 2 (by omega)).2, (h.b 3 (by omega)).1, (h.b 3 (by omega)).2⟩

/-- what holds at each round's head -/
def SumsRel (w : World) (m : Nat) (s i : Value) (wr : World) : Prop :=
  ∃ (k : Nat) (l : List Int) (v : Value) (P : Int), k ≤ m ∧ i = .int .i64 k ∧ s = .int .u64 P ∧ P = priceF ((l.length : Int) / 32) ∧ l.length % 32 = 0 ∧ l.length ≤ 4194304 ∧ MemIs wr w.heap.size w.heap.size v l ∧ Below w.heap.size w wr

set_option maxHeartbeats 1000000 in
theorem memSums_any (A : Option Addr) (n c : Nat) (f : Nat → OpV) (w : World) (hf : Ops w A n f) (hc : n ≤ c) (hm : c ≤ maxLen) :
    Calls Try.prog 10 #[.slice A n c] w fun e w' => e = .returned (.bool true) ∧ Below w.heap.size w w' := by
  have hF := Lib.hid hf
  have hC := Lib.hid fun (w1 : World) (hw : Ops w1 A n f) => cut10_any A n c f w1 hw hc hm
  unfold maxLen at hm
  clear hf
  go_enter Try.func10, Try.ntmps10
  go_wp2_with (first
    | (go_at_call 35; refine (memNew_any _).mono ?_; rintro e w1 ⟨rfl, hm1, hb1⟩; have hs1 := hb1.size; have hM1 := Lib.hid hm1; clear hm1)
    | (go_at_call 40; refine (hC.out _ (hF.out.below (Nat.le_refl _) hb1)).mono ?_; rintro e w2 ⟨⟨m, hmn, rfl⟩, hb2⟩; have hM2 := Lib.hid (hM1.out.below hb2); have hB2 := Lib.hid (hb1.trans (hb2.mono hb1.size))))
  go_loopw [4, 15] (fun s i wr => SumsRel w m s i wr) (fun _ i _ => m - (intOf i).toNat)
  case atStart => exact ⟨0, [], _, 0, by omega, rfl, rfl, by decide, rfl, by simp, hM2.out, hB2.out⟩
  case round =>
    obtain ⟨k, l, v, P, hk, rfl, rfl, hP, hl, hl2, hMI, hb⟩ := hrel
    have hsz := hb.size
    have hp0 := priceF_bd ((l.length : Int) / 32) (by omega) (by omega)
    have hp1 := price_small (n := (l.length : Int) / 32) (by omega) (by omega)
    rw [← hP] at hp0 hp1
    by_cases hlt : k < m
    · obtain ⟨a, rfl, ha, hld, hok⟩ := (hF.out.below (Nat.le_refl _) hb).load (show k < n by omega)
      have ha0 : 0 ≤ (f k).a 0 := (hok.a 0 (by omega)).1
      have hb0 : 0 ≤ (f k).b 0 := (hok.b 0 (by omega)).1
      have hCo := fun (w1 : World) (hw : MemIs w1 w.heap.size w.heap.size v l) => memCost_any w1 _ _ v l hw hl2 _ _ hok.wda hok.wdb
      have hRe := fun (w1 : World) (hw : MemIs w1 w.heap.size w.heap.size v l) (hs : w.heap.size ≤ w1.heap.size) => memReach_any w1 _ _ v l hw hl2 hs _ _ hok.wda hok.wdb
      have hB0 := Lib.hid (hb.alloc (by omega) (.cells (f k).row 53))
      have hM0 := Lib.hid (hMI.below ((Below.refl _ _).alloc (Nat.le_refl _) (.cells (f k).row 53)))
      have hP' := Lib.hid hP
      clear hP hok hMI
      cases hq : reachF l.length (fn4 ((f k).a 0) ((f k).a 1) ((f k).a 2) ((f k).a 3)) (fn4 ((f k).b 0) ((f k).b 1) ((f k).b 2) ((f k).b 3)) with
      | none =>
        rw [hq] at hCo hRe
        have hCo' := Lib.hid hCo
        have hRe' := Lib.hid hRe
        clear hCo hRe hq
        go_wp2_with (first
          | (go_at_call 38; refine (hCo'.out _ hM0.out).mono ?_; rintro e w5 ⟨rfl, hb5⟩; simp only [World.size_alloc] at hb5; have ⟨gr5, gq5, gs5⟩ := row_facts hb5; simp only [World.size_alloc] at gs5; have hM5 := Lib.hid (hM0.out.below (by simpa using hb5)); have hB5 := Lib.hid (hB0.out.trans (hb5.mono (by omega))); simp only [costV])
          | (go_at_call 36; refine (hRe'.out _ hM5.out (by omega)).mono ?_; rintro e w7 ⟨rfl, v7, hm7, ht7⟩; have hM7 := Lib.hid hm7; have hB7 := Lib.hid (hB5.out.trans (ht7.below hM5.out (Nat.le_refl _) (by omega))); clear hm7 ht7))
        refine ⟨⟨k + 1, l, v7, P, by omega, by go_num, ?_, hP'.out, hl, hl2, hM7.out, hB7.out⟩, by simp [intOf]; omega⟩
        simp
      | some x =>
        have ⟨hx, hx2⟩ := reachF_bd hl2 ha0 hb0 hq
        have hq0 := priceF_bd x (by omega) (by omega)
        have hq1 := price_small (n := x) (by omega) hx2
        have hgl := growL_len hx hl
        rw [hq] at hCo hRe
        rw [show costV l.length (some x) = .tuple #[.int .u64 (priceF x - P), .bool true] from by simp only [costV, hP'.out]] at hCo
        have hCo' := Lib.hid hCo
        have hRe' := Lib.hid hRe
        have hgl' := Lib.hid hgl
        have hmo := price_mono (m := (l.length : Int) / 32) (by omega) hx (by omega)
        rw [← hP'.out] at hmo
        clear hCo hRe hq hgl
        go_wp2_with (first
          | (go_at_call 38; refine (hCo'.out _ hM0.out).mono ?_; rintro e w5 ⟨rfl, hb5⟩; simp only [World.size_alloc] at hb5; have ⟨gr5, gq5, gs5⟩ := row_facts hb5; simp only [World.size_alloc] at gs5; have hM5 := Lib.hid (hM0.out.below (by simpa using hb5)); have hB5 := Lib.hid (hB0.out.trans (hb5.mono (by omega))))
          | (go_at_call 36; refine (hRe'.out _ hM5.out (by omega)).mono ?_; rintro e w7 ⟨rfl, v7, hm7, ht7⟩; have hM7 := Lib.hid hm7; have hB7 := Lib.hid (hB5.out.trans (ht7.below hM5.out (Nat.le_refl _) (by omega))); clear hm7 ht7))
        refine ⟨⟨k + 1, growL l (some x), v7, priceF x, by omega, by go_num, ?_, ?_, ?_, ?_, hM7.out, hB7.out⟩, by simp [intOf]; omega⟩
        · go_num
        · rw [hgl'.out, Int.mul_ediv_cancel_left _ (by omega)]
        · have := hgl'.out; omega
        · have := hgl'.out; omega
    · have hPr := fun (w1 : World) => refPrice_any ((l.length : Int) / 32) (by omega) (by omega) w1
      have he : 3 * ((l.length : Int) / 32) + (l.length : Int) / 32 * ((l.length : Int) / 32) / 512 = P := by rw [hP]; unfold priceF; rw [if_neg (by omega)]
      rw [he] at hPr
      have hPr' := Lib.hid hPr
      have hMI' := Lib.hid hMI
      have hl' : (l.length : Int) % 32 = 0 := by omega
      clear hPr he hP hl hMI
      go_wp2_with (first
        | (go_at_call 32; refine (fixed10_any _).mono ?_; rintro e w6 ⟨rfl, hb6⟩; have hM6 := Lib.hid (hMI'.out.below hb6))
        | (go_at_call 39; refine (memLen_any _ _ _ _ _ hM6.out (by unfold maxLen; omega)).mono ?_; rintro e w8 ⟨rfl, rfl⟩)
        | (go_at_call 34; refine (hPr'.out _).mono ?_; rintro e w9 ⟨rfl, rfl⟩))
      go_ret
      exact ⟨rfl, hb.trans (hb6.mono hsz)⟩
end Go.Proofs.Ytfjigoimjaemmaa
