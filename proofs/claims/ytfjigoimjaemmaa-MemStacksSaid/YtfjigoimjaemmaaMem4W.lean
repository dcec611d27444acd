/- a frame's memory: MemFar. -/
import Derived.Test.YtfjigoimjaemmaaMem3W
import Derived.Deep.Onto
namespace Go.Proofs.Ytfjigoimjaemmaa
open Go.RowKit
set_option linter.unusedSimpArgs false
set_option linter.unusedVariables false
set_option maxRecDepth 100000

theorem MemIs.lower {w : World} {lo lo' g : Nat} {v : Value} {l : List Int} (h : MemIs w lo g v l) (hl : lo' ≤ lo) : MemIs w lo' g v l :=
  ⟨h.1, h.2.1, h.2.2.1.mono hl, by have := h.2.2.2.1; omega, h.2.2.2.2⟩
theorem MTouch.below {w w' : World} {B lo g : Nat} {v v' : Value} {l : List Int} (h : MTouch w w' g v v') (hm : MemIs w lo g v l) (hB : B ≤ lo) (hw : B ≤ w.heap.size) : Below B w w' := by
  refine h.1.below hw ?_
  rintro x (rfl | hx)
  · have := hm.2.2.2.1; omega
  · obtain ⟨A, c, rfl, _, hA⟩ := hm.2.2.1.form
    simp only [Value.ownBlock] at hx
    cases A with
    | none => cases hx
    | some a =>
      have := (hA a rfl).1
      simp at hx; omega
theorem growL_len {l : List Int} {x : Int} (h : (l.length : Int) / 32 ≤ x) (hm : l.length % 32 = 0) : ((growL l (some x)).length : Int) = 32 * x := by
  simp only [growL, List.length_append, List.length_replicate]; omega

set_option maxHeartbeats 1000000 in
theorem memFar_any (a k : Nat → Int) (ha : Wd a) (hk : Wd k) (w : World) :
    Calls Try.prog 9 #[wv a, wv k] w fun e w' => e = .returned (.bool true) ∧ Below w.heap.size w w' := by
  have e1 : reachF ([] : List Int).length (fn4 5 0 0 0) (fn4 3 0 0 0) = some 1 := by decide
  have e4 : (growL [] (some 1)).length = 32 := by decide
  have hR := fun (w1 : World) (lo g : Nat) (hlo : lo ≤ w1.heap.size) (h : MemIs w1 lo g (.slice none 0 0) []) => memReach_any w1 _ g _ [] h (by simp) hlo (fn4 5 0 0 0) (fn4 3 0 0 0) (wd_fn4 (by omega)) (wd_fn4 (by omega))
  rw [e1] at hR
  have hR' := Lib.hid hR
  clear hR
  obtain ⟨l, hl⟩ : ∃ l, growL [] (some 1) = l := ⟨_, rfl⟩
  rw [hl] at e4
  have hC := fun (w1 : World) (lo g : Nat) (v : Value) (h : MemIs w1 lo g v l) => memCost_any w1 _ g _ l h (by omega) a k ha hk
  have hS := fun (w1 : World) (lo g : Nat) (v : Value) (hlo : lo ≤ w1.heap.size) (h : MemIs w1 lo g v l) => memReach_any w1 lo g v l h (by omega) hlo a k ha hk
  have hF := fun (w1 : World) => refReach_any 32 (by omega) (by omega) a k ha hk w1
  rw [show (((32 : Nat) : Int)) = 32 from rfl] at hF
  have ha0 := ha.1.1
  have hk0 := hk.1.1
  rw [e4] at hC hS
  have e4' := Lib.hid e4
  have hl' := Lib.hid hl
  clear hl e1
  cases hq : reachF 32 a k with
  | none =>
    rw [hq] at hC hS hF
    have hC' := Lib.hid hC
    have hS' := Lib.hid hS
    have hF' := Lib.hid hF
    clear hC hS hF hq
    clear e4 ha hk
    go_enter Try.func9, Try.ntmps9
    go_wp2_with (first
      | (go_at_call 35; refine (memNew_any _).mono ?_; rintro e w1 ⟨rfl, hm1, hb1⟩; simp only [World.size_alloc] at hb1 hm1; have hs1 := hb1.size; simp only [World.size_alloc] at hs1; have ⟨gr1, gq1, gs1⟩ := row_facts hb1; have hM1 := Lib.hid hm1; clear hm1)
      | (go_at_call 37; refine (hF'.out _).mono ?_; rintro e w4 ⟨rfl, hb4⟩; have hs4 := hb4.size; have hc4 := hb4.mono (show w.heap.size + 1 + 1 ≤ _ by omega); have ⟨gr4, gq4, gs4⟩ := row_facts hc4; have hM4 := Lib.hid (hM3.out.below hb4); simp only [rreachW])
      | (go_at_call 38; refine (hC'.out _ _ _ _ hM4.out).mono ?_; rintro e w5 ⟨rfl, hb5⟩; have hs5 := hb5.size; have hc5 := hb5.mono (show w.heap.size + 1 + 1 ≤ _ by omega); have ⟨gr5, gq5, gs5⟩ := row_facts hc5; have hM5 := Lib.hid (hM4.out.below hb5); simp only [costV])
      | (go_at_call 32; refine (fixed10_any _).mono ?_; rintro e w6 ⟨rfl, hb6⟩; have hs6 := hb6.size; have hc6 := hb6.mono (show w.heap.size + 1 + 1 ≤ _ by omega); have ⟨gr6, gq6, gs6⟩ := row_facts hc6; have hM6 := Lib.hid (hM5.out.below hb6))
      | (go_at_call 36; first
          | (refine (hR'.out _ _ _ (by omega) hM1.out).mono ?_; rw [hl'.out]; rintro e w3 ⟨rfl, v3, hm3, ht3⟩; have hb3 := ht3.below hM1.out (Nat.le_refl _) (by omega); have hs3 := hb3.size; have ⟨gr3, gq3, gs3⟩ := row_facts hb3; have hM3 := Lib.hid hm3; have hT3 := Lib.hid ht3; clear hm3 ht3 hR')
          | (refine (hS'.out _ _ _ _ (by omega) hM6.out).mono ?_; rintro e w7 ⟨rfl, v7, hm7, ht7⟩; have hb7 := ht7.below hM6.out (Nat.le_refl _) (by omega); have hs7 := hb7.size; have ⟨gr7, gq7, gs7⟩ := row_facts hb7; have hM7 := Lib.hid hm7; have hT7 := Lib.hid ht7; clear hm7 ht7))
      | (go_at_call 39; refine (memLen_any _ _ _ _ _ hM7.out (by simp only [growL]; rw [e4'.out]; decide)).mono ?_; simp only [growL]; rw [e4'.out]; rintro e w8 ⟨rfl, rfl⟩))
    go_ret
    refine ⟨rfl, ?_⟩
    (repeat' (first | exact Below.refl _ _ | assumption | refine Below.alloc ?_ (by (try simp only [World.size_alloc, World.size_setCell, World.size_drew, setRow_size] at *); first | done | omega) _ | refine Below.setCell ?_ (by (try simp only [World.size_alloc, World.size_setCell, World.size_drew, setRow_size] at *); first | done | omega) _ | refine Below.drew ?_ | refine Below.trans ?_ (Below.mono (by assumption) (by (try simp only [World.size_alloc, World.size_setCell, World.size_drew, setRow_size] at *); first | done | omega)) | refine below_setRow' ?_ (by (try simp only [World.size_alloc, World.size_setCell, World.size_drew, setRow_size] at *); first | done | omega) _))
  | some x =>
    have ⟨hx, hx2⟩ := reachF_bd (len := 32) (by omega) ha0 hk0 hq
    by_cases hbig : 300000 < x * 32
    · skip
      rw [hq] at hC hS hF
      have hC' := Lib.hid hC
      have hS' := Lib.hid hS
      have hF' := Lib.hid hF
      clear hC hS hF hq
      clear e4 ha hk
      go_enter Try.func9, Try.ntmps9
      go_wp2_with (first
        | (go_at_call 35; refine (memNew_any _).mono ?_; rintro e w1 ⟨rfl, hm1, hb1⟩; simp only [World.size_alloc] at hb1 hm1; have hs1 := hb1.size; simp only [World.size_alloc] at hs1; have ⟨gr1, gq1, gs1⟩ := row_facts hb1; have hM1 := Lib.hid hm1; clear hm1)
        | (go_at_call 37; refine (hF'.out _).mono ?_; rintro e w4 ⟨rfl, hb4⟩; have hs4 := hb4.size; have hc4 := hb4.mono (show w.heap.size + 1 + 1 ≤ _ by omega); have ⟨gr4, gq4, gs4⟩ := row_facts hc4; have hM4 := Lib.hid (hM3.out.below hb4); simp only [rreachW])
        | (go_at_call 32; refine (fixed10_any _).mono ?_; rintro e w6 ⟨rfl, hb6⟩; have hs6 := hb6.size; have hc6 := hb6.mono (show w.heap.size + 1 + 1 ≤ _ by omega); have ⟨gr6, gq6, gs6⟩ := row_facts hc6; have hM6 := Lib.hid (hM4.out.below hb6))
        | (go_at_call 36; first
            | (refine (hR'.out _ _ _ (by omega) hM1.out).mono ?_; rw [hl'.out]; rintro e w3 ⟨rfl, v3, hm3, ht3⟩; have hb3 := ht3.below hM1.out (Nat.le_refl _) (by omega); have hs3 := hb3.size; have ⟨gr3, gq3, gs3⟩ := row_facts hb3; have hM3 := Lib.hid hm3; have hT3 := Lib.hid ht3; clear hm3 ht3 hR')))
      go_ret
      refine ⟨rfl, ?_⟩
      (repeat' (first | exact Below.refl _ _ | assumption | refine Below.alloc ?_ (by (try simp only [World.size_alloc, World.size_setCell, World.size_drew, setRow_size] at *); first | done | omega) _ | refine Below.setCell ?_ (by (try simp only [World.size_alloc, World.size_setCell, World.size_drew, setRow_size] at *); first | done | omega) _ | refine Below.drew ?_ | refine Below.trans ?_ (Below.mono (by assumption) (by (try simp only [World.size_alloc, World.size_setCell, World.size_drew, setRow_size] at *); first | done | omega)) | refine below_setRow' ?_ (by (try simp only [World.size_alloc, World.size_setCell, World.size_drew, setRow_size] at *); first | done | omega) _))

    · skip
      rw [hq] at hC hS hF
      have hC' := Lib.hid hC
      have hS' := Lib.hid hS
      have hF' := Lib.hid hF
      clear hC hS hF hq
      clear e4 ha hk
      go_enter Try.func9, Try.ntmps9
      go_wp2_with (first
        | (go_at_call 35; refine (memNew_any _).mono ?_; rintro e w1 ⟨rfl, hm1, hb1⟩; simp only [World.size_alloc] at hb1 hm1; have hs1 := hb1.size; simp only [World.size_alloc] at hs1; have ⟨gr1, gq1, gs1⟩ := row_facts hb1; have hM1 := Lib.hid hm1; clear hm1)
        | (go_at_call 37; refine (hF'.out _).mono ?_; rintro e w4 ⟨rfl, hb4⟩; have hs4 := hb4.size; have hc4 := hb4.mono (show w.heap.size + 1 + 1 ≤ _ by omega); have ⟨gr4, gq4, gs4⟩ := row_facts hc4; have hM4 := Lib.hid (hM3.out.below hb4); simp only [rreachW])
        | (go_at_call 38; refine (hC'.out _ _ _ _ hM4.out).mono ?_; rintro e w5 ⟨rfl, hb5⟩; have hs5 := hb5.size; have hc5 := hb5.mono (show w.heap.size + 1 + 1 ≤ _ by omega); have ⟨gr5, gq5, gs5⟩ := row_facts hc5; have hM5 := Lib.hid (hM4.out.below hb5); simp only [costV])
        | (go_at_call 32; refine (fixed10_any _).mono ?_; rintro e w6 ⟨rfl, hb6⟩; have hs6 := hb6.size; have hc6 := hb6.mono (show w.heap.size + 1 + 1 ≤ _ by omega); have ⟨gr6, gq6, gs6⟩ := row_facts hc6; have hM6 := Lib.hid (hM5.out.below hb6))
        | (go_at_call 36; first
            | (refine (hR'.out _ _ _ (by omega) hM1.out).mono ?_; rw [hl'.out]; rintro e w3 ⟨rfl, v3, hm3, ht3⟩; have hb3 := ht3.below hM1.out (Nat.le_refl _) (by omega); have hs3 := hb3.size; have ⟨gr3, gq3, gs3⟩ := row_facts hb3; have hM3 := Lib.hid hm3; have hT3 := Lib.hid ht3; clear hm3 ht3 hR')
            | (refine (hS'.out _ _ _ _ (by omega) hM6.out).mono ?_; rintro e w7 ⟨rfl, v7, hm7, ht7⟩; have hb7 := ht7.below hM6.out (Nat.le_refl _) (by omega); have hs7 := hb7.size; have ⟨gr7, gq7, gs7⟩ := row_facts hb7; have hM7 := Lib.hid hm7; have hT7 := Lib.hid ht7; clear hm7 ht7))
        | (go_at_call 39; refine (memLen_any _ _ _ _ _ hM7.out (by have := growL_len (l := l) (x := x) (by rw [e4'.out]; exact hx) (by rw [e4'.out]); unfold maxLen; omega)).mono ?_; rw [growL_len (l := l) (x := x) (by rw [e4'.out]; exact hx) (by rw [e4'.out]), Int.mul_comm 32 x]; rintro e w8 ⟨rfl, rfl⟩))
      go_ret
      refine ⟨rfl, ?_⟩
      (repeat' (first | exact Below.refl _ _ | assumption | refine Below.alloc ?_ (by (try simp only [World.size_alloc, World.size_setCell, World.size_drew, setRow_size] at *); first | done | omega) _ | refine Below.setCell ?_ (by (try simp only [World.size_alloc, World.size_setCell, World.size_drew, setRow_size] at *); first | done | omega) _ | refine Below.drew ?_ | refine Below.trans ?_ (Below.mono (by assumption) (by (try simp only [World.size_alloc, World.size_setCell, World.size_drew, setRow_size] at *); first | done | omega)) | refine below_setRow' ?_ (by (try simp only [World.size_alloc, World.size_setCell, World.size_drew, setRow_size] at *); first | done | omega) _))

end Go.Proofs.Ytfjigoimjaemmaa
