/- a frame's memory: MemPlays. -/
import Derived.Test.YtfjigoimjaemmaaMem9W
import Derived.Deep.RegionHeld3
namespace Go.Proofs.Ytfjigoimjaemmaa
open Go.RowKit
set_option linter.unusedSimpArgs false
set_option linter.unusedVariables false
set_option maxRecDepth 100000

theorem OpV.Ok.w64a {o : OpV} {w : World} (h : o.Ok w) : W64 (fn4 (o.a 0) (o.a 1) (o.a 2) (o.a 3)) := fun i hi => by
  match i, hi with
  | 0, _ => exact h.a 0 (by omega)
  | 1, _ => exact h.a 1 (by omega)
  | 2, _ => exact h.a 2 (by omega)
  | 3, _ => exact h.a 3 (by omega)
/-- the row of a box behind calls -/
def Held (W0 : World) (bx : Nat) (cs : Array Value) (w' : World) : Prop := rowOf w' bx = cs ∧ bx < w'.heap.size ∧ Below W0.heap.size W0 w'

/-- what holds at each round's head -/
def PlayRel (w : World) (g m : Nat) (sv i : Value) (wr : World) : Prop := ∃ (k : Nat) (l : List Int) (v : Value), k ≤ m ∧ i = .int .i64 k ∧ Both g g w sv wr v l
/-- what a round leaves -/
def PlayEnd (w : World) (g : Nat) (sv : Value) (wr : World) : Prop := ∃ (l : List Int) (v : Value), Both g g w sv wr v l
set_option maxHeartbeats 4000000 in
theorem memPlays_any (A : Option Addr) (n c : Nat) (f : Nat → OpV) (w : World) (hf : Ops w A n f) (hc : n ≤ c) (hm : c ≤ maxLen) :
    Calls Try.prog 13 #[.slice A n c] w fun e w' => e = .returned (.bool true) ∧ Below w.heap.size w w' := by
  have hF := Lib.hid hf
  have hC := Lib.hid fun (w1 : World) (hw : Ops w1 A n f) => cut10_any A n c f w1 hw hc hm
  unfold maxLen at hm
  clear hf
  obtain ⟨g, hg⟩ : ∃ g, w.heap.size = g := ⟨_, rfl⟩
  have hNew := memNew_any w
  rw [hg] at hNew ⊢
  have hNew' := Lib.hid hNew
  have hg' := Lib.hid hg
  clear hNew hg
  go_enter Try.func13, Try.ntmps13
  go_wp2_with (first
    | (go_at_call 35; refine hNew'.out.mono ?_; rintro e w1 ⟨rfl, hm1, hb1⟩; have hM1 := Lib.hid hm1; have hB1 := Lib.hid hb1; clear hm1 hb1)
    | (go_at_call 32; refine (fixed10_any _).mono ?_; rintro e w2 ⟨rfl, hb2⟩; have hM2 := Lib.hid (hM1.out.below (((Below.refl _ _).alloc (Nat.le_refl _) _).trans (hb2.mono (by simp)))); have hB2 := Lib.hid ((hB1.out.alloc (by have := hM1.out.2.2.2.2.1; omega) (.cells #[] 5)).trans (hb2.mono (by have := hM1.out.2.2.2.2.1; simp; omega))))
    | (go_at_call 40; refine (hC.out _ (hF.out.below (by rw [hg'.out]; exact Nat.le_refl _) hB2.out)).mono ?_; rintro e w3 ⟨⟨m, hmn, rfl⟩, hb3⟩; have hM3 := Lib.hid (hM2.out.below hb3); have hB3 := Lib.hid (hB2.out.trans (hb3.mono (by have := hM2.out.2.2.2.2.1; omega)))))
  go_loopw [4, 22] (fun s i wr => PlayRel w g m s i wr) (fun _ i _ => m - (intOf i).toNat)
  case atStart => exact ⟨0, [], _, by omega, rfl, _, _, rfl, rfl, by simp, fun j => by simp, hM3.out, fun j hj => absurd hj (by simp), fun a h0 => by simp at h0, hB3.out⟩
  case round =>
    obtain ⟨k, l, v, hk, rfl, hBo⟩ := hrel
    have hBo' := Lib.hid hBo
    obtain ⟨A1, c1, rfl, hl, hl2, hbt, hMI, hIn, hAp, hB⟩ := hBo
    have hMI' := Lib.hid hMI
    have hsz : g < wr.heap.size := hMI.2.2.2.2.1
    have hIn' := Lib.hid hIn
    have hB' := Lib.hid hB
    have hbt' := Lib.hid hbt
    clear hMI hIn hB hAp hbt
    by_cases hlt : k < m
    · obtain ⟨a, rfl, ha, hld, hok⟩ := (hF.out.below (by rw [hg'.out]; exact Nat.le_refl _) hB'.out).load (show k < n by omega)
      have hb0 : Below wr.heap.size wr (wr.alloc (.cells (f k).row 53)) := (Below.refl _ _).alloc (Nat.le_refl _) _
      have hBo0 := Lib.hid (hBo'.out.below hb0)
      have hok0 := Lib.hid (hok.below (Nat.le_refl _) hb0)
      have hM0 := Lib.hid (hMI'.out.below hb0)
      have hI0 := Lib.hid (hIn'.out.below (Nat.le_refl _) hb0)
      have hB0 := Lib.hid (hB'.out.trans (hb0.mono (by omega)))
      have hl' := Lib.hid hl
      clear hb0 hl
      by_cases hk0 : (f k).kind = 0
      · have ha0 : 0 ≤ (f k).a 0 := (hok.a 0 (by omega)).1
        have hbb0 : 0 ≤ (f k).b 0 := (hok.b 0 (by omega)).1
        have hRr := fun (w1 : World) => refReach_any l.length hl2 hl'.out _ _ hok.wda hok.wdb w1
        have hCo := fun (w1 : World) (hb : Below (wr.alloc (.cells (f k).row 53)).heap.size (wr.alloc (.cells (f k).row 53)) w1) => memCost_any w1 _ _ v l (hM0.out.below hb) hl2 _ _ hok.wda hok.wdb
        have hRe := fun (w1 : World) (hb : Below (wr.alloc (.cells (f k).row 53)).heap.size (wr.alloc (.cells (f k).row 53)) w1) => memReach_any w1 _ _ v l (hM0.out.below hb) hl2 (by have := hb.size; simp at this; omega) _ _ hok.wda hok.wdb
        clear hok
        cases hq : reachF l.length (fn4 ((f k).a 0) ((f k).a 1) ((f k).a 2) ((f k).a 3)) (fn4 ((f k).b 0) ((f k).b 1) ((f k).b 2) ((f k).b 3)) with
        | none =>
          rw [hq] at hRr hCo hRe
          have hRr' := Lib.hid hRr
          have hCo' := Lib.hid hCo
          have hRe' := Lib.hid hRe
          clear hRr hCo hRe hq
          go_wp2_with (first
            | (go_at_call 37; refine (hRr'.out _).mono ?_; rintro e w4 ⟨rfl, hb4⟩; have ⟨gr4, gq4, gs4⟩ := row_facts hb4; simp only [World.size_alloc] at gr4 gq4 gs4; simp only [rreachW])
            | (go_at_call 38; refine (hCo'.out _ hb4).mono ?_; rintro e w5 ⟨rfl, hb5⟩; have hB5 := Lib.hid (hb4.trans (hb5.mono hb4.size)); have ⟨gr5, gq5, gs5⟩ := row_facts (hb5.mono (show wr.heap.size + 1 ≤ _ by omega)); simp only [costV])
            | (go_at_call 36; refine (hRe'.out _ hB5.out).mono ?_; rintro e w7 ⟨rfl, v7, hm7, ht7⟩; have hN := Lib.hid ((hBo0.out.below hB5.out).same hm7 ht7); have hMN := Lib.hid hm7; clear hm7 ht7)
            | (go_at_call 39; refine (memLen_any _ _ _ _ _ hMN.out (by unfold maxLen; simp only [growL]; omega)).mono ?_; simp only [growL]; rintro e w8 ⟨rfl, rfl⟩))
          exact ⟨⟨k + 1, l, v7, by omega, by go_num, hN.out⟩, by simp [intOf]; omega⟩
        | some x =>
          have ⟨hx, hx2⟩ := reachF_bd hl2 ha0 hbb0 hq
          obtain ⟨X, rfl⟩ : ∃ X : Nat, x = X := ⟨x.toNat, by omega⟩
          obtain ⟨P, hP⟩ : ∃ P, priceF ((l.length : Int) / 32) = P := ⟨_, rfl⟩
          obtain ⟨Q, hQ⟩ : ∃ Q, priceF (X : Int) = Q := ⟨_, rfl⟩
          have hp0 := priceF_bd ((l.length : Int) / 32) (by omega) (by omega)
          have hq1 := price_small (n := (X : Int)) (by omega) hx2
          have hmo := price_mono (m := (l.length : Int) / 32) (by omega) hx (by omega)
          have hgl := growL_len hx hl'.out
          have hgln : (growL l (some (X : Int))).length = X * 32 := by omega
          have hP1 := fun (w1 : World) => refPrice_any (X : Int) (by omega) (by omega) w1
          have hP2 := fun (w1 : World) => refPrice_any ((l.length : Int) / 32) (by omega) (by omega) w1
          rw [show 3 * (X : Int) + (X : Int) * (X : Int) / 512 = Q by rw [← hQ]; unfold priceF; rw [if_neg (by omega)]] at hP1
          rw [show 3 * ((l.length : Int) / 32) + (l.length : Int) / 32 * ((l.length : Int) / 32) / 512 = P by rw [← hP]; unfold priceF; rw [if_neg (by omega)]] at hP2
          have hlx : l.length ≤ X * 32 := by have := hl'.out; omega
          have hGr := fun (w1 : World) (hi : Ints w1 .u8 A1 l.length (fun j => l.getD j 0)) => refGrow_any A1 l.length c1 _ w1 hi hl2 (X * 32) (by omega)
          rw [show max (X * 32) l.length = X * 32 by omega, show ((X * 32 : Nat) : Int) = (X : Int) * 32 by omega] at hGr
          rw [hq] at hRr hCo hRe
          rw [show costV l.length (some (X : Int)) = .tuple #[.int .u64 (Q - P), .bool true] from by simp only [costV, hP, hQ]] at hCo
          rw [hP] at hp0 hmo
          rw [hQ] at hq1 hmo
          have hRr' := Lib.hid hRr
          have hCo' := Lib.hid hCo
          have hRe' := Lib.hid hRe
          have hGr' := Lib.hid hGr
          have hP1' := Lib.hid hP1
          have hP2' := Lib.hid hP2
          have hgl' := Lib.hid hgln
          have hx' := Lib.hid hx
          have hx3 : (X : Int) ≤ 131072 := hx2
          have hX0 : (0 : Int) ≤ (X : Int) := by omega
          have e32 : ((X : Int) * 32).tdiv 32 = X := by rw [Int.tdiv_eq_ediv_of_nonneg (by omega)]; omega
          clear hlx hRr hCo hRe hq hGr hP1 hP2 hgl hgln hP hQ hx hx2
          go_wp2_with (first
            | (go_at_call 37; refine (hRr'.out _).mono ?_; rintro e w4 ⟨rfl, hb4⟩; have ⟨gr4, gq4, gs4⟩ := row_facts hb4; simp only [World.size_alloc] at gr4 gq4 gs4; simp only [rreachW])
            | (go_at_call 38; refine (hCo'.out _ hb4).mono ?_; rintro e w5 ⟨rfl, hb5⟩; have hB5 := Lib.hid (hb4.trans (hb5.mono hb4.size)); have ⟨gr5, gq5, gs5⟩ := row_facts (hb5.mono (show wr.heap.size + 1 ≤ _ by omega)))
            | (go_at_call 34; first | ((with_reducible refine (hP1'.out _).mono ?_); rintro e w6 ⟨rfl, rfl⟩) | ((with_reducible refine (hP2'.out _).mono ?_); rintro e w6 ⟨rfl, rfl⟩))
            | (go_at_call 36; refine (hRe'.out _ hB5.out).mono ?_; rintro e w7 ⟨rfl, v7, hm7, ht7⟩; have hM7 := Lib.hid hm7; have hT7 := Lib.hid ht7; clear hm7 ht7)
            | (go_at_call 54; refine (hGr'.out _ ((hBo0.out.below hB5.out).after hT7.out)).mono ?_; rintro e w8 ⟨⟨A3, c3, rfl, hi8, hc8, ha8⟩, hb8⟩; have hN := Lib.hid ((hBo0.out.below hB5.out).grown (X : Int) hx'.out hx3 hM7.out hT7.out A3 c3 (X * 32) (by omega) hi8 ha8 hb8); have hMN := Lib.hid (hM7.out.below hb8); clear hi8 hc8 ha8)
            | (go_at_call 39; refine (memLen_any _ _ _ _ _ hMN.out (by rw [hgl'.out]; unfold maxLen; omega)).mono ?_; rw [hgl'.out]; rintro e w9 ⟨rfl, rfl⟩))
          exact ⟨⟨k + 1, _, v7, by omega, by go_num, hN.out⟩, by simp [intOf]; omega⟩
      · have hWr := fun (w1 : World) (hi : Ints w1 .u8 A1 l.length (fun j => l.getD j 0)) (at' : Int) (hat : I64 at') (B : Option Addr) (q d : Nat) (y : Nat → Int) (hy : Ints w1 .u8 B q y) (hq : q ≤ maxLen) => refWrite_any A1 l.length c1 _ w1 hi hl2 at' hat B q d y hy hq
        have hLn := fun (w1 : World) (at' : Int) (q : Nat) (y : Nat → Int) (hmm : MemIs w1 g g v (wrL l at' q y)) => memLen_any w1 g g v (wrL l at' q y) hmm (by rw [wrL_length]; unfold maxLen; omega)
        simp only [wrL_length] at hLn
        have hWr' := Lib.hid hWr
        have hLn' := Lib.hid hLn
        clear hWr hLn
        have hkz : ((f k).kind == 0) = false := by simp [hk0]
        have hok' := Lib.hid hok
        have hvb : Hid (∀ b, v.ownBlock = some b → b < wr.heap.size) := Lib.hid (fun b e => (ownsRow_lt hMI'.out.2.2.1 e).2)
        have hTB : Hid (∀ w2, MTouch (wr.alloc (.cells (f k).row 53)) w2 g v v → Below g w w2) := Lib.hid (fun w2 ht => hB0.out.trans (ht.below hM0.out (Nat.le_refl _) (by simp; omega)))
        have hTr : Hid (∀ w2, MTouch (wr.alloc (.cells (f k).row 53)) w2 g v v → rowOf w2 wr.heap.size = (f k).row ∧ wr.heap.size < w2.heap.size) := Lib.hid (fun w2 ht => ⟨(ht.1.rowOf (by simp) (fun h => by
          rcases h with h | h
          · omega
          · have := hvb.out _ h; omega)).trans (rowOf_alloc_at _ _ _ _ rfl), by have := ht.1.size; simp at this; omega⟩)
        have hDat : Hid (∀ w2, MTouch (wr.alloc (.cells (f k).row 53)) w2 g v v → Ints w2 .u8 (f k).A (f k).len (f k).x) := Lib.hid (fun w2 ht => (hF.out k (by omega)).2.data.below (by rw [hg'.out]; exact Nat.le_refl _) (hTB.out w2 ht))
        by_cases hk1 : (f k).kind = 1
        · have hMW := Lib.hid (memWrite_any _ g g v l hM0.out hl2 (f k).n hok0.out.n (f k).A (f k).len (f k).cap (f k).x hok0.out.data)
          clear hok hk0
          go_wp2_with (first
            | (go_at_call 55; refine (hMW.out).mono ?_; rintro e w7 ⟨rfl, hm7, ht7⟩; have hM7 := Lib.hid hm7; have hT7 := Lib.hid (show MTouch (wr.alloc (.cells (f k).row 53)) w7 g v v from ⟨ht7.weaken fun x _ hx => .inr hx, .inl rfl⟩); have ⟨gr7, gs7⟩ := hTr.out _ hT7.out; clear hm7 ht7)
            | (go_at_call 56; refine (hWr'.out _ (hBo0.out.after hT7.out) _ hok0.out.n _ _ _ _ (hDat.out _ hT7.out) (Nat.le_trans hok0.out.lencap hok0.out.cap)).mono ?_; rintro e w8 ⟨⟨A3, c3, rfl, hi8, hc8, ha8⟩, hb8⟩; have hN := Lib.hid (hBo0.out.written _ _ _ hok0.out.bytes hM7.out hT7.out A3 c3 hi8 ha8 hb8); have hMN := Lib.hid (hM7.out.below hb8); clear hi8 hc8 ha8)
            | (go_at_call 39; refine (hLn'.out _ _ _ _ hMN.out).mono ?_; rintro e w9 ⟨rfl, rfl⟩))
          exact ⟨⟨k + 1, _, v, by omega, by go_num, hN.out⟩, by simp [intOf]; omega⟩
        · have hk1' : ((f k).kind == 1) = false := by simp [hk1]
          by_cases hk2 : (f k).kind = 2
          · have hMC := Lib.hid (memCopy_any _ g g v l hM0.out hl2 (f k).n (f k).m (f k).k hok0.out.n hok0.out.m hok0.out.k)
            clear hok hk0 hk1
            go_wp2_with (first
              | (go_at_call 57; refine (hMC.out).mono ?_; rintro e w7 ⟨rfl, hm7, ht7⟩; have hM7 := Lib.hid hm7; have hT7 := Lib.hid ht7; have ⟨gr7, gs7⟩ := hTr.out _ hT7.out; clear hm7 ht7))
            have hI7 := Lib.hid (hBo0.out.after hT7.out)
            have hRd := fun (w1 : World) (h : rowOf w1 wr.heap.size = (f k).row ∧ wr.heap.size < w1.heap.size ∧ Below w7.heap.size w7 w1) => refRead_any A1 l.length c1 _ w1 (hI7.out.below (Nat.le_refl _) h.2.2) hl2 (f k).m (f k).k hok0.out.m hok0.out.k
            simp only [readF_len] at hRd
            have hRd' := Lib.hid hRd
            have hWd := Lib.hid fun (w1 : World) (h : rowOf w1 wr.heap.size = (f k).row ∧ wr.heap.size < w1.heap.size ∧ Below w7.heap.size w7 w1) (B : Option Addr) (d : Nat) (hy : Ints w1 .u8 B (readN (f k).m (f k).k) (readF l (f k).m)) => hWr'.out w1 (hI7.out.below (Nat.le_refl _) h.2.2) (f k).n hok0.out.n B _ d _ hy (by unfold readN maxLen; split <;> omega)
            clear hRd
            go_region_held3 (fun w' => rowOf w' wr.heap.size = (f k).row ∧ wr.heap.size < w'.heap.size ∧ Below w7.heap.size w7 w') (first | exact keepRow (by assumption) (by assumption) | assumption | exact ⟨gr7, gs7, (Below.refl _ _).drew⟩) (first
              | (go_at_call 58; refine (hRd'.out _ (by assumption)).mono ?_; rintro e w5 ⟨⟨A5, c5, rfl, hi5, _⟩, hb5⟩; have hI5 := Lib.hid hi5; have hs5 := hb5.size; clear hi5)
              | (go_at_call 56; refine (hWd.out _ (by assumption) _ _ hI5.out).mono ?_; rintro e w8 ⟨⟨A3, c3, rfl, hi8, hc8, ha8⟩, hb8⟩; have hI8 := Lib.hid hi8; have hA8 := Lib.hid ha8; clear hi8 ha8))
            all_goals
              have hh : rowOf w8 wr.heap.size = (f k).row ∧ wr.heap.size < w8.heap.size ∧ Below w7.heap.size w7 w8 := by assumption
              have hN := Lib.hid (hBo0.out.written _ _ _ (fun j _ => readF_bd hbt'.out _ j) hM7.out hT7.out A3 c3 hI8.out (fun a e => Nat.le_trans (by simpa using hs5) (hA8.out a e)) hh.2.2)
              have hMN := Lib.hid (hM7.out.below hh.2.2)
              go_wp2_with (first
                | (go_at_call 39; refine (hLn'.out _ _ _ _ hMN.out).mono ?_; rintro e w9 ⟨rfl, rfl⟩))
              exact ⟨⟨k + 1, _, v, by omega, by go_num, hN.out⟩, by simp [intOf]; omega⟩
          · have hk2' : ((f k).kind == 2) = false := by simp [hk2]
            by_cases hk3 : (f k).kind = 3
            · have hMC := Lib.hid (memSetWord_any _ g g v l hM0.out hl2 (f k).n hok0.out.n _ hok0.out.w64a)
              have hRS := Lib.hid fun (w1 : World) (hi : Ints w1 .u8 A1 l.length (fun j => l.getD j 0)) => refMSetWord_any A1 l.length c1 _ w1 hi hl2 (f k).n hok0.out.n _ hok0.out.w64a
              clear hok hk0 hk1 hk2
              go_wp2_with (first
                | (go_at_call 59; refine (hMC.out).mono ?_; rintro e w7 ⟨rfl, hm7, ht7⟩; have hM7 := Lib.hid hm7; have hT7 := Lib.hid ht7; have ⟨gr7, gs7⟩ := hTr.out _ hT7.out; clear hm7 ht7)
                | (go_at_call 60; refine (hRS.out _ (hBo0.out.after hT7.out)).mono ?_; rintro e w8 ⟨⟨A3, c3, rfl, hi8, hc8, ha8⟩, hb8⟩; have hN := Lib.hid (hBo0.out.written _ 32 _ (fun j _ => bytF_bd hok0.out.w64a j) hM7.out hT7.out A3 c3 hi8 ha8 hb8); have hMN := Lib.hid (hM7.out.below hb8); clear hi8 hc8 ha8)
                | (go_at_call 39; refine (hLn'.out _ _ _ _ hMN.out).mono ?_; rintro e w9 ⟨rfl, rfl⟩))
              exact ⟨⟨k + 1, _, v, by omega, by go_num, hN.out⟩, by simp [intOf]; omega⟩
            · have hk3' : ((f k).kind == 3) = false := by simp [hk3]
              obtain ⟨S, hS⟩ : ∃ S, strF (readN (f k).n (f k).k) (readF l (f k).n) = S := ⟨_, rfl⟩
              obtain ⟨G, hG⟩ : ∃ G, wdF (dgF (readF l (f k).n) (readN (f k).n 32)) = G := ⟨_, rfl⟩
              have hMR := Lib.hid fun (w1 : World) (h : rowOf w1 wr.heap.size = (f k).row ∧ wr.heap.size < w1.heap.size ∧ Below (wr.alloc (.cells (f k).row 53)).heap.size (wr.alloc (.cells (f k).row 53)) w1) => memRead_any w1 g g v l (hM0.out.below h.2.2) hl2 (f k).n (f k).k hok0.out.n hok0.out.k
              have hRR := fun (w1 : World) (h : rowOf w1 wr.heap.size = (f k).row ∧ wr.heap.size < w1.heap.size ∧ Below (wr.alloc (.cells (f k).row 53)).heap.size (wr.alloc (.cells (f k).row 53)) w1) => refRead_any A1 l.length c1 _ w1 (hI0.out.below (Nat.le_refl _) h.2.2) hl2 (f k).n (f k).k hok0.out.n hok0.out.k
              have hMW := fun (w1 : World) (h : rowOf w1 wr.heap.size = (f k).row ∧ wr.heap.size < w1.heap.size ∧ Below (wr.alloc (.cells (f k).row 53)).heap.size (wr.alloc (.cells (f k).row 53)) w1) => memWord_any w1 g g v l (hM0.out.below h.2.2) hl2 hbt'.out (f k).n hok0.out.n
              have hRW := fun (w1 : World) (h : rowOf w1 wr.heap.size = (f k).row ∧ wr.heap.size < w1.heap.size ∧ Below (wr.alloc (.cells (f k).row 53)).heap.size (wr.alloc (.cells (f k).row 53)) w1) => refMWord_any A1 l.length c1 _ w1 (hI0.out.below (Nat.le_refl _) h.2.2) hl2 (fun j _ => hbt'.out j) (f k).n hok0.out.n
              simp only [readF_len] at hRR hRW
              rw [hG] at hMW hRW
              have hRR' := Lib.hid hRR
              have hMW' := Lib.hid hMW
              have hRW' := Lib.hid hRW
              have cv := fun (w1 : World) (A5 : Option Addr) (c5 : Nat) (h : Ints w1 .u8 A5 (readN (f k).n (f k).k) (readF l (f k).n)) => h.str c5
              rw [hS] at cv
              have cv' := Lib.hid cv
              have hLM := Lib.hid fun (w1 : World) (h : Below (wr.alloc (.cells (f k).row 53)).heap.size (wr.alloc (.cells (f k).row 53)) w1) => memLen_any w1 g g v l (hM0.out.below h) (by unfold maxLen; omega)
              clear hRR hMW hRW cv hS hG hok hk0 hk1 hk2 hk3
              go_wp2
              go_region_held (fun w' => rowOf w' wr.heap.size = (f k).row ∧ wr.heap.size < w'.heap.size ∧ Below (wr.alloc (.cells (f k).row 53)).heap.size (wr.alloc (.cells (f k).row 53)) w') (first | exact keepRow (by assumption) (by assumption) | assumption | exact ⟨rowOf_alloc_at _ _ _ _ rfl, by simp, (Below.refl _ _).drew⟩) (first
                | (go_at_call 61; refine (hMR.out _ (by assumption)).mono ?_; rintro e w5 ⟨⟨A5, c5, rfl, hi5, _⟩, hb5⟩; have cv5 := cv'.out _ _ c5 hi5; have hI5 := Lib.hid hi5; clear hi5)
                | (go_at_call 58; refine (hRR'.out _ (by assumption)).mono ?_; rintro e w6 ⟨⟨A6, c6, rfl, hi6, _⟩, hb6⟩; have cv6 := cv'.out _ _ c6 hi6; have cv56 := cv'.out _ _ c5 (hI5.out.below (Nat.le_refl _) hb6); clear hi6)
                | (go_at_call 62; refine (hMW'.out _ (by assumption)).mono ?_; rintro e w7 ⟨rfl, hb7⟩)
                | (go_at_call 63; refine (hRW'.out _ (by assumption)).mono ?_; rintro e w8 ⟨rfl, hb8⟩))
              all_goals
                have hh : rowOf w8 wr.heap.size = (f k).row ∧ wr.heap.size < w8.heap.size ∧ Below (wr.alloc (.cells (f k).row 53)).heap.size (wr.alloc (.cells (f k).row 53)) w8 := by assumption
                go_wp2_with (first
                  | (go_at_call 39; refine (hLM.out _ hh.2.2).mono ?_; rintro e w9 ⟨rfl, rfl⟩))
                exact ⟨⟨k + 1, l, v, by omega, by go_num, hBo0.out.below hh.2.2⟩, by simp [intOf]; omega⟩
    · obtain rfl : k = m := by omega
      obtain ⟨S, hS⟩ : ∃ S, strF l.length (fun j => l.getD j 0) = S := ⟨_, rfl⟩
      have hR := fun (w1 : World) (hb : Below wr.heap.size wr w1) => memRead_any w1 g g v l (hMI'.out.below hb) hl2 0 l.length ⟨by omega, by omega⟩ ⟨by omega, by omega⟩
      have e1 : readN 0 l.length = l.length := by unfold readN; rw [if_neg (by omega)]; omega
      have e2 : readF l 0 = fun j => l.getD j 0 := by funext j; unfold readF; simp
      rw [e1, e2] at hR
      have hR' := Lib.hid hR
      have cv2 := fun (w1 : World) (hb : Below wr.heap.size wr w1) => (hIn'.out.below (Nat.le_refl _) hb).str c1
      have cv1 := Lib.hid fun (w1 : World) (A5 : Option Addr) (c5 : Nat) (h : Ints w1 .u8 A5 l.length (fun j => l.getD j 0)) => h.str c5
      rw [hS] at cv2 cv1
      have cv2' := Lib.hid cv2
      have cvd := cv2 wr.drew ((Below.refl _ _).drew)
      clear hR e1 e2 cv2 hS
      go_wp2
      go_region_with (go_at_call 61; refine (hR'.out _ ((Below.refl _ _).drew)).mono ?_; rintro e w5 ⟨⟨A5, c5, rfl, hi5, _⟩, hb5⟩; have hb5' : Below wr.heap.size wr w5 := ((Below.refl _ _).drew).trans hb5; have c6 := cv1.out _ _ c5 hi5; have c7 := cv2'.out _ hb5'; have hi5' := Lib.hid hi5; clear hi5)
      all_goals
        go_wp2
        go_ret
        exact ⟨rfl, hB'.out.trans (hb5'.mono (by omega))⟩
end Go.Proofs.Ytfjigoimjaemmaa
