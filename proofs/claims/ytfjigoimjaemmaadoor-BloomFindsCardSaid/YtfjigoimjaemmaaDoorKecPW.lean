/- keccak: the reference's round. -/
import Derived.Test.YtfjigoimjaemmaaDoorKecCW
import Derived.Test.YtfjigoimjaemmaaDoorKecRW
namespace Go.Proofs.YtfjigoimjaemmaaDoor
open Go.RowKit
set_option linter.unusedSimpArgs false
set_option linter.unusedVariables false
set_option maxRecDepth 100000

/-- the memory of the reference's round: the result's block; one that is read; one that is written -/
def P2 (w wr : World) (R : Nat) (g : Nat → Int) (G : Nat) (f : Nat → Int) : Prop :=
  rowFit wr (w.heap.size + 1) = some 25 ∧ rowOf wr R = tab 25 .u64 g ∧ rowOf wr G = tab 25 .u64 f ∧ rowFit wr G = some 25 ∧ G < wr.heap.size ∧ R < G ∧ w.heap.size + 3 ≤ G ∧ Below w.heap.size w wr
theorem P2.drew {w wr : World} {R G : Nat} {g f : Nat → Int} (h : P2 w wr R g G f) : P2 w wr.drew R g G f :=
  ⟨h.1, h.2.1, h.2.2.1, h.2.2.2.1, h.2.2.2.2.1, h.2.2.2.2.2.1, h.2.2.2.2.2.2.1, h.2.2.2.2.2.2.2.drew⟩
theorem P2.set {w wr : World} {R G : Nat} {g f : Nat → Int} (h : P2 w wr R g G f) (i : Nat) (v : Int) : P2 w (wr.setCell ⟨G, i, none⟩ (.int .u64 v)) R g G (upd f i v) := by
  obtain ⟨h1, h2, h3, h4, h5, h6, h7, h8⟩ := h
  refine ⟨by rw [rowFit_setCell, h1], by rw [rowOf_setCell_other _ _ _ _ (by simp; omega), h2], by rw [rowOf_setCell_same, h3, tab_set], by rw [rowFit_setCell, h4], by rw [World.size_setCell]; exact h5, h6, h7, h8.setCell (by simp; omega) _⟩
/-- a new block of noughts to be written next -/
theorem P2.next {w wr : World} {R G : Nat} {g f : Nat → Int} (h : P2 w wr R g G f) (t : TypeId) (z : Nat → Int) : P2 w (wr.alloc (.cells (tab 25 .u64 z) t)) G f wr.heap.size z := by
  obtain ⟨h1, h2, h3, h4, h5, h6, h7, h8⟩ := h
  have hs : (wr.alloc (.cells (tab 25 .u64 z) t)).heap.size = wr.heap.size + 1 := World.size_alloc _ _
  refine ⟨by rw [rowFit_alloc_past _ _ _ (by omega), h1], by rw [rowOf_alloc_past _ _ _ h5, h3], by rw [rowOf_alloc_at _ _ _ _ rfl], by rw [rowFit_alloc_at _ _ _ _ rfl, tab_size], by omega, h5, by omega, h8.alloc (by have := h8.size; omega) _⟩
theorem bXY_lt : ∀ n, n < 24 → (bXY n).1 < 5 ∧ (bXY n).2 < 5 := by decide
theorem tri_lt : ∀ n, n < 24 → 0 < (n + 1) * (n + 2) / 2 % 64 ∧ (n + 1) * (n + 2) ≤ 600 := by decide
theorem bXY_zero : bXY 0 = (1, 0) := rfl
theorem bXY_succ (n : Nat) : bXY (n + 1) = ((bXY n).2, (2 * (bXY n).1 + 3 * (bXY n).2) % 5) := rfl
attribute [local irreducible] bXY
attribute [local go_sem ↓] Go.wp_at_zero Go.wp_at_succ
set_option maxHeartbeats 4000000 in
theorem refRound_any (s : Nat → Int) (k : Int) (w : World) :
    Calls Tryd.prog 53 #[.agg (tab 25 .u64 s), .int .u64 k] w fun e w' => e = .returned (.agg (tab 25 .u64 (rRound s k))) ∧ Below w.heap.size w w' := by
  go_enter Tryd.func53, Tryd.ntmps53
  go_wp2
  go_loopw [6] (fun i wr => ∃ x : Nat, x ≤ 5 ∧ i = .int .i64 x ∧ KS w wr s (cOut s x)) (fun i _ => 5 - (intOf i).toNat)
  case atStart =>
    refine ⟨0, by omega, rfl, ?_, ?_, ?_, ?_, ?_, ?_, ?_⟩
    · simp [go_sem]
    · simp [go_sem]
    · simp [go_sem]
    · simp [go_sem, cOut]
    · simp [go_sem]
    · simp
    · (repeat' (first | exact Below.refl _ _ | assumption | refine Below.alloc ?_ (by (try simp only [World.size_alloc, World.size_setCell, World.size_drew, setRow_size] at *); first | done | omega) _ | refine Below.setCell ?_ (by (try simp only [World.size_alloc, World.size_setCell, World.size_drew, setRow_size] at *); first | done | omega) _ | refine Below.drew ?_ | refine Below.trans ?_ (Below.mono (by assumption) (by (try simp only [World.size_alloc, World.size_setCell, World.size_drew, setRow_size] at *); first | done | omega)) | refine below_setRow' ?_ (by (try simp only [World.size_alloc, World.size_setCell, World.size_drew, setRow_size] at *); first | done | omega) _))
  case round =>
    obtain ⟨x, hx, rfl, hS⟩ := hrel
    by_cases hlt : x < 5
    · go_wp2
      go_loopw [7] (fun i wr => ∃ y : Nat, y ≤ 5 ∧ i = .int .i64 y ∧ KS w wr s (cIn s x (cOut s x) y)) (fun i _ => 5 - (intOf i).toNat)
      case atStart => exact ⟨0, by omega, rfl, hS⟩
      case round =>
        obtain ⟨y, hy, rfl, hK⟩ := hrel
        clear hS
        have hK' := Lib.hid hK
        obtain ⟨r0, q0, q1, r2, q2, sz, hb⟩ := hK
        by_cases hlm : y < 5
        · have k1 : IntKind.i64.wrap (5 * (y : Int)) = 5 * y := i64w (by omega) (by omega)
          have k2 : IntKind.i64.wrap ((x : Int) + 5 * (y : Int)) = x + 5 * y := i64w (by omega) (by omega)
          have z1 : (0 : Int) ≤ (x : Int) + 5 * (y : Int) ∧ (x : Int) + 5 * (y : Int) < 25 ∧ x + 5 * y < 25 := by omega
          have z2 : (0 : Int) ≤ (x : Int) ∧ (x : Int) < 5 ∧ x < 5 := by omega
          go_wp2
          go_region
          all_goals go_wp2
          all_goals
            refine ⟨⟨y + 1, by omega, by go_num, (hK'.out.set2 x _).drew⟩, by simp [intOf]; omega⟩
        · have hy5 : y = 5 := by omega
          have hK8 := hK'.out
          rw [hy5] at hK8
          have hK9 := Lib.hid hK8
          clear hK' hK8 hy5 r0 q0 q1 r2 q2 sz hb
          go_wp2
          exact ⟨⟨x + 1, by omega, by go_num, hK9.out⟩, by simp [intOf]; omega⟩
    · have hx5 : x = 5 := by omega
      rw [hx5] at hS
      obtain ⟨c, hc⟩ : ∃ c, cOut s 5 = c := ⟨_, rfl⟩
      rw [hc] at hS
      have hc' := Lib.hid hc
      have hS' := Lib.hid hS
      clear hS hc hx5
      go_wp2
      obtain ⟨r0, q0, q1, r2, q2, sz, hb⟩ := hS'.out
      have hP : P2 w (wr.alloc (.cells (tab 25 .u64 zf) 23)) w.heap.size s wr.heap.size zf ∧ rowOf (wr.alloc (.cells (tab 25 .u64 zf) 23)) (w.heap.size + 1 + 1) = tab 5 .u64 c := by
        have hs : (wr.alloc (.cells (tab 25 .u64 zf) 23)).heap.size = wr.heap.size + 1 := World.size_alloc _ _
        refine ⟨⟨by rw [rowFit_alloc_past _ _ _ (by omega), q1], by rw [rowOf_alloc_past _ _ _ (by omega), r0], by rw [rowOf_alloc_at _ _ _ _ rfl], by rw [rowFit_alloc_at _ _ _ _ rfl, tab_size], by omega, by omega, by omega, hb.alloc (by omega) _⟩, by rw [rowOf_alloc_past _ _ _ (by omega), r2]⟩
      obtain ⟨G, hG⟩ : ∃ G, wr.heap.size = G := ⟨_, rfl⟩
      rw [hG] at hP ⊢
      have hP0 : P2 w (wr.alloc (.cells (tab 25 .u64 zf) 23)) w.heap.size s G (aOut s c 0) := hP.1
      have hP1 := hP.2
      clear hP hS' r0 q0 q1 r2 q2 sz hb hG
      go_loopw [9] (fun i wr => ∃ x : Nat, x ≤ 5 ∧ i = .int .i64 x ∧ P2 w wr w.heap.size s G (aOut s c x) ∧ rowOf wr (w.heap.size + 1 + 1) = tab 5 .u64 c) (fun i _ => 5 - (intOf i).toNat)
      case atStart => exact ⟨0, by omega, rfl, hP0, hP1⟩
      case round =>
        obtain ⟨x, hx, rfl, hS, hC⟩ := hrel
        clear hP0 hP1
        by_cases hlt : x < 5
        · go_wp2
          rw [show decide ((x : Int) < 5) = true from by simp; omega]
          go_loopw [10] (fun i wr => ∃ y : Nat, y ≤ 5 ∧ i = .int .i64 y ∧ P2 w wr w.heap.size s G (aIn s c x (aOut s c x) y) ∧ rowOf wr (w.heap.size + 1 + 1) = tab 5 .u64 c) (fun i _ => 5 - (intOf i).toNat)
          case atStart => exact ⟨0, by omega, rfl, hS, hC⟩
          case round =>
            obtain ⟨y, hy, rfl, hK, hC⟩ := hrel
            clear hS
            have hK' := Lib.hid hK
            obtain ⟨q1, r0, rG, qG, sG, s2, s3, hb⟩ := hK
            by_cases hlm : y < 5
            · have k1 : IntKind.i64.wrap (5 * (y : Int)) = 5 * y := i64w (by omega) (by omega)
              have k2 : IntKind.i64.wrap ((x : Int) + 5 * (y : Int)) = x + 5 * y := i64w (by omega) (by omega)
              have z1 : (0 : Int) ≤ (x : Int) + 5 * (y : Int) ∧ (x : Int) + 5 * (y : Int) < 25 ∧ x + 5 * y < 25 := by omega
              have k4 : IntKind.i64.wrap ((x : Int) + 4) = x + 4 := i64w (by omega) (by omega)
              have k5 : IntKind.i64.wrap ((x : Int) + 1) = x + 1 := i64w (by omega) (by omega)
              have m4 : ((x : Int) + 4).tmod 5 = ((x + 4) % 5 : Nat) := by rw [Int.tmod_eq_emod_of_nonneg (by omega)]; omega
              have m1 : ((x : Int) + 1).tmod 5 = ((x + 1) % 5 : Nat) := by rw [Int.tmod_eq_emod_of_nonneg (by omega)]; omega
              have ha : aIn s c x (aOut s c x) (y + 1) = upd (aIn s c x (aOut s c x) y) (x + 5 * y) (xr (xr (s (x + 5 * y)) (c ((x + 4) % 5))) (rotF (c ((x + 1) % 5)) 1)) := rfl
              obtain ⟨p, hp⟩ : ∃ p, (x + 4) % 5 = p := ⟨_, rfl⟩
              obtain ⟨q, hq⟩ : ∃ q, (x + 1) % 5 = q := ⟨_, rfl⟩
              rw [hp] at m4 ha
              rw [hq] at m1 ha
              have p5 : p < 5 ∧ (p : Int) < 5 ∧ (0 : Int) ≤ p := by omega
              have q5 : q < 5 ∧ (q : Int) < 5 ∧ (0 : Int) ≤ q := by omega
              have ha' := Lib.hid ha
              have hC' := Lib.hid hC
              clear hp hq ha
              go_wp2
              go_region_held3 (fun w' => rowOf w' w.heap.size = tab 25 .u64 s ∧ rowOf w' (w.heap.size + 1 + 1) = tab 5 .u64 c ∧ rowFit w' G = some 25) (first | assumption | (refine ⟨?_, ?_, ?_⟩ <;> (simp only [rowOf_drew, rowFit_drew, rowFit_setCell]; first | assumption | (rw [rowOf_setCell_other _ _ _ _ (by simp; omega)]; assumption)))) (first
                | (go_at_call 82; refine (up_any _ 1 1 (by omega) (by omega) rfl _).mono ?_; rintro e w1 ⟨rfl, rfl⟩))
              all_goals go_wp2
              refine ⟨⟨y + 1, by omega, by go_num, ?_, ?_⟩, by simp [intOf]; omega⟩
              · have := ((hK'.out.drew).drew.set (x + 5 * y) (xr (xr (s (x + 5 * y)) (c p)) (rotF (c q) 1)))
                rw [ha'.out]
                exact this
              · simp only [rowOf_drew]
                rw [rowOf_setCell_other _ _ _ _ (by simp; omega)]
                exact hC'.out
            · have hy5 : y = 5 := by omega
              have hK8 := hK'.out
              rw [hy5] at hK8
              have hK9 := Lib.hid hK8
              have hC' := Lib.hid hC
              clear hK' hK8 hy5 q1 r0 rG qG sG s2 hb hC
              go_wp2
              exact ⟨⟨x + 1, by omega, by go_num, hK9.out, hC'.out⟩, by simp [intOf]; omega⟩
        · have hx5 : x = 5 := by omega
          rw [hx5] at hS
          obtain ⟨a, ha⟩ : ∃ a, aOut s c 5 = a := ⟨_, rfl⟩
          rw [ha] at hS
          have ha' := Lib.hid ha
          have hS' := Lib.hid hS
          obtain ⟨q1, r0, rG, qG, sG, s2, s3, hb⟩ := hS
          clear ha hx5 hC r0 q1 qG
          go_wp2
          have hP3 := hS'.out.next 23 (upd zf 0 (a 0))
          obtain ⟨G2, hG2⟩ : ∃ G2, wr.heap.size = G2 := ⟨_, rfl⟩
          rw [hG2] at hP3 ⊢
          clear hS' rG sG s2 hb hG2
          go_loopw [12, 13, 14, 15] (fun x y t nx wr => ∃ n : Nat, n ≤ 24 ∧ t = .int .i64 n ∧ x = .int .i64 (bXY n).1 ∧ y = .int .i64 (bXY n).2 ∧ P2 w wr G a G2 (bF a n)) (fun _ _ t _ _ => 24 - (intOf t).toNat)
          case atStart => exact ⟨0, by omega, rfl, by rw [bXY_zero]; rfl, by rw [bXY_zero]; rfl, hP3⟩
          case round =>
            obtain ⟨n, hn, rfl, rfl, rfl, hK⟩ := hrel
            clear hP3
            have hK' := Lib.hid hK
            obtain ⟨q1, r0, rG, qG, sG, s2, s4, hb⟩ := hK
            by_cases hlt : n < 24
            · have hxy := bXY_lt n hlt
              have hbs : bF a (n + 1) = upd (bF a n) ((bXY n).2 + 5 * ((2 * (bXY n).1 + 3 * (bXY n).2) % 5)) (rotF (a ((bXY n).1 + 5 * (bXY n).2)) ((n + 1) * (n + 2) / 2 % 64)) := rfl
              have hx1 : (bXY (n + 1)).1 = (bXY n).2 := by rw [bXY_succ]
              have hx2 : (bXY (n + 1)).2 = (2 * (bXY n).1 + 3 * (bXY n).2) % 5 := by rw [bXY_succ]
              have hm64 := tri_lt n hlt
              obtain ⟨x, hxx⟩ : ∃ x, (bXY n).1 = x := ⟨_, rfl⟩
              obtain ⟨y, hyy⟩ : ∃ y, (bXY n).2 = y := ⟨_, rfl⟩
              rw [hxx, hyy] at hxy hbs
              rw [hyy] at hx1
              rw [hxx, hyy] at hx2
              rw [hxx, hyy]
              obtain ⟨T, hT⟩ : ∃ T, (n + 1) * (n + 2) = T := ⟨_, rfl⟩
              rw [hT] at hbs hm64
              have e1 : ((n : Int) + 1) * ((n : Int) + 2) = (T : Int) := by rw [← hT]; simp
              obtain ⟨U, hU⟩ : ∃ U, T / 2 = U := ⟨_, rfl⟩
              have e2 : (T : Int) / 2 = (U : Int) := by omega
              rw [hU] at hbs hm64
              obtain ⟨V, hV⟩ : ∃ V, U % 64 = V := ⟨_, rfl⟩
              rw [hV] at hbs hm64
              obtain ⟨d, hd⟩ : ∃ d, (2 * x + 3 * y) % 5 = d := ⟨_, rfl⟩
              rw [hd] at hbs hx2
              have hd1 : (2 * (x : Int) + 3 * (y : Int)).tmod 5 = (d : Int) := by rw [Int.tmod_eq_emod_of_nonneg (by omega)]; omega
              have hd2 : (2 * (x : Int) + 3 * (y : Int)) % 5 = (d : Int) := by omega
              have hd3 : d < 5 ∧ (d : Int) < 5 ∧ (0 : Int) ≤ d := by omega
              have w1 : IntKind.i64.wrap (2 * (x : Int)) = 2 * x := i64w (by omega) (by omega)
              have w2 : IntKind.i64.wrap (3 * (y : Int)) = 3 * y := i64w (by omega) (by omega)
              have w3 : IntKind.i64.wrap (2 * (x : Int) + 3 * (y : Int)) = 2 * x + 3 * y := i64w (by omega) (by omega)
              have w4 : IntKind.i64.wrap (5 * (d : Int)) = 5 * d := i64w (by omega) (by omega)
              have w5 : IntKind.i64.wrap ((y : Int) + 5 * (d : Int)) = y + 5 * d := i64w (by omega) (by omega)
              have w6 : IntKind.i64.wrap (5 * (y : Int)) = 5 * y := i64w (by omega) (by omega)
              have w7 : IntKind.i64.wrap ((x : Int) + 5 * (y : Int)) = x + 5 * y := i64w (by omega) (by omega)
              have w8 : IntKind.i64.wrap ((T : Int)) = T := i64w (by omega) (by omega)
              have z1 : (0 : Int) ≤ (x : Int) + 5 * (y : Int) ∧ (x : Int) + 5 * (y : Int) < 25 ∧ x + 5 * y < 25 := by omega
              have z2 : (0 : Int) ≤ (y : Int) + 5 * (d : Int) ∧ (y : Int) + 5 * (d : Int) < 25 ∧ y + 5 * d < 25 := by omega
              have hbs' := Lib.hid hbs
              have hx1' := Lib.hid hx1
              have hx2' := Lib.hid hx2
              clear hbs hx1 hx2 hxx hyy hT hd
              have hV64 : V < 64 := by omega
              have hUV := Lib.hid hV
              clear hV
              go_wp2_with (first
                | (go_at_call 82; refine (up_any _ V U hm64.1 hV64 hUV.out _).mono ?_; rintro e w1 ⟨rfl, rfl⟩))
              refine ⟨⟨n + 1, by omega, by go_num, by rw [hx1'.out], by rw [hx2'.out], ?_⟩, by simp [intOf]; omega⟩
              rw [hbs'.out]
              exact hK'.out.drew.set _ _
            · have hn24 : n = 24 := by omega
              have hK8 := hK'.out
              rw [hn24] at hK8
              obtain ⟨b, hbb⟩ : ∃ b, bF a 24 = b := ⟨_, rfl⟩
              rw [hbb] at hK8
              have hb' := Lib.hid hbb
              have hS' := Lib.hid hK8
              clear hK8 hbb hK' hn24 r0 rG
              go_wp2
              have hP3 := hS'.out.next 23 zf
              obtain ⟨G3, hG3⟩ : ∃ G3, wr.heap.size = G3 := ⟨_, rfl⟩
              rw [hG3] at hP3 ⊢
              have hP4 : P2 w (wr.alloc (.cells (tab 25 .u64 zf) 23)) G2 b G3 (oOut b 0) := hP3
              clear hS' hP3 q1 qG sG s2 hb hG3
              go_loopw [17] (fun i wr => ∃ x : Nat, x ≤ 5 ∧ i = .int .i64 x ∧ P2 w wr G2 b G3 (oOut b x)) (fun i _ => 5 - (intOf i).toNat)
              case atStart => exact ⟨0, by omega, rfl, hP4⟩
              case round =>
                obtain ⟨x, hx, rfl, hS⟩ := hrel
                clear hP4
                by_cases hlt : x < 5
                · go_wp2
                  rw [show decide ((x : Int) < 5) = true from by simp; omega]
                  go_loopw [18] (fun i wr => ∃ y : Nat, y ≤ 5 ∧ i = .int .i64 y ∧ P2 w wr G2 b G3 (oIn b x (oOut b x) y)) (fun i _ => 5 - (intOf i).toNat)
                  case atStart => exact ⟨0, by omega, rfl, hS⟩
                  case round =>
                    obtain ⟨y, hy, rfl, hK⟩ := hrel
                    clear hS
                    have hK' := Lib.hid hK
                    obtain ⟨q1, r0, rG, qG, sG, s2, s3, hb⟩ := hK
                    by_cases hlm : y < 5
                    · have ho : oIn b x (oOut b x) (y + 1) = upd (oIn b x (oOut b x) y) (x + 5 * y) (oL b x y) := rfl
                      have hl : oL b x y = xr (b (x + 5 * y)) (an (IntKind.u64.wrap (18446744073709551615 - b ((x + 1) % 5 + 5 * y))) (b ((x + 2) % 5 + 5 * y))) := rfl
                      have k1 : IntKind.i64.wrap (5 * (y : Int)) = 5 * y := i64w (by omega) (by omega)
                      have k2 : IntKind.i64.wrap ((x : Int) + 5 * (y : Int)) = x + 5 * y := i64w (by omega) (by omega)
                      have z1 : (0 : Int) ≤ (x : Int) + 5 * (y : Int) ∧ (x : Int) + 5 * (y : Int) < 25 ∧ x + 5 * y < 25 := by omega
                      have k4 : IntKind.i64.wrap ((x : Int) + 2) = x + 2 := i64w (by omega) (by omega)
                      have k5 : IntKind.i64.wrap ((x : Int) + 1) = x + 1 := i64w (by omega) (by omega)
                      have m4 : ((x : Int) + 2).tmod 5 = ((x + 2) % 5 : Nat) := by rw [Int.tmod_eq_emod_of_nonneg (by omega)]; omega
                      have m1 : ((x : Int) + 1).tmod 5 = ((x + 1) % 5 : Nat) := by rw [Int.tmod_eq_emod_of_nonneg (by omega)]; omega
                      obtain ⟨p, hp⟩ : ∃ p, (x + 2) % 5 = p := ⟨_, rfl⟩
                      obtain ⟨q, hq⟩ : ∃ q, (x + 1) % 5 = q := ⟨_, rfl⟩
                      rw [hp] at m4 hl
                      rw [hq] at m1 hl
                      have k6 : IntKind.i64.wrap ((p : Int) + 5 * (y : Int)) = p + 5 * y := i64w (by omega) (by omega)
                      have k7 : IntKind.i64.wrap ((q : Int) + 5 * (y : Int)) = q + 5 * y := i64w (by omega) (by omega)
                      have p5 : (0 : Int) ≤ (p : Int) + 5 * (y : Int) ∧ (p : Int) + 5 * (y : Int) < 25 ∧ p + 5 * y < 25 := by omega
                      have q5 : (0 : Int) ≤ (q : Int) + 5 * (y : Int) ∧ (q : Int) + 5 * (y : Int) < 25 ∧ q + 5 * y < 25 := by omega
                      have ho' := Lib.hid ho
                      have hl' := Lib.hid hl
                      clear hp hq ho hl
                      go_wp2
                      go_region_held3 (fun w' => rowOf w' G2 = tab 25 .u64 b ∧ rowFit w' G3 = some 25) (first | assumption | (refine ⟨?_, ?_⟩ <;> (simp only [rowOf_drew, rowFit_drew, rowFit_setCell]; first | assumption | (rw [rowOf_setCell_other _ _ _ _ (by simp; omega)]; assumption)))) (fail)
                      all_goals go_wp2
                      refine ⟨⟨y + 1, by omega, by go_num, ?_⟩, by simp [intOf]; omega⟩
                      have := (hK'.out.set (x + 5 * y) (oL b x y)).drew
                      rw [ho'.out]
                      rw [hl'.out] at this ⊢
                      exact this
                    · have hy5 : y = 5 := by omega
                      have hK8 := hK'.out
                      rw [hy5] at hK8
                      have hK9 := Lib.hid hK8
                      clear hK' hK8 hy5 q1 r0 rG qG sG s2 hb
                      go_wp2
                      exact ⟨⟨x + 1, by omega, by go_num, hK9.out⟩, by simp [intOf]; omega⟩
                · have hx5 : x = 5 := by omega
                  rw [hx5] at hS
                  have e9 : upd (oOut b 5) 0 (xr (oOut b 5 0) k) = rRound s k := by unfold rRound; rw [hc'.out, ha'.out, hb'.out]
                  obtain ⟨o, ho⟩ : ∃ o, oOut b 5 = o := ⟨_, rfl⟩
                  rw [ho] at hS e9
                  have e9' := Lib.hid e9
                  have hb2 := hS.2.2.2.2.2.2.2
                  obtain ⟨q1, r0, rG, qG, sG, s2, s5, hb⟩ := hS
                  clear ho hx5 e9
                  go_wp2
                  refine bodyPost_ret (res_u25 Tryd.results53 _ _ _ (tab 25 .u64 (rRound s k)) rfl (by rw [rowOf_setRow_same _ _ _ (by rw [rowFit_setCell, q1]; rfl), ← e9'.out]) (by simp [go_sem])) rfl ⟨rfl, ?_⟩
                  exact below_setRow' (hb.setCell (by simp; omega) _) (by omega) _
end Go.Proofs.YtfjigoimjaemmaaDoor
