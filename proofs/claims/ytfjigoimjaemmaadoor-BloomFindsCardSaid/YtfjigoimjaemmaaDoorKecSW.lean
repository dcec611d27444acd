/- keccak: bytes into a state. -/
import Derived.Test.YtfjigoimjaemmaaDoorKecTW
namespace Go.Proofs.YtfjigoimjaemmaaDoor
open Go.RowKit
set_option linter.unusedSimpArgs false
set_option linter.unusedVariables false
set_option maxRecDepth 100000

/-- a byte's part of a lane -/
def byX (v : Int) (j : Nat) : Int := IntKind.u64.wrap (v * 2 ^ (j % 8 * 8))
/-- the first m bytes in the lanes -/
def abX (s : Nat → Int) (f : Nat → Int) : Nat → Nat → Int
  | 0 => s
  | j + 1 => upd (abX s f j) (j / 8) (xr (abX s f j (j / 8)) (byX (f j) j))
theorem abX_zero (s f : Nat → Int) : abX s f 0 = s := rfl
theorem abX_succ (s f : Nat → Int) (j : Nat) : abX s f (j + 1) = upd (abX s f j) (j / 8) (xr (abX s f j (j / 8)) (byX (f j) j)) := rfl
theorem abX_congr {s f g : Nat → Int} {m : Nat} (h : ∀ j, j < m → f j = g j) : abX s f m = abX s g m := by
  induction m with
  | zero => rfl
  | succ m ih => rw [abX_succ, abX_succ, ih fun j hj => h j (by omega), h m (by omega)]

attribute [local irreducible] abX turnF
attribute [local go_sem ↓] Go.wp_at_zero Go.wp_at_succ
set_option maxHeartbeats 1000000 in
theorem absorb_any (s : Nat → Int) (A : Option Addr) (m c : Nat) (x : Nat → Int) (w : World) (hL : KLaid w) (hx : Ints w .u8 A m x) (hm : m ≤ 136) (hxb : ∀ j, j < m → 0 ≤ x j ∧ x j < 256) :
    Calls Tryd.prog 62 #[.agg (tab 25 .u64 s), .slice A m c] w fun e w' => e = .returned (.agg (tab 25 .u64 (turnF (abX s x m)))) ∧ Below w.heap.size w w' := by
  have hxb' := Lib.hid hxb
  clear hxb
  have hL' := Lib.hid hL
  have hx' := Lib.hid hx
  clear hL hx
  go_enter Tryd.func62, Tryd.ntmps62
  go_wp2
  go_loopw [9] (fun i wr => ∃ n : Nat, n ≤ m ∧ i = .int .i64 n ∧ rowOf wr w.heap.size = tab 25 .u64 (abX s x n) ∧ rowFit wr w.heap.size = some 25 ∧ rowFit wr (w.heap.size + 1) = some 25 ∧ w.heap.size + 2 ≤ wr.heap.size ∧ Below w.heap.size w wr) (fun i _ => m - (intOf i).toNat)
  case atStart =>
    refine ⟨0, by omega, rfl, ?_, ?_, ?_, ?_, ?_⟩
    · simp [go_sem, abX_zero]
    · simp [go_sem]
    · simp [go_sem]
    · simp
    · (repeat' (first | exact Below.refl _ _ | assumption | refine Below.alloc ?_ (by (try simp only [World.size_alloc, World.size_setCell, World.size_drew, setRow_size] at *); first | done | omega) _ | refine Below.setCell ?_ (by (try simp only [World.size_alloc, World.size_setCell, World.size_drew, setRow_size] at *); first | done | omega) _ | refine Below.drew ?_ | refine Below.trans ?_ (Below.mono (by assumption) (by (try simp only [World.size_alloc, World.size_setCell, World.size_drew, setRow_size] at *); first | done | omega)) | refine below_setRow' ?_ (by (try simp only [World.size_alloc, World.size_setCell, World.size_drew, setRow_size] at *); first | done | omega) _))
  case round =>
    obtain ⟨n, hn, rfl, r0, q0, q1, sz, hb⟩ := hrel
    by_cases hlt : n < m
    · obtain ⟨a, rfl, ha, hc⟩ := hx'.out.below (Nat.le_refl _) hb n hlt
      have hv := hxb'.out n hlt
      have hsucc := abX_succ s x n
      obtain ⟨f, hf⟩ : ∃ f, abX s x n = f := ⟨_, rfl⟩
      rw [hf] at r0 hsucc
      obtain ⟨v, hv'⟩ : ∃ v, x n = v := ⟨_, rfl⟩
      rw [hv'] at hv hsucc hc
      have e8 : (n : Int).tmod 8 = ((n % 8 : Nat) : Int) := by rw [Int.tmod_eq_emod_of_nonneg (by omega)]; omega
      have e9 : (n : Int).tdiv 8 = ((n / 8 : Nat) : Int) := by rw [Int.tdiv_eq_ediv_of_nonneg (by omega)]; omega
      have e8' : (n : Int) % 8 = ((n % 8 : Nat) : Int) := by omega
      have e9' : (n : Int) / 8 = ((n / 8 : Nat) : Int) := by omega
      have hbx : byX v n = IntKind.u64.wrap (v * 2 ^ (n % 8 * 8)) := rfl
      obtain ⟨q, hq⟩ : ∃ q, n / 8 = q := ⟨_, rfl⟩
      obtain ⟨r, hr⟩ : ∃ r, n % 8 = r := ⟨_, rfl⟩
      rw [hq] at hsucc e9 e9'
      rw [hr] at e8 e8' hbx
      have hq5 : q < 25 ∧ (q : Int) < 25 ∧ (0 : Int) ≤ q := by omega
      have hr5 : r < 8 ∧ (r : Int) < 8 ∧ (0 : Int) ≤ r := by omega
      have k1 : IntKind.i64.wrap ((r : Int) * 8) = r * 8 := i64w (by omega) (by omega)
      have k2 : (0 : Int) ≤ (r : Int) * 8 := by omega
      have hs' := Lib.hid hsucc
      have hbx' := Lib.hid hbx
      clear hf hsucc hv' hbx hq hr
      go_wp2
      go_region
      all_goals go_wp2
      all_goals
        refine ⟨⟨n + 1, by omega, by go_num, ?_, ?_, ?_, ?_, ?_⟩, by simp [intOf]; omega⟩
        · rw [rowOf_drew, rowOf_setCell_same, r0, tab_set, hs'.out, hbx'.out]
        · rw [rowFit_drew, rowFit_setCell, q0]
        · rw [rowFit_drew, rowFit_setCell, q1]
        · rw [World.size_drew, World.size_setCell]; exact sz
        · exact (hb.setCell (by simp) _).drew
    · have hnm : n = m := by omega
      rw [hnm] at r0
      have hLr := hL'.out.below hb
      obtain ⟨f, hf⟩ : ∃ f, abX s x m = f := ⟨_, rfl⟩
      rw [hf] at r0
      have hLr' := Lib.hid hLr
      have hf' := Lib.hid hf
      clear hnm hLr hf
      go_wp2_with (first
        | (go_at_call 15; refine (turn_any _ _ hLr'.out).mono ?_; rintro e w1 ⟨rfl, hb1⟩; have g1 : rowFit w1 (w.heap.size + 1) = some 25 := (rowFit_below hb1 (by omega)).trans q1; have gs1 := hb1.size))
      refine bodyPost_ret (res_u25 Tryd.results62 _ _ _ (tab 25 .u64 (turnF f)) rfl (by rw [rowOf_setRow_same _ _ _ (by rw [g1]; rfl)]) (by simp [go_sem])) rfl ⟨by rw [hf'.out], ?_⟩
      exact below_setRow' (hb.trans (hb1.mono (by omega))) (by omega) _
end Go.Proofs.YtfjigoimjaemmaaDoor
