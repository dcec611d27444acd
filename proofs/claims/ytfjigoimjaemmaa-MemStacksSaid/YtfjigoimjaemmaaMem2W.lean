/- a frame's memory: the walks of New, Cost, Reach, and of the reference's. -/
import Derived.Test.YtfjigoimjaemmaaMemW
namespace Go.Proofs.Ytfjigoimjaemmaa
open Go.RowKit
set_option linter.unusedSimpArgs false
set_option linter.unusedVariables false
set_option maxRecDepth 100000
attribute [local go_sem ↓] Go.wp_at_zero Go.wp_at_succ

theorem priceF_bd (n : Int) (h : 0 ≤ n) (h1 : n ≤ 4294967296) : 0 ≤ priceF n := by
  unfold priceF
  rw [if_neg (by omega)]
  have : 0 ≤ n * n := Int.mul_nonneg h h
  omega
theorem reachF_bd {len : Nat} {a k : Nat → Int} {x : Int} (hl : len ≤ 4194304) (ha : 0 ≤ a 0) (hk : 0 ≤ k 0) (h : reachF len a k = some x) : (len : Int) / 32 ≤ x ∧ x ≤ 131072 := by
  unfold reachF at h
  split at h
  · have := Option.some.inj h; omega
  · split at h
    · have := Option.some.inj h
      unfold wordsF at this
      omega
    · cases h

theorem price_mono {m n : Int} (h0 : 0 ≤ m) (h : m ≤ n) (hn : n ≤ 4294967296) : priceF m ≤ priceF n := by
  unfold priceF
  rw [if_neg (by omega), if_neg (by omega)]
  have : m * m ≤ n * n := Int.mul_le_mul h h h0 (by omega)
  omega
theorem price_small {n : Int} (h0 : 0 ≤ n) (h : n ≤ 131072) : priceF n ≤ 40000000 := by
  have := price_mono h0 h (by omega)
  have e : priceF 131072 = 33947648 := by decide
  omega

def costV (len : Nat) (r : Option Int) : Value := match r with | some x => .tuple #[.int .u64 (priceF x - priceF ((len : Int) / 32)), .bool true] | none => .tuple #[.int .u64 0, .bool false]

set_option maxHeartbeats 1000000 in
theorem memCost_any (w : World) (lo g : Nat) (v : Value) (l : List Int) (h : MemIs w lo g v l) (hl : l.length ≤ 4194304) (a k : Nat → Int) (ha : Wd a) (hk : Wd k) :
    Calls Try.prog 38 #[.pointer (some ⟨g, 0, none⟩), wv a, wv k] w fun e w' => e = .returned (costV l.length (reachF l.length a k)) ∧ Below w.heap.size w w' := by
  have hR := fun w1 (hb : Below w.heap.size w w1) => memreach_any w1 lo g v l (show MemIs w1 lo g v l from
    ⟨by rw [rowOf_below hb h.2.2.2.2.1, h.1], by rw [rowFit_below hb h.2.2.2.2.1, h.2.1], h.2.2.1.only (Only.of_below' (fun _ => False) hb) (fun _ _ h => h), h.2.2.2.1, Nat.lt_of_lt_of_le h.2.2.2.2.1 hb.size, h.2.2.2.2.2⟩) hl a k ha hk
  have ho := h.2.2.1.form
  obtain ⟨hr, hf, _, hg, hgs, hne⟩ := h
  obtain ⟨A, c, rfl, _, _⟩ := ho
  have ha0 := ha.1.1
  have hk0 := hk.1.1
  clear hne ha hk
  cases hF : reachF l.length a k with
  | none =>
    rw [hF] at hR
    have hR' := Lib.hid hR
    clear hR hF
    go_enter Try.func38, Try.ntmps38
    go_wp2_with (go_at_call 82; refine (hR'.out _ ?_).mono ?_; ((repeat' (first | exact Below.refl _ _ | assumption | refine Below.alloc ?_ (by (try simp only [World.size_alloc, World.size_setCell, World.size_drew, setRow_size] at *); first | done | omega) _ | refine Below.setCell ?_ (by (try simp only [World.size_alloc, World.size_setCell, World.size_drew, setRow_size] at *); first | done | omega) _ | refine Below.drew ?_ | refine Below.trans ?_ (Below.mono (by assumption) (by (try simp only [World.size_alloc, World.size_setCell, World.size_drew, setRow_size] at *); first | done | omega)) | refine below_setRow' ?_ (by (try simp only [World.size_alloc, World.size_setCell, World.size_drew, setRow_size] at *); first | done | omega) _))); rintro e w1 ⟨rfl, hb1⟩; simp only [reachV])
    go_ret2
    refine ⟨rfl, ?_⟩
    (repeat' (first | exact Below.refl _ _ | assumption | refine Below.alloc ?_ (by (try simp only [World.size_alloc, World.size_setCell, World.size_drew, setRow_size] at *); first | done | omega) _ | refine Below.setCell ?_ (by (try simp only [World.size_alloc, World.size_setCell, World.size_drew, setRow_size] at *); first | done | omega) _ | refine Below.drew ?_ | refine Below.trans ?_ (Below.mono (by assumption) (by (try simp only [World.size_alloc, World.size_setCell, World.size_drew, setRow_size] at *); first | done | omega)) | refine below_setRow' ?_ (by (try simp only [World.size_alloc, World.size_setCell, World.size_drew, setRow_size] at *); first | done | omega) _))
  | some x =>
    rw [hF] at hR
    obtain ⟨x0, x1⟩ := reachF_bd hl ha0 hk0 hF
    have hp0 := priceF_bd ((l.length : Int) / 32) (by omega) (by omega)
    have hp1 := price_mono (m := (l.length : Int) / 32) (n := x) (by omega) x0 (by omega)
    have hp2 := price_small (n := x) (by omega) x1
    have hR' := Lib.hid hR
    clear hR hF
    go_enter Try.func38, Try.ntmps38
    go_wp2_with (go_at_call 82; refine (hR'.out _ ?_).mono ?_; ((repeat' (first | exact Below.refl _ _ | assumption | refine Below.alloc ?_ (by (try simp only [World.size_alloc, World.size_setCell, World.size_drew, setRow_size] at *); first | done | omega) _ | refine Below.setCell ?_ (by (try simp only [World.size_alloc, World.size_setCell, World.size_drew, setRow_size] at *); first | done | omega) _ | refine Below.drew ?_ | refine Below.trans ?_ (Below.mono (by assumption) (by (try simp only [World.size_alloc, World.size_setCell, World.size_drew, setRow_size] at *); first | done | omega)) | refine below_setRow' ?_ (by (try simp only [World.size_alloc, World.size_setCell, World.size_drew, setRow_size] at *); first | done | omega) _))); rintro e w1 ⟨rfl, hb1⟩; simp only [reachV])
    have hS : rowOf w1 g = #[.slice A l.length c] ∧ Below w.heap.size w w1 := by
      refine ⟨?_, by (repeat' (first | exact Below.refl _ _ | assumption | refine Below.alloc ?_ (by (try simp only [World.size_alloc, World.size_setCell, World.size_drew, setRow_size] at *); first | done | omega) _ | refine Below.setCell ?_ (by (try simp only [World.size_alloc, World.size_setCell, World.size_drew, setRow_size] at *); first | done | omega) _ | refine Below.drew ?_ | refine Below.trans ?_ (Below.mono (by assumption) (by (try simp only [World.size_alloc, World.size_setCell, World.size_drew, setRow_size] at *); first | done | omega)) | refine below_setRow' ?_ (by (try simp only [World.size_alloc, World.size_setCell, World.size_drew, setRow_size] at *); first | done | omega) _))⟩
      rw [rowOf_below hb1 (by simp; omega)]
      simp only [rowOf_alloc_past _ _ g hgs, rowOf_alloc_past _ _ g (show g < (w.alloc _).heap.size by simp; omega), hr]
    have q1 : IntKind.i64.wrap ((l.length : Int) / 32) = (l.length : Int) / 32 := i64w (by omega) (by omega)
    have q2 : IntKind.u64.wrap ((l.length : Int) / 32) = (l.length : Int) / 32 := u64w (by omega) (by omega)
    have q3 : IntKind.u64.wrap (priceF x - priceF ((l.length : Int) / 32)) = priceF x - priceF ((l.length : Int) / 32) := u64w (by omega) (by omega)
    clear hb1 hr hR'
    go_region_held3 (fun w' => rowOf w' g = #[.slice A l.length c] ∧ Below w.heap.size w w') (first | assumption | exact ⟨hS.1, hS.2.drew⟩) (first
      | (go_at_call 33; refine (memPrice_any _ (by omega) (by omega) _).mono ?_; rintro e w2 ⟨rfl, rfl⟩))
    all_goals
      go_wp2
      go_ret2
      exact ⟨rfl, hS.2.drew⟩


/-- the bytes behind a reach -/
def growL (l : List Int) (r : Option Int) : List Int := match r with | some x => l ++ List.replicate ((32 * x).toNat - l.length) 0 | none => l
/-- what a call of a memory may turn -/
def MTouch (w w' : World) (g : Nat) (v v' : Value) : Prop :=
  Only (fun b => b = g ∨ v.ownBlock = some b) w w' ∧ (v'.ownBlock = v.ownBlock ∨ ∃ b, v'.ownBlock = some b ∧ w.heap.size ≤ b)
theorem MemIs.below {w w' : World} {lo g : Nat} {v : Value} {l : List Int} (h : MemIs w lo g v l) (hb : Below w.heap.size w w') : MemIs w' lo g v l :=
  ⟨by rw [rowOf_below hb h.2.2.2.2.1, h.1], by rw [rowFit_below hb h.2.2.2.2.1, h.2.1], h.2.2.1.only (Only.of_below' (fun _ => False) hb) (fun _ _ h => h), h.2.2.2.1, Nat.lt_of_lt_of_le h.2.2.2.2.1 hb.size, h.2.2.2.2.2⟩
theorem MemIs.only {T : Nat → Prop} {w w' : World} {lo g : Nat} {v : Value} {l : List Int} (h : MemIs w lo g v l) (ho : Only T w w') (h1 : ¬ T g) (h2 : ∀ b, v.ownBlock = some b → ¬ T b) : MemIs w' lo g v l :=
  ⟨by rw [ho.rowOf h.2.2.2.2.1 h1, h.1], by rw [ho.rowFit h.2.2.2.2.1 h1, h.2.1], h.2.2.1.only ho h2, h.2.2.2.1, Nat.lt_of_lt_of_le h.2.2.2.2.1 ho.size, h.2.2.2.2.2⟩

theorem MemIs.stored {w : World} {lo g : Nat} {v v' : Value} {l : List Int} (hr : rowOf w g = #[v]) (hf : rowFit w g = some 1) (ho : OwnI w lo 5 .u8 v' l) (hl : lo ≤ g) (hg : g < w.heap.size) (hne : v'.ownBlock ≠ some g) : MemIs (w.setCell ⟨g, 0, none⟩ v') lo g v' l := by
  refine ⟨by rw [rowOf_setCell_same, hr]; rfl, by rw [rowFit_setCell, hf], ho.only (Only.setCell w _ _) (fun b hb he => hne (by rw [hb, he])), hl, by simpa using hg, hne⟩
theorem MTouch.of_append {w w1 w2 : World} {g : Nat} {v v' : Value} (hg : g < w.heap.size) (hb : Below w.heap.size w w1) (ha : Appended w1 w2 v v') : MTouch w (w2.setCell ⟨g, 0, none⟩ v') g v v' := by
  refine ⟨(Only.of_below' _ hb).trans ((ha.1.weaken (U := fun b => b = g ∨ v.ownBlock = some b) fun x _ hx => .inr hx).trans (Only.setCell w2 _ _) (fun x _ hx => .inl hx)) (fun x _ hx => hx), ?_⟩
  rcases ha.2 with h | h
  · exact .inl h
  · exact .inr ⟨_, h, hb.size⟩
theorem MTouch.ne {w1 w2 : World} {g : Nat} {v v' : Value} (hg : g < w1.heap.size) (hne : v.ownBlock ≠ some g) (ha : Appended w1 w2 v v') : v'.ownBlock ≠ some g := by
  rcases ha.2 with h | h
  · rw [h]; exact hne
  · rw [h]; intro e; have := Option.some.inj e; omega

set_option maxHeartbeats 400000 in
theorem memNew_any (w : World) :
    Calls Try.prog 35 #[] w fun e w' => e = .returned (.pointer (some ⟨w.heap.size, 0, none⟩)) ∧ MemIs w' w.heap.size w.heap.size (.slice none 0 0) [] ∧ Below w.heap.size w w' := by
  go_enter Try.func35, Try.ntmps35
  go_wp2
  go_ret
  refine ⟨rfl, ⟨?_, ?_, OwnI.nil _ _ _ _, Nat.le_refl _, by simp, by simp [Value.ownBlock]⟩, ?_⟩
  · simp [go_sem]
  · simp [go_sem]
  · (repeat' (first | exact Below.refl _ _ | assumption | refine Below.alloc ?_ (by (try simp only [World.size_alloc, World.size_setCell, World.size_drew, setRow_size] at *); first | done | omega) _ | refine Below.setCell ?_ (by (try simp only [World.size_alloc, World.size_setCell, World.size_drew, setRow_size] at *); first | done | omega) _ | refine Below.drew ?_ | refine Below.trans ?_ (Below.mono (by assumption) (by (try simp only [World.size_alloc, World.size_setCell, World.size_drew, setRow_size] at *); first | done | omega)) | refine below_setRow' ?_ (by (try simp only [World.size_alloc, World.size_setCell, World.size_drew, setRow_size] at *); first | done | omega) _))

set_option maxHeartbeats 1000000 in
theorem memReach_any (w : World) (lo g : Nat) (v : Value) (l : List Int) (h : MemIs w lo g v l) (hl : l.length ≤ 4194304) (hlo : lo ≤ w.heap.size) (a k : Nat → Int) (ha : Wd a) (hk : Wd k) :
    Calls Try.prog 36 #[.pointer (some ⟨g, 0, none⟩), wv a, wv k] w fun e w' => e = .returned (.bool (reachF l.length a k).isSome) ∧ ∃ v', MemIs w' lo g v' (growL l (reachF l.length a k)) ∧ MTouch w w' g v v' := by
  have hR := fun w1 (hb : Below w.heap.size w w1) => memreach_any w1 lo g v l (h.below hb) hl a k ha hk
  have ho := h.2.2.1.form
  have hMI := Lib.hid h
  obtain ⟨hr, hf, _, hg, hgs, hne⟩ := h
  obtain ⟨A, c, rfl, _, _⟩ := ho
  have ha0 := ha.1.1
  have hk0 := hk.1.1
  clear hne ha hk
  cases hF : reachF l.length a k with
  | none =>
    rw [hF] at hR
    have hR' := Lib.hid hR
    clear hR hF
    go_enter Try.func36, Try.ntmps36
    go_wp2_with (go_at_call 82; refine (hR'.out _ ?_).mono ?_; ((repeat' (first | exact Below.refl _ _ | assumption | refine Below.alloc ?_ (by (try simp only [World.size_alloc, World.size_setCell, World.size_drew, setRow_size] at *); first | done | omega) _ | refine Below.setCell ?_ (by (try simp only [World.size_alloc, World.size_setCell, World.size_drew, setRow_size] at *); first | done | omega) _ | refine Below.drew ?_ | refine Below.trans ?_ (Below.mono (by assumption) (by (try simp only [World.size_alloc, World.size_setCell, World.size_drew, setRow_size] at *); first | done | omega)) | refine below_setRow' ?_ (by (try simp only [World.size_alloc, World.size_setCell, World.size_drew, setRow_size] at *); first | done | omega) _))); rintro e w1 ⟨rfl, hb1⟩; simp only [reachV])
    go_ret
    have hb : Below w.heap.size w w1 := by (repeat' (first | exact Below.refl _ _ | assumption | refine Below.alloc ?_ (by (try simp only [World.size_alloc, World.size_setCell, World.size_drew, setRow_size] at *); first | done | omega) _ | refine Below.setCell ?_ (by (try simp only [World.size_alloc, World.size_setCell, World.size_drew, setRow_size] at *); first | done | omega) _ | refine Below.drew ?_ | refine Below.trans ?_ (Below.mono (by assumption) (by (try simp only [World.size_alloc, World.size_setCell, World.size_drew, setRow_size] at *); first | done | omega)) | refine below_setRow' ?_ (by (try simp only [World.size_alloc, World.size_setCell, World.size_drew, setRow_size] at *); first | done | omega) _))
    exact ⟨rfl, _, hMI.out.below hb, Only.of_below' _ hb, .inl rfl⟩
  | some x =>
    rw [hF] at hR
    obtain ⟨x0, x1⟩ := reachF_bd hl ha0 hk0 hF
    obtain ⟨y, rfl⟩ : ∃ y : Nat, x = y := ⟨x.toNat, by omega⟩
    have hR' := Lib.hid hR
    clear hR hF
    by_cases hmore : l.length < 32 * y
    · obtain ⟨m, hm⟩ : ∃ m : Nat, (y : Int) * 32 - l.length = m := ⟨32 * y - l.length, by omega⟩
      have hm0 : 0 < m := by omega
      have hml : l.length + m ≤ 4194304 := by omega
      have hmi : (0 : Int) < (m : Int) := by omega
      go_enter Try.func36, Try.ntmps36
      go_wp2_with (first
        | (go_at_call 82; refine (hR'.out _ ?_).mono ?_; ((repeat' (first | exact Below.refl _ _ | assumption | refine Below.alloc ?_ (by (try simp only [World.size_alloc, World.size_setCell, World.size_drew, setRow_size] at *); first | done | omega) _ | refine Below.setCell ?_ (by (try simp only [World.size_alloc, World.size_setCell, World.size_drew, setRow_size] at *); first | done | omega) _ | refine Below.drew ?_ | refine Below.trans ?_ (Below.mono (by assumption) (by (try simp only [World.size_alloc, World.size_setCell, World.size_drew, setRow_size] at *); first | done | omega)) | refine below_setRow' ?_ (by (try simp only [World.size_alloc, World.size_setCell, World.size_drew, setRow_size] at *); first | done | omega) _))); rintro e w1 ⟨rfl, hb1⟩; simp only [reachV]; have hb := Below.trans (show Below w.heap.size w _ by (repeat' (first | exact Below.refl _ _ | assumption | refine Below.alloc ?_ (by (try simp only [World.size_alloc, World.size_setCell, World.size_drew, setRow_size] at *); first | done | omega) _ | refine Below.setCell ?_ (by (try simp only [World.size_alloc, World.size_setCell, World.size_drew, setRow_size] at *); first | done | omega) _ | refine Below.drew ?_ | refine Below.trans ?_ (Below.mono (by assumption) (by (try simp only [World.size_alloc, World.size_setCell, World.size_drew, setRow_size] at *); first | done | omega)) | refine below_setRow' ?_ (by (try simp only [World.size_alloc, World.size_setCell, World.size_drew, setRow_size] at *); first | done | omega) _))) (Below.refl w.heap.size w1); have hI1 := Lib.hid (hMI.out.below hb); have ⟨gr1, gq1, gs1⟩ := row_facts hb)
        | (at_builtin; refine wpList_app_zeros bytesElem Try.underlying3 rfl (.tmp 34) (.tmp 35) rfl (.slice A l.length c) l rfl hI1.out.2.2.1 m hm0 (by rfl) (by simp only [maxLen]; omega) (by omega) (by omega) ?_; intro v' w2 ho2 hap; obtain ⟨A', c', rfl, _, _⟩ := ho2.form; have el : (l ++ List.replicate m 0).length = l.length + m := by simp
           rw [el] at ho2 hap; clear el; have hr2 : rowOf w2 g = #[.slice A l.length c] := (hap.1.rowOf hI1.out.2.2.2.2.1 hI1.out.2.2.2.2.2).trans hI1.out.1; have hq2 : rowFit w2 g = some 1 := (hap.1.rowFit hI1.out.2.2.2.2.1 hI1.out.2.2.2.2.2).trans hI1.out.2.1; have hO2 := Lib.hid ho2; have hP2 := Lib.hid hap; clear ho2 hap))
      go_light
      go_ret
      have hgl : growL l (some (y : Int)) = l ++ List.replicate m 0 := by
        unfold growL
        have : (32 * (y : Int)).toNat - l.length = m := by omega
        simp only [this]
      refine ⟨rfl, _, ?_, MTouch.of_append hgs hb hP2.out⟩
      rw [hgl]
      exact MemIs.stored hr2 hq2 hO2.out hg (by have := hP2.out.1.size; omega) (MTouch.ne (by omega) hMI.out.2.2.2.2.2 hP2.out)
    · go_enter Try.func36, Try.ntmps36
      go_wp2_with (go_at_call 82; refine (hR'.out _ ?_).mono ?_; ((repeat' (first | exact Below.refl _ _ | assumption | refine Below.alloc ?_ (by (try simp only [World.size_alloc, World.size_setCell, World.size_drew, setRow_size] at *); first | done | omega) _ | refine Below.setCell ?_ (by (try simp only [World.size_alloc, World.size_setCell, World.size_drew, setRow_size] at *); first | done | omega) _ | refine Below.drew ?_ | refine Below.trans ?_ (Below.mono (by assumption) (by (try simp only [World.size_alloc, World.size_setCell, World.size_drew, setRow_size] at *); first | done | omega)) | refine below_setRow' ?_ (by (try simp only [World.size_alloc, World.size_setCell, World.size_drew, setRow_size] at *); first | done | omega) _))); rintro e w1 ⟨rfl, hb1⟩; simp only [reachV]; have hb := Below.trans (show Below w.heap.size w _ by (repeat' (first | exact Below.refl _ _ | assumption | refine Below.alloc ?_ (by (try simp only [World.size_alloc, World.size_setCell, World.size_drew, setRow_size] at *); first | done | omega) _ | refine Below.setCell ?_ (by (try simp only [World.size_alloc, World.size_setCell, World.size_drew, setRow_size] at *); first | done | omega) _ | refine Below.drew ?_ | refine Below.trans ?_ (Below.mono (by assumption) (by (try simp only [World.size_alloc, World.size_setCell, World.size_drew, setRow_size] at *); first | done | omega)) | refine below_setRow' ?_ (by (try simp only [World.size_alloc, World.size_setCell, World.size_drew, setRow_size] at *); first | done | omega) _))) (Below.refl w.heap.size w1); have ⟨gr1, gq1, gs1⟩ := row_facts hb)
      go_light
      go_ret
      have hgl : growL l (some (y : Int)) = l := by
        unfold growL
        have : (32 * (y : Int)).toNat - l.length = 0 := by omega
        simp only [this]
        simp
      rw [hgl]
      exact ⟨rfl, _, hMI.out.below hb, Only.of_below' _ hb, .inl rfl⟩


theorem wd_fn4 {a b c d : Int} (h : 0 ≤ a ∧ a < 18446744073709551616 ∧ 0 ≤ b ∧ b < 18446744073709551616 ∧ 0 ≤ c ∧ c < 18446744073709551616 ∧ 0 ≤ d ∧ d < 18446744073709551616) : Wd (fn4 a b c d) := by
  simp only [Wd, fn4_0, fn4_1, fn4_2, fn4_3]; omega

set_option maxHeartbeats 1000000 in
theorem fixed10_any (w : World) :
    Calls Try.prog 32 #[] w fun e w' => e = .returned (.bool true) ∧ Below w.heap.size w w' := by
  have e1 : reachF ([] : List Int).length (fn4 31 0 0 0) (fn4 2 0 0 0) = some 2 := by decide
  have e2 : costV ([] : List Int).length (some 2) = .tuple #[.int .u64 6, .bool true] := by
    have : priceF 2 - priceF (((([] : List Int).length : Nat) : Int) / 32) = 6 := by decide
    simp only [costV, this]
  have e3 : priceF 1024 = 5120 := by decide
  have e4 : (growL [] (some 2)).length = 64 := by decide
  have hC := fun (w1 : World) (g : Nat) (h : MemIs w1 w.heap.size g (.slice none 0 0) []) => memCost_any w1 _ g _ [] h (by simp) (fn4 31 0 0 0) (fn4 2 0 0 0) (wd_fn4 (by omega)) (wd_fn4 (by omega))
  have hR := fun (w1 : World) (g : Nat) (hlo : w.heap.size ≤ w1.heap.size) (h : MemIs w1 w.heap.size g (.slice none 0 0) []) => memReach_any w1 _ g _ [] h (by simp) hlo (fn4 31 0 0 0) (fn4 2 0 0 0) (wd_fn4 (by omega)) (wd_fn4 (by omega))
  rw [e1] at hC hR
  rw [e2] at hC
  have hP := fun (w1 : World) => memPrice_any 1024 (by omega) (by omega) w1
  rw [e3] at hP
  have hC' := Lib.hid hC
  have hR' := Lib.hid hR
  have hP' := Lib.hid hP
  have e4' := Lib.hid e4
  clear hC hR hP e1 e2 e3 e4
  go_enter Try.func32, Try.ntmps32
  go_wp2_with (first
    | (go_at_call 35; refine (memNew_any _).mono ?_; rintro e w1 ⟨rfl, hm1, hb1⟩; have hs1 := hb1.size; have hM1 := Lib.hid hm1; clear hm1)
    | (go_at_call 38; refine (hC'.out _ _ hM1.out).mono ?_; rintro e w2 ⟨rfl, hb2⟩; have hs2 := hb2.size; have hM2 := Lib.hid (hM1.out.below hb2))
    | (go_at_call 36; refine (hR'.out _ _ (by omega) hM2.out).mono ?_; rintro e w3 ⟨rfl, v3, hm3, ht3⟩; have hM3 := Lib.hid hm3; have hT3 := Lib.hid ht3; clear hm3 ht3)
    | (go_at_call 39; refine (memLen_any _ _ _ _ _ hM3.out (by rw [e4'.out]; decide)).mono ?_; rw [e4'.out]; rintro e w4 ⟨rfl, rfl⟩)
    | (go_at_call 33; refine (hP'.out _).mono ?_; rintro e w5 ⟨rfl, rfl⟩))
  go_ret
  refine ⟨rfl, ?_⟩
  have hb3 : Below w.heap.size w2 w3 := hT3.out.1.below (by omega) fun x hx => by
    rcases hx with hx | hx
    · omega
    · simp [Value.ownBlock] at hx
  exact (hb1.trans (hb2.mono (by omega))).trans hb3

set_option maxHeartbeats 400000 in
theorem refPrice_any (n : Int) (h0 : 0 ≤ n) (h1 : n < 4294967296) (w : World) :
    Calls Try.prog 34 #[.int .u64 n] w fun e w' => e = .returned (.int .u64 (3 * n + n * n / 512)) ∧ w = w' := by
  have hsq : 0 ≤ n * n ∧ n * n ≤ 4294967295 * 4294967295 := ⟨Int.mul_nonneg h0 h0, Int.mul_le_mul (by omega) (by omega) h0 (by omega)⟩
  obtain ⟨x, hx⟩ : ∃ x, n * n = x := ⟨_, rfl⟩
  rw [hx] at hsq ⊢
  go_enter Try.func34, Try.ntmps34
  go_wp2_with fail
  go_ret
  exact ⟨rfl, rfl⟩

set_option maxHeartbeats 1000000 in
theorem memPrices_any (n : Int) (h0 : 0 ≤ n) (h1 : n < 18446744073709551616) (w : World) :
    Calls Try.prog 8 #[.int .u64 n] w fun e w' => e = .returned (.bool true) ∧ Below w.heap.size w w' := by
  have hP := fun (w1 : World) => memPrice_any n h0 h1 w1
  by_cases hg : 4294967296 < n
  · have e : priceF n = 18446744073709551615 := by unfold priceF; rw [if_pos hg]
    rw [e] at hP
    have hP' := Lib.hid hP
    clear hP e
    go_enter Try.func8, Try.ntmps8
    go_wp2_with (first
      | (go_at_call 30; refine (memWords_any _ (by omega) (by omega) _).mono ?_; rintro e w1 ⟨rfl, rfl⟩)
      | (go_at_call 31; refine (refWords_any _ (by omega) (by omega) _).mono ?_; rintro e w1 ⟨rfl, rfl⟩)
      | (go_at_call 32; refine (fixed10_any _).mono ?_; rintro e w1 ⟨rfl, hb1⟩)
      | (go_at_call 33; refine (hP'.out _).mono ?_; rintro e w5 ⟨rfl, rfl⟩))
    go_ret
    exact ⟨rfl, hb1⟩
  · by_cases he : n = 4294967296
    · have e : priceF n = 36028809903865856 := by rw [he]; decide
      rw [e] at hP
      have hP' := Lib.hid hP
      subst he
      clear hP e hg
      go_enter Try.func8, Try.ntmps8
      go_wp2_with (first
        | (go_at_call 30; refine (memWords_any _ (by omega) (by omega) _).mono ?_; rintro e w1 ⟨rfl, rfl⟩)
        | (go_at_call 31; refine (refWords_any _ (by omega) (by omega) _).mono ?_; rintro e w1 ⟨rfl, rfl⟩)
        | (go_at_call 32; refine (fixed10_any _).mono ?_; rintro e w1 ⟨rfl, hb1⟩)
        | (go_at_call 33; refine (hP'.out _).mono ?_; rintro e w5 ⟨rfl, rfl⟩))
      go_ret
      exact ⟨rfl, hb1⟩
    · have e : priceF n = 3 * n + n * n / 512 := by unfold priceF; rw [if_neg hg]
      rw [e] at hP
      have hP' := Lib.hid hP
      have hQ' := Lib.hid fun (w1 : World) => refPrice_any n h0 (by omega) w1
      have hne : (n == 4294967296) = false := by simpa using he
      clear hP e he
      go_enter Try.func8, Try.ntmps8
      go_wp2_with (first
        | (go_at_call 30; refine (memWords_any _ (by omega) (by omega) _).mono ?_; rintro e w1 ⟨rfl, rfl⟩)
        | (go_at_call 31; refine (refWords_any _ (by omega) (by omega) _).mono ?_; rintro e w1 ⟨rfl, rfl⟩)
        | (go_at_call 32; refine (fixed10_any _).mono ?_; rintro e w1 ⟨rfl, hb1⟩)
        | (go_at_call 33; refine (hP'.out _).mono ?_; rintro e w5 ⟨rfl, rfl⟩)
        | (go_at_call 34; refine (hQ'.out _).mono ?_; rintro e w5 ⟨rfl, rfl⟩))
      go_ret
      exact ⟨rfl, hb1⟩
end Go.Proofs.Ytfjigoimjaemmaa
