/- a frame's stack: MemStacks. -/
import Derived.Test.YtfjigoimjaemmaaStk4W
import Derived.Test.YtfjigoimjaemmaaMem5W
namespace Go.Proofs.Ytfjigoimjaemmaa
open Go.RowKit
set_option linter.unusedSimpArgs false
set_option linter.unusedVariables false
set_option maxRecDepth 100000

theorem Half.appended {w wr w3 : World} {g g3 c3 : Nat} {v sv : Value} {l : List (Nat → Int)} {a : Nat → Int} {o : Obj} (h : Half w g wr v sv l (l ++ [a])) (ho3 : OwnR w3 g 24 4 (.slice (some ⟨g3, 0, none⟩) ((l.map wc).length + 1) c3) (l.map wc ++ [wc a]))
    (ht3 : Only (fun b => sv.ownBlock = some b) (wr.alloc o) w3) (hg3 : sv.ownBlock = some g3 ∨ g3 = wr.heap.size + 1) (hl : l.length + 1 ≤ 1024) : Two w g w3 v (.slice (some ⟨g3, 0, none⟩) (l.length + 1) c3) (l ++ [a]) := by
  rw [List.length_map] at ho3
  refine (h.below' ((Below.refl _ _).alloc (Nat.le_refl _) o)).two (by rw [List.map_append]; exact ho3) ht3 (fun b hb => ?_) (by simp; omega)
  have : g3 = b := by simpa [Value.ownBlock] using hb
  subst this
  rcases hg3 with h1 | h1
  · exact .inl h1
  · exact .inr (by simp; omega)

set_option maxHeartbeats 4000000 in
theorem memStacks_any (F : Nat) (fill : Int) (hfill : 0 ≤ fill ∧ fill < 65536) (hF : fill % 1030 = F) (A : Option Addr) (n c : Nat) (f : Nat → OpV) (w : World) (hf : Ops w A n f) (hn : n ≤ 200) :
    Calls Try.prog 14 #[.int .u16 fill, .slice A n c] w fun e w' => e = .returned (.bool true) ∧ Below w.heap.size w w' := by
  have hn' : ¬ (200 : Int) < (n : Int) := by omega
  have hO := Lib.hid hf
  clear hf
  have hFl : F < 1030 := by omega
  have em : fill.tmod 1030 = (F : Int) := by rw [Int.tmod_eq_emod_of_nonneg hfill.1, hF]
  obtain ⟨g, hg⟩ : ∃ g, w.heap.size = g := ⟨_, rfl⟩
  have hNew := stkNew_any w
  rw [hg] at hNew ⊢
  have hNew' := Lib.hid hNew
  have hg' := Lib.hid hg
  clear hNew hg hF
  go_enter Try.func14, Try.ntmps14
  go_wp2_with (first
    | (go_at_call 48; refine hNew'.out.mono ?_; rintro e w1 ⟨rfl, hm1, hb1⟩; have hS1 := Lib.hid hm1; have hB1 := Lib.hid hb1; clear hm1 hb1)
    | (go_at_call 32; refine (fixed10_any _).mono ?_; rintro e w2 ⟨rfl, hb2⟩; have hS2 := Lib.hid (hS1.out.below hb2); have hB2 := Lib.hid (hB1.out.trans (hb2.mono (by have := hS1.out.2.2.2.2.1; omega)))))
  go_loopw [6, 37] (fun s i wr => ∃ (k : Nat) (v : Value) (l : List (Nat → Int)), k ≤ F ∧ i = .int .i64 k ∧ Two w g wr v s l) (fun _ i _ => F - (intOf i).toNat)
  case atStart => exact ⟨0, _, [], by omega, rfl, hS2.out, OwnR.nil _ _ _ _, fun b hb => by simp [Value.ownBlock] at hb, by simp, hB2.out⟩
  case round =>
    obtain ⟨k, v, l, hk, rfl, hT⟩ := hrel
    obtain ⟨As, cs, rfl, hlc, hcm, _⟩ := hT.2.1.form
    rw [List.length_map] at hT hlc
    rw [List.length_map]
    have hl := hT.2.2.2.1
    have hT' := Lib.hid hT
    clear hT
    unfold maxLen at hcm
    by_cases hlt : k < F
    · have hPu := stkPush_any wr g g v l hT'.out.1 hl (Nat.le_of_lt hT'.out.1.2.2.2.2.1) (fn4 k 0 0 0)
      by_cases hfull : l.length < 1024
      · rw [decide_eq_true hfull, if_pos hfull] at hPu
        have hPu' := Lib.hid hPu
        have hfi : (l.length : Int) < 1024 := by omega
        clear hPu
        go_wp2_with (first
          | (go_at_call 49; refine hPu'.out.mono ?_; rintro e w2 ⟨rfl, v2, hs2, ht2⟩; have hH := Lib.hid (hT'.out.turned hs2 ht2); clear hs2 ht2)
          | (at_builtin; refine wpList_append_row wordElem rfl (.tmp 51) (.tmp 55) rfl g (.slice As l.length cs) (l.map wc) rfl (hH.out.own.below ((Below.refl _ _).alloc (Nat.le_refl _) _)) w2.heap.size 1 (wc (fn4 k 0 0 0)) rfl (wc_length _) (rowOf_alloc_at _ _ _ _ rfl) (by simp [wc_tab, go_sem]) (by simp [maxLen]; omega) (by simp; omega) (by have := hH.out.stk.2.2.2.2.1; simp; omega) (w2.heap.size + 1) (by simp) ?_; intro g3 c3 w3 ho3 ht3 hg3 hl3; have hN := Lib.hid (hH.out.appended ho3 ht3 hg3 (by omega)); clear ho3 ht3 hg3))
        exact ⟨⟨k + 1, v2, _, by omega, by go_num, by simpa using hN.out⟩, by simp [intOf]; omega⟩
      · rw [decide_eq_false hfull, if_neg hfull] at hPu
        have hPu' := Lib.hid hPu
        have hfi : ¬ (l.length : Int) < 1024 := by omega
        clear hPu
        go_wp2_with (first
          | (go_at_call 49; refine hPu'.out.mono ?_; rintro e w2 ⟨rfl, v2, hs2, ht2⟩; have hH := Lib.hid (hT'.out.turned hs2 ht2); clear hs2 ht2))
        exact ⟨⟨k + 1, v2, l, by omega, by go_num, hH.out.two hH.out.own (Only.refl _ _) (fun b hb => .inl hb) hl⟩, by simp [intOf]; omega⟩
    · obtain rfl : k = F := by omega
      go_wp2_with fail
      go_loopw [6, 60] (fun s i wr => ∃ (k : Nat) (v : Value) (l : List (Nat → Int)), k ≤ n ∧ i = .int .i64 k ∧ Two w g wr v s l) (fun _ i _ => n - (intOf i).toNat)
      case atStart => exact ⟨0, v, l, by omega, rfl, hT'.out⟩
      case round =>
        clear hT' hcm hlc hl em hfill hFl hk hlt
        obtain ⟨k, v, l, hk, rfl, hT⟩ := hrel
        obtain ⟨As, cs, rfl, hlc, hcm, hsome, _⟩ := hT.2.1.form
        rw [List.length_map] at hT hlc
        rw [List.length_map]
        have hl := hT.2.2.2.1
        have hsz : g < wr.heap.size := hT.1.2.2.2.2.1
        obtain ⟨q, hq⟩ : ∃ q, l.length = q := ⟨_, rfl⟩
        rw [hq] at hT hlc hl ⊢
        have hT' := Lib.hid hT
        have hq' := Lib.hid hq
        clear hT hq
        unfold maxLen at hcm
        by_cases hlt : k < n
        · obtain ⟨a, rfl, ha, hld, hok⟩ := (hO.out.below (by rw [hg'.out]; exact Nat.le_refl _) hT'.out.2.2.2.2).load hlt
          have hok' := Lib.hid hok
          have hT0 := Lib.hid (hT'.out.below ((Below.refl _ _).alloc (Nat.le_refl _) (.cells (f k).row 53)))
          have hrb : Hid (∀ w2 v2, MTouch (wr.alloc (.cells (f k).row 53)) w2 g v v2 → rowOf w2 wr.heap.size = (f k).row ∧ wr.heap.size < w2.heap.size) := Lib.hid (fun w2 v2 ht => ⟨(ht.1.rowOf (by simp) (fun h => by
            rcases h with h | h
            · omega
            · have := (hT'.out.1.2.2.1.lt h).2; omega)).trans (rowOf_alloc_at _ _ _ _ rfl), by have := ht.1.size; simp at this; omega⟩)
          have hLn := Lib.hid fun (w2 : World) (v2 : Value) (l2 : List (Nat → Int)) (h : StkIs w2 g g v2 l2) (m : Nat) (hm : l2.length = m) => (by rw [← hm]; exact stkLen_any w2 g g v2 l2 h : Calls Try.prog 53 #[.pointer (some ⟨g, 0, none⟩)] w2 fun e w' => e = .returned (.int .i64 m) ∧ w2 = w')
          by_cases hk0 : (f k).kind = 0
          · have hPu := stkPush_any _ g g v l hT0.out.1 (by rw [hq'.out]; exact hl) (Nat.le_of_lt hT0.out.1.2.2.2.2.1) (fn4 ((f k).a 0) ((f k).a 1) ((f k).a 2) ((f k).a 3))
            rw [hq'.out] at hPu
            by_cases hfull : q < 1024
            · rw [decide_eq_true hfull, if_pos hfull] at hPu
              have hPu' := Lib.hid hPu
              have hfi : (q : Int) < 1024 := by omega
              clear hPu hok
              go_wp2_with (first
                | (go_at_call 49; refine hPu'.out.mono ?_; rintro e w2 ⟨rfl, v2, hs2, ht2⟩; have hH := Lib.hid (hT0.out.turned hs2 ht2); have ⟨r2, z2⟩ := hrb.out _ _ ht2; clear hs2 ht2)
                | (at_builtin; refine wpList_append_row wordElem rfl (.tmp 120) (.tmp 123) rfl g (.slice As q cs) (l.map wc) rfl (hH.out.own.below ((Below.refl _ _).alloc (Nat.le_refl _) _)) w2.heap.size 1 (wc (fn4 ((f k).a 0) ((f k).a 1) ((f k).a 2) ((f k).a 3))) rfl (wc_length _) (rowOf_alloc_at _ _ _ _ rfl) (by simp [wc_tab, go_sem]) (by rw [List.length_map, hq'.out]; simp [maxLen]; omega) (by rw [List.length_map, hq'.out]; omega) (by have := hH.out.stk.2.2.2.2.1; simp; omega) (w2.heap.size + 1) (by simp) ?_; rw [List.length_map, hq'.out]; intro g3 c3 w3 ho3 ht3 hg3 hl3; have hN := hH.out.appended (by rw [List.length_map, hq'.out]; exact ho3) ht3 hg3 (by rw [hq'.out]; omega); rw [hq'.out] at hN; have hN' := Lib.hid hN; clear hN ho3 ht3 hg3)
                | (go_at_call 53; refine (hLn.out _ _ _ hN'.out.1 (q + 1) (by simp [hq'.out])).mono ?_; rintro e w5 ⟨rfl, rfl⟩))
              exact ⟨⟨k + 1, v2, _, by omega, by go_num, hN'.out⟩, by simp [intOf]; omega⟩
            · rw [decide_eq_false hfull, if_neg hfull] at hPu
              have hPu' := Lib.hid hPu
              have hfi : ¬ (q : Int) < 1024 := by omega
              clear hPu hok
              go_wp2_with (first
                | (go_at_call 49; refine hPu'.out.mono ?_; rintro e w2 ⟨rfl, v2, hs2, ht2⟩; have hH := Lib.hid (hT0.out.turned hs2 ht2); clear hs2 ht2)
                | (go_at_call 53; refine (hLn.out _ _ _ hH.out.stk q hq'.out).mono ?_; rintro e w5 ⟨rfl, rfl⟩))
              exact ⟨⟨k + 1, v2, l, by omega, by go_num, hH.out.two hH.out.own (Only.refl _ _) (fun b hb => .inl hb) (by rw [hq'.out]; exact hl)⟩, by simp [intOf]; omega⟩
          · have hk0' : ((f k).kind == 0) = false := by simp [hk0]
            by_cases hk1 : (f k).kind = 1
            · clear hok hk0
              cases q with
              | zero =>
                have hnil : l = [] := List.eq_nil_of_length_eq_zero hq'.out
                subst hnil
                have hPo := Lib.hid (stkPop_nil _ g g v hT0.out.1)
                have hsv : As = none ∧ cs = 0 ∨ ∃ b, As = some b := by
                  cases As with
                  | none =>
                    left
                    rcases hT'.out.2.1.1.2 with ⟨hv, _⟩ | ⟨_, _, _, hv, _⟩
                    · simpa using hv
                    · cases hv
                  | some b => exact .inr ⟨b, rfl⟩
                rcases hsv with ⟨rfl, rfl⟩ | ⟨b, rfl⟩
                all_goals
                  go_wp2_with (go_at_call 51; refine hPo.out.mono ?_; rintro e w2 ⟨rfl, hb2⟩)
                  go_quiet (fail)
                  have hN := Lib.hid (hT0.out.below (below_drewN (hb2.alloc hb2.size (.cells (tab 4 .u64 (fn4 0 0 0 0)) 24)) nq))
                  go_wp2_with (go_at_call 53; refine (hLn.out _ _ _ hN.out.1 0 rfl).mono ?_; rintro e w5 ⟨rfl, rfl⟩)
                  exact ⟨⟨k + 1, v, [], by omega, by go_num, hN.out⟩, by simp [intOf]; omega⟩
              | succ q =>
                obtain ⟨l', x, rfl⟩ : ∃ l' x, l = l' ++ [x] := by
                  rcases List.eq_nil_or_concat l with h | ⟨l', x, h⟩
                  · subst h; simp at hq'; exact absurd hq'.out (by simp)
                  · exact ⟨l', x, by rw [h, List.concat_eq_append]⟩
                have hql : l'.length = q := by have := hq'.out; simpa using this
                obtain ⟨b, rfl⟩ := hsome (by simp)
                have hPo := Lib.hid (stkPop_some _ g g v l' x hT0.out.1)
                have hmx : max (q : Int) 0 = q := by omega
                have hql' := Lib.hid hql
                clear hql
                go_wp2_with (go_at_call 51; refine hPo.out.mono ?_; rintro e w2 ⟨rfl, v2, hs2, ht2⟩; have hH := Lib.hid (hT0.out.turned hs2 ht2); clear hs2 ht2)
                have hbx : Below w2.heap.size w2 (w2.alloc (.cells (tab 4 .u64 x) 24)) := (Below.refl _ _).alloc (Nat.le_refl _) _
                have hld2 : ∀ d : Nat, (ldArr 24 (.pointer (some (b.add (q * 4))))).run Try.prog ((w2.alloc (.cells (tab 4 .u64 x) 24)).drewN d) = .ok (wv x) ((w2.alloc (.cells (tab 4 .u64 x) 24)).drewN d) := fun d => by
                  obtain ⟨a1, e1, _, h⟩ := ((hH.out.below' (below_drewN hbx d)).own.words).load (j := q) (by simp [hql'.out])
                  obtain rfl := Option.some.inj e1
                  rw [h]; simp [List.getD, ← hql'.out]
                have hbx' := Lib.hid hbx
                clear hbx
                go_quiet (fail)
                have hN := hH.out.below' (below_drewN hbx'.out nq)
                have ho := hN.own
                rw [List.map_append, List.map_singleton, ← hql'.out] at ho
                have hp := OwnR.pop (l := l'.map wc) (r := wc x) (by rw [List.length_map]; exact ho)
                rw [List.length_map, hql'.out] at hp
                have hN2 := Lib.hid (hN.two hp (Only.refl _ _) (fun b hb => .inl hb) (by rw [hql'.out]; omega))
                clear hN ho hp
                go_wp2_with (go_at_call 53; refine (hLn.out _ _ _ hN2.out.1 q hql'.out).mono ?_; rintro e w5 ⟨rfl, rfl⟩)
                exact ⟨⟨k + 1, v2, l', by omega, by go_num, hN2.out⟩, by simp [intOf]; omega⟩
            · have hk1' : ((f k).kind == 1) = false := by simp [hk1]
              by_cases hk2 : (f k).kind = 2
              · have hDu := stkDup_any _ g g v l hT0.out.1 (by rw [hq'.out]; exact hl) (Nat.le_of_lt hT0.out.1.2.2.2.2.1) (f k).n hok'.out.n
                rw [hq'.out] at hDu
                by_cases hmay : 1 ≤ (f k).n ∧ (f k).n ≤ q ∧ q < 1024
                · obtain ⟨N, hN⟩ : ∃ N : Nat, (f k).n = N := ⟨(f k).n.toNat, by omega⟩
                  obtain ⟨m, hm⟩ : ∃ m, q - N = m := ⟨_, rfl⟩
                  rw [decide_eq_true hmay, if_pos hmay, hN, Int.toNat_natCast, hm] at hDu
                  obtain ⟨b, rfl⟩ := hsome (by intro e; have := congrArg List.length e; rw [List.length_map, hq'.out] at this; simp at this; omega)
                  obtain ⟨X, hX⟩ : ∃ X, l.getD m zf = X := ⟨_, rfl⟩
                  rw [hX] at hDu
                  have m1 : (1 : Int) ≤ (N : Int) := by omega
                  have m2 : (N : Int) ≤ (q : Int) := by omega
                  have m3 : (q : Int) < 1024 := by omega
                  have m4 : ((q : Int) - (N : Int)).toNat = m := by omega
                  have m5 : (0 : Int) ≤ (q : Int) - (N : Int) := by omega
                  have m6 : (q : Int) - (N : Int) < (q : Int) := by omega
                  have hmq : Hid (m < q) := Lib.hid (by omega)
                  have hDu' := Lib.hid hDu
                  have hX' := Lib.hid hX
                  clear hDu hX hm hmay hok hk0 hk1
                  go_wp2_with (first
                    | (go_at_call 50; refine hDu'.out.mono ?_; rintro e w2 ⟨rfl, v2, hs2, ht2⟩; have hH := Lib.hid (hT0.out.turned hs2 ht2); have ⟨r2, z2⟩ := hrb.out _ _ ht2; have hld2 : (ldArr 24 (.pointer (some (b.add (m * 4))))).run Try.prog w2 = .ok (wv X) w2 := (by (obtain ⟨a1, e1, _, h⟩ := (hH.out.own.words).load (j := m) (by rw [hq'.out]; exact hmq.out); obtain rfl := Option.some.inj e1; rw [h, hX'.out])); clear hs2 ht2)
                    | (at_builtin; refine wpList_append_row wordElem rfl (.tmp 184) (.tmp 192) rfl g (.slice (some b) q cs) (l.map wc) rfl (hH.out.own.below ((Below.refl _ _).alloc (Nat.le_refl _) _)) w2.heap.size 1 (wc X) rfl (wc_length _) (rowOf_alloc_at _ _ _ _ rfl) (by simp [wc_tab, go_sem]) (by rw [List.length_map, hq'.out]; simp [maxLen]; omega) (by rw [List.length_map, hq'.out]; omega) (by have := hH.out.stk.2.2.2.2.1; simp; omega) (w2.heap.size + 1) (by simp) ?_; rw [List.length_map, hq'.out]; intro g3 c3 w3 ho3 ht3 hg3 hl3; have hN := hH.out.appended (by rw [List.length_map, hq'.out]; exact ho3) ht3 hg3 (by rw [hq'.out]; omega); rw [hq'.out] at hN; have hN' := Lib.hid hN; clear hN ho3 ht3 hg3)
                    | (go_at_call 53; refine (hLn.out _ _ _ hN'.out.1 (q + 1) (by simp [hq'.out])).mono ?_; rintro e w5 ⟨rfl, rfl⟩))
                  exact ⟨⟨k + 1, v2, _, by omega, by go_num, hN'.out⟩, by simp [intOf]; omega⟩
                · rw [decide_eq_false hmay, if_neg hmay] at hDu
                  have hDu' := Lib.hid hDu
                  clear hDu hok hk0 hk1
                  have hfin : ∀ w2 v2, StkIs w2 g g v2 l → MTouch (wr.alloc (.cells (f k).row 53)) w2 g v v2 → Two w g w2 v2 (.slice As q cs) l := fun w2 v2 hs2 ht2 => (hT0.out.turned hs2 ht2).two (hT0.out.turned hs2 ht2).own (Only.refl _ _) (fun b hb => .inl hb) (by rw [hq'.out]; exact hl)
                  have hfin' := Lib.hid hfin
                  clear hfin
                  by_cases m1 : 1 ≤ (f k).n
                  · by_cases m2 : (f k).n ≤ q
                    · have m3 : ¬ (q : Int) < 1024 := by omega
                      clear hmay
                      go_wp2_with (first
                        | (go_at_call 50; refine hDu'.out.mono ?_; rintro e w2 ⟨rfl, v2, hs2, ht2⟩; have hN := Lib.hid (hfin'.out _ _ hs2 ht2); clear hs2 ht2)
                        | (go_at_call 53; refine (hLn.out _ _ _ hN.out.1 q hq'.out).mono ?_; rintro e w5 ⟨rfl, rfl⟩))
                      exact ⟨⟨k + 1, v2, _, by omega, by go_num, hN.out⟩, by simp [intOf]; omega⟩
                    · clear hmay
                      go_wp2_with (first
                        | (go_at_call 50; refine hDu'.out.mono ?_; rintro e w2 ⟨rfl, v2, hs2, ht2⟩; have hN := Lib.hid (hfin'.out _ _ hs2 ht2); clear hs2 ht2)
                        | (go_at_call 53; refine (hLn.out _ _ _ hN.out.1 q hq'.out).mono ?_; rintro e w5 ⟨rfl, rfl⟩))
                      exact ⟨⟨k + 1, v2, _, by omega, by go_num, hN.out⟩, by simp [intOf]; omega⟩
                  · clear hmay
                    go_wp2_with (first
                      | (go_at_call 50; refine hDu'.out.mono ?_; rintro e w2 ⟨rfl, v2, hs2, ht2⟩; have hN := Lib.hid (hfin'.out _ _ hs2 ht2); clear hs2 ht2)
                      | (go_at_call 53; refine (hLn.out _ _ _ hN.out.1 q hq'.out).mono ?_; rintro e w5 ⟨rfl, rfl⟩))
                    exact ⟨⟨k + 1, v2, _, by omega, by go_num, hN.out⟩, by simp [intOf]; omega⟩
              · have hk2' : ((f k).kind == 2) = false := by simp [hk2]
                have hSw := stkSwap_any _ g g v l hT0.out.1 (f k).n hok'.out.n
                rw [hq'.out] at hSw
                by_cases hmay : 1 ≤ (f k).n ∧ (f k).n < q
                · obtain ⟨N, hN⟩ : ∃ N : Nat, (f k).n = N := ⟨(f k).n.toNat, by omega⟩
                  obtain ⟨t, rfl⟩ : ∃ t, q = t + 1 := ⟨q - 1, by omega⟩
                  obtain ⟨m, hm⟩ : ∃ m, t - N = m := ⟨_, rfl⟩
                  rw [decide_eq_true hmay, if_pos hmay, hN, Int.toNat_natCast, Nat.add_sub_cancel, hm] at hSw
                  obtain ⟨b0, rfl⟩ := hsome (by intro e; have := congrArg List.length e; rw [List.length_map, hq'.out] at this; simp at this)
                  obtain ⟨b, rfl⟩ : ∃ b, b0 = ⟨b, 0, none⟩ := by
                    obtain ⟨A9, c9, e9, _, _, _, h9⟩ := hT'.out.2.1.form
                    simp only [Value.slice.injEq] at e9
                    obtain ⟨rfl, _, rfl⟩ := e9
                    obtain ⟨_, _, q1, q2, _⟩ := h9 b0 rfl
                    exact ⟨b0.block, by cases b0; simp at q1 q2; simp [q1, q2]⟩
                  obtain ⟨X, hX⟩ : ∃ X, l.getD m zf = X := ⟨_, rfl⟩
                  obtain ⟨Y, hY⟩ : ∃ Y, l.getD t zf = Y := ⟨_, rfl⟩
                  rw [hX, hY] at hSw
                  have m1 : (1 : Int) ≤ (N : Int) := by omega
                  have m2 : (N : Int) < (t : Int) + 1 := by omega
                  have m4 : ((t : Int) - (N : Int)).toNat = m := by omega
                  have m5 : (0 : Int) ≤ (t : Int) - (N : Int) := by omega
                  have m6 : (t : Int) - (N : Int) < (t : Int) + 1 := by omega
                  have hmt : Hid (m < t) := Lib.hid (by omega)
                  have hSw' := Lib.hid hSw
                  have hX' := Lib.hid hX
                  have hY' := Lib.hid hY
                  have hne9 : ¬ wr.heap.size = b := by have := (hT'.out.2.1.lt (b := b) rfl).2; omega
                  clear hSw hX hY hm hmay hok hk0 hk1 hk2
                  -- what the two stores leave
                  have hst : Hid (∀ (w2 : World) (v2 : Value), Half w g w2 v2 (.slice (some ⟨b, 0, none⟩) (t + 1) cs) l ((l.set t X).set m Y) → b < w2.heap.size ∧ b ≠ g ∧
                      (∀ j, j < t + 1 → (ldArr 24 (.pointer (some ⟨b, j * 4, none⟩))).run Try.prog w2 = .ok (wv (l.getD j zf)) w2 ∧ (ldArr 24 (.pointer (some ⟨b, j * 4, none⟩))).run Try.prog (w2.alloc (.cells (tab 4 .u64 Y) 24)) = .ok (wv (l.getD j zf)) (w2.alloc (.cells (tab 4 .u64 Y) 24))) ∧
                      ∃ p1 p2, (stArr 24 (.pointer (some ⟨b, t * 4, none⟩)) (wv X)).run Try.prog (w2.alloc (.cells (tab 4 .u64 Y) 24)) = .ok () ((w2.setRow b p1).alloc (.cells (tab 4 .u64 Y) 24)) ∧
                        (stArr 24 (.pointer (some ⟨b, m * 4, none⟩)) (wv Y)).run Try.prog ((w2.setRow b p1).alloc (.cells (tab 4 .u64 Y) 24)) = .ok () (((w2.setRow b p1).setRow b p2).alloc (.cells (tab 4 .u64 Y) 24)) ∧
                        Two w g (((w2.setRow b p1).setRow b p2).alloc (.cells (tab 4 .u64 Y) 24)) v2 (.slice (some ⟨b, 0, none⟩) (t + 1) cs) ((l.set t X).set m Y)) := Lib.hid (fun w2 v2 hH => by
                    obtain ⟨A9, c9, e9, h91, _, _, h9⟩ := hH.own.form
                    simp only [Value.slice.injEq] at e9
                    obtain ⟨rfl, _, rfl⟩ := e9
                    obtain ⟨_, z0, _, _, z1, _⟩ := h9 _ rfl
                    rw [List.length_map, hq'.out] at h91
                    have hbg := (hH.apart b rfl).1
                    have hsz9 : (rowOf w2 b).size = cs * 4 := by obtain ⟨_, _, q⟩ := rowFit_some z1; exact q
                    have hmm := hmt.out
                    refine ⟨z0, hbg, fun j hj => ?_, patch (rowOf w2 b) (t * 4) (tab 4 .u64 X), patch (rowOf (w2.setRow b (patch (rowOf w2 b) (t * 4) (tab 4 .u64 X))) b) (m * 4) (tab 4 .u64 Y), ?_, ?_, ?_⟩
                    · have hW := hH.own.words
                      constructor
                      · obtain ⟨a1, e1, _, h⟩ := hW.load (j := j) (by rw [hq'.out]; exact hj)
                        obtain rfl := Option.some.inj e1
                        rw [Addr.add_lit, Nat.zero_add] at h
                        exact h
                      · obtain ⟨a1, e1, _, h⟩ := (hW.below (Nat.le_refl _) ((Below.refl _ _).alloc (Nat.le_refl _) (.cells (tab 4 .u64 Y) 24))).load (j := j) (by rw [hq'.out]; exact hj)
                        obtain rfl := Option.some.inj e1
                        rw [Addr.add_lit, Nat.zero_add] at h
                        exact h
                    · have h := run_stArr_at (P := Try.prog) 24 4 Try.sizeOf24 (w2.alloc (.cells (tab 4 .u64 Y) 24)) b (t * 4) (cs * 4) (tab 4 .u64 X) (by rw [rowFit_alloc_past _ _ _ z0]; exact z1) (tab_size _ _ _) (by omega) (okCells_tab _ _ _)
                      rw [h, rowOf_alloc_past _ _ _ z0, setRow_alloc_past _ _ _ _ z0]
                    · have zp : (patch (rowOf w2 b) (t * 4) (tab 4 .u64 X)).size = cs * 4 := by rw [patch_size _ _ _ (by rw [tab_size]; omega), hsz9]
                      have h := run_stArr_at (P := Try.prog) 24 4 Try.sizeOf24 ((w2.setRow b (patch (rowOf w2 b) (t * 4) (tab 4 .u64 X))).alloc (.cells (tab 4 .u64 Y) 24)) b (m * 4) (cs * 4) (tab 4 .u64 Y) (by rw [rowFit_alloc_past _ _ _ (by simpa using z0), rowFit_setRow_same _ _ _ (by rw [z1]; rfl), zp]) (tab_size _ _ _) (by omega) (okCells_tab _ _ _)
                      rw [h, rowOf_alloc_past _ _ _ (by simpa using z0), setRow_alloc_past _ _ _ _ (by simpa using z0)]
                    · have ho := swap_own (i := t) (j := m) hH.own X Y (by rw [hq'.out]; omega) (by rw [hq'.out]; omega)
                      have hon : Only (fun x => x = b) w2 ((w2.setRow b (patch (rowOf w2 b) (t * 4) (tab 4 .u64 X))).setRow b (patch (rowOf (w2.setRow b (patch (rowOf w2 b) (t * 4) (tab 4 .u64 X))) b) (m * 4) (tab 4 .u64 Y))) :=
                        ⟨rfl, rfl, rfl, by simp, fun x hx hn => by rw [setRow_other _ _ _ _ hn, setRow_other _ _ _ _ hn]⟩
                      have := hH.two ho (hon.weaken fun x _ hx => by rw [hx]; rfl) (fun x hx => .inl hx) (by simp [hq'.out]; omega)
                      exact this.below ((Below.refl _ _).alloc (Nat.le_refl _) _))
                  go_wp2_with (first
                    | (go_at_call 52; refine hSw'.out.mono ?_; rintro e w2 ⟨rfl, v2, hs2, ht2⟩; have hH := hT0.out.turned hs2 ht2; have ⟨r2, z2⟩ := hrb.out _ _ ht2; obtain ⟨z3, z4, hlds, p1, p2, st1, st2, hfin⟩ := hst.out _ _ hH; have hN := Lib.hid hfin; have ⟨l1, l2⟩ := hlds t (by omega); have ⟨l3, l4⟩ := hlds m (by have := hmt.out; omega); rw [hY'.out] at l1 l2; rw [hX'.out] at l3 l4; clear hs2 ht2 hH hfin hlds)
                    | (go_at_call 53; refine (hLn.out _ _ _ hN.out.1 (t + 1) (by simp [hq'.out])).mono ?_; rintro e w5 ⟨rfl, rfl⟩))
                  exact ⟨⟨k + 1, v2, _, by omega, by go_num, hN.out⟩, by simp [intOf]; omega⟩
                · rw [decide_eq_false hmay, if_neg hmay] at hSw
                  have hSw' := Lib.hid hSw
                  clear hSw hok hk0 hk1 hk2
                  have hfin : ∀ w2 v2, StkIs w2 g g v2 l → MTouch (wr.alloc (.cells (f k).row 53)) w2 g v v2 → Two w g w2 v2 (.slice As q cs) l := fun w2 v2 hs2 ht2 => (hT0.out.turned hs2 ht2).two (hT0.out.turned hs2 ht2).own (Only.refl _ _) (fun b hb => .inl hb) (by rw [hq'.out]; exact hl)
                  have hfin' := Lib.hid hfin
                  clear hfin
                  by_cases m1 : 1 ≤ (f k).n
                  · have m2 : ¬ (f k).n < q := fun h => hmay ⟨m1, h⟩
                    clear hmay
                    go_wp2_with (first
                      | (go_at_call 52; refine hSw'.out.mono ?_; rintro e w2 ⟨rfl, v2, hs2, ht2⟩; have hN := Lib.hid (hfin'.out _ _ hs2 ht2); clear hs2 ht2)
                      | (go_at_call 53; refine (hLn.out _ _ _ hN.out.1 q hq'.out).mono ?_; rintro e w5 ⟨rfl, rfl⟩))
                    exact ⟨⟨k + 1, v2, _, by omega, by go_num, hN.out⟩, by simp [intOf]; omega⟩
                  · clear hmay
                    go_wp2_with (first
                      | (go_at_call 52; refine hSw'.out.mono ?_; rintro e w2 ⟨rfl, v2, hs2, ht2⟩; have hN := Lib.hid (hfin'.out _ _ hs2 ht2); clear hs2 ht2)
                      | (go_at_call 53; refine (hLn.out _ _ _ hN.out.1 q hq'.out).mono ?_; rintro e w5 ⟨rfl, rfl⟩))
                    exact ⟨⟨k + 1, v2, _, by omega, by go_num, hN.out⟩, by simp [intOf]; omega⟩
        · obtain rfl : k = n := by omega
          have hAl := Lib.hid (stkAll_any wr g g v l hT'.out.1 (by rw [hq'.out]; exact hl))
          go_wp2_with (first
            | (go_at_call 65; refine hAl.out.mono ?_; rintro e w2 ⟨⟨v2, rfl, ho2⟩, hb2⟩; obtain ⟨A2, c2, rfl, _⟩ := ho2.form; rw [List.length_map, hq'.out] at ho2; rw [List.length_map, hq'.out]; have hO2 := Lib.hid ho2; clear ho2)
            | (go_at_call 64; refine (refSameW_any A2 As q c2 cs _ _ (by rw [← hq'.out]; exact hO2.out.words) (by rw [← hq'.out]; exact (hT'.out.2.1.below hb2).words) hl).mono ?_; rintro e w3 ⟨rfl, hb3⟩))
          go_ret
          exact ⟨rfl, hT'.out.2.2.2.2.trans ((hb2.trans (hb3.mono hb2.size)).mono (by omega))⟩

set_option maxHeartbeats 400000 in
theorem memStacks_all (fill : Int) (h0 : 0 ≤ fill) (h1 : fill < 65536) (A : Option Addr) (n c : Nat) (f : Nat → OpV) (w : World) (hf : Ops w A n f) :
    Calls Try.prog 14 #[.int .u16 fill, .slice A n c] w fun e w' => e = .returned (.bool true) ∧ Below w.heap.size w w' := by
  by_cases hn : n ≤ 200
  · exact memStacks_any (fill % 1030).toNat fill ⟨h0, h1⟩ (by omega) A n c f w hf hn
  · have hn' : (200 : Int) < (n : Int) := by omega
    clear hf hn
    go_enter Try.func14, Try.ntmps14
    go_wp2_with (first
      | (go_at_call 48; refine (stkNew_any _).mono ?_; rintro e w1 ⟨rfl, hm1, hb1⟩; have hB1 := Lib.hid hb1; clear hm1 hb1)
      | (go_at_call 32; first
        | (refine (fixed10_any _).mono ?_; rintro e w3 ⟨rfl, hb3⟩; have hB3 := Lib.hid (hB2.out.trans (hb3.mono hB2.out.size)))
        | (refine (fixed10_any _).mono ?_; rintro e w2 ⟨rfl, hb2⟩; have hB2 := Lib.hid (hB1.out.trans (hb2.mono hB1.out.size)))))
    go_ret
    exact ⟨rfl, hB3.out⟩
end Go.Proofs.Ytfjigoimjaemmaa
