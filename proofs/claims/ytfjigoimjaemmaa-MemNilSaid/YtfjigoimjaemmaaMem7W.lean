/- a frame's memory: words read and written; the reference's walks. -/
import Derived.Test.YtfjigoimjaemmaaMem6W
import Derived.Test.YtfjigoimjaemmaaFrom2W
import Derived.Test.YtfjigoimjaemmaaBytesW
namespace Go.Proofs.Ytfjigoimjaemmaa
open Go.RowKit
set_option linter.unusedSimpArgs false
set_option linter.unusedVariables false
set_option maxRecDepth 100000

theorem readN_le (at' : Int) : readN at' 32 ≤ 32 := by unfold readN; split <;> omega

set_option maxHeartbeats 1000000 in
theorem memWord_any (w : World) (lo g : Nat) (v : Value) (l : List Int) (h : MemIs w lo g v l) (hl : l.length ≤ 4194304) (hlb : ∀ j, 0 ≤ l.getD j 0 ∧ l.getD j 0 < 256) (at' : Int) (hat : I64 at') :
    Calls Try.prog 62 #[.pointer (some ⟨g, 0, none⟩), .int .i64 at'] w fun e w' => e = .returned (wv (wdF (dgF (readF l at') (readN at' 32)))) ∧ Below w.heap.size w w' := by
  have hR := Lib.hid fun (w1 : World) (hb : Below w.heap.size w w1) => memRead_any w1 lo g v l (h.below hb) hl at' 32 hat ⟨by omega, by omega⟩
  have hF := Lib.hid fun (w1 : World) (A : Option Addr) (c : Nat) (hx : Ints w1 .u8 A (readN at' 32) (readF l at')) => wordFrom_any A _ c _ w1 hx (readN_le _) (fun j _ => readF_bd hlb at' j)
  clear h hat hlb
  go_enter Try.func62, Try.ntmps62
  go_wp2_with (first
    | (go_at_call 61; refine (hR.out _ (by (repeat' (first | exact Below.refl _ _ | assumption | refine Below.alloc ?_ (by (try simp only [World.size_alloc, World.size_setCell, World.size_drew, setRow_size] at *); first | done | omega) _ | refine Below.setCell ?_ (by (try simp only [World.size_alloc, World.size_setCell, World.size_drew, setRow_size] at *); first | done | omega) _ | refine Below.drew ?_ | refine Below.trans ?_ (Below.mono (by assumption) (by (try simp only [World.size_alloc, World.size_setCell, World.size_drew, setRow_size] at *); first | done | omega)) | refine below_setRow' ?_ (by (try simp only [World.size_alloc, World.size_setCell, World.size_drew, setRow_size] at *); first | done | omega) _)))).mono ?_; rintro e w1 ⟨⟨A1, c1, rfl, hi1, _⟩, hb1⟩; have hI1 := Lib.hid hi1; have hs1 := hb1.size; simp only [World.size_alloc] at hs1 hb1; clear hi1)
    | (go_at_call 90; refine (hF.out _ _ _ hI1.out).mono ?_; rintro e w2 ⟨rfl, hb2⟩; have hs2 := hb2.size; have hq2 : rowFit w2 w.heap.size = some 4 := (rowFit_below hb2 (by omega)).trans ((rowFit_below hb1 (by omega)).trans (by rw [rowFit_alloc_at _ _ _ _ rfl, tab_size]))))
  refine bodyPost_ret (res_word Try.results62 _ _ _ (tab 4 .u64 (wdF (dgF (readF l at') (readN at' 32)))) rfl (by rw [rowOf_setRow_same _ _ _ (by rw [hq2]; rfl)]) (by rw [tab_size])) rfl ⟨rfl, ?_⟩
  exact below_setRow' ((((Below.refl _ _).alloc (Nat.le_refl _) _).trans (hb1.mono (by omega))).trans (hb2.mono (by omega))) (Nat.le_refl _) _

set_option maxHeartbeats 1000000 in
theorem memSetWord_any (w : World) (lo g : Nat) (v : Value) (l : List Int) (h : MemIs w lo g v l) (hl : l.length ≤ 4194304) (at' : Int) (hat : I64 at') (a : Nat → Int) (ha : W64 a) :
    Calls Try.prog 59 #[.pointer (some ⟨g, 0, none⟩), .int .i64 at', wv a] w fun e w' => e = .returned (.tuple #[]) ∧ MemIs w' lo g v (wrL l at' 32 (bytF a)) ∧ MTouch w w' g v v := by
  have hW := Lib.hid fun (w1 : World) (hb : Below w.heap.size w w1) (A : Option Addr) (c : Nat) (hx : Ints w1 .u8 A 32 (bytF a)) => memWrite_any w1 lo g v l (h.below hb) hl at' hat A 32 c _ hx
  have hB := Lib.hid fun (w1 : World) => wordBytes_any a ha w1
  clear h hat ha
  go_enter Try.func59, Try.ntmps59
  go_wp2_with (first
    | (go_at_call 88; refine (hB.out _).mono ?_; rintro e w1 ⟨rfl, hb1⟩; have hs1 := hb1.size; simp only [World.size_alloc] at hs1 hb1; have hb3 := Lib.hid (show Below w.heap.size w (w1.alloc (.cells (tab 32 .u8 (bytF a)) 127)) from (((Below.refl _ _).alloc (Nat.le_refl _) _).trans (hb1.mono (by omega))).alloc (by omega) _))
    | (go_at_call 55; refine (hW.out _ hb3.out _ _ (fun j hj => ⟨⟨w1.heap.size, 0, none⟩, rfl, by simp, by rw [Addr.add_lit, cell_of_rowOf, Nat.zero_add, rowOf_alloc_at _ _ _ _ rfl, tab_get, if_pos hj]⟩)).mono ?_; rintro e w2 ⟨rfl, hm2, ht2⟩; have hM2 := Lib.hid hm2; have hT2 := Lib.hid ht2; clear hm2 ht2))
  go_end0
  exact ⟨rfl, hM2.out, (Only.of_below' _ hb3.out).trans (hT2.out.weaken (U := fun b => b = g ∨ v.ownBlock = some b) fun x _ hx => .inr hx) (fun x _ hx => hx), .inl rfl⟩
end Go.Proofs.Ytfjigoimjaemmaa
