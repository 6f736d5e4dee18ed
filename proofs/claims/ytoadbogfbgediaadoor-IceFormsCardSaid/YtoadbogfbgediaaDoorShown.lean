/- What must be in any case (no statement of the seat). -/
import Derived.Test.YtoadbogfbgediaaDoorForm1
namespace Go.Proofs.YtoadbogfbgediaaDoor
open Go.RowKit

/-! ### a region whose calls only lay new blocks -/
/-- A world that came of w by new blocks alone. -/
structure UpdW (w : World) where
  W : World
  h : Upd (fun _ => False) w W
theorem wp_region_upd {P : Program} {id : Nat} {Q : Exit → Act → World → Prop} {a : Act} {w : World} {l : List Oper} (hm : P.follows .mixedOrders = true) (hB : Region.lexB .any l.toArray = true)
    (h : wpQuiet P l.toArray (fun w' => ∃ p : UpdW w, w' = p.W) (fun a' => ∀ w', (∃ p : UpdW w, w' = p.W) → Q .normal a' w') l a) : (Code.region id l.toArray true).wp P Q a w :=
  wp_region_quiet (C := fun w' => ∃ p : UpdW w, w' = p.W) hm hB ⟨⟨w.drew, (Upd.refl _ w).drew⟩, rfl⟩ (by simpa using h)
theorem Calls.upd_of {P : Program} {f : FuncId} {args : Array Value} {w : World} {p : UpdW w} {v : Value}
    (h : Calls P f args p.W fun e w' => e = .returned v ∧ Upd (fun _ => False) p.W w') : Calls P f args p.W fun e w'' => e = .returned v ∧ ∃ q : UpdW w, w'' = q.W :=
  h.mono fun _ w' ⟨he, hu⟩ => ⟨he, ⟨w', p.h.trans hu⟩, rfl⟩
theorem Calls.upd_same {P : Program} {f : FuncId} {args : Array Value} {w : World} {p : UpdW w} {v : Value}
    (h : Calls P f args p.W fun e w' => e = .returned v ∧ p.W = w') : Calls P f args p.W fun e w'' => e = .returned v ∧ ∃ q : UpdW w, w'' = q.W :=
  h.mono fun _ _ ⟨he, hu⟩ => ⟨he, p, hu.symm⟩

theorem pair_21 : pairF 2 1 = 4294967301 := by decide
theorem pair_12 : pairF 1 2 = 4294967300 := by decide
theorem srcP_row {w : World} {g cap : Nat} {c : Pr} (h : w.ownsRow 0 41 6 (.slice (some ⟨g, 0, none⟩) 1 cap) 1 (prCells c).toList) : SrcP w (some ⟨g, 0, none⟩) 1 (fun _ => c) := by
  have hc : ∀ i, i < 6 → w.cell? ⟨g, i, none⟩ = (prCells c)[i]? := fun i hi => (World.ownsRow.cellAt h i (by omega)).trans (by simp)
  refine ⟨by omega, fun i hi => ?_⟩
  obtain rfl : i = 0 := by omega
  have h0 := hc 0 (by omega)
  exact ⟨g, rfl, World.block_lt_of_cell? _ _ (h0.trans rfl), h0, hc 1 (by omega), hc 2 (by omega), hc 3 (by omega), hc 4 (by omega), hc 5 (by omega)⟩
theorem next_P1 (A : Option Addr) (cap : Nat) (w : World) (h : SrcP w A 1 (fun _ => P1)) :
    Calls Tryd.prog 23 #[.slice A 1 cap] w fun e w' => e = .returned (.int .i64 0) ∧ Upd (fun _ => False) w w' := by
  refine (next23_any A 1 cap _ w h).mono ?_
  rintro e w' ⟨r, rfl, ⟨r1, hf, hr⟩, hu⟩
  have h1 : r1 = 0 := by
    rcases hf with ⟨i, hi, rfl, _, _⟩ | ⟨_, hn⟩
    · omega
    · exact absurd rfl (hn 0 (by omega))
  refine ⟨?_, hu⟩
  rcases hr with ⟨_, rfl⟩ | ⟨h2, _⟩
  · rw [h1]
  · omega
theorem best_P1 (A : Option Addr) (cap : Nat) (w : World) (h : SrcP w A 1 (fun _ => P1)) :
    Calls Tryd.prog 25 #[.slice A 1 cap] w fun e w' => e = .returned (.int .i64 (-1)) ∧ Upd (fun _ => False) w w' := by
  refine (best25_any A 1 cap _ w h).mono ?_
  rintro e w' ⟨r, rfl, hf, hu⟩
  refine ⟨?_, hu⟩
  rcases hf with ⟨i, hi, rfl, h3, _⟩ | ⟨rfl, _⟩
  · exact absurd (show (1 : Int) = 3 from h3) (by decide)
  · rfl
theorem next_nil (w : World) : Calls Tryd.prog 23 #[.slice none 0 0] w fun e w' => e = .returned (.int .i64 (-1)) ∧ Upd (fun _ => False) w w' := by
  refine (next23_any none 0 0 (fun _ => P1) w ⟨by omega, fun i hi => by omega⟩).mono ?_
  rintro e w' ⟨r, rfl, ⟨r1, hf, hr⟩, hu⟩
  refine ⟨?_, hu⟩
  have h1 : r1 = -1 := by
    rcases hf with ⟨i, hi, rfl, _, _⟩ | ⟨h1, _⟩
    · omega
    · exact h1
  rcases hr with ⟨h2, _⟩ | ⟨_, hf2⟩
  · omega
  · rcases hf2 with ⟨i, hi, rfl, _, _⟩ | ⟨h2, _⟩
    · omega
    · rw [h2]

set_option maxRecDepth 100000 in
set_option maxHeartbeats 4000000 in
theorem shown12_any (bm : Nat) (es : Array MapEntry) (clock : Nat) (w : World) (hK : Kin bm es clock w) :
    Calls Tryd.prog 12 #[] w fun e w' => e = .returned (.bool true) ∧ Upd (fun _ => False) w w' := by
  have HK := hid hK
  clear hK
  go_enter Tryd.func12, Tryd.ntmps12
  go_wp2_with fail
  have hb0 := heap_alloc_new w (.cells (caCells C0) 47)
  have hu0 : Upd (fun _ => False) w (w.alloc (.cells (caCells C0) 47)) := (Upd.refl _ w).alloc _
  refine (gather18_one bm es clock w.heap.size 1 _ (HK.out.upd hu0 (fun h => h) (fun h => h)) (fun i hi => (blk_cell hb0 i))).mono ?_
  rintro e w1 ⟨v, rfl, ⟨g, cap, rfl, hg, hrow⟩, hu⟩
  have HU1 := hid (hu0.trans hu)
  have HR1 := hid hrow
  clear hb0 hu0 hu hg hrow
  go_wp2_with fail
  refine (form20_one g cap w1 HR1.out).mono ?_
  rintro e w2 ⟨v, rfl, ⟨g2, cap2, rfl, hg2, hrow2⟩, hu2⟩
  have HU2 := hid (HU1.out.trans hu2)
  have HS := hid (srcP_row hrow2)
  have hst : w2.cell? ⟨g2, 5, none⟩ = some (.int .i64 1) := (World.ownsRow.cellAt hrow2 5 (by omega)).trans rfl
  have HK2 := hid (HK.out.upd HU2.out (fun h => h) (fun h => h))
  have HP : Hid (Calls Tryd.prog 13 #[.int .i64 1, .int .i64 65535] w2 fun e w' => e = .returned (.int .u32 2130706431) ∧ w2 = w') := hid (prio_C1 ▸ prio_any bm es clock 1 65535 w2 HK2.out ⟨by omega, by omega⟩)
  have HA : Hid (∀ W, Calls Tryd.prog 15 #[.int .u32 2, .int .u32 1] W fun e w' => e = .returned (.int .u64 4294967301) ∧ W = w') := hid (fun W => pair_21 ▸ pair_any 2 1 (by omega) (by omega) W)
  have HB : Hid (∀ W, Calls Tryd.prog 15 #[.int .u32 1, .int .u32 2] W fun e w' => e = .returned (.int .u64 4294967300) ∧ W = w') := hid (fun W => pair_12 ▸ pair_any 1 2 (by omega) (by omega) W)
  clear hu2 hrow2 hg2
  go_wp2_with fail
  refine HP.out.mono ?_
  rintro e w' ⟨rfl, rfl⟩
  go_wp2_with fail
  refine (HA.out _).mono ?_
  rintro e w' ⟨rfl, rfl⟩
  go_wp2_with fail
  refine (HB.out _).mono ?_
  rintro e w' ⟨rfl, rfl⟩
  go_wp2_with fail
  refine (next_P1 _ _ _ HS.out).mono ?_
  rintro e w3 ⟨rfl, hu3⟩
  have HU3 := hid hu3
  clear hu3 hst
  go_wp2_with fail
  refine (best_P1 _ _ _ (HS.out.upd HU3.out)).mono ?_
  rintro e w4 ⟨rfl, hu4⟩
  have HU4 := hid hu4
  clear hu4
  go_wp2_with fail
  refine (next_nil _).mono ?_
  rintro e w5 ⟨rfl, hu5⟩
  have HU5 := hid hu5
  clear hu5
  go_wp2_with fail
  go_ret
  exact ⟨rfl, ((HU2.out.trans HU3.out).trans HU4.out).trans HU5.out⟩
end Go.Proofs.YtoadbogfbgediaaDoor
