/- Gather of one host (no statement of the seat). -/
import Derived.Test.YtoadbogfbgediaaDoorApp
namespace Go.Proofs.YtoadbogfbgediaaDoor
open Go.RowKit

abbrev C0 : Ca := ⟨1, ⟨1, 0⟩, ⟨1, 0⟩, 0⟩
abbrev C1 : Ca := ⟨1, ⟨1, 0⟩, ⟨1, 0⟩, 2130706431⟩
theorem prio_C1 : prioF 1 65535 = 2130706431 := by decide
/-- A row of one candidate, new since w. -/
def RowC (c : Ca) (n0 : Nat) (v : Value) (w : World) : Prop := ∃ g cap, v = .slice (some ⟨g, 0, none⟩) 1 cap ∧ n0 ≤ g ∧ w.ownsRow 0 47 6 v 1 (caCells c).toList

theorem own_cap {w : World} {e : TypeId} {g cap : Nat} {l : List Value} (h : w.ownsRow 0 e 6 (.slice (some ⟨g, 0, none⟩) 1 cap) 1 l) : 1 ≤ cap := by
  rcases h.2 with ⟨h1, h2⟩ | ⟨_, _, _, hv, _, _, hc, _⟩
  · omega
  · simp only [Value.slice.injEq] at hv
    omega
set_option maxRecDepth 100000 in
set_option maxHeartbeats 4000000 in
theorem gather18_one (bm : Nat) (es : Array MapEntry) (clock : Nat) (b cap : Nat) (w : World) (hK : Kin bm es clock w) (hb : ∀ i, i < 6 → w.cell? ⟨b, i, none⟩ = (caCells C0)[i]?) :
    Calls Tryd.prog 18 #[.slice (some ⟨b, 0, none⟩) 1 cap] w fun e w' => ∃ v, e = .returned v ∧ RowC C1 w.heap.size v w' ∧ Upd (fun _ => False) w w' := by
  have HK := hid hK
  have c0 : w.cell? ⟨b, 0, none⟩ = some (.int .i64 1) := hb 0 (by omega)
  have c1 : w.cell? ⟨b, 1, none⟩ = some (.int .u32 1) := hb 1 (by omega)
  have c2 : w.cell? ⟨b, 2, none⟩ = some (.int .i64 0) := hb 2 (by omega)
  have c3 : w.cell? ⟨b, 3, none⟩ = some (.int .u32 1) := hb 3 (by omega)
  have c4 : w.cell? ⟨b, 4, none⟩ = some (.int .i64 0) := hb 4 (by omega)
  have c5 : w.cell? ⟨b, 5, none⟩ = some (.int .u32 0) := hb 5 (by omega)
  clear hK hb
  go_enter Tryd.func18, Tryd.ntmps18
  go_wp2_with fail
  go_loopw [3, 10] (fun out i wr => (i = .int .i64 0 ∧ out = .slice none 0 0 ∧ wr = w) ∨ (i = .int .i64 1 ∧ RowC C1 w.heap.size out wr ∧ Upd (fun _ => False) w wr)) (fun _ i _ => 1 - (intOf i).toNat)
  case atStart => exact .inl ⟨rfl, rfl, rfl⟩
  case round =>
    rcases hrel with ⟨rfl, rfl, rfl⟩ | ⟨rfl, hR, hU⟩
    · have hu0 : Upd (fun _ => False) wr (wr.alloc (.cells (caCells C0) 47)) := (Upd.refl _ wr).alloc _
      have hk := HK.out.upd hu0 (fun h => h) (fun h => h)
      have hl := hk.look _ hk.blk 1 ⟨by omega, by omega⟩
      have g0 := hk.cell
      have hw1 : worth 1 = 126 := rfl
      have hi1 : isK 1 = true := rfl
      rw [hw1, hi1] at hl
      have HK1 := hid hk
      clear hk hu0 hw1 hi1
      go_wp2_with fail
      refine (prio_any bm es clock 1 65535 _ HK1.out ⟨by omega, by omega⟩).mono ?_
      rw [prio_C1]
      rintro e w1 ⟨rfl, rfl⟩
      clear c0 c1 c2 c3 c4 c5 hl g0
      go_upto_region 8 with (fail)
      obtain ⟨w2, hw⟩ : ∃ w2, wr.alloc (.cells (caCells C1) 47) = w2 := ⟨_, rfl⟩
      have hu2 : Upd (fun _ => False) wr w2 := hw ▸ (Upd.refl _ wr).alloc _
      have hb2 := heap_alloc_new wr (.cells (caCells C1) 47)
      rw [hw] at hb2 ⊢
      clear hw
      have d0 : w2.cell? ⟨wr.heap.size, 0, none⟩ = some (.int .i64 1) := (blk_cell hb2 0).trans rfl
      have d1 : w2.cell? ⟨wr.heap.size, 1, none⟩ = some (.int .u32 1) := (blk_cell hb2 1).trans rfl
      have d2 : w2.cell? ⟨wr.heap.size, 2, none⟩ = some (.int .i64 0) := (blk_cell hb2 2).trans rfl
      have d3 : w2.cell? ⟨wr.heap.size, 3, none⟩ = some (.int .u32 1) := (blk_cell hb2 3).trans rfl
      have d4 : w2.cell? ⟨wr.heap.size, 4, none⟩ = some (.int .i64 0) := (blk_cell hb2 4).trans rfl
      have d5 : w2.cell? ⟨wr.heap.size, 5, none⟩ = some (.int .u32 2130706431) := (blk_cell hb2 5).trans rfl
      have HU2 := hid hu2
      clear hu2 hb2
      go_wp2_with (at_builtin; refine app_ca rfl _ _ rfl (.slice none 0 0) [] 0 rfl (World.ownsRow_nil _ _ _ _) C1 rfl (by omega) ?_; intro g4 q4 w4 hrow4 hu4 hor4 hlt4; have HR4 := hid hrow4; have HU4 := hid hu4; have HO4 := hid hor4; clear hrow4 hu4 hor4 hlt4)
      refine ⟨.inr ⟨rfl, ⟨g4, q4, rfl, ?_, HR4.out⟩, HU2.out.trans (HU4.out.mono (fun k _ h => by simp [Value.ownBlock] at h))⟩, by simp [intOf]⟩
      rcases HO4.out with h | h
      · simp [Value.ownBlock] at h
      · have := HU2.out.size; omega
    · obtain ⟨g4, q4, rfl, hg4, hrow⟩ := hR
      have HR := hid hrow
      have HU := hid hU
      have HG := hid hg4
      clear hrow hU hg4
      go_wp2_with fail
      refine (few27_one C1 g4 q4 _ (own_cap HR.out) (fun i hi => (World.ownsRow.cellAt HR.out i (by omega)).trans (by simp))).mono ?_
      rintro e w5 ⟨rfl, hu5⟩
      have HU5 := hid hu5
      clear hu5
      go_wp2_with fail
      go_ret
      exact ⟨_, rfl, ⟨g4, q4, rfl, HG.out, HU5.out.row HR.out (fun _ _ h => h)⟩, HU.out.trans HU5.out⟩
end Go.Proofs.YtoadbogfbgediaaDoor
