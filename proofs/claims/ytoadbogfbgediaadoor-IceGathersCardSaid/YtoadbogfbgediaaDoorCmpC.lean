/- The comparison that few hands the sort of candidates (no statement of the seat). -/
import Derived.Test.YtoadbogfbgediaaDoorCmp
namespace Go.Proofs.YtoadbogfbgediaaDoor
open Go.RowKit Go.Lib Go.Sort Go.Shelf

theorem worth28 (c : Ca) (hc : 0 ≤ c.p ∧ c.p < 4294967296) (w : World) : Calls Tryd.prog 28 #[c.v] w fun e w' => e = .returned (.int .u64 c.p) ∧ ∃ q os', w' = grow (w.drewN q) os' := by
  have HC := hid hc
  clear hc
  obtain ⟨s, ⟨a1, a2⟩, ⟨b1, b2⟩, p⟩ := c
  go_enter Tryd.func28, Tryd.ntmps28
  go_wp2_with fail
  go_ret
  exact ⟨by show Ending.returned (Value.int IntKind.u64 (IntKind.u64.wrap p)) = _; rw [IntKind.wrap_u64]; congr 2; have := HC.out; omega, 0, #[_], by rw [alloc_eq_grow]; rfl⟩
set_option maxHeartbeats 1000000 in
theorem cmp36 (a b : Ca) (wb : Nat) (w : World) (ha : 0 ≤ a.p ∧ a.p < 4294967296) (hb : 0 ≤ b.p ∧ b.p < 4294967296) (h : w.cell? ⟨wb, 0, none⟩ = some (fnv 28 #[])) : Calls Tryd.prog 36 #[a.v, b.v, .pointer (some ⟨wb, 0, none⟩)] w fun e w' => e = .returned (.int .i64 (cmpF b.p a.p)) ∧ ∃ q os', w' = grow (w.drewN q) os' := by
  obtain ⟨s, ⟨a1, a2⟩, ⟨b1, b2⟩, p⟩ := a
  obtain ⟨t, ⟨c1, c2⟩, ⟨d1, d2⟩, q⟩ := b
  have H := hid h
  have HPA := hid ha
  have HPB := hid hb
  clear h ha hb
  go_enter Tryd.func36, Tryd.ntmps36
  go_wp2_with fail
  obtain ⟨wq, hwq⟩ : ∃ wq, ((w.alloc (.cells (caCells ⟨s, ⟨a1, a2⟩, ⟨b1, b2⟩, p⟩) 47)).alloc (.cells (caCells ⟨t, ⟨c1, c2⟩, ⟨d1, d2⟩, q⟩) 47)) = wq := ⟨_, rfl⟩
  have hA := heap_alloc_new w (.cells (caCells ⟨s, ⟨a1, a2⟩, ⟨b1, b2⟩, p⟩) 47)
  have hB := heap_alloc_new (w.alloc (.cells (caCells ⟨s, ⟨a1, a2⟩, ⟨b1, b2⟩, p⟩) 47)) (.cells (caCells ⟨t, ⟨c1, c2⟩, ⟨d1, d2⟩, q⟩) 47)
  have hA2 := ((Upd.refl (fun _ => False) _).alloc (.cells (caCells ⟨t, ⟨c1, c2⟩, ⟨d1, d2⟩, q⟩) 47)).blk hA (fun h => h)
  have hW := (((Upd.refl (fun _ => False) w).alloc (.cells (caCells ⟨s, ⟨a1, a2⟩, ⟨b1, b2⟩, p⟩) 47)).alloc (.cells (caCells ⟨t, ⟨c1, c2⟩, ⟨d1, d2⟩, q⟩) 47)).cell H.out (fun h => h)
  have hG : ∃ os, wq = grow w os := ⟨_, by rw [← hwq, alloc_eq_grow, alloc_eq_grow, grow_grow]⟩
  have hsz : (w.alloc (.cells (caCells ⟨s, ⟨a1, a2⟩, ⟨b1, b2⟩, p⟩) 47)).heap.size = w.heap.size + 1 := by simp
  rw [hwq] at hB hA2 hW ⊢
  rw [hsz] at hB
  have HG := hid hG
  clear hwq hA hsz hG
  have kA := lt_of_block hA2
  have kB := lt_of_block hB
  have kW := World.block_lt_of_cell? _ _ hW
  have cw : ∀ n os, (grow (wq.drewN n) os).cell? ⟨wb, 0, none⟩ = some (fnv 28 #[]) := cell_grown kW hW
  have ca : ∀ j v, (caCells ⟨s, ⟨a1, a2⟩, ⟨b1, b2⟩, p⟩)[j]? = some v → ∀ n os, (grow (wq.drewN n) os).cell? ⟨w.heap.size, j, none⟩ = some v := fun j v hj => cell_grown kA ((blk_cell hA2 j).trans hj)
  have cb : ∀ j v, (caCells ⟨t, ⟨c1, c2⟩, ⟨d1, d2⟩, q⟩)[j]? = some v → ∀ n os, (grow (wq.drewN n) os).cell? ⟨w.heap.size + 1, j, none⟩ = some v := fun j v hj => cell_grown kB ((blk_cell hB j).trans hj)
  have ca0 := ca 0 _ rfl
  have ca1 := ca 1 _ rfl
  have ca2 := ca 2 _ rfl
  have ca3 := ca 3 _ rfl
  have ca4 := ca 4 _ rfl
  have ca5 := ca 5 _ rfl
  have cb0 := cb 0 _ rfl
  have cb1 := cb 1 _ rfl
  have cb2 := cb 2 _ rfl
  have cb3 := cb 3 _ rfl
  have cb4 := cb 4 _ rfl
  have cb5 := cb 5 _ rfl
  clear ca cb hA2 hB hW kA kB kW
  have mixed : Tryd.prog.follows .mixedOrders = true := by kernel_rfl
  go_quiet_grown (first | (go_at_call 28; exact Calls.grown_of (worth28 ⟨t, ⟨c1, c2⟩, ⟨d1, d2⟩, q⟩ HPB.out _)) | (go_at_call 28; exact Calls.grown_of (worth28 ⟨s, ⟨a1, a2⟩, ⟨b1, b2⟩, p⟩ HPA.out _)) | (go_at_call 37; exact Calls.grown_of ((cmp37 q p _).mono (fun e w' ⟨he, hw⟩ => ⟨he, 0, #[], by rw [← hw, grow_empty]; rfl⟩))))
  go_wp2_with fail
  go_ret
  obtain ⟨os0, hos0⟩ := HG.out
  refine ⟨rfl, nq, os0 ++ osq, ?_⟩
  rw [hos0]
  show grow (grow (w.drewN nq) _) osq = _
  rw [grow_grow]
end Go.Proofs.YtoadbogfbgediaaDoor
