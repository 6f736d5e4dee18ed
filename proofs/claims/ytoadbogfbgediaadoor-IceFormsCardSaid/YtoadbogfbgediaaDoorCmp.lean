/- The comparisons that few hands the sort (no statement of the seat). -/
import Derived.Test.YtoadbogfbgediaaDoorIns
import Derived.Test.YtoadbogfbgediaaDoorFew1
namespace Go.Proofs.YtoadbogfbgediaaDoor
open Go.RowKit Go.Lib Go.Sort Go.Shelf

def cmpF (x y : Int) : Int := if x < y then -1 else if y < x then 1 else 0
theorem isNaN47 (x : Int) (w : World) : Calls Tryd.prog 47 #[.int .u64 x] w fun e w' => e = .returned (.bool false) ∧ w = w' := by
  go_enter Tryd.func47, Tryd.ntmps47
  go_wp2_with fail
  go_ret
  exact ⟨rfl, rfl⟩
theorem cmp37 (x y : Int) (w : World) : Calls Tryd.prog 37 #[.int .u64 x, .int .u64 y] w fun e w' => e = .returned (.int .i64 (cmpF x y)) ∧ w = w' := by
  go_enter Tryd.func37, Tryd.ntmps37
  go_wp2_with fail
  refine (isNaN47 x _).mono ?_
  rintro e w' ⟨rfl, rfl⟩
  go_wp2_with fail
  refine (isNaN47 y _).mono ?_
  rintro e w' ⟨rfl, rfl⟩
  rcases Int.lt_trichotomy x y with h | h | h
  · have hc : cmpF x y = -1 := by unfold cmpF; rw [if_pos h]
    have HC := hid hc
    clear hc
    go_wp2_with fail
    go_ret
    exact ⟨by rw [HC.out]; rfl, rfl⟩
  · have hc : cmpF x y = 0 := by unfold cmpF; rw [if_neg (by omega), if_neg (by omega)]
    have HC := hid hc
    clear hc
    subst h
    go_wp2_with fail
    go_ret
    exact ⟨by rw [HC.out]; rfl, rfl⟩
  · have hc : cmpF x y = 1 := by unfold cmpF; rw [if_neg (by omega), if_pos h]
    have h' : ¬ x < y := by omega
    have HC := hid hc
    clear hc
    go_wp2_with fail
    go_ret
    exact ⟨by rw [HC.out]; rfl, rfl⟩
theorem worth31 (c : Pr) (w : World) : Calls Tryd.prog 31 #[c.v] w fun e w' => e = .returned (.int .u64 c.p) ∧ ∃ q os', w' = grow (w.drewN q) os' := by
  obtain ⟨⟨a1, a2⟩, ⟨b1, b2⟩, p, s⟩ := c
  go_enter Tryd.func31, Tryd.ntmps31
  go_wp2_with fail
  go_ret
  exact ⟨rfl, 0, #[_], by rw [alloc_eq_grow]; rfl⟩
set_option maxHeartbeats 1000000 in
theorem cmp41 (a b : Pr) (wb : Nat) (w : World) (h : w.cell? ⟨wb, 0, none⟩ = some (fnv 31 #[])) : Calls Tryd.prog 41 #[a.v, b.v, .pointer (some ⟨wb, 0, none⟩)] w fun e w' => e = .returned (.int .i64 (cmpF b.p a.p)) ∧ ∃ q os', w' = grow (w.drewN q) os' := by
  obtain ⟨⟨a1, a2⟩, ⟨b1, b2⟩, p, s⟩ := a
  obtain ⟨⟨c1, c2⟩, ⟨d1, d2⟩, q, t⟩ := b
  have H := hid h
  clear h
  go_enter Tryd.func41, Tryd.ntmps41
  go_wp2_with fail
  obtain ⟨wq, hwq⟩ : ∃ wq, ((w.alloc (.cells (prCells ⟨⟨a1, a2⟩, ⟨b1, b2⟩, p, s⟩) 41)).alloc (.cells (prCells ⟨⟨c1, c2⟩, ⟨d1, d2⟩, q, t⟩) 41)) = wq := ⟨_, rfl⟩
  have hA := heap_alloc_new w (.cells (prCells ⟨⟨a1, a2⟩, ⟨b1, b2⟩, p, s⟩) 41)
  have hB := heap_alloc_new (w.alloc (.cells (prCells ⟨⟨a1, a2⟩, ⟨b1, b2⟩, p, s⟩) 41)) (.cells (prCells ⟨⟨c1, c2⟩, ⟨d1, d2⟩, q, t⟩) 41)
  have hA2 := ((Upd.refl (fun _ => False) _).alloc (.cells (prCells ⟨⟨c1, c2⟩, ⟨d1, d2⟩, q, t⟩) 41)).blk hA (fun h => h)
  have hW := (((Upd.refl (fun _ => False) w).alloc (.cells (prCells ⟨⟨a1, a2⟩, ⟨b1, b2⟩, p, s⟩) 41)).alloc (.cells (prCells ⟨⟨c1, c2⟩, ⟨d1, d2⟩, q, t⟩) 41)).cell H.out (fun h => h)
  have hG : ∃ os, wq = grow w os := ⟨_, by rw [← hwq, alloc_eq_grow, alloc_eq_grow, grow_grow]⟩
  have hsz : (w.alloc (.cells (prCells ⟨⟨a1, a2⟩, ⟨b1, b2⟩, p, s⟩) 41)).heap.size = w.heap.size + 1 := by simp
  rw [hwq] at hB hA2 hW ⊢
  rw [hsz] at hB
  have HG := hid hG
  clear hwq hA hsz hG
  have kA := lt_of_block hA2
  have kB := lt_of_block hB
  have kW := World.block_lt_of_cell? _ _ hW
  have cw : ∀ n os, (grow (wq.drewN n) os).cell? ⟨wb, 0, none⟩ = some (fnv 31 #[]) := cell_grown kW hW
  have ca : ∀ j v, (prCells ⟨⟨a1, a2⟩, ⟨b1, b2⟩, p, s⟩)[j]? = some v → ∀ n os, (grow (wq.drewN n) os).cell? ⟨w.heap.size, j, none⟩ = some v := fun j v hj => cell_grown kA ((blk_cell hA2 j).trans hj)
  have cb : ∀ j v, (prCells ⟨⟨c1, c2⟩, ⟨d1, d2⟩, q, t⟩)[j]? = some v → ∀ n os, (grow (wq.drewN n) os).cell? ⟨w.heap.size + 1, j, none⟩ = some v := fun j v hj => cell_grown kB ((blk_cell hB j).trans hj)
  have ca0 := ca 0 _ rfl
  have ca1 := ca 1 _ rfl
  have ca2 := ca 2 _ rfl
  have ca3 := ca 3 _ rfl
  have ca4 := ca 4 _ rfl
  have ca5 := ca 5 _ rfl
  have cb0 := cb 0 _ rfl
  have cb1 := cb 1 _ rfl
  have cb2 := cb 2 _ rfl
  have cb3 := cb 3 _ rfl
  have cb4 := cb 4 _ rfl
  have cb5 := cb 5 _ rfl
  clear ca cb hA2 hB hW kA kB kW
  have mixed : Tryd.prog.follows .mixedOrders = true := by kernel_rfl
  go_quiet_grown (first | (go_at_call 31; exact Calls.grown_of (worth31 ⟨⟨c1, c2⟩, ⟨d1, d2⟩, q, t⟩ _)) | (go_at_call 31; exact Calls.grown_of (worth31 ⟨⟨a1, a2⟩, ⟨b1, b2⟩, p, s⟩ _)) | (go_at_call 37; exact Calls.grown_of ((cmp37 q p _).mono (fun e w' ⟨he, hw⟩ => ⟨he, 0, #[], by rw [← hw, grow_empty]; rfl⟩))))
  go_wp2_with fail
  go_ret
  obtain ⟨os0, hos0⟩ := HG.out
  refine ⟨rfl, nq, os0 ++ osq, ?_⟩
  rw [hos0]
  show grow (grow (w.drewN nq) _) osq = _
  rw [grow_grow]
end Go.Proofs.YtoadbogfbgediaaDoor
