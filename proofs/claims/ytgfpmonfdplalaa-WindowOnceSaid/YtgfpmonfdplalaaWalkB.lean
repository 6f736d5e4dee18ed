/- The closed beginning of each statement: what must be in any case (no statement of the seat). -/
import Derived.Test.YtgfpmonfdplalaaWalkA
namespace Go.Proofs.Ytgfpmonfdplalaa
open Go.RowKit

theorem take_winZ (g : Nat) (L L' : List Nat) (b : Bool) (n : Nat) (z : Int) (w : World) (h : Win g L w) (hz : z = (n : Int)) (hn : n < 18446744073709551616)
    (hb : freshB L n = b) (hL : takeL L n = L') :
    Calls Try.prog 9 #[.pointer (some ⟨g, 0, none⟩), .int .u64 z] w fun e w' => e = .returned (.bool b) ∧ Win g L' w' ∧ Upd (· = g) w w' := by
  subst hz; subst hb; subst hL
  exact take_win g L n w h hn
theorem fresh_winZ (g : Nat) (L : List Nat) (b : Bool) (n : Nat) (z : Int) (w : World) (h : Win g L w) (hz : z = (n : Int)) (hn : n < 18446744073709551616)
    (hb : freshB L n = b) :
    Calls Try.prog 13 #[.pointer (some ⟨g, 0, none⟩), .int .u64 z] w fun e w' => e = .returned (.bool b) ∧ w = w' := by
  subst hz; subst hb
  exact fresh_win g L n w h hn
theorem top_winZ (g : Nat) (L : List Nat) (b : Bool) (z : Int) (w : World) (h : Win g L w) (hz : (topL L : Int) = z) (hb : (!L.isEmpty) = b) :
    Calls Try.prog 11 #[.pointer (some ⟨g, 0, none⟩)] w fun e w' => e = .returned (.tuple #[.int .u64 z, .bool b]) ∧ Win g L w' ∧ Upd (fun _ => False) w w' := by
  subst hz; subst hb
  refine (top_win g L w h).mono ?_
  rintro e w' ⟨rfl, k, rfl⟩
  exact ⟨rfl, h.upd (Upd.refl (fun _ => False) w |>.drewN k) (fun h => h), (Upd.refl _ w).drewN k⟩

set_option maxHeartbeats 1000000 in
theorem shown_any (w : World) : Calls Try.prog 8 #[] w fun e w' => e = .returned (.bool true) ∧ Upd (fun _ => False) w w' := by
  have hW := Win.new w
  have hU : Upd (fun k => k = w.heap.size) w (w.alloc (.cells #[.int .u64 0, .int .u64 0] 27)) := (Upd.refl _ w).alloc _
  have HU := hid hU
  clear hU
  go_enter Try.func8, Try.ntmps8
  go_wp2_with fail
  refine (take_winZ _ [] [5] true 5 _ _ hW rfl (by decide) (by decide) (by decide)).mono ?_
  rintro e w1 ⟨rfl, hw1, hu1⟩
  replace HU := hid (HU.out.trans hu1)
  clear hW hu1
  go_wp2_with fail
  refine (take_winZ _ [5] [5] false 5 _ _ hw1 rfl (by decide) (by decide) (by decide)).mono ?_
  rintro e w2 ⟨rfl, hw2, hu2⟩
  replace HU := hid (HU.out.trans hu2)
  clear hw1 hu2
  go_wp2_with fail
  refine (take_winZ _ [5] [5, 100] true 100 _ _ hw2 rfl (by decide) (by decide) (by decide)).mono ?_
  rintro e w3 ⟨rfl, hw3, hu3⟩
  replace HU := hid (HU.out.trans hu3)
  clear hw2 hu3
  go_wp2_with fail
  refine (take_winZ _ [5, 100] [5, 100] false 36 _ _ hw3 rfl (by decide) (by decide) (by decide)).mono ?_
  rintro e w4 ⟨rfl, hw4, hu4⟩
  replace HU := hid (HU.out.trans hu4)
  clear hw3 hu4
  go_wp2_with fail
  refine (take_winZ _ [5, 100] [5, 100, 37] true 37 _ _ hw4 rfl (by decide) (by decide) (by decide)).mono ?_
  rintro e w5 ⟨rfl, hw5, hu5⟩
  replace HU := hid (HU.out.trans hu5)
  clear hw4 hu5
  go_wp2_with fail
  refine (top_winZ _ [5, 100, 37] true 100 _ hw5 rfl rfl).mono ?_
  rintro e w6 ⟨rfl, hw6, hu6⟩
  replace HU := hid (HU.out.then_ hu6 (fun _ _ h => h.elim))
  clear hw5 hu6
  go_wp2_with fail
  refine (fresh_winZ _ [5, 100, 37] false 18446744073709551615 _ _ hw6 rfl (by decide) (by decide)).mono ?_
  rintro e w7 ⟨rfl, rfl⟩
  go_wp2_with fail
  go_ret
  exact ⟨rfl, HU.out.mono (fun k hk e => by omega)⟩
end Go.Proofs.Ytgfpmonfdplalaa
