/- The calls of the small functions of a box (no statement of the seat). -/
import Derived.Test.YtbcchdnbfblooaaFrame
import Derived.Test.YtbcchdnbfblooaaPlain
import Derived.Deep.QuietTactic
import Derived.BigQuiet
import Derived.WalkLawsBesides
namespace Go.Proofs.Ytbcchdnbfblooaa
open Go.RowKit

abbrev Ad.v (a : Ad) : Value := .agg #[.int .u32 a.h, .int .i64 a.p]

theorem way_any (n : Int) (w : World) : Calls Try.prog 28 #[.int .i64 n] w fun e w' => e = .returned (.bool (decide (1 ≤ n ∧ n ≤ 3))) ∧ w = w' := by
  by_cases h1 : 1 ≤ n
  · have k1 : decide (1 ≤ n) = true := decide_eq_true h1
    have h2 : decide (1 ≤ n ∧ n ≤ 3) = decide (n ≤ 3) := by simp [h1]
    rw [h2]
    clear h1 h2
    go_enter Try.func28, Try.ntmps28
    go_wp2
    go_ret
    exact ⟨rfl, rfl⟩
  · have k1 : decide (1 ≤ n) = false := decide_eq_false h1
    have h2 : decide (1 ≤ n ∧ n ≤ 3) = false := by simp [h1]
    rw [h2]
    clear h1 h2
    go_enter Try.func28, Try.ntmps28
    go_wp2
    go_ret
    exact ⟨rfl, rfl⟩

set_option maxHeartbeats 1000000 in
theorem alike_any (n : Int) (a b : Ad) (w : World) : Calls Try.prog 27 #[.int .i64 n, a.v, b.v] w fun e w' => e = .returned (.bool (likeB n a b)) ∧ Upd (fun _ => False) w w' := by
  by_cases h1 : n = 1
  · subst h1
    go_enter Try.func27, Try.ntmps27
    go_wp2
    go_ret
    exact ⟨rfl, ((Upd.refl _ _).alloc _).alloc _⟩
  have k1 : (n == 1) = false := beq_eq_false_iff_ne.2 h1
  by_cases h2 : n = 2
  · subst h2
    clear h1 k1
    go_enter Try.func27, Try.ntmps27
    go_wp2
    go_ret
    exact ⟨rfl, ((Upd.refl _ _).alloc _).alloc _⟩
  have k2 : (n == 2) = false := beq_eq_false_iff_ne.2 h2
  have hl : likeB n a b = (a == b) := by simp [likeB, h1, h2]
  rw [hl]
  clear h1 h2 hl
  obtain ⟨ah, ap⟩ := a
  obtain ⟨bh, bp⟩ := b
  by_cases e1 : ah = bh
  · subst e1
    by_cases e2 : ap = bp
    · subst e2
      go_enter Try.func27, Try.ntmps27
      go_wp2
      go_ret
      exact ⟨by simp, ((Upd.refl _ _).alloc _).alloc _⟩
    · go_enter Try.func27, Try.ntmps27
      go_wp2
      go_ret
      exact ⟨by simp [e2], ((Upd.refl _ _).alloc _).alloc _⟩
  · go_enter Try.func27, Try.ntmps27
    go_wp2
    go_ret
    exact ⟨by simp [e1], ((Upd.refl _ _).alloc _).alloc _⟩
end Go.Proofs.Ytbcchdnbfblooaa
