/- The calls of the small functions of ice and of its reference (no statement of the seat). -/
import Derived.Test.YtoadbogfbgediaaDoorMaps
import Derived.Deep.QuietTactic
import Derived.BigQuiet
import Derived.WalkLawsBesides
namespace Go.Proofs.YtoadbogfbgediaaDoor
open Go.RowKit

def worth (k : Int) : Int := if k = 1 then 126 else if k = 2 then 110 else if k = 3 then 100 else 0
def isK (k : Int) : Bool := decide (1 ≤ k) && decide (k ≤ 4)
def clampL (n : Int) : Int := if n < 0 then 0 else if n > 65535 then 65535 else n
def prioF (k n : Int) : Int := if isK k = true then worth k * 16777216 + clampL n * 256 + 255 else 0
def pairF (a b : Int) : Int := if b < a then (b * 4294967296 + 2 * a + 1) % 18446744073709551616 else (a * 4294967296 + 2 * b) % 18446744073709551616
def InR (k : Int) : Prop := -9223372036854775808 ≤ k ∧ k ≤ 9223372036854775807

/-- The listed map lies as the program's text lays it. -/
structure Kin (bm : Nat) (es : Array MapEntry) (clock : Nat) (w : World) : Prop where
  cell : w.cell? ⟨0, 0, none⟩ = some (.map (some bm))
  blk : w.heap[bm]? = some (.map es clock)
  look : ∀ W : World, W.heap[bm]? = some (.map es clock) → ∀ k, InR k → (Instr.lookup 53 (.map (some bm)) (.int .i64 k) true).run Tryd.prog W = .ok (.tuple #[.int .u32 (worth k), .bool (isK k)]) W
theorem Kin.upd {bm : Nat} {es : Array MapEntry} {clock : Nat} {w w' : World} {S : Nat → Prop} (h : Kin bm es clock w) (hu : Upd S w w') (h0 : ¬ S 0) (h1 : ¬ S bm) : Kin bm es clock w' :=
  ⟨hu.cell h.cell h0, hu.blk h.blk h1, h.look⟩

theorem wraps_u32 (n : Int) (h0 : 0 ≤ n) (h1 : n < 2 ^ 32) : IntKind.u32.wrap n = n := by rw [IntKind.wrap_u32]; omega
theorem or_join (x y : Int) (i : Nat) (h0 : 0 ≤ x) (h1 : x % 2 ^ i = 0) (h2 : x < 2 ^ 32) (h3 : 0 ≤ y) (h4 : y < 2 ^ i) (h5 : y < 2 ^ 32) : bits .or .u32 x y = x + y :=
  bits_join .u32 32 (by decide) wraps_u32 i x y h0 h1 h2 h3 h4 h5
theorem clamp_in (n : Int) : 0 ≤ clampL n ∧ clampL n ≤ 65535 := by
  unfold clampL; split
  · omega
  · split <;> omega
theorem worth_in (k : Int) : 0 ≤ worth k ∧ worth k ≤ 126 := by
  unfold worth; split
  · omega
  · split
    · omega
    · split <;> omega

theorem prio_or (b m : Int) (h0 : 0 ≤ b) (h1 : b ≤ 126) (h2 : 0 ≤ m) (h3 : m ≤ 65535) : bits .or .u32 (bits .or .u32 (b * 16777216) (m * 256)) 255 = b * 16777216 + m * 256 + 255 := by
  rw [or_join (b * 16777216) (m * 256) 24 (by omega) (by omega) (by omega) (by omega) (by omega) (by omega)]
  rw [or_join (b * 16777216 + m * 256) 255 8 (by omega) (by omega) (by omega) (by omega) (by omega) (by omega)]

set_option maxHeartbeats 1000000 in
theorem prio_any (bm : Nat) (es : Array MapEntry) (clock : Nat) (k n : Int) (w : World) (h : Kin bm es clock w) (hk : InR k) :
    Calls Tryd.prog 13 #[.int .i64 k, .int .i64 n] w fun e w' => e = .returned (.int .u32 (prioF k n)) ∧ w = w' := by
  have hc := h.cell
  have hl := h.look w h.blk k hk
  clear h hk
  cases hi : isK k with
  | false =>
    have hp : prioF k n = 0 := by unfold prioF; rw [hi]; rfl
    rw [hp]
    rw [hi] at hl
    clear hp hi
    go_enter Tryd.func13, Tryd.ntmps13
    go_wp2_with fail
    go_ret
    exact ⟨rfl, rfl⟩
  | true =>
    rw [hi] at hl
    have hp : prioF k n = worth k * 16777216 + clampL n * 256 + 255 := by unfold prioF; rw [hi]; rfl
    rw [hp]
    have hw := worth_in k
    obtain ⟨b, hb⟩ : ∃ b, worth k = b := ⟨_, rfl⟩
    rw [hb] at hl hw ⊢
    clear hp hi hb
    go_enter Tryd.func13, Tryd.ntmps13
    go_wp2_with fail
    · have e : clampL n = 65535 := by unfold clampL; split at * <;> first | omega | (split <;> omega)
      go_ret
      refine ⟨?_, rfl⟩
      rw [e, ← prio_or b 65535 hw.1 hw.2 (by omega) (by omega)]; rfl
    · have e : clampL n = 0 := by unfold clampL; rw [if_pos (by omega)]
      go_ret
      refine ⟨?_, rfl⟩
      rw [e, ← prio_or b 0 hw.1 hw.2 (by omega) (by omega)]; rfl
    · have e : clampL n = n := by
        unfold clampL
        rw [if_neg (by omega)] at *
        rw [if_neg (by omega)]
      have e2 : n ≤ 65535 := by have := clamp_in n; omega
      go_ret
      refine ⟨?_, rfl⟩
      rw [e, ← prio_or b n hw.1 hw.2 (by omega) e2]; rfl

set_option maxHeartbeats 1000000 in
theorem pair_any (a b : Int) (ha : 0 ≤ a ∧ a < 4294967296) (hb : 0 ≤ b ∧ b < 4294967296) (w : World) :
    Calls Tryd.prog 15 #[.int .u32 a, .int .u32 b] w fun e w' => e = .returned (.int .u64 (pairF a b)) ∧ w = w' := by
  go_enter Tryd.func15, Tryd.ntmps15
  go_wp2_with fail
  · have e : pairF a b = b * 4294967296 + 2 * a + 1 := by unfold pairF; rw [if_pos (by assumption)]; omega
    go_ret
    refine ⟨?_, rfl⟩
    rw [e]; rfl
  · have e : pairF a b = IntKind.u64.wrap (a * 4294967296 + 2 * b) := by unfold pairF; rw [if_neg (by omega), IntKind.wrap_u64]
    go_ret
    refine ⟨?_, rfl⟩
    rw [e]; rfl
  · have e : pairF a b = IntKind.u64.wrap (a * 4294967296 + 2 * a) := by unfold pairF; rw [if_neg (by omega), IntKind.wrap_u64]; omega
    go_ret
    refine ⟨?_, rfl⟩
    rw [e]; rfl

theorem prio_spec (k n : Int) : (k = 1 → prioF k n = 2113929216 + clampL n * 256 + 255) ∧ (k = 2 → prioF k n = 1845493760 + clampL n * 256 + 255) ∧ (k = 3 → prioF k n = 1677721600 + clampL n * 256 + 255) ∧
    (k = 4 → prioF k n = clampL n * 256 + 255) ∧ (¬ k = 1 → ¬ k = 2 → ¬ k = 3 → ¬ k = 4 → prioF k n = 0) := by
  refine ⟨?_, ?_, ?_, ?_, ?_⟩
  · rintro rfl; simp [prioF, isK, worth]
  · rintro rfl; simp [prioF, isK, worth]
  · rintro rfl; simp [prioF, isK, worth]
  · rintro rfl; simp [prioF, isK, worth]
  · intro h1 h2 h3 h4
    have : isK k = false := by
      unfold isK
      by_cases h : 1 ≤ k
      · have : ¬ k ≤ 4 := by omega
        simp [this]
      · simp [h]
    unfold prioF; rw [this]; rfl
theorem clamp_spec (n : Int) : (65535 < n → clampL n = 65535) ∧ (0 ≤ n → n ≤ 65535 → clampL n = n) ∧ (n ≤ 0 → clampL n = 0) := by
  unfold clampL
  refine ⟨fun h => ?_, fun h h' => ?_, fun h => ?_⟩
  · rw [if_neg (by omega), if_pos h]
  · rw [if_neg (by omega), if_neg (by omega)]
  · split
    · rfl
    · rw [if_neg (by omega)]; omega
set_option maxHeartbeats 1000000 in
theorem rprio_any (k n : Int) (w : World) : Calls Tryd.prog 14 #[.int .i64 k, .int .i64 n] w fun e w' => e = .returned (.int .u32 (prioF k n)) ∧ w = w' := by
  have hsp := hid (prio_spec k n)
  have hcl := hid (clamp_spec n)
  go_enter Tryd.func14, Tryd.ntmps14
  go_wp2_with fail
  all_goals
    simp only [beq_iff_eq, beq_eq_false_iff_ne, ne_eq] at *
    have hs := hsp.out
    have hc := hcl.out
    go_ret
    refine ⟨?_, rfl⟩
    show Ending.returned (Value.int IntKind.u32 _) = _
    congr 2
    omega
set_option maxHeartbeats 1000000 in
theorem rpair_any (a b : Int) (ha : 0 ≤ a ∧ a < 4294967296) (hb : 0 ≤ b ∧ b < 4294967296) (w : World) :
    Calls Tryd.prog 16 #[.int .u32 a, .int .u32 b] w fun e w' => e = .returned (.int .u64 (pairF a b)) ∧ w = w' := by
  go_enter Tryd.func16, Tryd.ntmps16
  go_wp2_with fail
  · have e : pairF a b = b * 4294967296 + 2 * a + 1 := by unfold pairF; rw [if_pos (by assumption)]; omega
    go_ret
    refine ⟨?_, rfl⟩
    rw [e]; rfl
  · have e : pairF a b = IntKind.u64.wrap (a * 4294967296 + 2 * b) := by unfold pairF; rw [if_neg (by omega), IntKind.wrap_u64]
    go_ret
    refine ⟨?_, rfl⟩
    rw [e]; rfl
end Go.Proofs.YtoadbogfbgediaaDoor
