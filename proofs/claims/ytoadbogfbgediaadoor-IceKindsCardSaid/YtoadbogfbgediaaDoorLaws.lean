/- The walks of IcePriorities, IceKinds, IcePairs (no statement of the seat). -/
import Derived.Test.YtoadbogfbgediaaDoorShown
namespace Go.Proofs.YtoadbogfbgediaaDoor
open Go.RowKit

theorem priorities3_any (bm : Nat) (es : Array MapEntry) (clock : Nat) (k n a b : Int) (w : World) (hK : Kin bm es clock w) (hk : InR k) (_hn : InR n) (ha : 0 ≤ a ∧ a < 4294967296) (hb : 0 ≤ b ∧ b < 4294967296) :
    Calls Tryd.prog 3 #[.int .i64 k, .int .i64 n, .int .u32 a, .int .u32 b] w fun e w' => e = .returned (.bool true) ∧ Upd (fun _ => False) w w' := by
  have HK := hid hK
  have HR := hid hk
  have HA := hid ha
  have HB := hid hb
  clear hK hk ha hb
  go_enter Tryd.func3, Tryd.ntmps3
  go_wp2_with fail
  refine (shown12_any bm es clock w HK.out).mono ?_
  rintro e w1 ⟨rfl, hu⟩
  have HU := hid hu
  clear hu
  go_wp2_with fail
  refine (prio_any bm es clock k n _ (HK.out.upd HU.out (fun h => h) (fun h => h)) HR.out).mono ?_
  rintro e w2 ⟨rfl, rfl⟩
  go_wp2_with fail
  refine (rprio_any k n _).mono ?_
  rintro e w2 ⟨rfl, rfl⟩
  generalize prioF k n = x
  go_wp2_with fail
  refine (pair_any a b HA.out HB.out _).mono ?_
  rintro e w2 ⟨rfl, rfl⟩
  go_wp2_with fail
  refine (rpair_any a b HA.out HB.out _).mono ?_
  rintro e w2 ⟨rfl, rfl⟩
  generalize pairF a b = y
  go_wp2_with fail
  go_ret
  exact ⟨rfl, HU.out⟩

/-! ### IceKinds -/
theorem and_low (x : Int) : 0 ≤ bits .and .i64 x 65535 ∧ bits .and .i64 x 65535 ≤ 65535 := by
  have h1 : (BitVec.ofInt 64 65535).toNat = 65535 := by decide
  have hb : bits .and .i64 x 65535 = IntKind.i64.wrap ((BitVec.ofInt 64 x &&& BitVec.ofInt 64 65535).toNat : Int) := rfl
  have hle : (BitVec.ofInt 64 x &&& BitVec.ofInt 64 65535).toNat ≤ 65535 := by
    rw [BitVec.toNat_and, h1]; exact Nat.and_le_right
  rw [hb, IntKind.wrap_i64]
  omega
/-- One of four, by the low bits. -/
def four (x : Int) : Int := 1 + (bits .and .i64 x 65535).tmod 4
theorem four_in (x : Int) : 1 ≤ four x ∧ four x ≤ 4 := by
  have := and_low x
  unfold four
  rw [Int.tmod_eq_emod_of_nonneg this.1]
  omega
theorem prio_at (k n : Int) (h : 1 ≤ k ∧ k ≤ 4) : prioF k n = worth k * 16777216 + clampL n * 256 + 255 := by
  unfold prioF isK
  rw [if_pos (by simp; exact h)]
theorem worth_cmp (a b : Int) (ha : 1 ≤ a ∧ a ≤ 4) (hb : 1 ≤ b ∧ b ≤ 4) (h : a < b) : worth b < worth a := by
  have ha' : a = 1 ∨ a = 2 ∨ a = 3 ∨ a = 4 := by omega
  have hb' : b = 1 ∨ b = 2 ∨ b = 3 ∨ b = 4 := by omega
  rcases ha' with rfl | rfl | rfl | rfl <;> rcases hb' with rfl | rfl | rfl | rfl <;> first | omega | decide
theorem kinds_ne (a b m n : Int) (ha : 1 ≤ a ∧ a ≤ 4) (hb : 1 ≤ b ∧ b ≤ 4) (h : a ≠ b) : decide (prioF b n < prioF a m) = decide (a < b) := by
  rw [prio_at a m ha, prio_at b n hb]
  have h1 := clamp_in m
  have h2 := clamp_in n
  by_cases hl : a < b
  · have := worth_cmp a b ha hb hl
    rw [decide_eq_true hl, decide_eq_true (by omega)]
  · have := worth_cmp b a hb ha (by omega)
    rw [decide_eq_false hl, decide_eq_false (by omega)]
theorem kinds_gt (a m n : Int) (ha : 1 ≤ a ∧ a ≤ 4) : decide (prioF a n < prioF a m) = decide (clampL n < clampL m) := by
  rw [prio_at a m ha, prio_at a n ha]
  by_cases hl : clampL n < clampL m
  · rw [decide_eq_true hl, decide_eq_true (by omega)]
  · rw [decide_eq_false hl, decide_eq_false (by omega)]
theorem kinds_eq (a m n : Int) (ha : 1 ≤ a ∧ a ≤ 4) : decide (prioF a m = prioF a n) = decide (clampL m = clampL n) := by
  rw [prio_at a m ha, prio_at a n ha]
  by_cases hl : clampL m = clampL n
  · rw [decide_eq_true hl, decide_eq_true (by omega)]
  · rw [decide_eq_false hl, decide_eq_false (by omega)]

theorem bq (a b : Bool) : (a == b) = true ↔ (a = true ↔ b = true) := by cases a <;> cases b <;> simp
theorem bn (a : Bool) : (!a) = true ↔ ¬ a = true := by cases a <;> simp
theorem bb (a b c d : Int) : ((a == b) = (c == d)) ↔ (a = b ↔ c = d) := by
  rw [Bool.eq_iff_iff]; simp
theorem max_min (n : Int) : max 0 (min n 65535) = clampL n := by
  unfold clampL; omega
set_option maxHeartbeats 1000000 in
theorem kinds8_any (bm : Nat) (es : Array MapEntry) (clock : Nat) (a b m n : Int) (w : World) (hK : Kin bm es clock w) (_ha : InR a) (_hb : InR b) (_hm : InR m) (_hn : InR n) :
    Calls Tryd.prog 8 #[.int .i64 a, .int .i64 b, .int .i64 m, .int .i64 n] w fun e w' => e = .returned (.bool true) ∧ Upd (fun _ => False) w w' := by
  have HK := hid hK
  clear hK
  go_enter Tryd.func8, Tryd.ntmps8
  go_wp2_with fail
  refine (shown12_any bm es clock w HK.out).mono ?_
  rintro e w1 ⟨rfl, hu⟩
  have HU := hid hu
  clear hu
  go_wp2_with fail
  have hva := four_in a
  have hvb := four_in b
  have ea : wrap64 (1 + (bits BinOp.and IntKind.i64 a 65535).tmod 4) = four a := by unfold four at hva ⊢; unfold wrap64; omega
  have eb : wrap64 (1 + (bits BinOp.and IntKind.i64 b 65535).tmod 4) = four b := by unfold four at hvb ⊢; unfold wrap64; omega
  rw [ea, eb]
  generalize four a = x at hva ⊢
  generalize four b = y at hvb ⊢
  clear ea eb
  have HVA := hid hva
  have HVB := hid hvb
  clear hva hvb
  refine (prio_any bm es clock x m _ (HK.out.upd HU.out (fun h => h) (fun h => h)) ⟨by have := HVA.out; omega, by have := HVA.out; omega⟩).mono ?_
  rintro e w2 ⟨rfl, rfl⟩
  go_wp2_with fail
  refine (prio_any bm es clock y n _ (HK.out.upd HU.out (fun h => h) (fun h => h)) ⟨by have := HVB.out; omega, by have := HVB.out; omega⟩).mono ?_
  rintro e w2 ⟨rfl, rfl⟩
  by_cases hxy : x = y
  · subst hxy
    have h1 := kinds_gt x m n HVA.out
    have h2 := kinds_eq x m n HVA.out
    have hm := max_min m
    have hn := max_min n
    generalize prioF x m = p at h1 h2 ⊢
    generalize prioF x n = q at h1 h2 ⊢
    generalize clampL m = cm at h1 h2 hm ⊢
    generalize clampL n = cn at h1 h2 hn ⊢
    have H1 := hid h1
    have H2 := hid h2
    have HM := hid hm
    have HN := hid hn
    clear h1 h2 hm hn
    go_wp2_with fail
    all_goals
      have k1 : q < p ↔ cn < cm := by have := H1.out; rwa [decide_eq_decide] at this
      have k2 : p = q ↔ cm = cn := by have := H2.out; rwa [decide_eq_decide] at this
      have k3 := HM.out
      have k4 := HN.out
      go_ret
      refine ⟨?_, HU.out⟩
      first
        | rfl
        | (exfalso; omega)
        | (show Ending.returned (Value.bool _) = _; congr 2; (try simp only [bb, bq, bn, Bool.and_eq_true, Bool.or_eq_true] at *); (try simp only [beq_iff_eq, bne_iff_ne, ne_eq, decide_eq_true_eq, IntKind.wrap_u64] at *); omega)
  · have h1 := kinds_ne x y m n HVA.out HVB.out hxy
    generalize prioF x m = p at h1 ⊢
    generalize prioF y n = q at h1 ⊢
    have H1 := hid h1
    clear h1
    go_wp2_with fail
    all_goals
      have k1 : q < p ↔ x < y := by have := H1.out; rwa [decide_eq_decide] at this
      go_ret
      refine ⟨?_, HU.out⟩
      first
        | rfl
        | (exfalso; omega)
        | (show Ending.returned (Value.bool _) = _; congr 2; (try simp only [bb, bq, bn, Bool.and_eq_true, Bool.or_eq_true] at *); (try simp only [beq_iff_eq, bne_iff_ne, ne_eq, decide_eq_true_eq, IntKind.wrap_u64] at *); omega)

theorem pairF_half (a b : Int) (ha : 0 ≤ a ∧ a < 2147483648) (hb : 0 ≤ b ∧ b < 2147483648) : (b < a → pairF a b = b * 4294967296 + 2 * a + 1) ∧ (¬ b < a → pairF a b = a * 4294967296 + 2 * b) := by
  unfold pairF
  refine ⟨fun h => ?_, fun h => ?_⟩
  · rw [if_pos h]; omega
  · rw [if_neg h]; omega
set_option maxHeartbeats 1000000 in
theorem pairs9_any (bm : Nat) (es : Array MapEntry) (clock : Nat) (a b c d : Int) (w : World) (hK : Kin bm es clock w) (ha : 0 ≤ a ∧ a < 4294967296) (hb : 0 ≤ b ∧ b < 4294967296) (hc : 0 ≤ c ∧ c < 4294967296) (hd : 0 ≤ d ∧ d < 4294967296) :
    Calls Tryd.prog 9 #[.int .u32 a, .int .u32 b, .int .u32 c, .int .u32 d] w fun e w' => e = .returned (.bool true) ∧ Upd (fun _ => False) w w' := by
  have HK := hid hK
  have HA := hid (show 0 ≤ a / 2 ∧ a / 2 < 2147483648 by omega)
  have HB := hid (show 0 ≤ b / 2 ∧ b / 2 < 2147483648 by omega)
  have HC := hid (show 0 ≤ c / 2 ∧ c / 2 < 2147483648 by omega)
  have HD := hid (show 0 ≤ d / 2 ∧ d / 2 < 2147483648 by omega)
  clear hK ha hb hc hd
  go_enter Tryd.func9, Tryd.ntmps9
  go_wp2_with fail
  refine (shown12_any bm es clock w HK.out).mono ?_
  rintro e w1 ⟨rfl, hu⟩
  have HU := hid hu
  clear hu
  go_wp2_with fail
  generalize a / 2 = x at HA ⊢
  generalize b / 2 = y at HB ⊢
  generalize c / 2 = z at HC ⊢
  generalize d / 2 = u at HD ⊢
  refine (pair_any x y (by have := HA.out; omega) (by have := HB.out; omega) _).mono ?_
  rintro e w2 ⟨rfl, rfl⟩
  go_wp2_with fail
  refine (pair_any z u (by have := HC.out; omega) (by have := HD.out; omega) _).mono ?_
  rintro e w2 ⟨rfl, rfl⟩
  have H1 := hid (pairF_half x y HA.out HB.out)
  have H2 := hid (pairF_half z u HC.out HD.out)
  generalize pairF x y = p at H1 ⊢
  generalize pairF z u = q at H2 ⊢
  go_wp2_with fail
  all_goals first
    | (go_ret
       have k1 := H1.out
       have k2 := H2.out
       have k4 := HA.out
       have k5 := HB.out
       have k6 := HC.out
       have k7 := HD.out
       refine ⟨?_, HU.out⟩
       first
         | rfl
         | (exfalso; (try simp only [bb, bq, bn, Bool.and_eq_true, Bool.or_eq_true] at *); (try simp only [beq_iff_eq, bne_iff_ne, ne_eq, decide_eq_true_eq, IntKind.wrap_u64] at *); omega)
         | (show Ending.returned (Value.bool _) = _; congr 2; (try simp only [bb, bq, bn, Bool.and_eq_true, Bool.or_eq_true] at *); (try simp only [beq_iff_eq, bne_iff_ne, ne_eq, decide_eq_true_eq, IntKind.wrap_u64] at *); omega))
    | (refine (pair_any _ _ (by have := HA.out; have := HB.out; omega) (by have := HA.out; have := HB.out; omega) _).mono ?_
       rintro e w2 ⟨rfl, rfl⟩
       go_wp2_with fail
       all_goals
         go_ret
         have k1 := H1.out
         have k2 := H2.out
         have k3 := pairF_half _ x HB.out HA.out
         have k8 := pairF_half z x HC.out HA.out
         have k9 := pairF_half u x HD.out HA.out
         have k10 := pairF_half y z HB.out HC.out
         have k11 := pairF_half y u HB.out HD.out
         have k4 := HA.out
         have k5 := HB.out
         have k6 := HC.out
         have k7 := HD.out
         refine ⟨?_, HU.out⟩
         first
           | rfl
           | (exfalso; (try simp only [bb, bq, bn, Bool.and_eq_true, Bool.or_eq_true] at *); (try simp only [beq_iff_eq, bne_iff_ne, ne_eq, decide_eq_true_eq, IntKind.wrap_u64] at *); omega)
           | (show Ending.returned (Value.bool _) = _; congr 2; (try simp only [bb, bq, bn, Bool.and_eq_true, Bool.or_eq_true] at *); (try simp only [beq_iff_eq, bne_iff_ne, ne_eq, decide_eq_true_eq, IntKind.wrap_u64] at *); omega))
end Go.Proofs.YtoadbogfbgediaaDoor
