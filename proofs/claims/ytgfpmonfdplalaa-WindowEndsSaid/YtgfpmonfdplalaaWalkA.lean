/- The calls of Fresh, Top and Take of a window, by the list of the numbers that were taken (no statement of the seat). -/
import Derived.Test.YtgfpmonfdplalaaFrame
import Derived.Test.YtgfpmonfdplalaaPlain
import Derived.Deep.QuietTactic
import Derived.BigQuiet
import Derived.WalkLawsBesides
namespace Go.Proofs.Ytgfpmonfdplalaa
open Go.RowKit

theorem wrap_u64_in (n : Int) (h0 : 0 ≤ n) (h1 : n < 18446744073709551616) : IntKind.u64.wrap n = n := by
  simp only [IntKind.wrap, IntKind.bits, IntKind.signed]
  simp
  omega
theorem wrap_u64_sub (a b : Nat) (h : b ≤ a) (ha : a < 18446744073709551616) : IntKind.u64.wrap ((a : Int) - b) = ((a - b : Nat) : Int) := by
  rw [wrap_u64_in _ (by omega) (by omega)]; omega
theorem and_one (q : Nat) (h : q < 18446744073709551616) : bits .and .u64 (q : Int) 1 = ((q % 2 : Nat) : Int) := by
  have hm : bits .and .u64 (q : Int) (2 ^ 1 - 1) = (q : Int) % 2 ^ 1 :=
    bits_mask .u64 64 (by decide) (fun n h0 h1 => wrap_u64_in n h0 (by simpa using h1)) 1 (by decide) _ (by omega) (by simp; omega)
  have hm' : bits .and .u64 (q : Int) 1 = (q : Int) % 2 := hm
  rw [hm']; omega
theorem bit_of (s k : Nat) (hs : s < 18446744073709551616) : (bits .and .u64 ((s : Int) / 2 ^ k) 1 == 0) = !(s.testBit k) := by
  have e : ((s : Int) / 2 ^ k) = ((s / 2 ^ k : Nat) : Int) := by simp
  have hlt : s / 2 ^ k < 18446744073709551616 := Nat.lt_of_le_of_lt (Nat.div_le_self _ _) hs
  rw [e, and_one _ hlt, Nat.testBit_eq_decide_div_mod_eq, Bool.eq_iff_iff]
  simp only [beq_iff_eq, Bool.not_eq_true', decide_eq_false_iff_not]
  omega

theorem shl_word (s k : Nat) : IntKind.u64.wrap ((s : Int) * 2 ^ min k 64) = (((s <<< k) % 18446744073709551616 : Nat) : Int) := by
  rw [IntKind.wrap_u64, Nat.shiftLeft_eq]
  by_cases h : k ≤ 64
  · rw [Nat.min_eq_left h]; simp
  · rw [Nat.min_eq_right (by omega)]
    have e1 : ((s : Int) * 2 ^ 64) % 18446744073709551616 = 0 := by
      rw [show (2 : Int) ^ 64 = 18446744073709551616 from by decide]; omega
    have e2 : (s * 2 ^ k) % 18446744073709551616 = 0 := by
      rw [show k = 64 + (k - 64) by omega, Nat.pow_add, show (2 : Nat) ^ 64 = 18446744073709551616 from rfl, ← Nat.mul_assoc, Nat.mul_comm s, Nat.mul_assoc]
      exact Nat.mul_mod_right _ _
    rw [e1, e2]; rfl
theorem or_word (a b : Nat) (ha : a < 18446744073709551616) (hb : b < 18446744073709551616) : bits .or .u64 (a : Int) (b : Int) = ((a ||| b : Nat) : Int) :=
  (bits_nat .u64 64 (by decide) (fun n h0 h1 => wrap_u64_in n h0 (by simpa using h1)) a b ha hb).2
theorem or_one (a : Nat) (ha : a < 18446744073709551616) : bits .or .u64 (a : Int) 1 = ((a ||| 1 : Nat) : Int) := or_word a 1 ha (by decide)
theorem one_word (k : Nat) (h : k < 64) : IntKind.u64.wrap (2 ^ min k 64) = ((1 <<< k : Nat) : Int) := by
  have := shl_word 1 k
  rw [Int.natCast_one, Int.one_mul] at this
  rw [this, Nat.mod_eq_of_lt]
  rw [Nat.one_shiftLeft]
  exact Nat.pow_lt_pow_right (by decide) h
theorem freshC_near {top seen n : Nat} (h : freshC top seen n = true) (h2 : seen ≠ 0) (h3 : ¬ top < n) : top - n < 64 := by
  unfold freshC at h
  split at h
  · cases h
  · simp at h
    exact h.1
theorem Upd.win {g : Nat} {w : World} (a b c : Value) : Upd (· = g) w (((w.setCell ⟨g, 1, none⟩ a).setCell ⟨g, 0, none⟩ b).setCell ⟨g, 1, none⟩ c).drew.drew :=
  ((((Upd.refl (· = g) w).setCell (p := ⟨g, 1, none⟩) (fun _ => rfl) a).setCell (p := ⟨g, 0, none⟩) (fun _ => rfl) b).setCell (p := ⟨g, 1, none⟩) (fun _ => rfl) c).drew.drew
theorem win_blk {g : Nat} {w : World} {x y : Value} (a b c : Value) (h : w.heap[g]? = some (.cells #[x, y] 27 (0, 0))) :
    (((w.setCell ⟨g, 1, none⟩ a).setCell ⟨g, 0, none⟩ b).setCell ⟨g, 1, none⟩ c).drew.drew.heap[g]? = some (.cells #[b, c] 27 (0, 0)) :=
  (blk_set (blk_set (blk_set h 1 a) 0 b) 1 c).trans rfl

set_option maxHeartbeats 1000000 in
theorem fresh_code (g top seen n : Nat) (w : World) (hb : w.heap[g]? = some (.cells #[.int .u64 top, .int .u64 seen] 27 (0, 0)))
    (ht : top < 18446744073709551616) (hs : seen < 18446744073709551616) (_hn : n < 18446744073709551616) :
    Calls Try.prog 13 #[.pointer (some ⟨g, 0, none⟩), .int .u64 n] w fun e w' => e = .returned (.bool (freshC top seen n)) ∧ w' = w := by
  have c0 : w.cell? ⟨g, 0, none⟩ = some (.int .u64 top) := (blk_cell hb 0).trans rfl
  have c1 : w.cell? ⟨g, 1, none⟩ = some (.int .u64 seen) := (blk_cell hb 1).trans rfl
  clear hb
  by_cases h1 : n = 18446744073709551615
  · have k : (((n : Nat) : Int) == 18446744073709551615) = true := by simp [h1]
    have hf : freshC top seen n = false := by simp [freshC, h1]
    rw [hf]
    clear hf h1
    go_enter Try.func13, Try.ntmps13
    go_wp2
    go_ret
    exact ⟨rfl, rfl⟩
  have k1 : (((n : Nat) : Int) == 18446744073709551615) = false := beq_eq_false_iff_ne.2 (by omega)
  by_cases h2 : seen = 0
  · have hf : freshC top seen n = true := by simp [freshC, h1, h2]
    have k : (((seen : Nat) : Int) == 0) = true := by simp [h2]
    rw [hf]
    clear hf h1 h2
    go_enter Try.func13, Try.ntmps13
    go_wp2
    go_ret
    exact ⟨rfl, rfl⟩
  have k2 : (((seen : Nat) : Int) == 0) = false := beq_eq_false_iff_ne.2 (by omega)
  by_cases h3 : top < n
  · have hf : freshC top seen n = true := by simp [freshC, h1, h2, h3]
    have k : decide (((top : Nat) : Int) < ((n : Nat) : Int)) = true := decide_eq_true (by omega)
    have k' : decide (top < n) = true := decide_eq_true (by omega)
    rw [hf]
    clear hf h1 h2
    go_enter Try.func13, Try.ntmps13
    go_wp2
    go_ret
    exact ⟨rfl, rfl⟩
  have k3 : decide (((top : Nat) : Int) < ((n : Nat) : Int)) = false := decide_eq_false (by omega)
  have k3' : decide (top < n) = false := decide_eq_false (by omega)
  have hf : freshC top seen n = (decide (top - n < 64) && !(seen.testBit (top - n))) := by simp only [freshC]; rw [if_neg h1, if_neg h2, if_neg h3]
  have hsub : IntKind.u64.wrap ((top : Int) - n) = ((top - n : Nat) : Int) := wrap_u64_sub _ _ (by omega) (by omega)
  rw [hf]
  clear hf h1 h2
  by_cases h4 : top - n < 64
  · have k4 : decide (((top - n : Nat) : Int) < 64) = true := decide_eq_true (by omega)
    have k4' : decide (top - n < 64) = true := decide_eq_true (by omega)
    go_enter Try.func13, Try.ntmps13
    go_wp2
    go_ret
    exact ⟨by rw [← bit_of seen (top - n) hs, k4', Bool.true_and]; rfl, rfl⟩
  · have k4 : decide (((top - n : Nat) : Int) < 64) = false := decide_eq_false (by omega)
    have k4' : decide (top - n < 64) = false := decide_eq_false (by omega)
    go_enter Try.func13, Try.ntmps13
    go_wp2
    go_ret
    exact ⟨by rw [k4', Bool.false_and]; rfl, rfl⟩

set_option maxHeartbeats 1000000 in
theorem top_code (g top seen : Nat) (w : World) (hb : w.heap[g]? = some (.cells #[.int .u64 top, .int .u64 seen] 27 (0, 0))) :
    Calls Try.prog 11 #[.pointer (some ⟨g, 0, none⟩)] w fun e w' => e = .returned (.tuple #[.int .u64 top, .bool ((seen : Int) != 0)]) ∧ ∃ n, w' = w.drewN n := by
  have c0 : w.cell? ⟨g, 0, none⟩ = some (.int .u64 top) := (blk_cell hb 0).trans rfl
  have c1 : w.cell? ⟨g, 1, none⟩ = some (.int .u64 seen) := (blk_cell hb 1).trans rfl
  clear hb
  go_enter Try.func11, Try.ntmps11
  go_wp2
  go_quiet (fail)
  go_wp2
  go_ret2
  exact ⟨rfl, _, rfl⟩

set_option maxHeartbeats 1000000 in
theorem take_code (g top seen n : Nat) (w : World) (hb : w.heap[g]? = some (.cells #[.int .u64 top, .int .u64 seen] 27 (0, 0)))
    (ht : top < 18446744073709551616) (hs : seen < 18446744073709551616) (hn : n < 18446744073709551616) (hf : freshC top seen n = false) :
    Calls Try.prog 9 #[.pointer (some ⟨g, 0, none⟩), .int .u64 n] w fun e w' => e = .returned (.bool false) ∧ w' = w := by
  have H := hid hf
  have HB := hid hb
  clear hf hb
  go_enter Try.func9, Try.ntmps9
  go_wp2_with (go_at_call 13; refine (fresh_code g top seen n _ HB.out ht hs hn).mono ?_; rintro e w' ⟨rfl, rfl⟩; rw [H.out])
  go_ret
  exact ⟨rfl, rfl⟩
set_option maxHeartbeats 1000000 in
theorem take_code2 (g top seen n : Nat) (w : World) (hb : w.heap[g]? = some (.cells #[.int .u64 top, .int .u64 seen] 27 (0, 0)))
    (ht : top < 18446744073709551616) (hs : seen < 18446744073709551616) (hn : n < 18446744073709551616) (hf : freshC top seen n = true) (h0 : seen = 0 → top = 0) :
    Calls Try.prog 9 #[.pointer (some ⟨g, 0, none⟩), .int .u64 n] w fun e w' => e = .returned (.bool true) ∧
      w'.heap[g]? = some (.cells #[.int .u64 (takeT top seen n), .int .u64 (takeS top seen n)] 27 (0, 0)) ∧ Upd (· = g) w w' := by
  have H := hid hf
  have HB := hid hb
  have c0 : w.cell? ⟨g, 0, none⟩ = some (.int .u64 top) := (blk_cell hb 0).trans rfl
  have c1 : w.cell? ⟨g, 1, none⟩ = some (.int .u64 seen) := (blk_cell hb 1).trans rfl
  have f0 : w.frozen? ⟨g, 0, none⟩ = false := blk_free hb 0
  have f1 : w.frozen? ⟨g, 1, none⟩ = false := blk_free hb 1
  clear hf hb
  by_cases h2 : seen = 0
  · have k : (((seen : Nat) : Int) == 0) = true := by simp [h2]
    have hsub : IntKind.u64.wrap ((n : Int) - top) = ((n - top : Nat) : Int) := wrap_u64_sub _ _ (by have := h0 h2; omega) (by omega)
    have H2 := hid h2
    have H0 := hid h0
    clear h2 h0
    go_enter Try.func9, Try.ntmps9
    go_wp2_with (go_at_call 13; refine (fresh_code g top seen n _ HB.out ht hs hn).mono ?_; rintro e w' ⟨rfl, rfl⟩; rw [H.out])
    go_region
    go_wp2
    go_region
    go_wp2
    go_ret
    have h2 : seen = 0 := H2.out
    refine ⟨rfl, (win_blk _ _ _ HB.out).trans ?_, Upd.win _ _ _⟩
    rw [shl_word, or_one _ (Nat.mod_lt _ (by decide))]
    have e1 : takeT top seen n = n := by simp [takeT, h2]
    have e2 : takeS top seen n = 1 := by simp [takeS, h2]
    rw [e1, e2, h2]; simp
  by_cases h3 : top < n
  · have k2 : (((seen : Nat) : Int) == 0) = false := beq_eq_false_iff_ne.2 (by omega)
    have k : decide (((top : Nat) : Int) < ((n : Nat) : Int)) = true := decide_eq_true (by omega)
    have k' : decide (top < n) = true := decide_eq_true (by omega)
    have hsub : IntKind.u64.wrap ((n : Int) - top) = ((n - top : Nat) : Int) := wrap_u64_sub _ _ (by omega) (by omega)
    clear h2
    go_enter Try.func9, Try.ntmps9
    go_wp2_with (go_at_call 13; refine (fresh_code g top seen n _ HB.out ht hs hn).mono ?_; rintro e w' ⟨rfl, rfl⟩; rw [H.out])
    go_region
    go_wp2
    go_region
    go_wp2
    go_ret
    refine ⟨rfl, (win_blk _ _ _ HB.out).trans ?_, Upd.win _ _ _⟩
    rw [shl_word, or_one _ (Nat.mod_lt _ (by decide))]
    have e1 : takeT top seen n = n := by unfold takeT; split <;> simp
    have e2 : takeS top seen n = (seen <<< (n - top)) % 18446744073709551616 ||| 1 := by
      have : seen ≠ 0 := fun e => by simp [e] at k2
      simp [takeS, h3, this]
    rw [e1, e2]
  · have k2 : (((seen : Nat) : Int) == 0) = false := beq_eq_false_iff_ne.2 (by omega)
    have k : decide (((top : Nat) : Int) < ((n : Nat) : Int)) = false := decide_eq_false (by omega)
    have k' : decide (top < n) = false := decide_eq_false (by omega)
    have hsub : IntKind.u64.wrap ((top : Int) - n) = ((top - n : Nat) : Int) := wrap_u64_sub _ _ (by omega) (by omega)
    clear h2
    go_enter Try.func9, Try.ntmps9
    go_wp2_with (go_at_call 13; refine (fresh_code g top seen n _ HB.out ht hs hn).mono ?_; rintro e w' ⟨rfl, rfl⟩; rw [H.out])
    go_region
    go_wp2
    go_ret
    have h2 : seen ≠ 0 := fun e => by simp [e] at k2
    have h64 := freshC_near H.out h2 h3
    refine ⟨rfl, (blk_set HB.out 1 _).trans ?_, ((Upd.refl (· = g) w').setCell (p := ⟨g, 1, none⟩) (fun _ => rfl) _).drew⟩
    rw [one_word _ h64, or_word _ _ hs (by rw [Nat.one_shiftLeft]; exact Nat.pow_lt_pow_right (by decide) h64)]
    have e1 : takeT top seen n = top := by simp [takeT, h2, h3]
    have e2 : takeS top seen n = seen ||| (1 <<< (top - n)) := by simp [takeS, h2, h3]
    rw [e1, e2]; rfl

/-- The window at block g has taken the numbers of L. -/
def Win (g : Nat) (L : List Nat) (w : World) : Prop :=
  ∃ top seen : Nat, w.heap[g]? = some (.cells #[.int .u64 top, .int .u64 seen] 27 (0, 0)) ∧ Inv top seen L
theorem Win.upd {g : Nat} {L : List Nat} {S : Nat → Prop} {w w' : World} (h : Win g L w) (hu : Upd S w w') (hn : ¬ S g) : Win g L w' := by
  obtain ⟨top, seen, hb, hi⟩ := h
  exact ⟨top, seen, hu.blk hb hn, hi⟩
theorem Win.new (w : World) : Win w.heap.size [] (w.alloc (.cells #[.int .u64 0, .int .u64 0] 27)) :=
  ⟨0, 0, by simpa using heap_alloc_new w (.cells #[.int .u64 0, .int .u64 0] 27), inv_nil⟩
theorem Win.lt {g : Nat} {L : List Nat} {w : World} (h : Win g L w) : g < w.heap.size := by
  obtain ⟨_, _, hb, _⟩ := h; exact lt_of_block hb
theorem fresh_win (g : Nat) (L : List Nat) (n : Nat) (w : World) (h : Win g L w) (hn : n < 18446744073709551616) :
    Calls Try.prog 13 #[.pointer (some ⟨g, 0, none⟩), .int .u64 n] w fun e w' => e = .returned (.bool (freshB L n)) ∧ w = w' := by
  obtain ⟨top, seen, hb, hi⟩ := h
  refine (fresh_code g top seen n w hb hi.t hi.s hn).mono ?_
  rintro e w' ⟨rfl, rfl⟩
  rw [freshC_eq hi n hn]
  exact ⟨rfl, rfl⟩
theorem top_win (g : Nat) (L : List Nat) (w : World) (h : Win g L w) :
    Calls Try.prog 11 #[.pointer (some ⟨g, 0, none⟩)] w fun e w' => e = .returned (.tuple #[.int .u64 (topL L), .bool (!L.isEmpty)]) ∧ ∃ k, w' = w.drewN k := by
  obtain ⟨top, seen, hb, hi⟩ := h
  refine (top_code g top seen w hb).mono ?_
  rintro e w' ⟨rfl, hw⟩
  rw [hi.top]
  have : ((seen : Int) != 0) = !L.isEmpty := by
    have := hi.seen_zero
    rw [Bool.eq_iff_iff]
    simp
    rw [this]
  rw [this]
  exact ⟨rfl, hw⟩
theorem take_win (g : Nat) (L : List Nat) (n : Nat) (w : World) (h : Win g L w) (hn : n < 18446744073709551616) :
    Calls Try.prog 9 #[.pointer (some ⟨g, 0, none⟩), .int .u64 n] w fun e w' => e = .returned (.bool (freshB L n)) ∧ Win g (takeL L n) w' ∧ Upd (· = g) w w' := by
  obtain ⟨top, seen, hb, hi⟩ := h
  have he := freshC_eq hi n hn
  cases hf : freshB L n with
  | false =>
    rw [hf] at he
    refine (take_code g top seen n w hb hi.t hi.s hn he).mono ?_
    rintro e w' ⟨rfl, rfl⟩
    refine ⟨rfl, ⟨top, seen, hb, ?_⟩, Upd.refl _ _⟩
    simpa [takeL, hf] using hi
  | true =>
    rw [hf] at he
    refine (take_code2 g top seen n w hb hi.t hi.s hn he (fun e => (hi.nil (hi.seen_zero.1 e)).1)).mono ?_
    rintro e w' ⟨rfl, hb', hu⟩
    refine ⟨rfl, ⟨_, _, hb', ?_⟩, hu⟩
    simpa [takeL, hf] using hi.take' hn hf
end Go.Proofs.Ytgfpmonfdplalaa
