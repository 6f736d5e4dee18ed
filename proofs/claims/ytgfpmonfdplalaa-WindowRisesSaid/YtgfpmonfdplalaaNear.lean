/- The walks of WindowRises and WindowNear (no statement of the seat). -/
import Derived.Test.YtgfpmonfdplalaaWalkB
import Derived.Test.YtgfpmonfdplalaaSrc
namespace Go.Proofs.Ytgfpmonfdplalaa
open Go.RowKit

theorem mask60 (n : Nat) (h : n < 18446744073709551616) : ∃ F : Nat, F < 1152921504606846976 ∧ bits .and .u64 (n : Int) 1152921504606846975 = (F : Int) := by
  have hm : bits .and .u64 (n : Int) (2 ^ 60 - 1) = (n : Int) % 2 ^ 60 :=
    bits_mask .u64 64 (by decide) (fun n h0 h1 => wrap_u64_in n h0 (by simpa using h1)) 60 (by decide) _ (by omega) (by simp; omega)
  refine ⟨n % 1152921504606846976, Nat.mod_lt _ (by decide), ?_⟩
  rw [show (1152921504606846975 : Int) = 2 ^ 60 - 1 from by decide, hm]
  rw [show (2 : Int) ^ 60 = 1152921504606846976 from by decide]; omega
theorem mask63 (n : Nat) (h : n < 256) : bits .and .u8 (n : Int) 63 = ((n % 64 : Nat) : Int) := by
  rw [u8_and63 _ (by omega) (by omega)]; omega
theorem topL_last {L : List Nat} {n : Nat} (h : ∀ m, m ∈ L → m ≤ n) : topL (L ++ [n]) = n :=
  foldl_max _ _ _ (fun m hm => by
    rcases List.mem_append.1 hm with hm | hm
    · exact h m hm
    · simp at hm; omega) (Nat.zero_le _) (.inr (by simp))

def RisesRel (w : World) (g len0 : Nat) (n i : Value) (wr : World) : Prop :=
  ∃ (k N : Nat) (L : List Nat), k ≤ len0 ∧ k ≤ 80 ∧ i = .int .i64 k ∧ n = .int .u64 N ∧ 1000 ≤ N ∧ N < 1152921504606846976 + 1000 + 200 * k ∧
    Win g L wr ∧ (∀ m, m ∈ L → m ≤ N) ∧ Upd (fun _ => False) w wr

set_option maxHeartbeats 2000000 in
theorem rises_walk (from_ : Nat) (a0 : Option Addr) (len0 cap0 : Nat) (f : Nat → Nat) (w : World) (hfr : from_ < 18446744073709551616) (hs : Src .u8 256 w a0 len0 f) :
    Calls Try.prog 6 #[.int .u64 from_, .slice a0 len0 cap0] w fun e w' => e = .returned (.bool true) ∧ Below w.heap.size w w' := by
  have HS := hid hs
  have hmax := hs.max
  clear hs
  obtain ⟨F, hF, hFe⟩ := mask60 from_ hfr
  go_enter Try.func6, Try.ntmps6
  go_wp2_with fail
  refine (shown_any _).mono ?_
  rintro e w1 ⟨rfl, hu⟩
  have HU := hid hu
  clear hu
  have hsz := HU.out.size
  go_wp2_with fail
  clear hFe
  go_loopw [7, 8] (fun n i wr => RisesRel w w1.heap.size len0 n i wr) (fun _ i _ => len0 - (intOf i).toNat)
  case atStart => exact ⟨0, F + 1000, [], Nat.zero_le _, by omega, rfl, by go_num, by omega, by omega, Win.new w1, by simp, HU.out.alloc _⟩
  case round =>
    obtain ⟨k, N, L, hk, hk80, rfl, rfl, hN0, hN, hw, hL, hu⟩ := hrel
    have HL := hid hL
    have HU2 := hid hu
    clear hL hu
    by_cases hlt : k < len0 ∧ k < 80
    · obtain ⟨b, off, ha, hb, hc⟩ := (HS.out.upd HU2.out (fun _ _ h => h)).at_ k hlt.1
      have hf := HS.out.lt k hlt.1
      subst ha
      have k1 : decide (k < len0) = true := decide_eq_true hlt.1
      have k3 := hlt.1
      have k4 := hlt.2
      clear hlt
      have hb1 : freshB L (N + 1 + f k % 200) = true := fresh_of (by omega) (fun h => by have := HL.out _ h; omega) (fun m h => by have := HL.out _ h; omega)
      have hb2 : freshB (L ++ [N + 1 + f k % 200]) (N + 1 + f k % 200 - 64) = false := not_fresh (.inr (.inr ⟨N + 1 + f k % 200, by simp, by omega⟩))
      have hb3 : freshB (L ++ [N + 1 + f k % 200]) (N + 1 + f k % 200 - 65) = false := not_fresh (.inr (.inr ⟨N + 1 + f k % 200, by simp, by omega⟩))
      have hL2 : ∀ m, m ∈ L ++ [N + 1 + f k % 200] → m ≤ N + 1 + f k % 200 := fun m h => by
        rcases List.mem_append.1 h with h | h
        · have := HL.out _ h; omega
        · simp at h; omega
      have hb4 : freshB (L ++ [N + 1 + f k % 200]) (N + 1 + f k % 200 + 1) = true := fresh_of (by omega) (fun h => by have := hL2 _ h; omega) (fun m h => by have := hL2 _ h; omega)
      have B1 := hid hb1
      have B2 := hid hb2
      have B3 := hid hb3
      have B4 := hid hb4
      have HL2 := hid hL2
      have HT := hid (topL_last (L := L) (n := N + 1 + f k % 200) (fun m h => by have := HL.out _ h; omega))
      clear hb1 hb2 hb3 hb4 hL2
      go_wp2_with fail
      refine (take_winZ _ L _ _ (N + 1 + f k % 200) _ _ hw (by omega) (by omega) B1.out (takeL_yes B1.out)).mono ?_
      rintro e w2 ⟨rfl, hw2, hu2⟩
      have HU3 := hid (HU2.out.then_ hu2 (fun j hj e => by omega))
      clear hu2 hw hc hb
      go_wp2_with fail
      refine (top_winZ _ _ true (N + 1 + f k % 200 : Nat) _ hw2 (by rw [HT.out]) (by simp)).mono ?_
      rintro e w3 ⟨rfl, hw3, hu3⟩
      have HU4 := hid (HU3.out.trans hu3)
      clear hu3 hw2
      go_wp2_with fail
      refine (fresh_winZ _ _ _ (N + 1 + f k % 200 - 64) _ _ hw3 (by omega) (by omega) B2.out).mono ?_
      rintro e w4 ⟨rfl, rfl⟩
      go_wp2_with fail
      refine (fresh_winZ _ _ _ (N + 1 + f k % 200 - 65) _ _ hw3 (by omega) (by omega) B3.out).mono ?_
      rintro e w4 ⟨rfl, rfl⟩
      go_wp2_with fail
      refine (fresh_winZ _ _ _ (N + 1 + f k % 200 + 1) _ _ hw3 (by omega) (by omega) B4.out).mono ?_
      rintro e w4 ⟨rfl, rfl⟩
      have HW3 := hid hw3
      clear hw3
      go_wp2_with fail
      go_roundw
      case rel => exact ⟨k + 1, N + 1 + f k % 200, _, by omega, by omega, by go_num, by go_num, by omega, by omega, HW3.out, HL2.out, HU4.out⟩
      case measure => simp [intOf]; omega
    · have hlt' : (decide (k < len0) = false ∧ len0 ≤ k) ∨ (decide (k < len0) = true ∧ 80 ≤ k ∧ k < len0) := by
        rcases Nat.lt_or_ge k len0 with h | h
        · exact .inr ⟨decide_eq_true h, by omega, h⟩
        · exact .inl ⟨decide_eq_false (by omega), h⟩
      clear hlt
      rcases hlt' with ⟨hl, hl1⟩ | ⟨hl, hl1, hl2⟩
      all_goals
        go_wp2_with fail
        go_ret
        exact ⟨rfl, HU2.out.below (Nat.le_refl _) (fun _ h => h.elim)⟩
end Go.Proofs.Ytgfpmonfdplalaa
