/- The walk of WindowEnds (no statement of the seat). -/
import Derived.Test.YtgfpmonfdplalaaWalkB
import Derived.Test.YtgfpmonfdplalaaSrc
namespace Go.Proofs.Ytgfpmonfdplalaa
open Go.RowKit

def EndsRel (w : World) (g len0 : Nat) (i : Value) (wr : World) : Prop :=
  ∃ (k : Nat) (L : List Nat), k ≤ len0 ∧ k ≤ 50 ∧ i = .int .i64 k ∧ Win g L wr ∧ (∀ m, m ∈ L → m < 18446744073709550615) ∧ Upd (fun _ => False) w wr

set_option maxHeartbeats 1000000 in
theorem ends_walk (a0 : Option Addr) (len0 cap0 : Nat) (f : Nat → Nat) (w : World) (hs : Src .u64 18446744073709551616 w a0 len0 f) :
    Calls Try.prog 7 #[.slice a0 len0 cap0] w fun e w' => e = .returned (.bool true) ∧ Below w.heap.size w w' := by
  have HS := hid hs
  have hmax := hs.max
  clear hs
  go_enter Try.func7, Try.ntmps7
  go_wp2_with fail
  refine (shown_any _).mono ?_
  rintro e w1 ⟨rfl, hu⟩
  have HU := hid hu
  clear hu
  have hsz := HU.out.size
  go_wp2_with fail
  go_loopw [5] (fun i wr => EndsRel w w1.heap.size len0 i wr) (fun i _ => len0 - (intOf i).toNat)
  case atStart => exact ⟨0, [], Nat.zero_le _, by omega, rfl, Win.new w1, by simp, HU.out.alloc _⟩
  case round =>
    obtain ⟨k, L, hk, hk50, rfl, hw, hL, hu⟩ := hrel
    have HL := hid hL
    have HU2 := hid hu
    clear hL hu
    by_cases hlt : k < len0 ∧ k < 50
    · obtain ⟨b, off, ha, hb, hc⟩ := (HS.out.upd HU2.out (fun _ _ h => h)).at_ k hlt.1
      have hf := HS.out.lt k hlt.1
      subst ha
      have k1 : decide (k < len0) = true := decide_eq_true hlt.1
      have k2 : decide (k < 50) = true := decide_eq_true hlt.2
      have k3 := hlt.1
      have k4 := hlt.2
      clear hlt
      go_wp2_with fail
      refine (take_winZ _ L _ _ (f k % 18446744073709550615) _ _ hw (by omega) (by omega) rfl rfl).mono ?_
      rintro e w2 ⟨rfl, hw2, hu2⟩
      have HW2 := hid hw2
      have HU3 := hid (HU2.out.then_ hu2 (fun j hj e => by omega))
      clear hw2 hu2 hw hc hb
      go_wp2_with fail
      go_roundw
      case rel => exact ⟨k + 1, _, by omega, by omega, by go_num, HW2.out, takeL_lt HL.out (by omega), HU3.out⟩
      case measure => simp [intOf]; omega
    · have hlt' : (decide (k < len0) = false ∧ len0 ≤ k) ∨ (decide (k < len0) = true ∧ 50 ≤ k ∧ k < len0) := by
        rcases Nat.lt_or_ge k len0 with h | h
        · exact .inr ⟨decide_eq_true h, by omega, h⟩
        · exact .inl ⟨decide_eq_false (by omega), h⟩
      clear hlt
      have b1 : freshB L 18446744073709551615 = false := not_fresh (.inl rfl)
      have t1 : takeL L 18446744073709551615 = L := takeL_no b1
      have b2 : freshB L 18446744073709551614 = true := fresh_of (by decide) (fun h => by have := HL.out _ h; omega) (fun m h => by have := HL.out _ h; omega)
      have t2 : takeL L 18446744073709551614 = L ++ [18446744073709551614] := takeL_yes b2
      have b3 : freshB (L ++ [18446744073709551614]) 18446744073709551614 = false := not_fresh (.inr (.inl (by simp)))
      have t3 : takeL (L ++ [18446744073709551614]) 18446744073709551614 = L ++ [18446744073709551614] := takeL_no b3
      have b4 : freshB (L ++ [18446744073709551614]) 18446744073709551551 = true := fresh_of (by decide)
        (fun h => by
          rcases List.mem_append.1 h with h | h
          · have := HL.out _ h; omega
          · simp at h)
        (fun m h => by
          rcases List.mem_append.1 h with h | h
          · have := HL.out _ h; omega
          · simp at h; omega)
      have t4 : takeL (L ++ [18446744073709551614]) 18446744073709551551 = L ++ [18446744073709551614] ++ [18446744073709551551] := takeL_yes b4
      have b5 : freshB (L ++ [18446744073709551614] ++ [18446744073709551551]) 18446744073709551550 = false := not_fresh (.inr (.inr ⟨18446744073709551614, by simp, by decide⟩))
      have t5 : takeL (L ++ [18446744073709551614] ++ [18446744073709551551]) 18446744073709551550 = L ++ [18446744073709551614] ++ [18446744073709551551] := takeL_no b5
      have tp : topL (L ++ [18446744073709551614] ++ [18446744073709551551]) = 18446744073709551614 := foldl_max _ _ _
        (fun m h => by
          rcases List.mem_append.1 h with h | h
          · rcases List.mem_append.1 h with h | h
            · have := HL.out _ h; omega
            · simp at h; omega
          · simp at h; omega) (Nat.zero_le _) (.inr (by simp))
      have HT := hid tp
      have H1 := hid b1
      have H2 := hid b2
      have H3 := hid b3
      have H4 := hid b4
      have H5 := hid b5
      have G1 := hid t1
      have G2 := hid t2
      have G3 := hid t3
      have G4 := hid t4
      have G5 := hid t5
      clear b1 b2 b3 b4 b5 t1 t2 t3 t4 t5 tp
      rcases hlt' with ⟨hl, hl1⟩ | ⟨hl, hl1, hl2⟩
      all_goals
        go_wp2_with fail
        refine (take_winZ _ _ _ _ _ _ _ hw rfl (by decide) H1.out G1.out).mono ?_
        rintro e w2 ⟨rfl, hw2, hu2⟩
        replace HU2 := hid (HU2.out.then_ hu2 (fun j hj e => by omega))
        clear hw hu2
        go_wp2_with fail
        refine (take_winZ _ _ _ _ _ _ _ hw2 rfl (by decide) H2.out G2.out).mono ?_
        rintro e w3 ⟨rfl, hw3, hu3⟩
        replace HU2 := hid (HU2.out.then_ hu3 (fun j hj e => by omega))
        clear hw2 hu3
        go_wp2_with fail
        refine (take_winZ _ _ _ _ _ _ _ hw3 rfl (by decide) H3.out G3.out).mono ?_
        rintro e w4 ⟨rfl, hw4, hu4⟩
        replace HU2 := hid (HU2.out.then_ hu4 (fun j hj e => by omega))
        clear hw3 hu4
        go_wp2_with fail
        refine (take_winZ _ _ _ _ _ _ _ hw4 rfl (by decide) H4.out G4.out).mono ?_
        rintro e w5 ⟨rfl, hw5, hu5⟩
        replace HU2 := hid (HU2.out.then_ hu5 (fun j hj e => by omega))
        clear hw4 hu5
        go_wp2_with fail
        refine (take_winZ _ _ _ _ _ _ _ hw5 rfl (by decide) H5.out G5.out).mono ?_
        rintro e w6 ⟨rfl, hw6, hu6⟩
        replace HU2 := hid (HU2.out.then_ hu6 (fun j hj e => by omega))
        clear hw5 hu6
        go_wp2_with fail
        refine (top_winZ _ _ true 18446744073709551614 _ hw6 (by rw [HT.out]; rfl) (by simp)).mono ?_
        rintro e w7 ⟨rfl, hw7, hu7⟩
        replace HU2 := hid (HU2.out.trans hu7)
        clear hw6 hu7 hw7
        go_wp2_with fail
        go_ret
        exact ⟨rfl, HU2.out.below (Nat.le_refl _) (fun _ h => h.elim)⟩
end Go.Proofs.Ytgfpmonfdplalaa
