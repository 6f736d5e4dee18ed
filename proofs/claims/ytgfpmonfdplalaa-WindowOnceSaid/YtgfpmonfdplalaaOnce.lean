/- The walk of WindowOnce (no statement of the seat). -/
import Derived.Test.YtgfpmonfdplalaaWalkB
import Derived.Test.YtgfpmonfdplalaaSrc
import Derived.Test.YtgfpmonfdplalaaApp
namespace Go.Proofs.Ytgfpmonfdplalaa
open Go.RowKit

def OnceRel (w : World) (g len0 : Nat) (v i : Value) (wr : World) : Prop :=
  ∃ (k : Nat) (L : List Nat), k ≤ len0 ∧ k ≤ 200 ∧ i = .int .i64 k ∧ Win g L wr ∧ wr.ownsRow (g + 1) 23 1 v L.length (words L) ∧
    L.length ≤ k ∧ Upd (fun _ => False) w wr

def OnceIn (w2 : World) (len : Nat) (t : Value) (wr : World) : Prop := ∃ j n : Nat, j ≤ len ∧ t = .int .i64 j ∧ wr = w2.drewN n

set_option maxRecDepth 100000 in
set_option maxHeartbeats 2000000 in
theorem once_walk (a0 : Option Addr) (len0 cap0 : Nat) (f : Nat → Nat) (w : World) (hs : Src .u64 18446744073709551616 w a0 len0 f) :
    Calls Try.prog 4 #[.slice a0 len0 cap0] w fun e w' => e = .returned (.bool true) ∧ Below w.heap.size w w' := by
  have HS := hid hs
  have hmax := hs.max
  clear hs
  go_enter Try.func4, Try.ntmps4
  go_wp2_with fail
  refine (shown_any _).mono ?_
  rintro e w1 ⟨rfl, hu⟩
  have HU := hid hu
  clear hu
  have hsz := HU.out.size
  go_wp2_with fail
  go_loopw [5, 6] (fun v i wr => OnceRel w w1.heap.size len0 v i wr) (fun _ i _ => len0 - (intOf i).toNat)
  case atStart => exact ⟨0, [], Nat.zero_le _, by omega, rfl, Win.new w1, World.ownsRow_nil _ _ _ _, Nat.le_refl _, HU.out.alloc _⟩
  case round =>
    obtain ⟨k, L, hk, hk80, rfl, hw, hrow, hlen, hu⟩ := hrel
    have HU2 := hid hu
    have HR := hid hrow
    obtain ⟨A, cap, rfl, hcells⟩ := row_out hrow
    have HC := hid hcells
    clear hu hrow hcells
    by_cases hlt : k < len0 ∧ k < 200
    · obtain ⟨b, off, ha, hb, hc⟩ := (HS.out.upd HU2.out (fun _ _ h => h)).at_ k hlt.1
      obtain ⟨b', off', ha', hbw, _⟩ := HS.out.at_ k hlt.1
      have hf := HS.out.lt k hlt.1
      subst ha
      obtain ⟨rfl, rfl⟩ : b = b' ∧ off = off' := by simpa using ha'
      have k1 : decide (k < len0) = true := decide_eq_true hlt.1
      have k3 := hlt.1
      have k4 := hlt.2
      clear hlt ha'
      go_wp2_with fail
      refine (fresh_winZ _ L _ (f k) _ _ hw rfl hf rfl).mono ?_
      rintro e w4 ⟨rfl, rfl⟩
      go_wp2_with fail
      refine (take_winZ _ L _ _ (f k) _ _ hw rfl hf rfl rfl).mono ?_
      rintro e w2 ⟨rfl, hw2, hu2⟩
      have hc2 := hu2.cell hc (by show b ≠ w1.heap.size; omega)
      have HU3 := hid (HU2.out.then_ hu2 (fun j hj e => by omega))
      have HR2 := hid (hu2.row HR.out (fun j hj e => by have := (World.ownsRow.lt HR.out j hj).1; omega))
      have hafter : freshB (takeL L (f k)) (f k) = false := by
        cases hfr : freshB L (f k) with
        | true => rw [takeL_yes hfr]; exact not_fresh (.inr (.inl (by simp)))
        | false => rw [takeL_no hfr]; exact hfr
      have HA := hid hafter
      clear hafter hu2 hw hc hb
      by_cases hfr : freshB L (f k) = true
      · have hnot : f k ∉ L := ((freshB_iff L (f k)).1 hfr).2.1
        rw [hfr]
        have HF := hid hfr
        have HN := hid hnot
        clear hfr hnot
        go_wp2_with fail
        refine (fresh_winZ _ _ _ (f k) _ _ hw2 rfl hf HA.out).mono ?_
        rintro e w5 ⟨rfl, rfl⟩
        have HW2 := hid hw2
        clear hw2
        go_wp2_with fail
        go_loopw [9] (fun t wr' => OnceIn w2 L.length t wr') (fun t _ => L.length - (intOf t).toNat)
        case atStart => exact ⟨0, 0, Nat.zero_le _, rfl, rfl⟩
        case round =>
          obtain ⟨j, n, hj, rfl, rfl⟩ := hrel
          by_cases hjl : j < L.length
          · obtain ⟨gr, hA, hgr, hgl, hcell⟩ := HC.out j hjl
            subst hA
            obtain ⟨x, hx⟩ : ∃ x, L.getD j 0 = x := ⟨_, rfl⟩
            have hcl : w2.cell? ⟨gr, j, none⟩ = some (.int .u64 ((x : Nat) : Int)) := by rw [← hx]; exact row_out_cell HR2.out j hjl
            have hne : (((x : Nat) : Int) == ((f k : Nat) : Int)) = false := by
              refine beq_eq_false_iff_ne.2 (fun e => HN.out ?_)
              have : L.getD j 0 = f k := by omega
              rw [← this, List.getD_eq_getElem?_getD, List.getElem?_eq_getElem hjl]
              exact List.getElem_mem _
            have kj : decide (j < L.length) = true := decide_eq_true hjl
            clear hcell hx
            go_wp2_with fail
            go_quiet (fail)
            go_wp2_with fail
            go_roundw
            case rel => exact ⟨j + 1, _, by omega, by go_num, rfl⟩
            case measure => simp [intOf]; omega
          · have kj : decide (j < L.length) = false := decide_eq_false hjl
            have hdr : (Upd (fun _ => False) w (w2.drewN n)) := HU3.out.drewN n
            have hw3 : Win w1.heap.size (takeL L (f k)) (w2.drewN n) := HW2.out
            have hr3 : (w2.drewN n).ownsRow (w1.heap.size + 1) 23 1 (.slice A L.length cap) L.length (words L) := HR2.out
            have hsz2 : w1.heap.size + 1 ≤ (w2.drewN n).heap.size := by
              have := HW2.out.lt
              have e : (w2.drewN n).heap.size = w2.heap.size := rfl
              omega
            have hc3 : (w2.drewN n).cell? ⟨b, off + k, none⟩ = some (.int .u64 ((f k : Nat) : Int)) := hc2
            obtain ⟨w3, hw3e⟩ : ∃ w3, w2.drewN n = w3 := ⟨_, rfl⟩
            rw [hw3e] at hdr hw3 hr3 hsz2 hc3 ⊢
            have HD := hid hdr
            have HW3 := hid hw3
            have HR3 := hid hr3
            clear hdr hw3 hr3 hw3e hc2
            go_wp2_with (at_builtin; refine wpList_app rfl _ _ rfl (w1.heap.size + 1) (.slice A L.length cap) _ _ rfl HR3.out _ rfl rfl (by omega) hsz2 ?_; intro g4 c4 w4 hrow4 hu4)
            have hrow5 : w4.ownsRow (w1.heap.size + 1) 23 1 (.slice (some ⟨g4, 0, none⟩) (L.length + 1) c4) (L ++ [f k]).length (words (L ++ [f k])) := by
              have e : words (L ++ [f k]) = words L ++ [.int .u64 ((f k : Nat) : Int)] := by simp [words]
              rw [e, List.length_append]; exact hrow4
            have HR5 := hid hrow5
            have HU4 := hid hu4
            clear hrow4 hrow5 hu4
            go_wp2_with fail
            go_roundw
            case rel =>
              refine ⟨k + 1, L ++ [f k], by omega, by omega, by go_num, ?_, HR5.out, by simp; omega, ?_⟩
              · have := HW3.out.upd HU4.out (fun e => by have := (World.ownsRow.lt HR3.out _ e).1; omega)
                rw [takeL_yes HF.out] at this; exact this
              · exact HD.out.then_ HU4.out (fun j hj e => by have := (World.ownsRow.lt HR3.out _ e).1; omega)
            case measure => simp [intOf]; omega
      · have hfr' : freshB L (f k) = false := by simpa using hfr
        rw [hfr']
        have HF := hid hfr'
        clear hfr hfr'
        go_wp2_with fail
        refine (fresh_winZ _ _ _ (f k) _ _ hw2 rfl hf HA.out).mono ?_
        rintro e w5 ⟨rfl, rfl⟩
        have HW2 := hid hw2
        clear hw2
        go_wp2_with fail
        go_loopw [9] (fun t wr' => OnceIn w2 0 t wr') (fun t _ => 0)
        case atStart => exact ⟨0, 0, Nat.zero_le _, rfl, rfl⟩
        case round =>
          obtain ⟨j, n, hj, rfl, rfl⟩ := hrel
          go_wp2_with fail
          all_goals
            refine ⟨⟨k + 1, L, by omega, by omega, by go_num, ?_, HR2.out, by omega, HU3.out.drewN n⟩, by simp [intOf]; omega⟩
            have := HW2.out
            rw [takeL_no HF.out] at this
            exact this
    · have hlt' : (decide (k < len0) = false ∧ len0 ≤ k) ∨ (decide (k < len0) = true ∧ 200 ≤ k ∧ k < len0) := by
        rcases Nat.lt_or_ge k len0 with h | h
        · exact .inr ⟨decide_eq_true h, by omega, h⟩
        · exact .inl ⟨decide_eq_false (by omega), h⟩
      clear hlt
      rcases hlt' with ⟨hl, hl1⟩ | ⟨hl, hl1, hl2⟩
      all_goals
        go_wp2_with fail
        go_ret
        exact ⟨rfl, HU2.out.below (Nat.le_refl _) (fun _ h => h.elim)⟩
end Go.Proofs.Ytgfpmonfdplalaa
