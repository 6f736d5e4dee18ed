/- The walk of WindowNear (no statement of the seat). -/
import Derived.Test.YtgfpmonfdplalaaNear
namespace Go.Proofs.Ytgfpmonfdplalaa
open Go.RowKit

/-- Of 64 numbers from F on, which are in L. -/
def flags (F : Nat) (L : List Nat) : Array Value := Array.ofFn (n := 64) fun k => .bool (decide (F + k ∈ L))
theorem flags_size (F : Nat) (L : List Nat) : (flags F L).size = 64 := by simp [flags]
theorem flags_get (F : Nat) (L : List Nat) (k : Nat) (h : k < 64) : (flags F L)[k]? = some (.bool (decide (F + k ∈ L))) := by
  simp [flags, h]
theorem flags_nil (F : Nat) : flags F [] = Array.replicate 64 (.bool false) := by
  apply Array.ext
  · simp [flags]
  · intro i h1 h2; simp [flags]
theorem flags_take (F : Nat) (L L' : List Nat) (k : Nat) (h : k < 64) (hL : ∀ m, m ∈ L' ↔ m ∈ L ∨ m = F + k) :
    (flags F L).setIfInBounds k (.bool true) = flags F L' := by
  apply Array.ext
  · simp [flags]
  · intro i h1 h2
    rw [Array.getElem_setIfInBounds (by simpa using h1)]
    by_cases e : k = i
    · subst e; simp [flags, hL]
    · have e2 : ¬ (i = k) := fun h => e h.symm
      simp [flags, hL, e, e2]

def NearRel (w : World) (F g len0 : Nat) (i : Value) (wr : World) : Prop :=
  ∃ (k : Nat) (L : List Nat), k ≤ len0 ∧ k ≤ 100 ∧ i = .int .i64 k ∧ Win g L wr ∧ wr.heap[g + 1]? = some (.cells (flags F L) 4 (0, 0)) ∧
    (∀ m, m ∈ L → F ≤ m ∧ m < F + 64) ∧ Upd (fun _ => False) w wr

set_option maxHeartbeats 2000000 in
theorem near_walk (from_ : Nat) (a0 : Option Addr) (len0 cap0 : Nat) (f : Nat → Nat) (w : World) (hfr : from_ < 18446744073709551616) (hs : Src .u8 256 w a0 len0 f) :
    Calls Try.prog 5 #[.int .u64 from_, .slice a0 len0 cap0] w fun e w' => e = .returned (.bool true) ∧ Below w.heap.size w w' := by
  have HS := hid hs
  have hmax := hs.max
  clear hs
  obtain ⟨F, hF, hFe⟩ := mask60 from_ hfr
  have hmk : ∀ w : World, (Instr.makeSlice 37 (.int .i64 64) (.int .i64 64)).run Try.prog w =
    .ok (.slice (some ⟨w.heap.size, 0, none⟩) 64 64) (w.alloc (.cells (Array.replicate 64 (.bool false)) 4)) := fun _ => by kernel_rfl
  go_enter Try.func5, Try.ntmps5
  go_wp2_with fail
  refine (shown_any _).mono ?_
  rintro e w1 ⟨rfl, hu⟩
  have HU := hid hu
  clear hu
  have hsz := HU.out.size
  go_wp2_with fail
  clear hFe hmk
  go_loopw [8] (fun i wr => NearRel w F w1.heap.size len0 i wr) (fun i _ => len0 - (intOf i).toNat)
  case atStart =>
    refine ⟨0, [], Nat.zero_le _, by omega, rfl, (Win.new w1).upd ((Upd.refl (fun _ => False) _).alloc _) (fun h => h), ?_, by simp, (HU.out.alloc _).alloc _⟩
    rw [flags_nil]
    simpa using heap_alloc_new (w1.alloc (.cells #[.int .u64 0, .int .u64 0] 27)) (.cells (Array.replicate 64 (.bool false)) 4)
  case round =>
    obtain ⟨k, L, hk, hk80, rfl, hw, hfl, hL, hu⟩ := hrel
    have HL := hid hL
    have HU2 := hid hu
    have HF := hid hfl
    clear hL hu hfl
    by_cases hlt : k < len0 ∧ k < 100
    · obtain ⟨b, off, ha, hb, hc⟩ := (HS.out.upd HU2.out (fun _ _ h => h)).at_ k hlt.1
      have hf := HS.out.lt k hlt.1
      subst ha
      have k1 : decide (k < len0) = true := decide_eq_true hlt.1
      have k3 := hlt.1
      have k4 := hlt.2
      clear hlt
      have hmask := mask63 (f k) hf
      obtain ⟨j, hj⟩ : ∃ j, f k % 64 = j := ⟨_, rfl⟩
      rw [hj] at hmask
      have hj64 : j < 64 := by omega
      clear hj
      go_wp2_with fail
      clear hmask hc hb
      by_cases hm : F + j ∈ L
      · have B1 := hid (not_fresh (L := L) (n := F + j) (.inr (.inl hm)))
        have HM := hid hm
        clear hm
        refine (take_winZ _ L _ _ (F + j) _ _ hw (by omega) (by omega) B1.out (takeL_no B1.out)).mono ?_
        rintro e w2 ⟨rfl, hw2, hu2⟩
        have hfl2 := hu2.blk HF.out (by omega)
        have HU3 := hid (HU2.out.then_ hu2 (fun j hj e => by omega))
        have hcell : w2.cell? ⟨w1.heap.size + 1, j, none⟩ = some (.bool true) := by
          rw [blk_cell hfl2, flags_get _ _ _ hj64]; simp [HM.out]
        have hfz : w2.frozen? ⟨w1.heap.size + 1, j, none⟩ = false := blk_free hfl2 j
        have HW2 := hid hw2
        have HFL2 := hid hfl2
        clear hu2 hw hw2 hfl2
        go_wp2_with fail
        go_roundw
        case rel =>
          refine ⟨k + 1, L, by omega, by omega, by go_num, HW2.out.upd ((Upd.refl (· = w1.heap.size + 1) w2).setCell (p := ⟨w1.heap.size + 1, j, none⟩) (fun _ => rfl) _) (by omega), ?_, HL.out, HU3.out.setCell (p := ⟨w1.heap.size + 1, j, none⟩) (fun h => by have h' : w1.heap.size + 1 < w.heap.size := h; omega) _⟩
          rw [blk_set HFL2.out]
          rw [flags_take F L L j hj64 (fun m => by constructor; exact .inl; rintro (h | rfl); exact h; exact HM.out)]
        case measure => simp [intOf]; omega
      · have B1 := hid (fresh_of (L := L) (n := F + j) (by omega) hm (fun m h => by have := HL.out m h; omega))
        have HM := hid hm
        clear hm
        refine (take_winZ _ L _ _ (F + j) _ _ hw (by omega) (by omega) B1.out (takeL_yes B1.out)).mono ?_
        rintro e w2 ⟨rfl, hw2, hu2⟩
        have hfl2 := hu2.blk HF.out (by omega)
        have HU3 := hid (HU2.out.then_ hu2 (fun j hj e => by omega))
        have hcell : w2.cell? ⟨w1.heap.size + 1, j, none⟩ = some (.bool false) := by
          rw [blk_cell hfl2, flags_get _ _ _ hj64]; simp [HM.out]
        have hfz : w2.frozen? ⟨w1.heap.size + 1, j, none⟩ = false := blk_free hfl2 j
        have HW2 := hid hw2
        have HFL2 := hid hfl2
        clear hu2 hw hw2 hfl2
        go_wp2_with fail
        go_roundw
        case rel =>
          refine ⟨k + 1, _, by omega, by omega, by go_num, HW2.out.upd ((Upd.refl (· = w1.heap.size + 1) w2).setCell (p := ⟨w1.heap.size + 1, j, none⟩) (fun _ => rfl) _) (by omega), ?_, ?_, HU3.out.setCell (p := ⟨w1.heap.size + 1, j, none⟩) (fun h => by have h' : w1.heap.size + 1 < w.heap.size := h; omega) _⟩
          · rw [blk_set HFL2.out]
            rw [flags_take F L (L ++ [F + j]) j hj64 (fun m => by rw [List.mem_append, List.mem_singleton])]
          · intro m h
            rcases List.mem_append.1 h with h | h
            · exact HL.out m h
            · simp at h; omega
        case measure => simp [intOf]; omega
    · have hlt' : (decide (k < len0) = false ∧ len0 ≤ k) ∨ (decide (k < len0) = true ∧ 100 ≤ k ∧ k < len0) := by
        rcases Nat.lt_or_ge k len0 with h | h
        · exact .inr ⟨decide_eq_true h, by omega, h⟩
        · exact .inl ⟨decide_eq_false (by omega), h⟩
      clear hlt
      rcases hlt' with ⟨hl, hl1⟩ | ⟨hl, hl1, hl2⟩
      all_goals
        go_wp2_with fail
        go_ret
        exact ⟨rfl, HU2.out.below (Nat.le_refl _) (fun _ h => h.elim)⟩
end Go.Proofs.Ytgfpmonfdplalaa
