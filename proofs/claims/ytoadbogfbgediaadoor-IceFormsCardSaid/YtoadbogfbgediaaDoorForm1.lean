/- Form of one and one (no statement of the seat). -/
import Derived.Test.YtoadbogfbgediaaDoorGather1
import Derived.StillTailTactics
import Derived.Deep.RegionLaw
import Derived.Deep.RegionHeld3
namespace Go.Proofs.YtoadbogfbgediaaDoor
open Go.RowKit

abbrev PP : Int := 9151314442783293438
abbrev P1 : Pr := ⟨⟨1, 0⟩, ⟨1, 0⟩, PP, 1⟩
theorem pair_P1 : pairF 2130706431 2130706431 = PP := by decide
def RowP (c : Pr) (n0 : Nat) (v : Value) (w : World) : Prop := ∃ g cap, v = .slice (some ⟨g, 0, none⟩) 1 cap ∧ n0 ≤ g ∧ w.ownsRow 0 41 6 v 1 (prCells c).toList
abbrev FormS (w : World) (out i : Value) (wr : World) : Prop := (i = .int .i64 0 ∧ out = .slice none 0 0 ∧ Upd (fun _ => False) w wr) ∨ (i = .int .i64 1 ∧ RowP P1 w.heap.size out wr ∧ Upd (fun _ => False) w wr)

theorem step_pr {ops : Array Oper} {o : Oper} {a : Act} {K : Act → World → Prop} {Q : Exit → Act → World → Prop} {E : Prop} {w W : World} (hgd : o.guard = none) (s x : Operand)
    (ho : o.op = .call { callee := .builtin .append, args := #[s, x], argTypes := #[33, 33] })
    (c : Pr) (hW : W = (w.alloc (.cells (prCells c) 41)).drew)
    (v : Value) (l : List Value) (n : Nat) (hs : a.eval s = v) (hown : w.ownsRow 0 41 6 v n l) (hx : a.eval x = .slice (some ⟨w.heap.size, 0, none⟩) 1 1) (hn : n ≤ 1000000)
    (h : ∀ g cap w', w'.ownsRow 0 41 6 (.slice (some ⟨g, 0, none⟩) (n + 1) cap) (n + 1) (l ++ (prCells c).toList) → Upd (fun k => v.ownBlock = some k) w w' → (v.ownBlock = some g ∨ w.heap.size ≤ g) → g < w'.heap.size →
      K (a.put o.dst (.slice (some ⟨g, 0, none⟩) (n + 1) cap)) w') :
    if Region.wanted o (yielded ops a.tmps) = true then Oper.wp Tryd.prog o a W K Q else E := by
  subst hW
  obtain ⟨i0, hi, hz0, hz1, hz2⟩ := info_parts' Tryd.info41
  have hb := heap_alloc_new w (.cells (prCells c) 41)
  refine step_append_lies _ hgd s x 33 ho 0 41 i0 _ 6 48 Tryd.underlying33 hi hz0 hz1 hz2 rfl (by decide) v n l hs (hown.alloc _) ⟨w.heap.size, 0, none⟩ 1 1 (prCells c).toList hx rfl (World.news_of_block (w := (w.alloc (.cells (prCells c) 41)).drew) hb) ?_ (by decide) ?_ ?_ (Nat.zero_le _) (w.heap.size + 1) (by simp) ?_
  · intro u hu; simp at hu; rcases hu with rfl | rfl | rfl | rfl | rfl | rfl <;> rfl
  · unfold maxLen; omega
  · omega
  · intro g cap w' h1 h2 h3 h4
    refine h g cap w' h1 (((Upd.refl _ w).alloc _).drew.grown h2 (fun k hk _ => hk)) ?_ h4
    rcases h3 with h3 | h3
    · exact .inl h3
    · right; omega
set_option maxRecDepth 100000 in
set_option maxHeartbeats 4000000 in
theorem form20_one (g cap : Nat) (w : World) (hr : w.ownsRow 0 47 6 (.slice (some ⟨g, 0, none⟩) 1 cap) 1 (caCells C1).toList) :
    Calls Tryd.prog 20 #[.slice (some ⟨g, 0, none⟩) 1 cap, .slice (some ⟨g, 0, none⟩) 1 cap] w fun e w' => ∃ v, e = .returned v ∧ RowP P1 w.heap.size v w' ∧ Upd (fun _ => False) w w' := by
  have HR := hid hr
  clear hr
  go_enter Tryd.func20, Tryd.ntmps20
  go_wp2_with fail
  go_loopw [5, 12] (fun out i wr => FormS w out i wr) (fun _ i _ => 1 - (intOf i).toNat)
  case atStart => exact .inl ⟨rfl, rfl, Upd.refl _ _⟩
  case round =>
    rcases hrel with ⟨rfl, rfl, hU⟩ | ⟨rfl, hR, hU⟩
    · have HU := hid hU
      have HRr := hid (hU.row HR.out (fun _ _ h => h))
      have hcell : ∀ i, i < 6 → wr.cell? ⟨g, i, none⟩ = (caCells C1)[i]? := fun i hi => (World.ownsRow.cellAt HRr.out i (by omega)).trans (by simp)
      have HC := hid hcell
      have c0 : wr.cell? ⟨g, 0, none⟩ = some (.int .i64 1) := HC.out 0 (by omega)
      have c1 : wr.cell? ⟨g, 1, none⟩ = some (.int .u32 1) := HC.out 1 (by omega)
      have c2 : wr.cell? ⟨g, 2, none⟩ = some (.int .i64 0) := HC.out 2 (by omega)
      have c3 : wr.cell? ⟨g, 3, none⟩ = some (.int .u32 1) := HC.out 3 (by omega)
      have c4 : wr.cell? ⟨g, 4, none⟩ = some (.int .i64 0) := HC.out 4 (by omega)
      have c5 : wr.cell? ⟨g, 5, none⟩ = some (.int .u32 2130706431) := HC.out 5 (by omega)
      clear hU hcell
      go_wp2_with fail
      clear c0 c1 c2 c3 c4 c5
      have hA0 := heap_alloc_new wr (.cells (caCells C1) 47)
      obtain ⟨na, hna⟩ : ∃ n, wr.heap.size = n := ⟨_, rfl⟩
      rw [hna] at hA0 ⊢
      have HA0 := hid hA0
      clear hna hA0
      go_loopw [5, 18] (fun out i wr' => FormS w out i wr' ∧ wr'.heap[na]? = some (.cells (caCells C1) 47 (0, 0))) (fun _ i _ => 1 - (intOf i).toNat)
      case atStart => exact ⟨.inl ⟨rfl, rfl, HU.out.alloc _⟩, HA0.out⟩
      case round =>
        obtain ⟨hS, hB⟩ := hrel
        have HA := hid hB
        clear hB
        rcases hS with ⟨rfl, rfl, hU'⟩ | ⟨rfl, hR', hU'⟩
        · have HU' := hid hU'
          have HRr' := hid (hU'.row HR.out (fun _ _ h => h))
          have hcell : ∀ i, i < 6 → wr.cell? ⟨g, i, none⟩ = (caCells C1)[i]? := fun i hi => (World.ownsRow.cellAt HRr'.out i (by omega)).trans (by simp)
          have HC' := hid hcell
          have c0 : wr.cell? ⟨g, 0, none⟩ = some (.int .i64 1) := HC'.out 0 (by omega)
          have c1 : wr.cell? ⟨g, 1, none⟩ = some (.int .u32 1) := HC'.out 1 (by omega)
          have c2 : wr.cell? ⟨g, 2, none⟩ = some (.int .i64 0) := HC'.out 2 (by omega)
          have c3 : wr.cell? ⟨g, 3, none⟩ = some (.int .u32 1) := HC'.out 3 (by omega)
          have c4 : wr.cell? ⟨g, 4, none⟩ = some (.int .i64 0) := HC'.out 4 (by omega)
          have c5 : wr.cell? ⟨g, 5, none⟩ = some (.int .u32 2130706431) := HC'.out 5 (by omega)
          clear hU' hcell
          go_upto_region 8 with (fail)
          clear c0 c1 c2 c3 c4 c5
          have hB0 := heap_alloc_new wr (.cells (caCells C1) 47)
          obtain ⟨w2, hw⟩ : ∃ w2, wr.alloc (.cells (caCells C1) 47) = w2 := ⟨_, rfl⟩
          have hu2 : Upd (fun _ => False) wr w2 := hw ▸ (Upd.refl _ wr).alloc _
          have HU2 : Hid (Upd (fun _ => False) w w2) := hid (HU'.out.trans hu2)
          have hA2 := hu2.blk HA.out (fun h => h)
          rw [hw] at hB0 ⊢
          clear hw
          obtain ⟨nb, hnb⟩ : ∃ n, wr.heap.size = n := ⟨_, rfl⟩
          rw [hnb] at hB0 ⊢
          clear hnb hu2
          have a0 : w2.cell? ⟨na, 0, none⟩ = some (.int .i64 1) := (blk_cell hA2 0).trans rfl
          have a3 : w2.cell? ⟨na, 3, none⟩ = some (.int .u32 1) := (blk_cell hA2 3).trans rfl
          have a4 : w2.cell? ⟨na, 4, none⟩ = some (.int .i64 0) := (blk_cell hA2 4).trans rfl
          have a5 : w2.cell? ⟨na, 5, none⟩ = some (.int .u32 2130706431) := (blk_cell hA2 5).trans rfl
          have b0 : w2.cell? ⟨nb, 0, none⟩ = some (.int .i64 1) := (blk_cell hB0 0).trans rfl
          have b1 : w2.cell? ⟨nb, 1, none⟩ = some (.int .u32 1) := (blk_cell hB0 1).trans rfl
          have b2 : w2.cell? ⟨nb, 2, none⟩ = some (.int .i64 0) := (blk_cell hB0 2).trans rfl
          have b5 : w2.cell? ⟨nb, 5, none⟩ = some (.int .u32 2130706431) := (blk_cell hB0 5).trans rfl
          have HA2 := hid hA2
          clear hA2 hB0
          have hpp : ∀ W, Calls Tryd.prog 15 #[.int .u32 2130706431, .int .u32 2130706431] W fun e w' => e = .returned (.int .u64 PP) ∧ W = w' := fun W => pair_P1 ▸ pair_any 2130706431 2130706431 (by omega) (by omega) W
          have HPP := hid hpp
          clear hpp
          go_upto_region 9 with (fail)
          have hno : ∀ k : Nat, ¬ ((Value.slice none 0 0).ownBlock = some k) := fun k h => by simp [Value.ownBlock] at h
          go_region_held3 (fun W => W.cell? ⟨na, 3, none⟩ = some (.int .u32 1) ∧ W.cell? ⟨na, 4, none⟩ = some (.int .i64 0) ∧ W.cell? ⟨na, 5, none⟩ = some (.int .u32 2130706431) ∧ W.cell? ⟨nb, 1, none⟩ = some (.int .u32 1) ∧ W.cell? ⟨nb, 2, none⟩ = some (.int .i64 0) ∧ W.cell? ⟨nb, 5, none⟩ = some (.int .u32 2130706431))
            (first
              | exact ⟨a3, a4, a5, b1, b2, b5⟩
              | exact ⟨hu4.cell a3 (hno _), hu4.cell a4 (hno _), hu4.cell a5 (hno _), hu4.cell b1 (hno _), hu4.cell b2 (hno _), hu4.cell b5 (hno _)⟩
              | exact ⟨(((Upd.refl (fun _ => False) w2).alloc _).drew).cell a3 (fun h => h), (((Upd.refl (fun _ => False) w2).alloc _).drew).cell a4 (fun h => h), (((Upd.refl (fun _ => False) w2).alloc _).drew).cell a5 (fun h => h), (((Upd.refl (fun _ => False) w2).alloc _).drew).cell b1 (fun h => h), (((Upd.refl (fun _ => False) w2).alloc _).drew).cell b2 (fun h => h), (((Upd.refl (fun _ => False) w2).alloc _).drew).cell b5 (fun h => h)⟩)
            (first
              | (refine step_pr rfl (.tmp 30) (.tmp 41) rfl P1 rfl (.slice none 0 0) [] 0 rfl (World.ownsRow_nil _ _ _ _) rfl (by omega) ?_; intro g4 q4 w4 hrow4 hu4 hor4 hlt4)
              | (go_at_call 15; refine (HPP.out _).mono ?_; rintro e w' ⟨rfl, rfl⟩))
          have HR4 := hid hrow4
          have HU4 : Hid (Upd (fun _ => False) w2 w4) := hid (hu4.mono (fun k _ h => (hno k h).elim))
          have HO4 : Hid (w2.heap.size ≤ g4) := hid (hor4.elim (fun h => (hno _ h).elim) id)
          clear hrow4 hu4 hor4 hlt4 hno a0 a3 a4 a5 b0 b1 b2 b5
          go_wp2_with fail
          refine ⟨⟨.inr ⟨rfl, ⟨g4, q4, rfl, Nat.le_trans HU2.out.size HO4.out, HR4.out⟩, HU2.out.trans HU4.out⟩, HU4.out.blk HA2.out (fun h => h)⟩, by simp [intOf]⟩
        · obtain ⟨g4, q4, rfl, hg4, hrow⟩ := hR'
          have HRP := hid hrow
          have HU' := hid hU'
          have HG := hid hg4
          clear hrow hU' hg4
          go_wp2_with fail
          refine ⟨.inr ⟨rfl, ⟨g4, q4, rfl, HG.out, HRP.out⟩, HU'.out⟩, by simp [intOf]⟩
    · obtain ⟨g4, q4, rfl, hg4, hrow⟩ := hR
      have HRP := hid hrow
      have HU := hid hU
      have HG := hid hg4
      clear hrow hU hg4
      go_wp2_with fail
      refine (few30_one P1 g4 q4 _ (own_cap HRP.out) (fun i hi => (World.ownsRow.cellAt HRP.out i (by omega)).trans (by simp))).mono ?_
      rintro e w5 ⟨rfl, hu5⟩
      have HU5 := hid hu5
      clear hu5
      go_wp2_with fail
      go_ret
      exact ⟨_, rfl, ⟨g4, q4, rfl, HG.out, HU5.out.row HRP.out (fun _ _ h => h)⟩, HU.out.trans HU5.out⟩
end Go.Proofs.YtoadbogfbgediaaDoor
