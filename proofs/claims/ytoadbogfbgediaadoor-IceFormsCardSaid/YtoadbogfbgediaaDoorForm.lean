/- Form of any two rows of candidates (no statement of the seat). -/
import Derived.Test.YtoadbogfbgediaaDoorForm1
import Derived.Test.YtoadbogfbgediaaDoorFewP
import Derived.Test.YtoadbogfbgediaaDoorOwn
namespace Go.Proofs.YtoadbogfbgediaaDoor
open Go.RowKit

def pairOf (a b : Ca) : Pr := ⟨a.b, b.a, pairF a.p b.p, 1⟩
def rowL (a : Ca) (g : Nat → Ca) : Nat → List Pr
  | 0 => []
  | j + 1 => rowL a g j ++ if a.k = 4 ∨ (g j).k = 4 then [] else [pairOf a (g j)]
def formL (f g : Nat → Ca) (n : Nat) : Nat → List Pr
  | 0 => []
  | i + 1 => formL f g n i ++ rowL (f i) g n
theorem rowL_len (a : Ca) (g : Nat → Ca) : ∀ j, (rowL a g j).length ≤ j := by
  intro j
  induction j with
  | zero => simp [rowL]
  | succ j ih => rw [rowL, List.length_append]; split <;> simp <;> omega
theorem formL_len (f g : Nat → Ca) (n : Nat) : ∀ i, (formL f g n i).length ≤ i * n := by
  intro i
  induction i with
  | zero => simp [formL]
  | succ i ih =>
    rw [formL, List.length_append, Nat.add_mul, Nat.one_mul]
    have := rowL_len (f i) g n
    omega
theorem OwnP.ne {l : List Pr} {n0 : Nat} {v : Value} {w : World} (h : OwnP l n0 v w) {na : Nat} {cs : Array Value} (hb : w.heap[na]? = some (.cells cs 47 (0, 0))) : ∀ k, v.ownBlock = some k → k ≠ na := by
  intro k hk e
  subst e
  rcases h.row.2 with ⟨rfl, _⟩ | ⟨g, cap, cur, hv, _, hh, _⟩
  · simp [Value.ownBlock] at hk
  · subst hv
    simp [Value.ownBlock] at hk
    subst hk
    rw [hb] at hh
    simp at hh
theorem SrcC.at6 {w : World} {A : Option Addr} {n : Nat} {g : Nat → Ca} (h : SrcC w A n g) (i : Nat) (hi : i < n) : ∃ b off, A = some ⟨b, off, none⟩ ∧ w.cell? ⟨b, off + i * 6, none⟩ = some (.int .i64 (g i).k) ∧ w.cell? ⟨b, off + i * 6 + 1, none⟩ = some (.int .u32 (g i).a.h) ∧ w.cell? ⟨b, off + i * 6 + 2, none⟩ = some (.int .i64 (g i).a.p) ∧
    w.cell? ⟨b, off + i * 6 + 3, none⟩ = some (.int .u32 (g i).b.h) ∧ w.cell? ⟨b, off + i * 6 + 4, none⟩ = some (.int .i64 (g i).b.p) ∧ w.cell? ⟨b, off + i * 6 + 5, none⟩ = some (.int .u32 (g i).p) := by
  obtain ⟨b, off, ha, _, hc⟩ := h.at_ i hi
  exact ⟨b, off, ha, hc 0 (by omega), hc 1 (by omega), hc 2 (by omega), hc 3 (by omega), hc 4 (by omega), hc 5 (by omega)⟩

theorem OwnP.blk {l : List Pr} {n0 b cap : Nat} {w : World} (h : OwnP l n0 (.slice (some ⟨b, 0, none⟩) l.length cap) w) : BlkP w b l.length (fun x => l.getD x default) := by
  have hc : ∀ i, i < l.length → ∀ j, j < 6 → w.cell? ⟨b, i * 6 + j, none⟩ = (prCells (l.getD i default))[j]? := fun i hi j hj => by
    have eg : l.getD i default = l[i] := by simp [List.getD, hi]
    rw [World.ownsRow.cellAt h.row (i * 6 + j) (by omega), prL, flat6 _ (fun _ => rfl) l i j hi hj, eg]; simp
  rcases h.row.2 with ⟨h', _⟩ | ⟨g, cap', cur, hv, _, hh, _⟩
  · simp at h'
  · simp only [Value.slice.injEq, Option.some.injEq, Addr.mk.injEq, and_true, true_and] at hv
    obtain ⟨rfl, rfl⟩ := hv
    refine ⟨cur, hh, ?_, fun i hi j hj => ?_⟩
    · by_cases hn : l.length = 0
      · omega
      · obtain ⟨v, hv⟩ := pr_some (l.getD (l.length - 1) default) 5 (by omega)
        have := hc (l.length - 1) (by omega) 5 (by omega)
        rw [hv, blk_cell hh] at this
        have h5 := (Array.getElem?_eq_some_iff.1 this).1
        omega
    · have := hc i hi j hj
      rw [blk_cell hh] at this; exact this

/-! ### few of none -/
theorem ins52_zero (A : Option Addr) (cap : Nat) (fv : Value) (w : World) : Calls Tryd.prog 52 #[.slice A 0 cap, .int .i64 0, .int .i64 0, fv] w fun e w' => e = .returned (.tuple #[]) ∧ w = w' := by
  go_enter Tryd.func52, Tryd.ntmps52
  go_wp2_with fail
  go_loopw [8] (fun i wr => i = .int .i64 1 ∧ wr = w) (fun _ _ => 0)
  case atStart => exact ⟨rfl, rfl⟩
  case round =>
    obtain ⟨rfl, rfl⟩ := hrel
    go_wp2_with fail
    go_end0
    exact ⟨rfl, rfl⟩
theorem st49_zero (A : Option Addr) (cap : Nat) (fv : Value) (w : World) : Calls Tryd.prog 49 #[.slice A 0 cap, .int .i64 0, fv] w fun e w' => e = .returned (.tuple #[]) ∧ w = w' := by
  go_enter Tryd.func49, Tryd.ntmps49
  go_wp2_with fail
  go_loopw [7, 8] (fun a b wr => a = .int .i64 0 ∧ b = .int .i64 20 ∧ wr = w) (fun _ _ _ => 0)
  case atStart => exact ⟨rfl, rfl, rfl⟩
  case round =>
    obtain ⟨rfl, rfl, rfl⟩ := hrel
    go_wp2_with fail
    refine (ins52_zero A cap fv _).mono ?_
    rintro e w' ⟨rfl, rfl⟩
    go_wp2_with fail
    go_loopw [6] (fun b wr' => b = .int .i64 20 ∧ wr' = wr) (fun _ _ => 0)
    case atStart => exact ⟨rfl, rfl⟩
    case round =>
      obtain ⟨rfl, rfl⟩ := hrel
      go_wp2_with fail
      go_end0
      exact ⟨rfl, rfl⟩
theorem sort40_zero (A : Option Addr) (cap : Nat) (fv : Value) (w : World) : Calls Tryd.prog 40 #[.slice A 0 cap, fv] w fun e w' => e = .returned (.tuple #[]) ∧ w = w' := by
  go_enter Tryd.func40, Tryd.ntmps40
  go_wp2_with fail
  refine (st49_zero A cap fv _).mono ?_
  rintro e w' ⟨rfl, rfl⟩
  go_wp2_with fail
  go_end0
  exact ⟨rfl, rfl⟩
theorem idx44_zero (A : Option Addr) (cap : Nat) (fv : Value) (w : World) : Calls Tryd.prog 44 #[.slice A 0 cap, fv] w fun e w' => e = .returned (.int .i64 (-1)) ∧ w = w' := by
  go_enter Tryd.func44, Tryd.ntmps44
  go_wp2_with fail
  go_loopw [8] (fun i wr => i = .int .i64 0 ∧ wr = w) (fun _ _ => 0)
  case atStart => exact ⟨rfl, rfl⟩
  case round =>
    obtain ⟨rfl, rfl⟩ := hrel
    go_wp2_with fail
    go_ret
    exact ⟨rfl, rfl⟩
theorem del42_zero (A : Option Addr) (cap : Nat) (fv : Value) (w : World) : Calls Tryd.prog 42 #[.slice A 0 cap, fv] w fun e w' => e = .returned (.slice A 0 cap) ∧ w = w' := by
  go_enter Tryd.func42, Tryd.ntmps42
  go_wp2_with fail
  refine (idx44_zero A cap fv _).mono ?_
  rintro e w' ⟨rfl, rfl⟩
  go_wp2_with fail
  go_ret
  exact ⟨rfl, rfl⟩
theorem few30_nil (w : World) : Calls Tryd.prog 30 #[.slice none 0 0, fnv 31 #[], fnv 32 #[], .int .i64 16] w fun e w' => e = .returned (.slice none 0 0) ∧ Upd (fun _ => False) w w' := by
  have hmm := @run_makeMap Tryd.prog
  go_enter Tryd.func30, Tryd.ntmps30
  go_wp2_with fail
  refine (sort40_zero none 0 _ _).mono ?_
  rintro e w1 ⟨rfl, rfl⟩
  go_wp2_with fail
  refine (del42_zero none 0 _ _).mono ?_
  rintro e w1 ⟨rfl, rfl⟩
  go_wp2_with fail
  go_ret
  exact ⟨rfl, ((((Upd.refl _ w).alloc _).alloc _).alloc _).alloc _⟩

set_option maxRecDepth 100000 in
set_option maxHeartbeats 4000000 in
theorem form20_any (A B : Option Addr) (n m ca cb : Nat) (f g : Nat → Ca) (w : World) (hA : SrcC w A n f) (hB : SrcC w B m g) (hn : n ≤ 1000) (hm : m ≤ 1000) :
    Calls Tryd.prog 20 #[.slice A n ca, .slice B m cb] w fun e w' => (formL f g m n = [] ∧ e = .returned (.slice none 0 0) ∧ Upd (fun _ => False) w w') ∨
      ∃ (b cap : Nat) (w1 : World), w.heap.size ≤ b ∧ FewOut (fun x => (formL f g m n).getD x default) b (formL f g m n).length cap 16 w1 e w' ∧ Upd (fun _ => False) w w' := by
  have HA := hid hA
  have HB := hid hB
  clear hA hB
  go_enter Tryd.func20, Tryd.ntmps20
  go_wp2_with fail
  go_loopw [5, 12] (fun out i wr => ∃ k : Nat, k ≤ n ∧ i = .int .i64 k ∧ OwnP (formL f g m k) w.heap.size out wr ∧ Upd (fun _ => False) w wr) (fun _ i _ => n - (intOf i).toNat)
  case atStart => exact ⟨0, Nat.zero_le _, rfl, OwnP.nil _ _, Upd.refl _ _⟩
  case round =>
    obtain ⟨k, hk, rfl, hO, hU⟩ := hrel
    have HO := hid hO
    have HU := hid hU
    clear hO hU
    by_cases hkn : k < n
    · obtain ⟨ba, oa, ha, c0, c1, c2, c3, c4, c5⟩ := (HA.out.upd HU.out).at6 k hkn
      have hok := HA.out.ok k hkn
      obtain ⟨⟨ak, ⟨a1, a2⟩, ⟨a3, a4⟩, ap⟩, hfk⟩ : ∃ q, f k = q := ⟨_, rfl⟩
      rw [hfk] at c0 c1 c2 c3 c4 c5 hok
      dsimp only at c0 c1 c2 c3 c4 c5 hok
      have HOK := hid hok
      have HFK := hid hfk
      subst ha
      clear hok hfk
      go_wp2_with fail
      clear c0 c1 c2 c3 c4 c5
      have hA0 := heap_alloc_new wr (.cells (caCells ⟨ak, ⟨a1, a2⟩, ⟨a3, a4⟩, ap⟩) 47)
      have hU0 : Upd (fun _ => False) wr (wr.alloc (.cells (caCells ⟨ak, ⟨a1, a2⟩, ⟨a3, a4⟩, ap⟩) 47)) := (Upd.refl _ wr).alloc _
      have HO0 := hid (HO.out.upd hU0 (fun _ _ h => h))
      have HU0 := hid (HU.out.trans hU0)
      obtain ⟨na, hna⟩ : ∃ n, wr.heap.size = n := ⟨_, rfl⟩
      rw [hna] at hA0 ⊢
      have HA0 := hid hA0
      clear hna hA0 hU0
      go_loopw [5, 18] (fun out i wr' => ∃ j : Nat, j ≤ m ∧ i = .int .i64 j ∧ OwnP (formL f g m k ++ rowL (f k) g j) w.heap.size out wr' ∧ Upd (fun _ => False) w wr' ∧ wr'.heap[na]? = some (.cells (caCells ⟨ak, ⟨a1, a2⟩, ⟨a3, a4⟩, ap⟩) 47 (0, 0))) (fun _ i _ => m - (intOf i).toNat)
      case atStart => exact ⟨0, Nat.zero_le _, rfl, by rw [rowL, List.append_nil]; exact HO0.out, HU0.out, HA0.out⟩
      case round =>
        obtain ⟨j, hj, rfl, hO', hU', hB'⟩ := hrel
        have HO' := hid hO'
        have HU' := hid hU'
        have HNA := hid hB'
        clear hO' hU' hB'
        by_cases hjm : j < m
        · obtain ⟨bb, ob, hb, c0, c1, c2, c3, c4, c5⟩ := (HB.out.upd HU'.out).at6 j hjm
          have hok := HB.out.ok j hjm
          obtain ⟨⟨bk, ⟨b1, b2⟩, ⟨b3, b4⟩, bp⟩, hgj⟩ : ∃ q, g j = q := ⟨_, rfl⟩
          rw [hgj] at c0 c1 c2 c3 c4 c5 hok
          dsimp only at c0 c1 c2 c3 c4 c5 hok
          have HOKB := hid hok
          have HGJ := hid hgj
          subst hb
          clear hok hgj
          go_upto_region 8 with (fail)
          clear c0 c1 c2 c3 c4 c5
          have hB0 := heap_alloc_new wr (.cells (caCells ⟨bk, ⟨b1, b2⟩, ⟨b3, b4⟩, bp⟩) 47)
          obtain ⟨w2, hw⟩ : ∃ w2, wr.alloc (.cells (caCells ⟨bk, ⟨b1, b2⟩, ⟨b3, b4⟩, bp⟩) 47) = w2 := ⟨_, rfl⟩
          have hu2 : Upd (fun _ => False) wr w2 := hw ▸ (Upd.refl _ wr).alloc _
          have HU2 : Hid (Upd (fun _ => False) w w2) := hid (HU'.out.trans hu2)
          have HO2 := hid (HO'.out.upd hu2 (fun _ _ h => h))
          have hA2 := hu2.blk HNA.out (fun h => h)
          rw [hw] at hB0 ⊢
          clear hw
          obtain ⟨nb, hnb⟩ : ∃ n, wr.heap.size = n := ⟨_, rfl⟩
          rw [hnb] at hB0 ⊢
          clear hnb hu2
          have x0 : w2.cell? ⟨na, 0, none⟩ = some (.int .i64 ak) := (blk_cell hA2 0).trans rfl
          have x3 : w2.cell? ⟨na, 3, none⟩ = some (.int .u32 a3) := (blk_cell hA2 3).trans rfl
          have x4 : w2.cell? ⟨na, 4, none⟩ = some (.int .i64 a4) := (blk_cell hA2 4).trans rfl
          have x5 : w2.cell? ⟨na, 5, none⟩ = some (.int .u32 ap) := (blk_cell hA2 5).trans rfl
          have y0 : w2.cell? ⟨nb, 0, none⟩ = some (.int .i64 bk) := (blk_cell hB0 0).trans rfl
          have y1 : w2.cell? ⟨nb, 1, none⟩ = some (.int .u32 b1) := (blk_cell hB0 1).trans rfl
          have y2 : w2.cell? ⟨nb, 2, none⟩ = some (.int .i64 b2) := (blk_cell hB0 2).trans rfl
          have y5 : w2.cell? ⟨nb, 5, none⟩ = some (.int .u32 bp) := (blk_cell hB0 5).trans rfl
          have HA2 := hid hA2
          have HNB := hid hB0
          clear hA2 hB0
          have hrow : rowL (f k) g (j + 1) = rowL (f k) g j ++ if ak = 4 ∨ bk = 4 then [] else [pairOf (f k) (g j)] := by
            rw [rowL, HFK.out, HGJ.out]
          have HROW := hid hrow
          clear hrow
          by_cases hk4 : ak = 4
          · have hr2 : rowL (f k) g (j + 1) = rowL (f k) g j := by rw [HROW.out, if_pos (.inl hk4), List.append_nil]
            have HR2 := hid hr2
            subst hk4
            clear hr2 x3 x4 x5 y1 y2 y5
            go_wp2_with fail
            refine ⟨⟨j + 1, by omega, by go_num, by rw [HR2.out]; exact HO2.out, HU2.out, HA2.out⟩, by simp [intOf]; omega⟩
          · by_cases hk4' : bk = 4
            · have hr2 : rowL (f k) g (j + 1) = rowL (f k) g j := by rw [HROW.out, if_pos (.inr hk4'), List.append_nil]
              have HR2 := hid hr2
              have hne4 : (ak == 4) = false := by rw [beq_eq_false_iff_ne]; exact hk4
              subst hk4'
              clear hr2 x3 x4 x5 y1 y2 y5
              go_wp2_with fail
              refine ⟨⟨j + 1, by omega, by go_num, by rw [HR2.out]; exact HO2.out, HU2.out, HA2.out⟩, by simp [intOf]; omega⟩
            · have hr2 : rowL (f k) g (j + 1) = rowL (f k) g j ++ [pairOf (f k) (g j)] := by rw [HROW.out, if_neg (by omega)]
              have HR2 := hid hr2
              have hne4 : (ak == 4) = false := by rw [beq_eq_false_iff_ne]; exact hk4
              have hne4' : (bk == 4) = false := by rw [beq_eq_false_iff_ne]; exact hk4'
              have hne5 : (ak != 4) = true := by rw [bne_iff_ne]; exact hk4
              have hne5' : (bk != 4) = true := by rw [bne_iff_ne]; exact hk4'
              have hpp : ∀ W, Calls Tryd.prog 15 #[.int .u32 ap, .int .u32 bp] W fun e w' => e = .returned (.int .u64 (pairF ap bp)) ∧ W = w' := fun W => pair_any ap bp HOK.out.2 HOKB.out.2 W
              have HPP := hid hpp
              have HPV := hid (show pairOf (f k) (g j) = ⟨⟨a3, a4⟩, ⟨b1, b2⟩, pairF ap bp, 1⟩ by rw [HFK.out, HGJ.out]; rfl)
              obtain ⟨pp, hpe⟩ : ∃ pp, pairF ap bp = pp := ⟨_, rfl⟩
              rw [hpe] at HPP HPV
              have hlen : (formL f g m k ++ rowL (f k) g j).length ≤ 1000000 := by
                rw [List.length_append]
                have q1 := formL_len f g m k
                have q2 := rowL_len (f k) g j
                have q3 : k * m ≤ 999 * 1000 := Nat.mul_le_mul (by omega) hm
                omega
              have HLEN := hid hlen
              have hnea := HO2.out.ne HA2.out
              have hneb := HO2.out.ne HNB.out
              clear hpp hr2 hpe hlen
              go_upto_region 9 with (fail)
              obtain ⟨l, hl⟩ : ∃ l, formL f g m k ++ rowL (f k) g j = l := ⟨_, rfl⟩
              rw [hl] at HO2 HLEN
              have HL := hid hl
              clear hl
              go_region_held3 (fun W => W.cell? ⟨na, 3, none⟩ = some (.int .u32 a3) ∧ W.cell? ⟨na, 4, none⟩ = some (.int .i64 a4) ∧ W.cell? ⟨na, 5, none⟩ = some (.int .u32 ap) ∧ W.cell? ⟨nb, 1, none⟩ = some (.int .u32 b1) ∧ W.cell? ⟨nb, 2, none⟩ = some (.int .i64 b2) ∧ W.cell? ⟨nb, 5, none⟩ = some (.int .u32 bp))
                (first
                  | exact ⟨x3, x4, x5, y1, y2, y5⟩
                  | exact ⟨hu4.cell x3 (fun h => hnea _ h rfl), hu4.cell x4 (fun h => hnea _ h rfl), hu4.cell x5 (fun h => hnea _ h rfl), hu4.cell y1 (fun h => hneb _ h rfl), hu4.cell y2 (fun h => hneb _ h rfl), hu4.cell y5 (fun h => hneb _ h rfl)⟩
                  | exact ⟨(((Upd.refl (fun _ => False) w2).alloc _).drew).cell x3 (fun h => h), (((Upd.refl (fun _ => False) w2).alloc _).drew).cell x4 (fun h => h), (((Upd.refl (fun _ => False) w2).alloc _).drew).cell x5 (fun h => h), (((Upd.refl (fun _ => False) w2).alloc _).drew).cell y1 (fun h => h), (((Upd.refl (fun _ => False) w2).alloc _).drew).cell y2 (fun h => h), (((Upd.refl (fun _ => False) w2).alloc _).drew).cell y5 (fun h => h)⟩)
                (first
                  | (refine step_pr rfl (.tmp 30) (.tmp 41) rfl ⟨⟨a3, a4⟩, ⟨b1, b2⟩, pp, 1⟩ rfl u5 (prL l) l.length rfl HO2.out.row rfl HLEN.out ?_; intro g4 q4 w4 hrow4 hu4 hor4 hlt4)
                  | (go_at_call 15; refine (HPP.out _).mono ?_; rintro e w' ⟨rfl, rfl⟩))
              have HR4 := hid hrow4
              have HU4 : Hid (Upd (fun _ => False) w w4) := hid (HU2.out.then_ hu4 (fun q hq h => by have := HO2.out.new q h; omega))
              have HA4 := hid (hu4.blk HA2.out (fun h => hnea _ h rfl))
              have HO4 : Hid (OwnP (formL f g m k ++ rowL (f k) g (j + 1)) w.heap.size (.slice (some ⟨g4, 0, none⟩) (l.length + 1) q4) w4) := by
                refine hid ?_
                rw [HR2.out, ← List.append_assoc, HL.out, HPV.out]
                exact OwnP.snoc hrow4 (by rcases hor4 with h | h
                                          · exact HO2.out.new _ h
                                          · exact Nat.le_trans HU2.out.size h)
              clear hrow4 hu4 hor4 hlt4 x0 x3 x4 x5 y0 y1 y2 y5 hnea hneb
              go_wp2_with fail
              exact ⟨⟨j + 1, by omega, by go_num, HO4.out, HU4.out, HA4.out⟩, by simp [intOf]; omega⟩
        · have hjm' : j = m := by omega
          have HO3 : Hid (OwnP (formL f g m (k + 1)) w.heap.size u5 wr) := by
            refine hid ?_
            rw [formL]
            have := HO'.out
            rw [hjm'] at this
            exact this
          subst hjm'
          go_wp2_with fail
          exact ⟨⟨k + 1, by omega, by go_num, HO3.out, HU'.out⟩, by simp [intOf]; omega⟩
    · have hkn' : k = n := by omega
      subst hkn'
      rcases HO.out.form with ⟨hv, hl⟩ | ⟨b, cap, hv, hc⟩
      · have HL := hid hl
        clear HO hl
        subst hv
        go_wp2_with fail
        refine (few30_nil _).mono ?_
        rintro e w5 ⟨rfl, hu5⟩
        have HU5 := hid (HU.out.trans hu5)
        clear hu5
        go_wp2_with fail
        go_ret
        exact .inl ⟨HL.out, rfl, HU5.out⟩
      · subst hv
        have hlen : (formL f g m k).length ≤ 1000000 := by
          have q1 := formL_len f g m k
          have q3 : k * m ≤ 1000 * 1000 := Nat.mul_le_mul hn hm
          omega
        have hblk := hid HO.out.blk
        have hnew := hid (HO.out.new b (by simp [Value.ownBlock]))
        obtain ⟨l, hl⟩ : ∃ l, formL f g m k = l := ⟨_, rfl⟩
        have HL := hid hl
        rw [hl] at hlen hc hblk
        clear HO
        rw [hl]
        clear hl
        go_wp2_with fail
        refine (few30_any (fun x => l.getD x default) b l.length cap _ hlen hc hblk.out).mono ?_
        rintro e w5 ⟨d, mm, hh, rfl, hrest⟩
        have HREST := hid hrest
        have HU5 := hid (HU.out.then_ hrest.2.2.2.2 (fun q hq e => by have := hnew.out; omega))
        clear hrest
        go_wp2_with fail
        go_ret
        refine .inr ⟨b, cap, wr, hnew.out, ?_, HU5.out⟩
        rw [HL.out]
        exact ⟨d, mm, hh, rfl, HREST.out⟩
end Go.Proofs.YtoadbogfbgediaaDoor
