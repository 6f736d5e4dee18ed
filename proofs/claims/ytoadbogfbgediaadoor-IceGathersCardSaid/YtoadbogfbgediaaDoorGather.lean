/- Gather of any row of candidates (no statement of the seat). -/
import Derived.Test.YtoadbogfbgediaaDoorFewC
import Derived.Test.YtoadbogfbgediaaDoorForm
namespace Go.Proofs.YtoadbogfbgediaaDoor
open Go.RowKit

/-- A candidate with its priority at place i. -/
def placed (c : Ca) (i : Nat) : Ca := ⟨c.k, c.a, c.b, prioF c.k (65535 - i)⟩
def gathL (f : Nat → Ca) : Nat → List Ca
  | 0 => []
  | i + 1 => gathL f i ++ if isK (f i).k = true then [placed (f i) i] else []
theorem gathL_len (f : Nat → Ca) : ∀ n, (gathL f n).length ≤ n := by
  intro n
  induction n with
  | zero => simp [gathL]
  | succ n ih => rw [gathL, List.length_append]; split <;> simp <;> omega
theorem prio_in (k n : Int) : 0 ≤ prioF k n ∧ prioF k n < 4294967296 := by
  have h1 := clamp_in n
  have h2 := worth_in k
  unfold prioF
  split
  · omega
  · omega
theorem gathL_ok (f : Nat → Ca) : ∀ n, ∀ c ∈ gathL f n, 0 ≤ c.p ∧ c.p < 4294967296 := by
  intro n
  induction n with
  | zero => intro c h; simp [gathL] at h
  | succ n ih =>
    intro c h
    rw [gathL, List.mem_append] at h
    rcases h with h | h
    · exact ih c h
    · split at h
      · simp at h; subst h; exact prio_in _ _
      · simp at h
theorem OwnC.blk {l : List Ca} {n0 b cap : Nat} {w : World} (h : OwnC l n0 (.slice (some ⟨b, 0, none⟩) l.length cap) w) : BlkC w b l.length (fun x => l.getD x default) := by
  have hc : ∀ i, i < l.length → ∀ j, j < 6 → w.cell? ⟨b, i * 6 + j, none⟩ = (caCells (l.getD i default))[j]? := fun i hi j hj => by
    have eg : l.getD i default = l[i] := by simp [List.getD, hi]
    rw [World.ownsRow.cellAt h.row (i * 6 + j) (by omega), caL, flat6 _ (fun _ => rfl) l i j hi hj, eg]; simp
  rcases h.row.2 with ⟨h', _⟩ | ⟨g, cap', cur, hv, _, hh, _⟩
  · simp at h'
  · simp only [Value.slice.injEq, Option.some.injEq, Addr.mk.injEq, and_true, true_and] at hv
    obtain ⟨rfl, rfl⟩ := hv
    refine ⟨cur, hh, ?_, fun i hi j hj => ?_⟩
    · by_cases hn : l.length = 0
      · omega
      · obtain ⟨v, hv⟩ := ca_some (l.getD (l.length - 1) default) 5 (by omega)
        have := hc (l.length - 1) (by omega) 5 (by omega)
        rw [hv, blk_cell hh] at this
        have h5 := (Array.getElem?_eq_some_iff.1 this).1
        omega
    · have := hc i hi j hj
      rw [blk_cell hh] at this; exact this

/-! ### few of none -/
theorem ins50_zero (A : Option Addr) (cap : Nat) (fv : Value) (w : World) : Calls Tryd.prog 50 #[.slice A 0 cap, .int .i64 0, .int .i64 0, fv] w fun e w' => e = .returned (.tuple #[]) ∧ w = w' := by
  go_enter Tryd.func50, Tryd.ntmps50
  go_wp2_with fail
  go_loopw [8] (fun i wr => i = .int .i64 1 ∧ wr = w) (fun _ _ => 0)
  case atStart => exact ⟨rfl, rfl⟩
  case round =>
    obtain ⟨rfl, rfl⟩ := hrel
    go_wp2_with fail
    go_end0
    exact ⟨rfl, rfl⟩
theorem st46_zero (A : Option Addr) (cap : Nat) (fv : Value) (w : World) : Calls Tryd.prog 46 #[.slice A 0 cap, .int .i64 0, fv] w fun e w' => e = .returned (.tuple #[]) ∧ w = w' := by
  go_enter Tryd.func46, Tryd.ntmps46
  go_wp2_with fail
  go_loopw [7, 8] (fun a b wr => a = .int .i64 0 ∧ b = .int .i64 20 ∧ wr = w) (fun _ _ _ => 0)
  case atStart => exact ⟨rfl, rfl, rfl⟩
  case round =>
    obtain ⟨rfl, rfl, rfl⟩ := hrel
    go_wp2_with fail
    refine (ins50_zero A cap fv _).mono ?_
    rintro e w' ⟨rfl, rfl⟩
    go_wp2_with fail
    go_loopw [6] (fun b wr' => b = .int .i64 20 ∧ wr' = wr) (fun _ _ => 0)
    case atStart => exact ⟨rfl, rfl⟩
    case round =>
      obtain ⟨rfl, rfl⟩ := hrel
      go_wp2_with fail
      go_end0
      exact ⟨rfl, rfl⟩
theorem sort35_zero (A : Option Addr) (cap : Nat) (fv : Value) (w : World) : Calls Tryd.prog 35 #[.slice A 0 cap, fv] w fun e w' => e = .returned (.tuple #[]) ∧ w = w' := by
  go_enter Tryd.func35, Tryd.ntmps35
  go_wp2_with fail
  refine (st46_zero A cap fv _).mono ?_
  rintro e w' ⟨rfl, rfl⟩
  go_wp2_with fail
  go_end0
  exact ⟨rfl, rfl⟩
theorem idx48_zero (A : Option Addr) (cap : Nat) (fv : Value) (w : World) : Calls Tryd.prog 48 #[.slice A 0 cap, fv] w fun e w' => e = .returned (.int .i64 (-1)) ∧ w = w' := by
  go_enter Tryd.func48, Tryd.ntmps48
  go_wp2_with fail
  go_loopw [8] (fun i wr => i = .int .i64 0 ∧ wr = w) (fun _ _ => 0)
  case atStart => exact ⟨rfl, rfl⟩
  case round =>
    obtain ⟨rfl, rfl⟩ := hrel
    go_wp2_with fail
    go_ret
    exact ⟨rfl, rfl⟩
theorem del38_zero (A : Option Addr) (cap : Nat) (fv : Value) (w : World) : Calls Tryd.prog 38 #[.slice A 0 cap, fv] w fun e w' => e = .returned (.slice A 0 cap) ∧ w = w' := by
  go_enter Tryd.func38, Tryd.ntmps38
  go_wp2_with fail
  refine (idx48_zero A cap fv _).mono ?_
  rintro e w' ⟨rfl, rfl⟩
  go_wp2_with fail
  go_ret
  exact ⟨rfl, rfl⟩
theorem few27_nil (w : World) : Calls Tryd.prog 27 #[.slice none 0 0, fnv 28 #[], fnv 29 #[], .int .i64 8] w fun e w' => e = .returned (.slice none 0 0) ∧ Upd (fun _ => False) w w' := by
  have hmm := @run_makeMap Tryd.prog
  go_enter Tryd.func27, Tryd.ntmps27
  go_wp2_with fail
  refine (sort35_zero none 0 _ _).mono ?_
  rintro e w1 ⟨rfl, rfl⟩
  go_wp2_with fail
  refine (del38_zero none 0 _ _).mono ?_
  rintro e w1 ⟨rfl, rfl⟩
  go_wp2_with fail
  go_ret
  exact ⟨rfl, ((((Upd.refl _ w).alloc _).alloc _).alloc _).alloc _⟩

set_option maxRecDepth 100000 in
set_option maxHeartbeats 4000000 in
theorem gather18_any (bm : Nat) (es : Array MapEntry) (clock : Nat) (A : Option Addr) (n cap : Nat) (f : Nat → Ca) (w : World) (hK : Kin bm es clock w) (hA : SrcC w A n f) (hn : n ≤ 1000) :
    Calls Tryd.prog 18 #[.slice A n cap] w fun e w' => (gathL f n = [] ∧ e = .returned (.slice none 0 0) ∧ Upd (fun _ => False) w w') ∨
      ∃ (b cp : Nat) (w1 : World), w.heap.size ≤ b ∧ FewOutC (fun x => (gathL f n).getD x default) b (gathL f n).length cp 8 w1 e w' ∧ Upd (fun _ => False) w w' := by
  have HK := hid hK
  have HA := hid hA
  clear hK hA
  go_enter Tryd.func18, Tryd.ntmps18
  go_wp2_with fail
  go_loopw [3, 10] (fun out i wr => ∃ k : Nat, k ≤ n ∧ i = .int .i64 k ∧ OwnC (gathL f k) w.heap.size out wr ∧ Upd (fun _ => False) w wr) (fun _ i _ => n - (intOf i).toNat)
  case atStart => exact ⟨0, Nat.zero_le _, rfl, OwnC.nil _ _, Upd.refl _ _⟩
  case round =>
    obtain ⟨k, hk, rfl, hO, hU⟩ := hrel
    have HO := hid hO
    have HU := hid hU
    clear hO hU
    by_cases hkn : k < n
    · obtain ⟨ba, oa, ha, c0, c1, c2, c3, c4, c5⟩ := (HA.out.upd HU.out).at6 k hkn
      have hok := (HA.out.ok k hkn).1
      obtain ⟨⟨ck, ⟨a1, a2⟩, ⟨b1, b2⟩, cp⟩, hfk⟩ : ∃ q, f k = q := ⟨_, rfl⟩
      rw [hfk] at c0 c1 c2 c3 c4 c5 hok
      dsimp only at c0 c1 c2 c3 c4 c5 hok
      have HOK := hid hok
      have HFK := hid hfk
      subst ha
      have hu0 : Upd (fun _ => False) wr (wr.alloc (.cells (caCells ⟨ck, ⟨a1, a2⟩, ⟨b1, b2⟩, cp⟩) 47)) := (Upd.refl _ wr).alloc _
      have hkk := (HK.out.upd HU.out (fun h => h) (fun h => h)).upd hu0 (fun h => h) (fun h => h)
      have hl := hkk.look _ hkk.blk ck hok
      have g0 := hkk.cell
      have HK1 := hid hkk
      have HU0 := hid (HU.out.trans hu0)
      have HO0 := hid (HO.out.upd hu0 (fun _ _ h => h))
      clear hok hfk hkk hu0
      cases hi : isK ck with
      | false =>
        rw [hi] at hl
        have hg : gathL f (k + 1) = gathL f k := by rw [gathL, HFK.out]; simp [hi]
        have HG := hid hg
        clear hi hg
        go_wp2_with fail
        exact ⟨⟨k + 1, by omega, by go_num, by rw [HG.out]; exact HO0.out, HU0.out⟩, by simp [intOf]; omega⟩
      | true =>
        rw [hi] at hl
        have hg : gathL f (k + 1) = gathL f k ++ [⟨ck, ⟨a1, a2⟩, ⟨b1, b2⟩, prioF ck (65535 - k)⟩] := by rw [gathL, HFK.out]; simp [hi, placed]
        have HG := hid hg
        clear hi hg
        go_wp2_with fail
        refine (prio_any bm es clock ck (65535 - k) _ HK1.out HOK.out).mono ?_
        rintro e w1 ⟨rfl, rfl⟩
        obtain ⟨pr, hpr⟩ : ∃ pr, prioF ck (65535 - k) = pr := ⟨_, rfl⟩
        rw [hpr] at HG ⊢
        clear c0 c1 c2 c3 c4 c5 hl g0 hpr
        go_upto_region 8 with (fail)
        obtain ⟨w2, hw⟩ : ∃ w2, wr.alloc (.cells (caCells ⟨ck, ⟨a1, a2⟩, ⟨b1, b2⟩, pr⟩) 47) = w2 := ⟨_, rfl⟩
        have hu2 : Upd (fun _ => False) wr w2 := hw ▸ (Upd.refl _ wr).alloc _
        have hb2 := heap_alloc_new wr (.cells (caCells ⟨ck, ⟨a1, a2⟩, ⟨b1, b2⟩, pr⟩) 47)
        rw [hw] at hb2 ⊢
        clear hw
        have d0 : w2.cell? ⟨wr.heap.size, 0, none⟩ = some (.int .i64 ck) := (blk_cell hb2 0).trans rfl
        have d1 : w2.cell? ⟨wr.heap.size, 1, none⟩ = some (.int .u32 a1) := (blk_cell hb2 1).trans rfl
        have d2 : w2.cell? ⟨wr.heap.size, 2, none⟩ = some (.int .i64 a2) := (blk_cell hb2 2).trans rfl
        have d3 : w2.cell? ⟨wr.heap.size, 3, none⟩ = some (.int .u32 b1) := (blk_cell hb2 3).trans rfl
        have d4 : w2.cell? ⟨wr.heap.size, 4, none⟩ = some (.int .i64 b2) := (blk_cell hb2 4).trans rfl
        have d5 : w2.cell? ⟨wr.heap.size, 5, none⟩ = some (.int .u32 pr) := (blk_cell hb2 5).trans rfl
        have HU2 := hid (HU.out.trans hu2)
        have HO2 := hid (HO.out.upd hu2 (fun _ _ h => h))
        have HLEN := hid (show (gathL f k).length ≤ 1000000 by have := gathL_len f k; omega)
        clear hu2 hb2
        go_wp2_with (at_builtin; refine app_ca rfl _ _ rfl u3 (caL (gathL f k)) (gathL f k).length rfl HO2.out.row ⟨ck, ⟨a1, a2⟩, ⟨b1, b2⟩, pr⟩ rfl HLEN.out ?_; intro g4 q4 w4 hrow4 hu4 hor4 hlt4; have HR4 := hid hrow4; have HU4 := hid hu4; have HO4 := hid hor4; clear hrow4 hu4 hor4 hlt4)
        have hU4 : Upd (fun _ => False) w w4 := HU2.out.then_ HU4.out (fun q hq h => by have := HO2.out.new q h; omega)
        refine ⟨⟨k + 1, by omega, by go_num, ?_, hU4⟩, by simp [intOf]; omega⟩
        rw [HG.out]
        exact OwnC.snoc HR4.out (by rcases HO4.out with h | h
                                    · exact HO2.out.new _ h
                                    · exact Nat.le_trans HU2.out.size h)
    · have hkn' : k = n := by omega
      subst hkn'
      rcases HO.out.form with ⟨hv, hl⟩ | ⟨b, cp, hv, hc⟩
      · have HL := hid hl
        clear HO hl
        subst hv
        go_wp2_with fail
        refine (few27_nil _).mono ?_
        rintro e w5 ⟨rfl, hu5⟩
        have HU5 := hid (HU.out.trans hu5)
        clear hu5
        go_wp2_with fail
        go_ret
        exact .inl ⟨HL.out, rfl, HU5.out⟩
      · subst hv
        have hlen : (gathL f k).length ≤ 1000000 := by have := gathL_len f k; omega
        have hblk := hid HO.out.blk
        have hnew := hid (HO.out.new b (by simp [Value.ownBlock]))
        have hG : ∀ x, 0 ≤ ((gathL f k).getD x default).p ∧ ((gathL f k).getD x default).p < 4294967296 := by
          intro x
          by_cases hx : x < (gathL f k).length
          · have eg : (gathL f k).getD x default = (gathL f k)[x] := by simp [List.getD, hx]
            rw [eg]; exact gathL_ok f k _ (List.getElem_mem hx)
          · have eg : (gathL f k).getD x default = default := by simp [List.getD, hx]
            rw [eg]; exact ⟨Int.le_refl _, by decide⟩
        obtain ⟨l, hl⟩ : ∃ l, gathL f k = l := ⟨_, rfl⟩
        have HL := hid hl
        rw [hl] at hlen hc hblk hG
        clear HO
        rw [hl]
        clear hl
        go_wp2_with fail
        refine (few27_any (fun x => l.getD x default) hG b l.length cp _ hlen hc hblk.out).mono ?_
        rintro e w5 ⟨d, mm, hh, rfl, hrest⟩
        have HREST := hid hrest
        have HU5 := hid (HU.out.then_ hrest.2.2.2.2 (fun q hq e => by have := hnew.out; omega))
        clear hrest
        go_wp2_with fail
        go_ret
        refine .inr ⟨b, cp, wr, hnew.out, ?_, HU5.out⟩
        rw [HL.out]
        exact ⟨d, mm, hh, rfl, HREST.out⟩
end Go.Proofs.YtoadbogfbgediaaDoor
