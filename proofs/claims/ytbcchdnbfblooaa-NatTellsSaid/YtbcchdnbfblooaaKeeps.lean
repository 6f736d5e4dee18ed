/- The walk of NatKeeps (no statement of the seat). -/
import Derived.Test.YtbcchdnbfblooaaFull
namespace Go.Proofs.Ytbcchdnbfblooaa
open Go.RowKit

/-- The elements of a slice of ints that came in. -/
structure SrcI (w : World) (a : Option Addr) (len : Nat) (f : Nat → Int) : Prop where
  max : len ≤ 9223372036854775807
  at_ : ∀ i, i < len → ∃ b off, a = some ⟨b, off, none⟩ ∧ b < w.heap.size ∧ w.cell? ⟨b, off + i, none⟩ = some (.int .i64 (f i))
theorem SrcI.upd {w w' : World} {a : Option Addr} {len : Nat} {f : Nat → Int} {S : Nat → Prop} (h : SrcI w a len f)
    (hu : Upd S w w') (hs : ∀ b, b < w.heap.size → ¬ S b) : SrcI w' a len f :=
  ⟨h.max, fun i hi => by
    obtain ⟨b, off, ha, hb, hc⟩ := h.at_ i hi
    exact ⟨b, off, ha, Nat.lt_of_lt_of_le hb hu.size, hu.cell hc (hs b hb)⟩⟩
def KeepR (w : World) (g : Nat) (d : Cfg) (bt bx len : Nat) (v i : Value) (wr : World) : Prop :=
  ∃ (k : Nat) (t : Int) (F : Nat → Prop), k ≤ len ∧ k ≤ 40 ∧ i = .int .i64 k ∧ v = .int .i64 t ∧ 0 ≤ t ∧ t ≤ 109 * k ∧ Has w g d (KL d t) F wr ∧ Mine F wr w.heap.size (cfgCells d) 24 ∧
    Mine F wr bt #[.int .u32 3, .int .i64 3] 26 ∧ Mine F wr bx #[.int .u32 d.pub, .int .i64 1024] 26

set_option maxRecDepth 100000 in
set_option maxHeartbeats 8000000 in
theorem keeps_walk (c : Cfg) (a0 : Option Addr) (len0 cap0 : Nat) (f : Nat → Int) (w : World) (hs : SrcI w a0 len0 f) : Calls Try.prog 7 #[c.v, .slice a0 len0 cap0] w fun e w' => e = .returned (.bool true) ∧ Below w.heap.size w w' := by
  have hmax := hs.max
  have HSR := hid hs
  clear hs
  obtain ⟨w0, hw0⟩ : ∃ w0, w.alloc (.cells #[.int .u32 c.pub, .int .i64 c.map, .int .i64 c.fil, .bool c.hair, .int .i64 c.tmo] 24) = w0 := ⟨_, rfl⟩
  have HC := hid (show Mine (fun _ => False) w0 w.heap.size #[.int .u32 c.pub, .int .i64 c.map, .int .i64 c.fil, .bool c.hair, .int .i64 c.tmo] 24 by rw [← hw0]; exact blk_new w _ _)
  have HU : Hid (Upd (fun k => w.heap.size ≤ k) w w0) := hid (by rw [← hw0]; exact (Upd.refl _ w).alloc _)
  go_enter Try.func7, Try.ntmps7
  go_wp2_with fail
  refine (shown_any _).mono ?_
  rintro e w1 ⟨rfl, hu⟩
  have HC := hid (HC.out.still hu)
  have HU : Hid (Upd (fun k => w.heap.size ≤ k) w w1) := hid (HU.out.then_ hu (fun _ _ h => h.elim))
  clear hu hw0
  obtain ⟨c0, c1, c2, c3, c4⟩ := HC.out.cfgs
  go_wp2_with fail
  clear c0 c1 c2 c3 c4
  refine (few_any c _).mono ?_
  rintro e w2 ⟨rfl, hu⟩
  have HC := hid (HC.out.still hu)
  have HU : Hid (Upd (fun k => w.heap.size ≤ k) w w2) := hid (HU.out.then_ hu (fun _ _ h => h.elim))
  clear hu
  obtain ⟨d, hd⟩ : ∃ d, few c = d := ⟨_, rfl⟩
  have HR : Hid (Right d) := hid (hd ▸ few_right c)
  have HT : Hid (10 ≤ d.tmo ∧ d.tmo ≤ 109) := hid (hd ▸ few_tmo c)
  have HPU : Hid (0 ≤ d.pub ∧ d.pub < 4294967296) := hid (hd ▸ few_pub c)
  rw [hd]
  clear hd
  obtain ⟨c0, c1, c2, c3, c4⟩ := HC.out.cfgs
  have g0 : ∀ i, w2.frozen? ⟨w.heap.size, i, none⟩ = false := fun i => blk_free HC.out.blk i
  go_upto_region 3 with fail
  clear c0 c1 c2 c3 c4 g0
  obtain ⟨w3, hw3⟩ : ∃ w3, setCfg w2 w.heap.size d = w3 := ⟨_, rfl⟩
  have hu := upd_cfg w2 w.heap.size d
  have HC : Hid (Mine (fun _ => False) w3 w.heap.size #[.int .u32 d.pub, .int .i64 d.map, .int .i64 d.fil, .bool d.hair, .int .i64 d.tmo] 24) := hid ⟨hw3 ▸ blk_cfg HC.out.blk d, fun h => h⟩
  unfold setCfg at hw3 hu
  rw [hw3] at hu ⊢
  have HU : Hid (Upd (fun k => w.heap.size ≤ k) w w3) := hid (HU.out.then_ hu (fun _ _ h => by omega))
  clear hu hw3
  obtain ⟨c0, c1, c2, c3, c4⟩ := HC.out.cfgs
  go_wp2_with fail
  clear c0 c1 c2 c3 c4
  refine (has_new w d HR.out _ HU.out).mono ?_
  rintro e w4 ⟨g, F, rfl, hh, hF, hu⟩
  have HH := hid hh
  have HC := hid (Mine.ahead HC.out.blk hF hu)
  clear hh hF hu HU
  go_upto_region 8 with (fail)
  obtain ⟨w5, hw⟩ : ∃ w5, w4.alloc (.cells #[.int .u32 3, .int .i64 3] 26) = w5 := ⟨_, rfl⟩
  have Ht : Hid (Mine F w5 w4.heap.size #[.int .u32 3, .int .i64 3] 26) := hid (hw ▸ Mine.fresh HH.out.lt _ _)
  have HH := hid (HH.out.alloc (.cells #[.int .u32 3, .int .i64 3] 26))
  have HC := hid (HC.out.alloc (.cells #[.int .u32 3, .int .i64 3] 26))
  rw [hw] at HH HC ⊢
  clear hw
  obtain ⟨t0', t1', t2', t3'⟩ := Ht.out.ads 3 3
  go_wp2_with fail
  clear t0' t1' t2' t3'
  refine (HH.out.out 0 ⟨1, 1⟩ ⟨3, 3⟩).mono ?_
  rw [keep_first]
  rintro e w6 ⟨rfl, hh, hu⟩
  obtain ⟨F6, hF⟩ : ∃ F6, grow F w5 w6 = F6 := ⟨_, rfl⟩
  have HH := hid hh
  have HC := hid (HC.out.call hu)
  have Ht := hid (Ht.out.call hu)
  rw [hF] at HH HC Ht
  clear hh hu hF
  obtain ⟨t0', t1', t2', t3'⟩ := Ht.out.ads 3 3
  go_wp2_with fail
  clear t0' t1' t2' t3'
  obtain ⟨w7, hw⟩ : ∃ w7, w6.alloc (.cells #[.int .u32 d.pub, .int .i64 1024] 26) = w7 := ⟨_, rfl⟩
  have Hx : Hid (Mine F6 w7 w6.heap.size #[.int .u32 d.pub, .int .i64 1024] 26) := hid (hw ▸ Mine.fresh HH.out.lt _ _)
  have HH := hid (HH.out.alloc (.cells #[.int .u32 d.pub, .int .i64 1024] 26))
  have HC := hid (HC.out.alloc (.cells #[.int .u32 d.pub, .int .i64 1024] 26))
  have Ht := hid (Ht.out.alloc (.cells #[.int .u32 d.pub, .int .i64 1024] 26))
  rw [hw] at HH HC Ht ⊢
  clear hw
  refine (HH.out.out 0 ⟨1, 2⟩ ⟨3, 3⟩).mono ?_
  rw [keep_second d HT.out.1]
  rintro e w8 ⟨rfl, hh, hu⟩
  obtain ⟨F8, hF⟩ : ∃ F8, grow F6 w7 w8 = F8 := ⟨_, rfl⟩
  have HH := hid hh
  have HC := hid (HC.out.call hu)
  have Ht := hid (Ht.out.call hu)
  have Hx := hid (Hx.out.call hu)
  rw [hF] at HH HC Ht Hx
  clear hh hu hF
  go_upto_region 10 with (fail)
  obtain ⟨w9, hw⟩ : ∃ w9, w8.alloc (.cells #[.int .u32 d.pub, .int .i64 1025] 26) = w9 := ⟨_, rfl⟩
  have Hy : Hid (Mine F8 w9 w8.heap.size #[.int .u32 d.pub, .int .i64 1025] 26) := hid (hw ▸ Mine.fresh HH.out.lt _ _)
  have HH := hid (HH.out.alloc (.cells #[.int .u32 d.pub, .int .i64 1025] 26))
  have HC := hid (HC.out.alloc (.cells #[.int .u32 d.pub, .int .i64 1025] 26))
  have Ht := hid (Ht.out.alloc (.cells #[.int .u32 d.pub, .int .i64 1025] 26))
  have Hx := hid (Hx.out.alloc (.cells #[.int .u32 d.pub, .int .i64 1025] 26))
  rw [hw] at HH HC Ht Hx ⊢
  clear hw
  obtain ⟨x0', x1', x2', x3'⟩ := Hx.out.ads d.pub 1024
  obtain ⟨y0', y1', y2', y3'⟩ := Hy.out.ads d.pub 1025
  go_wp2_with fail
  clear x0' x1' x2' x3' y0' y1' y2' y3'
  go_loopw [9, 14] (fun v i wr => KeepR w g d w4.heap.size w6.heap.size len0 v i wr) (fun _ i _ => len0 - (intOf i).toNat)
  case atStart => exact ⟨0, 0, _, by omega, by omega, rfl, rfl, by omega, by omega, HH.out, HC.out, Ht.out, Hx.out⟩
  case round =>
    obtain ⟨k, t, F1, hk, hk40, rfl, rfl, ht0, ht1, hH, hC, hTt, hX⟩ := hrel
    have HH1 := hid hH
    have HC1 := hid hC
    have HT1 := hid hTt
    have HX1 := hid hX
    have htm := HT.out
    clear hH hC hTt hX
    by_cases hlt : k < len0 ∧ k < 40
    · obtain ⟨b, off, ha, hb, hc⟩ := (HSR.out.upd HH1.out.upd (fun b hb hn => by omega)).at_ k hlt.1
      subst ha
      have k1 : decide (k < len0) = true := decide_eq_true hlt.1
      have k3 := hlt.1
      have k4 := hlt.2
      obtain ⟨q, hq⟩ : ∃ q, bits .and .i64 (f k) 65535 = q := ⟨_, rfl⟩
      obtain ⟨p, hp⟩ : ∃ p, q.tmod d.tmo = p := ⟨_, rfl⟩
      have hpr : 0 ≤ p ∧ p < d.tmo := by
        have h1 := low_in (f k) d.tmo.toNat (by omega)
        have h2 : ((d.tmo.toNat : Nat) : Int) = d.tmo := Int.toNat_of_nonneg (by omega)
        rw [h2] at h1
        unfold low at h1
        rw [hq, hp] at h1
        exact h1
      have hz : (d.tmo == 0) = false := by simp; omega
      have hstep := keep_step d HT.out.1 t p ht0 (by omega) hpr.1 hpr.2
      have HSTEP := hid hstep
      clear hlt hstep
      obtain ⟨c0, c1, c2, c3, c4⟩ := HC1.out.cfgs
      go_upto_region 15 with (fail)
      go_quiet (fail)
      go_upto_region 16 with (fail)
      obtain ⟨w10, hw⟩ : ∃ w10, wr.drewN nq = w10 := ⟨_, rfl⟩
      have hun : Upd (fun _ => False) wr w10 := hw ▸ (Upd.refl _ wr).drewN nq
      rw [hw]
      have HH2 := hid (HH1.out.still hun)
      have HC2 := hid (HC1.out.still hun)
      have HT2 := hid (HT1.out.still hun)
      have HX2 := hid (HX1.out.still hun)
      clear hun hw c0 c1 c2 c3 c4 hz hp hq hc hb HH1 HC1 HT1 HX1
      obtain ⟨t0', t1', t2', t3'⟩ := HT2.out.ads 3 3
      go_wp2_with fail
      clear t0' t1' t2' t3'
      refine (HH2.out.out (t + p) ⟨1, 1⟩ ⟨3, 3⟩).mono ?_
      rw [HSTEP.out]
      rintro e w11 ⟨rfl, hh, hu⟩
      have HH3 := hid (hh.alloc (.cells #[.int .u32 d.pub, .int .i64 1024] 26))
      have HC3 := hid ((HC2.out.call hu).alloc (.cells #[.int .u32 d.pub, .int .i64 1024] 26))
      have HT3 := hid ((HT2.out.call hu).alloc (.cells #[.int .u32 d.pub, .int .i64 1024] 26))
      have HX3 := hid ((HX2.out.call hu).alloc (.cells #[.int .u32 d.pub, .int .i64 1024] 26))
      have HZ3 := hid (Mine.fresh hh.lt #[.int .u32 d.pub, .int .i64 1024] 26)
      clear hh hu
      go_upto_region 17 with (fail)
      obtain ⟨w12, hw⟩ : ∃ w12, w11.alloc (.cells #[.int .u32 d.pub, .int .i64 1024] 26) = w12 := ⟨_, rfl⟩
      rw [hw] at HH3 HC3 HT3 HX3 HZ3 ⊢
      clear hw
      obtain ⟨c0, c1, c2, c3, c4⟩ := HC3.out.cfgs
      obtain ⟨_, _, x2', x3'⟩ := HX3.out.ads d.pub 1024
      obtain ⟨_, _, z2', z3'⟩ := HZ3.out.ads d.pub 1024
      have hl := KL_len d (t + p)
      rcases Int.lt_or_le (t + p) d.tmo with htt | htt
      · rw [if_neg (by omega)] at hl
        have HL := hid hl
        clear hl
        go_wp2_with fail
        refine (HH3.out.len).mono ?_
        rintro e w13 ⟨rfl, rfl⟩
        rw [HL.out]
        go_wp2_with fail
        refine ⟨⟨k + 1, t + p, _, by omega, by omega, by go_num, rfl, by omega, by omega, HH3.out, HC3.out, HT3.out, HX3.out⟩, by simp [intOf]; omega⟩
      · rw [if_pos (by omega)] at hl
        have HL := hid hl
        clear hl
        go_wp2_with fail
        refine (HH3.out.len).mono ?_
        rintro e w13 ⟨rfl, rfl⟩
        rw [HL.out]
        go_wp2_with fail
        refine ⟨⟨k + 1, t + p, _, by omega, by omega, by go_num, rfl, by omega, by omega, HH3.out, HC3.out, HT3.out, HX3.out⟩, by simp [intOf]; omega⟩
    · have hlt' : (decide (k < len0) = false ∧ len0 ≤ k) ∨ (decide (k < len0) = true ∧ 40 ≤ k ∧ k < len0) := by
        rcases Nat.lt_or_ge k len0 with h | h
        · exact .inr ⟨decide_eq_true h, by omega, h⟩
        · exact .inl ⟨decide_eq_false (by omega), h⟩
      clear hlt
      obtain ⟨L', hL'⟩ := keep_last d HT.out.1 t ht0 (by omega)
      have HL' := hid hL'
      clear hL'
      rcases hlt' with ⟨k1, k2⟩ | ⟨k1, k2, k3⟩
      all_goals
        obtain ⟨t0', t1', t2', t3'⟩ := HT1.out.ads 3 3
        go_wp2_with fail
        clear t0' t1' t2' t3'
        refine (HH1.out.out t ⟨1, 3⟩ ⟨3, 3⟩).mono ?_
        rw [HL'.out]
        rintro e w11 ⟨rfl, hh, hu⟩
        rcases Int.lt_or_le t d.tmo with htt | htt
        · have hif : (if d.tmo ≤ t then (1025 : Int) else 1026) = 1026 := if_neg (by omega)
          rw [hif]
          have HH3 := hid (hh.alloc (.cells #[.int .u32 d.pub, .int .i64 1026] 26))
          have HC3 := hid ((HC1.out.call hu).alloc (.cells #[.int .u32 d.pub, .int .i64 1026] 26))
          have HZ3 := hid (Mine.fresh hh.lt #[.int .u32 d.pub, .int .i64 1026] 26)
          clear hh hu hif
          go_upto_region 23 with (fail)
          obtain ⟨w12, hw⟩ : ∃ w12, w11.alloc (.cells #[.int .u32 d.pub, .int .i64 1026] 26) = w12 := ⟨_, rfl⟩
          rw [hw] at HH3 HC3 HZ3 ⊢
          clear hw
          obtain ⟨c0, c1, c2, c3, c4⟩ := HC3.out.cfgs
          obtain ⟨_, _, z2', z3'⟩ := HZ3.out.ads d.pub 1026
          have HU := hid HH3.out.upd
          go_wp2_with fail
          go_ret
          exact ⟨rfl, HU.out.below (Nat.le_refl _) (fun k h => h)⟩
        · have hif : (if d.tmo ≤ t then (1025 : Int) else 1026) = 1025 := if_pos htt
          rw [hif]
          have HH3 := hid (hh.alloc (.cells #[.int .u32 d.pub, .int .i64 1025] 26))
          have HC3 := hid ((HC1.out.call hu).alloc (.cells #[.int .u32 d.pub, .int .i64 1025] 26))
          have HZ3 := hid (Mine.fresh hh.lt #[.int .u32 d.pub, .int .i64 1025] 26)
          clear hh hu hif
          go_upto_region 23 with (fail)
          obtain ⟨w12, hw⟩ : ∃ w12, w11.alloc (.cells #[.int .u32 d.pub, .int .i64 1025] 26) = w12 := ⟨_, rfl⟩
          rw [hw] at HH3 HC3 HZ3 ⊢
          clear hw
          obtain ⟨c0, c1, c2, c3, c4⟩ := HC3.out.cfgs
          obtain ⟨_, _, z2', z3'⟩ := HZ3.out.ads d.pub 1025
          have HU := hid HH3.out.upd
          go_wp2_with fail
          go_ret
          exact ⟨rfl, HU.out.below (Nat.le_refl _) (fun k h => h)⟩
end Go.Proofs.Ytbcchdnbfblooaa
