/- The walk of NatFull (no statement of the seat). -/
import Derived.Test.YtbcchdnbfblooaaLaws
namespace Go.Proofs.Ytbcchdnbfblooaa
open Go.RowKit

abbrev cfgCells (d : Cfg) : Array Value := #[.int .u32 d.pub, .int .i64 d.map, .int .i64 d.fil, .bool d.hair, .int .i64 d.tmo]
def FullR (w : World) (g : Nat) (d : Cfg) (tt : Ad) (n t k : Nat) (wr : World) : Prop :=
  ∃ m f F, FullI n t k m f ∧ Has w g d (U tt m f) F wr ∧ Mine F wr w.heap.size (cfgCells d) 24 ∧ Mine F wr (w.heap.size + 1) #[.int .u32 tt.h, .int .i64 tt.p] 26
def FullO (w : World) (g : Nat) (d : Cfg) (tt : Ad) (n : Nat) (v : Value) (wr : World) : Prop := ∃ t : Nat, t ≤ 3 ∧ v = .int .i64 t ∧ FullR w g d tt n t 0 wr
def FullN (w : World) (g : Nat) (d : Cfg) (tt : Ad) (n t : Nat) (v : Value) (wr : World) : Prop := ∃ k : Nat, k ≤ n ∧ v = .int .i64 k ∧ FullR w g d tt n t k wr

set_option maxRecDepth 100000 in
set_option maxHeartbeats 8000000 in
theorem full_walk (c : Cfg) (x : Int) (a : Ad) (w : World) : Calls Try.prog 6 #[c.v, .int .i64 x, a.v] w fun e w' => e = .returned (.bool true) ∧ Below w.heap.size w w' := by
  obtain ⟨a1, a2⟩ := a
  obtain ⟨w0, hw0⟩ : ∃ w0, (w.alloc (.cells #[.int .u32 c.pub, .int .i64 c.map, .int .i64 c.fil, .bool c.hair, .int .i64 c.tmo] 24)).alloc (.cells #[.int .u32 a1, .int .i64 a2] 26) = w0 := ⟨_, rfl⟩
  have HC := hid (show Mine (fun _ => False) w0 w.heap.size #[.int .u32 c.pub, .int .i64 c.map, .int .i64 c.fil, .bool c.hair, .int .i64 c.tmo] 24 by rw [← hw0]; exact (blk_new w _ _).alloc _)
  have Ha := hid (show Mine (fun _ => False) w0 (w.heap.size + 1) #[.int .u32 a1, .int .i64 a2] 26 by rw [← hw0]; exact blk_new' (by simp only [World.size_alloc]) _ _)
  have HU : Hid (Upd (fun k => w.heap.size ≤ k) w w0) := hid (by rw [← hw0]; exact ((Upd.refl _ w).alloc _).alloc _)
  go_enter Try.func6, Try.ntmps6
  go_wp2_with fail
  refine (shown_any _).mono ?_
  rintro e w1 ⟨rfl, hu⟩
  have HC := hid (HC.out.still hu)
  have Ha := hid (Ha.out.still hu)
  have HU : Hid (Upd (fun k => w.heap.size ≤ k) w w1) := hid (HU.out.then_ hu (fun _ _ h => h.elim))
  clear hu hw0
  obtain ⟨c0, c1, c2, c3, c4⟩ := HC.out.cfgs
  go_wp2_with fail
  clear c0 c1 c2 c3 c4
  refine (few_any c _).mono ?_
  rintro e w2 ⟨rfl, hu⟩
  have HC := hid (HC.out.still hu)
  have Ha := hid (Ha.out.still hu)
  have HU : Hid (Upd (fun k => w.heap.size ≤ k) w w2) := hid (HU.out.then_ hu (fun _ _ h => h.elim))
  clear hu
  obtain ⟨d, hd⟩ : ∃ d, few c = d := ⟨_, rfl⟩
  have HR : Hid (Right d) := hid (hd ▸ few_right c)
  have HT : Hid (10 ≤ d.tmo ∧ d.tmo ≤ 109) := hid (hd ▸ few_tmo c)
  have HPU : Hid (0 ≤ d.pub ∧ d.pub < 4294967296) := hid (hd ▸ few_pub c)
  rw [hd]
  clear hd
  obtain ⟨c0, c1, c2, c3, c4⟩ := HC.out.cfgs
  have g0 : ∀ i, w2.frozen? ⟨w.heap.size, i, none⟩ = false := fun i => blk_free HC.out.blk i
  go_upto_region 4 with fail
  clear c0 c1 c2 c3 c4 g0
  obtain ⟨n, hn, hn1⟩ : ∃ n : Nat, (bits .and .i64 x 65535).tmod 101 = (n : Int) ∧ n ≤ 100 := by
    have := low_in x 101 (by decide)
    unfold low at this
    exact ⟨((bits .and .i64 x 65535).tmod 101).toNat, by simp at this; omega, by simp at this; omega⟩
  rw [hn]
  clear hn
  obtain ⟨w3, hw3⟩ : ∃ w3, setCfg w2 w.heap.size d = w3 := ⟨_, rfl⟩
  have hu := upd_cfg w2 w.heap.size d
  have HC : Hid (Mine (fun _ => False) w3 w.heap.size #[.int .u32 d.pub, .int .i64 d.map, .int .i64 d.fil, .bool d.hair, .int .i64 d.tmo] 24) := hid ⟨hw3 ▸ blk_cfg HC.out.blk d, fun h => h⟩
  unfold setCfg at hw3 hu
  rw [hw3] at hu ⊢
  have Ha := hid (Ha.out.but hu (by omega))
  have HU : Hid (Upd (fun k => w.heap.size ≤ k) w w3) := hid (HU.out.then_ hu (fun _ _ h => by omega))
  clear hu hw3
  obtain ⟨c0, c1, c2, c3, c4⟩ := HC.out.cfgs
  go_wp2_with fail
  clear c0 c1 c2 c3 c4
  refine (has_new w d HR.out _ HU.out).mono ?_
  rintro e w4 ⟨g, F, rfl, hh, hF, hu⟩
  have HH := hid hh
  have HC := hid (Mine.ahead HC.out.blk hF hu)
  have Ha := hid (Mine.ahead Ha.out.blk hF hu)
  clear hh hF hu HU
  go_wp2_with fail
  go_loopw [10] (fun t wr => FullO w g d ⟨a1, a2⟩ n t wr) (fun t _ => 3 - (intOf t).toNat)
  case atStart => exact ⟨0, by omega, rfl, 0, _, _, FullI.start n, HH.out, HC.out, Ha.out⟩
  case round =>
    obtain ⟨t, ht, rfl, hR⟩ := hrel
    have HRR := hid hR
    clear hR
    by_cases h3 : t < 3
    · go_wp2_with fail
      go_loopw [11] (fun k wr' => FullN w g d ⟨a1, a2⟩ n t k wr') (fun k _ => n - (intOf k).toNat)
      case atStart => exact ⟨0, by omega, rfl, HRR.out⟩
      case round =>
        obtain ⟨k, hkn, rfl, m, f, F1, hI, hH, hC, hA⟩ := hrel
        have HI := hid hI
        have HH1 := hid hH
        have HC1 := hid hC
        have HA1 := hid hA
        clear hI hH hC hA
        by_cases hk : k < n
        · obtain ⟨m', f', ad, er, hs, hI', hlo, hhi⟩ := HI.out.step (tt := ⟨a1, a2⟩) h3 HT.out.1 hk
          have HS := hid hs
          have HI' := hid hI'
          have HLO := hid hlo
          have HHI := hid hhi
          clear hs hI' hlo hhi
          obtain ⟨a0', a1', a2', a3'⟩ := HA1.out.ads a1 a2
          go_wp2_with fail
          clear a0' a1' a2' a3'
          refine (HH1.out.out (9 * (t : Int)) ⟨5, (k : Int)⟩ ⟨a1, a2⟩).mono ?_
          rw [HS.out]
          rintro e w5 ⟨rfl, hh, hu⟩
          have HH2 := hid (hh.alloc (.cells #[.int .u32 ad.h, .int .i64 ad.p] 26))
          have HC2 := hid ((HC1.out.call hu).alloc (.cells #[.int .u32 ad.h, .int .i64 ad.p] 26))
          have HA2 := hid ((HA1.out.call hu).alloc (.cells #[.int .u32 ad.h, .int .i64 ad.p] 26))
          clear hh hu
          obtain ⟨c0, c1, c2, c3, c4⟩ := HC2.out.cfgs
          by_cases h64 : k < 64
          · obtain ⟨e1, e2⟩ := HLO.out h64
            subst e1 e2
            go_wp2_with fail
            refine ⟨⟨k + 1, by omega, by go_num, m', f', _, HI'.out, HH2.out, HC2.out, HA2.out⟩, by simp [intOf]; omega⟩
          · have e1 := HHI.out (by omega)
            subst e1
            go_wp2_with fail
            refine ⟨⟨k + 1, by omega, by go_num, m', f', _, HI'.out, HH2.out, HC2.out, HA2.out⟩, by simp [intOf]; omega⟩
        · have hkn' : k = n := by omega
          have HK := hid hkn'
          clear hkn'
          go_wp2_with fail
          refine ⟨⟨t + 1, by omega, by go_num, m, f, _, FullI.turn (by rw [← HK.out]; rw [← HK.out] at HI; exact HI.out), HH1.out, HC1.out, HA1.out⟩, by simp [intOf]; omega⟩
    · have ht3 : t = 3 := by omega
      subst ht3
      obtain ⟨m, f, F1, hI, hH, hC, hA⟩ := HRR.out
      have hm := hI.m2 (by omega)
      have HM := hid hm
      have HH1 := hid hH
      clear hI hH hC hA hm
      go_wp2_with fail
      refine (HH1.out.len).mono ?_
      rintro e w11 ⟨rfl, rfl⟩
      rw [U_len, HM.out]
      have HU := hid HH1.out.upd
      by_cases h64 : n < 64
      · have e1 : min n 64 = n := by omega
        have e2 : min (n : Int) 64 = n := by omega
        rw [e1]
        go_wp2_with fail
        go_ret
        exact ⟨rfl, HU.out.below (Nat.le_refl _) (fun k h => h)⟩
      · have e1 : min n 64 = 64 := by omega
        rw [e1]
        rcases Nat.lt_or_ge 64 n with h65 | h65
        · go_wp2_with fail
          go_ret
          exact ⟨rfl, HU.out.below (Nat.le_refl _) (fun k h => h)⟩
        · have e3 : n = 64 := by omega
          subst e3
          go_wp2_with fail
          go_ret
          exact ⟨rfl, HU.out.below (Nat.le_refl _) (fun k h => h)⟩
end Go.Proofs.Ytbcchdnbfblooaa
