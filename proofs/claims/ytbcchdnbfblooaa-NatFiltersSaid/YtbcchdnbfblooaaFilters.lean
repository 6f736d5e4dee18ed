/- The walk of NatFilters (no statement of the seat). -/
import Derived.Test.YtbcchdnbfblooaaMapsLaw
namespace Go.Proofs.Ytbcchdnbfblooaa
open Go.RowKit

theorem fil_live (c : Cfg) (ht : 10 ≤ c.tmo) (fr tt : Ad) : alive (cutT 1) c.tmo [⟨fr, 1024, cutT 0, [tt]⟩] = [⟨fr, 1024, cutT 0, [tt]⟩] :=
  alive_all (by have h0 : cutT 0 = 0 := rfl; have h1 : cutT 1 = 1 := rfl; simp [h0, h1]; omega)
theorem fil_yes (c : Cfg) (ht : 10 ≤ c.tmo) (fr tt o : Ad) (h : likeB c.fil tt o = true) : inL c 1 o ⟨c.pub, 1024⟩ [⟨fr, 1024, cutT 0, [tt]⟩] = ([⟨fr, 1024, cutT 0, [tt]⟩], fr, 0) := by
  unfold inL; dsimp only; rw [fil_live c ht]; simp [h]
theorem fil_no (c : Cfg) (ht : 10 ≤ c.tmo) (fr tt o : Ad) (h : likeB c.fil tt o = false) : inL c 1 o ⟨c.pub, 1024⟩ [⟨fr, 1024, cutT 0, [tt]⟩] = ([⟨fr, 1024, cutT 0, [tt]⟩], ⟨0, 0⟩, 9) := by
  unfold inL; dsimp only; rw [fil_live c ht]; simp [h]
theorem fil_port (c : Cfg) (ht : 10 ≤ c.tmo) (fr tt o : Ad) : inL c 1 o ⟨c.pub, 1025⟩ [⟨fr, 1024, cutT 0, [tt]⟩] = ([⟨fr, 1024, cutT 0, [tt]⟩], ⟨0, 0⟩, 7) := by
  unfold inL; dsimp only; rw [fil_live c ht]; simp
theorem fil_host (c : Cfg) (ht : 10 ≤ c.tmo) (fr tt o : Ad) (q : Int) (hq : q ≠ c.pub) : inL c 1 o ⟨q, 1024⟩ [⟨fr, 1024, cutT 0, [tt]⟩] = ([⟨fr, 1024, cutT 0, [tt]⟩], ⟨0, 0⟩, 7) := by
  unfold inL; dsimp only; rw [fil_live c ht]; simp [hq]
/-- The five ways of the tests. -/
theorem fil_ways (c : Cfg) (a d : Ad) :
    ((c.fil == 1) = true ∧ likeB c.fil a d = true) ∨ ((c.fil == 1) = false ∧ (a.h == d.h) = false ∧ likeB c.fil a d = false) ∨
    ((c.fil == 1) = false ∧ (a.h == d.h) = true ∧ (c.fil == 2) = true ∧ likeB c.fil a d = true) ∨
    ((c.fil == 1) = false ∧ (a.h == d.h) = true ∧ (c.fil == 2) = false ∧ (a.p == d.p) = true ∧ likeB c.fil a d = true) ∨
    ((c.fil == 1) = false ∧ (a.h == d.h) = true ∧ (c.fil == 2) = false ∧ (a.p == d.p) = false ∧ likeB c.fil a d = false) := by
  obtain ⟨a1, a2⟩ := a
  obtain ⟨d1, d2⟩ := d
  by_cases h : c.fil = 1
  · simp [h, likeB]
  · by_cases h2 : c.fil = 2
    · by_cases h3 : a1 = d1 <;> simp [h2, h3, likeB]
    · by_cases h3 : a1 = d1 <;> by_cases h4 : a2 = d2 <;> simp [h, h2, h3, h4, likeB]

set_option maxRecDepth 100000 in
set_option maxHeartbeats 8000000 in
theorem filters_walk (c : Cfg) (fr a b : Ad) (w : World) : Calls Try.prog 5 #[c.v, fr.v, a.v, b.v] w fun e w' => e = .returned (.bool true) ∧ Below w.heap.size w w' := by
  obtain ⟨fr1, fr2⟩ := fr
  obtain ⟨a1, a2⟩ := a
  obtain ⟨b1, b2⟩ := b
  obtain ⟨w0, hw0⟩ : ∃ w0, (((w.alloc (.cells #[.int .u32 c.pub, .int .i64 c.map, .int .i64 c.fil, .bool c.hair, .int .i64 c.tmo] 24)).alloc (.cells #[.int .u32 fr1, .int .i64 fr2] 26)).alloc (.cells #[.int .u32 a1, .int .i64 a2] 26)).alloc (.cells #[.int .u32 b1, .int .i64 b2] 26) = w0 := ⟨_, rfl⟩
  have HC := hid (show Mine (fun _ => False) w0 w.heap.size #[.int .u32 c.pub, .int .i64 c.map, .int .i64 c.fil, .bool c.hair, .int .i64 c.tmo] 24 by rw [← hw0]; exact (((blk_new w _ _).alloc _).alloc _).alloc _)
  have Hfr := hid (show Mine (fun _ => False) w0 (w.heap.size + 1) #[.int .u32 fr1, .int .i64 fr2] 26 by rw [← hw0]; exact ((blk_new' (by simp only [World.size_alloc]) _ _).alloc _).alloc _)
  have Ha := hid (show Mine (fun _ => False) w0 (w.heap.size + 1 + 1) #[.int .u32 a1, .int .i64 a2] 26 by rw [← hw0]; exact (blk_new' (by simp only [World.size_alloc]) _ _).alloc _)
  have Hb := hid (show Mine (fun _ => False) w0 (w.heap.size + 1 + 1 + 1) #[.int .u32 b1, .int .i64 b2] 26 by rw [← hw0]; exact blk_new' (by simp only [World.size_alloc]) _ _)
  have HU : Hid (Upd (fun k => w.heap.size ≤ k) w w0) := hid (by rw [← hw0]; exact ((((Upd.refl _ w).alloc _).alloc _).alloc _).alloc _)
  go_enter Try.func5, Try.ntmps5
  go_wp2_with fail
  refine (shown_any _).mono ?_
  rintro e w1 ⟨rfl, hu⟩
  have HC := hid (HC.out.still hu)
  have Hfr := hid (Hfr.out.still hu)
  have Ha := hid (Ha.out.still hu)
  have Hb := hid (Hb.out.still hu)
  have HU : Hid (Upd (fun k => w.heap.size ≤ k) w w1) := hid (HU.out.then_ hu (fun _ _ h => h.elim))
  clear hu hw0
  obtain ⟨c0, c1, c2, c3, c4⟩ := HC.out.cfgs
  go_wp2_with fail
  clear c0 c1 c2 c3 c4
  refine (few_any c _).mono ?_
  rintro e w2 ⟨rfl, hu⟩
  have HC := hid (HC.out.still hu)
  have Hfr := hid (Hfr.out.still hu)
  have Ha := hid (Ha.out.still hu)
  have Hb := hid (Hb.out.still hu)
  have HU : Hid (Upd (fun k => w.heap.size ≤ k) w w2) := hid (HU.out.then_ hu (fun _ _ h => h.elim))
  clear hu
  obtain ⟨d, hd⟩ : ∃ d, few c = d := ⟨_, rfl⟩
  have HR : Hid (Right d) := hid (hd ▸ few_right c)
  have HT : Hid (10 ≤ d.tmo ∧ d.tmo ≤ 109) := hid (hd ▸ few_tmo c)
  have HPU : Hid (0 ≤ d.pub ∧ d.pub < 4294967296) := hid (hd ▸ few_pub c)
  rw [hd]
  clear hd
  obtain ⟨c0, c1, c2, c3, c4⟩ := HC.out.cfgs
  have g0 : ∀ i, w2.frozen? ⟨w.heap.size, i, none⟩ = false := fun i => blk_free HC.out.blk i
  go_upto_region 3 with fail
  clear c0 c1 c2 c3 c4 g0
  obtain ⟨w3, hw3⟩ : ∃ w3, setCfg w2 w.heap.size d = w3 := ⟨_, rfl⟩
  have hu := upd_cfg w2 w.heap.size d
  have HC : Hid (Mine (fun _ => False) w3 w.heap.size #[.int .u32 d.pub, .int .i64 d.map, .int .i64 d.fil, .bool d.hair, .int .i64 d.tmo] 24) := hid ⟨hw3 ▸ blk_cfg HC.out.blk d, fun h => h⟩
  unfold setCfg at hw3 hu
  rw [hw3] at hu ⊢
  have Hfr := hid (Hfr.out.but hu (by omega))
  have Ha := hid (Ha.out.but hu (by omega))
  have Hb := hid (Hb.out.but hu (by omega))
  have HU : Hid (Upd (fun k => w.heap.size ≤ k) w w3) := hid (HU.out.then_ hu (fun _ _ h => by omega))
  clear hu hw3
  obtain ⟨c0, c1, c2, c3, c4⟩ := HC.out.cfgs
  go_wp2_with fail
  clear c0 c1 c2 c3 c4
  refine (has_new w d HR.out _ HU.out).mono ?_
  rintro e w4 ⟨g, F, rfl, hh, hF, hu⟩
  have HH := hid hh
  have HC := hid (Mine.ahead HC.out.blk hF hu)
  have Hfr := hid (Mine.ahead Hfr.out.blk hF hu)
  have Ha := hid (Mine.ahead Ha.out.blk hF hu)
  have Hb := hid (Mine.ahead Hb.out.blk hF hu)
  clear hh hF hu HU
  obtain ⟨f0, _, f2, f3⟩ := Hfr.out.ads fr1 fr2
  obtain ⟨_, _, a2', a3'⟩ := Ha.out.ads a1 a2
  go_wp2_with fail
  clear f0 f2 f3 a2' a3'
  refine (HH.out.out 0 ⟨fr1, fr2⟩ ⟨a1, a2⟩).mono ?_
  rw [out_first]
  rintro e w5 ⟨rfl, hh, hu⟩
  obtain ⟨F5, hF⟩ : ∃ F5, grow F w4 w5 = F5 := ⟨_, rfl⟩
  have HH := hid hh
  have HC := hid (HC.out.call hu)
  have Hfr := hid (Hfr.out.call hu)
  have Ha := hid (Ha.out.call hu)
  have Hb := hid (Hb.out.call hu)
  rw [hF] at HH HC Hfr Ha Hb
  clear hh hu hF
  obtain ⟨b0', b1', b2', b3'⟩ := Hb.out.ads b1 b2
  go_wp2_with fail
  clear b0' b1' b2' b3'
  obtain ⟨w6, hw⟩ : ∃ w6, w5.alloc (.cells #[.int .u32 d.pub, .int .i64 1024] 26) = w6 := ⟨_, rfl⟩
  have Hx : Hid (Mine F5 w6 w5.heap.size #[.int .u32 d.pub, .int .i64 1024] 26) := hid (hw ▸ Mine.fresh HH.out.lt _ _)
  have HH := hid (HH.out.alloc (.cells #[.int .u32 d.pub, .int .i64 1024] 26))
  have HC := hid (HC.out.alloc (.cells #[.int .u32 d.pub, .int .i64 1024] 26))
  have Hfr := hid (Hfr.out.alloc (.cells #[.int .u32 d.pub, .int .i64 1024] 26))
  have Ha := hid (Ha.out.alloc (.cells #[.int .u32 d.pub, .int .i64 1024] 26))
  have Hb := hid (Hb.out.alloc (.cells #[.int .u32 d.pub, .int .i64 1024] 26))
  rw [hw] at HH HC Hfr Ha Hb ⊢
  clear hw
  have hne : (d.pub + 1) % 4294967296 ≠ d.pub := by have := HPU.out; omega
  have HNE := hid hne
  clear hne
  rcases fil_ways d ⟨a1, a2⟩ ⟨b1, b2⟩ with ⟨k1, kr⟩ | ⟨k1, k2, kr⟩ | ⟨k1, k2, k3, kr⟩ | ⟨k1, k2, k3, k4, kr⟩ | ⟨k1, k2, k3, k4, kr⟩
  · have H2 := hid (fil_yes d HT.out.1 ⟨fr1, fr2⟩ ⟨a1, a2⟩ ⟨b1, b2⟩ kr)
    clear kr
    try dsimp only at k1
    refine (HH.out.in_ 1 ⟨b1, b2⟩ ⟨d.pub, 1024⟩).mono ?_
    rw [H2.out]
    rintro e w7 ⟨rfl, hh, hu⟩
    obtain ⟨F7, hF⟩ : ∃ F7, grow F5 w6 w7 = F7 := ⟨_, rfl⟩
    have HH := hid hh
    have HC := hid (HC.out.call hu)
    have Hfr := hid (Hfr.out.call hu)
    have Ha := hid (Ha.out.call hu)
    have Hb := hid (Hb.out.call hu)
    have Hx := hid (Hx.out.call hu)
    rw [hF] at HH HC Hfr Ha Hb Hx
    clear hh hu hF
    obtain ⟨x0', x1', x2', x3'⟩ := Hx.out.ads d.pub 1024
    obtain ⟨a0', a1', a2', a3'⟩ := Ha.out.ads a1 a2
    go_wp2_with fail
    clear x0' x1' x2' x3' a0' a1' a2' a3'
    obtain ⟨w8, hw⟩ : ∃ w8, w7.alloc (.cells #[.int .u32 fr1, .int .i64 fr2] 26) = w8 := ⟨_, rfl⟩
    have Hy : Hid (Mine F7 w8 w7.heap.size #[.int .u32 fr1, .int .i64 fr2] 26) := hid (hw ▸ Mine.fresh HH.out.lt _ _)
    have HH := hid (HH.out.alloc (.cells #[.int .u32 fr1, .int .i64 fr2] 26))
    have HC := hid (HC.out.alloc (.cells #[.int .u32 fr1, .int .i64 fr2] 26))
    have Hfr := hid (Hfr.out.alloc (.cells #[.int .u32 fr1, .int .i64 fr2] 26))
    have Ha := hid (Ha.out.alloc (.cells #[.int .u32 fr1, .int .i64 fr2] 26))
    have Hb := hid (Hb.out.alloc (.cells #[.int .u32 fr1, .int .i64 fr2] 26))
    have Hx := hid (Hx.out.alloc (.cells #[.int .u32 fr1, .int .i64 fr2] 26))
    rw [hw] at HH HC Hfr Ha Hb Hx ⊢
    clear hw
    refine (HH.out.in_ 1 ⟨a1, a2⟩ ⟨d.pub, 1025⟩).mono ?_
    rw [fil_port d HT.out.1]
    rintro e w9 ⟨rfl, hh, hu⟩
    obtain ⟨F9, hF⟩ : ∃ F9, grow F7 w8 w9 = F9 := ⟨_, rfl⟩
    have HH := hid hh
    have HC := hid (HC.out.call hu)
    have Hfr := hid (Hfr.out.call hu)
    have Ha := hid (Ha.out.call hu)
    have Hb := hid (Hb.out.call hu)
    have Hx := hid (Hx.out.call hu)
    have Hy := hid (Hy.out.call hu)
    rw [hF] at HH HC Hfr Ha Hb Hx Hy
    clear hh hu hF
    obtain ⟨x0', x1', x2', x3'⟩ := Hx.out.ads d.pub 1024
    obtain ⟨a0', a1', a2', a3'⟩ := Ha.out.ads a1 a2
    go_wp2_with fail
    clear x0' x1' x2' x3' a0' a1' a2' a3'
    obtain ⟨w10, hw⟩ : ∃ w10, w9.alloc (.cells #[.int .u32 0, .int .i64 0] 26) = w10 := ⟨_, rfl⟩
    have Hz : Hid (Mine F9 w10 w9.heap.size #[.int .u32 0, .int .i64 0] 26) := hid (hw ▸ Mine.fresh HH.out.lt _ _)
    have HH := hid (HH.out.alloc (.cells #[.int .u32 0, .int .i64 0] 26))
    have HC := hid (HC.out.alloc (.cells #[.int .u32 0, .int .i64 0] 26))
    have Hfr := hid (Hfr.out.alloc (.cells #[.int .u32 0, .int .i64 0] 26))
    have Ha := hid (Ha.out.alloc (.cells #[.int .u32 0, .int .i64 0] 26))
    have Hb := hid (Hb.out.alloc (.cells #[.int .u32 0, .int .i64 0] 26))
    have Hx := hid (Hx.out.alloc (.cells #[.int .u32 0, .int .i64 0] 26))
    have Hy := hid (Hy.out.alloc (.cells #[.int .u32 0, .int .i64 0] 26))
    rw [hw] at HH HC Hfr Ha Hb Hx Hy ⊢
    clear hw
    refine (HH.out.in_ 1 ⟨a1, a2⟩ ⟨(d.pub + 1) % 4294967296, 1024⟩).mono ?_
    rw [fil_host d HT.out.1 _ _ _ _ HNE.out]
    rintro e w11 ⟨rfl, hh, hu⟩
    obtain ⟨F11, hF⟩ : ∃ F11, grow F9 w10 w11 = F11 := ⟨_, rfl⟩
    have HH := hid hh
    have HC := hid (HC.out.call hu)
    have Hfr := hid (Hfr.out.call hu)
    have Ha := hid (Ha.out.call hu)
    have Hb := hid (Hb.out.call hu)
    have Hy := hid (Hy.out.call hu)
    rw [hF] at HH HC Hfr Ha Hb Hy
    clear hh hu hF
    go_upto_region 10 with (fail)
    obtain ⟨w12, hw⟩ : ∃ w12, w11.alloc (.cells #[.int .u32 0, .int .i64 0] 26) = w12 := ⟨_, rfl⟩
    have Hq : Hid (Mine F11 w12 w11.heap.size #[.int .u32 0, .int .i64 0] 26) := hid (hw ▸ Mine.fresh HH.out.lt _ _)
    have HH := hid (HH.out.alloc (.cells #[.int .u32 0, .int .i64 0] 26))
    have HC := hid (HC.out.alloc (.cells #[.int .u32 0, .int .i64 0] 26))
    have Hfr := hid (Hfr.out.alloc (.cells #[.int .u32 0, .int .i64 0] 26))
    have Ha := hid (Ha.out.alloc (.cells #[.int .u32 0, .int .i64 0] 26))
    have Hb := hid (Hb.out.alloc (.cells #[.int .u32 0, .int .i64 0] 26))
    have Hy := hid (Hy.out.alloc (.cells #[.int .u32 0, .int .i64 0] 26))
    rw [hw] at HH HC Hfr Ha Hb Hy ⊢
    clear hw
    obtain ⟨_, _, a2', a3'⟩ := Ha.out.ads a1 a2
    obtain ⟨_, _, b2', b3'⟩ := Hb.out.ads b1 b2
    obtain ⟨_, _, f2', f3'⟩ := Hfr.out.ads fr1 fr2
    obtain ⟨_, _, y2', y3'⟩ := Hy.out.ads fr1 fr2
    obtain ⟨c0, c1, c2, c3, c4⟩ := HC.out.cfgs
    have HU := hid HH.out.upd
    go_wp2_with fail
    go_ret
    exact ⟨rfl, HU.out.below (Nat.le_refl _) (fun k h => h)⟩
  · have H2 := hid (fil_no d HT.out.1 ⟨fr1, fr2⟩ ⟨a1, a2⟩ ⟨b1, b2⟩ kr)
    clear kr
    try dsimp only at k1 k2
    refine (HH.out.in_ 1 ⟨b1, b2⟩ ⟨d.pub, 1024⟩).mono ?_
    rw [H2.out]
    rintro e w7 ⟨rfl, hh, hu⟩
    obtain ⟨F7, hF⟩ : ∃ F7, grow F5 w6 w7 = F7 := ⟨_, rfl⟩
    have HH := hid hh
    have HC := hid (HC.out.call hu)
    have Hfr := hid (Hfr.out.call hu)
    have Ha := hid (Ha.out.call hu)
    have Hb := hid (Hb.out.call hu)
    have Hx := hid (Hx.out.call hu)
    rw [hF] at HH HC Hfr Ha Hb Hx
    clear hh hu hF
    obtain ⟨x0', x1', x2', x3'⟩ := Hx.out.ads d.pub 1024
    obtain ⟨a0', a1', a2', a3'⟩ := Ha.out.ads a1 a2
    go_wp2_with fail
    clear x0' x1' x2' x3' a0' a1' a2' a3'
    obtain ⟨w8, hw⟩ : ∃ w8, w7.alloc (.cells #[.int .u32 0, .int .i64 0] 26) = w8 := ⟨_, rfl⟩
    have Hy : Hid (Mine F7 w8 w7.heap.size #[.int .u32 0, .int .i64 0] 26) := hid (hw ▸ Mine.fresh HH.out.lt _ _)
    have HH := hid (HH.out.alloc (.cells #[.int .u32 0, .int .i64 0] 26))
    have HC := hid (HC.out.alloc (.cells #[.int .u32 0, .int .i64 0] 26))
    have Hfr := hid (Hfr.out.alloc (.cells #[.int .u32 0, .int .i64 0] 26))
    have Ha := hid (Ha.out.alloc (.cells #[.int .u32 0, .int .i64 0] 26))
    have Hb := hid (Hb.out.alloc (.cells #[.int .u32 0, .int .i64 0] 26))
    have Hx := hid (Hx.out.alloc (.cells #[.int .u32 0, .int .i64 0] 26))
    rw [hw] at HH HC Hfr Ha Hb Hx ⊢
    clear hw
    refine (HH.out.in_ 1 ⟨a1, a2⟩ ⟨d.pub, 1025⟩).mono ?_
    rw [fil_port d HT.out.1]
    rintro e w9 ⟨rfl, hh, hu⟩
    obtain ⟨F9, hF⟩ : ∃ F9, grow F7 w8 w9 = F9 := ⟨_, rfl⟩
    have HH := hid hh
    have HC := hid (HC.out.call hu)
    have Hfr := hid (Hfr.out.call hu)
    have Ha := hid (Ha.out.call hu)
    have Hb := hid (Hb.out.call hu)
    have Hx := hid (Hx.out.call hu)
    have Hy := hid (Hy.out.call hu)
    rw [hF] at HH HC Hfr Ha Hb Hx Hy
    clear hh hu hF
    obtain ⟨x0', x1', x2', x3'⟩ := Hx.out.ads d.pub 1024
    obtain ⟨a0', a1', a2', a3'⟩ := Ha.out.ads a1 a2
    go_wp2_with fail
    clear x0' x1' x2' x3' a0' a1' a2' a3'
    obtain ⟨w10, hw⟩ : ∃ w10, w9.alloc (.cells #[.int .u32 0, .int .i64 0] 26) = w10 := ⟨_, rfl⟩
    have Hz : Hid (Mine F9 w10 w9.heap.size #[.int .u32 0, .int .i64 0] 26) := hid (hw ▸ Mine.fresh HH.out.lt _ _)
    have HH := hid (HH.out.alloc (.cells #[.int .u32 0, .int .i64 0] 26))
    have HC := hid (HC.out.alloc (.cells #[.int .u32 0, .int .i64 0] 26))
    have Hfr := hid (Hfr.out.alloc (.cells #[.int .u32 0, .int .i64 0] 26))
    have Ha := hid (Ha.out.alloc (.cells #[.int .u32 0, .int .i64 0] 26))
    have Hb := hid (Hb.out.alloc (.cells #[.int .u32 0, .int .i64 0] 26))
    have Hx := hid (Hx.out.alloc (.cells #[.int .u32 0, .int .i64 0] 26))
    have Hy := hid (Hy.out.alloc (.cells #[.int .u32 0, .int .i64 0] 26))
    rw [hw] at HH HC Hfr Ha Hb Hx Hy ⊢
    clear hw
    refine (HH.out.in_ 1 ⟨a1, a2⟩ ⟨(d.pub + 1) % 4294967296, 1024⟩).mono ?_
    rw [fil_host d HT.out.1 _ _ _ _ HNE.out]
    rintro e w11 ⟨rfl, hh, hu⟩
    obtain ⟨F11, hF⟩ : ∃ F11, grow F9 w10 w11 = F11 := ⟨_, rfl⟩
    have HH := hid hh
    have HC := hid (HC.out.call hu)
    have Hfr := hid (Hfr.out.call hu)
    have Ha := hid (Ha.out.call hu)
    have Hb := hid (Hb.out.call hu)
    have Hy := hid (Hy.out.call hu)
    rw [hF] at HH HC Hfr Ha Hb Hy
    clear hh hu hF
    go_upto_region 10 with (fail)
    obtain ⟨w12, hw⟩ : ∃ w12, w11.alloc (.cells #[.int .u32 0, .int .i64 0] 26) = w12 := ⟨_, rfl⟩
    have Hq : Hid (Mine F11 w12 w11.heap.size #[.int .u32 0, .int .i64 0] 26) := hid (hw ▸ Mine.fresh HH.out.lt _ _)
    have HH := hid (HH.out.alloc (.cells #[.int .u32 0, .int .i64 0] 26))
    have HC := hid (HC.out.alloc (.cells #[.int .u32 0, .int .i64 0] 26))
    have Hfr := hid (Hfr.out.alloc (.cells #[.int .u32 0, .int .i64 0] 26))
    have Ha := hid (Ha.out.alloc (.cells #[.int .u32 0, .int .i64 0] 26))
    have Hb := hid (Hb.out.alloc (.cells #[.int .u32 0, .int .i64 0] 26))
    have Hy := hid (Hy.out.alloc (.cells #[.int .u32 0, .int .i64 0] 26))
    rw [hw] at HH HC Hfr Ha Hb Hy ⊢
    clear hw
    obtain ⟨_, _, a2', a3'⟩ := Ha.out.ads a1 a2
    obtain ⟨_, _, b2', b3'⟩ := Hb.out.ads b1 b2
    obtain ⟨_, _, f2', f3'⟩ := Hfr.out.ads fr1 fr2
    obtain ⟨_, _, y2', y3'⟩ := Hy.out.ads 0 0
    obtain ⟨c0, c1, c2, c3, c4⟩ := HC.out.cfgs
    have HU := hid HH.out.upd
    go_wp2_with fail
    go_ret
    exact ⟨rfl, HU.out.below (Nat.le_refl _) (fun k h => h)⟩
  · have H2 := hid (fil_yes d HT.out.1 ⟨fr1, fr2⟩ ⟨a1, a2⟩ ⟨b1, b2⟩ kr)
    clear kr
    try dsimp only at k1 k2 k3
    refine (HH.out.in_ 1 ⟨b1, b2⟩ ⟨d.pub, 1024⟩).mono ?_
    rw [H2.out]
    rintro e w7 ⟨rfl, hh, hu⟩
    obtain ⟨F7, hF⟩ : ∃ F7, grow F5 w6 w7 = F7 := ⟨_, rfl⟩
    have HH := hid hh
    have HC := hid (HC.out.call hu)
    have Hfr := hid (Hfr.out.call hu)
    have Ha := hid (Ha.out.call hu)
    have Hb := hid (Hb.out.call hu)
    have Hx := hid (Hx.out.call hu)
    rw [hF] at HH HC Hfr Ha Hb Hx
    clear hh hu hF
    obtain ⟨x0', x1', x2', x3'⟩ := Hx.out.ads d.pub 1024
    obtain ⟨a0', a1', a2', a3'⟩ := Ha.out.ads a1 a2
    go_wp2_with fail
    clear x0' x1' x2' x3' a0' a1' a2' a3'
    obtain ⟨w8, hw⟩ : ∃ w8, w7.alloc (.cells #[.int .u32 fr1, .int .i64 fr2] 26) = w8 := ⟨_, rfl⟩
    have Hy : Hid (Mine F7 w8 w7.heap.size #[.int .u32 fr1, .int .i64 fr2] 26) := hid (hw ▸ Mine.fresh HH.out.lt _ _)
    have HH := hid (HH.out.alloc (.cells #[.int .u32 fr1, .int .i64 fr2] 26))
    have HC := hid (HC.out.alloc (.cells #[.int .u32 fr1, .int .i64 fr2] 26))
    have Hfr := hid (Hfr.out.alloc (.cells #[.int .u32 fr1, .int .i64 fr2] 26))
    have Ha := hid (Ha.out.alloc (.cells #[.int .u32 fr1, .int .i64 fr2] 26))
    have Hb := hid (Hb.out.alloc (.cells #[.int .u32 fr1, .int .i64 fr2] 26))
    have Hx := hid (Hx.out.alloc (.cells #[.int .u32 fr1, .int .i64 fr2] 26))
    rw [hw] at HH HC Hfr Ha Hb Hx ⊢
    clear hw
    refine (HH.out.in_ 1 ⟨a1, a2⟩ ⟨d.pub, 1025⟩).mono ?_
    rw [fil_port d HT.out.1]
    rintro e w9 ⟨rfl, hh, hu⟩
    obtain ⟨F9, hF⟩ : ∃ F9, grow F7 w8 w9 = F9 := ⟨_, rfl⟩
    have HH := hid hh
    have HC := hid (HC.out.call hu)
    have Hfr := hid (Hfr.out.call hu)
    have Ha := hid (Ha.out.call hu)
    have Hb := hid (Hb.out.call hu)
    have Hx := hid (Hx.out.call hu)
    have Hy := hid (Hy.out.call hu)
    rw [hF] at HH HC Hfr Ha Hb Hx Hy
    clear hh hu hF
    obtain ⟨x0', x1', x2', x3'⟩ := Hx.out.ads d.pub 1024
    obtain ⟨a0', a1', a2', a3'⟩ := Ha.out.ads a1 a2
    go_wp2_with fail
    clear x0' x1' x2' x3' a0' a1' a2' a3'
    obtain ⟨w10, hw⟩ : ∃ w10, w9.alloc (.cells #[.int .u32 0, .int .i64 0] 26) = w10 := ⟨_, rfl⟩
    have Hz : Hid (Mine F9 w10 w9.heap.size #[.int .u32 0, .int .i64 0] 26) := hid (hw ▸ Mine.fresh HH.out.lt _ _)
    have HH := hid (HH.out.alloc (.cells #[.int .u32 0, .int .i64 0] 26))
    have HC := hid (HC.out.alloc (.cells #[.int .u32 0, .int .i64 0] 26))
    have Hfr := hid (Hfr.out.alloc (.cells #[.int .u32 0, .int .i64 0] 26))
    have Ha := hid (Ha.out.alloc (.cells #[.int .u32 0, .int .i64 0] 26))
    have Hb := hid (Hb.out.alloc (.cells #[.int .u32 0, .int .i64 0] 26))
    have Hx := hid (Hx.out.alloc (.cells #[.int .u32 0, .int .i64 0] 26))
    have Hy := hid (Hy.out.alloc (.cells #[.int .u32 0, .int .i64 0] 26))
    rw [hw] at HH HC Hfr Ha Hb Hx Hy ⊢
    clear hw
    refine (HH.out.in_ 1 ⟨a1, a2⟩ ⟨(d.pub + 1) % 4294967296, 1024⟩).mono ?_
    rw [fil_host d HT.out.1 _ _ _ _ HNE.out]
    rintro e w11 ⟨rfl, hh, hu⟩
    obtain ⟨F11, hF⟩ : ∃ F11, grow F9 w10 w11 = F11 := ⟨_, rfl⟩
    have HH := hid hh
    have HC := hid (HC.out.call hu)
    have Hfr := hid (Hfr.out.call hu)
    have Ha := hid (Ha.out.call hu)
    have Hb := hid (Hb.out.call hu)
    have Hy := hid (Hy.out.call hu)
    rw [hF] at HH HC Hfr Ha Hb Hy
    clear hh hu hF
    go_upto_region 10 with (fail)
    obtain ⟨w12, hw⟩ : ∃ w12, w11.alloc (.cells #[.int .u32 0, .int .i64 0] 26) = w12 := ⟨_, rfl⟩
    have Hq : Hid (Mine F11 w12 w11.heap.size #[.int .u32 0, .int .i64 0] 26) := hid (hw ▸ Mine.fresh HH.out.lt _ _)
    have HH := hid (HH.out.alloc (.cells #[.int .u32 0, .int .i64 0] 26))
    have HC := hid (HC.out.alloc (.cells #[.int .u32 0, .int .i64 0] 26))
    have Hfr := hid (Hfr.out.alloc (.cells #[.int .u32 0, .int .i64 0] 26))
    have Ha := hid (Ha.out.alloc (.cells #[.int .u32 0, .int .i64 0] 26))
    have Hb := hid (Hb.out.alloc (.cells #[.int .u32 0, .int .i64 0] 26))
    have Hy := hid (Hy.out.alloc (.cells #[.int .u32 0, .int .i64 0] 26))
    rw [hw] at HH HC Hfr Ha Hb Hy ⊢
    clear hw
    obtain ⟨_, _, a2', a3'⟩ := Ha.out.ads a1 a2
    obtain ⟨_, _, b2', b3'⟩ := Hb.out.ads b1 b2
    obtain ⟨_, _, f2', f3'⟩ := Hfr.out.ads fr1 fr2
    obtain ⟨_, _, y2', y3'⟩ := Hy.out.ads fr1 fr2
    obtain ⟨c0, c1, c2, c3, c4⟩ := HC.out.cfgs
    have HU := hid HH.out.upd
    go_wp2_with fail
    go_ret
    exact ⟨rfl, HU.out.below (Nat.le_refl _) (fun k h => h)⟩
  · have H2 := hid (fil_yes d HT.out.1 ⟨fr1, fr2⟩ ⟨a1, a2⟩ ⟨b1, b2⟩ kr)
    clear kr
    try dsimp only at k1 k2 k3 k4
    refine (HH.out.in_ 1 ⟨b1, b2⟩ ⟨d.pub, 1024⟩).mono ?_
    rw [H2.out]
    rintro e w7 ⟨rfl, hh, hu⟩
    obtain ⟨F7, hF⟩ : ∃ F7, grow F5 w6 w7 = F7 := ⟨_, rfl⟩
    have HH := hid hh
    have HC := hid (HC.out.call hu)
    have Hfr := hid (Hfr.out.call hu)
    have Ha := hid (Ha.out.call hu)
    have Hb := hid (Hb.out.call hu)
    have Hx := hid (Hx.out.call hu)
    rw [hF] at HH HC Hfr Ha Hb Hx
    clear hh hu hF
    obtain ⟨x0', x1', x2', x3'⟩ := Hx.out.ads d.pub 1024
    obtain ⟨a0', a1', a2', a3'⟩ := Ha.out.ads a1 a2
    go_wp2_with fail
    clear x0' x1' x2' x3' a0' a1' a2' a3'
    obtain ⟨w8, hw⟩ : ∃ w8, w7.alloc (.cells #[.int .u32 fr1, .int .i64 fr2] 26) = w8 := ⟨_, rfl⟩
    have Hy : Hid (Mine F7 w8 w7.heap.size #[.int .u32 fr1, .int .i64 fr2] 26) := hid (hw ▸ Mine.fresh HH.out.lt _ _)
    have HH := hid (HH.out.alloc (.cells #[.int .u32 fr1, .int .i64 fr2] 26))
    have HC := hid (HC.out.alloc (.cells #[.int .u32 fr1, .int .i64 fr2] 26))
    have Hfr := hid (Hfr.out.alloc (.cells #[.int .u32 fr1, .int .i64 fr2] 26))
    have Ha := hid (Ha.out.alloc (.cells #[.int .u32 fr1, .int .i64 fr2] 26))
    have Hb := hid (Hb.out.alloc (.cells #[.int .u32 fr1, .int .i64 fr2] 26))
    have Hx := hid (Hx.out.alloc (.cells #[.int .u32 fr1, .int .i64 fr2] 26))
    rw [hw] at HH HC Hfr Ha Hb Hx ⊢
    clear hw
    refine (HH.out.in_ 1 ⟨a1, a2⟩ ⟨d.pub, 1025⟩).mono ?_
    rw [fil_port d HT.out.1]
    rintro e w9 ⟨rfl, hh, hu⟩
    obtain ⟨F9, hF⟩ : ∃ F9, grow F7 w8 w9 = F9 := ⟨_, rfl⟩
    have HH := hid hh
    have HC := hid (HC.out.call hu)
    have Hfr := hid (Hfr.out.call hu)
    have Ha := hid (Ha.out.call hu)
    have Hb := hid (Hb.out.call hu)
    have Hx := hid (Hx.out.call hu)
    have Hy := hid (Hy.out.call hu)
    rw [hF] at HH HC Hfr Ha Hb Hx Hy
    clear hh hu hF
    obtain ⟨x0', x1', x2', x3'⟩ := Hx.out.ads d.pub 1024
    obtain ⟨a0', a1', a2', a3'⟩ := Ha.out.ads a1 a2
    go_wp2_with fail
    clear x0' x1' x2' x3' a0' a1' a2' a3'
    obtain ⟨w10, hw⟩ : ∃ w10, w9.alloc (.cells #[.int .u32 0, .int .i64 0] 26) = w10 := ⟨_, rfl⟩
    have Hz : Hid (Mine F9 w10 w9.heap.size #[.int .u32 0, .int .i64 0] 26) := hid (hw ▸ Mine.fresh HH.out.lt _ _)
    have HH := hid (HH.out.alloc (.cells #[.int .u32 0, .int .i64 0] 26))
    have HC := hid (HC.out.alloc (.cells #[.int .u32 0, .int .i64 0] 26))
    have Hfr := hid (Hfr.out.alloc (.cells #[.int .u32 0, .int .i64 0] 26))
    have Ha := hid (Ha.out.alloc (.cells #[.int .u32 0, .int .i64 0] 26))
    have Hb := hid (Hb.out.alloc (.cells #[.int .u32 0, .int .i64 0] 26))
    have Hx := hid (Hx.out.alloc (.cells #[.int .u32 0, .int .i64 0] 26))
    have Hy := hid (Hy.out.alloc (.cells #[.int .u32 0, .int .i64 0] 26))
    rw [hw] at HH HC Hfr Ha Hb Hx Hy ⊢
    clear hw
    refine (HH.out.in_ 1 ⟨a1, a2⟩ ⟨(d.pub + 1) % 4294967296, 1024⟩).mono ?_
    rw [fil_host d HT.out.1 _ _ _ _ HNE.out]
    rintro e w11 ⟨rfl, hh, hu⟩
    obtain ⟨F11, hF⟩ : ∃ F11, grow F9 w10 w11 = F11 := ⟨_, rfl⟩
    have HH := hid hh
    have HC := hid (HC.out.call hu)
    have Hfr := hid (Hfr.out.call hu)
    have Ha := hid (Ha.out.call hu)
    have Hb := hid (Hb.out.call hu)
    have Hy := hid (Hy.out.call hu)
    rw [hF] at HH HC Hfr Ha Hb Hy
    clear hh hu hF
    go_upto_region 10 with (fail)
    obtain ⟨w12, hw⟩ : ∃ w12, w11.alloc (.cells #[.int .u32 0, .int .i64 0] 26) = w12 := ⟨_, rfl⟩
    have Hq : Hid (Mine F11 w12 w11.heap.size #[.int .u32 0, .int .i64 0] 26) := hid (hw ▸ Mine.fresh HH.out.lt _ _)
    have HH := hid (HH.out.alloc (.cells #[.int .u32 0, .int .i64 0] 26))
    have HC := hid (HC.out.alloc (.cells #[.int .u32 0, .int .i64 0] 26))
    have Hfr := hid (Hfr.out.alloc (.cells #[.int .u32 0, .int .i64 0] 26))
    have Ha := hid (Ha.out.alloc (.cells #[.int .u32 0, .int .i64 0] 26))
    have Hb := hid (Hb.out.alloc (.cells #[.int .u32 0, .int .i64 0] 26))
    have Hy := hid (Hy.out.alloc (.cells #[.int .u32 0, .int .i64 0] 26))
    rw [hw] at HH HC Hfr Ha Hb Hy ⊢
    clear hw
    obtain ⟨_, _, a2', a3'⟩ := Ha.out.ads a1 a2
    obtain ⟨_, _, b2', b3'⟩ := Hb.out.ads b1 b2
    obtain ⟨_, _, f2', f3'⟩ := Hfr.out.ads fr1 fr2
    obtain ⟨_, _, y2', y3'⟩ := Hy.out.ads fr1 fr2
    obtain ⟨c0, c1, c2, c3, c4⟩ := HC.out.cfgs
    have HU := hid HH.out.upd
    go_wp2_with fail
    go_ret
    exact ⟨rfl, HU.out.below (Nat.le_refl _) (fun k h => h)⟩
  · have H2 := hid (fil_no d HT.out.1 ⟨fr1, fr2⟩ ⟨a1, a2⟩ ⟨b1, b2⟩ kr)
    clear kr
    try dsimp only at k1 k2 k3 k4
    refine (HH.out.in_ 1 ⟨b1, b2⟩ ⟨d.pub, 1024⟩).mono ?_
    rw [H2.out]
    rintro e w7 ⟨rfl, hh, hu⟩
    obtain ⟨F7, hF⟩ : ∃ F7, grow F5 w6 w7 = F7 := ⟨_, rfl⟩
    have HH := hid hh
    have HC := hid (HC.out.call hu)
    have Hfr := hid (Hfr.out.call hu)
    have Ha := hid (Ha.out.call hu)
    have Hb := hid (Hb.out.call hu)
    have Hx := hid (Hx.out.call hu)
    rw [hF] at HH HC Hfr Ha Hb Hx
    clear hh hu hF
    obtain ⟨x0', x1', x2', x3'⟩ := Hx.out.ads d.pub 1024
    obtain ⟨a0', a1', a2', a3'⟩ := Ha.out.ads a1 a2
    go_wp2_with fail
    clear x0' x1' x2' x3' a0' a1' a2' a3'
    obtain ⟨w8, hw⟩ : ∃ w8, w7.alloc (.cells #[.int .u32 0, .int .i64 0] 26) = w8 := ⟨_, rfl⟩
    have Hy : Hid (Mine F7 w8 w7.heap.size #[.int .u32 0, .int .i64 0] 26) := hid (hw ▸ Mine.fresh HH.out.lt _ _)
    have HH := hid (HH.out.alloc (.cells #[.int .u32 0, .int .i64 0] 26))
    have HC := hid (HC.out.alloc (.cells #[.int .u32 0, .int .i64 0] 26))
    have Hfr := hid (Hfr.out.alloc (.cells #[.int .u32 0, .int .i64 0] 26))
    have Ha := hid (Ha.out.alloc (.cells #[.int .u32 0, .int .i64 0] 26))
    have Hb := hid (Hb.out.alloc (.cells #[.int .u32 0, .int .i64 0] 26))
    have Hx := hid (Hx.out.alloc (.cells #[.int .u32 0, .int .i64 0] 26))
    rw [hw] at HH HC Hfr Ha Hb Hx ⊢
    clear hw
    refine (HH.out.in_ 1 ⟨a1, a2⟩ ⟨d.pub, 1025⟩).mono ?_
    rw [fil_port d HT.out.1]
    rintro e w9 ⟨rfl, hh, hu⟩
    obtain ⟨F9, hF⟩ : ∃ F9, grow F7 w8 w9 = F9 := ⟨_, rfl⟩
    have HH := hid hh
    have HC := hid (HC.out.call hu)
    have Hfr := hid (Hfr.out.call hu)
    have Ha := hid (Ha.out.call hu)
    have Hb := hid (Hb.out.call hu)
    have Hx := hid (Hx.out.call hu)
    have Hy := hid (Hy.out.call hu)
    rw [hF] at HH HC Hfr Ha Hb Hx Hy
    clear hh hu hF
    obtain ⟨x0', x1', x2', x3'⟩ := Hx.out.ads d.pub 1024
    obtain ⟨a0', a1', a2', a3'⟩ := Ha.out.ads a1 a2
    go_wp2_with fail
    clear x0' x1' x2' x3' a0' a1' a2' a3'
    obtain ⟨w10, hw⟩ : ∃ w10, w9.alloc (.cells #[.int .u32 0, .int .i64 0] 26) = w10 := ⟨_, rfl⟩
    have Hz : Hid (Mine F9 w10 w9.heap.size #[.int .u32 0, .int .i64 0] 26) := hid (hw ▸ Mine.fresh HH.out.lt _ _)
    have HH := hid (HH.out.alloc (.cells #[.int .u32 0, .int .i64 0] 26))
    have HC := hid (HC.out.alloc (.cells #[.int .u32 0, .int .i64 0] 26))
    have Hfr := hid (Hfr.out.alloc (.cells #[.int .u32 0, .int .i64 0] 26))
    have Ha := hid (Ha.out.alloc (.cells #[.int .u32 0, .int .i64 0] 26))
    have Hb := hid (Hb.out.alloc (.cells #[.int .u32 0, .int .i64 0] 26))
    have Hx := hid (Hx.out.alloc (.cells #[.int .u32 0, .int .i64 0] 26))
    have Hy := hid (Hy.out.alloc (.cells #[.int .u32 0, .int .i64 0] 26))
    rw [hw] at HH HC Hfr Ha Hb Hx Hy ⊢
    clear hw
    refine (HH.out.in_ 1 ⟨a1, a2⟩ ⟨(d.pub + 1) % 4294967296, 1024⟩).mono ?_
    rw [fil_host d HT.out.1 _ _ _ _ HNE.out]
    rintro e w11 ⟨rfl, hh, hu⟩
    obtain ⟨F11, hF⟩ : ∃ F11, grow F9 w10 w11 = F11 := ⟨_, rfl⟩
    have HH := hid hh
    have HC := hid (HC.out.call hu)
    have Hfr := hid (Hfr.out.call hu)
    have Ha := hid (Ha.out.call hu)
    have Hb := hid (Hb.out.call hu)
    have Hy := hid (Hy.out.call hu)
    rw [hF] at HH HC Hfr Ha Hb Hy
    clear hh hu hF
    go_upto_region 10 with (fail)
    obtain ⟨w12, hw⟩ : ∃ w12, w11.alloc (.cells #[.int .u32 0, .int .i64 0] 26) = w12 := ⟨_, rfl⟩
    have Hq : Hid (Mine F11 w12 w11.heap.size #[.int .u32 0, .int .i64 0] 26) := hid (hw ▸ Mine.fresh HH.out.lt _ _)
    have HH := hid (HH.out.alloc (.cells #[.int .u32 0, .int .i64 0] 26))
    have HC := hid (HC.out.alloc (.cells #[.int .u32 0, .int .i64 0] 26))
    have Hfr := hid (Hfr.out.alloc (.cells #[.int .u32 0, .int .i64 0] 26))
    have Ha := hid (Ha.out.alloc (.cells #[.int .u32 0, .int .i64 0] 26))
    have Hb := hid (Hb.out.alloc (.cells #[.int .u32 0, .int .i64 0] 26))
    have Hy := hid (Hy.out.alloc (.cells #[.int .u32 0, .int .i64 0] 26))
    rw [hw] at HH HC Hfr Ha Hb Hy ⊢
    clear hw
    obtain ⟨_, _, a2', a3'⟩ := Ha.out.ads a1 a2
    obtain ⟨_, _, b2', b3'⟩ := Hb.out.ads b1 b2
    obtain ⟨_, _, f2', f3'⟩ := Hfr.out.ads fr1 fr2
    obtain ⟨_, _, y2', y3'⟩ := Hy.out.ads 0 0
    obtain ⟨c0, c1, c2, c3, c4⟩ := HC.out.cfgs
    have HU := hid HH.out.upd
    go_wp2_with fail
    go_ret
    exact ⟨rfl, HU.out.below (Nat.le_refl _) (fun k h => h)⟩
end Go.Proofs.Ytbcchdnbfblooaa
