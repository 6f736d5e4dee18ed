/- The walk of NatMaps (no statement of the seat). -/
import Derived.Test.YtbcchdnbfblooaaAnswers
namespace Go.Proofs.Ytbcchdnbfblooaa
open Go.RowKit

theorem few_pub (c : Cfg) : 0 ≤ (few c).pub ∧ (few c).pub < 4294967296 := by
  show 0 ≤ IntKind.u32.wrap ((BitVec.ofInt 32 c.pub ||| BitVec.ofInt 32 1).toNat : Int) ∧ IntKind.u32.wrap ((BitVec.ofInt 32 c.pub ||| BitVec.ofInt 32 1).toNat : Int) < 4294967296
  rw [IntKind.wrap_u32]
  omega
theorem alive_all {t tmo : Int} {L : List Ent} (h : ∀ e, e ∈ L → t - tmo < e.used) : alive t tmo L = L := by
  unfold alive
  rw [List.filter_eq_self]
  intro e he
  exact decide_eq_true (h e he)
theorem out_known {c : Cfg} {now : Int} {fr tt : Ad} {L M : List Ent} {e : Ent} (h : alive (cutT now) c.tmo L = M) (hf : M.find? (keyB c.map fr tt) = some e) :
    outL c now fr tt L = (M.map (bump c.map fr tt (cutT now)), ⟨c.pub, e.port⟩, 0) := by
  unfold outL; dsimp only; rw [h, hf]
theorem out_fresh {c : Cfg} {now : Int} {fr tt : Ad} {L M : List Ent} (h : alive (cutT now) c.tmo L = M) (hf : M.find? (keyB c.map fr tt) = none) (hl : M.length < 64) :
    outL c now fr tt L = (M ++ [⟨fr, freeP M, cutT now, [tt]⟩], ⟨c.pub, freeP M⟩, 0) := by
  unfold outL; dsimp only; rw [h, hf]; dsimp only; rw [if_neg (by omega)]
theorem out_full {c : Cfg} {now : Int} {fr tt : Ad} {L M : List Ent} (h : alive (cutT now) c.tmo L = M) (hf : M.find? (keyB c.map fr tt) = none) (hl : 64 ≤ M.length) :
    outL c now fr tt L = (M, ⟨0, 0⟩, 8) := by
  unfold outL; dsimp only; rw [h, hf]; dsimp only; rw [if_pos hl]
theorem maps_same (c : Cfg) (hR : Right c) (fr a d : Ad) (h : red c.map a = red c.map d) :
    ∃ L2 L3, outL c 0 fr d [⟨fr, 1024, cutT 0, [a]⟩] = (L2, ⟨c.pub, 1024⟩, 0) ∧ outL c 0 fr a L2 = (L3, ⟨c.pub, 1024⟩, 0) ∧ L3.length = 1 := by
  have ht := hR.tmo0
  have hc : cutT 0 = 0 := rfl
  have h2 : outL c 0 fr d [⟨fr, 1024, cutT 0, [a]⟩] = ([⟨fr, 1024, 0, sendTo [a] d⟩], ⟨c.pub, 1024⟩, 0) := by
    rw [out_known (e := ⟨fr, 1024, 0, [a]⟩) (alive_all (by simp [hc]; omega)) (by simp [keyB, Ent.key, Ent.head, h, hc])]
    simp [bump, keyB, Ent.key, Ent.head, h, hc]
  refine ⟨_, [⟨fr, 1024, 0, sendTo (sendTo [a] d) a⟩], h2, ?_, rfl⟩
  have hh : (sendTo [a] d).headD ⟨0, 0⟩ = a := by rw [sendTo_head d _ (by simp)]; rfl
  have hk : keyB c.map fr a ⟨fr, 1024, 0, sendTo [a] d⟩ = true := by unfold keyB Ent.key Ent.head; rw [hh]; simp
  rw [out_known (e := ⟨fr, 1024, 0, sendTo [a] d⟩) (alive_all (by simp [hc]; omega)) (by rw [List.find?_cons, hk])]
  simp [bump, hk, hc]
theorem maps_not (c : Cfg) (hR : Right c) (fr a d : Ad) (h : red c.map a ≠ red c.map d) :
    ∃ L2 L3, outL c 0 fr d [⟨fr, 1024, cutT 0, [a]⟩] = (L2, ⟨c.pub, 1025⟩, 0) ∧ outL c 0 fr a L2 = (L3, ⟨c.pub, 1024⟩, 0) ∧ L3.length = 2 := by
  have ht := hR.tmo0
  have hc : cutT 0 = 0 := rfl
  have h' : ¬ red c.map d = red c.map a := fun e => h e.symm
  have hf : freeP [⟨fr, 1024, 0, [a]⟩] = 1025 := rfl
  have h2 : outL c 0 fr d [⟨fr, 1024, cutT 0, [a]⟩] = ([⟨fr, 1024, 0, [a]⟩, ⟨fr, 1025, 0, [d]⟩], ⟨c.pub, 1025⟩, 0) := by
    rw [out_fresh (alive_all (by simp [hc]; omega)) (by simp [keyB, Ent.key, Ent.head, h]) (by simp)]
    rw [hc, hf]; rfl
  refine ⟨_, [⟨fr, 1024, 0, sendTo [a] a⟩, ⟨fr, 1025, 0, [d]⟩], h2, ?_, rfl⟩
  rw [out_known (e := ⟨fr, 1024, 0, [a]⟩) (alive_all (by simp [hc]; omega)) (by simp [keyB, Ent.key, Ent.head])]
  simp [bump, keyB, Ent.key, Ent.head, h', hc]
/-- The five ways of the tests. -/
theorem maps_ways (c : Cfg) (hR : Right c) (fr a d : Ad) :
    ((c.map == 1) = true ∧ red c.map a = red c.map d) ∨ ((c.map == 1) = false ∧ (a.h == d.h) = false ∧ red c.map a ≠ red c.map d) ∨
    ((c.map == 1) = false ∧ (a.h == d.h) = true ∧ (c.map == 2) = true ∧ red c.map a = red c.map d) ∨
    ((c.map == 1) = false ∧ (a.h == d.h) = true ∧ (c.map == 2) = false ∧ (a.p == d.p) = true ∧ red c.map a = red c.map d) ∨
    ((c.map == 1) = false ∧ (a.h == d.h) = true ∧ (c.map == 2) = false ∧ (a.p == d.p) = false ∧ red c.map a ≠ red c.map d) := by
  obtain ⟨a1, a2⟩ := a
  obtain ⟨d1, d2⟩ := d
  have h0 := hR.map0
  have h1 := hR.map1
  by_cases h : c.map = 1
  · simp [h, red]
  · by_cases h2 : c.map = 2
    · by_cases h3 : a1 = d1 <;> simp [h2, h3, red]
    · by_cases h3 : a1 = d1 <;> by_cases h4 : a2 = d2 <;> simp [h, h2, h3, h4, red]

set_option maxRecDepth 100000 in
set_option maxHeartbeats 8000000 in
theorem maps_walk (c : Cfg) (fr a b : Ad) (w : World) : Calls Try.prog 4 #[c.v, fr.v, a.v, b.v] w fun e w' => e = .returned (.bool true) ∧ Below w.heap.size w w' := by
  obtain ⟨fr1, fr2⟩ := fr
  obtain ⟨a1, a2⟩ := a
  obtain ⟨b1, b2⟩ := b
  obtain ⟨w0, hw0⟩ : ∃ w0, (((w.alloc (.cells #[.int .u32 c.pub, .int .i64 c.map, .int .i64 c.fil, .bool c.hair, .int .i64 c.tmo] 24)).alloc (.cells #[.int .u32 fr1, .int .i64 fr2] 26)).alloc (.cells #[.int .u32 a1, .int .i64 a2] 26)).alloc (.cells #[.int .u32 b1, .int .i64 b2] 26) = w0 := ⟨_, rfl⟩
  have HC := hid (show Mine (fun _ => False) w0 w.heap.size #[.int .u32 c.pub, .int .i64 c.map, .int .i64 c.fil, .bool c.hair, .int .i64 c.tmo] 24 by rw [← hw0]; exact (((blk_new w _ _).alloc _).alloc _).alloc _)
  have Hfr := hid (show Mine (fun _ => False) w0 (w.heap.size + 1) #[.int .u32 fr1, .int .i64 fr2] 26 by rw [← hw0]; exact ((blk_new' (by simp only [World.size_alloc]) _ _).alloc _).alloc _)
  have Ha := hid (show Mine (fun _ => False) w0 (w.heap.size + 1 + 1) #[.int .u32 a1, .int .i64 a2] 26 by rw [← hw0]; exact (blk_new' (by simp only [World.size_alloc]) _ _).alloc _)
  have Hb := hid (show Mine (fun _ => False) w0 (w.heap.size + 1 + 1 + 1) #[.int .u32 b1, .int .i64 b2] 26 by rw [← hw0]; exact blk_new' (by simp only [World.size_alloc]) _ _)
  have HU : Hid (Upd (fun k => w.heap.size ≤ k) w w0) := hid (by rw [← hw0]; exact ((((Upd.refl _ w).alloc _).alloc _).alloc _).alloc _)
  go_enter Try.func4, Try.ntmps4
  go_wp2_with fail
  refine (shown_any _).mono ?_
  rintro e w1 ⟨rfl, hu⟩
  have HC := hid (HC.out.still hu)
  have Hfr := hid (Hfr.out.still hu)
  have Ha := hid (Ha.out.still hu)
  have Hb := hid (Hb.out.still hu)
  have HU : Hid (Upd (fun k => w.heap.size ≤ k) w w1) := hid (HU.out.then_ hu (fun _ _ h => h.elim))
  clear hu hw0
  obtain ⟨c0, c1, c2, c3, c4⟩ := HC.out.cfgs
  go_wp2_with fail
  clear c0 c1 c2 c3 c4
  refine (few_any c _).mono ?_
  rintro e w2 ⟨rfl, hu⟩
  have HC := hid (HC.out.still hu)
  have Hfr := hid (Hfr.out.still hu)
  have Ha := hid (Ha.out.still hu)
  have Hb := hid (Hb.out.still hu)
  have HU : Hid (Upd (fun k => w.heap.size ≤ k) w w2) := hid (HU.out.then_ hu (fun _ _ h => h.elim))
  clear hu
  obtain ⟨d, hd⟩ : ∃ d, few c = d := ⟨_, rfl⟩
  have HR : Hid (Right d) := hid (hd ▸ few_right c)
  have HT : Hid (10 ≤ d.tmo ∧ d.tmo ≤ 109) := hid (hd ▸ few_tmo c)
  have HPU : Hid (0 ≤ d.pub ∧ d.pub < 4294967296) := hid (hd ▸ few_pub c)
  rw [hd]
  clear hd
  obtain ⟨c0, c1, c2, c3, c4⟩ := HC.out.cfgs
  have g0 : ∀ i, w2.frozen? ⟨w.heap.size, i, none⟩ = false := fun i => blk_free HC.out.blk i
  go_upto_region 3 with fail
  clear c0 c1 c2 c3 c4 g0
  obtain ⟨w3, hw3⟩ : ∃ w3, setCfg w2 w.heap.size d = w3 := ⟨_, rfl⟩
  have hu := upd_cfg w2 w.heap.size d
  have HC : Hid (Mine (fun _ => False) w3 w.heap.size #[.int .u32 d.pub, .int .i64 d.map, .int .i64 d.fil, .bool d.hair, .int .i64 d.tmo] 24) := hid ⟨hw3 ▸ blk_cfg HC.out.blk d, fun h => h⟩
  unfold setCfg at hw3 hu
  rw [hw3] at hu ⊢
  have Hfr := hid (Hfr.out.but hu (by omega))
  have Ha := hid (Ha.out.but hu (by omega))
  have Hb := hid (Hb.out.but hu (by omega))
  have HU : Hid (Upd (fun k => w.heap.size ≤ k) w w3) := hid (HU.out.then_ hu (fun _ _ h => by omega))
  clear hu hw3
  obtain ⟨c0, c1, c2, c3, c4⟩ := HC.out.cfgs
  go_wp2_with fail
  clear c0 c1 c2 c3 c4
  refine (has_new w d HR.out _ HU.out).mono ?_
  rintro e w4 ⟨g, F, rfl, hh, hF, hu⟩
  have HH := hid hh
  have HC := hid (Mine.ahead HC.out.blk hF hu)
  have Hfr := hid (Mine.ahead Hfr.out.blk hF hu)
  have Ha := hid (Mine.ahead Ha.out.blk hF hu)
  have Hb := hid (Mine.ahead Hb.out.blk hF hu)
  clear hh hF hu HU
  obtain ⟨f0, _, _, _⟩ := Hfr.out.ads fr1 fr2
  obtain ⟨_, _, f2, f3⟩ := Hfr.out.ads fr1 fr2
  obtain ⟨_, _, a2', a3'⟩ := Ha.out.ads a1 a2
  go_wp2_with fail
  clear f0 f2 f3 a2' a3'
  refine (HH.out.out 0 ⟨fr1, fr2⟩ ⟨a1, a2⟩).mono ?_
  rw [out_first]
  rintro e w5 ⟨rfl, hh, hu⟩
  obtain ⟨F5, hF⟩ : ∃ F5, grow F w4 w5 = F5 := ⟨_, rfl⟩
  have HH := hid hh
  have HC := hid (HC.out.call hu)
  have Hfr := hid (Hfr.out.call hu)
  have Ha := hid (Ha.out.call hu)
  have Hb := hid (Hb.out.call hu)
  rw [hF] at HH HC Hfr Ha Hb
  clear hh hu hF
  obtain ⟨f0, f1, f2, f3⟩ := Hfr.out.ads fr1 fr2
  obtain ⟨b0', b1', b2', b3'⟩ := Hb.out.ads b1 b2
  go_wp2_with fail
  clear f0 f1 f2 f3 b0' b1' b2' b3'
  obtain ⟨w6, hw⟩ : ∃ w6, w5.alloc (.cells #[.int .u32 d.pub, .int .i64 1024] 26) = w6 := ⟨_, rfl⟩
  have Hx : Hid (Mine F5 w6 w5.heap.size #[.int .u32 d.pub, .int .i64 1024] 26) := hid (hw ▸ Mine.fresh HH.out.lt _ _)
  have HH := hid (HH.out.alloc (.cells #[.int .u32 d.pub, .int .i64 1024] 26))
  have HC := hid (HC.out.alloc (.cells #[.int .u32 d.pub, .int .i64 1024] 26))
  have Hfr := hid (Hfr.out.alloc (.cells #[.int .u32 d.pub, .int .i64 1024] 26))
  have Ha := hid (Ha.out.alloc (.cells #[.int .u32 d.pub, .int .i64 1024] 26))
  have Hb := hid (Hb.out.alloc (.cells #[.int .u32 d.pub, .int .i64 1024] 26))
  rw [hw] at HH HC Hfr Ha Hb ⊢
  clear hw
  have HW := hid (maps_ways d HR.out ⟨fr1, fr2⟩ ⟨a1, a2⟩ ⟨b1, b2⟩)
  rcases HW.out with ⟨k1, kr⟩ | ⟨k1, k2, kr⟩ | ⟨k1, k2, k3, kr⟩ | ⟨k1, k2, k3, k4, kr⟩ | ⟨k1, k2, k3, k4, kr⟩
  · obtain ⟨L2, L3, h2, h3, hl⟩ := maps_same d HR.out ⟨fr1, fr2⟩ ⟨a1, a2⟩ ⟨b1, b2⟩ kr
    have H2 := hid h2
    have H3 := hid h3
    have HL := hid hl
    clear h2 h3 hl kr
    try dsimp only at k1
    refine (HH.out.out 0 ⟨fr1, fr2⟩ ⟨b1, b2⟩).mono ?_
    rw [H2.out]
    rintro e w7 ⟨rfl, hh, hu⟩
    obtain ⟨F7, hF⟩ : ∃ F7, grow F5 w6 w7 = F7 := ⟨_, rfl⟩
    have HH := hid hh
    have HC := hid (HC.out.call hu)
    have Hfr := hid (Hfr.out.call hu)
    have Ha := hid (Ha.out.call hu)
    have Hb := hid (Hb.out.call hu)
    have Hx := hid (Hx.out.call hu)
    rw [hF] at HH HC Hfr Ha Hb Hx
    clear hh hu hF
    obtain ⟨f0, f1, f2, f3⟩ := Hfr.out.ads fr1 fr2
    obtain ⟨a0', a1', a2', a3'⟩ := Ha.out.ads a1 a2
    go_wp2_with fail
    clear f0 f1 f2 f3 a0' a1' a2' a3'
    obtain ⟨w8, hw⟩ : ∃ w8, w7.alloc (.cells #[.int .u32 d.pub, .int .i64 1024] 26) = w8 := ⟨_, rfl⟩
    have Hy : Hid (Mine F7 w8 w7.heap.size #[.int .u32 d.pub, .int .i64 1024] 26) := hid (hw ▸ Mine.fresh HH.out.lt _ _)
    have HH := hid (HH.out.alloc (.cells #[.int .u32 d.pub, .int .i64 1024] 26))
    have HC := hid (HC.out.alloc (.cells #[.int .u32 d.pub, .int .i64 1024] 26))
    have Hfr := hid (Hfr.out.alloc (.cells #[.int .u32 d.pub, .int .i64 1024] 26))
    have Ha := hid (Ha.out.alloc (.cells #[.int .u32 d.pub, .int .i64 1024] 26))
    have Hb := hid (Hb.out.alloc (.cells #[.int .u32 d.pub, .int .i64 1024] 26))
    have Hx := hid (Hx.out.alloc (.cells #[.int .u32 d.pub, .int .i64 1024] 26))
    rw [hw] at HH HC Hfr Ha Hb Hx ⊢
    clear hw
    refine (HH.out.out 0 ⟨fr1, fr2⟩ ⟨a1, a2⟩).mono ?_
    rw [H3.out]
    rintro e w9 ⟨rfl, hh, hu⟩
    obtain ⟨F9, hF⟩ : ∃ F9, grow F7 w8 w9 = F9 := ⟨_, rfl⟩
    have HH := hid hh
    have HC := hid (HC.out.call hu)
    have Ha := hid (Ha.out.call hu)
    have Hb := hid (Hb.out.call hu)
    have Hx := hid (Hx.out.call hu)
    have Hy := hid (Hy.out.call hu)
    rw [hF] at HH HC Ha Hb Hx Hy
    clear hh hu hF
    obtain ⟨w10, hw⟩ : ∃ w10, w9.alloc (.cells #[.int .u32 d.pub, .int .i64 1024] 26) = w10 := ⟨_, rfl⟩
    have Hz : Hid (Mine F9 w10 w9.heap.size #[.int .u32 d.pub, .int .i64 1024] 26) := hid (hw ▸ Mine.fresh HH.out.lt _ _)
    have HH := hid (HH.out.alloc (.cells #[.int .u32 d.pub, .int .i64 1024] 26))
    have HC := hid (HC.out.alloc (.cells #[.int .u32 d.pub, .int .i64 1024] 26))
    have Ha := hid (Ha.out.alloc (.cells #[.int .u32 d.pub, .int .i64 1024] 26))
    have Hb := hid (Hb.out.alloc (.cells #[.int .u32 d.pub, .int .i64 1024] 26))
    have Hx := hid (Hx.out.alloc (.cells #[.int .u32 d.pub, .int .i64 1024] 26))
    have Hy := hid (Hy.out.alloc (.cells #[.int .u32 d.pub, .int .i64 1024] 26))
    go_upto_region 9 with (fail)
    rw [hw] at HH HC Ha Hb Hx Hy
    clear hw
    obtain ⟨_, _, a2', a3'⟩ := Ha.out.ads a1 a2
    obtain ⟨_, _, b2', b3'⟩ := Hb.out.ads b1 b2
    obtain ⟨_, _, x2', x3'⟩ := Hx.out.ads d.pub 1024
    obtain ⟨_, _, y2', y3'⟩ := Hy.out.ads d.pub 1024
    obtain ⟨_, _, z2', z3'⟩ := Hz.out.ads d.pub 1024
    obtain ⟨c0, c1, c2, c3, c4⟩ := HC.out.cfgs
    go_wp2_with fail
    refine (HH.out.len).mono ?_
    rintro e w11 ⟨rfl, rfl⟩
    rw [HL.out]
    have HU := hid HH.out.upd
    go_wp2_with fail
    go_ret
    exact ⟨rfl, HU.out.below (Nat.le_refl _) (fun k h => h)⟩
  · obtain ⟨L2, L3, h2, h3, hl⟩ := maps_not d HR.out ⟨fr1, fr2⟩ ⟨a1, a2⟩ ⟨b1, b2⟩ kr
    have H2 := hid h2
    have H3 := hid h3
    have HL := hid hl
    clear h2 h3 hl kr
    try dsimp only at k1 k2
    refine (HH.out.out 0 ⟨fr1, fr2⟩ ⟨b1, b2⟩).mono ?_
    rw [H2.out]
    rintro e w7 ⟨rfl, hh, hu⟩
    obtain ⟨F7, hF⟩ : ∃ F7, grow F5 w6 w7 = F7 := ⟨_, rfl⟩
    have HH := hid hh
    have HC := hid (HC.out.call hu)
    have Hfr := hid (Hfr.out.call hu)
    have Ha := hid (Ha.out.call hu)
    have Hb := hid (Hb.out.call hu)
    have Hx := hid (Hx.out.call hu)
    rw [hF] at HH HC Hfr Ha Hb Hx
    clear hh hu hF
    obtain ⟨f0, f1, f2, f3⟩ := Hfr.out.ads fr1 fr2
    obtain ⟨a0', a1', a2', a3'⟩ := Ha.out.ads a1 a2
    go_wp2_with fail
    clear f0 f1 f2 f3 a0' a1' a2' a3'
    obtain ⟨w8, hw⟩ : ∃ w8, w7.alloc (.cells #[.int .u32 d.pub, .int .i64 1025] 26) = w8 := ⟨_, rfl⟩
    have Hy : Hid (Mine F7 w8 w7.heap.size #[.int .u32 d.pub, .int .i64 1025] 26) := hid (hw ▸ Mine.fresh HH.out.lt _ _)
    have HH := hid (HH.out.alloc (.cells #[.int .u32 d.pub, .int .i64 1025] 26))
    have HC := hid (HC.out.alloc (.cells #[.int .u32 d.pub, .int .i64 1025] 26))
    have Hfr := hid (Hfr.out.alloc (.cells #[.int .u32 d.pub, .int .i64 1025] 26))
    have Ha := hid (Ha.out.alloc (.cells #[.int .u32 d.pub, .int .i64 1025] 26))
    have Hb := hid (Hb.out.alloc (.cells #[.int .u32 d.pub, .int .i64 1025] 26))
    have Hx := hid (Hx.out.alloc (.cells #[.int .u32 d.pub, .int .i64 1025] 26))
    rw [hw] at HH HC Hfr Ha Hb Hx ⊢
    clear hw
    refine (HH.out.out 0 ⟨fr1, fr2⟩ ⟨a1, a2⟩).mono ?_
    rw [H3.out]
    rintro e w9 ⟨rfl, hh, hu⟩
    obtain ⟨F9, hF⟩ : ∃ F9, grow F7 w8 w9 = F9 := ⟨_, rfl⟩
    have HH := hid hh
    have HC := hid (HC.out.call hu)
    have Ha := hid (Ha.out.call hu)
    have Hb := hid (Hb.out.call hu)
    have Hx := hid (Hx.out.call hu)
    have Hy := hid (Hy.out.call hu)
    rw [hF] at HH HC Ha Hb Hx Hy
    clear hh hu hF
    obtain ⟨w10, hw⟩ : ∃ w10, w9.alloc (.cells #[.int .u32 d.pub, .int .i64 1024] 26) = w10 := ⟨_, rfl⟩
    have Hz : Hid (Mine F9 w10 w9.heap.size #[.int .u32 d.pub, .int .i64 1024] 26) := hid (hw ▸ Mine.fresh HH.out.lt _ _)
    have HH := hid (HH.out.alloc (.cells #[.int .u32 d.pub, .int .i64 1024] 26))
    have HC := hid (HC.out.alloc (.cells #[.int .u32 d.pub, .int .i64 1024] 26))
    have Ha := hid (Ha.out.alloc (.cells #[.int .u32 d.pub, .int .i64 1024] 26))
    have Hb := hid (Hb.out.alloc (.cells #[.int .u32 d.pub, .int .i64 1024] 26))
    have Hx := hid (Hx.out.alloc (.cells #[.int .u32 d.pub, .int .i64 1024] 26))
    have Hy := hid (Hy.out.alloc (.cells #[.int .u32 d.pub, .int .i64 1024] 26))
    go_upto_region 9 with (fail)
    rw [hw] at HH HC Ha Hb Hx Hy
    clear hw
    obtain ⟨_, _, a2', a3'⟩ := Ha.out.ads a1 a2
    obtain ⟨_, _, b2', b3'⟩ := Hb.out.ads b1 b2
    obtain ⟨_, _, x2', x3'⟩ := Hx.out.ads d.pub 1024
    obtain ⟨_, _, y2', y3'⟩ := Hy.out.ads d.pub 1025
    obtain ⟨_, _, z2', z3'⟩ := Hz.out.ads d.pub 1024
    obtain ⟨c0, c1, c2, c3, c4⟩ := HC.out.cfgs
    go_wp2_with fail
    refine (HH.out.len).mono ?_
    rintro e w11 ⟨rfl, rfl⟩
    rw [HL.out]
    have HU := hid HH.out.upd
    go_wp2_with fail
    go_ret
    exact ⟨rfl, HU.out.below (Nat.le_refl _) (fun k h => h)⟩
  · obtain ⟨L2, L3, h2, h3, hl⟩ := maps_same d HR.out ⟨fr1, fr2⟩ ⟨a1, a2⟩ ⟨b1, b2⟩ kr
    have H2 := hid h2
    have H3 := hid h3
    have HL := hid hl
    clear h2 h3 hl kr
    try dsimp only at k1 k2 k3
    refine (HH.out.out 0 ⟨fr1, fr2⟩ ⟨b1, b2⟩).mono ?_
    rw [H2.out]
    rintro e w7 ⟨rfl, hh, hu⟩
    obtain ⟨F7, hF⟩ : ∃ F7, grow F5 w6 w7 = F7 := ⟨_, rfl⟩
    have HH := hid hh
    have HC := hid (HC.out.call hu)
    have Hfr := hid (Hfr.out.call hu)
    have Ha := hid (Ha.out.call hu)
    have Hb := hid (Hb.out.call hu)
    have Hx := hid (Hx.out.call hu)
    rw [hF] at HH HC Hfr Ha Hb Hx
    clear hh hu hF
    obtain ⟨f0, f1, f2, f3⟩ := Hfr.out.ads fr1 fr2
    obtain ⟨a0', a1', a2', a3'⟩ := Ha.out.ads a1 a2
    go_wp2_with fail
    clear f0 f1 f2 f3 a0' a1' a2' a3'
    obtain ⟨w8, hw⟩ : ∃ w8, w7.alloc (.cells #[.int .u32 d.pub, .int .i64 1024] 26) = w8 := ⟨_, rfl⟩
    have Hy : Hid (Mine F7 w8 w7.heap.size #[.int .u32 d.pub, .int .i64 1024] 26) := hid (hw ▸ Mine.fresh HH.out.lt _ _)
    have HH := hid (HH.out.alloc (.cells #[.int .u32 d.pub, .int .i64 1024] 26))
    have HC := hid (HC.out.alloc (.cells #[.int .u32 d.pub, .int .i64 1024] 26))
    have Hfr := hid (Hfr.out.alloc (.cells #[.int .u32 d.pub, .int .i64 1024] 26))
    have Ha := hid (Ha.out.alloc (.cells #[.int .u32 d.pub, .int .i64 1024] 26))
    have Hb := hid (Hb.out.alloc (.cells #[.int .u32 d.pub, .int .i64 1024] 26))
    have Hx := hid (Hx.out.alloc (.cells #[.int .u32 d.pub, .int .i64 1024] 26))
    rw [hw] at HH HC Hfr Ha Hb Hx ⊢
    clear hw
    refine (HH.out.out 0 ⟨fr1, fr2⟩ ⟨a1, a2⟩).mono ?_
    rw [H3.out]
    rintro e w9 ⟨rfl, hh, hu⟩
    obtain ⟨F9, hF⟩ : ∃ F9, grow F7 w8 w9 = F9 := ⟨_, rfl⟩
    have HH := hid hh
    have HC := hid (HC.out.call hu)
    have Ha := hid (Ha.out.call hu)
    have Hb := hid (Hb.out.call hu)
    have Hx := hid (Hx.out.call hu)
    have Hy := hid (Hy.out.call hu)
    rw [hF] at HH HC Ha Hb Hx Hy
    clear hh hu hF
    obtain ⟨w10, hw⟩ : ∃ w10, w9.alloc (.cells #[.int .u32 d.pub, .int .i64 1024] 26) = w10 := ⟨_, rfl⟩
    have Hz : Hid (Mine F9 w10 w9.heap.size #[.int .u32 d.pub, .int .i64 1024] 26) := hid (hw ▸ Mine.fresh HH.out.lt _ _)
    have HH := hid (HH.out.alloc (.cells #[.int .u32 d.pub, .int .i64 1024] 26))
    have HC := hid (HC.out.alloc (.cells #[.int .u32 d.pub, .int .i64 1024] 26))
    have Ha := hid (Ha.out.alloc (.cells #[.int .u32 d.pub, .int .i64 1024] 26))
    have Hb := hid (Hb.out.alloc (.cells #[.int .u32 d.pub, .int .i64 1024] 26))
    have Hx := hid (Hx.out.alloc (.cells #[.int .u32 d.pub, .int .i64 1024] 26))
    have Hy := hid (Hy.out.alloc (.cells #[.int .u32 d.pub, .int .i64 1024] 26))
    go_upto_region 9 with (fail)
    rw [hw] at HH HC Ha Hb Hx Hy
    clear hw
    obtain ⟨_, _, a2', a3'⟩ := Ha.out.ads a1 a2
    obtain ⟨_, _, b2', b3'⟩ := Hb.out.ads b1 b2
    obtain ⟨_, _, x2', x3'⟩ := Hx.out.ads d.pub 1024
    obtain ⟨_, _, y2', y3'⟩ := Hy.out.ads d.pub 1024
    obtain ⟨_, _, z2', z3'⟩ := Hz.out.ads d.pub 1024
    obtain ⟨c0, c1, c2, c3, c4⟩ := HC.out.cfgs
    go_wp2_with fail
    refine (HH.out.len).mono ?_
    rintro e w11 ⟨rfl, rfl⟩
    rw [HL.out]
    have HU := hid HH.out.upd
    go_wp2_with fail
    go_ret
    exact ⟨rfl, HU.out.below (Nat.le_refl _) (fun k h => h)⟩
  · obtain ⟨L2, L3, h2, h3, hl⟩ := maps_same d HR.out ⟨fr1, fr2⟩ ⟨a1, a2⟩ ⟨b1, b2⟩ kr
    have H2 := hid h2
    have H3 := hid h3
    have HL := hid hl
    clear h2 h3 hl kr
    try dsimp only at k1 k2 k3 k4
    refine (HH.out.out 0 ⟨fr1, fr2⟩ ⟨b1, b2⟩).mono ?_
    rw [H2.out]
    rintro e w7 ⟨rfl, hh, hu⟩
    obtain ⟨F7, hF⟩ : ∃ F7, grow F5 w6 w7 = F7 := ⟨_, rfl⟩
    have HH := hid hh
    have HC := hid (HC.out.call hu)
    have Hfr := hid (Hfr.out.call hu)
    have Ha := hid (Ha.out.call hu)
    have Hb := hid (Hb.out.call hu)
    have Hx := hid (Hx.out.call hu)
    rw [hF] at HH HC Hfr Ha Hb Hx
    clear hh hu hF
    obtain ⟨f0, f1, f2, f3⟩ := Hfr.out.ads fr1 fr2
    obtain ⟨a0', a1', a2', a3'⟩ := Ha.out.ads a1 a2
    go_wp2_with fail
    clear f0 f1 f2 f3 a0' a1' a2' a3'
    obtain ⟨w8, hw⟩ : ∃ w8, w7.alloc (.cells #[.int .u32 d.pub, .int .i64 1024] 26) = w8 := ⟨_, rfl⟩
    have Hy : Hid (Mine F7 w8 w7.heap.size #[.int .u32 d.pub, .int .i64 1024] 26) := hid (hw ▸ Mine.fresh HH.out.lt _ _)
    have HH := hid (HH.out.alloc (.cells #[.int .u32 d.pub, .int .i64 1024] 26))
    have HC := hid (HC.out.alloc (.cells #[.int .u32 d.pub, .int .i64 1024] 26))
    have Hfr := hid (Hfr.out.alloc (.cells #[.int .u32 d.pub, .int .i64 1024] 26))
    have Ha := hid (Ha.out.alloc (.cells #[.int .u32 d.pub, .int .i64 1024] 26))
    have Hb := hid (Hb.out.alloc (.cells #[.int .u32 d.pub, .int .i64 1024] 26))
    have Hx := hid (Hx.out.alloc (.cells #[.int .u32 d.pub, .int .i64 1024] 26))
    rw [hw] at HH HC Hfr Ha Hb Hx ⊢
    clear hw
    refine (HH.out.out 0 ⟨fr1, fr2⟩ ⟨a1, a2⟩).mono ?_
    rw [H3.out]
    rintro e w9 ⟨rfl, hh, hu⟩
    obtain ⟨F9, hF⟩ : ∃ F9, grow F7 w8 w9 = F9 := ⟨_, rfl⟩
    have HH := hid hh
    have HC := hid (HC.out.call hu)
    have Ha := hid (Ha.out.call hu)
    have Hb := hid (Hb.out.call hu)
    have Hx := hid (Hx.out.call hu)
    have Hy := hid (Hy.out.call hu)
    rw [hF] at HH HC Ha Hb Hx Hy
    clear hh hu hF
    obtain ⟨w10, hw⟩ : ∃ w10, w9.alloc (.cells #[.int .u32 d.pub, .int .i64 1024] 26) = w10 := ⟨_, rfl⟩
    have Hz : Hid (Mine F9 w10 w9.heap.size #[.int .u32 d.pub, .int .i64 1024] 26) := hid (hw ▸ Mine.fresh HH.out.lt _ _)
    have HH := hid (HH.out.alloc (.cells #[.int .u32 d.pub, .int .i64 1024] 26))
    have HC := hid (HC.out.alloc (.cells #[.int .u32 d.pub, .int .i64 1024] 26))
    have Ha := hid (Ha.out.alloc (.cells #[.int .u32 d.pub, .int .i64 1024] 26))
    have Hb := hid (Hb.out.alloc (.cells #[.int .u32 d.pub, .int .i64 1024] 26))
    have Hx := hid (Hx.out.alloc (.cells #[.int .u32 d.pub, .int .i64 1024] 26))
    have Hy := hid (Hy.out.alloc (.cells #[.int .u32 d.pub, .int .i64 1024] 26))
    go_upto_region 9 with (fail)
    rw [hw] at HH HC Ha Hb Hx Hy
    clear hw
    obtain ⟨_, _, a2', a3'⟩ := Ha.out.ads a1 a2
    obtain ⟨_, _, b2', b3'⟩ := Hb.out.ads b1 b2
    obtain ⟨_, _, x2', x3'⟩ := Hx.out.ads d.pub 1024
    obtain ⟨_, _, y2', y3'⟩ := Hy.out.ads d.pub 1024
    obtain ⟨_, _, z2', z3'⟩ := Hz.out.ads d.pub 1024
    obtain ⟨c0, c1, c2, c3, c4⟩ := HC.out.cfgs
    go_wp2_with fail
    refine (HH.out.len).mono ?_
    rintro e w11 ⟨rfl, rfl⟩
    rw [HL.out]
    have HU := hid HH.out.upd
    go_wp2_with fail
    go_ret
    exact ⟨rfl, HU.out.below (Nat.le_refl _) (fun k h => h)⟩
  · obtain ⟨L2, L3, h2, h3, hl⟩ := maps_not d HR.out ⟨fr1, fr2⟩ ⟨a1, a2⟩ ⟨b1, b2⟩ kr
    have H2 := hid h2
    have H3 := hid h3
    have HL := hid hl
    clear h2 h3 hl kr
    try dsimp only at k1 k2 k3 k4
    refine (HH.out.out 0 ⟨fr1, fr2⟩ ⟨b1, b2⟩).mono ?_
    rw [H2.out]
    rintro e w7 ⟨rfl, hh, hu⟩
    obtain ⟨F7, hF⟩ : ∃ F7, grow F5 w6 w7 = F7 := ⟨_, rfl⟩
    have HH := hid hh
    have HC := hid (HC.out.call hu)
    have Hfr := hid (Hfr.out.call hu)
    have Ha := hid (Ha.out.call hu)
    have Hb := hid (Hb.out.call hu)
    have Hx := hid (Hx.out.call hu)
    rw [hF] at HH HC Hfr Ha Hb Hx
    clear hh hu hF
    obtain ⟨f0, f1, f2, f3⟩ := Hfr.out.ads fr1 fr2
    obtain ⟨a0', a1', a2', a3'⟩ := Ha.out.ads a1 a2
    go_wp2_with fail
    clear f0 f1 f2 f3 a0' a1' a2' a3'
    obtain ⟨w8, hw⟩ : ∃ w8, w7.alloc (.cells #[.int .u32 d.pub, .int .i64 1025] 26) = w8 := ⟨_, rfl⟩
    have Hy : Hid (Mine F7 w8 w7.heap.size #[.int .u32 d.pub, .int .i64 1025] 26) := hid (hw ▸ Mine.fresh HH.out.lt _ _)
    have HH := hid (HH.out.alloc (.cells #[.int .u32 d.pub, .int .i64 1025] 26))
    have HC := hid (HC.out.alloc (.cells #[.int .u32 d.pub, .int .i64 1025] 26))
    have Hfr := hid (Hfr.out.alloc (.cells #[.int .u32 d.pub, .int .i64 1025] 26))
    have Ha := hid (Ha.out.alloc (.cells #[.int .u32 d.pub, .int .i64 1025] 26))
    have Hb := hid (Hb.out.alloc (.cells #[.int .u32 d.pub, .int .i64 1025] 26))
    have Hx := hid (Hx.out.alloc (.cells #[.int .u32 d.pub, .int .i64 1025] 26))
    rw [hw] at HH HC Hfr Ha Hb Hx ⊢
    clear hw
    refine (HH.out.out 0 ⟨fr1, fr2⟩ ⟨a1, a2⟩).mono ?_
    rw [H3.out]
    rintro e w9 ⟨rfl, hh, hu⟩
    obtain ⟨F9, hF⟩ : ∃ F9, grow F7 w8 w9 = F9 := ⟨_, rfl⟩
    have HH := hid hh
    have HC := hid (HC.out.call hu)
    have Ha := hid (Ha.out.call hu)
    have Hb := hid (Hb.out.call hu)
    have Hx := hid (Hx.out.call hu)
    have Hy := hid (Hy.out.call hu)
    rw [hF] at HH HC Ha Hb Hx Hy
    clear hh hu hF
    obtain ⟨w10, hw⟩ : ∃ w10, w9.alloc (.cells #[.int .u32 d.pub, .int .i64 1024] 26) = w10 := ⟨_, rfl⟩
    have Hz : Hid (Mine F9 w10 w9.heap.size #[.int .u32 d.pub, .int .i64 1024] 26) := hid (hw ▸ Mine.fresh HH.out.lt _ _)
    have HH := hid (HH.out.alloc (.cells #[.int .u32 d.pub, .int .i64 1024] 26))
    have HC := hid (HC.out.alloc (.cells #[.int .u32 d.pub, .int .i64 1024] 26))
    have Ha := hid (Ha.out.alloc (.cells #[.int .u32 d.pub, .int .i64 1024] 26))
    have Hb := hid (Hb.out.alloc (.cells #[.int .u32 d.pub, .int .i64 1024] 26))
    have Hx := hid (Hx.out.alloc (.cells #[.int .u32 d.pub, .int .i64 1024] 26))
    have Hy := hid (Hy.out.alloc (.cells #[.int .u32 d.pub, .int .i64 1024] 26))
    go_upto_region 9 with (fail)
    rw [hw] at HH HC Ha Hb Hx Hy
    clear hw
    obtain ⟨_, _, a2', a3'⟩ := Ha.out.ads a1 a2
    obtain ⟨_, _, b2', b3'⟩ := Hb.out.ads b1 b2
    obtain ⟨_, _, x2', x3'⟩ := Hx.out.ads d.pub 1024
    obtain ⟨_, _, y2', y3'⟩ := Hy.out.ads d.pub 1025
    obtain ⟨_, _, z2', z3'⟩ := Hz.out.ads d.pub 1024
    obtain ⟨c0, c1, c2, c3, c4⟩ := HC.out.cfgs
    go_wp2_with fail
    refine (HH.out.len).mono ?_
    rintro e w11 ⟨rfl, rfl⟩
    rw [HL.out]
    have HU := hid HH.out.upd
    go_wp2_with fail
    go_ret
    exact ⟨rfl, HU.out.below (Nat.le_refl _) (fun k h => h)⟩
end Go.Proofs.Ytbcchdnbfblooaa
