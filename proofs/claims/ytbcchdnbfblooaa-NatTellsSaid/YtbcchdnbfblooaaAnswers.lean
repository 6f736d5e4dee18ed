/- The walk of NatAnswers (no statement of the seat). -/
import Derived.Test.YtbcchdnbfblooaaShown
namespace Go.Proofs.Ytbcchdnbfblooaa
open Go.RowKit

theorem out_first (c : Cfg) (now : Int) (fr tt : Ad) : outL c now fr tt [] = ([⟨fr, 1024, cutT now, [tt]⟩], ⟨c.pub, 1024⟩, 0) := rfl
theorem in_first_dead (c : Cfg) (now u : Int) (fr tt b : Ad) (h : ¬ cutT now - c.tmo < u) : inL c now b ⟨c.pub, 1024⟩ [⟨fr, 1024, u, [tt]⟩] = ([], ⟨0, 0⟩, 7) := by
  simp [inL, alive, h]
theorem in_first (c : Cfg) (now u : Int) (fr tt b : Ad) (h : cutT now - c.tmo < u) : inL c now b ⟨c.pub, 1024⟩ [⟨fr, 1024, u, [tt]⟩] =
    if likeB c.fil tt b = true then ([⟨fr, 1024, u, [tt]⟩], fr, 0) else ([⟨fr, 1024, u, [tt]⟩], ⟨0, 0⟩, 9) := by
  simp [inL, alive, h]
theorem likeB_refl (n : Int) (a : Ad) : likeB n a a = true := by simp [likeB]
theorem cutT_id {n : Int} (h0 : 0 ≤ n) (h1 : n ≤ 1000000000) : cutT n = n := by
  unfold cutT; rw [if_neg (by omega), if_neg (by omega)]

theorem ans_dead (c : Cfg) (x : Int) (fr tt : Ad) (h0 : 0 ≤ x) (h1 : x < 200) (h : c.tmo ≤ x) : inL c (5 + x) tt ⟨c.pub, 1024⟩ [⟨fr, 1024, cutT 5, [tt]⟩] = ([], ⟨0, 0⟩, 7) :=
  in_first_dead c _ _ fr tt tt (by rw [cutT_id (by omega) (by omega), cutT_id (by omega) (by omega)]; omega)
theorem ans_live (c : Cfg) (x : Int) (fr tt : Ad) (h0 : 0 ≤ x) (h1 : x < 200) (h : x < c.tmo) : inL c (5 + x) tt ⟨c.pub, 1024⟩ [⟨fr, 1024, cutT 5, [tt]⟩] = ([⟨fr, 1024, cutT 5, [tt]⟩], fr, 0) := by
  rw [in_first c _ _ fr tt tt (by rw [cutT_id (by omega) (by omega), cutT_id (by omega) (by omega)]; omega), if_pos (likeB_refl _ _)]

/-- What lies where the arguments of a law lie. -/
theorem blk_cfg {w : World} {b : Nat} {c : Cfg} (h : w.heap[b]? = some (.cells #[.int .u32 c.pub, .int .i64 c.map, .int .i64 c.fil, .bool c.hair, .int .i64 c.tmo] 24 (0, 0))) (c' : Cfg) :
    (((((w.setCell ⟨b, 0, none⟩ (.int .u32 c'.pub)).setCell ⟨b, 1, none⟩ (.int .i64 c'.map)).setCell ⟨b, 2, none⟩ (.int .i64 c'.fil)).setCell ⟨b, 3, none⟩ (.bool c'.hair)).setCell ⟨b, 4, none⟩ (.int .i64 c'.tmo)).heap[b]? =
      some (.cells #[.int .u32 c'.pub, .int .i64 c'.map, .int .i64 c'.fil, .bool c'.hair, .int .i64 c'.tmo] 24 (0, 0)) := by
  exact (blk_set (blk_set (blk_set (blk_set (blk_set h 0 _) 1 _) 2 _) 3 _) 4 _).trans rfl

/-- A block laid, and what lies behind it. -/
theorem blk_new (w : World) (cs : Array Value) (t : TypeId) : Mine (fun _ => False) (w.alloc (.cells cs t)) w.heap.size cs t := ⟨heap_alloc_new w _, fun h => h⟩
theorem blk_new' {w : World} {n : Nat} (hn : w.heap.size = n) (cs : Array Value) (t : TypeId) : Mine (fun _ => False) (w.alloc (.cells cs t)) n cs t := hn ▸ blk_new w cs t
theorem Mine.cfgs {F : Nat → Prop} {w : World} {b : Nat} (pub map fil : Int) (hair : Bool) (tmo : Int) (h : Mine F w b #[.int .u32 pub, .int .i64 map, .int .i64 fil, .bool hair, .int .i64 tmo] 24) :
    w.cell? ⟨b, 0, none⟩ = some (.int .u32 pub) ∧ w.cell? ⟨b, 1, none⟩ = some (.int .i64 map) ∧ w.cell? ⟨b, 2, none⟩ = some (.int .i64 fil) ∧ w.cell? ⟨b, 3, none⟩ = some (.bool hair) ∧ w.cell? ⟨b, 4, none⟩ = some (.int .i64 tmo) :=
  ⟨(blk_cell h.blk 0).trans rfl, (blk_cell h.blk 1).trans rfl, (blk_cell h.blk 2).trans rfl, (blk_cell h.blk 3).trans rfl, (blk_cell h.blk 4).trans rfl⟩
abbrev setCfg (w : World) (b : Nat) (c : Cfg) : World :=
  ((((w.setCell ⟨b, 0, none⟩ (.int .u32 c.pub)).setCell ⟨b, 1, none⟩ (.int .i64 c.map)).setCell ⟨b, 2, none⟩ (.int .i64 c.fil)).setCell ⟨b, 3, none⟩ (.bool c.hair)).setCell ⟨b, 4, none⟩ (.int .i64 c.tmo)
theorem upd_cfg (w : World) (b : Nat) (c : Cfg) : Upd (fun k => k = b) w (setCfg w b c) :=
  (((((Upd.refl (fun k => k = b) w).setCell (p := ⟨b, 0, none⟩) (fun _ => rfl) _).setCell (p := ⟨b, 1, none⟩) (fun _ => rfl) _).setCell (p := ⟨b, 2, none⟩) (fun _ => rfl) _).setCell (p := ⟨b, 3, none⟩) (fun _ => rfl) _).setCell (p := ⟨b, 4, none⟩) (fun _ => rfl) _
theorem Mine.but {F S : Nat → Prop} {w w' : World} {b : Nat} {cs : Array Value} {t : TypeId} (h : Mine F w b cs t) (hu : Upd S w w') (hn : ¬ S b) : Mine F w' b cs t := ⟨hu.blk h.blk hn, h.out⟩
theorem Mine.move {F F' : Nat → Prop} {w : World} {b : Nat} {cs : Array Value} {t : TypeId} (h : Mine F w b cs t) (hn : ¬ F' b) : Mine F' w b cs t := ⟨h.blk, hn⟩

set_option maxRecDepth 100000 in
set_option maxHeartbeats 4000000 in
theorem answers_walk (c : Cfg) (fr tt : Ad) (x : Int) (w : World) : Calls Try.prog 3 #[c.v, fr.v, tt.v, .int .i64 x] w fun e w' => e = .returned (.bool true) ∧ Below w.heap.size w w' := by
  obtain ⟨f1, f2⟩ := fr
  obtain ⟨t1, t2⟩ := tt
  obtain ⟨w0, hw0⟩ : ∃ w0, ((w.alloc (.cells #[.int .u32 c.pub, .int .i64 c.map, .int .i64 c.fil, .bool c.hair, .int .i64 c.tmo] 24)).alloc (.cells #[.int .u32 f1, .int .i64 f2] 26)).alloc (.cells #[.int .u32 t1, .int .i64 t2] 26) = w0 := ⟨_, rfl⟩
  have C0 : Mine (fun _ => False) w0 w.heap.size #[.int .u32 c.pub, .int .i64 c.map, .int .i64 c.fil, .bool c.hair, .int .i64 c.tmo] 24 := by rw [← hw0]; exact ((blk_new w _ _).alloc _).alloc _
  have A0 : Mine (fun _ => False) w0 (w.heap.size + 1) #[.int .u32 f1, .int .i64 f2] 26 := by rw [← hw0]; exact (blk_new' (World.size_alloc _ _) _ _).alloc _
  have B0 : Mine (fun _ => False) w0 (w.heap.size + 1 + 1) #[.int .u32 t1, .int .i64 t2] 26 := by rw [← hw0]; exact blk_new' (by simp only [World.size_alloc]) _ _
  have U0 : Upd (fun k => w.heap.size ≤ k) w w0 := by rw [← hw0]; exact (((Upd.refl _ w).alloc _).alloc _).alloc _
  have HC := hid C0
  have HA := hid A0
  have HB := hid B0
  have HU := hid U0
  clear C0 A0 B0 U0
  go_enter Try.func3, Try.ntmps3
  go_wp2_with fail
  refine (shown_any _).mono ?_
  rintro e w1 ⟨rfl, hu⟩
  have HC1 := hid (HC.out.still hu)
  have HA1 := hid (HA.out.still hu)
  have HB1 := hid (HB.out.still hu)
  have HU1 : Hid (Upd (fun k => w.heap.size ≤ k) w w1) := hid (HU.out.then_ hu (fun _ _ h => h.elim))
  clear hu hw0 HC HA HB HU
  obtain ⟨c0, c1, c2, c3, c4⟩ := HC1.out.cfgs
  go_wp2_with fail
  clear c0 c1 c2 c3 c4
  refine (few_any c _).mono ?_
  rintro e w2 ⟨rfl, hu⟩
  have HC2 := hid (HC1.out.still hu)
  have HA2 := hid (HA1.out.still hu)
  have HB2 := hid (HB1.out.still hu)
  have HU2 : Hid (Upd (fun k => w.heap.size ≤ k) w w2) := hid (HU1.out.then_ hu (fun _ _ h => h.elim))
  clear hu HC1 HA1 HB1 HU1
  obtain ⟨d, hd⟩ : ∃ d, few c = d := ⟨_, rfl⟩
  have HR : Hid (Right d) := hid (hd ▸ few_right c)
  rw [hd]
  clear hd
  obtain ⟨c0, c1, c2, c3, c4⟩ := HC2.out.cfgs
  have g0 : ∀ i, w2.frozen? ⟨w.heap.size, i, none⟩ = false := fun i => blk_free HC2.out.blk i
  go_upto_region 4 with fail
  clear c0 c1 c2 c3 c4 g0
  obtain ⟨y, hy⟩ : ∃ y, (bits .and .i64 x 65535).tmod 200 = y := ⟨_, rfl⟩
  have hyr : 0 ≤ y ∧ y < 200 := hy ▸ low_in x 200 (by decide)
  rw [hy]
  obtain ⟨w3, hw3⟩ : ∃ w3, setCfg w2 w.heap.size d = w3 := ⟨_, rfl⟩
  have hu := upd_cfg w2 w.heap.size d
  have HC3 : Hid (Mine (fun _ => False) w3 w.heap.size #[.int .u32 d.pub, .int .i64 d.map, .int .i64 d.fil, .bool d.hair, .int .i64 d.tmo] 24) := hid ⟨hw3 ▸ blk_cfg HC2.out.blk d, fun h => h⟩
  unfold setCfg at hw3 hu
  rw [hw3] at hu ⊢
  have HA3 := hid (HA2.out.but hu (by omega))
  have HB3 := hid (HB2.out.but hu (by omega))
  have HU3 : Hid (Upd (fun k => w.heap.size ≤ k) w w3) := hid (HU2.out.then_ hu (fun _ _ h => by omega))
  clear hu hw3 HC2 HA2 HB2 HU2 hy
  obtain ⟨c0, c1, c2, c3, c4⟩ := HC3.out.cfgs
  go_wp2_with fail
  clear c0 c1 c2 c3 c4
  refine (has_new w d HR.out _ HU3.out).mono ?_
  rintro e w4 ⟨g, F, rfl, hh, hF, hu⟩
  have HH := hid hh
  have HC4 := hid (Mine.ahead HC3.out.blk hF hu)
  have HA4 := hid (Mine.ahead HA3.out.blk hF hu)
  have HB4 := hid (Mine.ahead HB3.out.blk hF hu)
  clear hh hF hu HC3 HA3 HB3 HU3
  obtain ⟨a0, a1, a2, a3⟩ := HA4.out.ads f1 f2
  obtain ⟨b0, b1, b2, b3⟩ := HB4.out.ads t1 t2
  go_wp2_with fail
  clear a0 a1 a2 a3 b0 b1 b2 b3
  refine (HH.out.out 5 ⟨f1, f2⟩ ⟨t1, t2⟩).mono ?_
  rw [out_first]
  rintro e w5 ⟨rfl, hh, hu⟩
  obtain ⟨F5, hF⟩ : ∃ F5, grow F w4 w5 = F5 := ⟨_, rfl⟩
  have HH := hid hh
  have HA5 := hid (HA4.out.call hu)
  have HB5 := hid (HB4.out.call hu)
  have HC5 := hid (HC4.out.call hu)
  rw [hF] at HH HA5 HB5 HC5
  clear hh hu hF HA4 HB4 HC4
  obtain ⟨b0, b1, b2, b3⟩ := HB5.out.ads t1 t2
  go_wp2_with fail
  clear b0 b1 b2 b3
  obtain ⟨w6, hw6⟩ : ∃ w6, w5.alloc (.cells #[.int .u32 d.pub, .int .i64 1024] 26) = w6 := ⟨_, rfl⟩
  have HH6 : Hid (Has w g d [⟨⟨f1, f2⟩, 1024, cutT 5, [⟨t1, t2⟩]⟩] F5 w6) := hid (hw6 ▸ HH.out.alloc _)
  have HD6 : Hid (Mine F5 w6 w5.heap.size #[.int .u32 d.pub, .int .i64 1024] 26) := hid (hw6 ▸ Mine.fresh HH.out.lt _ _)
  have HA6 : Hid (Mine F5 w6 _ _ _) := hid (hw6 ▸ HA5.out.alloc _)
  have HC6 : Hid (Mine F5 w6 _ _ _) := hid (hw6 ▸ HC5.out.alloc _)
  rw [hw6]
  clear hw6 HH HA5 HB5 HC5
  refine (HH6.out.in_ (5 + y) ⟨t1, t2⟩ ⟨d.pub, 1024⟩).mono ?_
  rcases Int.lt_or_le y d.tmo with ht | ht
  · rw [ans_live d y _ _ hyr.1 hyr.2 ht]
    rintro e w7 ⟨rfl, hh, hu⟩
    obtain ⟨F7, hF⟩ : ∃ F7, grow F5 w6 w7 = F7 := ⟨_, rfl⟩
    have HH := hid hh
    have HA7 := hid (HA6.out.call hu)
    have HC7 := hid (HC6.out.call hu)
    have HD7 := hid (HD6.out.call hu)
    rw [hF] at HH HA7 HC7 HD7
    clear hh hu hF HA6 HC6 HD6 HH6
    obtain ⟨a0, a1, a2, a3⟩ := HA7.out.ads f1 f2
    obtain ⟨d0, d1, d2, d3⟩ := HD7.out.ads d.pub 1024
    obtain ⟨c0, c1, c2, c3, c4⟩ := (HC7.out.alloc (.cells #[.int .u32 f1, .int .i64 f2] 26)).cfgs
    go_wp2_with fail
    refine ((HH.out.alloc (.cells #[.int .u32 f1, .int .i64 f2] 26)).len).mono ?_
    rintro e w8 ⟨rfl, rfl⟩
    have HU := hid (HH.out.alloc (.cells #[.int .u32 f1, .int .i64 f2] 26)).upd
    go_wp2_with fail
    go_ret
    exact ⟨rfl, HU.out.below (Nat.le_refl _) (fun k h => h)⟩
  · rw [ans_dead d y _ _ hyr.1 hyr.2 ht]
    rintro e w7 ⟨rfl, hh, hu⟩
    obtain ⟨F7, hF⟩ : ∃ F7, grow F5 w6 w7 = F7 := ⟨_, rfl⟩
    have HH := hid hh
    have HC7 := hid (HC6.out.call hu)
    have HD7 := hid (HD6.out.call hu)
    rw [hF] at HH HC7 HD7
    clear hh hu hF HA6 HC6 HD6 HH6
    obtain ⟨d0, d1, d2, d3⟩ := HD7.out.ads d.pub 1024
    obtain ⟨c0, c1, c2, c3, c4⟩ := (HC7.out.alloc (.cells #[.int .u32 0, .int .i64 0] 26)).cfgs
    go_wp2_with fail
    refine ((HH.out.alloc (.cells #[.int .u32 0, .int .i64 0] 26)).len).mono ?_
    rintro e w8 ⟨rfl, rfl⟩
    have HU := hid (HH.out.alloc (.cells #[.int .u32 0, .int .i64 0] 26)).upd
    go_wp2_with fail
    go_ret
    exact ⟨rfl, HU.out.below (Nat.le_refl _) (fun k h => h)⟩
end Go.Proofs.Ytbcchdnbfblooaa
