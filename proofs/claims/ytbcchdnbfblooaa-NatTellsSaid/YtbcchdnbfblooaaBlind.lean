/- The walk of NatBlind (no statement of the seat). -/
import Derived.Test.YtbcchdnbfblooaaKeeps
import Derived.Deep.Cut
import Derived.Deep.CutRange
import Derived.Deep.RegionWith
namespace Go.Proofs.Ytbcchdnbfblooaa
open Go.RowKit

structure St where
  inn : Bool
  later : Int
  fr : Ad
  tt : Ad
/-- The steps of a slice that came in. -/
structure SrcS (w : World) (a : Option Addr) (len : Nat) (f : Nat → St) : Prop where
  max : len ≤ 9223372036854775807
  at_ : ∀ i, i < len → ∃ b off, a = some ⟨b, off, none⟩ ∧ b < w.heap.size ∧
    w.cell? ⟨b, off + i * 6, none⟩ = some (.bool (f i).inn) ∧ w.cell? ⟨b, off + i * 6 + 1, none⟩ = some (.int .i64 (f i).later) ∧
    w.cell? ⟨b, off + i * 6 + 2, none⟩ = some (.int .u32 (f i).fr.h) ∧ w.cell? ⟨b, off + i * 6 + 3, none⟩ = some (.int .i64 (f i).fr.p) ∧
    w.cell? ⟨b, off + i * 6 + 4, none⟩ = some (.int .u32 (f i).tt.h) ∧ w.cell? ⟨b, off + i * 6 + 5, none⟩ = some (.int .i64 (f i).tt.p)
theorem SrcS.upd {w w' : World} {a : Option Addr} {len : Nat} {f : Nat → St} {S : Nat → Prop} (h : SrcS w a len f)
    (hu : Upd S w w') (hs : ∀ b, b < w.heap.size → ¬ S b) : SrcS w' a len f :=
  ⟨h.max, fun i hi => by
    obtain ⟨b, off, ha, hb, h0, h1, h2, h3, h4, h5⟩ := h.at_ i hi
    exact ⟨b, off, ha, Nat.lt_of_lt_of_le hb hu.size, hu.cell h0 (hs b hb), hu.cell h1 (hs b hb), hu.cell h2 (hs b hb), hu.cell h3 (hs b hb), hu.cell h4 (hs b hb), hu.cell h5 (hs b hb)⟩⟩
/-- Two boxes, apart. -/
structure Two (w : World) (ga gb : Nat) (c e : Cfg) (La Lb : List Ent) (Fa Fb : Nat → Prop) (W : World) : Prop where
  a : Has w ga c La Fa W
  b : Has w gb e Lb Fb W
  dis : ∀ k, Fa k → ¬ Fb k
section
variable {w wr W : World} {ga gb : Nat} {c e : Cfg} {La Lb : List Ent} {Fa Fb : Nat → Prop}
theorem Two.swap (h : Two w ga gb c e La Lb Fa Fb W) : Two w gb ga e c Lb La Fb Fa W := ⟨h.b, h.a, fun k h1 h2 => h.dis k h2 h1⟩
theorem Two.still (h : Two w ga gb c e La Lb Fa Fb wr) (hu : Upd (fun _ => False) wr W) : Two w ga gb c e La Lb Fa Fb W := ⟨h.a.still hu, h.b.still hu, h.dis⟩
theorem Two.step (h : Two w ga gb c e La Lb Fa Fb wr) {L' : List Ent} (hh : Has w ga c L' (grow Fa wr W) W) (hu : Upd Fa wr W) :
    Two w ga gb c e L' Lb (grow Fa wr W) Fb W ∧ ∀ k, ¬ Fa k → k < wr.heap.size → ¬ grow Fa wr W k :=
  ⟨⟨hh, h.b.over hu (fun k h1 h2 => h.dis k h2 h1) h.a.new, fun k hk hb => hk.elim (fun h1 => h.dis k h1 hb) (fun ⟨h1, _⟩ => by have := h.b.lt k hb; omega)⟩,
    fun k h1 h2 h3 => h3.elim h1 (fun ⟨h4, _⟩ => by omega)⟩
theorem Two.out (h0 : Two w ga gb c e La Lb Fa Fb wr) (W : World) (hu : Upd (fun _ => False) wr W) (now : Int) (fr tt : Ad) :
    Calls Try.prog 13 #[ptr ga, .int .i64 now, fr.v, tt.v] W fun r w' => r = .returned (.tuple #[(outL c now fr tt La).2.1.v, .int .i64 (outL c now fr tt La).2.2]) ∧
      ∃ Fa', Two w ga gb c e (outL c now fr tt La).1 Lb Fa' Fb w' ∧ Upd Fa W w' ∧ ∀ k, ¬ Fa k → k < W.heap.size → ¬ Fa' k := by
  have h := h0.still hu
  refine (h.a.out now fr tt).mono ?_
  rintro r w' ⟨rfl, hh, hu⟩
  have := h.step hh hu
  exact ⟨rfl, _, this.1, hu, this.2⟩
theorem Two.in_ (h0 : Two w ga gb c e La Lb Fa Fb wr) (W : World) (hu : Upd (fun _ => False) wr W) (now : Int) (fr tt : Ad) :
    Calls Try.prog 14 #[ptr ga, .int .i64 now, fr.v, tt.v] W fun r w' => r = .returned (.tuple #[(inL c now fr tt La).2.1.v, .int .i64 (inL c now fr tt La).2.2]) ∧
      ∃ Fa', Two w ga gb c e (inL c now fr tt La).1 Lb Fa' Fb w' ∧ Upd Fa W w' ∧ ∀ k, ¬ Fa k → k < W.heap.size → ¬ Fa' k := by
  have h := h0.still hu
  refine (h.a.in_ now fr tt).mono ?_
  rintro r w' ⟨rfl, hh, hu⟩
  have := h.step hh hu
  exact ⟨rfl, _, this.1, hu, this.2⟩
end
abbrev adCell (a : Ad) : Array Value := #[.int .u32 a.h, .int .i64 a.p]
/-- Two boxes, and an address in a block of the walk's own. -/
def TwoX (w : World) (ga gb : Nat) (c e : Cfg) (La Lb : List Ent) (Fb : Nat → Prop) (a : Ad) (x : Value) (W : World) : Prop :=
  ∃ bx Fa, x = ptr bx ∧ Two w ga gb c e La Lb Fa Fb W ∧ Mine Fa W bx (adCell a) 26 ∧ ¬ Fb bx
section
variable {w wr W : World} {ga gb bx : Nat} {c e : Cfg} {La Lb : List Ent} {Fa Fb : Nat → Prop} {a : Ad}
theorem TwoX.late (h : Two w ga gb c e La Lb Fa Fb W) : TwoX w ga gb c e La Lb Fb a (ptr W.heap.size) (W.alloc (.cells (adCell a) 26)) :=
  ⟨_, Fa, rfl, h.still ((Upd.refl _ W).alloc _), Mine.fresh h.a.lt _ _, fun hk => Nat.lt_irrefl _ (h.b.lt _ hk)⟩
theorem TwoX.early (h : Two w ga gb c e La Lb Fa Fb W) (hb : W.heap[bx]? = some (.cells #[.int .u32 0, .int .i64 0] 26 (0, 0))) (h1 : ¬ Fa bx) (h2 : ¬ Fb bx) (h3 : w.heap.size ≤ bx) :
    TwoX w ga gb c e La Lb Fb a (ptr bx) ((W.setCell ⟨bx, 0, none⟩ (.int .u32 a.h)).setCell ⟨bx, 1, none⟩ (.int .i64 a.p)) := by
  have hu : Upd (fun k => k = bx) W ((W.setCell ⟨bx, 0, none⟩ (.int .u32 a.h)).setCell ⟨bx, 1, none⟩ (.int .i64 a.p)) :=
    ((Upd.refl (fun k => k = bx) W).setCell (p := ⟨bx, 0, none⟩) (fun _ => rfl) _).setCell (p := ⟨bx, 1, none⟩) (fun _ => rfl) _
  refine ⟨bx, Fa, rfl, ⟨h.a.over hu (fun k hk e => h1 (e ▸ hk)) (fun k e => e ▸ h3), h.b.over hu (fun k hk e => h2 (e ▸ hk)) (fun k e => e ▸ h3), h.dis⟩, ⟨?_, h1⟩, h2⟩
  exact (blk_set (blk_set hb 0 _) 1 _).trans rfl
end
theorem zero_blk {F : Nat → Prop} {wr W : World} (hlt : ∀ k, F k → k < wr.heap.size) (hu : Upd F (wr.alloc (.cells #[.int .u32 0, .int .i64 0] 26)).drew W) :
    W.heap[wr.heap.size]? = some (.cells #[.int .u32 0, .int .i64 0] 26 (0, 0)) :=
  hu.blk (heap_alloc_new wr (.cells #[.int .u32 0, .int .i64 0] 26)) (fun h => Nat.lt_irrefl _ (hlt _ h))
theorem keep_late {F : Nat → Prop} {wr W : World} {b : Nat} {o o' : Obj} (h : wr.heap[b]? = some o) (hn : ¬ F b) (hu : Upd F wr.drew W) : (W.alloc o').heap[b]? = some o :=
  ((Upd.refl (fun _ => False) W).alloc o').blk (hu.blk h hn) (fun h => h)
theorem keep_early {F : Nat → Prop} {wr W : World} {b : Nat} {o : Obj} {u v : Value} (h : wr.heap[b]? = some o) (hn : ¬ F b) (hu : Upd F (wr.alloc (.cells #[.int .u32 0, .int .i64 0] 26)).drew W) :
    ((W.setCell ⟨wr.heap.size, 0, none⟩ u).setCell ⟨wr.heap.size, 1, none⟩ v).heap[b]? = some o := by
  have hne : b ≠ wr.heap.size := by have := lt_of_block h; omega
  have h1 : W.heap[b]? = some o := hu.blk (((Upd.refl (fun _ => False) wr).alloc _).blk h (fun h => h)) hn
  exact (((Upd.refl (fun k => k = wr.heap.size) W).setCell (p := ⟨wr.heap.size, 0, none⟩) (fun _ => rfl) u).setCell (p := ⟨wr.heap.size, 1, none⟩) (fun _ => rfl) v).blk h1 hne
def BlindR (w : World) (ga gb : Nat) (c : Cfg) (x : Int) (len : Nat) (i : Value) (wr : World) : Prop :=
  ∃ (k : Nat) (L : List Ent) (Fa Fb : Nat → Prop), k ≤ len ∧ k ≤ 40 ∧ i = .int .i64 k ∧ Two w ga gb c { c with fil := x } L L Fa Fb wr

set_option maxRecDepth 100000 in
set_option maxHeartbeats 8000000 in
theorem blind_walk (c : Cfg) (x : Int) (a0 : Option Addr) (len0 cap0 : Nat) (f : Nat → St) (w : World) (hs : SrcS w a0 len0 f) : Calls Try.prog 8 #[c.v, .int .i64 x, .slice a0 len0 cap0] w fun e w' => e = .returned (.bool true) ∧ Below w.heap.size w w' := by
  have hmax := hs.max
  have HSR := hid hs
  clear hs
  obtain ⟨w0, hw0⟩ : ∃ w0, w.alloc (.cells #[.int .u32 c.pub, .int .i64 c.map, .int .i64 c.fil, .bool c.hair, .int .i64 c.tmo] 24) = w0 := ⟨_, rfl⟩
  have HC := hid (show Mine (fun _ => False) w0 w.heap.size #[.int .u32 c.pub, .int .i64 c.map, .int .i64 c.fil, .bool c.hair, .int .i64 c.tmo] 24 by rw [← hw0]; exact blk_new w _ _)
  have HU : Hid (Upd (fun k => w.heap.size ≤ k) w w0) := hid (by rw [← hw0]; exact (Upd.refl _ w).alloc _)
  go_enter Try.func8, Try.ntmps8
  go_wp2_with fail
  refine (shown_any _).mono ?_
  rintro e w1 ⟨rfl, hu⟩
  have HC := hid (HC.out.still hu)
  have HU : Hid (Upd (fun k => w.heap.size ≤ k) w w1) := hid (HU.out.then_ hu (fun _ _ h => h.elim))
  clear hu hw0
  obtain ⟨c0, c1, c2, c3, c4⟩ := HC.out.cfgs
  go_wp2_with fail
  clear c0 c1 c2 c3 c4
  refine (few_any c _).mono ?_
  rintro e w2 ⟨rfl, hu⟩
  have HC := hid (HC.out.still hu)
  have HU : Hid (Upd (fun k => w.heap.size ≤ k) w w2) := hid (HU.out.then_ hu (fun _ _ h => h.elim))
  clear hu
  obtain ⟨d, hd⟩ : ∃ d, few c = d := ⟨_, rfl⟩
  have HR : Hid (Right d) := hid (hd ▸ few_right c)
  have HT : Hid (10 ≤ d.tmo ∧ d.tmo ≤ 109) := hid (hd ▸ few_tmo c)
  have HPU : Hid (0 ≤ d.pub ∧ d.pub < 4294967296) := hid (hd ▸ few_pub c)
  rw [hd]
  clear hd
  obtain ⟨c0, c1, c2, c3, c4⟩ := HC.out.cfgs
  have g0 : ∀ i, w2.frozen? ⟨w.heap.size, i, none⟩ = false := fun i => blk_free HC.out.blk i
  go_upto_region 3 with fail
  clear c0 c1 c2 c3 c4 g0
  obtain ⟨w3, hw3⟩ : ∃ w3, setCfg w2 w.heap.size d = w3 := ⟨_, rfl⟩
  have hu := upd_cfg w2 w.heap.size d
  have HC : Hid (Mine (fun _ => False) w3 w.heap.size #[.int .u32 d.pub, .int .i64 d.map, .int .i64 d.fil, .bool d.hair, .int .i64 d.tmo] 24) := hid ⟨hw3 ▸ blk_cfg HC.out.blk d, fun h => h⟩
  unfold setCfg at hw3 hu
  rw [hw3] at hu ⊢
  have HU : Hid (Upd (fun k => w.heap.size ≤ k) w w3) := hid (HU.out.then_ hu (fun _ _ h => by omega))
  clear hu hw3
  obtain ⟨c0, c1, c2, c3, c4⟩ := HC.out.cfgs
  go_upto_region 4 with (fail)
  clear c0 c1 c2 c3 c4
  have hlt3 : w.heap.size < w3.heap.size := lt_of_block HC.out.blk
  obtain ⟨w4, hw⟩ : ∃ w4, w3.alloc (.cells (cfgCells d) 24) = w4 := ⟨_, rfl⟩
  have HD : Hid (Mine (fun _ => False) w4 w3.heap.size (cfgCells d) 24) := hid (hw ▸ blk_new w3 _ _)
  have HC := hid (HC.out.alloc (.cells (cfgCells d) 24))
  have HU : Hid (Upd (fun k => w.heap.size ≤ k) w w4) := hid (hw ▸ HU.out.alloc _)
  have HC3 := hid hlt3
  unfold cfgCells at hw HD
  rw [hw] at HC ⊢
  clear hw
  obtain ⟨y, hy⟩ : ∃ y, 1 + (bits .and .i64 x 65535).tmod 3 = y := ⟨_, rfl⟩
  have hyr : 1 ≤ y ∧ y ≤ 3 := by have h := low_in x 3 (by decide); unfold low at h; simp at h; omega
  have e2 : w4.cell? ⟨w3.heap.size, 2, none⟩ = some (.int .i64 d.fil) := (blk_cell HD.out.blk 2).trans rfl
  have f2 : w4.frozen? ⟨w3.heap.size, 2, none⟩ = false := blk_free HD.out.blk 2
  go_upto_region 5 with (fail)
  clear e2 f2 hy
  have hu := (Upd.refl (fun k => k = w3.heap.size) w4).setCell (p := ⟨w3.heap.size, 2, none⟩) (fun _ => rfl) (.int .i64 y)
  have HD : Hid (Mine (fun _ => False) _ w3.heap.size #[.int .u32 d.pub, .int .i64 d.map, .int .i64 y, .bool d.hair, .int .i64 d.tmo] 24) := hid ⟨(blk_set HD.out.blk 2 (.int .i64 y)).trans rfl, fun h => h⟩
  obtain ⟨w5, hw⟩ : ∃ w5, w4.setCell ⟨w3.heap.size, 2, none⟩ (.int .i64 y) = w5 := ⟨_, rfl⟩
  rw [hw] at HD hu ⊢
  have hne : w.heap.size ≠ w3.heap.size := by
    have h1 := HC3.out
    omega
  have HC := hid (HC.out.but hu hne)
  have HU : Hid (Upd (fun k => w.heap.size ≤ k) w w5) := hid (HU.out.then_ hu (fun _ _ h => by omega))
  clear hu hw
  have HR2 : Hid (Right { d with fil := y }) := hid ⟨HR.out.pub, HR.out.map0, HR.out.map1, hyr.1, hyr.2, HR.out.tmo0, HR.out.tmo1⟩
  obtain ⟨c0, c1, c2, c3, c4⟩ := HC.out.cfgs
  go_wp2_with fail
  clear c0 c1 c2 c3 c4
  refine (has_new w d HR.out _ HU.out).mono ?_
  rintro e w6 ⟨ga, F1, rfl, hh, hF, hu⟩
  have HA := hid hh
  have HD := hid (HD.out.still hu)
  clear hh hF hu
  obtain ⟨c0, c1, c2, c3, c4⟩ := HD.out.cfgs
  go_wp2_with fail
  clear c0 c1 c2 c3 c4
  refine (has_new w { d with fil := y } HR2.out _ HA.out.upd).mono ?_
  rintro e w7 ⟨gb, F2, rfl, hh, hF, hu⟩
  have hdis : ∀ k, F1 k → ¬ F2 k := fun k h1 h2 => by
    have := HA.out.lt k h1
    have := hF k h2
    omega
  have HDI := hid hdis
  have HA := hid (HA.out.still hu)
  have HB := hid hh
  clear hh hF hu hdis
  go_wp2_with fail
  have HTW := hid (show Two w ga gb d { d with fil := y } [] [] F1 F2 w7 from ⟨HA.out, HB.out, HDI.out⟩)
  clear HA HB HDI
  go_loopw [13] (fun i wr => BlindR w ga gb d y len0 i wr) (fun i _ => len0 - (intOf i).toNat)
  case atStart => exact ⟨0, [], F1, F2, by omega, by omega, rfl, HTW.out⟩
  case round =>
    obtain ⟨k, L, Fa, Fb, hk, hk40, rfl, hT⟩ := hrel
    have HTA := hid hT
    clear hT
    by_cases hlt : k < len0 ∧ k < 40
    · have k1 : decide (k < len0) = true := decide_eq_true hlt.1
      have k3 := hlt.1
      have k4 := hlt.2
      obtain ⟨b, off, ha, hb, s0, s1, s2, s3, s4, s5⟩ := (HSR.out.upd HTA.out.a.upd (fun b hb hn => by omega)).at_ k hlt.1
      subst ha
      obtain ⟨⟨si, sl, ⟨sf1, sf2⟩, ⟨st1, st2⟩⟩, hfk⟩ : ∃ q, f k = q := ⟨_, rfl⟩
      have HFK := hid hfk
      rw [hfk] at s0 s1 s2 s3 s4 s5
      clear hlt hfk
      have hwr : w.heap.size ≤ wr.heap.size := HTA.out.a.upd.size
      have HWR := hid hwr
      obtain ⟨⟨M, ad, er⟩, hM⟩ : ∃ q, outL d (k : Int) ⟨sf1, sf2⟩ ⟨st1, st2⟩ L = q := ⟨_, rfl⟩
      have HMO := hid hM
      have HMB : Hid (outL { d with fil := y } (k : Int) ⟨sf1, sf2⟩ ⟨st1, st2⟩ L = (M, ad, er)) := hid ((blind_out d y k _ _ L).trans hM)
      have hin : (inL d k ⟨st1, st2⟩ ad M).1 = M := by have := blind_in d HTA.out.a.right.tmo0 k ⟨sf1, sf2⟩ ⟨st1, st2⟩ ⟨st1, st2⟩ ad L; rw [hM] at this; exact this
      have HIN := hid hin
      clear hwr hM hin
      go_upto_region 12 with (fail)
      go_cut [14, 15] from 51 to 121 (fun x14 e15 wx => TwoX w ga gb d { d with fil := y } M L Fb ad x14 wx ∧ e15 = .int .i64 er)
      case first =>
        go_region_with (go_at_call 13; refine (HTA.out.out _ ?_ (k : Int) ⟨sf1, sf2⟩ ⟨st1, st2⟩).mono ?_; (first | exact (Upd.refl _ _).drew | exact ((Upd.refl _ _).alloc _).drew); rw [HMO.out]; rintro r w8 ⟨rfl, Fa', hT8, hu8, hk8⟩; (first | (have zb := zero_blk HTA.out.a.lt hu8; have z0 := (blk_cell zb 0).trans rfl; have z1 := (blk_cell zb 1).trans rfl; have y0 := blk_free zb 0; have y1 := blk_free zb 1) | skip))
        all_goals
          go_wp2_with fail
          go_meet
        all_goals first
          | exact ⟨TwoX.late hT8, rfl⟩
          | exact ⟨TwoX.early hT8 zb (hk8 _ (fun h => Nat.lt_irrefl _ (HTA.out.a.lt _ h)) (by simp [World.size_alloc])) (fun h => Nat.lt_irrefl _ (HTA.out.b.lt _ h)) HWR.out, rfl⟩
      case rest =>
        obtain ⟨⟨bx, Fa1, rfl, hT, hX, hnb⟩, rfl⟩ := hcut
        have HT2 := hid hT
        have HX2 := hid hX
        have HNB := hid hnb
        clear hT hX hnb s0 s1 s2 s3 s4 s5 hb
        obtain ⟨b', off', ha, hb, s0, s1, s2, s3, s4, s5⟩ := (HSR.out.upd HT2.out.a.upd (fun b hb hn => by omega)).at_ k k3
        cases ha
        rw [HFK.out] at s0 s1 s2 s3 s4 s5
        obtain ⟨x0', x1', x2', x3'⟩ := HX2.out.ads ad.h ad.p
        dsimp only at s0 s1 s2 s3 s4 s5
        go_upto_if 81 with (fail)
        go_cut [15] from 51 to 121 (fun e15 wx => e15 = .int .i64 er ∧ ∃ Fa, Two w ga gb d { d with fil := y } M L Fa Fb wx ∧ Mine Fa wx bx (adCell ad) 26)
        case first =>
          cases si with
          | false =>
            go_wp2_with fail
            go_meet
            exact ⟨rfl, Fa1, HT2.out, HX2.out⟩
          | true =>
            go_upto_region 14 with (fail)
            refine wp_region_still_tail 8 (by kernel_rfl) (by kernel_rfl) ?_
            simp only [List.take_succ_cons, List.take_zero, List.drop_succ_cons, List.drop_zero, World.drew_eq]
            repeat still_step
            refine wpStill_nil ?_
            go_wp2_with fail
            refine (HT2.out.in_ _ ?_ (k : Int) ⟨st1, st2⟩ ad).mono ?_
            · exact (Upd.refl _ _).drew
            rintro r w9 ⟨rfl, Fa', hT9, hu9, hk9⟩
            rw [HIN.out] at hT9
            go_wp2_with fail
            go_meet
            exact ⟨rfl, Fa', hT9, ⟨hu9.blk HX2.out.blk HX2.out.out, hk9 _ HX2.out.out (lt_of_block HX2.out.blk)⟩⟩
        case rest =>
          obtain ⟨rfl, Fa2, hT, hX⟩ := hcut
          have HT3 := hid hT
          have HX3 := hid hX
          clear hT hX s0 s1 s2 s3 s4 s5 hb HT2 HX2 x0' x1' x2' x3'
          obtain ⟨b', off', ha, hb, s0, s1, s2, s3, s4, s5⟩ := (HSR.out.upd HT3.out.a.upd (fun b hb hn => by omega)).at_ k k3
          cases ha
          rw [HFK.out] at s0 s1 s2 s3 s4 s5
          dsimp only at s0 s1 s2 s3 s4 s5
          have hwr : w.heap.size ≤ wc.heap.size := HT3.out.a.upd.size
          have HWR := hid hwr
          clear hwr
          go_upto_region 15 with (fail)
          go_cut [16, 17] from 51 to 121 (fun x16 e17 wx => TwoX w gb ga { d with fil := y } d M M Fa2 ad x16 wx ∧ e17 = .int .i64 er ∧ wx.heap[bx]? = some (.cells (adCell ad) 26 (0, 0)))
          case first =>
            go_region_with (go_at_call 13; refine (HT3.out.swap.out _ ?_ (k : Int) ⟨sf1, sf2⟩ ⟨st1, st2⟩).mono ?_; (first | exact (Upd.refl _ _).drew | exact ((Upd.refl _ _).alloc _).drew); rw [HMB.out]; rintro r w8 ⟨rfl, Fb', hT8, hu8, hk8⟩; (first | (have zb := zero_blk HT3.out.b.lt hu8; have z0 := (blk_cell zb 0).trans rfl; have z1 := (blk_cell zb 1).trans rfl; have y0 := blk_free zb 0; have y1 := blk_free zb 1) | skip))
            all_goals
              go_wp2_with fail
              go_meet
            all_goals first
              | exact ⟨TwoX.late hT8, rfl, keep_late HX3.out.blk HNB.out hu8⟩
              | exact ⟨TwoX.early hT8 zb (hk8 _ (fun h => Nat.lt_irrefl _ (HT3.out.b.lt _ h)) (by simp [World.size_alloc])) (fun h => Nat.lt_irrefl _ (HT3.out.a.lt _ h)) HWR.out, rfl, keep_early HX3.out.blk HNB.out hu8⟩
          case rest =>
            obtain ⟨⟨by_, Fb2, rfl, hT, hY, hnb2⟩, rfl, hXb⟩ := hcut
            have HT4 := hid hT.swap
            obtain ⟨x0', x1', x2', x3'⟩ := (show Mine (fun _ => False) wc bx (adCell ad) 26 from ⟨hXb, fun h => h⟩).ads ad.h ad.p
            obtain ⟨y0', y1', y2', y3'⟩ := hY.ads ad.h ad.p
            clear hT hXb hY hnb2 s0 s1 s2 s3 s4 s5 hb
            go_wp2_with fail
            refine (HT4.out.a.len).mono ?_
            rintro e w11 ⟨rfl, rfl⟩
            go_wp2_with fail
            refine (HT4.out.b.len).mono ?_
            rintro e w11 ⟨rfl, rfl⟩
            go_wp2_with fail
            refine ⟨⟨k + 1, M, _, _, by omega, by omega, by go_num, HT4.out⟩, by simp [intOf]; omega⟩
    · have hlt' : (decide (k < len0) = false ∧ len0 ≤ k) ∨ (decide (k < len0) = true ∧ 40 ≤ k ∧ k < len0) := by
        rcases Nat.lt_or_ge k len0 with h | h
        · exact .inr ⟨decide_eq_true h, by omega, h⟩
        · exact .inl ⟨decide_eq_false (by omega), h⟩
      clear hlt
      have HUU := hid HTA.out.a.upd
      rcases hlt' with ⟨k1, k2⟩ | ⟨k1, k2, k3⟩
      all_goals
        go_wp2_with fail
        go_ret
        exact ⟨rfl, HUU.out.below (Nat.le_refl _) (fun k h => h)⟩
end Go.Proofs.Ytbcchdnbfblooaa
