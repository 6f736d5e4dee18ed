/- The walk of NatTells (no statement of the seat). -/
import Derived.Test.YtbcchdnbfblooaaRefO
import Derived.Test.YtbcchdnbfblooaaBlind
namespace Go.Proofs.Ytbcchdnbfblooaa
open Go.RowKit
set_option linter.unusedSimpArgs false
set_option linter.unusedVariables false
/-- The box at g, and the document's at r, of the same entries, apart. -/
structure TwoR (w : World) (g r : Nat) (c : Cfg) (L : List Ent) (F : Nat → Prop) (A : Option Addr) (cap : Nat) (l : List RE) (W : World) : Prop where
  a : Has w g c L F W
  b : RefAt r c A cap l W
  e : l.map Prod.fst = L
  dr : ¬ F r
  da : ∀ k, A = some ⟨k, 0, none⟩ → ¬ F k
  ds : ∀ z, z ∈ l → ¬ F z.2.row
  nr : w.heap.size ≤ r
section
variable {w W W' : World} {g r : Nat} {c : Cfg} {L : List Ent} {F : Nat → Prop} {A : Option Addr} {cap : Nat} {l : List RE}
theorem TwoR.still (h : TwoR w g r c L F A cap l W) (hu : Upd (fun _ => False) W W') : TwoR w g r c L F A cap l W' :=
  ⟨h.a.still hu, h.b.still hu, h.e, h.dr, h.da, h.ds, h.nr⟩
theorem own_at {A : Option Addr} {n cap k : Nat} (hf : l = [] ∨ ∃ g, A = some ⟨g, 0, none⟩) (h : W.ownsRow 0 73 5 (.slice A n cap) n (l.flatMap rent)) (hk : (Value.slice A n cap).ownBlock = some k) : A = some ⟨k, 0, none⟩ := by
  rcases h.2 with ⟨h1, _⟩ | ⟨g, _, _, hv, _⟩
  · rw [h1] at hk; simp [Value.ownBlock] at hk
  · rw [hv] at hk
    have := ownBlk hk
    subst this
    simp only [Value.slice.injEq] at hv
    exact hv.1
/-- What the box has done, and the document's has not yet. -/
structure HalfR (w : World) (g r : Nat) (c : Cfg) (L' : List Ent) (F : Nat → Prop) (A : Option Addr) (cap : Nat) (l : List RE) (W : World) : Prop where
  a : Has w g c L' F W
  b : RefAt r c A cap l W
  dr : ¬ F r
  da : ∀ k, A = some ⟨k, 0, none⟩ → ¬ F k
  ds : ∀ z, z ∈ l → ¬ F z.2.row
  nr : w.heap.size ≤ r
theorem HalfR.still {L' : List Ent} (h : HalfR w g r c L' F A cap l W) (hu : Upd (fun _ => False) W W') : HalfR w g r c L' F A cap l W' :=
  ⟨h.a.still hu, h.b.still hu, h.dr, h.da, h.ds, h.nr⟩
theorem TwoR.half (h : TwoR w g r c L F A cap l W) {L' : List Ent} (hh : Has w g c L' (grow F W W') W') (hu : Upd F W W') : HalfR w g r c L' (grow F W W') A cap l W' := by
  have hA : ∀ k, A = some ⟨k, 0, none⟩ → k < W.heap.size := fun k hk => by
    have := h.b.row
    rw [hk] at this
    exact (World.ownsRow.lt this k rfl).2
  refine ⟨hh, h.b.upd hu h.dr (fun k hk => h.da k (own_at h.b.form h.b.row hk)) h.ds, ?_, fun k hk => ?_, fun z hz => ?_, h.nr⟩
  · rintro (h1 | ⟨h1, _⟩)
    · exact h.dr h1
    · have := h.b.lt; omega
  · rintro (h1 | ⟨h1, _⟩)
    · exact h.da k hk h1
    · have := hA k hk; omega
  · rintro (h1 | ⟨h1, _⟩)
    · exact h.ds z hz h1
    · have := (h.b.sent z hz).lt; omega
theorem HalfR.whole {L' : List Ent} {res : List Ent × Ad × Int} {e : Ending} (h : HalfR w g r c L' F A cap l W) (hp : RefPost r c l res W e W') (hr : res.1 = L') : e = .returned (.tuple #[res.2.1.v, .int .i64 res.2.2]) ∧ (∃ A' cap' l', TwoR w g r c L' F A' cap' l' W') ∧ Upd (fun q => q = r) W W' := by
  obtain ⟨rfl, A', cap', l', hR, hm, hA, hrow, hu⟩ := hp
  refine ⟨rfl, ⟨A', cap', l', h.a.over hu (fun k hk e => h.dr ((show k = r from e) ▸ hk)) (fun k e => (show k = r from e) ▸ h.nr), hR, hm.trans hr, h.dr, fun k hk hF => ?_, fun z hz hF => ?_, h.nr⟩, hu⟩
  · have h1 := hA k hk
    have h2 := h.a.lt k hF
    omega
  · rcases hrow z hz with ⟨y, hy, e⟩ | h1
    · exact h.ds y hy (e ▸ hF)
    · have h2 := h.a.lt _ hF
      omega
theorem TwoR.out (h : TwoR w g r c L F A cap l W) (now : Int) (fr tt : Ad) :
    Calls Try.prog 13 #[ptr g, .int .i64 now, fr.v, tt.v] W fun e w' => e = .returned (.tuple #[(outL c now fr tt L).2.1.v, .int .i64 (outL c now fr tt L).2.2]) ∧ ∃ F', HalfR w g r c (outL c now fr tt L).1 F' A cap l w' ∧ Upd F W w' := by
  refine (h.a.out now fr tt).mono ?_
  rintro e w' ⟨rfl, hh, hu⟩
  exact ⟨rfl, _, h.half hh hu, hu⟩
theorem TwoR.in_ (h : TwoR w g r c L F A cap l W) (now : Int) (fr tt : Ad) :
    Calls Try.prog 14 #[ptr g, .int .i64 now, fr.v, tt.v] W fun e w' => e = .returned (.tuple #[(inL c now fr tt L).2.1.v, .int .i64 (inL c now fr tt L).2.2]) ∧ ∃ F', HalfR w g r c (inL c now fr tt L).1 F' A cap l w' ∧ Upd F W w' := by
  refine (h.a.in_ now fr tt).mono ?_
  rintro e w' ⟨rfl, hh, hu⟩
  exact ⟨rfl, _, h.half hh hu, hu⟩
theorem HalfR.out {L' : List Ent} (h : HalfR w g r c L' F A cap l W) (G : Good c.map (l.map Prod.fst)) (now : Int) (fr tt : Ad) (hr : (outL c now fr tt (l.map Prod.fst)).1 = L') :
    Calls Try.prog 20 #[ptr r, .int .i64 now, fr.v, tt.v] W fun e w' => e = .returned (.tuple #[(outL c now fr tt (l.map Prod.fst)).2.1.v, .int .i64 (outL c now fr tt (l.map Prod.fst)).2.2]) ∧ (∃ A' cap' l', TwoR w g r c L' F A' cap' l' w') ∧ Upd (fun q => q = r) W w' :=
  (rout20_any r c A cap l now fr tt W h.b h.a.right G).mono fun _ _ hp => h.whole hp hr
theorem HalfR.in_ {L' : List Ent} (h : HalfR w g r c L' F A cap l W) (G : Good c.map (l.map Prod.fst)) (now : Int) (fr tt : Ad) (hr : (inL c now fr tt (l.map Prod.fst)).1 = L') :
    Calls Try.prog 19 #[ptr r, .int .i64 now, fr.v, tt.v] W fun e w' => e = .returned (.tuple #[(inL c now fr tt (l.map Prod.fst)).2.1.v, .int .i64 (inL c now fr tt (l.map Prod.fst)).2.2]) ∧ (∃ A' cap' l', TwoR w g r c L' F A' cap' l' w') ∧ Upd (fun q => q = r) W w' :=
  (rin19_any r c A cap l now fr tt W h.b h.a.right G).mono fun _ _ hp => h.whole hp hr
end
def TellsR (w : World) (g r : Nat) (c : Cfg) (len : Nat) (nw i : Value) (wr : World) : Prop :=
  ∃ (k : Nat) (now : Int) (L : List Ent) (F : Nat → Prop) (A : Option Addr) (cap : Nat) (l : List RE), k ≤ len ∧ k ≤ 80 ∧ i = .int .i64 k ∧ nw = .int .i64 now ∧ Hid (TwoR w g r c L F A cap l wr)
theorem neq_ad26 (a b : Int) (w : World) : Sem.run Try.prog (binOp .neq 26 (.agg #[.int .u32 a, .int .i64 b]) (.agg #[.int .u32 a, .int .i64 b])) w = .ok (.bool false) w := by
  rw [run_neq_struct, show (10000 : Nat) = 9999 + 1 from rfl, run_equalIn_struct w 9999 26 _ _ (by kernel_rfl) (by kernel_rfl)]
  simp [go_sem]
theorem neq_cfg24 (c : Cfg) (w : World) : Sem.run Try.prog (binOp .neq 24 (.agg #[.int .u32 c.pub, .int .i64 c.map, .int .i64 c.fil, .bool c.hair, .int .i64 c.tmo]) (.agg #[.int .u32 c.pub, .int .i64 c.map, .int .i64 c.fil, .bool c.hair, .int .i64 c.tmo])) w = .ok (.bool false) w := by
  rw [run_neq_struct, show (10000 : Nat) = 9999 + 1 from rfl, run_equalIn_struct w 9999 24 _ _ (by kernel_rfl) (by kernel_rfl)]
  simp [go_sem]
set_option maxRecDepth 100000 in
set_option maxHeartbeats 8000000 in
theorem tells_walk (c : Cfg) (a0 : Option Addr) (len0 cap0 : Nat) (f : Nat → St) (w : World) (hs : SrcS w a0 len0 f) : Calls Try.prog 9 #[c.v, .slice a0 len0 cap0] w fun e w' => e = .returned (.bool true) ∧ Below w.heap.size w w' := by
  have hmax := hs.max
  have HSR := hid hs
  clear hs
  obtain ⟨w0, hw0⟩ : ∃ w0, w.alloc (.cells #[.int .u32 c.pub, .int .i64 c.map, .int .i64 c.fil, .bool c.hair, .int .i64 c.tmo] 24) = w0 := ⟨_, rfl⟩
  have HC := hid (show Mine (fun _ => False) w0 w.heap.size #[.int .u32 c.pub, .int .i64 c.map, .int .i64 c.fil, .bool c.hair, .int .i64 c.tmo] 24 by rw [← hw0]; exact blk_new w _ _)
  have HU : Hid (Upd (fun k => w.heap.size ≤ k) w w0) := hid (by rw [← hw0]; exact (Upd.refl _ w).alloc _)
  go_enter Try.func9, Try.ntmps9
  go_wp2_with fail
  refine (shown_any _).mono ?_
  rintro e w1 ⟨rfl, hu⟩
  have HC := hid (HC.out.still hu)
  have HU : Hid (Upd (fun k => w.heap.size ≤ k) w w1) := hid (HU.out.then_ hu (fun _ _ h => h.elim))
  clear hu hw0
  obtain ⟨c0, c1, c2, c3, c4⟩ := HC.out.cfgs
  go_upto_region 3 with (fail)
  clear c0 c1 c2 c3 c4
  have hbox := heap_alloc_new w1 (.cells #[.int .u32 c.pub, .int .i64 c.map, .int .i64 c.fil, .bool c.hair, .int .i64 c.tmo, .slice none 0 0] 49)
  obtain ⟨w2, hw2⟩ : ∃ w2, w1.alloc (.cells #[.int .u32 c.pub, .int .i64 c.map, .int .i64 c.fil, .bool c.hair, .int .i64 c.tmo, .slice none 0 0] 49) = w2 := ⟨_, rfl⟩
  have hu : Upd (fun _ => False) w1 w2 := hw2 ▸ (Upd.refl _ w1).alloc _
  rw [hw2] at hbox ⊢
  obtain ⟨r, hr⟩ : ∃ r, w1.heap.size = r := ⟨_, rfl⟩
  rw [hr] at hbox ⊢
  have HNR := hid (show w.heap.size ≤ r by have := HU.out.size; omega)
  have HRB := hid (show RefAt r c none 0 [] w2 from ⟨hbox, World.ownsRow_nil _ _ _ _, .inl rfl, fun z hz => by simp at hz⟩)
  have HC := hid (HC.out.still hu)
  have HU : Hid (Upd (fun k => w.heap.size ≤ k) w w2) := hid (HU.out.then_ hu (fun _ _ h => h.elim))
  have d0 : w2.cell? ⟨r, 0, none⟩ = some (.int .u32 c.pub) := (blk_cell hbox 0).trans rfl
  have d1 : w2.cell? ⟨r, 1, none⟩ = some (.int .i64 c.map) := (blk_cell hbox 1).trans rfl
  have d2 : w2.cell? ⟨r, 2, none⟩ = some (.int .i64 c.fil) := (blk_cell hbox 2).trans rfl
  have d3 : w2.cell? ⟨r, 3, none⟩ = some (.bool c.hair) := (blk_cell hbox 3).trans rfl
  have d4 : w2.cell? ⟨r, 4, none⟩ = some (.int .i64 c.tmo) := (blk_cell hbox 4).trans rfl
  clear hw2 hu hbox hr
  go_wp2_with fail
  refine (rright16_any c _).mono ?_
  rintro e w3 ⟨rfl, hu⟩
  have HC := hid (HC.out.still hu)
  have HRB := hid (HRB.out.still hu)
  have HU : Hid (Upd (fun k => w.heap.size ≤ k) w w3) := hid (HU.out.then_ hu (fun _ _ h => h.elim))
  obtain ⟨β, hβ⟩ : ∃ β, rightB c = β := ⟨_, rfl⟩
  have HB := hid hβ
  rw [hβ]
  clear hu hβ d0 d1 d2 d3 d4
  obtain ⟨c0, c1, c2, c3, c4⟩ := HC.out.cfgs
  cases β with
  | false =>
    go_wp2_with fail
    clear c0 c1 c2 c3 c4
    refine (new_no c _ HB.out).mono ?_
    rintro e w4 ⟨rfl, hu⟩
    have HC := hid (HC.out.still hu)
    have HU : Hid (Upd (fun k => w.heap.size ≤ k) w w4) := hid (HU.out.then_ hu (fun _ _ h => h.elim))
    clear hu
    obtain ⟨c0, c1, c2, c3, c4⟩ := HC.out.cfgs
    go_wp2_with fail
    clear c0 c1 c2 c3 c4
    refine (right_any c _).mono ?_
    rintro e w5 ⟨rfl, hu⟩
    rw [HB.out]
    have HU : Hid (Upd (fun k => w.heap.size ≤ k) w w5) := hid (HU.out.then_ hu (fun _ _ h => h.elim))
    clear hu
    go_wp2_with fail
    go_ret
    exact ⟨rfl, HU.out.below (Nat.le_refl _) (fun k h => h)⟩
  | true =>
    have HR := hid ((rightB_iff c).1 HB.out)
    go_wp2_with fail
    clear c0 c1 c2 c3 c4
    refine (has_new w c HR.out _ HU.out).mono ?_
    rintro e w4 ⟨g, F, rfl, hh, hF, hu⟩
    have HT := hid (show TwoR w g r c [] F none 0 [] w4 from ⟨hh, HRB.out.still hu, rfl, fun h => by have h1 := hF r h; have h2 := HRB.out.lt; omega, fun k hk => by simp at hk, fun z hz => by simp at hz, HNR.out⟩)
    have HC := hid (HC.out.still hu)
    clear hh hF hu HRB
    obtain ⟨c0, c1, c2, c3, c4⟩ := HC.out.cfgs
    go_wp2_with fail
    clear c0 c1 c2 c3 c4
    refine (right_any c _).mono ?_
    rintro e w5 ⟨rfl, hu⟩
    rw [HB.out]
    have HT := hid (HT.out.still hu)
    have HC := hid (HC.out.still hu)
    clear hu
    obtain ⟨c0, c1, c2, c3, c4⟩ := HC.out.cfgs
    have HE := hid (And.intro c0 (And.intro c1 (And.intro c2 (And.intro c3 c4))))
    have hneq := neq_cfg24 c
    go_upto_region 9 with (fail)
    go_region_held3 (fun W => W.cell? ⟨w.heap.size, 0, none⟩ = some (.int .u32 c.pub) ∧ W.cell? ⟨w.heap.size, 1, none⟩ = some (.int .i64 c.map) ∧ W.cell? ⟨w.heap.size, 2, none⟩ = some (.int .i64 c.fil) ∧ W.cell? ⟨w.heap.size, 3, none⟩ = some (.bool c.hair) ∧ W.cell? ⟨w.heap.size, 4, none⟩ = some (.int .i64 c.tmo))
      (first
        | exact ⟨HE.out.1, HE.out.2.1, HE.out.2.2.1, HE.out.2.2.2.1, HE.out.2.2.2.2⟩
        | exact ⟨HU6.out.cell HE.out.1 (fun h => h), HU6.out.cell HE.out.2.1 (fun h => h), HU6.out.cell HE.out.2.2.1 (fun h => h), HU6.out.cell HE.out.2.2.2.1 (fun h => h), HU6.out.cell HE.out.2.2.2.2 (fun h => h)⟩)
      (first
        | (go_at_call 18; refine (config_any g c [] F _ (HT.out.a.still ((Upd.refl _ w5).drew)).box).mono ?_; rintro e w6 ⟨rfl, hu6⟩; have HU6 : Hid (Upd (fun _ => False) w5 w6) := hid (((Upd.refl (fun _ => False) w5).drew).trans hu6); clear hu6)
        | fail)
    have HT := hid (HT.out.still HU6.out)
    clear c0 c1 c2 c3 c4 HE HU6 HC HU hneq
    go_wp2_with fail
    go_loopw [10, 11] (fun nw i wr => TellsR w g r c len0 nw i wr) (fun _ i _ => len0 - (intOf i).toNat)
    case atStart => exact ⟨0, 0, [], F, none, 0, [], by omega, by omega, rfl, rfl, HT⟩
    case round =>
      clear HT
      obtain ⟨k, now, L, F, A, cap, l, hk, hk80, rfl, rfl, HT⟩ := hrel
      by_cases hlt : k < len0 ∧ k < 80
      · have k3 := hlt.1
        have k4 := hlt.2
        have k5 : (k : Int) < 80 := by omega
        obtain ⟨b, off, ha, hb, s0, s1, s2, s3, s4, s5⟩ := (HSR.out.upd HT.out.a.upd (fun b hb hn => by omega)).at_ k k3
        subst ha
        obtain ⟨⟨si, sl, ⟨sf1, sf2⟩, ⟨st1, st2⟩⟩, hfk⟩ : ∃ q, f k = q := ⟨_, rfl⟩
        rw [hfk] at s0 s1 s2 s3 s4 s5
        clear hlt hfk
        go_upto_region 17 with (fail)
        obtain ⟨nw, hnw⟩ : ∃ nw, wrap64 (now + sl) = nw := ⟨_, rfl⟩
        rw [hnw]
        obtain ⟨w3, hw3⟩ : ∃ w3, wr.alloc (.cells #[.bool si, .int .i64 sl, .int .u32 sf1, .int .i64 sf2, .int .u32 st1, .int .i64 st2] 43) = w3 := ⟨_, rfl⟩
        have hu3 : Upd (fun _ => False) wr w3 := hw3 ▸ (Upd.refl _ wr).alloc _
        have hx := heap_alloc_new wr (.cells #[.bool si, .int .i64 sl, .int .u32 sf1, .int .i64 sf2, .int .u32 st1, .int .i64 st2] 43)
        rw [hw3] at hx ⊢
        obtain ⟨nx, hnx⟩ : ∃ nx, wr.heap.size = nx := ⟨_, rfl⟩
        rw [hnx] at hx ⊢
        have HNX := hid hnx
        have HFL := hid (show ∀ q, F q → q < wr.heap.size from fun q hq => HT.out.a.lt q hq)
        have HXB := hid hx
        have HRL := hid (show r < nx by have := HT.out.b.lt; omega)
        have HT := hid (HT.out.still hu3)
        have x0 : w3.cell? ⟨nx, 0, none⟩ = some (.bool si) := (blk_cell hx 0).trans rfl
        have x2 : w3.cell? ⟨nx, 2, none⟩ = some (.int .u32 sf1) := (blk_cell hx 2).trans rfl
        have x3 : w3.cell? ⟨nx, 3, none⟩ = some (.int .i64 sf2) := (blk_cell hx 3).trans rfl
        have x4 : w3.cell? ⟨nx, 4, none⟩ = some (.int .u32 st1) := (blk_cell hx 4).trans rfl
        have x5 : w3.cell? ⟨nx, 5, none⟩ = some (.int .i64 st2) := (blk_cell hx 5).trans rfl
        clear hw3 hu3 hx hnx hnw s0 s1 s2 s3 s4 s5 hb
        go_upto_if 81 with (fail)
        go_cut [] from 62 to 145 (fun wx => ∃ (L' : List Ent) (F' : Nat → Prop) (A' : Option Addr) (cap' : Nat) (l' : List RE), Hid (TwoR w g r c L' F' A' cap' l' wx))
        case first =>
          cases si with
          | true =>
            go_wp2_with fail
            refine (HT.out.in_ nw ⟨sf1, sf2⟩ ⟨st1, st2⟩).mono ?_
            rintro e w4 ⟨rfl, F1, hh, hu4⟩
            obtain ⟨⟨Mx, ⟨ad1, ad2⟩, er⟩, hMx⟩ : ∃ q, inL c nw ⟨sf1, sf2⟩ ⟨st1, st2⟩ L = q := ⟨_, rfl⟩
            rw [hMx] at hh ⊢
            have HEQ := hid (show inL c nw ⟨sf1, sf2⟩ ⟨st1, st2⟩ (l.map Prod.fst) = (Mx, ⟨ad1, ad2⟩, er) by rw [HT.out.e]; exact hMx)
            have HG := hid (show Good c.map (l.map Prod.fst) by rw [HT.out.e]; exact HT.out.a.good)
            have hxb := hu4.blk HXB.out (fun h => Nat.lt_irrefl _ (HNX.out ▸ HFL.out _ h))
            have hxl := lt_of_block hxb
            have hu5 : Upd (fun _ => False) w4 (w4.alloc (.cells #[.int .u32 ad1, .int .i64 ad2] 26)) := (Upd.refl _ w4).alloc _
            have HH := hid (hh.still hu5)
            have hx5 := hu5.blk hxb (fun h => h)
            have hp5 := heap_alloc_new w4 (.cells #[.int .u32 ad1, .int .i64 ad2] 26)
            clear hh hu4 hMx hxb x0 x2 x3 x4 x5
            go_upto_region 19 with (fail)
            obtain ⟨w5, hw5⟩ : ∃ w5, w4.alloc (.cells #[.int .u32 ad1, .int .i64 ad2] 26) = w5 := ⟨_, rfl⟩
            rw [hw5] at HH hx5 hp5 ⊢
            obtain ⟨np, hnp⟩ : ∃ np, w4.heap.size = np := ⟨_, rfl⟩
            rw [hnp] at hp5 hxl ⊢
            have HP5 := hid hp5
            have HNP := hid (show np ≠ r by have := HRL.out; omega)
            have x2 : w5.cell? ⟨nx, 2, none⟩ = some (.int .u32 sf1) := (blk_cell hx5 2).trans rfl
            have x3 : w5.cell? ⟨nx, 3, none⟩ = some (.int .i64 sf2) := (blk_cell hx5 3).trans rfl
            have x4 : w5.cell? ⟨nx, 4, none⟩ = some (.int .u32 st1) := (blk_cell hx5 4).trans rfl
            have x5 : w5.cell? ⟨nx, 5, none⟩ = some (.int .i64 st2) := (blk_cell hx5 5).trans rfl
            clear hw5 hu5 hx5 hp5 hnp
            go_wp2_with fail
            refine (HH.out.in_ HG.out nw ⟨sf1, sf2⟩ ⟨st1, st2⟩ (by rw [HEQ.out])).mono ?_
            rintro e w6 ⟨rfl, ⟨A', cap', l', hT6⟩, hu6⟩
            rw [HEQ.out]
            have hp6 := hu6.blk HP5.out HNP.out
            have hu7 : Upd (fun _ => False) w6 (w6.alloc (.cells #[.int .u32 ad1, .int .i64 ad2] 26)) := (Upd.refl _ w6).alloc _
            have HT7 := hid (hT6.still hu7)
            have hp7 := hu7.blk hp6 (fun h => h)
            have hq7 := heap_alloc_new w6 (.cells #[.int .u32 ad1, .int .i64 ad2] 26)
            clear hT6 hu6 hp6 x2 x3 x4 x5 hxl
            go_upto_region 20 with (fail)
            obtain ⟨w7, hw7⟩ : ∃ w7, w6.alloc (.cells #[.int .u32 ad1, .int .i64 ad2] 26) = w7 := ⟨_, rfl⟩
            rw [hw7] at HT7 hp7 hq7 ⊢
            obtain ⟨nz, hnz⟩ : ∃ nz, w6.heap.size = nz := ⟨_, rfl⟩
            rw [hnz] at hq7 ⊢
            have p0 : w7.cell? ⟨np, 0, none⟩ = some (.int .u32 ad1) := (blk_cell hp7 0).trans rfl
            have p1 : w7.cell? ⟨np, 1, none⟩ = some (.int .i64 ad2) := (blk_cell hp7 1).trans rfl
            have z0 : w7.cell? ⟨nz, 0, none⟩ = some (.int .u32 ad1) := (blk_cell hq7 0).trans rfl
            have z1 : w7.cell? ⟨nz, 1, none⟩ = some (.int .i64 ad2) := (blk_cell hq7 1).trans rfl
            have hneq := neq_ad26 ad1 ad2
            have her : (er != er) = false := by simp
            clear hw7 hu7 hp7 hq7 hnz
            go_wp2_with fail
            go_meet
            exact ⟨Mx, F1, A', cap', l', HT7⟩
          | false =>
            go_wp2_with fail
            refine (HT.out.out nw ⟨sf1, sf2⟩ ⟨st1, st2⟩).mono ?_
            rintro e w4 ⟨rfl, F1, hh, hu4⟩
            obtain ⟨⟨Mx, ⟨ad1, ad2⟩, er⟩, hMx⟩ : ∃ q, outL c nw ⟨sf1, sf2⟩ ⟨st1, st2⟩ L = q := ⟨_, rfl⟩
            rw [hMx] at hh ⊢
            have HEQ := hid (show outL c nw ⟨sf1, sf2⟩ ⟨st1, st2⟩ (l.map Prod.fst) = (Mx, ⟨ad1, ad2⟩, er) by rw [HT.out.e]; exact hMx)
            have HG := hid (show Good c.map (l.map Prod.fst) by rw [HT.out.e]; exact HT.out.a.good)
            have hxb := hu4.blk HXB.out (fun h => Nat.lt_irrefl _ (HNX.out ▸ HFL.out _ h))
            have hxl := lt_of_block hxb
            have hu5 : Upd (fun _ => False) w4 (w4.alloc (.cells #[.int .u32 ad1, .int .i64 ad2] 26)) := (Upd.refl _ w4).alloc _
            have HH := hid (hh.still hu5)
            have hx5 := hu5.blk hxb (fun h => h)
            have hp5 := heap_alloc_new w4 (.cells #[.int .u32 ad1, .int .i64 ad2] 26)
            clear hh hu4 hMx hxb x0 x2 x3 x4 x5
            go_upto_region 23 with (fail)
            obtain ⟨w5, hw5⟩ : ∃ w5, w4.alloc (.cells #[.int .u32 ad1, .int .i64 ad2] 26) = w5 := ⟨_, rfl⟩
            rw [hw5] at HH hx5 hp5 ⊢
            obtain ⟨np, hnp⟩ : ∃ np, w4.heap.size = np := ⟨_, rfl⟩
            rw [hnp] at hp5 hxl ⊢
            have HP5 := hid hp5
            have HNP := hid (show np ≠ r by have := HRL.out; omega)
            have x2 : w5.cell? ⟨nx, 2, none⟩ = some (.int .u32 sf1) := (blk_cell hx5 2).trans rfl
            have x3 : w5.cell? ⟨nx, 3, none⟩ = some (.int .i64 sf2) := (blk_cell hx5 3).trans rfl
            have x4 : w5.cell? ⟨nx, 4, none⟩ = some (.int .u32 st1) := (blk_cell hx5 4).trans rfl
            have x5 : w5.cell? ⟨nx, 5, none⟩ = some (.int .i64 st2) := (blk_cell hx5 5).trans rfl
            clear hw5 hu5 hx5 hp5 hnp
            go_wp2_with fail
            refine (HH.out.out HG.out nw ⟨sf1, sf2⟩ ⟨st1, st2⟩ (by rw [HEQ.out])).mono ?_
            rintro e w6 ⟨rfl, ⟨A', cap', l', hT6⟩, hu6⟩
            rw [HEQ.out]
            have hp6 := hu6.blk HP5.out HNP.out
            have hu7 : Upd (fun _ => False) w6 (w6.alloc (.cells #[.int .u32 ad1, .int .i64 ad2] 26)) := (Upd.refl _ w6).alloc _
            have HT7 := hid (hT6.still hu7)
            have hp7 := hu7.blk hp6 (fun h => h)
            have hq7 := heap_alloc_new w6 (.cells #[.int .u32 ad1, .int .i64 ad2] 26)
            clear hT6 hu6 hp6 x2 x3 x4 x5 hxl
            go_upto_region 24 with (fail)
            obtain ⟨w7, hw7⟩ : ∃ w7, w6.alloc (.cells #[.int .u32 ad1, .int .i64 ad2] 26) = w7 := ⟨_, rfl⟩
            rw [hw7] at HT7 hp7 hq7 ⊢
            obtain ⟨nz, hnz⟩ : ∃ nz, w6.heap.size = nz := ⟨_, rfl⟩
            rw [hnz] at hq7 ⊢
            have p0 : w7.cell? ⟨np, 0, none⟩ = some (.int .u32 ad1) := (blk_cell hp7 0).trans rfl
            have p1 : w7.cell? ⟨np, 1, none⟩ = some (.int .i64 ad2) := (blk_cell hp7 1).trans rfl
            have z0 : w7.cell? ⟨nz, 0, none⟩ = some (.int .u32 ad1) := (blk_cell hq7 0).trans rfl
            have z1 : w7.cell? ⟨nz, 1, none⟩ = some (.int .i64 ad2) := (blk_cell hq7 1).trans rfl
            have hneq := neq_ad26 ad1 ad2
            have her : (er != er) = false := by simp
            clear hw7 hu7 hp7 hq7 hnz
            go_wp2_with fail
            go_meet
            exact ⟨Mx, F1, A', cap', l', HT7⟩
        case rest =>
          clear HT HXB HFL HNX HRL x0 x2 x3 x4 x5
          obtain ⟨L', F', A', cap', l', HT⟩ := hcut
          have hll : (L'.length : Int) = (l'.length : Int) := by rw [← HT.out.e, List.length_map]
          have hlen : ∀ N, Calls Try.prog 15 #[ptr g] (wc.drewN N) fun e w' => e = .returned (.int .i64 L'.length) ∧ w' = wc.drewN N := fun N => ((HT.out.still ((Upd.refl _ wc).drewN N)).a.len).mono (fun _ _ h => ⟨h.1, h.2.symm⟩)
          have HLE := hid hlen
          have c5 := HT.out.b.cells.2.2.2.2
          clear hlen
          go_upto_region 26 with (fail)
          go_region_held3 (fun W => W.cell? ⟨r, 5, none⟩ = some (.slice A' l'.length cap'))
            (first
              | exact c5)
            (first
              | (go_at_call 15; refine (HLE.out 1).mono ?_; rintro e w6 ⟨rfl, rfl⟩)
              | fail)
          all_goals
            have HT8 := hid (HT.out.still ((Upd.refl _ wc).drewN 1))
            try rw [hll]
            have hne : ((l'.length : Int) != (l'.length : Int)) = false := by simp
            clear c5 hll HLE HT
            go_wp2_with fail
            exact ⟨⟨k + 1, nw, L', F', A', cap', l', by omega, by omega, by go_num, rfl, HT8⟩, by simp [intOf]; omega⟩
      · have hlt' : (decide (k < len0) = false ∧ len0 ≤ k) ∨ (decide (k < len0) = true ∧ 80 ≤ k ∧ k < len0) := by
          rcases Nat.lt_or_ge k len0 with h | h
          · exact .inr ⟨decide_eq_true h, by omega, h⟩
          · exact .inl ⟨decide_eq_false (by omega), h⟩
        clear hlt
        have HUU := hid HT.out.a.upd
        rcases hlt' with ⟨k1, k2⟩ | ⟨k1, k2, k3⟩
        all_goals
          go_wp2_with fail
          go_ret
          exact ⟨rfl, HUU.out.below (Nat.le_refl _) (fun k h => h)⟩
end Go.Proofs.Ytbcchdnbfblooaa
