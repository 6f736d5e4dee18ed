/- A box held by a walk, and shown: what must be in any case (no statement of the seat). -/
import Derived.Test.YtbcchdnbfblooaaFew
namespace Go.Proofs.Ytbcchdnbfblooaa
open Go.RowKit

/-- A box that the walk that began in wA has made. -/
structure Has (wA : World) (g : Nat) (c : Cfg) (L : List Ent) (F : Nat → Prop) (w : World) : Prop where
  box : BoxIs g c L F w
  right : Right c
  good : Good c.map L
  new : ∀ k, F k → wA.heap.size ≤ k
  upd : Upd (fun k => wA.heap.size ≤ k) wA w
/-- A block of the walk's own. -/
structure Mine (F : Nat → Prop) (w : World) (b : Nat) (cs : Array Value) (t : TypeId) : Prop where
  blk : w.heap[b]? = some (.cells cs t (0, 0))
  out : ¬ F b

section
variable {wA w w' : World} {g b : Nat} {c : Cfg} {L : List Ent} {F S : Nat → Prop} {cs : Array Value} {t : TypeId}
theorem Has.lt (h : Has wA g c L F w) (k : Nat) (hk : F k) : k < w.heap.size := by
  obtain ⟨_, _, _, _, _, _, _, _, _, _, hlt⟩ := h.box; exact hlt k hk
theorem Has.still (h : Has wA g c L F w) (hu : Upd (fun _ => False) w w') : Has wA g c L F w' :=
  ⟨h.box.upd hu (fun _ _ h => h), h.right, h.good, h.new, h.upd.then_ hu (fun _ _ h => h.elim)⟩
theorem Has.over (h : Has wA g c L F w) (hu : Upd S w w') (hd : ∀ k, F k → ¬ S k) (hs : ∀ k, S k → wA.heap.size ≤ k) : Has wA g c L F w' :=
  ⟨h.box.upd hu hd, h.right, h.good, h.new, h.upd.then_ hu (fun _ _ h => hs _ h)⟩
theorem Has.alloc (h : Has wA g c L F w) (o : Obj) : Has wA g c L F (w.alloc o) := h.still ((Upd.refl _ w).alloc o)
theorem Has.grown (h : Has wA g c L F w) {L' : List Ent} (hb : BoxIs g c L' (grow F w w') w') (hg : Good c.map L') (hu : Upd F w w') : Has wA g c L' (grow F w w') w' :=
  ⟨hb, h.right, hg, fun k hk => hk.elim (h.new k) (fun ⟨h1, _⟩ => Nat.le_trans h.upd.size h1), h.upd.then_ hu (fun k _ hk => h.new k hk)⟩
theorem Has.out (h : Has wA g c L F w) (now : Int) (fr tt : Ad) :
    Calls Try.prog 13 #[ptr g, .int .i64 now, fr.v, tt.v] w fun e w' =>
      e = .returned (.tuple #[(outL c now fr tt L).2.1.v, .int .i64 (outL c now fr tt L).2.2]) ∧ Has wA g c (outL c now fr tt L).1 (grow F w w') w' ∧ Upd F w w' := by
  refine (out_any g c L F now fr tt w h.box h.right h.good).mono ?_
  rintro e w' ⟨rfl, hb, hu⟩
  exact ⟨rfl, h.grown hb (h.good.out now fr tt) hu, hu⟩
theorem Has.in_ (h : Has wA g c L F w) (now : Int) (fr tt : Ad) :
    Calls Try.prog 14 #[ptr g, .int .i64 now, fr.v, tt.v] w fun e w' =>
      e = .returned (.tuple #[(inL c now fr tt L).2.1.v, .int .i64 (inL c now fr tt L).2.2]) ∧ Has wA g c (inL c now fr tt L).1 (grow F w w') w' ∧ Upd F w w' := by
  refine (in_any g c L F now fr tt w h.box h.right h.good).mono ?_
  rintro e w' ⟨rfl, hb, hu⟩
  exact ⟨rfl, h.grown hb (h.good.in_ now fr tt) hu, hu⟩
theorem Has.len (h : Has wA g c L F w) : Calls Try.prog 15 #[ptr g] w fun e w' => e = .returned (.int .i64 L.length) ∧ w = w' :=
  len_any g c L F w h.box h.good.len
theorem has_new (wA : World) (c : Cfg) (hR : Right c) (w : World) (hu : Upd (fun k => wA.heap.size ≤ k) wA w) :
    Calls Try.prog 12 #[c.v] w fun e w' => ∃ g F, e = .returned (.tuple #[ptr g, .int .i64 0]) ∧ Has wA g c [] F w' ∧ (∀ k, F k → w.heap.size ≤ k) ∧ Upd (fun _ => False) w w' := by
  refine (new_yes c w ((rightB_iff c).2 hR)).mono ?_
  rintro e w' ⟨g, rfl, hb, hu'⟩
  exact ⟨g, _, rfl, ⟨hb, hR, Good.nil _, fun k hk => Nat.le_trans hu.size hk.1, hu.then_ hu' (fun _ _ h => h.elim)⟩, fun k hk => hk.1, hu'⟩

theorem Mine.still (h : Mine F w b cs t) (hu : Upd (fun _ => False) w w') : Mine F w' b cs t := ⟨hu.blk h.blk (fun h => h), h.out⟩
theorem Mine.alloc (h : Mine F w b cs t) (o : Obj) : Mine F (w.alloc o) b cs t := h.still ((Upd.refl _ w).alloc o)
theorem Mine.call (h : Mine F w b cs t) (hu : Upd F w w') : Mine (grow F w w') w' b cs t :=
  ⟨hu.blk h.blk h.out, fun hk => hk.elim h.out (fun hk => by have := lt_of_block h.blk; omega)⟩
theorem Mine.fresh (hF : ∀ k, F k → k < w.heap.size) (cs : Array Value) (t : TypeId) : Mine F (w.alloc (.cells cs t)) w.heap.size cs t :=
  ⟨heap_alloc_new w _, fun hk => Nat.lt_irrefl _ (hF _ hk)⟩
theorem Mine.ahead (h : w.heap[b]? = some (.cells cs t (0, 0))) (hF : ∀ k, F k → w.heap.size ≤ k) (hu : Upd (fun _ => False) w w') : Mine F w' b cs t :=
  ⟨hu.blk h (fun h => h), fun hk => by have := hF b hk; have := lt_of_block h; omega⟩
theorem Mine.ads (a1 a2 : Int) (h : Mine F w b #[.int .u32 a1, .int .i64 a2] 26) : (∀ o, (w.alloc o).cell? ⟨b, 0, none⟩ = some (.int .u32 a1)) ∧ (∀ o, (w.alloc o).cell? ⟨b, 1, none⟩ = some (.int .i64 a2)) ∧
    w.cell? ⟨b, 0, none⟩ = some (.int .u32 a1) ∧ w.cell? ⟨b, 1, none⟩ = some (.int .i64 a2) :=
  ⟨fun o => (blk_cell (h.alloc o).blk 0).trans rfl, fun o => (blk_cell (h.alloc o).blk 1).trans rfl, (blk_cell h.blk 0).trans rfl, (blk_cell h.blk 1).trans rfl⟩
theorem Mine.ad {a : Ad} (h : Mine F w b #[.int .u32 a.h, .int .i64 a.p] 26) : w.cell? ⟨b, 0, none⟩ = some (.int .u32 a.h) ∧ w.cell? ⟨b, 1, none⟩ = some (.int .i64 a.p) :=
  ⟨(blk_cell h.blk 0).trans rfl, (blk_cell h.blk 1).trans rfl⟩
end

abbrev c0 : Cfg := ⟨7, 1, 3, false, 10⟩
theorem c0_right : Right c0 := (rightB_iff _).1 (by decide)
abbrev L1 : List Ent := [⟨⟨1, 2⟩, 1024, 0, [⟨3, 4⟩]⟩]
theorem s1 : outL c0 0 ⟨1, 2⟩ ⟨3, 4⟩ [] = (L1, ⟨7, 1024⟩, 0) := by decide
theorem s2 : inL c0 1 ⟨3, 4⟩ ⟨7, 1024⟩ L1 = (L1, ⟨1, 2⟩, 0) := by decide
theorem s3 : inL c0 1 ⟨3, 5⟩ ⟨7, 1024⟩ L1 = (L1, ⟨0, 0⟩, 9) := by decide
theorem s4 : inL c0 11 ⟨3, 4⟩ ⟨7, 1024⟩ L1 = ([], ⟨0, 0⟩, 7) := by decide

set_option maxRecDepth 100000 in
set_option maxHeartbeats 4000000 in
theorem shown_any (w : World) : Calls Try.prog 10 #[] w fun e w' => e = .returned (.bool true) ∧ Upd (fun _ => False) w w' := by
  go_enter Try.func10, Try.ntmps10
  go_wp2_with fail
  refine (has_new w c0 c0_right _ (Upd.refl _ w)).mono ?_
  rintro e w1 ⟨g, F1, rfl, hh, hF, hu⟩
  have HH := hid hh
  have HF := hid hF
  clear hh hF hu
  go_wp2_with fail
  obtain ⟨w2, hw2⟩ : ∃ w2, (w1.alloc (.cells #[.int .u32 1, .int .i64 2] 26)).alloc (.cells #[.int .u32 3, .int .i64 4] 26) = w2 := ⟨_, rfl⟩
  have H2 : Has w g c0 [] F1 w2 := hw2 ▸ (HH.out.alloc _).alloc _
  have A2 : Mine F1 w2 w1.heap.size #[.int .u32 1, .int .i64 2] 26 := hw2 ▸ (Mine.fresh HH.out.lt _ _).alloc _
  have B2 : Mine F1 w2 (w1.heap.size + 1) #[.int .u32 3, .int .i64 4] 26 := by
    have := Mine.fresh (HH.out.alloc (.cells #[.int .u32 1, .int .i64 2] 26)).lt #[.int .u32 3, .int .i64 4] 26
    rw [hw2] at this
    simpa only [World.size_alloc] using this
  rw [hw2]
  have HA := hid A2
  have HB := hid B2
  have H2 := hid H2
  clear hw2 HH HF A2 B2
  refine (H2.out.out 0 ⟨1, 2⟩ ⟨3, 4⟩).mono ?_
  rw [s1]
  rintro e w3 ⟨rfl, hh, hu⟩
  have HH := hid hh
  obtain ⟨F, hF⟩ : ∃ F, grow F1 w2 w3 = F := ⟨_, rfl⟩
  have HA := hid (HA.out.call hu)
  have HB := hid (HB.out.call hu)
  rw [hF] at HH HA HB
  clear hh hu hF H2
  obtain ⟨a0, a1, a2, a3⟩ := HA.out.ads 1 2
  obtain ⟨b0, b1, b2, b3⟩ := HB.out.ads 3 4
  go_wp2_with fail
  clear a0 a1 a2 a3 b0 b1 b2 b3
  have HC : Hid (Mine F (w3.alloc (.cells #[.int .u32 7, .int .i64 1024] 26)) w3.heap.size #[.int .u32 7, .int .i64 1024] 26) := hid (Mine.fresh HH.out.lt _ _)
  refine ((HH.out.alloc _).in_ 1 ⟨3, 4⟩ ⟨7, 1024⟩).mono ?_
  rw [s2]
  rintro e w4 ⟨rfl, hh, hu⟩
  obtain ⟨F4, hF⟩ : ∃ F4, grow F (w3.alloc (.cells #[.int .u32 7, .int .i64 1024] 26)) w4 = F4 := ⟨_, rfl⟩
  have HH := hid hh
  have HA := hid ((HA.out.alloc _).call hu)
  have HB := hid ((HB.out.alloc _).call hu)
  have HC := hid (HC.out.call hu)
  rw [hF] at HH HA HB HC
  clear hh hu hF
  obtain ⟨a0, a1, a2, a3⟩ := HA.out.ads 1 2
  obtain ⟨b0, b1, b2, b3⟩ := HB.out.ads 3 4
  obtain ⟨q0, q1, q2, q3⟩ := HC.out.ads 7 1024
  go_wp2_with fail
  clear a0 a1 a2 a3 b0 b1 b2 b3 q0 q1 q2 q3
  have HD : Hid (Mine F4 (w4.alloc (.cells #[.int .u32 1, .int .i64 2] 26)) w4.heap.size #[.int .u32 1, .int .i64 2] 26) := hid (Mine.fresh HH.out.lt _ _)
  refine ((HH.out.alloc _).in_ 1 ⟨3, 5⟩ ⟨7, 1024⟩).mono ?_
  rw [s3]
  rintro e w5 ⟨rfl, hh, hu⟩
  obtain ⟨F5, hF⟩ : ∃ F5, grow F4 (w4.alloc (.cells #[.int .u32 1, .int .i64 2] 26)) w5 = F5 := ⟨_, rfl⟩
  have HH := hid hh
  have HA := hid ((HA.out.alloc _).call hu)
  have HB := hid ((HB.out.alloc _).call hu)
  have HC := hid ((HC.out.alloc _).call hu)
  have HD := hid (HD.out.call hu)
  rw [hF] at HH HA HB HC HD
  clear hh hu hF
  obtain ⟨a0, a1, a2, a3⟩ := HA.out.ads 1 2
  obtain ⟨b0, b1, b2, b3⟩ := HB.out.ads 3 4
  obtain ⟨q0, q1, q2, q3⟩ := HC.out.ads 7 1024
  go_wp2_with fail
  clear a0 a1 a2 a3 b0 b1 b2 b3 q0 q1 q2 q3
  refine ((HH.out.alloc _).in_ 11 ⟨3, 4⟩ ⟨7, 1024⟩).mono ?_
  rw [s4]
  rintro e w6 ⟨rfl, hh, hu⟩
  obtain ⟨F6, hF⟩ : ∃ F6, grow F5 (w5.alloc (.cells #[.int .u32 0, .int .i64 0] 26)) w6 = F6 := ⟨_, rfl⟩
  have HH := hid hh
  have HA := hid ((HA.out.alloc _).call hu)
  have HB := hid ((HB.out.alloc _).call hu)
  have HC := hid ((HC.out.alloc _).call hu)
  have HD := hid ((HD.out.alloc _).call hu)
  rw [hF] at HH HA HB HC HD
  clear hh hu hF
  go_wp2_with fail
  refine (new_no ⟨0, 0, 0, false, 0⟩ _ rfl).mono ?_
  rintro e w7 ⟨rfl, hu⟩
  obtain ⟨a0, a1, a2, a3⟩ := ((HA.out.alloc _).still hu).ads 1 2
  obtain ⟨q0, q1, q2, q3⟩ := ((HC.out.alloc _).still hu).ads 7 1024
  obtain ⟨d0, d1, d2, d3⟩ := ((HD.out.alloc _).still hu).ads 1 2
  have HU := hid ((HH.out.alloc _).still hu).upd
  clear hu
  go_wp2_with fail
  go_ret
  exact ⟨rfl, HU.out.mono (fun k hk h => by omega)⟩
end Go.Proofs.Ytbcchdnbfblooaa
