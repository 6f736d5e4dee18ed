/- The call (*Box).In (no statement of the seat). -/
import Derived.Test.YtbcchdnbfblooaaNew
namespace Go.Proofs.Ytbcchdnbfblooaa
open Go.RowKit
open Go.ChangeMaps (setBlock)

def InPost (g : Nat) (c : Cfg) (L : List Ent) (F : Nat → Prop) (now : Int) (fr to : Ad) (w : World) (e : Ending) (w' : World) : Prop :=
  e = .returned (.tuple #[(inL c now fr to L).2.1.v, .int .i64 (inL c now fr to L).2.2]) ∧ BoxIs g c (inL c now fr to L).1 (grow F w w') w' ∧ Upd F w w'

/-- A block that is new since w, behind a call that writes F alone. -/
theorem new_blk {F : Nat → Prop} {w W W1 : World} (hlt : ∀ k, F k → k < w.heap.size) (hu : Upd F W W1) {b : Nat} {o : Obj} (hb : W.heap[b]? = some o) (hn : w.heap.size ≤ b) : W1.heap[b]? = some o :=
  hu.blk hb (fun h => by have := hlt b h; omega)

theorem BoxIs.widen {g : Nat} {c : Cfg} {L : List Ent} {F F' : Nat → Prop} {w : World} (h : BoxIs g c L F w) (hs : ∀ k, F k → F' k) (hl : ∀ k, F' k → k < w.heap.size) : BoxIs g c L F' w := by
  obtain ⟨mo, mp, co, cp, Z, EO, EP, hb, hL, hF, _⟩ := h
  exact ⟨mo, mp, co, cp, Z, EO, EP, hb, hL, fun k hk => hs k (hF k hk), hl⟩
theorem box_close {g : Nat} {c : Cfg} {M : List Ent} {F : Nat → Prop} {w w0 w1 W : World} {S : Nat → Prop} (hlt : ∀ k, F k → k < w.heap.size) (h0 : w.heap.size ≤ w0.heap.size) (hB : BoxIs g c M (grow F w0 w1) w1) (hu1 : Upd F w w1)
    (hu : Upd S w1 W) (hS : ∀ k, S k → w.heap.size ≤ k ∧ k < w0.heap.size) : BoxIs g c M (grow F w W) W ∧ Upd F w W := by
  have hU : Upd F w W := hu1.then_ hu (fun k hk h => by have := (hS k h).1; omega)
  refine ⟨(hB.upd hu (fun k hk h => ?_)).widen (fun k hk => ?_) (fun k hk => ?_), hU⟩
  · have h1 := hS k h
    rcases hk with hk | hk
    · have := hlt k hk; omega
    · omega
  · rcases hk with hk | hk
    · exact .inl hk
    · have := hu.size
      exact .inr (by omega)
  · rcases hk with hk | hk
    · exact Nat.lt_of_lt_of_le (hlt k hk) hU.size
    · exact hk.2

theorem inL_none {c : Cfg} {now : Int} {fr to : Ad} {L : List Ent} (h : (alive (cutT now) c.tmo L).find? (fun e => decide (e.port = to.p)) = none) : inL c now fr to L = (alive (cutT now) c.tmo L, ⟨0, 0⟩, 7) := by
  unfold inL; dsimp only; rw [h]; split <;> rfl
theorem inL_host {c : Cfg} {now : Int} {fr to : Ad} {L : List Ent} (h : to.h ≠ c.pub) : inL c now fr to L = (alive (cutT now) c.tmo L, ⟨0, 0⟩, 7) := by
  unfold inL; dsimp only; rw [if_pos h]
theorem inL_some {c : Cfg} {now : Int} {fr to : Ad} {L : List Ent} {e : Ent} (h : to.h = c.pub) (hf : (alive (cutT now) c.tmo L).find? (fun e => decide (e.port = to.p)) = some e) :
    inL c now fr to L = if e.sent.any (fun a => likeB c.fil a fr) = true then (alive (cutT now) c.tmo L, e.ins, 0) else (alive (cutT now) c.tmo L, ⟨0, 0⟩, 9) := by
  unfold inL; dsimp only; rw [if_neg (by simp [h]), hf]

set_option maxRecDepth 100000 in
set_option maxHeartbeats 4000000 in
theorem in_any (g : Nat) (c : Cfg) (L : List Ent) (F : Nat → Prop) (now : Int) (fr to : Ad) (w : World) (h : BoxIs g c L F w) (R : Right c) (G : Good c.map L) :
    Calls Try.prog 14 #[ptr g, .int .i64 now, fr.v, to.v] w (InPost g c L F now fr to w) := by
  obtain ⟨f1, f2⟩ := fr
  obtain ⟨t1, t2⟩ := to
  have hltF : ∀ k, F k → k < w.heap.size := by obtain ⟨_, _, _, _, _, _, _, _, _, _, hlt⟩ := h; exact hlt
  have HLT := hid hltF
  have hU0 : Upd (fun _ => False) w ((((w.alloc (.cells #[ptr g] 29)).alloc (.cells #[.int .u32 f1, .int .i64 f2] 26)).alloc (.cells #[.int .u32 t1, .int .i64 t2] 26)).alloc (.cells #[.int .u32 0, .int .i64 0] 26)) :=
    ((((Upd.refl _ w).alloc _).alloc _).alloc _).alloc _
  have HB0 := hid (h.upd hU0 (fun _ _ h => h))
  have hp0 := (((Upd.refl (fun _ => False) _).alloc (.cells #[.int .u32 f1, .int .i64 f2] 26)).alloc (.cells #[.int .u32 t1, .int .i64 t2] 26) |>.alloc (.cells #[.int .u32 0, .int .i64 0] 26)).blk (heap_alloc_new w (.cells #[ptr g] 29)) (fun h => h)
  have hf0 := (((Upd.refl (fun _ => False) _).alloc (.cells #[.int .u32 t1, .int .i64 t2] 26)).alloc (.cells #[.int .u32 0, .int .i64 0] 26)).blk (heap_alloc_new (w.alloc (.cells #[ptr g] 29)) (.cells #[.int .u32 f1, .int .i64 f2] 26)) (fun h => h)
  have ht0 := ((Upd.refl (fun _ => False) _).alloc (.cells #[.int .u32 0, .int .i64 0] 26)).blk (heap_alloc_new ((w.alloc (.cells #[ptr g] 29)).alloc (.cells #[.int .u32 f1, .int .i64 f2] 26)) (.cells #[.int .u32 t1, .int .i64 t2] 26)) (fun h => h)
  have hr0 := heap_alloc_new (((w.alloc (.cells #[ptr g] 29)).alloc (.cells #[.int .u32 f1, .int .i64 f2] 26)).alloc (.cells #[.int .u32 t1, .int .i64 t2] 26)) (.cells #[.int .u32 0, .int .i64 0] 26)
  simp only [World.size_alloc] at hf0 ht0 hr0
  have HP0 := hid hp0
  have HF0 := hid hf0
  have HT0 := hid ht0
  have HR0 := hid hr0
  have HU0 := hid hU0
  have HR := hid R
  have HG := hid G
  clear hltF hU0 hp0 hf0 ht0 hr0 h R G
  go_enter Try.func14, Try.ntmps14
  go_wp2_with fail
  refine (at_any g c L F now _ HB0.out HR.out HG.out).mono ?_
  rintro e w1 ⟨rfl, hb1, hu1⟩
  have HP1 := hid (new_blk HLT.out hu1 HP0.out (Nat.le_refl _))
  have HF1 := hid (new_blk HLT.out hu1 HF0.out (by omega))
  have HT1 := hid (new_blk HLT.out hu1 HT0.out (by omega))
  have HR1 := hid (new_blk HLT.out hu1 HR0.out (by omega))
  have HU1 := hid ((HU0.out.mono (S1 := F) (fun _ _ h => h.elim)).trans hu1)
  have HM := hid (HG.out.alive (cutT now) c.tmo)
  have HBI := hid hb1
  obtain ⟨mo, mp, co, cp, Z, EO, EP, hb, hZ, hF1, hlt1⟩ := hb1
  have hfind : (alive (cutT now) c.tmo L).find? (fun e => decide (e.port = t2)) = (Z.find? (fun z => decide (z.1.port = t2))).map Prod.fst := by
    rw [← hZ, List.find?_map]; rfl
  have p1 : w1.cell? ⟨w.heap.size, 0, none⟩ = some (ptr g) := (blk_cell HP1.out 0).trans rfl
  have q1 : w1.cell? ⟨w.heap.size + 1 + 1, 0, none⟩ = some (.int .u32 t1) := (blk_cell HT1.out 0).trans rfl
  have q2 : w1.cell? ⟨w.heap.size + 1 + 1, 1, none⟩ = some (.int .i64 t2) := (blk_cell HT1.out 1).trans rfl
  have c6 : w1.cell? ⟨g, 6, none⟩ = some (.map (some mp)) := (blk_cell hb.box 6).trans rfl
  have c0 : w1.cell? ⟨g, 0, none⟩ = some (.int .u32 c.pub) := (blk_cell hb.box 0).trans rfl
  have z0 : w1.frozen? ⟨w.heap.size + 1 + 1 + 1, 0, none⟩ = false := blk_free HR1.out 0
  have z1 : w1.frozen? ⟨w.heap.size + 1 + 1 + 1, 1, none⟩ = false := blk_free HR1.out 1
  have y0 : w1.cell? ⟨w.heap.size + 1 + 1 + 1, 0, none⟩ = some (.int .u32 0) := (blk_cell HR1.out 0).trans rfl
  have y1 : w1.cell? ⟨w.heap.size + 1 + 1 + 1, 1, none⟩ = some (.int .i64 0) := (blk_cell HR1.out 1).trans rfl
  have hrun : (Instr.lookup 55 (.map (some mp)) (.int .i64 t2) false).run Try.prog w1.drew = _ := run_port (hb.upd (Upd.drew (Upd.refl (fun _ => False) w1)) (fun _ _ h => h)) t2
  have HB := hid hb
  have HZ := hid hZ
  have HF' := hid hF1
  have HL' := hid hlt1
  have HFI := hid hfind
  clear hb hZ hF1 hlt1 hu1 hfind
  cases hfz : Z.find? (fun z => decide (z.1.port = t2)) with
  | none =>
    have hrun' : (Instr.lookup 55 (.map (some mp)) (.int .i64 t2) false).run Try.prog w1.drew = .ok (.pointer none) w1.drew := by rw [hrun, hfz]; rfl
    rw [hfz] at HFI
    clear hrun hfz
    go_wp2_with fail
    refine wp_region_still_tail 6 (by kernel_rfl) (by kernel_rfl) ?_
    simp only [List.take_succ_cons, List.take_zero, List.drop_succ_cons, List.drop_zero, World.drew_eq]
    repeat still_step
    refine wpStill_nil ?_
    go_wp2_with fail
    go_quiet (fail)
    go_wp2_with fail
    have hi : inL c now ⟨f1, f2⟩ ⟨t1, t2⟩ L = _ := inL_none HFI.out
    refine bodyPost_ret (v := .tuple #[.agg #[.int .u32 0, .int .i64 0], .int .i64 7]) ?_ rfl ?_
    · simp [results, Try.results14, go_sem, y0, y1]
    · have hcl := box_close HLT.out HU0.out.size HBI.out HU1.out (W := ((w1.drewN (1 + nq)).setCell ⟨w.heap.size + 1 + 1 + 1, 0, none⟩ (.int .u32 0)).setCell ⟨w.heap.size + 1 + 1 + 1, 1, none⟩ (.int .i64 0)) (S := fun k => k = w.heap.size + 1 + 1 + 1)
        ((((Upd.refl (fun k => k = w.heap.size + 1 + 1 + 1) w1).drewN _).setCell (p := ⟨w.heap.size + 1 + 1 + 1, 0, none⟩) (fun _ => rfl) _).setCell (p := ⟨w.heap.size + 1 + 1 + 1, 1, none⟩) (fun _ => rfl) _) (fun k hk => by subst hk; simp only [World.size_alloc]; omega)
      unfold InPost
      rw [hi]
      exact ⟨rfl, hcl.1, hcl.2⟩
  | some z =>
    have hz : z ∈ Z := List.mem_of_find?_eq_some hfz
    have hE := HB.out.ents z hz
    have hsl := (HM.out.sent1 z.1 (by rw [← HZ.out]; exact List.mem_map_of_mem hz))
    have hrun' : (Instr.lookup 55 (.map (some mp)) (.int .i64 t2) false).run Try.prog w1.drew = .ok (.pointer (some ⟨z.2.blk, 0, none⟩)) w1.drew := by rw [hrun, hfz]; rfl
    rw [hfz] at HFI
    have HFI' : Hid ((alive (cutT now) c.tmo L).find? (fun e => decide (e.port = t2)) = some z.1) := hid HFI.out
    obtain ⟨ze, zs⟩ := z
    have e0 : w1.cell? ⟨zs.blk, 0, none⟩ = some (.int .u32 ze.ins.h) := (blk_cell hE.blk 0).trans rfl
    have e1 : w1.cell? ⟨zs.blk, 1, none⟩ = some (.int .i64 ze.ins.p) := (blk_cell hE.blk 1).trans rfl
    have e6 : w1.cell? ⟨zs.blk, 6, none⟩ = some (.slice (some ⟨zs.row, 0, none⟩) ze.sent.length zs.cap) := (blk_cell hE.blk 6).trans rfl
    have hS : SrcAd w1 (some ⟨zs.row, 0, none⟩) ze.sent := SrcAd.of_row hE.row rfl
    have hEI : EnvIn w1 w.heap.size (w.heap.size + 1) g c.fil ⟨f1, f2⟩ :=
      ⟨p1, (blk_cell HF1.out 0).trans rfl, (blk_cell HF1.out 1).trans rfl, (blk_cell HB.out.box 2).trans rfl⟩
    have HS := hid hS
    have HEI := hid hEI
    clear hrun hfz hE hz hS hEI
    by_cases ht : t1 = c.pub
    · have kt : (t1 != c.pub) = false := by simp [ht]
      have HT := hid ht
      clear ht
      go_wp2_with fail
      refine wp_region_still_tail 6 (by kernel_rfl) (by kernel_rfl) ?_
      simp only [List.take_succ_cons, List.take_zero, List.drop_succ_cons, List.drop_zero, World.drew_eq]
      repeat still_step
      refine wpStill_nil ?_
      go_wp2_with fail
      go_quiet (fail)
      go_wp2_with fail
      have hdr : ∀ n, Upd (fun _ => False) w1 (w1.drewN n) := fun n => (Upd.refl _ w1).drewN n
      refine (containsFunc_any _ zs.cap ze.sent w.heap.size (w.heap.size + 1) g c.fil ⟨f1, f2⟩ _ (HS.out.upd (hdr _) (fun _ _ h => h)) (by omega) (HEI.out.upd (hdr _) (fun _ _ h => h))).mono ?_
      rintro e w2 ⟨rfl, hu2⟩
      have hu12 : Upd (fun _ => False) w1 w2 := (hdr _).trans hu2
      have hi : inL c now ⟨f1, f2⟩ ⟨t1, t2⟩ L = _ := inL_some HT.out HFI'.out
      have z0' := hu12.frozen (p := ⟨w.heap.size + 1 + 1 + 1, 0, none⟩) (World.block_lt_of_cell? _ _ y0) (fun h => h)
      have z1' := hu12.frozen (p := ⟨w.heap.size + 1 + 1 + 1, 1, none⟩) (World.block_lt_of_cell? _ _ y1) (fun h => h)
      rw [z0] at z0'
      rw [z1] at z1'
      have y0' := hu12.cell y0 (fun h => h)
      have y1' := hu12.cell y1 (fun h => h)
      have e0' := hu12.cell e0 (fun h => h)
      have e1' := hu12.cell e1 (fun h => h)
      have HI := hid hi
      have HU12 := hid hu12
      clear hu2 hu12 hi hdr
      cases hany : ze.sent.any (fun a => likeB c.fil a ⟨f1, f2⟩) with
      | true =>
        rw [hany] at HI
        have HI2 : Hid (inL c now ⟨f1, f2⟩ ⟨t1, t2⟩ L = (alive (cutT now) c.tmo L, ze.ins, 0)) := hid HI.out
        clear hany
        go_wp2_with fail
        refine bodyPost_ret (v := .tuple #[.agg #[.int .u32 ze.ins.h, .int .i64 ze.ins.p], .int .i64 0]) ?_ rfl ?_
        · simp [results, Try.results14, go_sem, y0', y1']
        · have hcl := box_close HLT.out HU0.out.size HBI.out HU1.out (W := (w2.setCell ⟨w.heap.size + 1 + 1 + 1, 0, none⟩ (.int .u32 ze.ins.h)).setCell ⟨w.heap.size + 1 + 1 + 1, 1, none⟩ (.int .i64 ze.ins.p)) (S := fun k => k = w.heap.size + 1 + 1 + 1)
            (((HU12.out.mono (S1 := fun k => k = w.heap.size + 1 + 1 + 1) (fun _ _ h => h.elim)).setCell (p := ⟨w.heap.size + 1 + 1 + 1, 0, none⟩) (fun _ => rfl) _).setCell (p := ⟨w.heap.size + 1 + 1 + 1, 1, none⟩) (fun _ => rfl) _) (fun k hk => by subst hk; simp only [World.size_alloc]; omega)
          unfold InPost
          rw [HI2.out]
          exact ⟨rfl, hcl.1, hcl.2⟩
      | false =>
        rw [hany] at HI
        have HI2 : Hid (inL c now ⟨f1, f2⟩ ⟨t1, t2⟩ L = (alive (cutT now) c.tmo L, ⟨0, 0⟩, 9)) := hid HI.out
        clear hany
        go_wp2_with fail
        refine bodyPost_ret (v := .tuple #[.agg #[.int .u32 0, .int .i64 0], .int .i64 9]) ?_ rfl ?_
        · simp [results, Try.results14, go_sem, y0', y1']
        · have hcl := box_close HLT.out HU0.out.size HBI.out HU1.out (W := (w2.setCell ⟨w.heap.size + 1 + 1 + 1, 0, none⟩ (.int .u32 0)).setCell ⟨w.heap.size + 1 + 1 + 1, 1, none⟩ (.int .i64 0)) (S := fun k => k = w.heap.size + 1 + 1 + 1)
            (((HU12.out.mono (S1 := fun k => k = w.heap.size + 1 + 1 + 1) (fun _ _ h => h.elim)).setCell (p := ⟨w.heap.size + 1 + 1 + 1, 0, none⟩) (fun _ => rfl) _).setCell (p := ⟨w.heap.size + 1 + 1 + 1, 1, none⟩) (fun _ => rfl) _) (fun k hk => by subst hk; simp only [World.size_alloc]; omega)
          unfold InPost
          rw [HI2.out]
          exact ⟨rfl, hcl.1, hcl.2⟩
    · have kt : (t1 != c.pub) = true := bne_iff_ne.2 ht
      have HT := hid ht
      clear ht
      go_wp2_with fail
      refine wp_region_still_tail 6 (by kernel_rfl) (by kernel_rfl) ?_
      simp only [List.take_succ_cons, List.take_zero, List.drop_succ_cons, List.drop_zero, World.drew_eq]
      repeat still_step
      refine wpStill_nil ?_
      go_wp2_with fail
      go_quiet (fail)
      go_wp2_with fail
      have hi : inL c now ⟨f1, f2⟩ ⟨t1, t2⟩ L = _ := inL_host HT.out
      refine bodyPost_ret (v := .tuple #[.agg #[.int .u32 0, .int .i64 0], .int .i64 7]) ?_ rfl ?_
      · simp [results, Try.results14, go_sem, y0, y1]
      · have hcl := box_close HLT.out HU0.out.size HBI.out HU1.out (W := ((w1.drewN (1 + nq)).setCell ⟨w.heap.size + 1 + 1 + 1, 0, none⟩ (.int .u32 0)).setCell ⟨w.heap.size + 1 + 1 + 1, 1, none⟩ (.int .i64 0)) (S := fun k => k = w.heap.size + 1 + 1 + 1)
          ((((Upd.refl (fun k => k = w.heap.size + 1 + 1 + 1) w1).drewN _).setCell (p := ⟨w.heap.size + 1 + 1 + 1, 0, none⟩) (fun _ => rfl) _).setCell (p := ⟨w.heap.size + 1 + 1 + 1, 1, none⟩) (fun _ => rfl) _) (fun k hk => by subst hk; simp only [World.size_alloc]; omega)
        unfold InPost
        rw [hi]
        exact ⟨rfl, hcl.1, hcl.2⟩
end Go.Proofs.Ytbcchdnbfblooaa
