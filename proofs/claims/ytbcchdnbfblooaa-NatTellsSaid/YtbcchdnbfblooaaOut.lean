/- The call (*Box).Out (no statement of the seat). -/
import Derived.Test.YtbcchdnbfblooaaFin
import Derived.Test.YtbcchdnbfblooaaApp
import Derived.Deep.Cut
import Derived.Deep.CutBlock
namespace Go.Proofs.Ytbcchdnbfblooaa
open Go.RowKit
open Go.ChangeMaps (setBlock)

def OutPost (g : Nat) (c : Cfg) (L : List Ent) (F : Nat → Prop) (now : Int) (fr tt : Ad) (w : World) (e : Ending) (w' : World) : Prop :=
  e = .returned (.tuple #[(outL c now fr tt L).2.1.v, .int .i64 (outL c now fr tt L).2.2]) ∧ BoxIs g c (outL c now fr tt L).1 (grow F w w') w' ∧ Upd F w w'

def Mid (g : Nat) (c : Cfg) (L : List Ent) (F : Nat → Prop) (now : Int) (fr tt : Ad) (w w0 : World) (v : Value) (wm : World) : Prop :=
  ∃ mo mp co cp A B EO EP eb port used sv cap sent, MidAt g mo mp co cp c A B EO EP fr tt eb port used sv cap sent wm ∧ v = ptr eb ∧
    outL c now fr tt L = (A.map Prod.fst ++ ⟨fr, port, cutT now, sendTo sent tt⟩ :: B.map Prod.fst, ⟨c.pub, port⟩, 0) ∧
    (∀ k, k ∈ g :: mo :: mp :: (foot A ++ (eb :: rowOf sv) ++ foot B) → grow F w0 wm k) ∧
    wm.heap[w.heap.size + 1]? = some (.cells #[.int .u32 tt.h, .int .i64 tt.p] 26 (0, 0)) ∧
    wm.heap[w.heap.size + 1 + 1]? = some (.cells #[.int .u32 0, .int .i64 0] 26 (0, 0)) ∧ Upd F w wm

theorem own_not {sv : Option Addr} {n cap eb : Nat} (h : eb ∉ rowOf sv) : ¬ ((Value.slice sv n cap).ownBlock = some eb) := by
  intro hk
  cases sv with
  | none => simp [Value.ownBlock] at hk
  | some a => simp only [Value.ownBlock, Option.some.injEq] at hk; exact h (by simp [rowOf, hk])

theorem bump_other {m : Int} {fr tt : Ad} {t : Int} {l : List Ent} (h : (fr, red m tt) ∉ l.map (Ent.key m)) : l.map (bump m fr tt t) = l := by
  rw [List.map_congr_left (g := id) ?_, List.map_id]
  intro e he
  unfold bump
  rw [if_neg]; rfl
  intro hk
  simp only [keyB, decide_eq_true_eq] at hk
  exact h (hk ▸ List.mem_map_of_mem he)

theorem row_some {w : World} {sv : Option Addr} {n cap : Nat} {l : List Ad} (h : w.ownsRow 0 26 2 (.slice sv l.length cap) n (adCells l)) (hl : l ≠ []) : ∃ row, sv = some ⟨row, 0, none⟩ := by
  rcases h.2 with ⟨h1, _⟩ | ⟨g, c, cur, hv, _⟩
  · simp only [Value.slice.injEq] at h1
    exact absurd (List.length_eq_zero_iff.1 h1.2.1) hl
  · simp only [Value.slice.injEq] at hv
    exact ⟨g, hv.1⟩

section
variable {g mo mp co cp : Nat} {c : Cfg} {Z A B : List (Ent × Slot)} {EO : List ((Ad × Ad) × MapEntry)} {EP : List (Int × MapEntry)} {w : World} {L : List Ent} {now : Int} {fr tt : Ad} {z : Ent × Slot}
theorem out_found (G : Good c.map (alive (cutT now) c.tmo L)) (hZ : Z.map Prod.fst = alive (cutT now) c.tmo L) (hs : Z = A ++ z :: B) (hk : z.1.key c.map = (fr, red c.map tt)) :
    outL c now fr tt L = (A.map Prod.fst ++ ⟨fr, z.1.port, cutT now, sendTo z.1.sent tt⟩ :: B.map Prod.fst, ⟨c.pub, z.1.port⟩, 0) := by
  have hN := G.keysN
  have hM : alive (cutT now) c.tmo L = A.map Prod.fst ++ z.1 :: B.map Prod.fst := by rw [← hZ, hs]; simp
  rw [hM, List.map_append, List.map_cons, List.nodup_append] at hN
  obtain ⟨_, hB, hAB⟩ := hN
  rw [List.nodup_cons] at hB
  have hA' : (fr, red c.map tt) ∉ (A.map Prod.fst).map (Ent.key c.map) := fun h => hAB _ h _ (List.mem_cons_self ..) hk.symm
  have hB' : (fr, red c.map tt) ∉ (B.map Prod.fst).map (Ent.key c.map) := fun h => hB.1 (hk ▸ h)
  have hf : (alive (cutT now) c.tmo L).find? (keyB c.map fr tt) = some z.1 := by
    rw [hM, List.find?_append]
    have : (A.map Prod.fst).find? (keyB c.map fr tt) = none := by
      rw [List.find?_eq_none]
      intro e he hk'
      simp only [keyB, decide_eq_true_eq] at hk'
      exact hA' (hk' ▸ List.mem_map_of_mem he)
    rw [this]
    simp [keyB, hk]
  unfold outL
  dsimp only
  rw [hf]
  dsimp only
  rw [hM, List.map_append, List.map_cons, bump_other hA', bump_other hB']
  have hb : bump c.map fr tt (cutT now) z.1 = ⟨fr, z.1.port, cutT now, sendTo z.1.sent tt⟩ := by
    unfold bump
    rw [if_pos (by simp [keyB, hk])]
    have : z.1.ins = fr := congrArg Prod.fst hk
    rw [this]
  rw [hb]
theorem mid_found (h : BoxAt g mo mp co cp c Z EO EP w) (G : Good c.map (Z.map Prod.fst)) (hs : Z = A ++ z :: B) (hk : z.1.key c.map = (fr, red c.map tt)) :
    MidAt g mo mp co cp c A B EO EP fr tt z.2.blk z.1.port z.1.used (some ⟨z.2.row, 0, none⟩) z.2.cap z.1.sent w := by
  have hz : z ∈ Z := by rw [hs]; simp
  have hE := h.ents z hz
  have hi : z.1.ins = fr := congrArg Prod.fst hk
  have hr : red c.map z.1.head = red c.map tt := congrArg Prod.snd hk
  have hze : z.1 ∈ Z.map Prod.fst := List.mem_map_of_mem hz
  refine ⟨h.box, h.bo, h.bp, h.eo, h.ep, ?_, ?_, fun y hy => h.ents y (by rw [hs]; simp [hy]), fun y hy => h.ents y (by rw [hs]; simp [hy]), ?_, SrcAd.of_row hE.row rfl, hE.row, ?_, G.sent1 _ hze, fun _ => hr, G.portR _ hze⟩
  · rw [h.zo, hs]; simp [hk]
  · rw [h.zp, hs]; simp
  · rw [hE.blk, entCells, hi, hr]
  · have := h.nodup
    rw [hs, foot_mid] at this
    exact this

theorem mid_new {w9 : World} {p : Int} {eb : Nat} (h : BoxAt g mo mp co cp c Z EO EP w) (hfoot : ∀ k, k ∈ g :: mo :: mp :: foot Z → k < eb)
    (ho : w9.heap[mo]? = some (.map (arr (EO ++ [((fr, red c.map tt), ⟨ownV (fr, red c.map tt), ptr eb, co⟩)])) (co + 1)))
    (hp : w9.heap[mp]? = some (.map (arr (EP ++ [(p, ⟨portV p, ptr eb, cp⟩)])) (cp + 1))) (hu : Upd (fun k => k = mo ∨ k = mp) w w9)
    (he : w.heap[eb]? = some (.cells #[.int .u32 fr.h, .int .i64 fr.p, .int .u32 (red c.map tt).h, .int .i64 (red c.map tt).p, .int .i64 p, .int .i64 0, .slice none 0 0] 65 (0, 0)))
    (hr : 1024 ≤ p ∧ p ≤ 1088) :
    MidAt g mo mp (co + 1) (cp + 1) c Z [] (EO ++ [((fr, red c.map tt), ⟨ownV (fr, red c.map tt), ptr eb, co⟩)]) (EP ++ [(p, ⟨portV p, ptr eb, cp⟩)]) fr tt eb p 0 none 0 [] w9 := by
  have hnd := nd h
  refine ⟨hu.blk h.box (by rintro (e | e); exact hnd.1 e; exact hnd.2.1 e), ho, hp, h.eo.snoc _ _, h.ep.snoc _ _, ?_, ?_, ?_, by simp, ?_, SrcAd.nil _ _, ?_, ?_, by simp, by simp, hr⟩
  · rw [List.map_append, h.zo]; simp
  · rw [List.map_append, h.zp]; simp
  · intro z hz
    have := hnd.2.2.2 z hz
    refine (h.ents z hz).upd hu ?_ ?_
    · rintro (e | e); exact this.2.1 e; exact this.2.2.1 e
    · rintro (e | e); exact this.2.2.2.2.1 e; exact this.2.2.2.2.2 e
  · refine hu.blk he ?_
    have h1 := hfoot mo (by simp)
    have h2 := hfoot mp (by simp)
    rintro (e | e) <;> omega
  · exact World.ownsRow_nil _ _ _ _
  · have e : g :: mo :: mp :: (foot Z ++ (eb :: rowOf none) ++ foot []) = (g :: mo :: mp :: foot Z) ++ [eb] := by simp [rowOf, foot]
    rw [e, List.nodup_append]
    refine ⟨h.nodup, by simp, fun a ha b hb => ?_⟩
    simp at hb; subst hb
    have := hfoot a ha
    omega

theorem setB {w : World} {b : Nat} {o : Obj} (o' : Obj) (hb : w.heap[b]? = some o) : (setBlock w b o').heap[b]? = some o' ∧ Upd (fun k => k = b) w (setBlock w b o') :=
  ⟨(Go.MapKept.heap_set hb).1, ⟨rfl, rfl, rfl, by simp [setBlock], fun k _ hn => (Go.MapKept.heap_set hb).2 k hn⟩⟩
theorem put_both (h : BoxAt g mo mp co cp c Z EO EP w) (k : Ad × Ad) (p : Int) (eb : Nat) (hko : ∀ x, x ∈ EO → x.1 ≠ k) (hkp : ∀ x, x ∈ EP → x.1 ≠ p) :
    ∃ w6 w7 w8 w9, (Instr.mapEntry 54 (.map (some mo)) (ownV k)).run Try.prog w.drew = .ok (.tuple #[.pointer none, .int .i64 co]) w6 ∧
      (Instr.entryStore 54 (.map (some mo)) (.int .i64 co) (ptr eb)).run Try.prog w6 = .ok () w7 ∧
      (Instr.mapEntry 55 (.map (some mp)) (.int .i64 p)).run Try.prog w7 = .ok (.tuple #[.pointer none, .int .i64 cp]) w8 ∧
      (Instr.entryStore 55 (.map (some mp)) (.int .i64 cp) (ptr eb)).run Try.prog w8 = .ok () w9 ∧
      w9.heap[mo]? = some (.map (arr (EO ++ [(k, ⟨ownV k, ptr eb, co⟩)])) (co + 1)) ∧
      w9.heap[mp]? = some (.map (arr (EP ++ [(p, ⟨portV p, ptr eb, cp⟩)])) (cp + 1)) ∧ Upd (fun k => k = mo ∨ k = mp) w w9 := by
  have hnd := nd h
  have hbo5 : w.drew.heap[mo]? = some (.map (arr EO) co) := h.bo
  have r1 := run_mapEntry_new keyOwn (t := 54) (e := 62) Try.underlying54 (zero62 w.drew) hbo5 h.eo k hko
  obtain ⟨b6, u6⟩ := setB (.map (arr (EO ++ [(k, ⟨ownV k, .pointer none, co⟩)])) (co + 1)) hbo5
  have r2 := run_entryStore_new (t := 54) k (ptr eb) h.eo b6
  obtain ⟨b7, u7⟩ := setB (.map (arr (EO ++ [(k, ⟨ownV k, ptr eb, co⟩)])) (co + 1)) b6
  have u57 := ((Upd.refl (fun k => k = mo) w).drew.trans u6).trans u7
  have bp7 := u57.blk h.bp (fun e => hnd.2.2.1 e.symm)
  have r3 := run_mapEntry_new keyInt (t := 55) (e := 62) Try.underlying55 (zero62 _) bp7 h.ep p hkp
  obtain ⟨b8, u8⟩ := setB (.map (arr (EP ++ [(p, ⟨portV p, .pointer none, cp⟩)])) (cp + 1)) bp7
  have r4 := run_entryStore_new (t := 55) p (ptr eb) h.ep b8
  obtain ⟨b9, u9⟩ := setB (.map (arr (EP ++ [(p, ⟨portV p, ptr eb, cp⟩)])) (cp + 1)) b8
  have u79 := u8.trans u9
  exact ⟨_, _, _, _, r1, r2, r3, r4, u79.blk b7 hnd.2.2.1, b9, (u57.mono (fun _ _ e => .inl e)).then_ u79 (fun _ _ e => .inr e)⟩
end

set_option maxRecDepth 100000 in
set_option maxHeartbeats 8000000 in
theorem out_any (g : Nat) (c : Cfg) (L : List Ent) (F : Nat → Prop) (now : Int) (fr tt : Ad) (w : World) (h : BoxIs g c L F w) (R : Right c) (G : Good c.map L) :
    Calls Try.prog 13 #[ptr g, .int .i64 now, fr.v, tt.v] w (OutPost g c L F now fr tt w) := by
  obtain ⟨f1, f2⟩ := fr
  obtain ⟨t1, t2⟩ := tt
  have hltF : ∀ k, F k → k < w.heap.size := by obtain ⟨_, _, _, _, _, _, _, _, _, _, hlt⟩ := h; exact hlt
  have HLT := hid hltF
  obtain ⟨w0, hw0⟩ : ∃ w0, ((w.alloc (.cells #[.int .u32 f1, .int .i64 f2] 26)).alloc (.cells #[.int .u32 t1, .int .i64 t2] 26)).alloc (.cells #[.int .u32 0, .int .i64 0] 26) = w0 := ⟨_, rfl⟩
  have hU0 : Upd (fun _ => False) w w0 := by rw [← hw0]; exact (((Upd.refl _ w).alloc _).alloc _).alloc _
  have hs0 : w0.heap.size = w.heap.size + 3 := by rw [← hw0]; simp only [World.size_alloc]
  have HB0 := hid (h.upd hU0 (fun _ _ h => h))
  have hf0 : w0.heap[w.heap.size]? = some (.cells #[.int .u32 f1, .int .i64 f2] 26 (0, 0)) := by
    rw [← hw0]; exact (((Upd.refl (fun _ => False) _).alloc (.cells #[.int .u32 t1, .int .i64 t2] 26)).alloc (.cells #[.int .u32 0, .int .i64 0] 26)).blk (heap_alloc_new w (.cells #[.int .u32 f1, .int .i64 f2] 26)) (fun h => h)
  have ht0 : w0.heap[w.heap.size + 1]? = some (.cells #[.int .u32 t1, .int .i64 t2] 26 (0, 0)) := by
    rw [← hw0]
    have := ((Upd.refl (fun _ => False) _).alloc (.cells #[.int .u32 0, .int .i64 0] 26)).blk (heap_alloc_new (w.alloc (.cells #[.int .u32 f1, .int .i64 f2] 26)) (.cells #[.int .u32 t1, .int .i64 t2] 26)) (fun h => h)
    simpa only [World.size_alloc] using this
  have hr0 : w0.heap[w.heap.size + 1 + 1]? = some (.cells #[.int .u32 0, .int .i64 0] 26 (0, 0)) := by
    rw [← hw0]
    have := heap_alloc_new ((w.alloc (.cells #[.int .u32 f1, .int .i64 f2] 26)).alloc (.cells #[.int .u32 t1, .int .i64 t2] 26)) (.cells #[.int .u32 0, .int .i64 0] 26)
    simpa only [World.size_alloc] using this
  have HF0 := hid hf0
  have HT0 := hid ht0
  have HR0 := hid hr0
  have HU0 := hid hU0
  have HS0 := hid hs0
  have HR := hid R
  have HG := hid G
  have HW0 := hid hw0
  clear hltF hU0 hf0 ht0 hr0 h R G hs0 hw0
  go_enter Try.func13, Try.ntmps13
  go_wp2_with fail
  rw [HW0.out]
  refine (at_any g c L F now _ HB0.out HR.out HG.out).mono ?_
  rintro e w1 ⟨rfl, hb1, hu1⟩
  have HBI := hid hb1
  have hf1 := new_blk HLT.out hu1 HF0.out (Nat.le_refl _)
  have ht1 := new_blk HLT.out hu1 HT0.out (by omega)
  have hr1 := new_blk HLT.out hu1 HR0.out (by omega)
  have x0 : w1.cell? ⟨w.heap.size, 0, none⟩ = some (.int .u32 f1) := (blk_cell hf1 0).trans rfl
  have x1 : w1.cell? ⟨w.heap.size, 1, none⟩ = some (.int .i64 f2) := (blk_cell hf1 1).trans rfl
  have q0 : w1.cell? ⟨w.heap.size + 1, 0, none⟩ = some (.int .u32 t1) := (blk_cell ht1 0).trans rfl
  have q1 : w1.cell? ⟨w.heap.size + 1, 1, none⟩ = some (.int .i64 t2) := (blk_cell ht1 1).trans rfl
  have HT1 := hid ht1
  have HR1 := hid hr1
  have HU1 := hid ((HU0.out.mono (S1 := F) (fun _ _ h => h.elim)).trans hu1)
  have HU01 := hid hu1
  have HM := hid (HG.out.alive (cutT now) c.tmo)
  obtain ⟨mo, mp, co, cp, Z, EO, EP, hb, hZ, hF1, hlt1⟩ := hb1
  have c1 : w1.cell? ⟨g, 1, none⟩ = some (.int .i64 c.map) := (blk_cell hb.box 1).trans rfl
  have HB := hid hb
  have HZ := hid hZ
  have HF1 := hid hF1
  have HL1 := hid hlt1
  clear hb hZ hF1 hlt1 hf1 ht1 hr1 hu1
  go_wp2_with fail
  refine (key_any g c.map ⟨f1, f2⟩ ⟨t1, t2⟩ _ c1).mono ?_
  rintro e w2 ⟨rfl, hu2⟩
  have hB2 := HB.out.upd hu2 (fun _ _ h => h)
  obtain ⟨r, hr⟩ : ∃ r, red c.map ⟨t1, t2⟩ = r := ⟨_, rfl⟩
  rw [hr]
  obtain ⟨r1, r2⟩ := r
  have HRD := hid hr
  have HB2 := hid hB2
  have HT2 := hid (hu2.blk HT1.out (fun h => h))
  have HR2 := hid (hu2.blk HR1.out (fun h => h))
  have HU2 := hid (HU1.out.then_ hu2 (fun _ _ h => h.elim))
  have HU12 := hid hu2
  have hu3 : Upd (fun _ => False) w2 (w2.alloc (.cells #[.int .u32 f1, .int .i64 f2, .int .u32 r1, .int .i64 r2] 60)) := (Upd.refl _ w2).alloc _
  have hb3 := HB2.out.upd hu3 (fun _ _ h => h)
  have HB3 := hid hb3
  clear hB2 hu2 x0 x1 q0 q1 c1 hr
  go_wp2_with fail
  obtain ⟨w3, hw3⟩ : ∃ w3, w2.alloc (.cells #[.int .u32 f1, .int .i64 f2, .int .u32 r1, .int .i64 r2] 60) = w3 := ⟨_, rfl⟩
  have hk3 := heap_alloc_new w2 (.cells #[.int .u32 f1, .int .i64 f2, .int .u32 r1, .int .i64 r2] 60)
  rw [hw3] at HB3 hu3 hk3 ⊢
  have k0 : w3.cell? ⟨w2.heap.size, 0, none⟩ = some (.int .u32 f1) := (blk_cell hk3 0).trans rfl
  have k1 : w3.cell? ⟨w2.heap.size, 1, none⟩ = some (.int .i64 f2) := (blk_cell hk3 1).trans rfl
  have k2 : w3.cell? ⟨w2.heap.size, 2, none⟩ = some (.int .u32 r1) := (blk_cell hk3 2).trans rfl
  have k3 : w3.cell? ⟨w2.heap.size, 3, none⟩ = some (.int .i64 r2) := (blk_cell hk3 3).trans rfl
  have c5 : w3.cell? ⟨g, 5, none⟩ = some (.map (some mo)) := (blk_cell HB3.out.box 5).trans rfl
  have HT3 := hid (hu3.blk HT2.out (fun h => h))
  have HR3 := hid (hu3.blk HR2.out (fun h => h))
  have HU3 := hid (HU2.out.then_ hu3 (fun _ _ h => h.elim))
  have HU13 := hid (HU12.out.trans hu3)
  have HK3 := hid hk3
  have hkd : w2.heap.size < w3.heap.size := lt_of_block hk3
  have hrun : (Instr.lookup 54 (.map (some mo)) (.agg #[.int .u32 f1, .int .i64 f2, .int .u32 r1, .int .i64 r2]) false).run Try.prog w3.drew = _ :=
    run_own (HB3.out.upd (Upd.drew (Upd.refl (fun _ => False) w3)) (fun _ _ h => h)) (⟨f1, f2⟩, ⟨r1, r2⟩)
  have hsz2 : w1.heap.size ≤ w2.heap.size := HU12.out.size
  clear hu3 hk3 hb3 hw3
  obtain ⟨po, hpo⟩ : ∃ po, (Z.find? (fun z => decide (z.1.key c.map = (⟨f1, f2⟩, ⟨r1, r2⟩)))).map (fun z => (⟨z.2.blk, 0, none⟩ : Addr)) = po := ⟨_, rfl⟩
  have hrun' : (Instr.lookup 54 (.map (some mo)) (.agg #[.int .u32 f1, .int .i64 f2, .int .u32 r1, .int .i64 r2]) false).run Try.prog w3.drew = .ok (.pointer po) w3.drew := by
    rw [hrun, ← hpo]
    cases Z.find? (fun z => decide (z.1.key c.map = (⟨f1, f2⟩, ⟨r1, r2⟩))) <;> rfl
  have HPO := hid hpo
  clear hrun hpo
  refine wp_region_still_tail 5 (by kernel_rfl) (by kernel_rfl) ?_
  simp only [List.take_succ_cons, List.take_zero, List.drop_succ_cons, List.drop_zero, World.drew_eq]
  repeat still_step
  refine wpStill_nil ?_
  have hfind : (alive (cutT now) c.tmo L).find? (keyB c.map ⟨f1, f2⟩ ⟨t1, t2⟩) = (Z.find? (fun z => decide (z.1.key c.map = (⟨f1, f2⟩, ⟨r1, r2⟩)))).map Prod.fst := by
    rw [← HZ.out, List.find?_map, ← HRD.out]; rfl
  have HFI := hid hfind
  clear hfind
  go_upto_if 26 with (fail)
  go_cut [11] from 12 (fun s11 wm => Mid g c L F now ⟨f1, f2⟩ ⟨t1, t2⟩ w w0 s11 wm)
  case first =>
    cases hfz : Z.find? (fun z => decide (z.1.key c.map = (⟨f1, f2⟩, ⟨r1, r2⟩))) with
    | some z =>
      rw [hfz] at HFI HPO
      have hpo : po = some ⟨z.2.blk, 0, none⟩ := HPO.out.symm
      subst hpo
      have HFZ := hid hfz
      clear hfz
      go_wp2_with fail
      go_meet
      case rel =>
        obtain ⟨hzk, A, B, hs, _⟩ := List.find?_eq_some_iff_append.1 HFZ.out
        have hk : z.1.key c.map = (⟨f1, f2⟩, red c.map ⟨t1, t2⟩) := by rw [HRD.out]; simpa using hzk
        have hud : Upd (fun _ => False) w3 w3.drew := (Upd.refl _ w3).drew
        refine ⟨mo, mp, co, cp, A, B, EO, EP, z.2.blk, z.1.port, z.1.used, _, z.2.cap, z.1.sent, mid_found (HB3.out.upd hud (fun _ _ h => h)) (by rw [HZ.out]; exact HM.out) hs hk, rfl, out_found HM.out HZ.out hs hk, ?_, HT3.out, HR3.out, HU3.out.drew⟩
        intro k hk'
        have h1 := HF1.out k (by rw [hs, foot_mid]; exact hk')
        have h2 := HU13.out.size
        rcases h1 with h1 | h1
        · exact .inl h1
        · exact .inr ⟨h1.1, Nat.lt_of_lt_of_le h1.2 h2⟩
    | none =>
      rw [hfz] at HFI HPO
      have hpo : po = none := HPO.out.symm
      subst hpo
      have HFZ := hid hfz
      clear hfz
      have hud : Upd (fun _ => False) w1 w3.drew := HU13.out.drew
      have HBI3 := hid (HBI.out.upd hud (fun _ _ h => h))
      have hlen := HM.out.len
      have y0 : w3.cell? ⟨w.heap.size + 1 + 1, 0, none⟩ = some (.int .u32 0) := (blk_cell HR3.out 0).trans rfl
      have y1 : w3.cell? ⟨w.heap.size + 1 + 1, 1, none⟩ = some (.int .i64 0) := (blk_cell HR3.out 1).trans rfl
      have z0 : w3.frozen? ⟨w.heap.size + 1 + 1, 0, none⟩ = false := blk_free HR3.out 0
      have z1 : w3.frozen? ⟨w.heap.size + 1 + 1, 1, none⟩ = false := blk_free HR3.out 1
      clear hud hrun'
      go_wp2_with fail
      refine (len_any g c _ _ _ HBI3.out (by omega)).mono ?_
      rintro e w4 ⟨rfl, rfl⟩
      obtain ⟨n, hn⟩ : ∃ n, (alive (cutT now) c.tmo L).length = n := ⟨_, rfl⟩
      rw [hn] at hlen ⊢
      have HN := hid hn
      clear hn
      by_cases hfull : 64 ≤ n
      · have ho : outL c now ⟨f1, f2⟩ ⟨t1, t2⟩ L = (alive (cutT now) c.tmo L, ⟨0, 0⟩, 8) := by
          unfold outL; dsimp only
          rw [HFI.out]
          dsimp only [Option.map_none]
          rw [if_pos (by rw [HN.out]; exact hfull)]
        have HO := hid ho
        clear ho
        go_wp2_with fail
        refine bodyPost_ret (v := .tuple #[.agg #[.int .u32 0, .int .i64 0], .int .i64 8]) ?_ rfl ?_
        · simp [results, Try.results13, go_sem, y0, y1]
        · have hcl := box_close HLT.out HU0.out.size HBI.out HU1.out (W := ((w3.setCell ⟨w.heap.size + 1 + 1, 0, none⟩ (.int .u32 0)).setCell ⟨w.heap.size + 1 + 1, 1, none⟩ (.int .i64 0)).drew) (S := fun k => k = w.heap.size + 1 + 1)
            (((HU13.out.mono (S1 := fun k => k = w.heap.size + 1 + 1) (fun _ _ h => h.elim)).setCell (p := ⟨w.heap.size + 1 + 1, 0, none⟩) (fun _ => rfl) _).setCell (p := ⟨w.heap.size + 1 + 1, 1, none⟩) (fun _ => rfl) _).drew (fun k hk => by have := HS0.out; omega)
          unfold OutPost
          rw [HO.out]
          exact ⟨rfl, hcl.1, hcl.2⟩
      · have hud : Upd (fun _ => False) w3 w3.drew := (Upd.refl _ w3).drew
        obtain ⟨w4, hw4⟩ : ∃ w4, w3.drew = w4 := ⟨_, rfl⟩
        rw [hw4] at hud HBI3
        have k0' := hud.cell k0 (fun h => h)
        have k1' := hud.cell k1 (fun h => h)
        have k2' := hud.cell k2 (fun h => h)
        have k3' := hud.cell k3 (fun h => h)
        have HU34 := hid hud
        clear hud k0 k1 k2 k3 c5 y0 y1 z0 z1
        go_wp2_with fail
        clear hw4
        have hfree : ∀ N, Calls Try.prog 23 #[ptr g] (w4.drewN N) fun e w' => e = .returned (.int .i64 (freeP (alive (cutT now) c.tmo L))) ∧ w' = w4.drewN N :=
          fun N => (free_any g c _ _ _ (HBI3.out.upd ((Upd.refl (fun _ => False) w4).drewN N) (fun _ _ h => h)) HM.out).mono (fun _ _ h => ⟨h.1, h.2.symm⟩)
        have HFR := hid hfree
        clear hfree
        refine wp_region_still_tail 4 (by kernel_rfl) (by kernel_rfl) ?_
        simp only [List.take_succ_cons, List.take_zero, List.drop_succ_cons, List.drop_zero, World.drew_eq]
        repeat still_step
        still_call (HFR.out 1)
        repeat still_step
        refine wpStill_nil ?_
        obtain ⟨p, hp⟩ : ∃ p, freeP (alive (cutT now) c.tmo L) = p := ⟨_, rfl⟩
        rw [hp]
        have HP := hid hp
        clear hp
        go_wp2_with fail
        obtain ⟨w5, hw5⟩ : ∃ w5, (w4.alloc (.cells #[.int .u32 f1, .int .i64 f2, .int .u32 r1, .int .i64 r2, .int .i64 p, .int .i64 0, .slice none 0 0] 65)).drew = w5 := ⟨_, rfl⟩
        have hu45 : Upd (fun _ => False) w4 w5 := by rw [← hw5]; exact ((Upd.refl _ w4).alloc _).drew
        have he5 : w5.heap[w4.heap.size]? = some (.cells #[.int .u32 f1, .int .i64 f2, .int .u32 r1, .int .i64 r2, .int .i64 p, .int .i64 0, .slice none 0 0] 65 (0, 0)) := by
          rw [← hw5]; exact heap_alloc_new w4 _
        rw [hw5]
        clear hw5
        have hB5 := (HB3.out.upd HU34.out (fun _ _ h => h)).upd hu45 (fun _ _ h => h)
        have k0 := hu45.cell k0' (fun h => h)
        have k1 := hu45.cell k1' (fun h => h)
        have k2 := hu45.cell k2' (fun h => h)
        have k3 := hu45.cell k3' (fun h => h)
        have c5 : w5.cell? ⟨g, 5, none⟩ = some (.map (some mo)) := (blk_cell hB5.box 5).trans rfl
        have c6 : w5.cell? ⟨g, 6, none⟩ = some (.map (some mp)) := (blk_cell hB5.box 6).trans rfl
        have e4 : w5.cell? ⟨w4.heap.size, 4, none⟩ = some (.int .i64 p) := (blk_cell he5 4).trans rfl
        have hnd := nd hB5
        have hko : ∀ x, x ∈ EO → x.1 ≠ ((⟨f1, f2⟩, ⟨r1, r2⟩) : Ad × Ad) := by
          intro x hx e
          obtain ⟨z, hz, e1, _⟩ := mem_eo hB5 hx
          have := List.find?_eq_none.1 HFZ.out z hz
          simp only [decide_eq_true_eq] at this
          exact this (e1 ▸ e)
        have hkp : ∀ x, x ∈ EP → x.1 ≠ (p : Int) := by
          intro x hx e
          obtain ⟨z, hz, e1, _⟩ := mem_ep hB5 hx
          have hfr := (freeP_spec (alive (cutT now) c.tmo L)).1.2.1
          rw [HP.out] at hfr
          refine hfr ?_
          rw [← e, e1, ← HZ.out]
          exact List.mem_map_of_mem (List.mem_map_of_mem hz)
        obtain ⟨w6, w7, w8, w9, r1', r2', r3', r4', hbo9, hbp9, hu59⟩ := put_both hB5 ((⟨f1, f2⟩, ⟨r1, r2⟩) : Ad × Ad) (p : Int) w4.heap.size hko hkp
        have HB5 := hid hB5
        have HE5 := hid he5
        have HBO9 := hid hbo9
        have HBP9 := hid hbp9
        have HU59 := hid hu59
        have HU45 := hid hu45
        have HND := hid hnd
        clear hbo9 hbp9 hu59 hu45 hB5 he5 hko hkp hnd k0' k1' k2' k3'
        go_region
        go_wp2_with fail
        go_meet
        case rel =>
          have hU19 : Upd (fun k => k = mo ∨ k = mp) w1 w9 := ((((HU13.out.then_ HU34.out (fun _ _ h => h)).then_ HU45.out (fun _ _ h => h)).mono (fun _ _ h => h.elim)).trans HU59.out)
          have heb : w1.heap.size ≤ w4.heap.size := Nat.le_trans HU13.out.size HU34.out.size
          have hfoot : ∀ k, k ∈ g :: mo :: mp :: foot Z → k < w4.heap.size := fun k hk => by have := HL1.out k (HF1.out k hk); omega
          have hmo := HF1.out mo (by simp)
          have hmp := HF1.out mp (by simp)
          have hmol := HL1.out _ hmo
          have hmpl := HL1.out _ hmp
          refine ⟨mo, mp, co + 1, cp + 1, Z, [], _, _, w4.heap.size, (p : Int), 0, none, 0, [],
            mid_new HB5.out (fr := ⟨f1, f2⟩) (tt := ⟨t1, t2⟩) (p := (p : Int)) hfoot (by rw [HRD.out]; exact HBO9.out) HBP9.out HU59.out (by rw [HRD.out]; exact HE5.out) ?_, rfl, ?_, ?_, ?_, ?_, ?_⟩
          · have := (freeP_spec (alive (cutT now) c.tmo L))
            rw [HP.out] at this
            have h1 := this.1.1
            have h2 := this.2
            rw [HN.out] at h2
            omega
          · unfold outL
            dsimp only
            rw [HFI.out]
            dsimp only [Option.map_none]
            rw [if_neg (by rw [HN.out]; exact hfull), HP.out, HZ.out]
            have : sendTo [] (⟨t1, t2⟩ : Ad) = [⟨t1, t2⟩] := rfl
            rw [this]; rfl
          · intro k hk
            have h2 := hU19.size
            have h9 : w4.heap.size < w9.heap.size := Nat.lt_of_lt_of_le (lt_of_block HE5.out) HU59.out.size
            simp only [rowOf, List.mem_cons, List.mem_append, List.not_mem_nil, or_false, foot, List.flatMap_nil] at hk
            have hk' : k ∈ g :: mo :: mp :: foot Z ∨ k = w4.heap.size := by
              unfold foot
              simp only [List.mem_cons]
              rcases hk with h | h | h | h
              · exact .inl (.inl h)
              · exact .inl (.inr (.inl h))
              · exact .inl (.inr (.inr (.inl h)))
              · rcases h with h | h
                · exact .inl (.inr (.inr (.inr h)))
                · exact .inr h
            rcases hk' with hk' | hk'
            · rcases HF1.out k hk' with h1 | h1
              · exact .inl h1
              · exact .inr ⟨h1.1, Nat.lt_of_lt_of_le h1.2 h2⟩
            · have := HU01.out.size
              exact .inr (by omega)
          · refine hU19.blk HT1.out ?_
            have := HS0.out
            rintro (e | e)
            · subst e
              rcases hmo with h | h
              · have := HLT.out _ h; omega
              · omega
            · subst e
              rcases hmp with h | h
              · have := HLT.out _ h; omega
              · omega
          · refine hU19.blk HR1.out ?_
            have := HS0.out
            rintro (e | e)
            · subst e
              rcases hmo with h | h
              · have := HLT.out _ h; omega
              · omega
            · subst e
              rcases hmp with h | h
              · have := HLT.out _ h; omega
              · omega
          · refine HU1.out.then_ hU19 ?_
            rintro k hk (e | e)
            · subst e
              rcases hmo with h | h
              · exact h
              · have := HS0.out; omega
            · subst e
              rcases hmp with h | h
              · exact h
              · have := HS0.out; omega
  case rest =>
    obtain ⟨mo', mp', co', cp', A, B, EO', EP', eb, port, used, sv, cap, sent, hM, rfl, hout, hfoot, htB, hrC, hU⟩ := hcut
    have q0 : wc.cell? ⟨w.heap.size + 1, 0, none⟩ = some (.int .u32 t1) := (blk_cell htB 0).trans rfl
    have q1 : wc.cell? ⟨w.heap.size + 1, 1, none⟩ = some (.int .i64 t2) := (blk_cell htB 1).trans rfl
    have e6 : wc.cell? ⟨eb, 6, none⟩ = some (.slice sv sent.length cap) := (blk_cell hM.blk 6).trans rfl
    have hlen := hM.len
    have HMM := hid hM
    have HOUT := hid hout
    have HFT := hid hfoot
    have HTB := hid htB
    have HRC := hid hrC
    have HUC := hid hU
    clear hM hout hfoot htB hrC hU hrun' k0 k1 k2 k3 c5
    by_cases h32 : sent.length < 32
    · have hcon : ∀ N, Calls Try.prog 24 #[.slice sv sent.length cap, .agg #[.int .u32 t1, .int .i64 t2]] (wc.drewN N) fun e w' => e = .returned (.bool (decide ((⟨t1, t2⟩ : Ad) ∈ sent))) ∧ Upd (fun _ => False) (wc.drewN N) w' :=
        fun N => contains_any sv cap sent ⟨t1, t2⟩ _ (HMM.out.src.upd ((Upd.refl (fun _ => False) wc).drewN N) (fun _ _ h => h)) (by omega)
      have HCON := hid hcon
      have kd1 : decide ((sent.length : Int) < 32) = true := decide_eq_true (by omega)
      have kd2 : decide (sent.length < 32) = true := decide_eq_true h32
      clear hcon
      go_upto_region 9 with (fail)
      refine wp_region_still_tail 12 (by kernel_rfl) (by kernel_rfl) ?_
      simp only [List.take_succ_cons, List.take_zero, List.drop_succ_cons, List.drop_zero, World.drew_eq]
      repeat still_step
      refine wpStill_nil ?_
      go_wp2_with fail
      refine (HCON.out 1).mono ?_
      rintro e w5 ⟨rfl, hu5⟩
      have HU5 : Hid (Upd (fun _ => False) wc w5) := hid (((Upd.refl (fun _ => False) wc).drewN 1).trans hu5)
      clear hu5
      by_cases hin : (⟨t1, t2⟩ : Ad) ∈ sent
      · have kin : decide ((⟨t1, t2⟩ : Ad) ∈ sent) = true := decide_eq_true hin
        rw [kin]
        have hsend : sendTo sent ⟨t1, t2⟩ = sent := by unfold sendTo; rw [if_neg (fun h => h.2 hin)]
        have HSE := hid hsend
        obtain ⟨row', hsv⟩ := row_some HMM.out.row (by intro e; rw [e] at hin; cases hin)
        have HSV := hid hsv
        clear kin hin hsend q0 q1 e6 kd1 kd2 hsv
        have hb5 := HU5.out.blk HMM.out.blk (fun h => h)
        have x5 : w5.cell? ⟨eb, 5, none⟩ = some (.int .i64 used) := (blk_cell hb5 5).trans rfl
        have f5 : w5.frozen? ⟨eb, 5, none⟩ = false := blk_free hb5 5
        have H7 := hid (fin_still (t := cutT now) (w := w) HMM.out HU5.out HSE.out HSV.out)
        clear hb5
        go_upto_region 12 with (fail)
        obtain ⟨w7, hw7⟩ : ∃ w7, w5.setCell ⟨eb, 5, none⟩ (.int .i64 (cutT now)) = w7 := ⟨_, rfl⟩
        rw [hw7] at H7
        rw [hw7]
        clear hw7
        have g0 : w7.cell? ⟨g, 0, none⟩ = some (.int .u32 c.pub) := (blk_cell (H7.out.upd.blk HMM.out.box (fin_g HMM.out)) 0).trans rfl
        have p4 : w7.cell? ⟨eb, 4, none⟩ = some (.int .i64 port) := (blk_cell H7.out.blk 4).trans rfl
        have hC7 := fin_c H7.out HFT.out HLT.out HS0.out HRC.out
        have y0 : w7.cell? ⟨w.heap.size + 1 + 1, 0, none⟩ = some (.int .u32 0) := (blk_cell hC7 0).trans rfl
        have y1 : w7.cell? ⟨w.heap.size + 1 + 1, 1, none⟩ = some (.int .i64 0) := (blk_cell hC7 1).trans rfl
        have z0 : w7.frozen? ⟨w.heap.size + 1 + 1, 0, none⟩ = false := blk_free hC7 0
        have z1 : w7.frozen? ⟨w.heap.size + 1 + 1, 1, none⟩ = false := blk_free hC7 1
        clear hC7
        refine wp_region_still_tail 10 (by kernel_rfl) (by kernel_rfl) ?_
        simp only [List.take_succ_cons, List.take_zero, List.drop_succ_cons, List.drop_zero, World.drew_eq]
        repeat still_step
        refine wpStill_nil ?_
        go_wp2_with fail
        refine bodyPost_ret (v := .tuple #[.agg #[.int .u32 c.pub, .int .i64 port], .int .i64 0]) ?_ rfl ?_
        · simp [results, Try.results13, go_sem, y0, y1]
        · have hcl := fin_close HMM.out H7.out HFT.out HLT.out HS0.out HUC.out (lt_of_block HRC.out) (.int .u32 c.pub) (.int .i64 port)
          unfold OutPost
          rw [HOUT.out]
          exact ⟨rfl, hcl.1, hcl.2⟩
      · have kin : decide ((⟨t1, t2⟩ : Ad) ∈ sent) = false := decide_eq_false hin
        rw [kin]
        have hsend : sendTo sent ⟨t1, t2⟩ = sent ++ [⟨t1, t2⟩] := by unfold sendTo; rw [if_pos ⟨h32, hin⟩]
        have HSE := hid hsend
        have hrow5 := HU5.out.row HMM.out.row (fun _ _ h => h)
        have HROW := hid hrow5
        have b1 := HU5.out.blk HTB.out (fun h => h)
        have q0' : w5.cell? ⟨w.heap.size + 1, 0, none⟩ = some (.int .u32 t1) := (blk_cell b1 0).trans rfl
        have q1' : w5.cell? ⟨w.heap.size + 1, 1, none⟩ = some (.int .i64 t2) := (blk_cell b1 1).trans rfl
        have hb5 := HU5.out.blk HMM.out.blk (fun h => h)
        have e6' : w5.cell? ⟨eb, 6, none⟩ = some (.slice sv sent.length cap) := (blk_cell hb5 6).trans rfl
        have HB5 := hid hb5
        have e6a : (w5.alloc (.cells #[.int .u32 t1, .int .i64 t2] 26)).cell? ⟨eb, 6, none⟩ = some (.slice sv sent.length cap) := (blk_cell (((Upd.refl (fun _ => False) w5).alloc (.cells #[.int .u32 t1, .int .i64 t2] 26)).blk hb5 (fun h => h)) 6).trans rfl
        have hne := (mid_ne HMM.out.nodup).2.2
        have HNE := hid hne
        have H32 := hid h32
        clear kin hin hsend q0 q1 e6 kd1 kd2 hrow5 b1 hb5 hne h32
        go_upto_region 10 with (fail)
        go_region_law (refine step_app_ad rfl (.tmp 74) (.tmp 76) rfl ⟨t1, t2⟩ rfl (.slice sv sent.length cap) sent (by simp [Act.eval, Act.put]) HROW.out (by simp [Act.eval, Act.put, World.size_alloc]) (by have := H32.out; omega) ?_; intro g4 c4 w4 hrow4 hu4 hor4 hlt4; have hb4 := hu4.blk HB5.out (own_not HNE.out); have x6 : w4.cell? ⟨eb, 6, none⟩ = some (.slice sv sent.length cap) := (blk_cell hb4 6).trans rfl; have f6 : w4.frozen? ⟨eb, 6, none⟩ = false := blk_free hb4 6)
        all_goals have H7 := hid (fin_app (t := cutT now) (w := w) HMM.out HU5.out HSE.out hrow4 hu4 hor4 hlt4)
        all_goals have x5 : (w4.setCell ⟨eb, 6, none⟩ (.slice (some ⟨g4, 0, none⟩) (sent.length + 1) c4)).cell? ⟨eb, 5, none⟩ = some (.int .i64 used) := by have := blk_set hb4 6 (.slice (some ⟨g4, 0, none⟩) (sent.length + 1) c4); exact (blk_cell this 5).trans rfl
        all_goals have f5 : (w4.setCell ⟨eb, 6, none⟩ (.slice (some ⟨g4, 0, none⟩) (sent.length + 1) c4)).frozen? ⟨eb, 5, none⟩ = false := by have := blk_set hb4 6 (.slice (some ⟨g4, 0, none⟩) (sent.length + 1) c4); exact blk_free this 5
        all_goals clear x6 f6 hb4 hrow4 hu4 hor4 hlt4
        all_goals
          go_upto_region 12 with (fail)
          obtain ⟨w7, hw7⟩ : ∃ w7, (w4.setCell ⟨eb, 6, none⟩ (.slice (some ⟨g4, 0, none⟩) (sent.length + 1) c4)).setCell ⟨eb, 5, none⟩ (.int .i64 (cutT now)) = w7 := ⟨_, rfl⟩
          rw [hw7] at H7
          rw [hw7]
          clear hw7
          have g0 : w7.cell? ⟨g, 0, none⟩ = some (.int .u32 c.pub) := (blk_cell (H7.out.upd.blk HMM.out.box (fin_g HMM.out)) 0).trans rfl
          have p4 : w7.cell? ⟨eb, 4, none⟩ = some (.int .i64 port) := (blk_cell H7.out.blk 4).trans rfl
          have hC7 := fin_c H7.out HFT.out HLT.out HS0.out HRC.out
          have y0 : w7.cell? ⟨w.heap.size + 1 + 1, 0, none⟩ = some (.int .u32 0) := (blk_cell hC7 0).trans rfl
          have y1 : w7.cell? ⟨w.heap.size + 1 + 1, 1, none⟩ = some (.int .i64 0) := (blk_cell hC7 1).trans rfl
          have z0 : w7.frozen? ⟨w.heap.size + 1 + 1, 0, none⟩ = false := blk_free hC7 0
          have z1 : w7.frozen? ⟨w.heap.size + 1 + 1, 1, none⟩ = false := blk_free hC7 1
          clear hC7
          refine wp_region_still_tail 10 (by kernel_rfl) (by kernel_rfl) ?_
          simp only [List.take_succ_cons, List.take_zero, List.drop_succ_cons, List.drop_zero, World.drew_eq]
          repeat still_step
          refine wpStill_nil ?_
          go_wp2_with fail
          refine bodyPost_ret (v := .tuple #[.agg #[.int .u32 c.pub, .int .i64 port], .int .i64 0]) ?_ rfl ?_
          · simp [results, Try.results13, go_sem, y0, y1]
          · have hcl := fin_close HMM.out H7.out HFT.out HLT.out HS0.out HUC.out (lt_of_block HRC.out) (.int .u32 c.pub) (.int .i64 port)
            unfold OutPost
            rw [HOUT.out]
            exact ⟨rfl, hcl.1, hcl.2⟩
    · have kd1 : decide ((sent.length : Int) < 32) = false := decide_eq_false (by omega)
      have kd2 : decide (sent.length < 32) = false := decide_eq_false h32
      have hsend : sendTo sent ⟨t1, t2⟩ = sent := by unfold sendTo; rw [if_neg (fun h => h32 h.1)]
      have HSE := hid hsend
      obtain ⟨row', hsv⟩ := row_some HMM.out.row (by intro e; rw [e] at h32; simp at h32)
      have HSV := hid hsv
      clear hsend hsv
      go_upto_region 9 with (fail)
      go_quiet (fail)
      obtain ⟨w5, hw5⟩ : ∃ w5, wc.drewN nq = w5 := ⟨_, rfl⟩
      have HU5 : Hid (Upd (fun _ => False) wc w5) := hid (hw5 ▸ (Upd.refl (fun _ => False) wc).drewN nq)
      rw [hw5]
      clear hw5 kd1 kd2 q0 q1 e6
      have hb5 := HU5.out.blk HMM.out.blk (fun h => h)
      have x5 : w5.cell? ⟨eb, 5, none⟩ = some (.int .i64 used) := (blk_cell hb5 5).trans rfl
      have f5 : w5.frozen? ⟨eb, 5, none⟩ = false := blk_free hb5 5
      have H7 := hid (fin_still (t := cutT now) (w := w) HMM.out HU5.out HSE.out HSV.out)
      clear hb5
      go_upto_region 12 with (fail)
      obtain ⟨w7, hw7⟩ : ∃ w7, w5.setCell ⟨eb, 5, none⟩ (.int .i64 (cutT now)) = w7 := ⟨_, rfl⟩
      rw [hw7] at H7
      rw [hw7]
      clear hw7
      have g0 : w7.cell? ⟨g, 0, none⟩ = some (.int .u32 c.pub) := (blk_cell (H7.out.upd.blk HMM.out.box (fin_g HMM.out)) 0).trans rfl
      have p4 : w7.cell? ⟨eb, 4, none⟩ = some (.int .i64 port) := (blk_cell H7.out.blk 4).trans rfl
      have hC7 := fin_c H7.out HFT.out HLT.out HS0.out HRC.out
      have y0 : w7.cell? ⟨w.heap.size + 1 + 1, 0, none⟩ = some (.int .u32 0) := (blk_cell hC7 0).trans rfl
      have y1 : w7.cell? ⟨w.heap.size + 1 + 1, 1, none⟩ = some (.int .i64 0) := (blk_cell hC7 1).trans rfl
      have z0 : w7.frozen? ⟨w.heap.size + 1 + 1, 0, none⟩ = false := blk_free hC7 0
      have z1 : w7.frozen? ⟨w.heap.size + 1 + 1, 1, none⟩ = false := blk_free hC7 1
      clear hC7
      refine wp_region_still_tail 10 (by kernel_rfl) (by kernel_rfl) ?_
      simp only [List.take_succ_cons, List.take_zero, List.drop_succ_cons, List.drop_zero, World.drew_eq]
      repeat still_step
      refine wpStill_nil ?_
      go_wp2_with fail
      refine bodyPost_ret (v := .tuple #[.agg #[.int .u32 c.pub, .int .i64 port], .int .i64 0]) ?_ rfl ?_
      · simp [results, Try.results13, go_sem, y0, y1]
      · have hcl := fin_close HMM.out H7.out HFT.out HLT.out HS0.out HUC.out (lt_of_block HRC.out) (.int .u32 c.pub) (.int .i64 port)
        unfold OutPost
        rw [HOUT.out]
        exact ⟨rfl, hcl.1, hcl.2⟩
end Go.Proofs.Ytbcchdnbfblooaa
