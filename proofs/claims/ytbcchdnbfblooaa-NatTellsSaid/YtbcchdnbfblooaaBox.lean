/- A box in memory, by the list of its entries; the call (*Box).at (no statement of the seat). -/
import Derived.Test.YtbcchdnbfblooaaLate
import Derived.Laws.EntriesVeiled
namespace Go.Proofs.Ytbcchdnbfblooaa
open Go.RowKit
open Go.ChangeMaps (setBlock)

/-- Where an entry lies: its block, the row of whom it has sent to, that row's room. -/
structure Slot where
  blk : Nat
  row : Nat
  cap : Nat
abbrev ptr (b : Nat) : Value := .pointer (some ⟨b, 0, none⟩)
def adCells (l : List Ad) : List Value := l.flatMap (fun a => [.int .u32 a.h, .int .i64 a.p])
def entCells (m : Int) (e : Ent) (s : Slot) : Array Value :=
  #[.int .u32 e.ins.h, .int .i64 e.ins.p, .int .u32 (red m e.head).h, .int .i64 (red m e.head).p, .int .i64 e.port, .int .i64 e.used, .slice (some ⟨s.row, 0, none⟩) e.sent.length s.cap]
structure EntAt (w : World) (m : Int) (e : Ent) (s : Slot) : Prop where
  blk : w.heap[s.blk]? = some (.cells (entCells m e s) 65 (0, 0))
  row : w.ownsRow 0 26 2 (.slice (some ⟨s.row, 0, none⟩) e.sent.length s.cap) e.sent.length (adCells e.sent)
def foot (Z : List (Ent × Slot)) : List Nat := Z.flatMap (fun z => [z.2.blk, z.2.row])
def boxCells (c : Cfg) (mo mp : Nat) : Array Value := #[.int .u32 c.pub, .int .i64 c.map, .int .i64 c.fil, .bool c.hair, .int .i64 c.tmo, .map (some mo), .map (some mp)]

/-- All that a box is in memory. -/
structure BoxAt (g mo mp co cp : Nat) (c : Cfg) (Z : List (Ent × Slot)) (EO : List ((Ad × Ad) × MapEntry)) (EP : List (Int × MapEntry)) (w : World) : Prop where
  box : w.heap[g]? = some (.cells (boxCells c mo mp) 57 (0, 0))
  bo : w.heap[mo]? = some (.map (arr EO) co)
  bp : w.heap[mp]? = some (.map (arr EP) cp)
  eo : Ents ownV EO co
  ep : Ents portV EP cp
  zo : EO.map (fun x => (x.1, x.2.val)) = Z.map (fun z => (z.1.key c.map, ptr z.2.blk))
  zp : EP.map (fun x => (x.1, x.2.val)) = Z.map (fun z => (z.1.port, ptr z.2.blk))
  ents : ∀ z, z ∈ Z → EntAt w c.map z.1 z.2
  nodup : (g :: mo :: mp :: foot Z).Nodup
/-- The box at g has the config c and the entries L; its blocks are among F. -/
def BoxIs (g : Nat) (c : Cfg) (L : List Ent) (F : Nat → Prop) (w : World) : Prop :=
  ∃ mo mp co cp Z EO EP, BoxAt g mo mp co cp c Z EO EP w ∧ Z.map Prod.fst = L ∧ (∀ k, k ∈ g :: mo :: mp :: foot Z → F k) ∧ ∀ k, F k → k < w.heap.size
/-- F, and what is new. -/
def grow (F : Nat → Prop) (w w' : World) (k : Nat) : Prop := F k ∨ (w.heap.size ≤ k ∧ k < w'.heap.size)

theorem EntAt.upd {w w' : World} {m : Int} {e : Ent} {s : Slot} {S : Nat → Prop} (h : EntAt w m e s) (hu : Upd S w w') (h1 : ¬ S s.blk) (h2 : ¬ S s.row) : EntAt w' m e s :=
  ⟨hu.blk h.blk h1, hu.row h.row (fun k hk => by simp [Value.ownBlock] at hk; exact hk ▸ h2)⟩
theorem mem_foot {Z : List (Ent × Slot)} {z : Ent × Slot} (h : z ∈ Z) : z.2.blk ∈ foot Z ∧ z.2.row ∈ foot Z :=
  ⟨List.mem_flatMap.2 ⟨z, h, by simp⟩, List.mem_flatMap.2 ⟨z, h, by simp⟩⟩
theorem foot_filter (Z : List (Ent × Slot)) (p : Ent × Slot → Bool) : (foot (Z.filter p)).Sublist (foot Z) := by
  unfold foot
  induction Z with
  | nil => simp
  | cons z Z ih =>
    rw [List.filter_cons]
    split
    · simp only [List.flatMap_cons]; exact List.Sublist.append (List.Sublist.refl _) ih
    · simp only [List.flatMap_cons]; exact ih.trans (List.sublist_append_right _ _)

section
variable {g mo mp co cp : Nat} {c : Cfg} {Z : List (Ent × Slot)} {EO : List ((Ad × Ad) × MapEntry)} {EP : List (Int × MapEntry)} {w w' : World} {S F : Nat → Prop} {L : List Ent}
theorem BoxAt.upd (h : BoxAt g mo mp co cp c Z EO EP w) (hu : Upd S w w') (hn : ∀ k, k ∈ g :: mo :: mp :: foot Z → ¬ S k) : BoxAt g mo mp co cp c Z EO EP w' :=
  ⟨hu.blk h.box (hn _ (by simp)), hu.blk h.bo (hn _ (by simp)), hu.blk h.bp (hn _ (by simp)), h.eo, h.ep, h.zo, h.zp,
    fun z hz => (h.ents z hz).upd hu (hn _ (by simp [(mem_foot hz).1])) (hn _ (by simp [(mem_foot hz).2])), h.nodup⟩
theorem BoxIs.upd (h : BoxIs g c L F w) (hu : Upd S w w') (hn : ∀ k, F k → ¬ S k) : BoxIs g c L F w' := by
  obtain ⟨mo, mp, co, cp, Z, EO, EP, hb, hL, hF, hlt⟩ := h
  exact ⟨mo, mp, co, cp, Z, EO, EP, hb.upd hu (fun k hk => hn k (hF k hk)), hL, hF, fun k hk => Nat.lt_of_lt_of_le (hlt k hk) hu.size⟩
theorem BoxIs.lt (h : BoxIs g c L F w) : g < w.heap.size := by
  obtain ⟨mo, mp, co, cp, Z, EO, EP, hb, _⟩ := h
  exact lt_of_block hb.box

theorem filter_pair {α β γ : Type} {f : α → γ} {h : β → γ} {A : List α} {B : List β} (e : A.map f = B.map h) (p : γ → Bool) :
    (A.filter (fun x => p (f x))).map f = (B.filter (fun y => p (h y))).map h := by
  have h1 : (A.filter (fun x => p (f x))).map f = (A.map f).filter p := by rw [List.filter_map]; rfl
  have h2 : (B.filter (fun x => p (h x))).map h = (B.map h).filter p := by rw [List.filter_map]; rfl
  rw [h1, h2, e]
/-- Which entries live, told of a pair of a map. -/
def liveO (m t tmo : Int) (Z : List (Ent × Slot)) (x : (Ad × Ad) × Value) : Bool := Z.any (fun z => decide (z.1.key m = x.1) && decide (t - tmo < z.1.used))
def liveP (t tmo : Int) (Z : List (Ent × Slot)) (x : Int × Value) : Bool := Z.any (fun z => decide (z.1.port = x.1) && decide (t - tmo < z.1.used))
theorem liveO_eq {m t tmo : Int} (hn : ((Z.map Prod.fst).map (Ent.key m)).Nodup) {z : Ent × Slot} (hz : z ∈ Z) : liveO m t tmo Z (z.1.key m, ptr z.2.blk) = decide (t - tmo < z.1.used) := by
  rw [Bool.eq_iff_iff]
  unfold liveO
  simp only [List.any_eq_true, Bool.and_eq_true, decide_eq_true_eq]
  constructor
  · rintro ⟨y, hy, h1, h2⟩
    rw [List.map_map] at hn
    have := nodup_inj (Ent.key m ∘ Prod.fst) Z hn y z hy hz h1
    rw [← this]; exact h2
  · intro h; exact ⟨z, hz, rfl, h⟩
theorem liveP_eq {t tmo : Int} (hn : (ports (Z.map Prod.fst)).Nodup) {z : Ent × Slot} (hz : z ∈ Z) : liveP t tmo Z (z.1.port, ptr z.2.blk) = decide (t - tmo < z.1.used) := by
  rw [Bool.eq_iff_iff]
  unfold liveP
  simp only [List.any_eq_true, Bool.and_eq_true, decide_eq_true_eq]
  constructor
  · rintro ⟨y, hy, h1, h2⟩
    unfold ports at hn
    rw [List.map_map] at hn
    have := nodup_inj (Ent.port ∘ Prod.fst) Z hn y z hy hz h1
    rw [← this]; exact h2
  · intro h; exact ⟨z, hz, rfl, h⟩
theorem keys_eo (h : BoxAt g mo mp co cp c Z EO EP w) : EO.map Prod.fst = (Z.map Prod.fst).map (Ent.key c.map) := by
  have := congrArg (List.map Prod.fst) h.zo
  rw [List.map_map, List.map_map] at this
  rw [List.map_map]; exact this
theorem keys_ep (h : BoxAt g mo mp co cp c Z EO EP w) : EP.map Prod.fst = ports (Z.map Prod.fst) := by
  have := congrArg (List.map Prod.fst) h.zp
  rw [List.map_map, List.map_map] at this
  unfold ports
  rw [List.map_map]; exact this
theorem mem_eo (h : BoxAt g mo mp co cp c Z EO EP w) {x : (Ad × Ad) × MapEntry} (hx : x ∈ EO) : ∃ z, z ∈ Z ∧ x.1 = z.1.key c.map ∧ x.2.val = ptr z.2.blk := by
  have : (x.1, x.2.val) ∈ Z.map (fun z => (z.1.key c.map, ptr z.2.blk)) := by rw [← h.zo]; exact List.mem_map_of_mem (f := fun x : (Ad × Ad) × MapEntry => (x.1, x.2.val)) hx
  obtain ⟨z, hz, e⟩ := List.mem_map.1 this
  simp only [Prod.mk.injEq] at e
  exact ⟨z, hz, e.1.symm, e.2.symm⟩
theorem mem_ep (h : BoxAt g mo mp co cp c Z EO EP w) {x : Int × MapEntry} (hx : x ∈ EP) : ∃ z, z ∈ Z ∧ x.1 = z.1.port ∧ x.2.val = ptr z.2.blk := by
  have : (x.1, x.2.val) ∈ Z.map (fun z => (z.1.port, ptr z.2.blk)) := by rw [← h.zp]; exact List.mem_map_of_mem (f := fun x : Int × MapEntry => (x.1, x.2.val)) hx
  obtain ⟨z, hz, e⟩ := List.mem_map.1 this
  simp only [Prod.mk.injEq] at e
  exact ⟨z, hz, e.1.symm, e.2.symm⟩
theorem EntAt.used {m : Int} {e : Ent} {s : Slot} (h : EntAt w m e s) : w.cell? ⟨s.blk, 5, none⟩ = some (.int .i64 e.used) := (blk_cell h.blk 5).trans rfl
end

/-- What the call of at leaves. -/
theorem late_box {g mo mp co cp : Nat} {c : Cfg} {Z : List (Ent × Slot)} {EO : List ((Ad × Ad) × MapEntry)} {EP : List (Int × MapEntry)} {w w1 w2 : World} {t : Int}
    (h : BoxAt g mo mp co cp c Z EO EP w) (G : Good c.map (Z.map Prod.fst))
    (ho : w1.heap[mo]? = some (.map (arr (EO.filter (fun x => liveO c.map t c.tmo Z (x.1, x.2.val)))) co)) (hu1 : Upd (fun k => k = mo) w w1)
    (hp : w2.heap[mp]? = some (.map (arr (EP.filter (fun x => liveP t c.tmo Z (x.1, x.2.val)))) cp)) (hu2 : Upd (fun k => k = mp) w1 w2) :
    BoxAt g mo mp co cp c (Z.filter (fun z => decide (t - c.tmo < z.1.used))) (EO.filter (fun x => liveO c.map t c.tmo Z (x.1, x.2.val))) (EP.filter (fun x => liveP t c.tmo Z (x.1, x.2.val))) w2 ∧
    (Z.filter (fun z => decide (t - c.tmo < z.1.used))).map Prod.fst = alive t c.tmo (Z.map Prod.fst) := by
  have hn := h.nodup
  rw [List.nodup_cons, List.nodup_cons, List.nodup_cons] at hn
  obtain ⟨hg, hmo, hmp, hft⟩ := hn
  have hu : Upd (fun k => k = mo ∨ k = mp) w w2 := (hu1.mono (fun _ _ e => .inl e)).then_ hu2 (fun _ _ e => .inr e)
  have hgne : ¬ (g = mo ∨ g = mp) := by simp at hg; rintro (e | e); exact hg.1 e; exact hg.2.1 e
  have hmne : mo ≠ mp := by simp at hmo; exact hmo.1
  constructor
  · refine ⟨hu.blk h.box hgne, (hu2.blk ho hmne), hp, h.eo.filter _, h.ep.filter _, ?_, ?_, ?_, ?_⟩
    · have e1 := filter_pair h.zo (liveO c.map t c.tmo Z)
      rw [e1]
      congr 1
      apply List.filter_congr
      intro z hz
      exact liveO_eq G.keysN hz
    · have e1 := filter_pair h.zp (liveP t c.tmo Z)
      rw [e1]
      congr 1
      apply List.filter_congr
      intro z hz
      exact liveP_eq G.portsN hz
    · intro z hz
      have hz' := (List.mem_filter.1 hz).1
      have h1 := mem_foot hz'
      refine (h.ents z hz').upd hu ?_ ?_
      · rintro (e | e)
        · exact hmo (e ▸ List.mem_cons_of_mem _ h1.1)
        · exact hmp (e ▸ h1.1)
      · rintro (e | e)
        · exact hmo (e ▸ List.mem_cons_of_mem _ h1.2)
        · exact hmp (e ▸ h1.2)
    · exact h.nodup.sublist (((foot_filter Z _).cons_cons _).cons_cons _ |>.cons_cons _)
  · unfold alive; rw [List.filter_map]; rfl

abbrev W0 (w : World) (g : Nat) (t : Int) : World :=
  ((w.alloc (.cells #[ptr g] 29)).alloc (.cells #[.int .i64 t] 3)).alloc
    (.cells #[.func (.func 33) #[] #[.pointer (some ⟨w.heap.size + 1, 0, none⟩), .pointer (some ⟨w.heap.size, 0, none⟩)]] 74)
theorem upd_W0 (S : Nat → Prop) (w : World) (g : Nat) (t : Int) : Upd S w (W0 w g t) := (((Upd.refl _ w).alloc _).alloc _).alloc _

section
variable {g mo mp co cp : Nat} {c : Cfg} {Z : List (Ent × Slot)} {EO : List ((Ad × Ad) × MapEntry)} {EP : List (Int × MapEntry)} {w w1 : World} {t : Int}
theorem env_W0 (h : BoxAt g mo mp co cp c Z EO EP w) (R : Right c) (t0 : 0 ≤ t) (t1 : t ≤ 1000000000) : Env (W0 w g t) (w.heap.size + 1 + 1) (w.heap.size + 1) w.heap.size g t c.tmo := by
  have hgl := lt_of_block h.box
  refine ⟨?_, ?_, ?_, ?_, t0, t1, R.tmo0, R.tmo1⟩
  · have := heap_alloc_new ((w.alloc (.cells #[ptr g] 29)).alloc (.cells #[.int .i64 t] 3)) (.cells #[.func (.func 33) #[] #[.pointer (some ⟨w.heap.size + 1, 0, none⟩), .pointer (some ⟨w.heap.size, 0, none⟩)]] 74)
    simp only [World.size_alloc] at this
    exact (blk_cell this 0).trans rfl
  · have := heap_alloc_new (w.alloc (.cells #[ptr g] 29)) (.cells #[.int .i64 t] 3)
    simp only [World.size_alloc] at this
    exact (blk_cell (((Upd.refl (fun _ => False) _).alloc _).blk this (fun h => h)) 0).trans rfl
  · have := heap_alloc_new w (.cells #[ptr g] 29)
    exact (blk_cell ((((Upd.refl (fun _ => False) _).alloc _).alloc _).blk this (fun h => h)) 0).trans rfl
  · exact (blk_cell ((upd_W0 (fun _ => False) w g t).blk h.box (fun h => h)) 4).trans rfl
theorem nd (h : BoxAt g mo mp co cp c Z EO EP w) : g ≠ mo ∧ g ≠ mp ∧ mo ≠ mp ∧ ∀ z, z ∈ Z → z.2.blk ≠ g ∧ z.2.blk ≠ mo ∧ z.2.blk ≠ mp ∧ z.2.row ≠ g ∧ z.2.row ≠ mo ∧ z.2.row ≠ mp := by
  have hn := h.nodup
  rw [List.nodup_cons, List.nodup_cons, List.nodup_cons] at hn
  obtain ⟨hg, hmo, hmp, hft⟩ := hn
  simp only [List.mem_cons, not_or] at hg hmo
  refine ⟨hg.1, hg.2.1, hmo.1, fun z hz => ?_⟩
  have h1 := mem_foot hz
  exact ⟨fun e => hg.2.2 (e ▸ h1.1), fun e => hmo.2 (e ▸ h1.1), fun e => hmp (e ▸ h1.1), fun e => hg.2.2 (e ▸ h1.2), fun e => hmo.2 (e ▸ h1.2), fun e => hmp (e ▸ h1.2)⟩
theorem dead_live (a b : Int) (t : Int) : decide (a ≤ t - b) = !decide (t - b < a) := by
  rw [Bool.eq_iff_iff]; simp
theorem filter_not {α : Type} (l : List α) (p : α → Bool) : l.filter (fun x => !!p x) = l.filter p := by simp

theorem del1 (h : BoxAt g mo mp co cp c Z EO EP w) (R : Right c) (G : Good c.map (Z.map Prod.fst)) (t0 : 0 ≤ t) (t1 : t ≤ 1000000000) :
    Calls Try.prog 34 #[.map (some mo), .func (.func 35) #[] #[.pointer (some ⟨w.heap.size + 1 + 1, 0, none⟩)]] (W0 w g t) fun e w1 =>
      e = .returned (.tuple #[]) ∧ w1.heap[mo]? = some (.map (arr (EO.filter (fun x => liveO c.map t c.tmo Z (x.1, x.2.val)))) co) ∧ Upd (fun k => k = mo) (W0 w g t) w1 := by
  have hU := upd_W0 (fun _ => False) w g t
  have h0 := h.upd hU (fun _ _ h => h)
  have hnd := nd h
  have hlo := lt_of_block h.bo
  refine (del_owners mo (w.heap.size + 1 + 1) co EO (fun x => !liveO c.map t c.tmo Z (x.1, x.2.val)) _ h0.bo h.eo (by rw [keys_eo h]; exact G.keysN) ?_).mono ?_
  · intro W x hu hx
    obtain ⟨z, hz, e1, e2⟩ := mem_eo h hx
    have hE := (env_W0 h R t0 t1).upd hu (fun k hk e => by
      subst e
      rcases hk with hk | hk | hk | hk
      · omega
      · omega
      · omega
      · exact hnd.1 hk.symm)
    have hused := ((h0.ents z hz).upd hu (hnd.2.2.2 z hz).2.1 (hnd.2.2.2 z hz).2.2.2.2.1).used
    rw [e1, e2]
    refine (at2_any (z.1.key c.map) z.2.blk _ _ _ g t c.tmo z.1.used W hE hused).mono ?_
    rintro e w' ⟨rfl, hu'⟩
    refine ⟨?_, hu'⟩
    rw [dead_live, liveO_eq G.keysN hz]
  · rintro e w' ⟨rfl, h1, h2⟩
    rw [filter_not] at h1
    exact ⟨rfl, h1, h2⟩
theorem del2 (h : BoxAt g mo mp co cp c Z EO EP w) (R : Right c) (G : Good c.map (Z.map Prod.fst)) (t0 : 0 ≤ t) (t1 : t ≤ 1000000000) (hu1 : Upd (fun k => k = mo) (W0 w g t) w1) :
    Calls Try.prog 36 #[.map (some mp), .func (.func 37) #[] #[.pointer (some ⟨w.heap.size + 1 + 1, 0, none⟩)]] w1 fun e w2 =>
      e = .returned (.tuple #[]) ∧ w2.heap[mp]? = some (.map (arr (EP.filter (fun x => liveP t c.tmo Z (x.1, x.2.val)))) cp) ∧ Upd (fun k => k = mp) w1 w2 := by
  have hU := upd_W0 (fun _ => False) w g t
  have h0 := h.upd hU (fun _ _ h => h)
  have hnd := nd h
  have hlo := lt_of_block h.bo
  have hlp := lt_of_block h.bp
  refine (del_ports mp (w.heap.size + 1 + 1) cp EP (fun x => !liveP t c.tmo Z (x.1, x.2.val)) _ (hu1.blk h0.bp (fun e => hnd.2.2.1 e.symm)) h.ep (by rw [keys_ep h]; exact G.portsN) ?_).mono ?_
  · intro W x hu hx
    obtain ⟨z, hz, e1, e2⟩ := mem_ep h hx
    have hE := ((env_W0 h R t0 t1).upd hu1 (fun k hk e => by
      subst e
      rcases hk with hk | hk | hk | hk
      · omega
      · omega
      · omega
      · exact hnd.1 hk.symm)).upd hu (fun k hk e => by
      subst e
      rcases hk with hk | hk | hk | hk
      · omega
      · omega
      · omega
      · exact hnd.2.1 hk.symm)
    have hused := (((h0.ents z hz).upd hu1 (hnd.2.2.2 z hz).2.1 (hnd.2.2.2 z hz).2.2.2.2.1).upd hu (hnd.2.2.2 z hz).2.2.1 (hnd.2.2.2 z hz).2.2.2.2.2).used
    rw [e1, e2]
    refine (at3_any z.1.port z.2.blk _ _ _ g t c.tmo z.1.used W hE hused).mono ?_
    rintro e w' ⟨rfl, hu'⟩
    refine ⟨?_, hu'⟩
    rw [dead_live, liveP_eq G.portsN hz]
  · rintro e w' ⟨rfl, h1, h2⟩
    rw [filter_not] at h1
    exact ⟨rfl, h1, h2⟩
end

set_option maxHeartbeats 4000000 in
theorem at_any (g : Nat) (c : Cfg) (L : List Ent) (F : Nat → Prop) (now : Int) (w : World) (h : BoxIs g c L F w) (R : Right c) (G : Good c.map L) :
    Calls Try.prog 21 #[ptr g, .int .i64 now] w fun e w' => e = .returned (.int .i64 (cutT now)) ∧ BoxIs g c (alive (cutT now) c.tmo L) (grow F w w') w' ∧ Upd F w w' := by
  obtain ⟨mo, mp, co, cp, Z, EO, EP, hb, rfl, hF, hlt⟩ := h
  have c5 : ∀ t, (W0 w g t).cell? ⟨g, 5, none⟩ = some (.map (some mo)) := fun t => (blk_cell ((upd_W0 (fun _ => False) w g t).blk hb.box (fun h => h)) 5).trans rfl
  have hcut : (now < 0 ∧ cutT now = 0) ∨ (0 ≤ now ∧ 1000000000 < now ∧ cutT now = 1000000000) ∨ (0 ≤ now ∧ now ≤ 1000000000 ∧ cutT now = now) := by
    unfold cutT
    by_cases h1 : now < 0
    · exact .inl ⟨h1, by rw [if_pos h1]⟩
    · by_cases h2 : now > 1000000000
      · exact .inr (.inl ⟨by omega, h2, by rw [if_neg h1, if_pos h2]⟩)
      · exact .inr (.inr ⟨by omega, by omega, by rw [if_neg h1, if_neg h2]⟩)
  have HCI := hid (cutT_in now)
  have HB := hid hb
  have HF := hid hF
  have HLT := hid hlt
  have HR := hid R
  have HG := hid G
  have hgl : g < w.heap.size := lt_of_block hb.box
  have hmol : mo < w.heap.size := lt_of_block hb.bo
  clear hb hF hlt R G
  go_enter Try.func21, Try.ntmps21
  rcases hcut with ⟨h1, h2⟩ | ⟨h1, h1', h2⟩ | ⟨h1, h1', h2⟩
  all_goals
    have HC := hid h2
    clear h2
    go_wp2_with fail
    have HD := del1 HB.out HR.out HG.out HCI.out.1 HCI.out.2
    have HEV := hid (env_W0 HB.out HR.out HCI.out.1 HCI.out.2)
    rw [HC.out] at HD HEV
    refine HD.mono ?_
    rintro e w1 ⟨rfl, ho1, hu1⟩
    have hE1 := HEV.out.upd hu1 (fun k hk e => by
      subst e
      rcases hk with hk | hk | hk | hk
      · omega
      · omega
      · omega
      · exact (nd HB.out).1 hk.symm)
    have hn1 := hE1.n
    have hp1 := hE1.p
    have hb1 := hu1.blk ((upd_W0 (fun _ => False) w g _).blk HB.out.box (fun h => h)) (nd HB.out).1
    have hc6 : w1.cell? ⟨g, 6, none⟩ = some (.map (some mp)) := (blk_cell hb1 6).trans rfl
    have HO1 := hid ho1
    have HU1 := hid hu1
    clear HD ho1 hu1 hE1 hb1
    go_wp2_with fail
    have HD2 := del2 HB.out HR.out HG.out HCI.out.1 HCI.out.2 (by rw [HC.out]; exact HU1.out)
    refine HD2.mono ?_
    rw [HC.out]
    rintro e w2 ⟨rfl, hp2, hu2⟩
    have hn2 := hu2.cell hn1 (fun e => by have := lt_of_block HB.out.bp; simp at e; omega)
    have HP2 := hid hp2
    have HU2 := hid hu2
    clear HD2 hp2 hu2 hn1
    go_wp2_with fail
    go_ret
    have hU0 := upd_W0 (fun _ => False) w g (cutT now)
    have h0 := HB.out.upd hU0 (fun _ _ h => h)
    have hlate := late_box (t := cutT now) h0 HG.out (w2 := w2) (by rw [HC.out]; exact HO1.out) (by rw [HC.out]; exact HU1.out) (by rw [HC.out]; exact HP2.out) HU2.out
    have hU : Upd F w w2 := ((upd_W0 F w g _).then_ HU1.out (fun k _ e => HF.out k (by simp [e]))).then_ HU2.out (fun k _ e => HF.out k (by simp [e]))
    refine ⟨by rw [HC.out]; rfl, ⟨mo, mp, co, cp, _, _, _, hlate.1, hlate.2, fun k hk => ?_, fun k hk => ?_⟩, hU⟩
    · refine .inl (HF.out k ?_)
      have hsub := (((foot_filter Z (fun z => decide (cutT now - c.tmo < z.1.used))).cons_cons mp).cons_cons mo).cons_cons g
      exact hsub.subset hk
    · rcases hk with hk | hk
      · exact Nat.lt_of_lt_of_le (HLT.out k hk) hU.size
      · exact hk.2
end Go.Proofs.Ytbcchdnbfblooaa
