/- The calls of Len, Config, Right and New of a box (no statement of the seat). -/
import Derived.Test.YtbcchdnbfblooaaCalls
namespace Go.Proofs.Ytbcchdnbfblooaa
open Go.RowKit
open Go.ChangeMaps (setBlock)

abbrev Cfg.v (c : Cfg) : Value := .agg #[.int .u32 c.pub, .int .i64 c.map, .int .i64 c.fil, .bool c.hair, .int .i64 c.tmo]

theorem len_any (g : Nat) (c : Cfg) (L : List Ent) (F : Nat → Prop) (w : World) (h : BoxIs g c L F w) (hl : L.length ≤ 64) :
    Calls Try.prog 15 #[ptr g] w fun e w' => e = .returned (.int .i64 L.length) ∧ w = w' := by
  obtain ⟨mo, mp, co, cp, Z, EO, EP, hb, rfl, hF, hlt⟩ := h
  have c6 : w.cell? ⟨g, 6, none⟩ = some (.map (some mp)) := (blk_cell hb.box 6).trans rfl
  have hg : (getObj mp).run Try.prog w = .ok (.map (arr EP) cp) w := by simp [getObj, Sem.run, hb.bp]
  have hlen : (Z.map Prod.fst).length = Z.length := by simp
  have hrun : ∀ ty, (Builtin.len_ #[55] ty #[.map (some mp)]).run Try.prog w = .ok (.int .i64 Z.length) w := by
    intro ty
    have hz := len_ep hb
    unfold Builtin.len_
    simp [Sem.run_bind, hg, Result.andThen, arr, hz, goInt, run_underlying Try.underlying55]
  rw [hlen] at hl ⊢
  clear hb hF hlt hg hlen
  go_enter Try.func15, Try.ntmps15
  go_wp2_with fail
  go_ret
  exact ⟨rfl, rfl⟩

theorem config_any (g : Nat) (c : Cfg) (L : List Ent) (F : Nat → Prop) (w : World) (h : BoxIs g c L F w) :
    Calls Try.prog 18 #[ptr g] w fun e w' => e = .returned c.v ∧ Upd (fun _ => False) w w' := by
  obtain ⟨mo, mp, co, cp, Z, EO, EP, hb, rfl, hF, hlt⟩ := h
  have hgl := lt_of_block hb.box
  have hu : ∀ o, Upd (fun _ => False) w (w.alloc o) := fun o => (Upd.refl _ w).alloc o
  have c0 : ∀ o, (w.alloc o).cell? ⟨g, 0, none⟩ = some (.int .u32 c.pub) := fun o => (blk_cell ((hu o).blk hb.box (fun h => h)) 0).trans rfl
  have c1 : ∀ o, (w.alloc o).cell? ⟨g, 1, none⟩ = some (.int .i64 c.map) := fun o => (blk_cell ((hu o).blk hb.box (fun h => h)) 1).trans rfl
  have c2 : ∀ o, (w.alloc o).cell? ⟨g, 2, none⟩ = some (.int .i64 c.fil) := fun o => (blk_cell ((hu o).blk hb.box (fun h => h)) 2).trans rfl
  have c3 : ∀ o, (w.alloc o).cell? ⟨g, 3, none⟩ = some (.bool c.hair) := fun o => (blk_cell ((hu o).blk hb.box (fun h => h)) 3).trans rfl
  have c4 : ∀ o, (w.alloc o).cell? ⟨g, 4, none⟩ = some (.int .i64 c.tmo) := fun o => (blk_cell ((hu o).blk hb.box (fun h => h)) 4).trans rfl
  clear hb hF hlt hu
  go_enter Try.func18, Try.ntmps18
  go_wp2_with fail
  exact bodyPost_ret (v := c.v) (by simp [results, Try.results18, go_sem]) rfl ⟨rfl, (Upd.refl _ _).alloc _⟩

def rightB (c : Cfg) : Bool := (c.pub != 0) && (decide (1 ≤ c.map ∧ c.map ≤ 3) && (decide (1 ≤ c.fil ∧ c.fil ≤ 3) && (decide (1 ≤ c.tmo) && decide (c.tmo ≤ 1000000))))
theorem rightB_iff (c : Cfg) : rightB c = true ↔ Right c := by
  unfold rightB
  simp only [Bool.and_eq_true, bne_iff_ne, decide_eq_true_eq]
  exact ⟨fun ⟨a, ⟨b, d⟩, ⟨e, f⟩, h, i⟩ => ⟨a, b, d, e, f, h, i⟩, fun ⟨a, b, d, e, f, h, i⟩ => ⟨a, ⟨b, d⟩, ⟨e, f⟩, h, i⟩⟩

set_option maxHeartbeats 2000000 in
theorem right_any (c : Cfg) (w : World) : Calls Try.prog 17 #[c.v] w fun e w' => e = .returned (.bool (rightB c)) ∧ Upd (fun _ => False) w w' := by
  obtain ⟨pub, map, fil, hair, tmo⟩ := c
  by_cases h1 : pub = 0
  · have hr : rightB ⟨pub, map, fil, hair, tmo⟩ = false := by simp [rightB, h1]
    rw [hr]
    subst h1
    clear hr
    go_enter Try.func17, Try.ntmps17
    go_wp2_with fail
    go_ret
    exact ⟨rfl, (Upd.refl _ _).alloc _⟩
  have k1 : (pub != 0) = true := bne_iff_ne.2 h1
  have hr : rightB ⟨pub, map, fil, hair, tmo⟩ = (decide (1 ≤ map ∧ map ≤ 3) && (decide (1 ≤ fil ∧ fil ≤ 3) && (decide (1 ≤ tmo) && decide (tmo ≤ 1000000)))) := by simp [rightB, h1]
  rw [hr]
  have hw := way_any map
  have hf := way_any fil
  obtain ⟨b2, hb2⟩ : ∃ b, decide (1 ≤ map ∧ map ≤ 3) = b := ⟨_, rfl⟩
  obtain ⟨b3, hb3⟩ : ∃ b, decide (1 ≤ fil ∧ fil ≤ 3) = b := ⟨_, rfl⟩
  rw [hb2] at hw ⊢
  rw [hb3] at hf ⊢
  have HW := hid hw
  have HF := hid hf
  clear h1 hr hw hf hb2 hb3
  cases b2 with
  | false =>
    go_enter Try.func17, Try.ntmps17
    go_wp2_with fail
    refine (HW.out _).mono ?_
    rintro e w' ⟨rfl, rfl⟩
    go_wp2_with fail
    go_ret
    exact ⟨rfl, (Upd.refl _ _).alloc _⟩
  | true =>
    cases b3 with
    | false =>
      go_enter Try.func17, Try.ntmps17
      go_wp2_with fail
      refine (HW.out _).mono ?_
      rintro e w' ⟨rfl, rfl⟩
      go_wp2_with fail
      refine (HF.out _).mono ?_
      rintro e w' ⟨rfl, rfl⟩
      go_wp2_with fail
      go_ret
      exact ⟨rfl, (Upd.refl _ _).alloc _⟩
    | true =>
      by_cases h4 : 1 ≤ tmo
      · have k4 : decide (1 ≤ tmo) = true := decide_eq_true h4
        rw [k4]
        clear h4
        go_enter Try.func17, Try.ntmps17
        go_wp2_with fail
        refine (HW.out _).mono ?_
        rintro e w' ⟨rfl, rfl⟩
        go_wp2_with fail
        refine (HF.out _).mono ?_
        rintro e w' ⟨rfl, rfl⟩
        go_wp2_with fail
        go_ret
        exact ⟨rfl, (Upd.refl _ _).alloc _⟩
      · have k4 : decide (1 ≤ tmo) = false := decide_eq_false h4
        rw [k4]
        clear h4
        go_enter Try.func17, Try.ntmps17
        go_wp2_with fail
        refine (HW.out _).mono ?_
        rintro e w' ⟨rfl, rfl⟩
        go_wp2_with fail
        refine (HF.out _).mono ?_
        rintro e w' ⟨rfl, rfl⟩
        go_wp2_with fail
        go_ret
        exact ⟨rfl, (Upd.refl _ _).alloc _⟩

set_option maxHeartbeats 1000000 in
theorem new_no (c : Cfg) (w : World) (h : rightB c = false) : Calls Try.prog 12 #[c.v] w fun e w' => e = .returned (.tuple #[.pointer none, .int .i64 1]) ∧ Upd (fun _ => False) w w' := by
  have HR : Hid (∀ w, Calls Try.prog 17 #[c.v] w fun e w' => e = .returned (.bool false) ∧ Upd (fun _ => False) w w') := hid (fun w => h ▸ right_any c w)
  clear h
  obtain ⟨pub, map, fil, hair, tmo⟩ := c
  go_enter Try.func12, Try.ntmps12
  go_wp2_with fail
  refine (HR.out _).mono ?_
  rintro e w' ⟨rfl, hu⟩
  have HU := hid (((Upd.refl (fun _ => False) w).alloc _).trans hu)
  clear hu
  go_wp2_with fail
  go_ret2
  exact ⟨rfl, HU.out⟩

theorem new_box (c : Cfg) (w : World) (n : Nat) (hn : n ≤ w.heap.size) :
    BoxIs (w.heap.size + 1 + 1) c [] (fun k => n ≤ k ∧ k < (((w.alloc (.map #[] 0)).alloc (.map #[] 0)).alloc (.cells (boxCells c w.heap.size (w.heap.size + 1)) 57)).heap.size)
      (((w.alloc (.map #[] 0)).alloc (.map #[] 0)).alloc (.cells (boxCells c w.heap.size (w.heap.size + 1)) 57)) := by
  refine ⟨w.heap.size, w.heap.size + 1, 0, 0, [], [], [], ⟨?_, ?_, ?_, Ents.nil _, Ents.nil _, rfl, rfl, by simp, by simp [foot]; omega⟩, rfl, ?_, fun k hk => hk.2⟩
  · have := heap_alloc_new ((w.alloc (.map #[] 0)).alloc (.map #[] 0)) (.cells (boxCells c w.heap.size (w.heap.size + 1)) 57)
    simpa using this
  · have := heap_alloc_new w (.map #[] 0)
    exact (((Upd.refl (fun _ => False) _).alloc _).alloc _).blk this (fun h => h)
  · have := heap_alloc_new (w.alloc (.map #[] 0)) (.map #[] 0)
    simp only [World.size_alloc] at this
    exact ((Upd.refl (fun _ => False) _).alloc _).blk this (fun h => h)
  · intro k hk
    simp [foot] at hk
    simp only [World.size_alloc]
    omega

def NewPost (c : Cfg) (w : World) (e : Ending) (w' : World) : Prop :=
  ∃ g, e = .returned (.tuple #[ptr g, .int .i64 0]) ∧ BoxIs g c [] (fun k => w.heap.size ≤ k ∧ k < w'.heap.size) w' ∧ Upd (fun _ => False) w w'
set_option maxHeartbeats 1000000 in
theorem new_yes (c : Cfg) (w : World) (h : rightB c = true) : Calls Try.prog 12 #[c.v] w (NewPost c w) := by
  have HR : Hid (∀ w, Calls Try.prog 17 #[c.v] w fun e w' => e = .returned (.bool true) ∧ Upd (fun _ => False) w w') := hid (fun w => h ▸ right_any c w)
  clear h
  obtain ⟨pub, map, fil, hair, tmo⟩ := c
  have hmm := @run_makeMap Try.prog
  go_enter Try.func12, Try.ntmps12
  go_wp2_with fail
  refine (HR.out _).mono ?_
  rintro e w' ⟨rfl, hu⟩
  have hbx := hu.blk (heap_alloc_new w (.cells #[.int .u32 pub, .int .i64 map, .int .i64 fil, .bool hair, .int .i64 tmo] 24)) (fun h => h)
  have c0 : w'.cell? ⟨w.heap.size, 0, none⟩ = some (.int .u32 pub) := (blk_cell hbx 0).trans rfl
  have c1 : w'.cell? ⟨w.heap.size, 1, none⟩ = some (.int .i64 map) := (blk_cell hbx 1).trans rfl
  have c2 : w'.cell? ⟨w.heap.size, 2, none⟩ = some (.int .i64 fil) := (blk_cell hbx 2).trans rfl
  have c3 : w'.cell? ⟨w.heap.size, 3, none⟩ = some (.bool hair) := (blk_cell hbx 3).trans rfl
  have c4 : w'.cell? ⟨w.heap.size, 4, none⟩ = some (.int .i64 tmo) := (blk_cell hbx 4).trans rfl
  have HU := hid (((Upd.refl (fun _ => False) w).alloc _).trans hu)
  clear hu hbx
  go_wp2_with fail
  go_ret2
  have hsz := HU.out.size
  exact ⟨w'.heap.size + 1 + 1, rfl, new_box ⟨pub, map, fil, hair, tmo⟩ w' w.heap.size hsz, ((HU.out.alloc _).alloc _).alloc _⟩
end Go.Proofs.Ytbcchdnbfblooaa
