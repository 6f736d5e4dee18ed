/- few of one candidate, and of one pair (no statement of the seat). -/
import Derived.Test.YtoadbogfbgediaaDoorSmall
import Derived.Deep.Cut
import Derived.Deep.CutBlock
namespace Go.Proofs.YtoadbogfbgediaaDoor
open Go.RowKit
open Go.ChangeMaps (setBlock)

structure Ca where
  k : Int
  a : Ad
  b : Ad
  p : Int
abbrev Ca.v (c : Ca) : Value := .agg #[.int .i64 c.k, .int .u32 c.a.h, .int .i64 c.a.p, .int .u32 c.b.h, .int .i64 c.b.p, .int .u32 c.p]
structure Pr where
  f : Ad
  t : Ad
  p : Int
  s : Int
abbrev Pr.v (c : Pr) : Value := .agg #[.int .u32 c.f.h, .int .i64 c.f.p, .int .u32 c.t.h, .int .i64 c.t.p, .int .u64 c.p, .int .i64 c.s]
abbrev fnv (n : Nat) (caps : Array Value) : Value := .func (.func n) #[] caps

theorem keyC_any (c : Ca) (w : World) : Calls Tryd.prog 29 #[c.v] w fun e w' => e = .returned (ownV (c.a, c.b)) ∧ Upd (fun _ => False) w w' := by
  obtain ⟨k, ⟨a1, a2⟩, ⟨b1, b2⟩, p⟩ := c
  go_enter Tryd.func29, Tryd.ntmps29
  go_wp2_with fail
  exact bodyPost_ret (v := ownV (⟨a1, a2⟩, ⟨b1, b2⟩)) (by simp [results, Tryd.results29, go_sem]) rfl ⟨rfl, ((Upd.refl _ _).alloc _).alloc _⟩
theorem keyP_any (c : Pr) (w : World) : Calls Tryd.prog 32 #[c.v] w fun e w' => e = .returned (ownV (c.f, c.t)) ∧ Upd (fun _ => False) w w' := by
  obtain ⟨⟨a1, a2⟩, ⟨b1, b2⟩, p, s⟩ := c
  go_enter Tryd.func32, Tryd.ntmps32
  go_wp2_with fail
  exact bodyPost_ret (v := ownV (⟨a1, a2⟩, ⟨b1, b2⟩)) (by simp [results, Tryd.results32, go_sem]) rfl ⟨rfl, ((Upd.refl _ _).alloc _).alloc _⟩

theorem ins50_one (A : Option Addr) (cap : Nat) (fv : Value) (w : World) : Calls Tryd.prog 50 #[.slice A 1 cap, .int .i64 0, .int .i64 1, fv] w fun e w' => e = .returned (.tuple #[]) ∧ w = w' := by
  go_enter Tryd.func50, Tryd.ntmps50
  go_wp2_with fail
  go_loopw [8] (fun i wr => i = .int .i64 1 ∧ wr = w) (fun _ _ => 0)
  case atStart => exact ⟨rfl, rfl⟩
  case round =>
    obtain ⟨rfl, rfl⟩ := hrel
    go_wp2_with fail
    go_end0
    exact ⟨rfl, rfl⟩
theorem ins52_one (A : Option Addr) (cap : Nat) (fv : Value) (w : World) : Calls Tryd.prog 52 #[.slice A 1 cap, .int .i64 0, .int .i64 1, fv] w fun e w' => e = .returned (.tuple #[]) ∧ w = w' := by
  go_enter Tryd.func52, Tryd.ntmps52
  go_wp2_with fail
  go_loopw [8] (fun i wr => i = .int .i64 1 ∧ wr = w) (fun _ _ => 0)
  case atStart => exact ⟨rfl, rfl⟩
  case round =>
    obtain ⟨rfl, rfl⟩ := hrel
    go_wp2_with fail
    go_end0
    exact ⟨rfl, rfl⟩
theorem st46_one (A : Option Addr) (cap : Nat) (fv : Value) (w : World) : Calls Tryd.prog 46 #[.slice A 1 cap, .int .i64 1, fv] w fun e w' => e = .returned (.tuple #[]) ∧ w = w' := by
  go_enter Tryd.func46, Tryd.ntmps46
  go_wp2_with fail
  go_loopw [7, 8] (fun a b wr => a = .int .i64 0 ∧ b = .int .i64 20 ∧ wr = w) (fun _ _ _ => 0)
  case atStart => exact ⟨rfl, rfl, rfl⟩
  case round =>
    obtain ⟨rfl, rfl, rfl⟩ := hrel
    go_wp2_with fail
    refine (ins50_one A cap fv _).mono ?_
    rintro e w' ⟨rfl, rfl⟩
    go_wp2_with fail
    go_loopw [6] (fun b wr' => b = .int .i64 20 ∧ wr' = wr) (fun _ _ => 0)
    case atStart => exact ⟨rfl, rfl⟩
    case round =>
      obtain ⟨rfl, rfl⟩ := hrel
      go_wp2_with fail
      go_end0
      exact ⟨rfl, rfl⟩
theorem st49_one (A : Option Addr) (cap : Nat) (fv : Value) (w : World) : Calls Tryd.prog 49 #[.slice A 1 cap, .int .i64 1, fv] w fun e w' => e = .returned (.tuple #[]) ∧ w = w' := by
  go_enter Tryd.func49, Tryd.ntmps49
  go_wp2_with fail
  go_loopw [7, 8] (fun a b wr => a = .int .i64 0 ∧ b = .int .i64 20 ∧ wr = w) (fun _ _ _ => 0)
  case atStart => exact ⟨rfl, rfl, rfl⟩
  case round =>
    obtain ⟨rfl, rfl, rfl⟩ := hrel
    go_wp2_with fail
    refine (ins52_one A cap fv _).mono ?_
    rintro e w' ⟨rfl, rfl⟩
    go_wp2_with fail
    go_loopw [6] (fun b wr' => b = .int .i64 20 ∧ wr' = wr) (fun _ _ => 0)
    case atStart => exact ⟨rfl, rfl⟩
    case round =>
      obtain ⟨rfl, rfl⟩ := hrel
      go_wp2_with fail
      go_end0
      exact ⟨rfl, rfl⟩
theorem sort35_one (A : Option Addr) (cap : Nat) (fv : Value) (w : World) : Calls Tryd.prog 35 #[.slice A 1 cap, fv] w fun e w' => e = .returned (.tuple #[]) ∧ w = w' := by
  go_enter Tryd.func35, Tryd.ntmps35
  go_wp2_with fail
  refine (st46_one A cap fv _).mono ?_
  rintro e w' ⟨rfl, rfl⟩
  go_wp2_with fail
  go_end0
  exact ⟨rfl, rfl⟩
theorem sort40_one (A : Option Addr) (cap : Nat) (fv : Value) (w : World) : Calls Tryd.prog 40 #[.slice A 1 cap, fv] w fun e w' => e = .returned (.tuple #[]) ∧ w = w' := by
  go_enter Tryd.func40, Tryd.ntmps40
  go_wp2_with fail
  refine (st49_one A cap fv _).mono ?_
  rintro e w' ⟨rfl, rfl⟩
  go_wp2_with fail
  go_end0
  exact ⟨rfl, rfl⟩

theorem zero3 (w : World) : (zeroValue 3).run Tryd.prog w = .ok (.int .i64 0) w := by kernel_rfl
/-- What 'seen' holds behind a key that was not there. -/
def SeenNew (mb : Nat) (k : Ad × Ad) (es : List ((Ad × Ad) × MapEntry)) (clock : Nat) (w w' : World) : Prop :=
  w'.heap[mb]? = some (.map (arr (es ++ [(k, ⟨ownV k, .int .i64 1, clock⟩)])) (clock + 1)) ∧ Upd (fun b => b = mb) w w'

set_option maxHeartbeats 2000000 in
theorem seenC_new (c : Ca) (kb sb mb : Nat) (es : List ((Ad × Ad) × MapEntry)) (clock : Nat) (w : World)
    (hk : w.cell? ⟨kb, 0, none⟩ = some (fnv 29 #[])) (hs : w.cell? ⟨sb, 0, none⟩ = some (.map (some mb))) (hm : w.heap[mb]? = some (.map (arr es) clock)) (E : Ents ownV es clock)
    (hn : ∀ x, x ∈ es → x.1 ≠ (c.a, c.b)) (hsm : sb ≠ mb) :
    Calls Tryd.prog 39 #[c.v, .pointer (some ⟨kb, 0, none⟩), .pointer (some ⟨sb, 0, none⟩)] w fun e w' => e = .returned (.bool false) ∧ SeenNew mb (c.a, c.b) es clock w w' := by
  have HK := hid hk
  have HS := hid hs
  have HM := hid hm
  have HE := hid E
  have HN := hid hn
  have hkl : kb < w.heap.size := World.block_lt_of_cell? _ _ hk
  have hkA : ∀ o, (w.alloc o).cell? ⟨kb, 0, none⟩ = some (fnv 29 #[]) := fun o => ((Upd.refl (fun _ => False) w).alloc o).cell hk (fun h => h)
  obtain ⟨ck, ⟨a1, a2⟩, ⟨b1, b2⟩, cp⟩ := c
  clear hk hs hm E hn
  go_enter Tryd.func39, Tryd.ntmps39
  go_wp2_with fail
  refine (keyC_any ⟨ck, ⟨a1, a2⟩, ⟨b1, b2⟩, cp⟩ _).mono ?_
  rintro e w1 ⟨rfl, hu⟩
  have hu1 : Upd (fun _ => False) w w1 := ((Upd.refl _ w).alloc _).trans hu
  have HU1 := hid hu1
  clear hkA hkl hu hu1
  go_upto_region 2 with (fail)
  obtain ⟨w2, hw⟩ : ∃ w2, w1.alloc (.cells #[.int .u32 a1, .int .i64 a2, .int .u32 b1, .int .i64 b2] 55) = w2 := ⟨_, rfl⟩
  have hq := heap_alloc_new w1 (.cells #[.int .u32 a1, .int .i64 a2, .int .u32 b1, .int .i64 b2] 55)
  have hu2 : Upd (fun _ => False) w w2 := hw ▸ HU1.out.alloc _
  rw [hw] at hq ⊢
  have HW1 := hid (HU1.out.size)
  clear hw
  obtain ⟨kq, hkq⟩ : ∃ kq, w1.heap.size = kq := ⟨_, rfl⟩
  rw [hkq] at hq ⊢
  have HKQ := hid hkq
  clear hkq
  have hs2 := hu2.cell HS.out (fun h => h)
  have hm2 := hu2.blk HM.out (fun h => h)
  have q0 : w2.cell? ⟨kq, 0, none⟩ = some (.int .u32 a1) := (blk_cell hq 0).trans rfl
  have q1 : w2.cell? ⟨kq, 1, none⟩ = some (.int .i64 a2) := (blk_cell hq 1).trans rfl
  have q2 : w2.cell? ⟨kq, 2, none⟩ = some (.int .u32 b1) := (blk_cell hq 2).trans rfl
  have q3 : w2.cell? ⟨kq, 3, none⟩ = some (.int .i64 b2) := (blk_cell hq 3).trans rfl
  have HM2 := hid hm2
  have HQ := hid hq
  have HU2 := hid hu2
  have HS2 := hid hs2
  have hd : w2.drew.heap[mb]? = some (.map (arr es) clock) := hm2
  obtain ⟨k, hk⟩ : ∃ k : Ad × Ad, (⟨a1, a2⟩, ⟨b1, b2⟩) = k := ⟨_, rfl⟩
  have hnk : ∀ x, x ∈ es → x.1 ≠ k := fun x hx => hk ▸ HN.out x hx
  have hkv : ownV k = .agg #[.int .u32 a1, .int .i64 a2, .int .u32 b1, .int .i64 b2] := by rw [← hk]
  have r1 := run_lookup_at keyOwn (t := 66) (e := 3) Tryd.underlying66 (zero3 w2.drew) hd HE.out k
  have f1 : es.find? (fun x => decide (x.1 = k)) = none := by rw [List.find?_eq_none]; intro x hx; simpa using hnk x hx
  rw [f1] at r1
  have r2 := run_mapEntry_new keyOwn (t := 66) (e := 3) Tryd.underlying66 (zero3 w2.drew) hd HE.out k hnk
  obtain ⟨w6, hw6⟩ : ∃ w6, setBlock w2.drew mb (.map (arr (es ++ [(k, ⟨ownV k, .int .i64 0, clock⟩)])) (clock + 1)) = w6 := ⟨_, rfl⟩
  obtain ⟨b6, hu6⟩ : w6.heap[mb]? = some (.map (arr (es ++ [(k, ⟨ownV k, .int .i64 0, clock⟩)])) (clock + 1)) ∧ Upd (fun b => b = mb) w2.drew w6 := by
    rw [← hw6]
    exact ⟨(Go.MapKept.heap_set hd).1, ⟨rfl, rfl, rfl, by simp [setBlock], fun j _ hn => (Go.MapKept.heap_set hd).2 j hn⟩⟩
  rw [hw6] at r2
  have r3 := run_lookup_at keyOwn (t := 66) (e := 3) Tryd.underlying66 (zero3 w6) b6 (HE.out.snoc k (.int .i64 0)) k
  have f3 : (es ++ [(k, (⟨ownV k, .int .i64 0, clock⟩ : MapEntry))]).find? (fun x => decide (x.1 = k)) = some (k, ⟨ownV k, .int .i64 0, clock⟩) := by
    rw [List.find?_append, f1]; simp
  rw [f3] at r3
  have r4 := run_entryStore_new (t := 66) k (.int .i64 1) HE.out b6
  obtain ⟨w7, hw7⟩ : ∃ w7, setBlock w6 mb (.map (arr (es ++ [(k, ⟨ownV k, .int .i64 1, clock⟩)])) (clock + 1)) = w7 := ⟨_, rfl⟩
  obtain ⟨b7, hu7⟩ : w7.heap[mb]? = some (.map (arr (es ++ [(k, ⟨ownV k, .int .i64 1, clock⟩)])) (clock + 1)) ∧ Upd (fun b => b = mb) w6 w7 := by
    rw [← hw7]
    exact ⟨(Go.MapKept.heap_set b6).1, ⟨rfl, rfl, rfl, by simp [setBlock], fun j _ hn => (Go.MapKept.heap_set b6).2 j hn⟩⟩
  rw [hw7] at r4
  have r5 := run_lookup_at keyOwn (t := 66) (e := 3) Tryd.underlying66 (zero3 w7) b7 (HE.out.snoc k (.int .i64 1)) k
  have f5 : (es ++ [(k, (⟨ownV k, .int .i64 1, clock⟩ : MapEntry))]).find? (fun x => decide (x.1 = k)) = some (k, ⟨ownV k, .int .i64 1, clock⟩) := by
    rw [List.find?_append, f1]; simp
  rw [f5] at r5
  rw [hkv] at r1 r2 r3 r5
  have hu26 : Upd (fun b => b = mb) w2 w7 := ((Upd.refl (fun b => b = mb) w2).drew.trans hu6).trans hu7
  have kq7 := hu26.blk hq (fun e => by have := lt_of_block HM.out; have := HW1.out; have := HKQ.out; omega)
  have s7 := hu26.cell hs2 hsm
  have p0 : w7.cell? ⟨kq, 0, none⟩ = some (.int .u32 a1) := (blk_cell kq7 0).trans rfl
  have p1 : w7.cell? ⟨kq, 1, none⟩ = some (.int .i64 a2) := (blk_cell kq7 1).trans rfl
  have p2 : w7.cell? ⟨kq, 2, none⟩ = some (.int .u32 b1) := (blk_cell kq7 2).trans rfl
  have p3 : w7.cell? ⟨kq, 3, none⟩ = some (.int .i64 b2) := (blk_cell kq7 3).trans rfl
  have HEND : Hid (SeenNew mb k es clock w w7) := hid ⟨b7, (HU2.out.mono (fun _ _ h => h.elim)).trans hu26⟩
  have HKK := hid hk
  clear hw6 hw7 b6 hu6 b7 hu7 hu26 kq7 hd hnk f1 f3 f5 hq hu2 hm2 hk hkv
  go_region
  all_goals
    go_wp2_with fail
    go_ret
    exact ⟨rfl, HKK.out ▸ HEND.out⟩
set_option maxHeartbeats 2000000 in
theorem seenP_new (c : Pr) (kb sb mb : Nat) (es : List ((Ad × Ad) × MapEntry)) (clock : Nat) (w : World)
    (hk : w.cell? ⟨kb, 0, none⟩ = some (fnv 32 #[])) (hs : w.cell? ⟨sb, 0, none⟩ = some (.map (some mb))) (hm : w.heap[mb]? = some (.map (arr es) clock)) (E : Ents ownV es clock)
    (hn : ∀ x, x ∈ es → x.1 ≠ (c.f, c.t)) (hsm : sb ≠ mb) :
    Calls Tryd.prog 43 #[c.v, .pointer (some ⟨kb, 0, none⟩), .pointer (some ⟨sb, 0, none⟩)] w fun e w' => e = .returned (.bool false) ∧ SeenNew mb (c.f, c.t) es clock w w' := by
  have HK := hid hk
  have HS := hid hs
  have HM := hid hm
  have HE := hid E
  have HN := hid hn
  have hkl : kb < w.heap.size := World.block_lt_of_cell? _ _ hk
  have hkA : ∀ o, (w.alloc o).cell? ⟨kb, 0, none⟩ = some (fnv 32 #[]) := fun o => ((Upd.refl (fun _ => False) w).alloc o).cell hk (fun h => h)
  obtain ⟨⟨a1, a2⟩, ⟨b1, b2⟩, cp, ck⟩ := c
  clear hk hs hm E hn
  go_enter Tryd.func43, Tryd.ntmps43
  go_wp2_with fail
  refine (keyP_any ⟨⟨a1, a2⟩, ⟨b1, b2⟩, cp, ck⟩ _).mono ?_
  rintro e w1 ⟨rfl, hu⟩
  have hu1 : Upd (fun _ => False) w w1 := ((Upd.refl _ w).alloc _).trans hu
  have HU1 := hid hu1
  clear hkA hkl hu hu1
  go_upto_region 2 with (fail)
  obtain ⟨w2, hw⟩ : ∃ w2, w1.alloc (.cells #[.int .u32 a1, .int .i64 a2, .int .u32 b1, .int .i64 b2] 55) = w2 := ⟨_, rfl⟩
  have hq := heap_alloc_new w1 (.cells #[.int .u32 a1, .int .i64 a2, .int .u32 b1, .int .i64 b2] 55)
  have hu2 : Upd (fun _ => False) w w2 := hw ▸ HU1.out.alloc _
  rw [hw] at hq ⊢
  have HW1 := hid (HU1.out.size)
  clear hw
  obtain ⟨kq, hkq⟩ : ∃ kq, w1.heap.size = kq := ⟨_, rfl⟩
  rw [hkq] at hq ⊢
  have HKQ := hid hkq
  clear hkq
  have hs2 := hu2.cell HS.out (fun h => h)
  have hm2 := hu2.blk HM.out (fun h => h)
  have q0 : w2.cell? ⟨kq, 0, none⟩ = some (.int .u32 a1) := (blk_cell hq 0).trans rfl
  have q1 : w2.cell? ⟨kq, 1, none⟩ = some (.int .i64 a2) := (blk_cell hq 1).trans rfl
  have q2 : w2.cell? ⟨kq, 2, none⟩ = some (.int .u32 b1) := (blk_cell hq 2).trans rfl
  have q3 : w2.cell? ⟨kq, 3, none⟩ = some (.int .i64 b2) := (blk_cell hq 3).trans rfl
  have HM2 := hid hm2
  have HQ := hid hq
  have HU2 := hid hu2
  have HS2 := hid hs2
  have hd : w2.drew.heap[mb]? = some (.map (arr es) clock) := hm2
  obtain ⟨k, hk⟩ : ∃ k : Ad × Ad, (⟨a1, a2⟩, ⟨b1, b2⟩) = k := ⟨_, rfl⟩
  have hnk : ∀ x, x ∈ es → x.1 ≠ k := fun x hx => hk ▸ HN.out x hx
  have hkv : ownV k = .agg #[.int .u32 a1, .int .i64 a2, .int .u32 b1, .int .i64 b2] := by rw [← hk]
  have r1 := run_lookup_at keyOwn (t := 66) (e := 3) Tryd.underlying66 (zero3 w2.drew) hd HE.out k
  have f1 : es.find? (fun x => decide (x.1 = k)) = none := by rw [List.find?_eq_none]; intro x hx; simpa using hnk x hx
  rw [f1] at r1
  have r2 := run_mapEntry_new keyOwn (t := 66) (e := 3) Tryd.underlying66 (zero3 w2.drew) hd HE.out k hnk
  obtain ⟨w6, hw6⟩ : ∃ w6, setBlock w2.drew mb (.map (arr (es ++ [(k, ⟨ownV k, .int .i64 0, clock⟩)])) (clock + 1)) = w6 := ⟨_, rfl⟩
  obtain ⟨b6, hu6⟩ : w6.heap[mb]? = some (.map (arr (es ++ [(k, ⟨ownV k, .int .i64 0, clock⟩)])) (clock + 1)) ∧ Upd (fun b => b = mb) w2.drew w6 := by
    rw [← hw6]
    exact ⟨(Go.MapKept.heap_set hd).1, ⟨rfl, rfl, rfl, by simp [setBlock], fun j _ hn => (Go.MapKept.heap_set hd).2 j hn⟩⟩
  rw [hw6] at r2
  have r3 := run_lookup_at keyOwn (t := 66) (e := 3) Tryd.underlying66 (zero3 w6) b6 (HE.out.snoc k (.int .i64 0)) k
  have f3 : (es ++ [(k, (⟨ownV k, .int .i64 0, clock⟩ : MapEntry))]).find? (fun x => decide (x.1 = k)) = some (k, ⟨ownV k, .int .i64 0, clock⟩) := by
    rw [List.find?_append, f1]; simp
  rw [f3] at r3
  have r4 := run_entryStore_new (t := 66) k (.int .i64 1) HE.out b6
  obtain ⟨w7, hw7⟩ : ∃ w7, setBlock w6 mb (.map (arr (es ++ [(k, ⟨ownV k, .int .i64 1, clock⟩)])) (clock + 1)) = w7 := ⟨_, rfl⟩
  obtain ⟨b7, hu7⟩ : w7.heap[mb]? = some (.map (arr (es ++ [(k, ⟨ownV k, .int .i64 1, clock⟩)])) (clock + 1)) ∧ Upd (fun b => b = mb) w6 w7 := by
    rw [← hw7]
    exact ⟨(Go.MapKept.heap_set b6).1, ⟨rfl, rfl, rfl, by simp [setBlock], fun j _ hn => (Go.MapKept.heap_set b6).2 j hn⟩⟩
  rw [hw7] at r4
  have r5 := run_lookup_at keyOwn (t := 66) (e := 3) Tryd.underlying66 (zero3 w7) b7 (HE.out.snoc k (.int .i64 1)) k
  have f5 : (es ++ [(k, (⟨ownV k, .int .i64 1, clock⟩ : MapEntry))]).find? (fun x => decide (x.1 = k)) = some (k, ⟨ownV k, .int .i64 1, clock⟩) := by
    rw [List.find?_append, f1]; simp
  rw [f5] at r5
  rw [hkv] at r1 r2 r3 r5
  have hu26 : Upd (fun b => b = mb) w2 w7 := ((Upd.refl (fun b => b = mb) w2).drew.trans hu6).trans hu7
  have kq7 := hu26.blk hq (fun e => by have := lt_of_block HM.out; have := HW1.out; have := HKQ.out; omega)
  have s7 := hu26.cell hs2 hsm
  have p0 : w7.cell? ⟨kq, 0, none⟩ = some (.int .u32 a1) := (blk_cell kq7 0).trans rfl
  have p1 : w7.cell? ⟨kq, 1, none⟩ = some (.int .i64 a2) := (blk_cell kq7 1).trans rfl
  have p2 : w7.cell? ⟨kq, 2, none⟩ = some (.int .u32 b1) := (blk_cell kq7 2).trans rfl
  have p3 : w7.cell? ⟨kq, 3, none⟩ = some (.int .i64 b2) := (blk_cell kq7 3).trans rfl
  have HEND : Hid (SeenNew mb k es clock w w7) := hid ⟨b7, (HU2.out.mono (fun _ _ h => h.elim)).trans hu26⟩
  have HKK := hid hk
  clear hw6 hw7 b6 hu6 b7 hu7 hu26 kq7 hd hnk f1 f3 f5 hq hu2 hm2 hk hkv
  go_region
  all_goals
    go_wp2_with fail
    go_ret
    exact ⟨rfl, HKK.out ▸ HEND.out⟩
end Go.Proofs.YtoadbogfbgediaaDoor
