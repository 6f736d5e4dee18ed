/- few of one, whole (no statement of the seat). -/
import Derived.Test.YtoadbogfbgediaaDoorOne
namespace Go.Proofs.YtoadbogfbgediaaDoor
open Go.RowKit
open Go.ChangeMaps (setBlock)

/-- A candidate in a row of one. -/
abbrev caCells (c : Ca) : Array Value := #[.int .i64 c.k, .int .u32 c.a.h, .int .i64 c.a.p, .int .u32 c.b.h, .int .i64 c.b.p, .int .u32 c.p]
abbrev prCells (c : Pr) : Array Value := #[.int .u32 c.f.h, .int .i64 c.f.p, .int .u32 c.t.h, .int .i64 c.t.p, .int .u64 c.p, .int .i64 c.s]

structure Caps (n : Nat) (kb sb mb : Nat) (w : World) : Prop where
  k : w.cell? ⟨kb, 0, none⟩ = some (fnv n #[])
  s : w.cell? ⟨sb, 0, none⟩ = some (.map (some mb))
  m : w.heap[mb]? = some (.map (arr ([] : List ((Ad × Ad) × MapEntry))) 0)
  ne : sb ≠ mb

set_option maxHeartbeats 2000000 in
theorem idx48_one (c : Ca) (b kb sb mb cap : Nat) (w : World) (h : Caps 29 kb sb mb w) (hb : ∀ i, i < 6 → w.cell? ⟨b, i, none⟩ = (caCells c)[i]?) :
    Calls Tryd.prog 48 #[.slice (some ⟨b, 0, none⟩) 1 cap, fnv 39 #[.pointer (some ⟨kb, 0, none⟩), .pointer (some ⟨sb, 0, none⟩)]] w fun e w' =>
      e = .returned (.int .i64 (-1)) ∧ Upd (fun k => k = mb) w w' := by
  have H := hid h
  obtain ⟨ck, ⟨a1, a2⟩, ⟨b1, b2⟩, cp⟩ := c
  have c0 : w.cell? ⟨b, 0, none⟩ = some (.int .i64 ck) := hb 0 (by omega)
  have c1 : w.cell? ⟨b, 1, none⟩ = some (.int .u32 a1) := hb 1 (by omega)
  have c2 : w.cell? ⟨b, 2, none⟩ = some (.int .i64 a2) := hb 2 (by omega)
  have c3 : w.cell? ⟨b, 3, none⟩ = some (.int .u32 b1) := hb 3 (by omega)
  have c4 : w.cell? ⟨b, 4, none⟩ = some (.int .i64 b2) := hb 4 (by omega)
  have c5 : w.cell? ⟨b, 5, none⟩ = some (.int .u32 cp) := hb 5 (by omega)
  clear h hb
  go_enter Tryd.func48, Tryd.ntmps48
  go_wp2_with fail
  go_loopw [8] (fun i wr => (i = .int .i64 0 ∧ wr = w) ∨ (i = .int .i64 1 ∧ Upd (fun k => k = mb) w wr)) (fun i _ => 1 - (intOf i).toNat)
  case atStart => exact .inl ⟨rfl, rfl⟩
  case round =>
    rcases hrel with ⟨rfl, rfl⟩ | ⟨rfl, hu⟩
    · go_wp2_with fail
      refine (seenC_new ⟨ck, ⟨a1, a2⟩, ⟨b1, b2⟩, cp⟩ kb sb mb [] 0 _ H.out.k H.out.s H.out.m (Ents.nil _) (by simp) H.out.ne).mono ?_
      rintro e w1 ⟨rfl, hs⟩
      have HU := hid hs.2
      clear hs
      go_wp2_with fail
      refine ⟨.inr ⟨rfl, HU.out⟩, by simp [intOf]⟩
    · have HU := hid hu
      clear hu
      go_wp2_with fail
      go_ret
      exact ⟨rfl, HU.out⟩
set_option maxHeartbeats 2000000 in
theorem del38_one (c : Ca) (b kb sb mb cap : Nat) (w : World) (h : Caps 29 kb sb mb w) (hb : ∀ i, i < 6 → w.cell? ⟨b, i, none⟩ = (caCells c)[i]?) :
    Calls Tryd.prog 38 #[.slice (some ⟨b, 0, none⟩) 1 cap, fnv 39 #[.pointer (some ⟨kb, 0, none⟩), .pointer (some ⟨sb, 0, none⟩)]] w fun e w' =>
      e = .returned (.slice (some ⟨b, 0, none⟩) 1 cap) ∧ Upd (fun k => k = mb) w w' := by
  have H := hid h
  have HB := hid hb
  clear h hb
  go_enter Tryd.func38, Tryd.ntmps38
  go_wp2_with fail
  refine (idx48_one c b kb sb mb cap _ H.out HB.out).mono ?_
  rintro e w1 ⟨rfl, hu⟩
  have HU := hid hu
  clear hu
  go_wp2_with fail
  go_ret
  exact ⟨rfl, HU.out⟩
abbrev fewW (n1 n2 : Nat) (t1 t2 : TypeId) (w : World) : World :=
  (((w.alloc (.cells #[fnv n1 #[]] t1)).alloc (.cells #[fnv n2 #[]] t2)).alloc (.map #[] 0)).alloc (.cells #[.map (some (w.heap.size + 1 + 1))] 66)
theorem few_upd (S : Nat → Prop) (n1 n2 : Nat) (t1 t2 : TypeId) (w : World) : Upd S w (fewW n1 n2 t1 t2 w) := ((((Upd.refl S w).alloc _).alloc _).alloc _).alloc _
theorem few_caps (n1 n2 : Nat) (t1 t2 : TypeId) (w : World) : Caps n2 (w.heap.size + 1) (w.heap.size + 1 + 1 + 1) (w.heap.size + 1 + 1) (fewW n1 n2 t1 t2 w) := by
  have h1 := heap_alloc_new (w.alloc (.cells #[fnv n1 #[]] t1)) (.cells #[fnv n2 #[]] t2)
  have h2 := heap_alloc_new ((w.alloc (.cells #[fnv n1 #[]] t1)).alloc (.cells #[fnv n2 #[]] t2)) (.map #[] 0)
  have h3 := heap_alloc_new (((w.alloc (.cells #[fnv n1 #[]] t1)).alloc (.cells #[fnv n2 #[]] t2)).alloc (.map #[] 0)) (.cells #[.map (some (w.heap.size + 1 + 1))] 66)
  have k1 := (((Upd.refl (fun _ => False) _).alloc (.map #[] 0)).alloc (.cells #[.map (some (w.heap.size + 1 + 1))] 66)).blk h1 (fun h => h)
  have k2 := ((Upd.refl (fun _ => False) _).alloc (.cells #[.map (some (w.heap.size + 1 + 1))] 66)).blk h2 (fun h => h)
  simp only [World.size_alloc] at h3 k1 k2
  exact ⟨(blk_cell k1 0).trans rfl, (blk_cell h3 0).trans rfl, k2, by omega⟩
theorem few_cell {w W : World} {b i : Nat} {o : Option Value} (hu : Upd (fun _ => False) w W) (h : w.cell? ⟨b, i, none⟩ = o) (hs : ∃ v, o = some v) : W.cell? ⟨b, i, none⟩ = w.cell? ⟨b, i, none⟩ := by
  obtain ⟨v, rfl⟩ := hs
  rw [h]; exact hu.cell h (fun h => h)
theorem six_some (cs : Array Value) (h6 : cs.size = 6) (i : Nat) (hi : i < 6) : ∃ v, cs[i]? = some v := ⟨cs[i], Array.getElem?_eq_getElem (by omega)⟩
theorem ca_some (c : Ca) (i : Nat) (hi : i < 6) : ∃ v, (caCells c)[i]? = some v := six_some _ rfl i hi
theorem pr_some (c : Pr) (i : Nat) (hi : i < 6) : ∃ v, (prCells c)[i]? = some v := six_some _ rfl i hi
set_option maxHeartbeats 2000000 in
theorem few27_one (c : Ca) (b cap : Nat) (w : World) (hcap : 1 ≤ cap) (hb : ∀ i, i < 6 → w.cell? ⟨b, i, none⟩ = (caCells c)[i]?) :
    Calls Tryd.prog 27 #[.slice (some ⟨b, 0, none⟩) 1 cap, fnv 28 #[], fnv 29 #[], .int .i64 8] w fun e w' =>
      e = .returned (.slice (some ⟨b, 0, none⟩) 1 cap) ∧ Upd (fun _ => False) w w' := by
  have HB := hid hb
  have hmm := @run_makeMap Tryd.prog
  clear hb
  go_enter Tryd.func27, Tryd.ntmps27
  go_wp2_with fail
  refine (sort35_one (some ⟨b, 0, none⟩) cap _ _).mono ?_
  rintro e w1 ⟨rfl, rfl⟩
  go_wp2_with fail
  obtain ⟨W, hW⟩ : ∃ W, fewW 28 29 56 57 w = W := ⟨_, rfl⟩
  have hc := few_caps 28 29 56 57 w
  have hu := few_upd (fun _ => False) 28 29 56 57 w
  unfold fewW at hW hc hu
  rw [hW] at hc hu ⊢
  have HU0 := hid hu
  refine (del38_one c b _ _ _ cap _ hc (fun i hi => by rw [← HB.out i hi]; exact few_cell hu (HB.out i hi) (ca_some c i hi))).mono ?_
  rintro e w2 ⟨rfl, hu2⟩
  have HU : Hid (Upd (fun _ => False) w w2) := hid (hu.then_ hu2 (fun k hk e => by omega))
  clear hu2 hu hc hW
  go_wp2_with fail
  go_ret
  exact ⟨rfl, HU.out⟩
set_option maxHeartbeats 2000000 in
theorem idx44_one (c : Pr) (b kb sb mb cap : Nat) (w : World) (h : Caps 32 kb sb mb w) (hb : ∀ i, i < 6 → w.cell? ⟨b, i, none⟩ = (prCells c)[i]?) :
    Calls Tryd.prog 44 #[.slice (some ⟨b, 0, none⟩) 1 cap, fnv 43 #[.pointer (some ⟨kb, 0, none⟩), .pointer (some ⟨sb, 0, none⟩)]] w fun e w' =>
      e = .returned (.int .i64 (-1)) ∧ Upd (fun k => k = mb) w w' := by
  have H := hid h
  obtain ⟨⟨a1, a2⟩, ⟨b1, b2⟩, cp, ck⟩ := c
  have c0 : w.cell? ⟨b, 0, none⟩ = some (.int .u32 a1) := hb 0 (by omega)
  have c1 : w.cell? ⟨b, 1, none⟩ = some (.int .i64 a2) := hb 1 (by omega)
  have c2 : w.cell? ⟨b, 2, none⟩ = some (.int .u32 b1) := hb 2 (by omega)
  have c3 : w.cell? ⟨b, 3, none⟩ = some (.int .i64 b2) := hb 3 (by omega)
  have c4 : w.cell? ⟨b, 4, none⟩ = some (.int .u64 cp) := hb 4 (by omega)
  have c5 : w.cell? ⟨b, 5, none⟩ = some (.int .i64 ck) := hb 5 (by omega)
  clear h hb
  go_enter Tryd.func44, Tryd.ntmps44
  go_wp2_with fail
  go_loopw [8] (fun i wr => (i = .int .i64 0 ∧ wr = w) ∨ (i = .int .i64 1 ∧ Upd (fun k => k = mb) w wr)) (fun i _ => 1 - (intOf i).toNat)
  case atStart => exact .inl ⟨rfl, rfl⟩
  case round =>
    rcases hrel with ⟨rfl, rfl⟩ | ⟨rfl, hu⟩
    · go_wp2_with fail
      refine (seenP_new ⟨⟨a1, a2⟩, ⟨b1, b2⟩, cp, ck⟩ kb sb mb [] 0 _ H.out.k H.out.s H.out.m (Ents.nil _) (by simp) H.out.ne).mono ?_
      rintro e w1 ⟨rfl, hs⟩
      have HU := hid hs.2
      clear hs
      go_wp2_with fail
      refine ⟨.inr ⟨rfl, HU.out⟩, by simp [intOf]⟩
    · have HU := hid hu
      clear hu
      go_wp2_with fail
      go_ret
      exact ⟨rfl, HU.out⟩
set_option maxHeartbeats 2000000 in
theorem del42_one (c : Pr) (b kb sb mb cap : Nat) (w : World) (h : Caps 32 kb sb mb w) (hb : ∀ i, i < 6 → w.cell? ⟨b, i, none⟩ = (prCells c)[i]?) :
    Calls Tryd.prog 42 #[.slice (some ⟨b, 0, none⟩) 1 cap, fnv 43 #[.pointer (some ⟨kb, 0, none⟩), .pointer (some ⟨sb, 0, none⟩)]] w fun e w' =>
      e = .returned (.slice (some ⟨b, 0, none⟩) 1 cap) ∧ Upd (fun k => k = mb) w w' := by
  have H := hid h
  have HB := hid hb
  clear h hb
  go_enter Tryd.func42, Tryd.ntmps42
  go_wp2_with fail
  refine (idx44_one c b kb sb mb cap _ H.out HB.out).mono ?_
  rintro e w1 ⟨rfl, hu⟩
  have HU := hid hu
  clear hu
  go_wp2_with fail
  go_ret
  exact ⟨rfl, HU.out⟩
set_option maxHeartbeats 2000000 in
theorem few30_one (c : Pr) (b cap : Nat) (w : World) (hcap : 1 ≤ cap) (hb : ∀ i, i < 6 → w.cell? ⟨b, i, none⟩ = (prCells c)[i]?) :
    Calls Tryd.prog 30 #[.slice (some ⟨b, 0, none⟩) 1 cap, fnv 31 #[], fnv 32 #[], .int .i64 16] w fun e w' =>
      e = .returned (.slice (some ⟨b, 0, none⟩) 1 cap) ∧ Upd (fun _ => False) w w' := by
  have HB := hid hb
  have hmm := @run_makeMap Tryd.prog
  clear hb
  go_enter Tryd.func30, Tryd.ntmps30
  go_wp2_with fail
  refine (sort40_one (some ⟨b, 0, none⟩) cap _ _).mono ?_
  rintro e w1 ⟨rfl, rfl⟩
  go_wp2_with fail
  obtain ⟨W, hW⟩ : ∃ W, fewW 31 32 59 60 w = W := ⟨_, rfl⟩
  have hc := few_caps 31 32 59 60 w
  have hu := few_upd (fun _ => False) 31 32 59 60 w
  unfold fewW at hW hc hu
  rw [hW] at hc hu ⊢
  have HU0 := hid hu
  refine (del42_one c b _ _ _ cap _ hc (fun i hi => by rw [← HB.out i hi]; exact few_cell hu (HB.out i hi) (pr_some c i hi))).mono ?_
  rintro e w2 ⟨rfl, hu2⟩
  have HU : Hid (Upd (fun _ => False) w w2) := hid (hu.then_ hu2 (fun k hk e => by omega))
  clear hu2 hu hc hW
  go_wp2_with fail
  go_ret
  exact ⟨rfl, HU.out⟩
end Go.Proofs.YtoadbogfbgediaaDoor
