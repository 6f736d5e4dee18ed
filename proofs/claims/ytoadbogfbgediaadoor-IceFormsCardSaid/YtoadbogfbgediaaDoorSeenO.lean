/- 'seen' of a pair that came before (no statement of the seat). -/
import Derived.Test.YtoadbogfbgediaaDoorSeen
namespace Go.Proofs.YtoadbogfbgediaaDoor
open Go.RowKit
open Go.ChangeMaps (setBlock)

theorem find_of_idx (es : List ((Ad × Ad) × MapEntry)) (k : Ad × Ad) (i : Nat) (hi : i < es.length) (hf : es.findIdx? (fun x => decide (x.1 = k)) = some i) : es.find? (fun x => decide (x.1 = k)) = some es[i] := by
  rw [List.find?_eq_some_iff_getElem]
  obtain ⟨h1, h2, h3⟩ := List.findIdx?_eq_some_iff_getElem.1 hf
  exact ⟨h2, i, hi, rfl, fun j hj => by have := h3 j hj; simpa using this⟩
theorem find_set (es : List ((Ad × Ad) × MapEntry)) (k : Ad × Ad) (v : MapEntry) (i : Nat) (hi : i < es.length) (hf : es.findIdx? (fun x => decide (x.1 = k)) = some i) : (es.set i (k, v)).find? (fun x => decide (x.1 = k)) = some (k, v) := by
  rw [List.find?_eq_some_iff_getElem]
  obtain ⟨h1, h2, h3⟩ := List.findIdx?_eq_some_iff_getElem.1 hf
  refine ⟨by simp, i, by simpa using hi, by simp, fun j hj => ?_⟩
  have := h3 j hj
  rw [List.getElem_set]
  rw [if_neg (by omega)]
  simpa using this
/-- What 'seen' holds behind a key that was there n times. -/
def SeenOld (mb : Nat) (k : Ad × Ad) (n i : Nat) (es : List ((Ad × Ad) × MapEntry)) (clock : Nat) (w w' : World) : Prop :=
  (∃ es2, (∀ h : i < es.length, es2 = es.set i (k, (⟨(es[i]'h).2.key, .int .i64 ((n : Int) + 1), (es[i]'h).2.born⟩ : MapEntry))) ∧ w'.heap[mb]? = some (.map (arr es2) clock) ∧ Ents ownV es2 clock) ∧ Upd (fun b => b = mb) w w'

set_option maxHeartbeats 2000000 in
theorem seenP_old (c : Pr) (kb sb mb : Nat) (es : List ((Ad × Ad) × MapEntry)) (clock : Nat) (w : World)
    (hk : w.cell? ⟨kb, 0, none⟩ = some (fnv 32 #[])) (hs : w.cell? ⟨sb, 0, none⟩ = some (.map (some mb))) (hm : w.heap[mb]? = some (.map (arr es) clock)) (E : Ents ownV es clock)
    (i n : Nat) (hi : i < es.length) (hn : es[i].1 = (c.f, c.t)) (hf : es.findIdx? (fun x => decide (x.1 = (c.f, c.t))) = some i) (hval : es[i].2.val = .int .i64 n) (hn1 : 1 ≤ n) (hn2 : n ≤ 1000000) (hsm : sb ≠ mb) :
    Calls Tryd.prog 43 #[c.v, .pointer (some ⟨kb, 0, none⟩), .pointer (some ⟨sb, 0, none⟩)] w fun e w' => e = .returned (.bool true) ∧ SeenOld mb (c.f, c.t) n i es clock w w' := by
  have HK := hid hk
  have HS := hid hs
  have HM := hid hm
  have HE := hid E
  have HN := hid hn
  have HI := hid hi
  have HF := hid hf
  have HV := hid hval
  have hnz : (0 : Int) < (n : Int) := by omega
  have hnz2 : (n : Int) ≤ 1000000 := by omega
  have HNW := hid (show wrap64 ((n : Int) + 1) = (n : Int) + 1 by unfold wrap64; omega)
  have hkl : kb < w.heap.size := World.block_lt_of_cell? _ _ hk
  have hkA : ∀ o, (w.alloc o).cell? ⟨kb, 0, none⟩ = some (fnv 32 #[]) := fun o => ((Upd.refl (fun _ => False) w).alloc o).cell hk (fun h => h)
  obtain ⟨⟨a1, a2⟩, ⟨b1, b2⟩, cp, ck⟩ := c
  clear hk hs hm E hn hf hval hn1 hn2
  go_enter Tryd.func43, Tryd.ntmps43
  go_wp2_with fail
  refine (keyP_any ⟨⟨a1, a2⟩, ⟨b1, b2⟩, cp, ck⟩ _).mono ?_
  rintro e w1 ⟨rfl, hu⟩
  have hu1 : Upd (fun _ => False) w w1 := ((Upd.refl _ w).alloc _).trans hu
  have HU1 := hid hu1
  clear hkA hkl hu hu1
  go_upto_region 2 with (fail)
  obtain ⟨w2, hw⟩ : ∃ w2, w1.alloc (.cells #[.int .u32 a1, .int .i64 a2, .int .u32 b1, .int .i64 b2] 55) = w2 := ⟨_, rfl⟩
  have hq := heap_alloc_new w1 (.cells #[.int .u32 a1, .int .i64 a2, .int .u32 b1, .int .i64 b2] 55)
  have hu2 : Upd (fun _ => False) w w2 := hw ▸ HU1.out.alloc _
  rw [hw] at hq ⊢
  have HW1 := hid (HU1.out.size)
  clear hw
  obtain ⟨kq, hkq⟩ : ∃ kq, w1.heap.size = kq := ⟨_, rfl⟩
  rw [hkq] at hq ⊢
  have HKQ := hid hkq
  clear hkq
  have hs2 := hu2.cell HS.out (fun h => h)
  have hm2 := hu2.blk HM.out (fun h => h)
  have q0 : w2.cell? ⟨kq, 0, none⟩ = some (.int .u32 a1) := (blk_cell hq 0).trans rfl
  have q1 : w2.cell? ⟨kq, 1, none⟩ = some (.int .i64 a2) := (blk_cell hq 1).trans rfl
  have q2 : w2.cell? ⟨kq, 2, none⟩ = some (.int .u32 b1) := (blk_cell hq 2).trans rfl
  have q3 : w2.cell? ⟨kq, 3, none⟩ = some (.int .i64 b2) := (blk_cell hq 3).trans rfl
  have HM2 := hid hm2
  have HQ := hid hq
  have HU2 := hid hu2
  have HS2 := hid hs2
  have hd : w2.drew.heap[mb]? = some (.map (arr es) clock) := hm2
  obtain ⟨k, hk⟩ : ∃ k : Ad × Ad, (⟨a1, a2⟩, ⟨b1, b2⟩) = k := ⟨_, rfl⟩
  have hnk : (es[i]'HI.out).1 = k := by rw [← hk]; exact HN.out
  have hval : (es[i]'HI.out).2.val = .int .i64 n := HV.out
  have hkv : ownV k = .agg #[.int .u32 a1, .int .i64 a2, .int .u32 b1, .int .i64 b2] := by rw [← hk]
  have r1 := run_lookup_at keyOwn (t := 66) (e := 3) Tryd.underlying66 (zero3 w2.drew) hd HE.out k
  have hfi : es.findIdx? (fun x => decide (x.1 = k)) = some i := hk ▸ HF.out
  have hff := hid (find_of_idx es k i HI.out hfi)
  rw [hff.out] at r1
  have r2 := run_mapEntry_old (t := 66) (e := 3) Tryd.underlying66 hd HE.out k i HI.out hnk hfi
  obtain ⟨w6, hw6⟩ : ∃ w6, setBlock w2.drew mb (.map (arr es) clock) = w6 := ⟨_, rfl⟩
  obtain ⟨b6, hu6⟩ : w6.heap[mb]? = some (.map (arr es) clock) ∧ Upd (fun b => b = mb) w2.drew w6 := by
    rw [← hw6]
    exact ⟨(Go.MapKept.heap_set hd).1, ⟨rfl, rfl, rfl, by simp [setBlock], fun j _ hn => (Go.MapKept.heap_set hd).2 j hn⟩⟩
  rw [hw6] at r2
  have r3 := run_lookup_at keyOwn (t := 66) (e := 3) Tryd.underlying66 (zero3 w6) b6 HE.out k
  rw [hff.out] at r3
  have r4 := run_entryStore_old (t := 66) k (.int .i64 ((n : Int) + 1)) HE.out i HI.out hnk b6
  obtain ⟨es2, hes2⟩ : ∃ es2, es.set i (k, (⟨(es[i]'HI.out).2.key, .int .i64 ((n : Int) + 1), (es[i]'HI.out).2.born⟩ : MapEntry)) = es2 := ⟨_, rfl⟩
  have E2 := HE.out.set k (.int .i64 ((n : Int) + 1)) i HI.out hnk
  simp only [hes2] at r4 E2
  obtain ⟨w7, hw7⟩ : ∃ w7, setBlock w6 mb (.map (arr es2) clock) = w7 := ⟨_, rfl⟩
  obtain ⟨b7, hu7⟩ : w7.heap[mb]? = some (.map (arr es2) clock) ∧ Upd (fun b => b = mb) w6 w7 := by
    rw [← hw7]
    exact ⟨(Go.MapKept.heap_set b6).1, ⟨rfl, rfl, rfl, by simp [setBlock], fun j _ hn => (Go.MapKept.heap_set b6).2 j hn⟩⟩
  rw [hw7] at r4
  have r5 := run_lookup_at keyOwn (t := 66) (e := 3) Tryd.underlying66 (zero3 w7) b7 E2 k
  have f5 : es2.find? (fun x => decide (x.1 = k)) = some (k, (⟨es[i].2.key, .int .i64 ((n : Int) + 1), es[i].2.born⟩ : MapEntry)) := by
    rw [← hes2]
    exact find_set es k _ i HI.out hfi
  rw [f5] at r5
  simp only [Option.map_some, Option.getD_some, hval] at r1 r2 r3 r5
  rw [hkv] at r1 r2 r3 r5
  have hu26 : Upd (fun b => b = mb) w2 w7 := ((Upd.refl (fun b => b = mb) w2).drew.trans hu6).trans hu7
  have kq7 := hu26.blk hq (fun e => by have := lt_of_block HM.out; have := HW1.out; have := HKQ.out; omega)
  have s7 := hu26.cell hs2 hsm
  have p0 : w7.cell? ⟨kq, 0, none⟩ = some (.int .u32 a1) := (blk_cell kq7 0).trans rfl
  have p1 : w7.cell? ⟨kq, 1, none⟩ = some (.int .i64 a2) := (blk_cell kq7 1).trans rfl
  have p2 : w7.cell? ⟨kq, 2, none⟩ = some (.int .u32 b1) := (blk_cell kq7 2).trans rfl
  have p3 : w7.cell? ⟨kq, 3, none⟩ = some (.int .i64 b2) := (blk_cell kq7 3).trans rfl
  have HEND : Hid (SeenOld mb k n i es clock w w7) := hid ⟨⟨es2, fun _ => hes2.symm, b7, E2⟩, (HU2.out.mono (fun _ _ h => h.elim)).trans hu26⟩
  have HKK := hid hk
  clear hw6 hw7 b6 hu6 b7 hu7 hu26 kq7 hd hnk f5 hq hu2 hm2 hk hkv hfi hff hval E2 hes2
  go_region
  all_goals
    go_wp2_with fail
    go_ret
    exact ⟨by show Ending.returned (Value.bool (decide ((1 : Int) < (n : Int) + 1))) = _; rw [decide_eq_true (by omega)], HKK.out ▸ HEND.out⟩

theorem seenP_any (c : Pr) (kb sb mb lim : Nat) (K : List (Ad × Ad)) (w : World) (hk : w.cell? ⟨kb, 0, none⟩ = some (fnv 32 #[])) (hs : w.cell? ⟨sb, 0, none⟩ = some (.map (some mb))) (h : Seen mb K lim w) (hl : lim ≤ 1000000) (h1 : 1 ≤ lim + 1) (hsm : sb ≠ mb) :
    Calls Tryd.prog 43 #[c.v, .pointer (some ⟨kb, 0, none⟩), .pointer (some ⟨sb, 0, none⟩)] w fun e w' => e = .returned (.bool (decide ((c.f, c.t) ∈ K))) ∧ Seen mb (seenNext K (c.f, c.t)) (lim + 1) w' ∧ Upd (fun b => b = mb) w w' := by
  obtain ⟨es, clock, hm, E, hK, hN, hv⟩ := h
  by_cases hin : (c.f, c.t) ∈ K
  · have hin' := hin
    rw [← hK] at hin
    obtain ⟨x, hx, hxk⟩ := List.mem_map.1 hin
    obtain ⟨i, hf⟩ : ∃ i, es.findIdx? (fun x => decide (x.1 = (c.f, c.t))) = some i := by
      cases hq : es.findIdx? (fun x => decide (x.1 = (c.f, c.t))) with
      | some i => exact ⟨i, rfl⟩
      | none => rw [List.findIdx?_eq_none_iff] at hq; have := hq x hx; simp [hxk] at this
    obtain ⟨hi, hki, _⟩ := List.findIdx?_eq_some_iff_getElem.1 hf
    have hki' : es[i].1 = (c.f, c.t) := by simpa using hki
    obtain ⟨n, hn, hn1, hn2⟩ := hv es[i] (List.getElem_mem hi)
    refine (seenP_old c kb sb mb es clock w hk hs hm E i n hi hki' hf hn hn1 (by omega) hsm).mono ?_
    rintro e w' ⟨rfl, ⟨es2, he2, hb2, E2⟩, hu⟩
    have he2 := he2 hi
    refine ⟨by rw [decide_eq_true hin'], ⟨es2, clock, hb2, E2, ?_, ?_, ?_⟩, hu⟩
    · rw [he2, set_keys _ _ i hi hki', hK, seenNext, if_pos hin']
    · rw [seenNext, if_pos hin']; exact hN
    · intro y hy
      rw [he2] at hy
      rcases List.mem_or_eq_of_mem_set hy with q | q
      · obtain ⟨m, q1, q2, q3⟩ := hv y q
        exact ⟨m, q1, q2, by omega⟩
      · subst q
        exact ⟨n + 1, by simp, by omega, by omega⟩
  · have hnew : ∀ x, x ∈ es → x.1 ≠ (c.f, c.t) := fun x hx q => hin (by rw [← hK, ← q]; exact List.mem_map_of_mem hx)
    refine (seenP_new c kb sb mb es clock w hk hs hm E hnew hsm).mono ?_
    rintro e w' ⟨rfl, hb2, hu⟩
    refine ⟨by rw [decide_eq_false hin], ⟨_, _, hb2, E.snoc _ _, ?_, ?_, ?_⟩, hu⟩
    · rw [List.map_append, hK, seenNext, if_neg hin]; rfl
    · rw [seenNext, if_neg hin, List.nodup_append]
      exact ⟨hN, by simp, fun a ha b hb => by simp at hb; subst hb; intro q; subst q; exact hin ha⟩
    · intro y hy
      rcases List.mem_append.1 hy with q | q
      · obtain ⟨m, q1, q2, q3⟩ := hv y q
        exact ⟨m, q1, q2, by omega⟩
      · simp at q; subst q
        exact ⟨1, rfl, by omega, by omega⟩
end Go.Proofs.YtoadbogfbgediaaDoor
