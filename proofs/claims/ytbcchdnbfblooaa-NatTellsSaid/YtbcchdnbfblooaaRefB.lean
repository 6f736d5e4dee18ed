/- The document's late, port, has (no statement of the seat). -/
import Derived.Test.YtbcchdnbfblooaaRefA
import Derived.Deep.Cut
import Derived.Deep.CutRange
import Derived.Deep.RegionWith
namespace Go.Proofs.Ytbcchdnbfblooaa
open Go.RowKit
set_option linter.unusedSimpArgs false
set_option linter.unusedVariables false
def aliveR (t tmo : Int) (l : List RE) : List RE := l.filter (fun z => decide (t - tmo < z.1.used))
theorem aliveR_fst (t tmo : Int) (l : List RE) : (aliveR t tmo l).map Prod.fst = alive t tmo (l.map Prod.fst) := by
  unfold aliveR alive; rw [List.filter_map]; rfl
theorem take_snocR (l : List RE) (j : Nat) (h : j < l.length) : l.take (j + 1) = l.take j ++ [l.getD j default] := by
  rw [List.take_succ_eq_append_getElem h, List.getD_eq_getElem?_getD, List.getElem?_eq_getElem h]; rfl
theorem sub_wrap (t b : Int) (h0 : 0 ≤ t ∧ t ≤ 1000000000) (h1 : 1 ≤ b ∧ b ≤ 1000000) : wrap64 (t - b) = t - b ∧ IntKind.i64.wrap (t - b) = t - b :=
  ⟨by unfold wrap64; omega, by rw [IntKind.wrap_i64]; omega⟩
set_option maxRecDepth 100000 in
set_option maxHeartbeats 4000000 in
theorem late29_any (r : Nat) (c : Cfg) (A : Option Addr) (cap : Nat) (l : List RE) (t : Int) (w : World) (h : RefAt r c A cap l w) (ht : 0 ≤ t ∧ t ≤ 1000000000) (hc : 1 ≤ c.tmo ∧ c.tmo ≤ 1000000) (hl : l.length ≤ 1000) :
    Calls Try.prog 29 #[ptr r, .int .i64 t] w fun e w' => e = .returned (.tuple #[]) ∧ ∃ g cap', RefAt r c (some ⟨g, 0, none⟩) cap' (aliveR t c.tmo l) w' ∧ w.heap.size ≤ g ∧ Upd (fun q => q = r) w w' := by
  have H := hid h
  have HW := hid (sub_wrap t c.tmo ht hc)
  clear h ht hc
  go_enter Try.func29, Try.ntmps29
  go_wp2_with fail
  go_loopw [4, 5] (fun v i wr => ∃ (k g cp N : Nat), k ≤ l.length ∧ i = .int .i64 k ∧ v = .slice (some ⟨g, 0, none⟩) N cp ∧ N ≤ k ∧ Hid ((aliveR t c.tmo (l.take k)).length = N) ∧ Hid (OwnE (aliveR t c.tmo (l.take k)) w.heap.size g cp wr) ∧ Hid (Upd (fun _ => False) w wr)) (fun _ i _ => l.length - (intOf i).toNat)
  case atStart => exact ⟨0, w.heap.size, 0, 0, Nat.zero_le _, rfl, rfl, Nat.le_refl _, hid (by simp [aliveR]), hid (by rw [List.take_zero]; exact OwnE.nil (heap_alloc_new w _) (Nat.le_refl _)), hid ((Upd.refl _ w).alloc _)⟩
  case round =>
    obtain ⟨k, g, cp, N, hk, rfl, rfl, hN, HN, HO, HU⟩ := hrel
    obtain ⟨b0, b1, b2, b4, b5⟩ := (H.out.still HU.out).cells
    by_cases hkl : k < l.length
    · obtain ⟨gl, rfl, c0, c1, c2, c3, c4⟩ := (H.out.still HU.out).at_ k hkl
      obtain ⟨⟨⟨⟨i1, i2⟩, po, us, se⟩, ⟨ro, rc⟩⟩, hz⟩ : ∃ q, l.getD k default = q := ⟨_, rfl⟩
      rw [hz] at c0 c1 c2 c3 c4
      dsimp only at c0 c1 c2 c3 c4
      have hcp := H.out.row
      have hlc : l.length ≤ cap := row_capE hcp
      have HST := hid (show aliveR t c.tmo (l.take (k + 1)) = aliveR t c.tmo (l.take k) ++ if t - c.tmo < us then [(⟨⟨i1, i2⟩, po, us, se⟩, ⟨ro, rc⟩)] else [] by
        rw [take_snocR l k hkl, hz]
        unfold aliveR
        rw [List.filter_append]
        congr 1
        by_cases hlt : t - c.tmo < us
        · simp [hlt]
        · simp [hlt])
      obtain ⟨tm, htm⟩ : ∃ tm, c.tmo = tm := ⟨_, rfl⟩
      rw [htm] at b4 HST
      have HW' := HW.out
      rw [htm] at HW'
      obtain ⟨e1, e2⟩ := HW'
      clear hcp hz b0 b1 b2
      by_cases hlt : t - tm < us
      · have HS2 := hid (show aliveR t tm (l.take (k + 1)) = aliveR t tm (l.take k) ++ [(⟨⟨i1, i2⟩, po, us, se⟩, ⟨ro, rc⟩)] by rw [HST.out, if_pos hlt])
        have HTM := hid htm
        clear HST e1 htm
        go_upto_region 4 with (fail)
        go_quiet (fail)
        go_wp2_with (at_builtin; refine list_appE (l := aliveR t tm (l.take k)) (n0 := w.heap.size) rfl _ _ rfl (.slice (some ⟨g, 0, none⟩) N cp) N 1 (N + 1) (⟨⟨i1, i2⟩, po, us, se⟩, ⟨ro, rc⟩) _ rfl (HTM.out ▸ HN.out) ((((Upd.refl (fun _ => False) wr).drewN _).alloc _).row (by have := HO.out.row; rw [HN.out, HTM.out] at this; exact this) (fun _ _ h => h)) (fun k hk => by rw [ownBlk hk]; exact HO.out.new) rfl (blk_news (heap_alloc_new _ _) rfl) rfl (by omega) ((HU.out.drewN _).alloc _).size ?_; intro g4 q4 w4 hO4 hu4 hor4 hlt4; have HO4 := hid hO4; have HU4 := hid hu4; clear hO4 hu4 hor4 hlt4)
        refine ⟨⟨k + 1, g4, q4, N + 1, by omega, by go_num, rfl, by omega, hid ?_, hid ?_, hid (((HU.out.drewN _).alloc _).then_ HU4.out (fun q hq e => by
          have h1 := ownBlk e
          have h2 := HO.out.new
          omega))⟩, by simp [intOf]; omega⟩
        · rw [HTM.out, HS2.out, List.length_append, ← HTM.out, HN.out]; rfl
        · rw [HTM.out, HS2.out]; exact HO4.out
      · have HS2 := hid (show aliveR t tm (l.take (k + 1)) = aliveR t tm (l.take k) by rw [HST.out, if_neg hlt, List.append_nil])
        have hle : us ≤ t - tm := by omega
        have HTM := hid htm
        clear HST e1 htm
        go_upto_region 4 with (fail)
        go_quiet (fail)
        go_wp2_with fail
        exact ⟨⟨k + 1, g, cp, N, by omega, by go_num, rfl, by omega, hid (by rw [HTM.out, HS2.out, ← HTM.out]; exact HN.out), hid (by rw [HTM.out, HS2.out, ← HTM.out]; exact HO.out.upd ((Upd.refl (fun _ => False) wr).drewN _) (fun h => h)), hid (HU.out.drewN _)⟩, by simp [intOf]; omega⟩
    · have hkl' : k = l.length := by omega
      have ht : l.take k = l := List.take_of_length_le (by omega)
      rw [ht] at HN HO
      have f5 := blk_free (H.out.still HU.out).box 5
      clear b0 b1 b2 b4 ht
      go_wp2_with fail
      go_end0
      have hu : Upd (fun q => q = r) wr (wr.setCell ⟨r, 5, none⟩ (.slice (some ⟨g, 0, none⟩) N cp)) := Upd.setCell (Upd.refl (fun q => q = r) wr) (fun _ => rfl) _
      have hR := H.out.still HU.out
      have hgr : g ≠ r := by have := HO.out.new; have := H.out.lt; omega
      refine ⟨rfl, g, cp, ⟨?_, ?_, .inr ⟨g, rfl⟩, fun z hz => ?_⟩, HO.out.new, (HU.out.mono (fun _ _ h => h.elim)).trans hu⟩
      · rw [HN.out]; exact (blk_set hR.box 5 _).trans rfl
      · exact (HO.out.upd hu hgr).row
      · have hz' := (List.mem_filter.1 hz).1
        have hs := hR.sent z hz'
        exact hs.upd hu (hs.ne hR.box (by decide))
end Go.Proofs.Ytbcchdnbfblooaa
