/- The document's Out, its last part (no statement of the seat). -/
import Derived.Test.YtbcchdnbfblooaaRefK
namespace Go.Proofs.Ytbcchdnbfblooaa
open Go.RowKit
set_option linter.unusedSimpArgs false
set_option linter.unusedVariables false
noncomputable def tail16 : Code := ((Try.f20.body.bind (findAt 16)).getD .skip)
theorem mem_at {l : List RE} {k : Nat} {z : RE} (hk : k < l.length) (h : l.getD k default = z) : z ∈ l := by
  have eg : l.getD k default = l[k] := by simp [List.getD, hk]
  rw [← h, eg]; exact List.getElem_mem _
theorem Try.res20 : Try.f20.results = #[ResultVar.cell 8 26, ResultVar.tmp 9] := by kernel_rfl
/-- What the last part of Out leaves. -/
def Tail16Post (r g cap k b8 : Nat) (c : Cfg) (M : List RE) (i1 i2 po t : Int) (se : List Ad) (ro : RSlot) (t1 t2 : Int) (w0 : World) (e : Ending) (w' : World) : Prop :=
  e = .returned (.tuple #[(⟨c.pub, po⟩ : Ad).v, .int .i64 0]) ∧ ∃ z2 : RSlot, RefAt r c (some ⟨g, 0, none⟩) cap (M.set k (⟨⟨i1, i2⟩, po, t, sendTo se ⟨t1, t2⟩⟩, z2)) w' ∧ (z2.row = ro.row ∨ w0.heap.size ≤ z2.row) ∧ Upd (fun q => q = g ∨ q = b8) w0 w'
set_option maxRecDepth 1000000 in
set_option maxHeartbeats 8000000 in
theorem tail16_any (r g cap k b7 b8 : Nat) (c : Cfg) (M : List RE) (i1 i2 po us t : Int) (se : List Ad) (ro : RSlot) (t1 t2 x1 x2 : Int) (w0 : World) (HR : Hid (RefAt r c (some ⟨g, 0, none⟩) cap M w0)) (hk : k < M.length) (hM : M.length ≤ 64) (hz : M.getD k default = (⟨⟨i1, i2⟩, po, us, se⟩, ro)) (hse : se.length ≤ 32)
    (h7 : w0.heap[b7]? = some (.cells #[.int .u32 t1, .int .i64 t2] 26 (0, 0))) (h8 : w0.heap[b8]? = some (.cells #[.int .u32 x1, .int .i64 x2] 26 (0, 0))) (hne : b7 ≠ b8) (hs8 : ∀ z, z ∈ M → z.2.row ≠ b8)
    (u2 u3 u4 u5 u6 u9 u11 u12 u13 u14 u15 u16 u17 u18 u19 u20 u21 u22 u23 u24 u25 u26 u27 u28 u29 u30 u31 u32 u33 u34 u35 u36 u37 u38 u39 u40 u41 u42 u43 u44 u45 u46 u47 u48 u49 u50 u51 u52 u53 u54 u55 u56 u57 u58 u59 u60 u61 u62 u63 u64 u65 u66 u67 u68 u69 u70 u71 u72 u73 u74 u75 u76 u77 u78 u79 u80 u81 u82 u83 u84 u85 u86 u87 u88 u89 u90 u91 u92 u93 u94 u95 u96 u97 u98 u99 u100 u101 u102 u103 u104 u105 u106 u107 u108 u109 u110 u111 u112 u113 u114 u115 u116 u117 u118 u119 u120 u121 u122 u123 u124 u125 u126 u127 u128 u129 u130 u131 u132 u133 u134 u135 u136 u137 u138 u139 u140 u141 u142 u143 u144 u145 u146 u147 u148 u149 u150 u151 u152 u153 u154 u155 u156 u157 u158 u159 u160 u161 u162 u163 u164 u165 u166 u167 u168 u169 u170 u171 u172 u173 u174 u175 u176 : Value) :
    Code.wp Try.prog tail16 (bodyPost Try.prog Try.f20 (Tail16Post r g cap k b8 c M i1 i2 po t se ro t1 t2 w0)) ⟨(ptr r :: .int .i64 t :: u2 :: u3 :: u4 :: u5 :: u6 :: ptr b7 :: ptr b8 :: u9 :: .int .i64 k :: u11 :: u12 :: u13 :: u14 :: u15 :: u16 :: u17 :: u18 :: u19 :: u20 :: u21 :: u22 :: u23 :: u24 :: u25 :: u26 :: u27 :: u28 :: u29 :: u30 :: u31 :: u32 :: u33 :: u34 :: u35 :: u36 :: u37 :: u38 :: u39 :: u40 :: u41 :: u42 :: u43 :: u44 :: u45 :: u46 :: u47 :: u48 :: u49 :: u50 :: u51 :: u52 :: u53 :: u54 :: u55 :: u56 :: u57 :: u58 :: u59 :: u60 :: u61 :: u62 :: u63 :: u64 :: u65 :: u66 :: u67 :: u68 :: u69 :: u70 :: u71 :: u72 :: u73 :: u74 :: u75 :: u76 :: u77 :: u78 :: u79 :: u80 :: u81 :: u82 :: u83 :: u84 :: u85 :: u86 :: u87 :: u88 :: u89 :: u90 :: u91 :: u92 :: u93 :: u94 :: u95 :: u96 :: u97 :: u98 :: u99 :: u100 :: u101 :: u102 :: u103 :: u104 :: u105 :: u106 :: u107 :: u108 :: u109 :: u110 :: u111 :: u112 :: u113 :: u114 :: u115 :: u116 :: u117 :: u118 :: u119 :: u120 :: u121 :: u122 :: u123 :: u124 :: u125 :: u126 :: u127 :: u128 :: u129 :: u130 :: u131 :: u132 :: u133 :: u134 :: u135 :: u136 :: u137 :: u138 :: u139 :: u140 :: u141 :: u142 :: u143 :: u144 :: u145 :: u146 :: u147 :: u148 :: u149 :: u150 :: u151 :: u152 :: u153 :: u154 :: u155 :: u156 :: u157 :: u158 :: u159 :: u160 :: u161 :: u162 :: u163 :: u164 :: u165 :: u166 :: u167 :: u168 :: u169 :: u170 :: u171 :: u172 :: u173 :: u174 :: u175 :: u176 :: []).toArray, []⟩ w0 := by
  conv => arg 2; whnf
  have HZ := hid hz
  have H7 := hid h7
  have H8 := hid h8
  have HS8 := hid hs8
  obtain ⟨gl, hgl, c0, c1, c2, c3, c4⟩ := HR.out.at_ k hk
  rw [hz] at c0 c1 c2 c3 c4
  dsimp only at c0 c1 c2 c3 c4
  simp only [Option.some.injEq, Addr.mk.injEq, and_true] at hgl
  subst hgl
  obtain ⟨e0, e1, e2, e4, e5⟩ := HR.out.cells
  have hO : OwnE M 0 g cap w0 := ⟨HR.out.row, Nat.zero_le _⟩
  obtain ⟨gcs, hgb⟩ := hO.blk
  have hrg : r ≠ g := by
    intro e
    have h := HR.out.box
    rw [e, hgb] at h
    simp at h
  have hbg : b7 ≠ g := by
    intro e
    rw [e, hgb] at h7
    simp at h7
  have hbg8 : b8 ≠ g := by
    intro e
    rw [e, hgb] at h8
    simp at h8
  have hrb8 : r ≠ b8 := by
    intro e
    have h := HR.out.box
    rw [e, h8] at h
    simp at h
  have hmc : M.length ≤ cap := hO.cap_
  have hmem : (⟨⟨i1, i2⟩, po, us, se⟩, ro) ∈ M := by
    have eg : M.getD k default = M[k] := by simp [List.getD, hk]
    rw [← hz, eg]; exact List.getElem_mem _
  have HSE := hid (HR.out.sent _ hmem)
  have HNE := hid (And.intro hrg (And.intro hbg (And.intro hbg8 hrb8)))
  have hgl : g < w0.heap.size := lt_of_block hgb
  have d0 : w0.cell? ⟨b7, 0, none⟩ = some (.int .u32 t1) := (blk_cell h7 0).trans rfl
  have d1 : w0.cell? ⟨b7, 1, none⟩ = some (.int .i64 t2) := (blk_cell h7 1).trans rfl
  obtain ⟨κ, hκ⟩ : ∃ κ, decide ((⟨t1, t2⟩ : Ad) ∈ se) = κ := ⟨_, rfl⟩
  have HK := hid hκ
  have b1' : (0 : Int) ≤ (k : Int) := by omega
  have b2' : (k : Int) < (M.length : Int) := by omega
  have HE := hid (And.intro e5 (And.intro c4 (And.intro d0 d1)))
  clear hz h7 h8 hs8 hmem hO hgb hκ e0 e1 e2 e4 c0 c1 c2 c3
  go_upto_region 16 with (fail)
  go_region_held3 (fun W => W.cell? ⟨r, 5, none⟩ = some (.slice (some ⟨g, 0, none⟩) M.length cap) ∧ W.cell? ⟨g, k * 5 + 4, none⟩ = some (.slice (some ⟨ro.row, 0, none⟩) se.length ro.cap) ∧ W.cell? ⟨b7, 0, none⟩ = some (.int .u32 t1) ∧ W.cell? ⟨b7, 1, none⟩ = some (.int .i64 t2))
    (first
      | exact ⟨HE.out.1, HE.out.2.1, HE.out.2.2.1, HE.out.2.2.2⟩
      | exact ⟨HU16.out.cell HE.out.1 (fun h => h), HU16.out.cell HE.out.2.1 (fun h => h), HU16.out.cell HE.out.2.2.1 (fun h => h), HU16.out.cell HE.out.2.2.2 (fun h => h)⟩)
    (first
      | (go_at_call 32; refine (has32_any _ _ se ⟨t1, t2⟩ _ (SentAt.upd (S := fun _ => False) HSE.out ((Upd.refl _ w0).drew) (fun h => h)).src (by omega)).mono ?_; rintro e w1 ⟨rfl, hu16⟩; have HU16 : Hid (Upd (fun _ => False) w0 w1) := hid (((Upd.refl (fun _ => False) w0).drew).trans hu16); clear hu16)
      | fail)
  rw [HK.out]
  have HR1 := hid (HR.out.still HU16.out)
  have f5 := HU16.out.cell e5 (fun h => h)
  have f4 := HU16.out.cell c4 (fun h => h)
  clear e5 c4 d0 d1
  go_upto_region 17 with (fail)
  go_cut [134] from 121 (fun x wx => ∃ β : Bool, x = .bool β ∧ Hid (β = true ↔ κ = false ∧ se.length < 32) ∧ wx = w1)
  case first =>
    cases κ with
    | true =>
      go_wp2_with fail
      go_meet
      exact ⟨false, rfl, hid (by simp), rfl⟩
    | false =>
      by_cases hl : se.length < 32
      · have hl' : (se.length : Int) < 32 := by omega
        go_wp2_with fail
        go_meet
        exact ⟨true, rfl, hid (by simp [hl]), rfl⟩
      · have hl' : ¬ (se.length : Int) < 32 := by omega
        have hl2 : decide ((se.length : Int) < 32) = false := decide_eq_false hl'
        go_wp2_with fail
        go_meet
        exact ⟨false, rfl, hid (by simp [hl]), rfl⟩
  case rest =>
    obtain ⟨β, rfl, HBB, rfl⟩ := hcut
    go_upto_if 134 with (fail)
    go_cut [] from 121 (fun wx => ∃ z2 : RSlot, Hid (RefAt r c (some ⟨g, 0, none⟩) cap (M.set k (⟨⟨i1, i2⟩, po, us, sendTo se ⟨t1, t2⟩⟩, z2)) wx) ∧ Hid (z2.row = ro.row ∨ w0.heap.size ≤ z2.row) ∧ Hid (Upd (fun q => q = g) w0 wx))
    case first =>
      cases β with
      | false =>
        have hst : sendTo se ⟨t1, t2⟩ = se := by
          unfold sendTo
          rw [if_neg]
          rintro ⟨h1, h2⟩
          have h3 := HBB.out.2 ⟨by rw [← HK.out]; exact decide_eq_false h2, h1⟩
          cases h3
        have hset : M.set k (⟨⟨i1, i2⟩, po, us, sendTo se ⟨t1, t2⟩⟩, ro) = M := by
          have eg : M.getD k default = M[k] := by simp [List.getD, hk]
          rw [hst, ← HZ.out, eg, List.set_getElem_self]
        have HST := hid hset
        clear hst hset
        go_wp2_with fail
        go_meet
        exact ⟨ro, hid (by rw [HST.out]; exact HR1.out), hid (.inl rfl), hid (HU16.out.mono (fun _ _ h => h.elim))⟩
      | true =>
        have hb := HBB.out.1 rfl
        have hst : sendTo se ⟨t1, t2⟩ = se ++ [⟨t1, t2⟩] := by
          unfold sendTo
          rw [if_pos ⟨hb.2, of_decide_eq_false (HK.out.trans hb.1)⟩]
        have HST := hid hst
        have HB2 := hid hb
        have d0 := HU16.out.cell HE.out.2.2.1 (fun h => h)
        have d1 := HU16.out.cell HE.out.2.2.2 (fun h => h)
        have ffz := HR1.out.free (k * 5 + 4)
        have hsz := HU16.out.size
        clear hst hb
        go_upto_region 18 with (fail)
        refine reg18_any _ r b7 g cap M.length k ro.cap ro se t1 t2 wc hk hM hmc hse hrg hbg (Nat.lt_of_lt_of_le hgl hsz) f5 d0 d1 f4 ffz (hid (HSE.out.upd HU16.out (fun h => h))) _ _ _ _ _ _ _ _ _ _ _ _ _ _ _ _ _ _ _ _ _ _ _ _ _ _ _ _ _ _ _ _ _ _ _ _ _ _ _ _ _ _ _ _ _ _ _ _ _ _ _ _ _ _ _ _ _ _ _ _ _ _ _ _ _ _ _ _ _ _ _ _ _ _ _ _ _ _ _ _ _ _ _ _ _ _ _ _ _ _ _ _ _ _ _ _ _ _ _ _ _ _ _ _ _ _ _ _ _ _ _ _ _ _ _ _ _ _ _ _ _ _ _ _ _ _ _ _ _ _ _ _ _ _ _ _ _ _ _ _ _ _ _ _ _ _ _ _ _ _ _ _ _ _ _ _ _ _ _ _ _ _ _ _ _ _ _ _ _ _ _ _ _ _ (hid ?_)
        intro v135 v136 v137 v138 v139 v140 v141 v142 v143 v144 v145 v146 v147 v148 v149 v150 v151 v152 v153 v154 g3 q3 w3 hO3 hU3
        have hw := (HR1.out.still hU3).write k 4 (⟨⟨i1, i2⟩, po, us, se ++ [⟨t1, t2⟩]⟩, ⟨g3, q3⟩) (.slice (some ⟨g3, 0, none⟩) (se.length + 1) q3) hk (by decide) (by rw [HZ.out]; simp [rent]) hO3.sent hrg
        have HW1 := hid hw.1
        have HW2 := hid hw.2
        have HU3 := hid hU3
        have HN3 := hid hO3.new
        clear hw hO3 hU3
        go_wp2_with fail
        go_meet
        exact ⟨⟨g3, q3⟩, hid (by rw [HST.out]; exact HW1.out), hid (.inr (Nat.le_trans hsz HN3.out)), hid (((HU16.out.trans HU3.out).mono (fun _ _ h => h.elim)).trans HW2.out)⟩
    case rest =>
      clear f5 f4 HU16 HR1 HBB HSE HE HK
      obtain ⟨z2, HR2, HZ2, HU2⟩ := hcut
      have hk2 : k < (M.set k (⟨⟨i1, i2⟩, po, us, sendTo se ⟨t1, t2⟩⟩, z2)).length := by rw [List.length_set]; exact hk
      have hg2 : (M.set k (⟨⟨i1, i2⟩, po, us, sendTo se ⟨t1, t2⟩⟩, z2)).getD k default = (⟨⟨i1, i2⟩, po, us, sendTo se ⟨t1, t2⟩⟩, z2) := by simp [List.getD, hk]
      obtain ⟨gl, hgl, c0, c1, c2, c3, c4⟩ := HR2.out.at_ k hk2
      rw [hg2] at c0 c1 c2 c3 c4
      dsimp only at c0 c1 c2 c3 c4
      simp only [Option.some.injEq, Addr.mk.injEq, and_true] at hgl
      subst hgl
      have e5 := HR2.out.cells.2.2.2.2
      rw [List.length_set] at e5
      have ff3 := HR2.out.free (k * 5 + 3)
      have hw := HR2.out.write k 3 (⟨⟨i1, i2⟩, po, t, sendTo se ⟨t1, t2⟩⟩, z2) (.int .i64 t) hk2 (by decide) (by rw [hg2]; rfl) (by have h := HR2.out.sent _ (mem_at hk2 hg2); exact h) hrg
      rw [List.set_set] at hw
      have HW1 := hid hw.1
      have HW2 := hid hw.2
      clear hw hg2 c0 c1 c4 HR2
      go_upto_region 20 with (fail)
      obtain ⟨w5, hw5⟩ : ∃ w5, wc.setCell ⟨g, k * 5 + 3, none⟩ (.int .i64 t) = w5 := ⟨_, rfl⟩
      rw [hw5] at HW1 HW2 ⊢
      have HU5 := hid (HU2.out.trans HW2.out)
      clear hw5 c2 c3 e5 ff3 HU2 HW2
      have hk3 : k < (M.set k (⟨⟨i1, i2⟩, po, t, sendTo se ⟨t1, t2⟩⟩, z2)).length := by rw [List.length_set]; exact hk
      have hg3 : (M.set k (⟨⟨i1, i2⟩, po, t, sendTo se ⟨t1, t2⟩⟩, z2)).getD k default = (⟨⟨i1, i2⟩, po, t, sendTo se ⟨t1, t2⟩⟩, z2) := by simp [List.getD, hk]
      obtain ⟨gl, hgl, c0, c1, c2, c3, c4⟩ := HW1.out.at_ k hk3
      rw [hg3] at c2
      dsimp only at c2
      simp only [Option.some.injEq, Addr.mk.injEq, and_true] at hgl
      subst hgl
      obtain ⟨p0, p1, p2, p4, p5⟩ := HW1.out.cells
      rw [List.length_set] at p5
      have h85 := HU5.out.blk H8.out hbg8
      have y0 : w5.cell? ⟨b8, 0, none⟩ = some (.int .u32 x1) := (blk_cell h85 0).trans rfl
      have y1 : w5.cell? ⟨b8, 1, none⟩ = some (.int .i64 x2) := (blk_cell h85 1).trans rfl
      have z0 : w5.frozen? ⟨b8, 0, none⟩ = false := blk_free h85 0
      have z1 : w5.frozen? ⟨b8, 1, none⟩ = false := blk_free h85 1
      have HP := hid (And.intro p0 (And.intro p5 c2))
      clear hg3 c0 c1 c3 c4 p1 p2 p4 h85
      go_region_held3 (fun W => W.cell? ⟨r, 0, none⟩ = some (.int .u32 c.pub) ∧ W.cell? ⟨r, 5, none⟩ = some (.slice (some ⟨g, 0, none⟩) M.length cap) ∧ W.cell? ⟨g, k * 5 + 2, none⟩ = some (.int .i64 po))
        (first
          | exact ⟨HP.out.1, HP.out.2.1, HP.out.2.2⟩
          | exact ⟨(Upd.setCell (Upd.setCell ((Upd.refl (fun q => q = b8) w5).drew) (p := ⟨b8, 0, none⟩) (fun _ => rfl) _) (p := ⟨b8, 1, none⟩) (fun _ => rfl) _).cell HP.out.1 (fun e => HNE.out.2.2.2 e),
              (Upd.setCell (Upd.setCell ((Upd.refl (fun q => q = b8) w5).drew) (p := ⟨b8, 0, none⟩) (fun _ => rfl) _) (p := ⟨b8, 1, none⟩) (fun _ => rfl) _).cell HP.out.2.1 (fun e => HNE.out.2.2.2 e),
              (Upd.setCell (Upd.setCell ((Upd.refl (fun q => q = b8) w5).drew) (p := ⟨b8, 0, none⟩) (fun _ => rfl) _) (p := ⟨b8, 1, none⟩) (fun _ => rfl) _).cell HP.out.2.2 (fun e => HNE.out.2.2.1 e.symm)⟩)
        (fail)
      go_wp2_with fail
      refine bodyPost_ret (v := .tuple #[.agg #[.int .u32 c.pub, .int .i64 po], .int .i64 0]) ?_ rfl ?_
      · simp [results, Try.res20, go_sem, y0, y1]
      · have hu : Upd (fun q => q = b8) w5 ((w5.setCell ⟨b8, 0, none⟩ (.int .u32 c.pub)).setCell ⟨b8, 1, none⟩ (.int .i64 po)).drew :=
          (Upd.setCell (Upd.setCell (Upd.refl (fun q => q = b8) w5) (p := ⟨b8, 0, none⟩) (fun _ => rfl) _) (p := ⟨b8, 1, none⟩) (fun _ => rfl) _).drew
        have hb8l : b8 < w0.heap.size := lt_of_block H8.out
        refine ⟨rfl, z2, HW1.out.upd hu hrb8 (fun k hk e => HNE.out.2.2.1 ((show k = b8 from e).symm.trans (ownBlk hk))) (fun z hz e => ?_), HZ2.out, (HU5.out.mono (fun _ _ h => .inl h)).then_ hu (fun _ _ h => .inr h)⟩
        have e' : z.2.row = b8 := e
        rcases mem_set_or hz with rfl | hz
        · rcases HZ2.out with h | h
          · exact HS8.out _ (mem_at hk HZ.out) (h.symm.trans e')
          · have : z2.row = b8 := e'
            omega
        · exact HS8.out z hz e'
end Go.Proofs.Ytbcchdnbfblooaa
