/- The document's Out, from the search's end on (no statement of the seat). -/
import Derived.Test.YtbcchdnbfblooaaRefM
namespace Go.Proofs.Ytbcchdnbfblooaa
open Go.RowKit
set_option linter.unusedSimpArgs false
set_option linter.unusedVariables false
noncomputable def tail11 : Code := ((Try.f20.body.bind (findAt 11)).getD .skip)
theorem bodyPost_mono' {P : Program} {fn : Func} {R R' : Ending → World → Prop} (h : ∀ e w, R e w → R' e w) : ∀ (e : Exit) (a : Act) (w : World), bodyPost P fn R e a w → bodyPost P fn R' e a w := by
  intro e a w hb
  cases e with
  | normal => exact ⟨hb.1, hb.2.choose, hb.2.choose_spec.1, h _ _ hb.2.choose_spec.2⟩
  | ret => exact ⟨hb.1, hb.2.choose, hb.2.choose_spec.1, h _ _ hb.2.choose_spec.2⟩
  | panic c => exact ⟨hb.1, h _ _ hb.2⟩
  | outgrown => exact h _ _ hb
  | exit id => exact hb
  | goto l => exact hb
def Tail11Post (r g b8 : Nat) (c : Cfg) (M : List RE) (res : List Ent × Ad × Int) (w0 : World) (e : Ending) (w' : World) : Prop :=
  e = .returned (.tuple #[res.2.1.v, .int .i64 res.2.2]) ∧ ∃ g' cap' l', RefAt r c (some ⟨g', 0, none⟩) cap' l' w' ∧ l'.map Prod.fst = res.1 ∧ (g' = g ∨ w0.heap.size ≤ g') ∧ (∀ z, z ∈ l' → (∃ y, y ∈ M ∧ y.2.row = z.2.row) ∨ w0.heap.size ≤ z.2.row) ∧ Upd (fun q => q = r ∨ q = g ∨ q = b8) w0 w'
set_option maxRecDepth 1000000 in
set_option maxHeartbeats 8000000 in
theorem tail11_any (r g cap b6 b7 b8 : Nat) (c : Cfg) (L : List Ent) (M : List RE) (now t : Int) (f1 f2 t1 t2 ix : Int) (w0 : World) (HR : Hid (RefAt r c (some ⟨g, 0, none⟩) cap M w0)) (HG : Hid (Good c.map (M.map Prod.fst))) (HL : Hid (alive (cutT now) c.tmo L = M.map Prod.fst)) (HT : Hid (cutT now = t))
    (h6 : w0.heap[b6]? = some (.cells #[.int .u32 f1, .int .i64 f2] 26 (0, 0))) (h7 : w0.heap[b7]? = some (.cells #[.int .u32 t1, .int .i64 t2] 26 (0, 0))) (h8 : w0.heap[b8]? = some (.cells #[.int .u32 0, .int .i64 0] 26 (0, 0))) (hne : b7 ≠ b8 ∧ b6 ≠ b8) (hs8 : ∀ z, z ∈ M → z.2.row ≠ b8)
    (hix : (ix = -1 ∧ Hid ((M.map Prod.fst).find? (keyB c.map ⟨f1, f2⟩ ⟨t1, t2⟩) = none)) ∨ (∃ k : Nat, ix = k ∧ k < M.length ∧ Hid (keyB c.map ⟨f1, f2⟩ ⟨t1, t2⟩ (M.getD k default).1 = true)))
    (u2 u3 u4 u5 u11 u12 u13 u14 u15 u16 u17 u18 u19 u20 u21 u22 u23 u24 u25 u26 u27 u28 u29 u30 u31 u32 u33 u34 u35 u36 u37 u38 u39 u40 u41 u42 u43 u44 u45 u46 u47 u48 u49 u50 u51 u52 u53 u54 u55 u56 u57 u58 u59 u60 u61 u62 u63 u64 u65 u66 u67 u68 u69 u70 u71 u72 u73 u74 u75 u76 u77 u78 u79 u80 u81 u82 u83 u84 u85 u86 u87 u88 u89 u90 u91 u92 u93 u94 u95 u96 u97 u98 u99 u100 u101 u102 u103 u104 u105 u106 u107 u108 u109 u110 u111 u112 u113 u114 u115 u116 u117 u118 u119 u120 u121 u122 u123 u124 u125 u126 u127 u128 u129 u130 u131 u132 u133 u134 u135 u136 u137 u138 u139 u140 u141 u142 u143 u144 u145 u146 u147 u148 u149 u150 u151 u152 u153 u154 u155 u156 u157 u158 u159 u160 u161 u162 u163 u164 u165 u166 u167 u168 u169 u170 u171 u172 u173 u174 u175 u176 : Value) :
    Code.wp Try.prog tail11 (bodyPost Try.prog Try.f20 (Tail11Post r g b8 c M (outL c now ⟨f1, f2⟩ ⟨t1, t2⟩ L) w0)) ⟨(ptr r :: .int .i64 t :: u2 :: u3 :: u4 :: u5 :: ptr b6 :: ptr b7 :: ptr b8 :: .int .i64 0 :: .int .i64 ix :: u11 :: u12 :: u13 :: u14 :: u15 :: u16 :: u17 :: u18 :: u19 :: u20 :: u21 :: u22 :: u23 :: u24 :: u25 :: u26 :: u27 :: u28 :: u29 :: u30 :: u31 :: u32 :: u33 :: u34 :: u35 :: u36 :: u37 :: u38 :: u39 :: u40 :: u41 :: u42 :: u43 :: u44 :: u45 :: u46 :: u47 :: u48 :: u49 :: u50 :: u51 :: u52 :: u53 :: u54 :: u55 :: u56 :: u57 :: u58 :: u59 :: u60 :: u61 :: u62 :: u63 :: u64 :: u65 :: u66 :: u67 :: u68 :: u69 :: u70 :: u71 :: u72 :: u73 :: u74 :: u75 :: u76 :: u77 :: u78 :: u79 :: u80 :: u81 :: u82 :: u83 :: u84 :: u85 :: u86 :: u87 :: u88 :: u89 :: u90 :: u91 :: u92 :: u93 :: u94 :: u95 :: u96 :: u97 :: u98 :: u99 :: u100 :: u101 :: u102 :: u103 :: u104 :: u105 :: u106 :: u107 :: u108 :: u109 :: u110 :: u111 :: u112 :: u113 :: u114 :: u115 :: u116 :: u117 :: u118 :: u119 :: u120 :: u121 :: u122 :: u123 :: u124 :: u125 :: u126 :: u127 :: u128 :: u129 :: u130 :: u131 :: u132 :: u133 :: u134 :: u135 :: u136 :: u137 :: u138 :: u139 :: u140 :: u141 :: u142 :: u143 :: u144 :: u145 :: u146 :: u147 :: u148 :: u149 :: u150 :: u151 :: u152 :: u153 :: u154 :: u155 :: u156 :: u157 :: u158 :: u159 :: u160 :: u161 :: u162 :: u163 :: u164 :: u165 :: u166 :: u167 :: u168 :: u169 :: u170 :: u171 :: u172 :: u173 :: u174 :: u175 :: u176 :: []).toArray, []⟩ w0 := by
  conv => arg 2; whnf
  have H6 := hid h6
  have H7 := hid h7
  have H8 := hid h8
  have HS8 := hid hs8
  have hM : M.length ≤ 64 := by have := HG.out.len; rwa [List.length_map] at this
  have hO : OwnE M 0 g cap w0 := ⟨HR.out.row, Nat.zero_le _⟩
  obtain ⟨gcs, hgb⟩ := hO.blk
  have hrg : r ≠ g := by
    intro e
    have h := HR.out.box
    rw [e, hgb] at h
    simp at h
  have hrx : ∀ {b : Nat} {cs : Array Value}, w0.heap[b]? = some (.cells cs 26 (0, 0)) → b ≠ r ∧ b ≠ g := fun hb =>
    ⟨fun e => by have h := HR.out.box; rw [← e, hb] at h; simp at h, fun e => by rw [e, hgb] at hb; simp at hb⟩
  have hb6 := hrx h6
  have hb7 := hrx h7
  have hb8 := hrx h8
  have HNE := hid (And.intro hrg (And.intro hb6 (And.intro hb7 hb8)))
  have hmc : M.length ≤ cap := hO.cap_
  have hgl : g < w0.heap.size := lt_of_block hgb
  have hrl : r < w0.heap.size := HR.out.lt
  have HLT := hid (And.intro hgl hrl)
  clear hs8 hO hgb hrx
  rcases hix with ⟨rfl, HF⟩ | ⟨k, rfl, hk, HK⟩
  · obtain ⟨e0, e1, e2, e4, e5⟩ := HR.out.cells
    clear e0 e1 e2 e4
    by_cases hfull : M.length = 64
    · have HO := hid (ref_full (c := c) (now := now) (fr := ⟨f1, f2⟩) (tt := ⟨t1, t2⟩) HL.out HF.out (by rw [List.length_map]; exact hfull))
      have y0 : w0.cell? ⟨b8, 0, none⟩ = some (.int .u32 0) := (blk_cell h8 0).trans rfl
      have y1 : w0.cell? ⟨b8, 1, none⟩ = some (.int .i64 0) := (blk_cell h8 1).trans rfl
      have z0 : w0.frozen? ⟨b8, 0, none⟩ = false := blk_free h8 0
      have z1 : w0.frozen? ⟨b8, 1, none⟩ = false := blk_free h8 1
      have hf64 : (M.length : Int) = 64 := by omega
      have HFU := hid hfull
      rw [hfull] at e5
      clear h6 h7 h8 hfull hf64
      go_wp2_with fail
      refine bodyPost_ret (v := .tuple #[.agg #[.int .u32 0, .int .i64 0], .int .i64 8]) ?_ rfl ?_
      · simp [results, Try.res20, go_sem, y0, y1]
      · have hu : Upd (fun q => q = b8) w0 ((w0.setCell ⟨b8, 0, none⟩ (.int .u32 0)).setCell ⟨b8, 1, none⟩ (.int .i64 0)) :=
          Upd.setCell (Upd.setCell (Upd.refl (fun q => q = b8) w0) (p := ⟨b8, 0, none⟩) (fun _ => rfl) _) (p := ⟨b8, 1, none⟩) (fun _ => rfl) _
        rw [HO.out]
        exact ⟨rfl, g, cap, M, HR.out.upd hu (fun e => HNE.out.2.2.2.1 (show r = b8 from e).symm) (fun k hk e => HNE.out.2.2.2.2 ((show k = b8 from e).symm.trans (ownBlk hk))) (fun z hz e => HS8.out z hz e), rfl, .inl rfl, fun z hz => .inl ⟨z, hz, rfl⟩, hu.mono (fun _ _ h => .inr (.inr h))⟩
    · have hlt : M.length < 64 := by omega
      have HO := hid (ref_new (c := c) (now := now) (fr := ⟨f1, f2⟩) (tt := ⟨t1, t2⟩) HL.out HF.out (by rw [List.length_map]; exact hlt))
      have hb64 : ((M.length : Int) == 64) = false := by rw [beq_eq_false_iff_ne]; omega
      have h60 : w0.cell? ⟨b6, 0, none⟩ = some (.int .u32 f1) := (blk_cell h6 0).trans rfl
      have h61 : w0.cell? ⟨b6, 1, none⟩ = some (.int .i64 f2) := (blk_cell h6 1).trans rfl
      have h70 : w0.cell? ⟨b7, 0, none⟩ = some (.int .u32 t1) := (blk_cell h7 0).trans rfl
      have h71 : w0.cell? ⟨b7, 1, none⟩ = some (.int .i64 t2) := (blk_cell h7 1).trans rfl
      have hfz : w0.frozen? ⟨r, 5, none⟩ = false := blk_free HR.out.box 5
      clear h6 h7 h8 hfull
      go_upto_region 15 with (fail)
      obtain ⟨p, hp⟩ : ∃ p, freeP (M.map Prod.fst) = p := ⟨_, rfl⟩
      have HP := hid hp
      rw [hp] at HO
      clear hp
      refine reg15_any _ r b6 b7 g cap p c M f1 f2 t1 t2 w0 HR hM HP ⟨hb6.1, hb6.2, hb7.1, hb7.2⟩ hrg hrl hgl e5 hfz h60 h61 h70 h71 _ _ _ _ _ _ _ _ _ _ _ _ _ _ _ _ _ _ _ _ _ _ _ _ _ _ _ _ _ _ _ _ _ _ _ _ _ _ _ _ _ _ _ _ _ _ _ _ _ _ _ _ _ _ _ _ _ _ _ _ _ _ _ _ _ _ _ _ _ _ _ _ _ _ _ _ _ _ _ _ _ _ _ _ _ _ _ _ _ _ _ _ _ _ _ _ _ _ _ _ _ _ _ _ _ _ _ _ _ _ _ _ _ _ _ _ _ _ _ _ _ _ _ _ _ _ _ _ _ _ _ _ _ _ _ _ _ _ _ _ _ _ _ _ _ _ _ _ _ _ _ _ _ _ _ _ _ _ _ _ _ _ _ _ _ _ _ _ _ _ _ _ _ _ (hid ?_)
      intro v96 v97 v98 v99 v100 v101 v102 v103 v104 v105 v106 v107 v108 v109 v110 g3 q3 w3 hO3 hU3 hg3 hs3
      clear h60 h61 h70 h71 hfz e5
      obtain ⟨W, hW⟩ : ∃ W, w3.setCell ⟨r, 5, none⟩ (.slice (some ⟨g3, 0, none⟩) (M.length + 1) q3) = W := ⟨_, rfl⟩
      have hset : Upd (fun q => q = r) w3 W := hW ▸ Upd.setCell (Upd.refl (fun q => q = r) w3) (p := ⟨r, 5, none⟩) (fun _ => rfl) _
      have hg3r : g3 ≠ r := by rcases hg3 with h | h <;> omega
      have hbox : W.heap[r]? = some (.cells #[.int .u32 c.pub, .int .i64 c.map, .int .i64 c.fil, .bool c.hair, .int .i64 c.tmo, .slice (some ⟨g3, 0, none⟩) (M.length + 1) q3] 49 (0, 0)) := by
        rw [← hW]; exact (blk_set (hU3.blk HR.out.box hrg) 5 _).trans rfl
      have hs3W : SentAt W [⟨t1, t2⟩] ⟨w0.heap.size, 1⟩ := by
        refine ⟨#[.int .u32 t1, .int .i64 t2], hset.blk hs3 (fun e => by have h := (show w0.heap.size = r from e); omega), fun j u hj => ?_⟩
        rw [← hj]; simp [adCells]
      have hlen : (M ++ [((⟨⟨f1, f2⟩, p, 0, [⟨t1, t2⟩]⟩, ⟨w0.heap.size, 1⟩) : RE)]).length = M.length + 1 := by simp
      have hRW : RefAt r c (some ⟨g3, 0, none⟩) q3 (M ++ [((⟨⟨f1, f2⟩, p, 0, [⟨t1, t2⟩]⟩, ⟨w0.heap.size, 1⟩) : RE)]) W := by
        refine ⟨by rw [hlen]; exact hbox, (hO3.upd hset hg3r).row, .inr ⟨g3, rfl⟩, fun z hz => ?_⟩
        rcases List.mem_append.1 hz with hz | hz
        · have h1 := (HR.out.sent z hz).upd hU3 (fun e => by
            have hO : OwnE M 0 g cap w0 := ⟨HR.out.row, Nat.zero_le _⟩
            obtain ⟨gcs, hgb⟩ := hO.blk
            exact (HR.out.sent z hz).ne hgb (by decide) e)
          exact h1.upd hset (h1.ne (hU3.blk HR.out.box hrg) (by decide))
        · simp only [List.mem_singleton] at hz
          subst hz
          exact hs3W
      have h7W := hset.blk (hU3.blk H7.out hb7.2) hb7.1
      have h8W := hset.blk (hU3.blk H8.out hb8.2) hb8.1
      have hb8l : b8 < w0.heap.size := lt_of_block H8.out
      have hgd : (M ++ [((⟨⟨f1, f2⟩, p, 0, [⟨t1, t2⟩]⟩, ⟨w0.heap.size, 1⟩) : RE)]).getD M.length default = (⟨⟨f1, f2⟩, p, 0, [⟨t1, t2⟩]⟩, ⟨w0.heap.size, 1⟩) := by simp [List.getD]
      have huW : Upd (fun q => q = r ∨ q = g) w0 W := (hU3.mono (fun _ _ h => .inr h)).then_ hset (fun _ _ h => .inl h)
      rw [hW]
      refine (show ∀ x y, Code.wp Try.prog tail16 _ x y → _ by assumption) _ _ ?_
      refine wp_mono (tail16_any r g3 q3 M.length b7 b8 c (M ++ [((⟨⟨f1, f2⟩, p, 0, [⟨t1, t2⟩]⟩, ⟨w0.heap.size, 1⟩) : RE)]) f1 f2 p 0 t [⟨t1, t2⟩] ⟨w0.heap.size, 1⟩ t1 t2 0 0 W (hid hRW) (by rw [hlen]; omega) (by rw [hlen]; omega) hgd (by simp) h7W h8W hne.1 (fun z hz e => by
        rcases List.mem_append.1 hz with hz | hz
        · exact HS8.out z hz e
        · simp only [List.mem_singleton] at hz
          subst hz
          have e' : w0.heap.size = b8 := e
          omega) _ _ _ _ _ _ _ _ _ _ _ _ _ _ _ _ _ _ _ _ _ _ _ _ _ _ _ _ _ _ _ _ _ _ _ _ _ _ _ _ _ _ _ _ _ _ _ _ _ _ _ _ _ _ _ _ _ _ _ _ _ _ _ _ _ _ _ _ _ _ _ _ _ _ _ _ _ _ _ _ _ _ _ _ _ _ _ _ _ _ _ _ _ _ _ _ _ _ _ _ _ _ _ _ _ _ _ _ _ _ _ _ _ _ _ _ _ _ _ _ _ _ _ _ _ _ _ _ _ _ _ _ _ _ _ _ _ _ _ _ _ _ _ _ _ _ _ _ _ _ _ _ _ _ _ _ _ _ _ _ _ _ _ _ _ _ _ _ _ _ _ _) (bodyPost_mono' ?_)
      rintro e w' ⟨rfl, z2, hR2, hz2, hu2⟩
      rw [HO.out, HT.out]
      have hst : sendTo [(⟨t1, t2⟩ : Ad)] ⟨t1, t2⟩ = [⟨t1, t2⟩] := by simp [sendTo]
      rw [hst] at hR2
      have hsl : (M ++ [((⟨⟨f1, f2⟩, p, 0, [⟨t1, t2⟩]⟩, ⟨w0.heap.size, 1⟩) : RE)]).set M.length (⟨⟨f1, f2⟩, p, t, [⟨t1, t2⟩]⟩, z2) = M ++ [(⟨⟨f1, f2⟩, p, t, [⟨t1, t2⟩]⟩, z2)] := by
        rw [List.set_append_right _ _ (Nat.le_refl _)]
        simp
      rw [hsl] at hR2
      refine ⟨by rfl, g3, q3, _, hR2, by rw [List.map_append]; rfl, hg3, fun z hz => ?_, huW.mono (fun _ _ h => h.elim .inl (fun h => .inr (.inl h))) |>.then_ hu2 (fun q hq h => ?_)⟩
      · rcases List.mem_append.1 hz with hz | hz
        · exact .inl ⟨z, hz, rfl⟩
        · simp only [List.mem_singleton] at hz
          subst hz
          right
          rcases hz2 with h | h
          · exact Nat.le_of_eq h.symm
          · exact Nat.le_trans huW.size h
      · rcases h with h | h
        · rcases hg3 with h3 | h3
          · exact .inr (.inl (h.trans h3))
          · omega
        · exact .inr (.inr h)
  · obtain ⟨⟨⟨⟨i1, i2⟩, po, us, se⟩, ro⟩, hz⟩ : ∃ q, M.getD k default = q := ⟨_, rfl⟩
    have hkk : k < (M.map Prod.fst).length := by rw [List.length_map]; exact hk
    have hfg := fst_getD M k hk
    have hO := ref_found (c := c) (L := L) (now := now) (fr := ⟨f1, f2⟩) (tt := ⟨t1, t2⟩) HL.out HG.out k hkk (by rw [hfg]; exact HK.out)
    rw [hfg, hz] at hO
    have hkey := HK.out
    rw [hz] at hkey
    have hins : i1 = f1 ∧ i2 = f2 := by
      have h1 : (⟨⟨i1, i2⟩, po, us, se⟩ : Ent).key c.map = (⟨f1, f2⟩, red c.map ⟨t1, t2⟩) := by simpa [keyB] using hkey
      have h2 := congrArg Prod.fst h1
      have h3 : (⟨i1, i2⟩ : Ad) = ⟨f1, f2⟩ := h2
      simpa using h3
    obtain ⟨rfl, rfl⟩ := hins
    have hse : se.length ≤ 32 := HG.out.sent1 ⟨⟨i1, i2⟩, po, us, se⟩ (List.mem_map.2 ⟨_, mem_at hk hz, rfl⟩)
    have HO := hid hO
    have hge : ¬ (k : Int) < 0 := by omega
    clear hO hkey hkk hfg
    go_upto_if 83 with (fail)
    refine wp_cond_false rfl (wp_skip ?_)
    refine (show ∀ x y, Code.wp Try.prog tail16 _ x y → _ by assumption) _ _ ?_
    refine wp_mono (tail16_any r g cap k b7 b8 c M i1 i2 po us t se ro t1 t2 0 0 _ HR hk hM hz hse h7 h8 hne.1 HS8.out _ _ _ _ _ _ _ _ _ _ _ _ _ _ _ _ _ _ _ _ _ _ _ _ _ _ _ _ _ _ _ _ _ _ _ _ _ _ _ _ _ _ _ _ _ _ _ _ _ _ _ _ _ _ _ _ _ _ _ _ _ _ _ _ _ _ _ _ _ _ _ _ _ _ _ _ _ _ _ _ _ _ _ _ _ _ _ _ _ _ _ _ _ _ _ _ _ _ _ _ _ _ _ _ _ _ _ _ _ _ _ _ _ _ _ _ _ _ _ _ _ _ _ _ _ _ _ _ _ _ _ _ _ _ _ _ _ _ _ _ _ _ _ _ _ _ _ _ _ _ _ _ _ _ _ _ _ _ _ _ _ _ _ _ _ _ _ _ _ _ _ _) (bodyPost_mono' ?_)
    rintro e w' ⟨rfl, z2, hR2, hz2, hu2⟩
    rw [HO.out, HT.out]
    refine ⟨by rfl, g, cap, _, hR2, by rw [fst_set], .inl rfl, fun z hzm => ?_, hu2.mono (fun _ _ h => .inr h)⟩
    rcases mem_set_or hzm with rfl | hzm
    · rcases hz2 with h | h
      · exact .inl ⟨_, mem_at hk hz, h.symm⟩
      · exact .inr h
    · exact .inl ⟨z, hzm, rfl⟩
end Go.Proofs.Ytbcchdnbfblooaa
