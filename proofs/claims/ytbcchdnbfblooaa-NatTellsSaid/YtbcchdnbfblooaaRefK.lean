/- The document's Out: who was sent to is written down (no statement of the seat). -/
import Derived.Test.YtbcchdnbfblooaaRefJ
namespace Go.Proofs.Ytbcchdnbfblooaa
open Go.RowKit
set_option linter.unusedSimpArgs false
set_option linter.unusedVariables false
def regAt (k : Nat) : Code → Option Code
  | .region id ops b => if id = k then some (.region id ops b) else Option.none
  | .seq a b => match regAt k a with
    | some c => some c
    | Option.none => regAt k b
  | .cond _ a b => match regAt k a with
    | some c => some c
    | Option.none => regAt k b
  | .block _ c => regAt k c
  | .loop c => regAt k c
  | .scope c => regAt k c
  | _ => Option.none
noncomputable def reg18 : Code := ((Try.f20.body.bind (regAt 18)).getD .skip)
theorem sent_keep {wc W : World} {r b7 g cap n : Nat} {t1 t2 : Int} (h5 : wc.cell? ⟨r, 5, none⟩ = some (.slice (some ⟨g, 0, none⟩) n cap)) (h0 : wc.cell? ⟨b7, 0, none⟩ = some (.int .u32 t1)) (h1 : wc.cell? ⟨b7, 1, none⟩ = some (.int .i64 t2))
    (hrg : r ≠ g) (hbg : b7 ≠ g) (hu : Upd (fun q => q = g) wc W) : W.cell? ⟨r, 5, none⟩ = some (.slice (some ⟨g, 0, none⟩) n cap) ∧ W.cell? ⟨b7, 0, none⟩ = some (.int .u32 t1) ∧ W.cell? ⟨b7, 1, none⟩ = some (.int .i64 t2) :=
  ⟨hu.cell h5 hrg, hu.cell h0 hbg, hu.cell h1 hbg⟩
set_option maxRecDepth 1000000 in
set_option maxHeartbeats 8000000 in
theorem reg18_any (Q : Exit → Act → World → Prop) (r b7 g cap n k rc : Nat) (s : RSlot) (se : List Ad) (t1 t2 : Int) (wc : World) (hkn : k < n) (hn : n ≤ 64) (hcap : n ≤ cap) (hse : se.length ≤ 32) (hrg : r ≠ g) (hbg : b7 ≠ g) (hgl : g < wc.heap.size)
    (h5 : wc.cell? ⟨r, 5, none⟩ = some (.slice (some ⟨g, 0, none⟩) n cap)) (h0 : wc.cell? ⟨b7, 0, none⟩ = some (.int .u32 t1)) (h1 : wc.cell? ⟨b7, 1, none⟩ = some (.int .i64 t2)) (h4 : wc.cell? ⟨g, k * 5 + 4, none⟩ = some (.slice (some ⟨s.row, 0, none⟩) se.length rc)) (hfz : wc.frozen? ⟨g, k * 5 + 4, none⟩ = false)
    (HSE : Hid (SentAt wc se s)) (u1 u2 u3 u4 u5 u6 u8 u9 u11 u12 u13 u14 u15 u16 u17 u18 u19 u20 u21 u22 u23 u24 u25 u26 u27 u28 u29 u30 u31 u32 u33 u34 u35 u36 u37 u38 u39 u40 u41 u42 u43 u44 u45 u46 u47 u48 u49 u50 u51 u52 u53 u54 u55 u56 u57 u58 u59 u60 u61 u62 u63 u64 u65 u66 u67 u68 u69 u70 u71 u72 u73 u74 u75 u76 u77 u78 u79 u80 u81 u82 u83 u84 u85 u86 u87 u88 u89 u90 u91 u92 u93 u94 u95 u96 u97 u98 u99 u100 u101 u102 u103 u104 u105 u106 u107 u108 u109 u110 u111 u112 u113 u114 u115 u116 u117 u118 u119 u120 u121 u122 u123 u124 u125 u126 u127 u128 u129 u130 u131 u132 u133 u134 u135 u136 u137 u138 u139 u140 u141 u142 u143 u144 u145 u146 u147 u148 u149 u150 u151 u152 u153 u154 u155 u156 u157 u158 u159 u160 u161 u162 u163 u164 u165 u166 u167 u168 u169 u170 u171 u172 u173 u174 u175 u176 : Value)
    (HQ : Hid (∀ (v135 v136 v137 v138 v139 v140 v141 v142 v143 v144 v145 v146 v147 v148 v149 v150 v151 v152 v153 v154 : Value) (g3 q3 : Nat) (w3 : World), OwnD (se ++ [⟨t1, t2⟩]) wc.heap.size g3 q3 w3 → Upd (fun _ => False) wc w3 → Q .normal ⟨(ptr r :: u1 :: u2 :: u3 :: u4 :: u5 :: u6 :: ptr b7 :: u8 :: u9 :: .int .i64 k :: u11 :: u12 :: u13 :: u14 :: u15 :: u16 :: u17 :: u18 :: u19 :: u20 :: u21 :: u22 :: u23 :: u24 :: u25 :: u26 :: u27 :: u28 :: u29 :: u30 :: u31 :: u32 :: u33 :: u34 :: u35 :: u36 :: u37 :: u38 :: u39 :: u40 :: u41 :: u42 :: u43 :: u44 :: u45 :: u46 :: u47 :: u48 :: u49 :: u50 :: u51 :: u52 :: u53 :: u54 :: u55 :: u56 :: u57 :: u58 :: u59 :: u60 :: u61 :: u62 :: u63 :: u64 :: u65 :: u66 :: u67 :: u68 :: u69 :: u70 :: u71 :: u72 :: u73 :: u74 :: u75 :: u76 :: u77 :: u78 :: u79 :: u80 :: u81 :: u82 :: u83 :: u84 :: u85 :: u86 :: u87 :: u88 :: u89 :: u90 :: u91 :: u92 :: u93 :: u94 :: u95 :: u96 :: u97 :: u98 :: u99 :: u100 :: u101 :: u102 :: u103 :: u104 :: u105 :: u106 :: u107 :: u108 :: u109 :: u110 :: u111 :: u112 :: u113 :: u114 :: u115 :: u116 :: u117 :: u118 :: u119 :: u120 :: u121 :: u122 :: u123 :: u124 :: u125 :: u126 :: u127 :: u128 :: u129 :: u130 :: u131 :: u132 :: u133 :: u134 :: v135 :: v136 :: v137 :: v138 :: v139 :: v140 :: v141 :: v142 :: v143 :: v144 :: v145 :: v146 :: v147 :: v148 :: v149 :: v150 :: v151 :: v152 :: v153 :: v154 :: u155 :: u156 :: u157 :: u158 :: u159 :: u160 :: u161 :: u162 :: u163 :: u164 :: u165 :: u166 :: u167 :: u168 :: u169 :: u170 :: u171 :: u172 :: u173 :: u174 :: u175 :: u176 :: []).toArray, []⟩ (w3.setCell ⟨g, k * 5 + 4, none⟩ (.slice (some ⟨g3, 0, none⟩) (se.length + 1) q3)))) :
    Code.wp Try.prog reg18 Q ⟨(ptr r :: u1 :: u2 :: u3 :: u4 :: u5 :: u6 :: ptr b7 :: u8 :: u9 :: .int .i64 k :: u11 :: u12 :: u13 :: u14 :: u15 :: u16 :: u17 :: u18 :: u19 :: u20 :: u21 :: u22 :: u23 :: u24 :: u25 :: u26 :: u27 :: u28 :: u29 :: u30 :: u31 :: u32 :: u33 :: u34 :: u35 :: u36 :: u37 :: u38 :: u39 :: u40 :: u41 :: u42 :: u43 :: u44 :: u45 :: u46 :: u47 :: u48 :: u49 :: u50 :: u51 :: u52 :: u53 :: u54 :: u55 :: u56 :: u57 :: u58 :: u59 :: u60 :: u61 :: u62 :: u63 :: u64 :: u65 :: u66 :: u67 :: u68 :: u69 :: u70 :: u71 :: u72 :: u73 :: u74 :: u75 :: u76 :: u77 :: u78 :: u79 :: u80 :: u81 :: u82 :: u83 :: u84 :: u85 :: u86 :: u87 :: u88 :: u89 :: u90 :: u91 :: u92 :: u93 :: u94 :: u95 :: u96 :: u97 :: u98 :: u99 :: u100 :: u101 :: u102 :: u103 :: u104 :: u105 :: u106 :: u107 :: u108 :: u109 :: u110 :: u111 :: u112 :: u113 :: u114 :: u115 :: u116 :: u117 :: u118 :: u119 :: u120 :: u121 :: u122 :: u123 :: u124 :: u125 :: u126 :: u127 :: u128 :: u129 :: u130 :: u131 :: u132 :: u133 :: u134 :: u135 :: u136 :: u137 :: u138 :: u139 :: u140 :: u141 :: u142 :: u143 :: u144 :: u145 :: u146 :: u147 :: u148 :: u149 :: u150 :: u151 :: u152 :: u153 :: u154 :: u155 :: u156 :: u157 :: u158 :: u159 :: u160 :: u161 :: u162 :: u163 :: u164 :: u165 :: u166 :: u167 :: u168 :: u169 :: u170 :: u171 :: u172 :: u173 :: u174 :: u175 :: u176 :: []).toArray, []⟩ wc := by
  conv => arg 2; whnf
  have b1' : (0 : Int) ≤ (k : Int) := by omega
  have b2' : (k : Int) < (n : Int) := by omega
  refine wp_region_noPanic ?_
  refine wp_region_held_drew (S := (fun W => (W.cell? ⟨r, 5, none⟩ = some (.slice (some ⟨g, 0, none⟩) n cap) ∧ W.cell? ⟨b7, 0, none⟩ = some (.int .u32 t1) ∧ W.cell? ⟨b7, 1, none⟩ = some (.int .i64 t2)))) (by kernel_rfl) ?_ (fun hHeld => ?_)
  · (try dsimp only)
    exact sent_keep h5 h0 h1 hrg hbg ((Upd.refl (fun q => q = g) wc).drew)
  refine wpAnyH_take (i := 0) (v := ?_) rfl (by kernel_rfl) (by kernel_rfl) (by kernel_rfl) (fun _ _ _ h => h) (Or.inl ⟨by rfl, ?_⟩) (by assumption) ?_
  rotate_left
  · ((intro w hSw; (try dsimp only at hSw); go_simp); try with_reducible rfl)
  try simp only [Act.put, List.setIfInBounds_toArray, List.set_cons_zero, List.set_cons_succ]
  refine wpAnyH_take (i := 1) (v := ?_) rfl (by kernel_rfl) (by kernel_rfl) (by kernel_rfl) (fun _ _ _ h => h) (Or.inl ⟨by rfl, ?_⟩) (by assumption) ?_
  rotate_left
  · ((intro w hSw; (try dsimp only at hSw); go_simp); try with_reducible rfl)
  try simp only [Act.put, List.setIfInBounds_toArray, List.set_cons_zero, List.set_cons_succ]
  refine wpAnyH_take (i := 2) (v := ?_) rfl (by kernel_rfl) (by kernel_rfl) (by kernel_rfl) (fun _ _ _ h => h) (Or.inl ⟨by rfl, ?_⟩) (by assumption) ?_
  rotate_left
  · ((intro w hSw; (try dsimp only at hSw); go_simp); try with_reducible rfl)
  try simp only [Act.put, List.setIfInBounds_toArray, List.set_cons_zero, List.set_cons_succ]
  refine wpAnyH_take (i := 3) (v := ?_) rfl (by kernel_rfl) (by kernel_rfl) (by kernel_rfl) (fun _ _ _ h => h) (Or.inl ⟨by rfl, ?_⟩) (by assumption) ?_
  rotate_left
  · ((intro w hSw; (try dsimp only at hSw); go_simp); try with_reducible rfl)
  try simp only [Act.put, List.setIfInBounds_toArray, List.set_cons_zero, List.set_cons_succ]
  refine wpAnyH_take (i := 4) (v := ?_) rfl (by kernel_rfl) (by kernel_rfl) (by kernel_rfl) (fun _ _ _ h => h) (Or.inl ⟨by rfl, ?_⟩) (by assumption) ?_
  rotate_left
  · ((intro w hSw; (try dsimp only at hSw); go_simp); try with_reducible rfl)
  try simp only [Act.put, List.setIfInBounds_toArray, List.set_cons_zero, List.set_cons_succ]
  refine wpAnyH_take (i := 6) (v := ?_) rfl (by kernel_rfl) (by kernel_rfl) (by kernel_rfl) (fun _ _ _ h => h) (Or.inl ⟨by rfl, ?_⟩) (by assumption) ?_
  rotate_left
  · ((intro w hSw; (try dsimp only at hSw); go_simp); try with_reducible rfl)
  try simp only [Act.put, List.setIfInBounds_toArray, List.set_cons_zero, List.set_cons_succ]
  refine wpAnyH_take (i := 7) (v := ?_) rfl (by kernel_rfl) (by kernel_rfl) (by kernel_rfl) (fun _ _ _ h => h) (Or.inl ⟨by rfl, ?_⟩) (by assumption) ?_
  rotate_left
  · ((intro w hSw; (try dsimp only at hSw); go_simp); try with_reducible rfl)
  try simp only [Act.put, List.setIfInBounds_toArray, List.set_cons_zero, List.set_cons_succ]
  refine wpAnyH_take (i := 8) (v := ?_) rfl (by kernel_rfl) (by kernel_rfl) (by kernel_rfl) (fun _ _ _ h => h) (Or.inl ⟨by rfl, ?_⟩) (by assumption) ?_
  rotate_left
  · ((intro w hSw; (try dsimp only at hSw); go_simp); try with_reducible rfl)
  try simp only [Act.put, List.setIfInBounds_toArray, List.set_cons_zero, List.set_cons_succ]
  refine wpAnyH_take (i := 9) (v := ?_) rfl (by kernel_rfl) (by kernel_rfl) (by kernel_rfl) (fun _ _ _ h => h) (Or.inl ⟨by rfl, ?_⟩) (by assumption) ?_
  rotate_left
  · ((intro w hSw; (try dsimp only at hSw); go_simp); try with_reducible rfl)
  try simp only [Act.put, List.setIfInBounds_toArray, List.set_cons_zero, List.set_cons_succ]
  refine wpAnyH_take (i := 10) (v := ?_) rfl (by kernel_rfl) (by kernel_rfl) (by kernel_rfl) (fun _ _ _ h => h) (Or.inl ⟨by rfl, ?_⟩) (by assumption) ?_
  rotate_left
  · ((intro w hSw; (try dsimp only at hSw); go_simp); try with_reducible rfl)
  try simp only [Act.put, List.setIfInBounds_toArray, List.set_cons_zero, List.set_cons_succ]
  refine wpAnyH_take (i := 11) (v := ?_) rfl (by kernel_rfl) (by kernel_rfl) (by kernel_rfl) (fun _ _ _ h => h) (Or.inl ⟨by rfl, ?_⟩) (by assumption) ?_
  rotate_left
  · ((intro w hSw; (try dsimp only at hSw); go_simp); try with_reducible rfl)
  try simp only [Act.put, List.setIfInBounds_toArray, List.set_cons_zero, List.set_cons_succ]
  refine wpAnyH_take (i := 12) (v := ?_) rfl (by kernel_rfl) (by kernel_rfl) (by kernel_rfl) (fun _ _ _ h => h) (Or.inl ⟨by rfl, ?_⟩) (by assumption) ?_
  rotate_left
  · ((intro w hSw; (try dsimp only at hSw); go_simp); try with_reducible rfl)
  try simp only [Act.put, List.setIfInBounds_toArray, List.set_cons_zero, List.set_cons_succ]
  refine wpAnyH_take (i := 15) (v := ?_) rfl (by kernel_rfl) (by kernel_rfl) (by kernel_rfl) (fun _ _ _ h => h) (Or.inl ⟨by rfl, ?_⟩) (by assumption) ?_
  rotate_left
  · ((intro w hSw; (try dsimp only at hSw); go_simp); try with_reducible rfl)
  try simp only [Act.put, List.setIfInBounds_toArray, List.set_cons_zero, List.set_cons_succ]
  refine wpAnyH_ready (rs := [5, 13, 16]) (by kernel_rfl) (by simp) ?_
  refine AllReadyH.cons rfl (fun K hK => ?_) ?_
  · go_simp
    refine hK.out _ _ ?_ (fun hHeldN => ?_)
    · (try dsimp only)
      (first | exact sent_keep h5 h0 h1 hrg hbg (HU59.out.mono (fun _ _ h => h.elim)) | exact sent_keep h5 h0 h1 hrg hbg (Upd.setCell (S := fun q => q = g) (HU59.out.mono (fun _ _ h => h.elim)) (p := ⟨g, k * 5 + 4, none⟩) (fun _ => rfl) _) | exact sent_keep h5 h0 h1 hrg hbg (HU56.out.mono (fun _ _ h => h.elim)) | exact sent_keep h5 h0 h1 hrg hbg ((Upd.refl (fun q => q = g) wc).drew) | exact sent_keep h5 h0 h1 hrg hbg (((Upd.refl (fun q => q = g) wc).drew).alloc _) | exact sent_keep h5 h0 h1 hrg hbg ((((Upd.refl (fun q => q = g) wc).drew).alloc _).alloc _) | exact sent_keep h5 h0 h1 hrg hbg (HU56.out.alloc _ |>.mono (fun _ _ h => h.elim)))
    clear hK K hHeld
    have hHeld := hHeldN
    clear hHeldN
    try simp only [Act.put, List.setIfInBounds_toArray, List.set_cons_zero, List.set_cons_succ]
    refine wpAnyH_ready (rs := [13, 16]) (by kernel_rfl) (by simp) ?_
    refine AllReadyH.cons rfl (fun K hK => ?_) ?_
    · go_simp
      refine hK.out _ _ ?_ (fun hHeldN => ?_)
      · (try dsimp only)
        (first | exact sent_keep h5 h0 h1 hrg hbg (HU59.out.mono (fun _ _ h => h.elim)) | exact sent_keep h5 h0 h1 hrg hbg (Upd.setCell (S := fun q => q = g) (HU59.out.mono (fun _ _ h => h.elim)) (p := ⟨g, k * 5 + 4, none⟩) (fun _ => rfl) _) | exact sent_keep h5 h0 h1 hrg hbg (HU56.out.mono (fun _ _ h => h.elim)) | exact sent_keep h5 h0 h1 hrg hbg ((Upd.refl (fun q => q = g) wc).drew) | exact sent_keep h5 h0 h1 hrg hbg (((Upd.refl (fun q => q = g) wc).drew).alloc _) | exact sent_keep h5 h0 h1 hrg hbg ((((Upd.refl (fun q => q = g) wc).drew).alloc _).alloc _) | exact sent_keep h5 h0 h1 hrg hbg (HU56.out.alloc _ |>.mono (fun _ _ h => h.elim)))
      clear hK K hHeld
      have hHeld := hHeldN
      clear hHeldN
      try simp only [Act.put, List.setIfInBounds_toArray, List.set_cons_zero, List.set_cons_succ]
      refine wpAnyH_ready (rs := [14, 16]) (by kernel_rfl) (by simp) ?_
      refine AllReadyH.cons rfl (fun K hK => ?_) ?_
      · apply step_newD (wc := wc) (s := .tmp 140) (x := .tmp 148) (l := []) (ns := se) (n := 0) (k := se.length) (N := se.length)
        case hgd => rfl
        case ho => rfl
        case hs => rfl
        case hx => rfl
        case hU => first | exact ((Upd.refl _ wc).alloc _).drew | exact (((Upd.refl _ wc).alloc _).alloc _).drew | exact HU59.out | exact HU56.out | exact HU56.out.alloc _ | exact (HU56.out.alloc _).drew
        case hl => rfl
        case hk => rfl
        case hm => exact Nat.zero_add _
        case hb => omega
        case hO => exact OwnD.nil (by first | exact heap_alloc_at _ _ _ _ (by simp) | exact blk_drew (heap_alloc_at _ _ _ _ (by simp)) | exact blk_drew (Upd.blk ((Upd.refl (fun _ => False) _).alloc _) (heap_alloc_at _ _ _ _ (by simp)) (fun h => h))) (by simp)
        case hN => exact (SentAt.upd (S := fun _ => False) HSE.out (by first | exact ((Upd.refl _ wc).alloc _).drew | exact (((Upd.refl _ wc).alloc _).alloc _).drew | exact HU59.out | exact HU56.out | exact HU56.out.alloc _ | exact (HU56.out.alloc _).drew) (fun h => h)).news
        intro g56 q56 w56 hO56 hU56 hV56
        have HO56 := hid hO56
        have HU56 := hid hU56
        have HV56 := hid hV56
        clear hO56 hU56 hV56
        refine hK.out _ _ ?_ (fun hHeldN => ?_)
        · (try dsimp only)
          (first | exact sent_keep h5 h0 h1 hrg hbg (HU59.out.mono (fun _ _ h => h.elim)) | exact sent_keep h5 h0 h1 hrg hbg (Upd.setCell (S := fun q => q = g) (HU59.out.mono (fun _ _ h => h.elim)) (p := ⟨g, k * 5 + 4, none⟩) (fun _ => rfl) _) | exact sent_keep h5 h0 h1 hrg hbg (HU56.out.mono (fun _ _ h => h.elim)) | exact sent_keep h5 h0 h1 hrg hbg ((Upd.refl (fun q => q = g) wc).drew) | exact sent_keep h5 h0 h1 hrg hbg (((Upd.refl (fun q => q = g) wc).drew).alloc _) | exact sent_keep h5 h0 h1 hrg hbg ((((Upd.refl (fun q => q = g) wc).drew).alloc _).alloc _) | exact sent_keep h5 h0 h1 hrg hbg (HU56.out.alloc _ |>.mono (fun _ _ h => h.elim)))
        clear hK K hHeld
        have hHeld := hHeldN
        clear hHeldN
        try simp only [Act.put, List.setIfInBounds_toArray, List.set_cons_zero, List.set_cons_succ]
        refine wpAnyH_ready (rs := [16]) (by kernel_rfl) (by simp) ?_
        refine AllReadyH.cons rfl (fun K hK => ?_) ?_
        · go_simp
          refine hK.out _ _ ?_ (fun hHeldN => ?_)
          · (try dsimp only)
            (first | exact sent_keep h5 h0 h1 hrg hbg (HU59.out.mono (fun _ _ h => h.elim)) | exact sent_keep h5 h0 h1 hrg hbg (Upd.setCell (S := fun q => q = g) (HU59.out.mono (fun _ _ h => h.elim)) (p := ⟨g, k * 5 + 4, none⟩) (fun _ => rfl) _) | exact sent_keep h5 h0 h1 hrg hbg (HU56.out.mono (fun _ _ h => h.elim)) | exact sent_keep h5 h0 h1 hrg hbg ((Upd.refl (fun q => q = g) wc).drew) | exact sent_keep h5 h0 h1 hrg hbg (((Upd.refl (fun q => q = g) wc).drew).alloc _) | exact sent_keep h5 h0 h1 hrg hbg ((((Upd.refl (fun q => q = g) wc).drew).alloc _).alloc _) | exact sent_keep h5 h0 h1 hrg hbg (HU56.out.alloc _ |>.mono (fun _ _ h => h.elim)))
          clear hK K hHeld
          have hHeld := hHeldN
          clear hHeldN
          try simp only [Act.put, List.setIfInBounds_toArray, List.set_cons_zero, List.set_cons_succ]
          refine wpAnyH_ready (rs := [17]) (by kernel_rfl) (by simp) ?_
          refine AllReadyH.cons rfl (fun K hK => ?_) ?_
          · apply step_newD (wc := wc) (s := .tmp 149) (x := .tmp 151) (l := [] ++ se) (ns := [⟨t1, t2⟩]) (n := se.length) (k := 1) (N := se.length + 1)
            case hgd => rfl
            case ho => rfl
            case hs => rfl
            case hx => rfl
            case hU => first | exact ((Upd.refl _ wc).alloc _).drew | exact (((Upd.refl _ wc).alloc _).alloc _).drew | exact HU59.out | exact HU56.out | exact HU56.out.alloc _ | exact (HU56.out.alloc _).drew
            case hl => rfl
            case hk => rfl
            case hm => rfl
            case hb => omega
            case hO => first | exact HO56.out | exact HO56.out.upd ((Upd.refl (fun _ => False) _).alloc _) (fun h => h) | exact HO56.out.upd ((Upd.refl (fun _ => False) _).alloc _).drew (fun h => h)
            case hN => first | exact newsD_one (a := ⟨t1, t2⟩) (by first | exact heap_alloc_at _ _ _ _ (by simp) | exact blk_drew (heap_alloc_at _ _ _ _ (by simp)) | exact blk_drew (Upd.blk ((Upd.refl (fun _ => False) _).alloc _) (heap_alloc_at _ _ _ _ (by simp)) (fun h => h))) | exact newsD_one (a := ⟨t1, t2⟩) (HV56.out.blk (by first | exact heap_alloc_at _ _ _ _ (by simp) | exact blk_drew (heap_alloc_at _ _ _ _ (by simp)) | exact blk_drew (Upd.blk ((Upd.refl (fun _ => False) _).alloc _) (heap_alloc_at _ _ _ _ (by simp)) (fun h => h))) (by simp))
            intro g59 q59 w59 hO59 hU59 hV59
            have HO59 := hid hO59
            have HU59 := hid hU59
            have HV59 := hid hV59
            clear hO59 hU59 hV59
            have gc := HU59.out.cell h4 (fun h => h)
            have gf := (HU59.out.frozen (p := ⟨g, k * 5 + 4, none⟩) hgl (fun h => h)).trans hfz
            refine hK.out _ _ ?_ (fun hHeldN => ?_)
            · (try dsimp only)
              (first | exact sent_keep h5 h0 h1 hrg hbg (HU59.out.mono (fun _ _ h => h.elim)) | exact sent_keep h5 h0 h1 hrg hbg (Upd.setCell (S := fun q => q = g) (HU59.out.mono (fun _ _ h => h.elim)) (p := ⟨g, k * 5 + 4, none⟩) (fun _ => rfl) _) | exact sent_keep h5 h0 h1 hrg hbg (HU56.out.mono (fun _ _ h => h.elim)) | exact sent_keep h5 h0 h1 hrg hbg ((Upd.refl (fun q => q = g) wc).drew) | exact sent_keep h5 h0 h1 hrg hbg (((Upd.refl (fun q => q = g) wc).drew).alloc _) | exact sent_keep h5 h0 h1 hrg hbg ((((Upd.refl (fun q => q = g) wc).drew).alloc _).alloc _) | exact sent_keep h5 h0 h1 hrg hbg (HU56.out.alloc _ |>.mono (fun _ _ h => h.elim)))
            clear hK K hHeld
            have hHeld := hHeldN
            clear hHeldN
            try simp only [Act.put, List.setIfInBounds_toArray, List.set_cons_zero, List.set_cons_succ]
            refine wpAnyH_take (i := 18) (v := ?_) rfl (by kernel_rfl) (by kernel_rfl) (by kernel_rfl) (fun _ _ _ h => h) (Or.inl ⟨by rfl, ?_⟩) (by assumption) ?_
            rotate_left
            · ((intro w hSw; (try dsimp only at hSw); go_simp); try with_reducible rfl)
            try simp only [Act.put, List.setIfInBounds_toArray, List.set_cons_zero, List.set_cons_succ]
            refine wpAnyH_take (i := 19) (v := ?_) rfl (by kernel_rfl) (by kernel_rfl) (by kernel_rfl) (fun _ _ _ h => h) (Or.inl ⟨by rfl, ?_⟩) (by assumption) ?_
            rotate_left
            · ((intro w hSw; (try dsimp only at hSw); go_simp); try with_reducible rfl)
            try simp only [Act.put, List.setIfInBounds_toArray, List.set_cons_zero, List.set_cons_succ]
            refine wpAnyH_ready (rs := [20]) (by kernel_rfl) (by simp) ?_
            refine AllReadyH.cons rfl (fun K hK => ?_) ?_
            · go_simp
              refine hK.out _ _ ?_ (fun hHeldN => ?_)
              · (try dsimp only)
                (first | exact sent_keep h5 h0 h1 hrg hbg (HU59.out.mono (fun _ _ h => h.elim)) | exact sent_keep h5 h0 h1 hrg hbg (Upd.setCell (S := fun q => q = g) (HU59.out.mono (fun _ _ h => h.elim)) (p := ⟨g, k * 5 + 4, none⟩) (fun _ => rfl) _) | exact sent_keep h5 h0 h1 hrg hbg (HU56.out.mono (fun _ _ h => h.elim)) | exact sent_keep h5 h0 h1 hrg hbg ((Upd.refl (fun q => q = g) wc).drew) | exact sent_keep h5 h0 h1 hrg hbg (((Upd.refl (fun q => q = g) wc).drew).alloc _) | exact sent_keep h5 h0 h1 hrg hbg ((((Upd.refl (fun q => q = g) wc).drew).alloc _).alloc _) | exact sent_keep h5 h0 h1 hrg hbg (HU56.out.alloc _ |>.mono (fun _ _ h => h.elim)))
              clear hK K hHeld
              have hHeld := hHeldN
              clear hHeldN
              try simp only [Act.put, List.setIfInBounds_toArray, List.set_cons_zero, List.set_cons_succ]
              refine wpAnyH_done (by kernel_rfl) ?_ _
              refine NoPanic.normal ?_
              have hO := HO59.out
              rw [List.nil_append] at hO
              exact HQ.out _ _ _ _ _ _ _ _ _ _ _ _ _ _ _ _ _ _ _ _ g59 q59 w59 hO HU59.out
            exact AllReadyH.nil
          exact AllReadyH.nil
        exact AllReadyH.nil
      refine AllReadyH.cons rfl (fun K hK => ?_) ?_
      · go_simp
        refine hK.out _ _ ?_ (fun hHeldN => ?_)
        · (try dsimp only)
          (first | exact sent_keep h5 h0 h1 hrg hbg (HU59.out.mono (fun _ _ h => h.elim)) | exact sent_keep h5 h0 h1 hrg hbg (Upd.setCell (S := fun q => q = g) (HU59.out.mono (fun _ _ h => h.elim)) (p := ⟨g, k * 5 + 4, none⟩) (fun _ => rfl) _) | exact sent_keep h5 h0 h1 hrg hbg (HU56.out.mono (fun _ _ h => h.elim)) | exact sent_keep h5 h0 h1 hrg hbg ((Upd.refl (fun q => q = g) wc).drew) | exact sent_keep h5 h0 h1 hrg hbg (((Upd.refl (fun q => q = g) wc).drew).alloc _) | exact sent_keep h5 h0 h1 hrg hbg ((((Upd.refl (fun q => q = g) wc).drew).alloc _).alloc _) | exact sent_keep h5 h0 h1 hrg hbg (HU56.out.alloc _ |>.mono (fun _ _ h => h.elim)))
        clear hK K hHeld
        have hHeld := hHeldN
        clear hHeldN
        try simp only [Act.put, List.setIfInBounds_toArray, List.set_cons_zero, List.set_cons_succ]
        refine wpAnyH_ready (rs := [14]) (by kernel_rfl) (by simp) ?_
        refine AllReadyH.cons rfl (fun K hK => ?_) ?_
        · apply step_newD (wc := wc) (s := .tmp 140) (x := .tmp 148) (l := []) (ns := se) (n := 0) (k := se.length) (N := se.length)
          case hgd => rfl
          case ho => rfl
          case hs => rfl
          case hx => rfl
          case hU => first | exact ((Upd.refl _ wc).alloc _).drew | exact (((Upd.refl _ wc).alloc _).alloc _).drew | exact HU59.out | exact HU56.out | exact HU56.out.alloc _ | exact (HU56.out.alloc _).drew
          case hl => rfl
          case hk => rfl
          case hm => exact Nat.zero_add _
          case hb => omega
          case hO => exact OwnD.nil (by first | exact heap_alloc_at _ _ _ _ (by simp) | exact blk_drew (heap_alloc_at _ _ _ _ (by simp)) | exact blk_drew (Upd.blk ((Upd.refl (fun _ => False) _).alloc _) (heap_alloc_at _ _ _ _ (by simp)) (fun h => h))) (by simp)
          case hN => exact (SentAt.upd (S := fun _ => False) HSE.out (by first | exact ((Upd.refl _ wc).alloc _).drew | exact (((Upd.refl _ wc).alloc _).alloc _).drew | exact HU59.out | exact HU56.out | exact HU56.out.alloc _ | exact (HU56.out.alloc _).drew) (fun h => h)).news
          intro g56 q56 w56 hO56 hU56 hV56
          have HO56 := hid hO56
          have HU56 := hid hU56
          have HV56 := hid hV56
          clear hO56 hU56 hV56
          refine hK.out _ _ ?_ (fun hHeldN => ?_)
          · (try dsimp only)
            (first | exact sent_keep h5 h0 h1 hrg hbg (HU59.out.mono (fun _ _ h => h.elim)) | exact sent_keep h5 h0 h1 hrg hbg (Upd.setCell (S := fun q => q = g) (HU59.out.mono (fun _ _ h => h.elim)) (p := ⟨g, k * 5 + 4, none⟩) (fun _ => rfl) _) | exact sent_keep h5 h0 h1 hrg hbg (HU56.out.mono (fun _ _ h => h.elim)) | exact sent_keep h5 h0 h1 hrg hbg ((Upd.refl (fun q => q = g) wc).drew) | exact sent_keep h5 h0 h1 hrg hbg (((Upd.refl (fun q => q = g) wc).drew).alloc _) | exact sent_keep h5 h0 h1 hrg hbg ((((Upd.refl (fun q => q = g) wc).drew).alloc _).alloc _) | exact sent_keep h5 h0 h1 hrg hbg (HU56.out.alloc _ |>.mono (fun _ _ h => h.elim)))
          clear hK K hHeld
          have hHeld := hHeldN
          clear hHeldN
          try simp only [Act.put, List.setIfInBounds_toArray, List.set_cons_zero, List.set_cons_succ]
          refine wpAnyH_ready (rs := [17]) (by kernel_rfl) (by simp) ?_
          refine AllReadyH.cons rfl (fun K hK => ?_) ?_
          · apply step_newD (wc := wc) (s := .tmp 149) (x := .tmp 151) (l := [] ++ se) (ns := [⟨t1, t2⟩]) (n := se.length) (k := 1) (N := se.length + 1)
            case hgd => rfl
            case ho => rfl
            case hs => rfl
            case hx => rfl
            case hU => first | exact ((Upd.refl _ wc).alloc _).drew | exact (((Upd.refl _ wc).alloc _).alloc _).drew | exact HU59.out | exact HU56.out | exact HU56.out.alloc _ | exact (HU56.out.alloc _).drew
            case hl => rfl
            case hk => rfl
            case hm => rfl
            case hb => omega
            case hO => first | exact HO56.out | exact HO56.out.upd ((Upd.refl (fun _ => False) _).alloc _) (fun h => h) | exact HO56.out.upd ((Upd.refl (fun _ => False) _).alloc _).drew (fun h => h)
            case hN => first | exact newsD_one (a := ⟨t1, t2⟩) (by first | exact heap_alloc_at _ _ _ _ (by simp) | exact blk_drew (heap_alloc_at _ _ _ _ (by simp)) | exact blk_drew (Upd.blk ((Upd.refl (fun _ => False) _).alloc _) (heap_alloc_at _ _ _ _ (by simp)) (fun h => h))) | exact newsD_one (a := ⟨t1, t2⟩) (HV56.out.blk (by first | exact heap_alloc_at _ _ _ _ (by simp) | exact blk_drew (heap_alloc_at _ _ _ _ (by simp)) | exact blk_drew (Upd.blk ((Upd.refl (fun _ => False) _).alloc _) (heap_alloc_at _ _ _ _ (by simp)) (fun h => h))) (by simp))
            intro g59 q59 w59 hO59 hU59 hV59
            have HO59 := hid hO59
            have HU59 := hid hU59
            have HV59 := hid hV59
            clear hO59 hU59 hV59
            have gc := HU59.out.cell h4 (fun h => h)
            have gf := (HU59.out.frozen (p := ⟨g, k * 5 + 4, none⟩) hgl (fun h => h)).trans hfz
            refine hK.out _ _ ?_ (fun hHeldN => ?_)
            · (try dsimp only)
              (first | exact sent_keep h5 h0 h1 hrg hbg (HU59.out.mono (fun _ _ h => h.elim)) | exact sent_keep h5 h0 h1 hrg hbg (Upd.setCell (S := fun q => q = g) (HU59.out.mono (fun _ _ h => h.elim)) (p := ⟨g, k * 5 + 4, none⟩) (fun _ => rfl) _) | exact sent_keep h5 h0 h1 hrg hbg (HU56.out.mono (fun _ _ h => h.elim)) | exact sent_keep h5 h0 h1 hrg hbg ((Upd.refl (fun q => q = g) wc).drew) | exact sent_keep h5 h0 h1 hrg hbg (((Upd.refl (fun q => q = g) wc).drew).alloc _) | exact sent_keep h5 h0 h1 hrg hbg ((((Upd.refl (fun q => q = g) wc).drew).alloc _).alloc _) | exact sent_keep h5 h0 h1 hrg hbg (HU56.out.alloc _ |>.mono (fun _ _ h => h.elim)))
            clear hK K hHeld
            have hHeld := hHeldN
            clear hHeldN
            try simp only [Act.put, List.setIfInBounds_toArray, List.set_cons_zero, List.set_cons_succ]
            refine wpAnyH_take (i := 18) (v := ?_) rfl (by kernel_rfl) (by kernel_rfl) (by kernel_rfl) (fun _ _ _ h => h) (Or.inl ⟨by rfl, ?_⟩) (by assumption) ?_
            rotate_left
            · ((intro w hSw; (try dsimp only at hSw); go_simp); try with_reducible rfl)
            try simp only [Act.put, List.setIfInBounds_toArray, List.set_cons_zero, List.set_cons_succ]
            refine wpAnyH_take (i := 19) (v := ?_) rfl (by kernel_rfl) (by kernel_rfl) (by kernel_rfl) (fun _ _ _ h => h) (Or.inl ⟨by rfl, ?_⟩) (by assumption) ?_
            rotate_left
            · ((intro w hSw; (try dsimp only at hSw); go_simp); try with_reducible rfl)
            try simp only [Act.put, List.setIfInBounds_toArray, List.set_cons_zero, List.set_cons_succ]
            refine wpAnyH_ready (rs := [20]) (by kernel_rfl) (by simp) ?_
            refine AllReadyH.cons rfl (fun K hK => ?_) ?_
            · go_simp
              refine hK.out _ _ ?_ (fun hHeldN => ?_)
              · (try dsimp only)
                (first | exact sent_keep h5 h0 h1 hrg hbg (HU59.out.mono (fun _ _ h => h.elim)) | exact sent_keep h5 h0 h1 hrg hbg (Upd.setCell (S := fun q => q = g) (HU59.out.mono (fun _ _ h => h.elim)) (p := ⟨g, k * 5 + 4, none⟩) (fun _ => rfl) _) | exact sent_keep h5 h0 h1 hrg hbg (HU56.out.mono (fun _ _ h => h.elim)) | exact sent_keep h5 h0 h1 hrg hbg ((Upd.refl (fun q => q = g) wc).drew) | exact sent_keep h5 h0 h1 hrg hbg (((Upd.refl (fun q => q = g) wc).drew).alloc _) | exact sent_keep h5 h0 h1 hrg hbg ((((Upd.refl (fun q => q = g) wc).drew).alloc _).alloc _) | exact sent_keep h5 h0 h1 hrg hbg (HU56.out.alloc _ |>.mono (fun _ _ h => h.elim)))
              clear hK K hHeld
              have hHeld := hHeldN
              clear hHeldN
              try simp only [Act.put, List.setIfInBounds_toArray, List.set_cons_zero, List.set_cons_succ]
              refine wpAnyH_done (by kernel_rfl) ?_ _
              refine NoPanic.normal ?_
              have hO := HO59.out
              rw [List.nil_append] at hO
              exact HQ.out _ _ _ _ _ _ _ _ _ _ _ _ _ _ _ _ _ _ _ _ g59 q59 w59 hO HU59.out
            exact AllReadyH.nil
          exact AllReadyH.nil
        exact AllReadyH.nil
      exact AllReadyH.nil
    refine AllReadyH.cons rfl (fun K hK => ?_) ?_
    · go_simp
      refine hK.out _ _ ?_ (fun hHeldN => ?_)
      · (try dsimp only)
        (first | exact sent_keep h5 h0 h1 hrg hbg (HU59.out.mono (fun _ _ h => h.elim)) | exact sent_keep h5 h0 h1 hrg hbg (Upd.setCell (S := fun q => q = g) (HU59.out.mono (fun _ _ h => h.elim)) (p := ⟨g, k * 5 + 4, none⟩) (fun _ => rfl) _) | exact sent_keep h5 h0 h1 hrg hbg (HU56.out.mono (fun _ _ h => h.elim)) | exact sent_keep h5 h0 h1 hrg hbg ((Upd.refl (fun q => q = g) wc).drew) | exact sent_keep h5 h0 h1 hrg hbg (((Upd.refl (fun q => q = g) wc).drew).alloc _) | exact sent_keep h5 h0 h1 hrg hbg ((((Upd.refl (fun q => q = g) wc).drew).alloc _).alloc _) | exact sent_keep h5 h0 h1 hrg hbg (HU56.out.alloc _ |>.mono (fun _ _ h => h.elim)))
      clear hK K hHeld
      have hHeld := hHeldN
      clear hHeldN
      try simp only [Act.put, List.setIfInBounds_toArray, List.set_cons_zero, List.set_cons_succ]
      refine wpAnyH_ready (rs := [13]) (by kernel_rfl) (by simp) ?_
      refine AllReadyH.cons rfl (fun K hK => ?_) ?_
      · go_simp
        refine hK.out _ _ ?_ (fun hHeldN => ?_)
        · (try dsimp only)
          (first | exact sent_keep h5 h0 h1 hrg hbg (HU59.out.mono (fun _ _ h => h.elim)) | exact sent_keep h5 h0 h1 hrg hbg (Upd.setCell (S := fun q => q = g) (HU59.out.mono (fun _ _ h => h.elim)) (p := ⟨g, k * 5 + 4, none⟩) (fun _ => rfl) _) | exact sent_keep h5 h0 h1 hrg hbg (HU56.out.mono (fun _ _ h => h.elim)) | exact sent_keep h5 h0 h1 hrg hbg ((Upd.refl (fun q => q = g) wc).drew) | exact sent_keep h5 h0 h1 hrg hbg (((Upd.refl (fun q => q = g) wc).drew).alloc _) | exact sent_keep h5 h0 h1 hrg hbg ((((Upd.refl (fun q => q = g) wc).drew).alloc _).alloc _) | exact sent_keep h5 h0 h1 hrg hbg (HU56.out.alloc _ |>.mono (fun _ _ h => h.elim)))
        clear hK K hHeld
        have hHeld := hHeldN
        clear hHeldN
        try simp only [Act.put, List.setIfInBounds_toArray, List.set_cons_zero, List.set_cons_succ]
        refine wpAnyH_ready (rs := [14]) (by kernel_rfl) (by simp) ?_
        refine AllReadyH.cons rfl (fun K hK => ?_) ?_
        · apply step_newD (wc := wc) (s := .tmp 140) (x := .tmp 148) (l := []) (ns := se) (n := 0) (k := se.length) (N := se.length)
          case hgd => rfl
          case ho => rfl
          case hs => rfl
          case hx => rfl
          case hU => first | exact ((Upd.refl _ wc).alloc _).drew | exact (((Upd.refl _ wc).alloc _).alloc _).drew | exact HU59.out | exact HU56.out | exact HU56.out.alloc _ | exact (HU56.out.alloc _).drew
          case hl => rfl
          case hk => rfl
          case hm => exact Nat.zero_add _
          case hb => omega
          case hO => exact OwnD.nil (by first | exact heap_alloc_at _ _ _ _ (by simp) | exact blk_drew (heap_alloc_at _ _ _ _ (by simp)) | exact blk_drew (Upd.blk ((Upd.refl (fun _ => False) _).alloc _) (heap_alloc_at _ _ _ _ (by simp)) (fun h => h))) (by simp)
          case hN => exact (SentAt.upd (S := fun _ => False) HSE.out (by first | exact ((Upd.refl _ wc).alloc _).drew | exact (((Upd.refl _ wc).alloc _).alloc _).drew | exact HU59.out | exact HU56.out | exact HU56.out.alloc _ | exact (HU56.out.alloc _).drew) (fun h => h)).news
          intro g56 q56 w56 hO56 hU56 hV56
          have HO56 := hid hO56
          have HU56 := hid hU56
          have HV56 := hid hV56
          clear hO56 hU56 hV56
          refine hK.out _ _ ?_ (fun hHeldN => ?_)
          · (try dsimp only)
            (first | exact sent_keep h5 h0 h1 hrg hbg (HU59.out.mono (fun _ _ h => h.elim)) | exact sent_keep h5 h0 h1 hrg hbg (Upd.setCell (S := fun q => q = g) (HU59.out.mono (fun _ _ h => h.elim)) (p := ⟨g, k * 5 + 4, none⟩) (fun _ => rfl) _) | exact sent_keep h5 h0 h1 hrg hbg (HU56.out.mono (fun _ _ h => h.elim)) | exact sent_keep h5 h0 h1 hrg hbg ((Upd.refl (fun q => q = g) wc).drew) | exact sent_keep h5 h0 h1 hrg hbg (((Upd.refl (fun q => q = g) wc).drew).alloc _) | exact sent_keep h5 h0 h1 hrg hbg ((((Upd.refl (fun q => q = g) wc).drew).alloc _).alloc _) | exact sent_keep h5 h0 h1 hrg hbg (HU56.out.alloc _ |>.mono (fun _ _ h => h.elim)))
          clear hK K hHeld
          have hHeld := hHeldN
          clear hHeldN
          try simp only [Act.put, List.setIfInBounds_toArray, List.set_cons_zero, List.set_cons_succ]
          refine wpAnyH_ready (rs := [17]) (by kernel_rfl) (by simp) ?_
          refine AllReadyH.cons rfl (fun K hK => ?_) ?_
          · apply step_newD (wc := wc) (s := .tmp 149) (x := .tmp 151) (l := [] ++ se) (ns := [⟨t1, t2⟩]) (n := se.length) (k := 1) (N := se.length + 1)
            case hgd => rfl
            case ho => rfl
            case hs => rfl
            case hx => rfl
            case hU => first | exact ((Upd.refl _ wc).alloc _).drew | exact (((Upd.refl _ wc).alloc _).alloc _).drew | exact HU59.out | exact HU56.out | exact HU56.out.alloc _ | exact (HU56.out.alloc _).drew
            case hl => rfl
            case hk => rfl
            case hm => rfl
            case hb => omega
            case hO => first | exact HO56.out | exact HO56.out.upd ((Upd.refl (fun _ => False) _).alloc _) (fun h => h) | exact HO56.out.upd ((Upd.refl (fun _ => False) _).alloc _).drew (fun h => h)
            case hN => first | exact newsD_one (a := ⟨t1, t2⟩) (by first | exact heap_alloc_at _ _ _ _ (by simp) | exact blk_drew (heap_alloc_at _ _ _ _ (by simp)) | exact blk_drew (Upd.blk ((Upd.refl (fun _ => False) _).alloc _) (heap_alloc_at _ _ _ _ (by simp)) (fun h => h))) | exact newsD_one (a := ⟨t1, t2⟩) (HV56.out.blk (by first | exact heap_alloc_at _ _ _ _ (by simp) | exact blk_drew (heap_alloc_at _ _ _ _ (by simp)) | exact blk_drew (Upd.blk ((Upd.refl (fun _ => False) _).alloc _) (heap_alloc_at _ _ _ _ (by simp)) (fun h => h))) (by simp))
            intro g59 q59 w59 hO59 hU59 hV59
            have HO59 := hid hO59
            have HU59 := hid hU59
            have HV59 := hid hV59
            clear hO59 hU59 hV59
            have gc := HU59.out.cell h4 (fun h => h)
            have gf := (HU59.out.frozen (p := ⟨g, k * 5 + 4, none⟩) hgl (fun h => h)).trans hfz
            refine hK.out _ _ ?_ (fun hHeldN => ?_)
            · (try dsimp only)
              (first | exact sent_keep h5 h0 h1 hrg hbg (HU59.out.mono (fun _ _ h => h.elim)) | exact sent_keep h5 h0 h1 hrg hbg (Upd.setCell (S := fun q => q = g) (HU59.out.mono (fun _ _ h => h.elim)) (p := ⟨g, k * 5 + 4, none⟩) (fun _ => rfl) _) | exact sent_keep h5 h0 h1 hrg hbg (HU56.out.mono (fun _ _ h => h.elim)) | exact sent_keep h5 h0 h1 hrg hbg ((Upd.refl (fun q => q = g) wc).drew) | exact sent_keep h5 h0 h1 hrg hbg (((Upd.refl (fun q => q = g) wc).drew).alloc _) | exact sent_keep h5 h0 h1 hrg hbg ((((Upd.refl (fun q => q = g) wc).drew).alloc _).alloc _) | exact sent_keep h5 h0 h1 hrg hbg (HU56.out.alloc _ |>.mono (fun _ _ h => h.elim)))
            clear hK K hHeld
            have hHeld := hHeldN
            clear hHeldN
            try simp only [Act.put, List.setIfInBounds_toArray, List.set_cons_zero, List.set_cons_succ]
            refine wpAnyH_take (i := 18) (v := ?_) rfl (by kernel_rfl) (by kernel_rfl) (by kernel_rfl) (fun _ _ _ h => h) (Or.inl ⟨by rfl, ?_⟩) (by assumption) ?_
            rotate_left
            · ((intro w hSw; (try dsimp only at hSw); go_simp); try with_reducible rfl)
            try simp only [Act.put, List.setIfInBounds_toArray, List.set_cons_zero, List.set_cons_succ]
            refine wpAnyH_take (i := 19) (v := ?_) rfl (by kernel_rfl) (by kernel_rfl) (by kernel_rfl) (fun _ _ _ h => h) (Or.inl ⟨by rfl, ?_⟩) (by assumption) ?_
            rotate_left
            · ((intro w hSw; (try dsimp only at hSw); go_simp); try with_reducible rfl)
            try simp only [Act.put, List.setIfInBounds_toArray, List.set_cons_zero, List.set_cons_succ]
            refine wpAnyH_ready (rs := [20]) (by kernel_rfl) (by simp) ?_
            refine AllReadyH.cons rfl (fun K hK => ?_) ?_
            · go_simp
              refine hK.out _ _ ?_ (fun hHeldN => ?_)
              · (try dsimp only)
                (first | exact sent_keep h5 h0 h1 hrg hbg (HU59.out.mono (fun _ _ h => h.elim)) | exact sent_keep h5 h0 h1 hrg hbg (Upd.setCell (S := fun q => q = g) (HU59.out.mono (fun _ _ h => h.elim)) (p := ⟨g, k * 5 + 4, none⟩) (fun _ => rfl) _) | exact sent_keep h5 h0 h1 hrg hbg (HU56.out.mono (fun _ _ h => h.elim)) | exact sent_keep h5 h0 h1 hrg hbg ((Upd.refl (fun q => q = g) wc).drew) | exact sent_keep h5 h0 h1 hrg hbg (((Upd.refl (fun q => q = g) wc).drew).alloc _) | exact sent_keep h5 h0 h1 hrg hbg ((((Upd.refl (fun q => q = g) wc).drew).alloc _).alloc _) | exact sent_keep h5 h0 h1 hrg hbg (HU56.out.alloc _ |>.mono (fun _ _ h => h.elim)))
              clear hK K hHeld
              have hHeld := hHeldN
              clear hHeldN
              try simp only [Act.put, List.setIfInBounds_toArray, List.set_cons_zero, List.set_cons_succ]
              refine wpAnyH_done (by kernel_rfl) ?_ _
              refine NoPanic.normal ?_
              have hO := HO59.out
              rw [List.nil_append] at hO
              exact HQ.out _ _ _ _ _ _ _ _ _ _ _ _ _ _ _ _ _ _ _ _ g59 q59 w59 hO HU59.out
            exact AllReadyH.nil
          exact AllReadyH.nil
        exact AllReadyH.nil
      exact AllReadyH.nil
    exact AllReadyH.nil
  refine AllReadyH.cons rfl (fun K hK => ?_) ?_
  · go_simp
    refine hK.out _ _ ?_ (fun hHeldN => ?_)
    · (try dsimp only)
      (first | exact sent_keep h5 h0 h1 hrg hbg (HU59.out.mono (fun _ _ h => h.elim)) | exact sent_keep h5 h0 h1 hrg hbg (Upd.setCell (S := fun q => q = g) (HU59.out.mono (fun _ _ h => h.elim)) (p := ⟨g, k * 5 + 4, none⟩) (fun _ => rfl) _) | exact sent_keep h5 h0 h1 hrg hbg (HU56.out.mono (fun _ _ h => h.elim)) | exact sent_keep h5 h0 h1 hrg hbg ((Upd.refl (fun q => q = g) wc).drew) | exact sent_keep h5 h0 h1 hrg hbg (((Upd.refl (fun q => q = g) wc).drew).alloc _) | exact sent_keep h5 h0 h1 hrg hbg ((((Upd.refl (fun q => q = g) wc).drew).alloc _).alloc _) | exact sent_keep h5 h0 h1 hrg hbg (HU56.out.alloc _ |>.mono (fun _ _ h => h.elim)))
    clear hK K hHeld
    have hHeld := hHeldN
    clear hHeldN
    try simp only [Act.put, List.setIfInBounds_toArray, List.set_cons_zero, List.set_cons_succ]
    refine wpAnyH_ready (rs := [5, 16]) (by kernel_rfl) (by simp) ?_
    refine AllReadyH.cons rfl (fun K hK => ?_) ?_
    · go_simp
      refine hK.out _ _ ?_ (fun hHeldN => ?_)
      · (try dsimp only)
        (first | exact sent_keep h5 h0 h1 hrg hbg (HU59.out.mono (fun _ _ h => h.elim)) | exact sent_keep h5 h0 h1 hrg hbg (Upd.setCell (S := fun q => q = g) (HU59.out.mono (fun _ _ h => h.elim)) (p := ⟨g, k * 5 + 4, none⟩) (fun _ => rfl) _) | exact sent_keep h5 h0 h1 hrg hbg (HU56.out.mono (fun _ _ h => h.elim)) | exact sent_keep h5 h0 h1 hrg hbg ((Upd.refl (fun q => q = g) wc).drew) | exact sent_keep h5 h0 h1 hrg hbg (((Upd.refl (fun q => q = g) wc).drew).alloc _) | exact sent_keep h5 h0 h1 hrg hbg ((((Upd.refl (fun q => q = g) wc).drew).alloc _).alloc _) | exact sent_keep h5 h0 h1 hrg hbg (HU56.out.alloc _ |>.mono (fun _ _ h => h.elim)))
      clear hK K hHeld
      have hHeld := hHeldN
      clear hHeldN
      try simp only [Act.put, List.setIfInBounds_toArray, List.set_cons_zero, List.set_cons_succ]
      refine wpAnyH_ready (rs := [14, 16]) (by kernel_rfl) (by simp) ?_
      refine AllReadyH.cons rfl (fun K hK => ?_) ?_
      · apply step_newD (wc := wc) (s := .tmp 140) (x := .tmp 148) (l := []) (ns := se) (n := 0) (k := se.length) (N := se.length)
        case hgd => rfl
        case ho => rfl
        case hs => rfl
        case hx => rfl
        case hU => first | exact ((Upd.refl _ wc).alloc _).drew | exact (((Upd.refl _ wc).alloc _).alloc _).drew | exact HU59.out | exact HU56.out | exact HU56.out.alloc _ | exact (HU56.out.alloc _).drew
        case hl => rfl
        case hk => rfl
        case hm => exact Nat.zero_add _
        case hb => omega
        case hO => exact OwnD.nil (by first | exact heap_alloc_at _ _ _ _ (by simp) | exact blk_drew (heap_alloc_at _ _ _ _ (by simp)) | exact blk_drew (Upd.blk ((Upd.refl (fun _ => False) _).alloc _) (heap_alloc_at _ _ _ _ (by simp)) (fun h => h))) (by simp)
        case hN => exact (SentAt.upd (S := fun _ => False) HSE.out (by first | exact ((Upd.refl _ wc).alloc _).drew | exact (((Upd.refl _ wc).alloc _).alloc _).drew | exact HU59.out | exact HU56.out | exact HU56.out.alloc _ | exact (HU56.out.alloc _).drew) (fun h => h)).news
        intro g56 q56 w56 hO56 hU56 hV56
        have HO56 := hid hO56
        have HU56 := hid hU56
        have HV56 := hid hV56
        clear hO56 hU56 hV56
        refine hK.out _ _ ?_ (fun hHeldN => ?_)
        · (try dsimp only)
          (first | exact sent_keep h5 h0 h1 hrg hbg (HU59.out.mono (fun _ _ h => h.elim)) | exact sent_keep h5 h0 h1 hrg hbg (Upd.setCell (S := fun q => q = g) (HU59.out.mono (fun _ _ h => h.elim)) (p := ⟨g, k * 5 + 4, none⟩) (fun _ => rfl) _) | exact sent_keep h5 h0 h1 hrg hbg (HU56.out.mono (fun _ _ h => h.elim)) | exact sent_keep h5 h0 h1 hrg hbg ((Upd.refl (fun q => q = g) wc).drew) | exact sent_keep h5 h0 h1 hrg hbg (((Upd.refl (fun q => q = g) wc).drew).alloc _) | exact sent_keep h5 h0 h1 hrg hbg ((((Upd.refl (fun q => q = g) wc).drew).alloc _).alloc _) | exact sent_keep h5 h0 h1 hrg hbg (HU56.out.alloc _ |>.mono (fun _ _ h => h.elim)))
        clear hK K hHeld
        have hHeld := hHeldN
        clear hHeldN
        try simp only [Act.put, List.setIfInBounds_toArray, List.set_cons_zero, List.set_cons_succ]
        refine wpAnyH_ready (rs := [16]) (by kernel_rfl) (by simp) ?_
        refine AllReadyH.cons rfl (fun K hK => ?_) ?_
        · go_simp
          refine hK.out _ _ ?_ (fun hHeldN => ?_)
          · (try dsimp only)
            (first | exact sent_keep h5 h0 h1 hrg hbg (HU59.out.mono (fun _ _ h => h.elim)) | exact sent_keep h5 h0 h1 hrg hbg (Upd.setCell (S := fun q => q = g) (HU59.out.mono (fun _ _ h => h.elim)) (p := ⟨g, k * 5 + 4, none⟩) (fun _ => rfl) _) | exact sent_keep h5 h0 h1 hrg hbg (HU56.out.mono (fun _ _ h => h.elim)) | exact sent_keep h5 h0 h1 hrg hbg ((Upd.refl (fun q => q = g) wc).drew) | exact sent_keep h5 h0 h1 hrg hbg (((Upd.refl (fun q => q = g) wc).drew).alloc _) | exact sent_keep h5 h0 h1 hrg hbg ((((Upd.refl (fun q => q = g) wc).drew).alloc _).alloc _) | exact sent_keep h5 h0 h1 hrg hbg (HU56.out.alloc _ |>.mono (fun _ _ h => h.elim)))
          clear hK K hHeld
          have hHeld := hHeldN
          clear hHeldN
          try simp only [Act.put, List.setIfInBounds_toArray, List.set_cons_zero, List.set_cons_succ]
          refine wpAnyH_ready (rs := [17]) (by kernel_rfl) (by simp) ?_
          refine AllReadyH.cons rfl (fun K hK => ?_) ?_
          · apply step_newD (wc := wc) (s := .tmp 149) (x := .tmp 151) (l := [] ++ se) (ns := [⟨t1, t2⟩]) (n := se.length) (k := 1) (N := se.length + 1)
            case hgd => rfl
            case ho => rfl
            case hs => rfl
            case hx => rfl
            case hU => first | exact ((Upd.refl _ wc).alloc _).drew | exact (((Upd.refl _ wc).alloc _).alloc _).drew | exact HU59.out | exact HU56.out | exact HU56.out.alloc _ | exact (HU56.out.alloc _).drew
            case hl => rfl
            case hk => rfl
            case hm => rfl
            case hb => omega
            case hO => first | exact HO56.out | exact HO56.out.upd ((Upd.refl (fun _ => False) _).alloc _) (fun h => h) | exact HO56.out.upd ((Upd.refl (fun _ => False) _).alloc _).drew (fun h => h)
            case hN => first | exact newsD_one (a := ⟨t1, t2⟩) (by first | exact heap_alloc_at _ _ _ _ (by simp) | exact blk_drew (heap_alloc_at _ _ _ _ (by simp)) | exact blk_drew (Upd.blk ((Upd.refl (fun _ => False) _).alloc _) (heap_alloc_at _ _ _ _ (by simp)) (fun h => h))) | exact newsD_one (a := ⟨t1, t2⟩) (HV56.out.blk (by first | exact heap_alloc_at _ _ _ _ (by simp) | exact blk_drew (heap_alloc_at _ _ _ _ (by simp)) | exact blk_drew (Upd.blk ((Upd.refl (fun _ => False) _).alloc _) (heap_alloc_at _ _ _ _ (by simp)) (fun h => h))) (by simp))
            intro g59 q59 w59 hO59 hU59 hV59
            have HO59 := hid hO59
            have HU59 := hid hU59
            have HV59 := hid hV59
            clear hO59 hU59 hV59
            have gc := HU59.out.cell h4 (fun h => h)
            have gf := (HU59.out.frozen (p := ⟨g, k * 5 + 4, none⟩) hgl (fun h => h)).trans hfz
            refine hK.out _ _ ?_ (fun hHeldN => ?_)
            · (try dsimp only)
              (first | exact sent_keep h5 h0 h1 hrg hbg (HU59.out.mono (fun _ _ h => h.elim)) | exact sent_keep h5 h0 h1 hrg hbg (Upd.setCell (S := fun q => q = g) (HU59.out.mono (fun _ _ h => h.elim)) (p := ⟨g, k * 5 + 4, none⟩) (fun _ => rfl) _) | exact sent_keep h5 h0 h1 hrg hbg (HU56.out.mono (fun _ _ h => h.elim)) | exact sent_keep h5 h0 h1 hrg hbg ((Upd.refl (fun q => q = g) wc).drew) | exact sent_keep h5 h0 h1 hrg hbg (((Upd.refl (fun q => q = g) wc).drew).alloc _) | exact sent_keep h5 h0 h1 hrg hbg ((((Upd.refl (fun q => q = g) wc).drew).alloc _).alloc _) | exact sent_keep h5 h0 h1 hrg hbg (HU56.out.alloc _ |>.mono (fun _ _ h => h.elim)))
            clear hK K hHeld
            have hHeld := hHeldN
            clear hHeldN
            try simp only [Act.put, List.setIfInBounds_toArray, List.set_cons_zero, List.set_cons_succ]
            refine wpAnyH_take (i := 18) (v := ?_) rfl (by kernel_rfl) (by kernel_rfl) (by kernel_rfl) (fun _ _ _ h => h) (Or.inl ⟨by rfl, ?_⟩) (by assumption) ?_
            rotate_left
            · ((intro w hSw; (try dsimp only at hSw); go_simp); try with_reducible rfl)
            try simp only [Act.put, List.setIfInBounds_toArray, List.set_cons_zero, List.set_cons_succ]
            refine wpAnyH_take (i := 19) (v := ?_) rfl (by kernel_rfl) (by kernel_rfl) (by kernel_rfl) (fun _ _ _ h => h) (Or.inl ⟨by rfl, ?_⟩) (by assumption) ?_
            rotate_left
            · ((intro w hSw; (try dsimp only at hSw); go_simp); try with_reducible rfl)
            try simp only [Act.put, List.setIfInBounds_toArray, List.set_cons_zero, List.set_cons_succ]
            refine wpAnyH_ready (rs := [20]) (by kernel_rfl) (by simp) ?_
            refine AllReadyH.cons rfl (fun K hK => ?_) ?_
            · go_simp
              refine hK.out _ _ ?_ (fun hHeldN => ?_)
              · (try dsimp only)
                (first | exact sent_keep h5 h0 h1 hrg hbg (HU59.out.mono (fun _ _ h => h.elim)) | exact sent_keep h5 h0 h1 hrg hbg (Upd.setCell (S := fun q => q = g) (HU59.out.mono (fun _ _ h => h.elim)) (p := ⟨g, k * 5 + 4, none⟩) (fun _ => rfl) _) | exact sent_keep h5 h0 h1 hrg hbg (HU56.out.mono (fun _ _ h => h.elim)) | exact sent_keep h5 h0 h1 hrg hbg ((Upd.refl (fun q => q = g) wc).drew) | exact sent_keep h5 h0 h1 hrg hbg (((Upd.refl (fun q => q = g) wc).drew).alloc _) | exact sent_keep h5 h0 h1 hrg hbg ((((Upd.refl (fun q => q = g) wc).drew).alloc _).alloc _) | exact sent_keep h5 h0 h1 hrg hbg (HU56.out.alloc _ |>.mono (fun _ _ h => h.elim)))
              clear hK K hHeld
              have hHeld := hHeldN
              clear hHeldN
              try simp only [Act.put, List.setIfInBounds_toArray, List.set_cons_zero, List.set_cons_succ]
              refine wpAnyH_done (by kernel_rfl) ?_ _
              refine NoPanic.normal ?_
              have hO := HO59.out
              rw [List.nil_append] at hO
              exact HQ.out _ _ _ _ _ _ _ _ _ _ _ _ _ _ _ _ _ _ _ _ g59 q59 w59 hO HU59.out
            exact AllReadyH.nil
          exact AllReadyH.nil
        exact AllReadyH.nil
      refine AllReadyH.cons rfl (fun K hK => ?_) ?_
      · go_simp
        refine hK.out _ _ ?_ (fun hHeldN => ?_)
        · (try dsimp only)
          (first | exact sent_keep h5 h0 h1 hrg hbg (HU59.out.mono (fun _ _ h => h.elim)) | exact sent_keep h5 h0 h1 hrg hbg (Upd.setCell (S := fun q => q = g) (HU59.out.mono (fun _ _ h => h.elim)) (p := ⟨g, k * 5 + 4, none⟩) (fun _ => rfl) _) | exact sent_keep h5 h0 h1 hrg hbg (HU56.out.mono (fun _ _ h => h.elim)) | exact sent_keep h5 h0 h1 hrg hbg ((Upd.refl (fun q => q = g) wc).drew) | exact sent_keep h5 h0 h1 hrg hbg (((Upd.refl (fun q => q = g) wc).drew).alloc _) | exact sent_keep h5 h0 h1 hrg hbg ((((Upd.refl (fun q => q = g) wc).drew).alloc _).alloc _) | exact sent_keep h5 h0 h1 hrg hbg (HU56.out.alloc _ |>.mono (fun _ _ h => h.elim)))
        clear hK K hHeld
        have hHeld := hHeldN
        clear hHeldN
        try simp only [Act.put, List.setIfInBounds_toArray, List.set_cons_zero, List.set_cons_succ]
        refine wpAnyH_ready (rs := [14]) (by kernel_rfl) (by simp) ?_
        refine AllReadyH.cons rfl (fun K hK => ?_) ?_
        · apply step_newD (wc := wc) (s := .tmp 140) (x := .tmp 148) (l := []) (ns := se) (n := 0) (k := se.length) (N := se.length)
          case hgd => rfl
          case ho => rfl
          case hs => rfl
          case hx => rfl
          case hU => first | exact ((Upd.refl _ wc).alloc _).drew | exact (((Upd.refl _ wc).alloc _).alloc _).drew | exact HU59.out | exact HU56.out | exact HU56.out.alloc _ | exact (HU56.out.alloc _).drew
          case hl => rfl
          case hk => rfl
          case hm => exact Nat.zero_add _
          case hb => omega
          case hO => exact OwnD.nil (by first | exact heap_alloc_at _ _ _ _ (by simp) | exact blk_drew (heap_alloc_at _ _ _ _ (by simp)) | exact blk_drew (Upd.blk ((Upd.refl (fun _ => False) _).alloc _) (heap_alloc_at _ _ _ _ (by simp)) (fun h => h))) (by simp)
          case hN => exact (SentAt.upd (S := fun _ => False) HSE.out (by first | exact ((Upd.refl _ wc).alloc _).drew | exact (((Upd.refl _ wc).alloc _).alloc _).drew | exact HU59.out | exact HU56.out | exact HU56.out.alloc _ | exact (HU56.out.alloc _).drew) (fun h => h)).news
          intro g56 q56 w56 hO56 hU56 hV56
          have HO56 := hid hO56
          have HU56 := hid hU56
          have HV56 := hid hV56
          clear hO56 hU56 hV56
          refine hK.out _ _ ?_ (fun hHeldN => ?_)
          · (try dsimp only)
            (first | exact sent_keep h5 h0 h1 hrg hbg (HU59.out.mono (fun _ _ h => h.elim)) | exact sent_keep h5 h0 h1 hrg hbg (Upd.setCell (S := fun q => q = g) (HU59.out.mono (fun _ _ h => h.elim)) (p := ⟨g, k * 5 + 4, none⟩) (fun _ => rfl) _) | exact sent_keep h5 h0 h1 hrg hbg (HU56.out.mono (fun _ _ h => h.elim)) | exact sent_keep h5 h0 h1 hrg hbg ((Upd.refl (fun q => q = g) wc).drew) | exact sent_keep h5 h0 h1 hrg hbg (((Upd.refl (fun q => q = g) wc).drew).alloc _) | exact sent_keep h5 h0 h1 hrg hbg ((((Upd.refl (fun q => q = g) wc).drew).alloc _).alloc _) | exact sent_keep h5 h0 h1 hrg hbg (HU56.out.alloc _ |>.mono (fun _ _ h => h.elim)))
          clear hK K hHeld
          have hHeld := hHeldN
          clear hHeldN
          try simp only [Act.put, List.setIfInBounds_toArray, List.set_cons_zero, List.set_cons_succ]
          refine wpAnyH_ready (rs := [17]) (by kernel_rfl) (by simp) ?_
          refine AllReadyH.cons rfl (fun K hK => ?_) ?_
          · apply step_newD (wc := wc) (s := .tmp 149) (x := .tmp 151) (l := [] ++ se) (ns := [⟨t1, t2⟩]) (n := se.length) (k := 1) (N := se.length + 1)
            case hgd => rfl
            case ho => rfl
            case hs => rfl
            case hx => rfl
            case hU => first | exact ((Upd.refl _ wc).alloc _).drew | exact (((Upd.refl _ wc).alloc _).alloc _).drew | exact HU59.out | exact HU56.out | exact HU56.out.alloc _ | exact (HU56.out.alloc _).drew
            case hl => rfl
            case hk => rfl
            case hm => rfl
            case hb => omega
            case hO => first | exact HO56.out | exact HO56.out.upd ((Upd.refl (fun _ => False) _).alloc _) (fun h => h) | exact HO56.out.upd ((Upd.refl (fun _ => False) _).alloc _).drew (fun h => h)
            case hN => first | exact newsD_one (a := ⟨t1, t2⟩) (by first | exact heap_alloc_at _ _ _ _ (by simp) | exact blk_drew (heap_alloc_at _ _ _ _ (by simp)) | exact blk_drew (Upd.blk ((Upd.refl (fun _ => False) _).alloc _) (heap_alloc_at _ _ _ _ (by simp)) (fun h => h))) | exact newsD_one (a := ⟨t1, t2⟩) (HV56.out.blk (by first | exact heap_alloc_at _ _ _ _ (by simp) | exact blk_drew (heap_alloc_at _ _ _ _ (by simp)) | exact blk_drew (Upd.blk ((Upd.refl (fun _ => False) _).alloc _) (heap_alloc_at _ _ _ _ (by simp)) (fun h => h))) (by simp))
            intro g59 q59 w59 hO59 hU59 hV59
            have HO59 := hid hO59
            have HU59 := hid hU59
            have HV59 := hid hV59
            clear hO59 hU59 hV59
            have gc := HU59.out.cell h4 (fun h => h)
            have gf := (HU59.out.frozen (p := ⟨g, k * 5 + 4, none⟩) hgl (fun h => h)).trans hfz
            refine hK.out _ _ ?_ (fun hHeldN => ?_)
            · (try dsimp only)
              (first | exact sent_keep h5 h0 h1 hrg hbg (HU59.out.mono (fun _ _ h => h.elim)) | exact sent_keep h5 h0 h1 hrg hbg (Upd.setCell (S := fun q => q = g) (HU59.out.mono (fun _ _ h => h.elim)) (p := ⟨g, k * 5 + 4, none⟩) (fun _ => rfl) _) | exact sent_keep h5 h0 h1 hrg hbg (HU56.out.mono (fun _ _ h => h.elim)) | exact sent_keep h5 h0 h1 hrg hbg ((Upd.refl (fun q => q = g) wc).drew) | exact sent_keep h5 h0 h1 hrg hbg (((Upd.refl (fun q => q = g) wc).drew).alloc _) | exact sent_keep h5 h0 h1 hrg hbg ((((Upd.refl (fun q => q = g) wc).drew).alloc _).alloc _) | exact sent_keep h5 h0 h1 hrg hbg (HU56.out.alloc _ |>.mono (fun _ _ h => h.elim)))
            clear hK K hHeld
            have hHeld := hHeldN
            clear hHeldN
            try simp only [Act.put, List.setIfInBounds_toArray, List.set_cons_zero, List.set_cons_succ]
            refine wpAnyH_take (i := 18) (v := ?_) rfl (by kernel_rfl) (by kernel_rfl) (by kernel_rfl) (fun _ _ _ h => h) (Or.inl ⟨by rfl, ?_⟩) (by assumption) ?_
            rotate_left
            · ((intro w hSw; (try dsimp only at hSw); go_simp); try with_reducible rfl)
            try simp only [Act.put, List.setIfInBounds_toArray, List.set_cons_zero, List.set_cons_succ]
            refine wpAnyH_take (i := 19) (v := ?_) rfl (by kernel_rfl) (by kernel_rfl) (by kernel_rfl) (fun _ _ _ h => h) (Or.inl ⟨by rfl, ?_⟩) (by assumption) ?_
            rotate_left
            · ((intro w hSw; (try dsimp only at hSw); go_simp); try with_reducible rfl)
            try simp only [Act.put, List.setIfInBounds_toArray, List.set_cons_zero, List.set_cons_succ]
            refine wpAnyH_ready (rs := [20]) (by kernel_rfl) (by simp) ?_
            refine AllReadyH.cons rfl (fun K hK => ?_) ?_
            · go_simp
              refine hK.out _ _ ?_ (fun hHeldN => ?_)
              · (try dsimp only)
                (first | exact sent_keep h5 h0 h1 hrg hbg (HU59.out.mono (fun _ _ h => h.elim)) | exact sent_keep h5 h0 h1 hrg hbg (Upd.setCell (S := fun q => q = g) (HU59.out.mono (fun _ _ h => h.elim)) (p := ⟨g, k * 5 + 4, none⟩) (fun _ => rfl) _) | exact sent_keep h5 h0 h1 hrg hbg (HU56.out.mono (fun _ _ h => h.elim)) | exact sent_keep h5 h0 h1 hrg hbg ((Upd.refl (fun q => q = g) wc).drew) | exact sent_keep h5 h0 h1 hrg hbg (((Upd.refl (fun q => q = g) wc).drew).alloc _) | exact sent_keep h5 h0 h1 hrg hbg ((((Upd.refl (fun q => q = g) wc).drew).alloc _).alloc _) | exact sent_keep h5 h0 h1 hrg hbg (HU56.out.alloc _ |>.mono (fun _ _ h => h.elim)))
              clear hK K hHeld
              have hHeld := hHeldN
              clear hHeldN
              try simp only [Act.put, List.setIfInBounds_toArray, List.set_cons_zero, List.set_cons_succ]
              refine wpAnyH_done (by kernel_rfl) ?_ _
              refine NoPanic.normal ?_
              have hO := HO59.out
              rw [List.nil_append] at hO
              exact HQ.out _ _ _ _ _ _ _ _ _ _ _ _ _ _ _ _ _ _ _ _ g59 q59 w59 hO HU59.out
            exact AllReadyH.nil
          exact AllReadyH.nil
        exact AllReadyH.nil
      exact AllReadyH.nil
    refine AllReadyH.cons rfl (fun K hK => ?_) ?_
    · go_simp
      refine hK.out _ _ ?_ (fun hHeldN => ?_)
      · (try dsimp only)
        (first | exact sent_keep h5 h0 h1 hrg hbg (HU59.out.mono (fun _ _ h => h.elim)) | exact sent_keep h5 h0 h1 hrg hbg (Upd.setCell (S := fun q => q = g) (HU59.out.mono (fun _ _ h => h.elim)) (p := ⟨g, k * 5 + 4, none⟩) (fun _ => rfl) _) | exact sent_keep h5 h0 h1 hrg hbg (HU56.out.mono (fun _ _ h => h.elim)) | exact sent_keep h5 h0 h1 hrg hbg ((Upd.refl (fun q => q = g) wc).drew) | exact sent_keep h5 h0 h1 hrg hbg (((Upd.refl (fun q => q = g) wc).drew).alloc _) | exact sent_keep h5 h0 h1 hrg hbg ((((Upd.refl (fun q => q = g) wc).drew).alloc _).alloc _) | exact sent_keep h5 h0 h1 hrg hbg (HU56.out.alloc _ |>.mono (fun _ _ h => h.elim)))
      clear hK K hHeld
      have hHeld := hHeldN
      clear hHeldN
      try simp only [Act.put, List.setIfInBounds_toArray, List.set_cons_zero, List.set_cons_succ]
      refine wpAnyH_ready (rs := [5]) (by kernel_rfl) (by simp) ?_
      refine AllReadyH.cons rfl (fun K hK => ?_) ?_
      · go_simp
        refine hK.out _ _ ?_ (fun hHeldN => ?_)
        · (try dsimp only)
          (first | exact sent_keep h5 h0 h1 hrg hbg (HU59.out.mono (fun _ _ h => h.elim)) | exact sent_keep h5 h0 h1 hrg hbg (Upd.setCell (S := fun q => q = g) (HU59.out.mono (fun _ _ h => h.elim)) (p := ⟨g, k * 5 + 4, none⟩) (fun _ => rfl) _) | exact sent_keep h5 h0 h1 hrg hbg (HU56.out.mono (fun _ _ h => h.elim)) | exact sent_keep h5 h0 h1 hrg hbg ((Upd.refl (fun q => q = g) wc).drew) | exact sent_keep h5 h0 h1 hrg hbg (((Upd.refl (fun q => q = g) wc).drew).alloc _) | exact sent_keep h5 h0 h1 hrg hbg ((((Upd.refl (fun q => q = g) wc).drew).alloc _).alloc _) | exact sent_keep h5 h0 h1 hrg hbg (HU56.out.alloc _ |>.mono (fun _ _ h => h.elim)))
        clear hK K hHeld
        have hHeld := hHeldN
        clear hHeldN
        try simp only [Act.put, List.setIfInBounds_toArray, List.set_cons_zero, List.set_cons_succ]
        refine wpAnyH_ready (rs := [14]) (by kernel_rfl) (by simp) ?_
        refine AllReadyH.cons rfl (fun K hK => ?_) ?_
        · apply step_newD (wc := wc) (s := .tmp 140) (x := .tmp 148) (l := []) (ns := se) (n := 0) (k := se.length) (N := se.length)
          case hgd => rfl
          case ho => rfl
          case hs => rfl
          case hx => rfl
          case hU => first | exact ((Upd.refl _ wc).alloc _).drew | exact (((Upd.refl _ wc).alloc _).alloc _).drew | exact HU59.out | exact HU56.out | exact HU56.out.alloc _ | exact (HU56.out.alloc _).drew
          case hl => rfl
          case hk => rfl
          case hm => exact Nat.zero_add _
          case hb => omega
          case hO => exact OwnD.nil (by first | exact heap_alloc_at _ _ _ _ (by simp) | exact blk_drew (heap_alloc_at _ _ _ _ (by simp)) | exact blk_drew (Upd.blk ((Upd.refl (fun _ => False) _).alloc _) (heap_alloc_at _ _ _ _ (by simp)) (fun h => h))) (by simp)
          case hN => exact (SentAt.upd (S := fun _ => False) HSE.out (by first | exact ((Upd.refl _ wc).alloc _).drew | exact (((Upd.refl _ wc).alloc _).alloc _).drew | exact HU59.out | exact HU56.out | exact HU56.out.alloc _ | exact (HU56.out.alloc _).drew) (fun h => h)).news
          intro g56 q56 w56 hO56 hU56 hV56
          have HO56 := hid hO56
          have HU56 := hid hU56
          have HV56 := hid hV56
          clear hO56 hU56 hV56
          refine hK.out _ _ ?_ (fun hHeldN => ?_)
          · (try dsimp only)
            (first | exact sent_keep h5 h0 h1 hrg hbg (HU59.out.mono (fun _ _ h => h.elim)) | exact sent_keep h5 h0 h1 hrg hbg (Upd.setCell (S := fun q => q = g) (HU59.out.mono (fun _ _ h => h.elim)) (p := ⟨g, k * 5 + 4, none⟩) (fun _ => rfl) _) | exact sent_keep h5 h0 h1 hrg hbg (HU56.out.mono (fun _ _ h => h.elim)) | exact sent_keep h5 h0 h1 hrg hbg ((Upd.refl (fun q => q = g) wc).drew) | exact sent_keep h5 h0 h1 hrg hbg (((Upd.refl (fun q => q = g) wc).drew).alloc _) | exact sent_keep h5 h0 h1 hrg hbg ((((Upd.refl (fun q => q = g) wc).drew).alloc _).alloc _) | exact sent_keep h5 h0 h1 hrg hbg (HU56.out.alloc _ |>.mono (fun _ _ h => h.elim)))
          clear hK K hHeld
          have hHeld := hHeldN
          clear hHeldN
          try simp only [Act.put, List.setIfInBounds_toArray, List.set_cons_zero, List.set_cons_succ]
          refine wpAnyH_ready (rs := [17]) (by kernel_rfl) (by simp) ?_
          refine AllReadyH.cons rfl (fun K hK => ?_) ?_
          · apply step_newD (wc := wc) (s := .tmp 149) (x := .tmp 151) (l := [] ++ se) (ns := [⟨t1, t2⟩]) (n := se.length) (k := 1) (N := se.length + 1)
            case hgd => rfl
            case ho => rfl
            case hs => rfl
            case hx => rfl
            case hU => first | exact ((Upd.refl _ wc).alloc _).drew | exact (((Upd.refl _ wc).alloc _).alloc _).drew | exact HU59.out | exact HU56.out | exact HU56.out.alloc _ | exact (HU56.out.alloc _).drew
            case hl => rfl
            case hk => rfl
            case hm => rfl
            case hb => omega
            case hO => first | exact HO56.out | exact HO56.out.upd ((Upd.refl (fun _ => False) _).alloc _) (fun h => h) | exact HO56.out.upd ((Upd.refl (fun _ => False) _).alloc _).drew (fun h => h)
            case hN => first | exact newsD_one (a := ⟨t1, t2⟩) (by first | exact heap_alloc_at _ _ _ _ (by simp) | exact blk_drew (heap_alloc_at _ _ _ _ (by simp)) | exact blk_drew (Upd.blk ((Upd.refl (fun _ => False) _).alloc _) (heap_alloc_at _ _ _ _ (by simp)) (fun h => h))) | exact newsD_one (a := ⟨t1, t2⟩) (HV56.out.blk (by first | exact heap_alloc_at _ _ _ _ (by simp) | exact blk_drew (heap_alloc_at _ _ _ _ (by simp)) | exact blk_drew (Upd.blk ((Upd.refl (fun _ => False) _).alloc _) (heap_alloc_at _ _ _ _ (by simp)) (fun h => h))) (by simp))
            intro g59 q59 w59 hO59 hU59 hV59
            have HO59 := hid hO59
            have HU59 := hid hU59
            have HV59 := hid hV59
            clear hO59 hU59 hV59
            have gc := HU59.out.cell h4 (fun h => h)
            have gf := (HU59.out.frozen (p := ⟨g, k * 5 + 4, none⟩) hgl (fun h => h)).trans hfz
            refine hK.out _ _ ?_ (fun hHeldN => ?_)
            · (try dsimp only)
              (first | exact sent_keep h5 h0 h1 hrg hbg (HU59.out.mono (fun _ _ h => h.elim)) | exact sent_keep h5 h0 h1 hrg hbg (Upd.setCell (S := fun q => q = g) (HU59.out.mono (fun _ _ h => h.elim)) (p := ⟨g, k * 5 + 4, none⟩) (fun _ => rfl) _) | exact sent_keep h5 h0 h1 hrg hbg (HU56.out.mono (fun _ _ h => h.elim)) | exact sent_keep h5 h0 h1 hrg hbg ((Upd.refl (fun q => q = g) wc).drew) | exact sent_keep h5 h0 h1 hrg hbg (((Upd.refl (fun q => q = g) wc).drew).alloc _) | exact sent_keep h5 h0 h1 hrg hbg ((((Upd.refl (fun q => q = g) wc).drew).alloc _).alloc _) | exact sent_keep h5 h0 h1 hrg hbg (HU56.out.alloc _ |>.mono (fun _ _ h => h.elim)))
            clear hK K hHeld
            have hHeld := hHeldN
            clear hHeldN
            try simp only [Act.put, List.setIfInBounds_toArray, List.set_cons_zero, List.set_cons_succ]
            refine wpAnyH_take (i := 18) (v := ?_) rfl (by kernel_rfl) (by kernel_rfl) (by kernel_rfl) (fun _ _ _ h => h) (Or.inl ⟨by rfl, ?_⟩) (by assumption) ?_
            rotate_left
            · ((intro w hSw; (try dsimp only at hSw); go_simp); try with_reducible rfl)
            try simp only [Act.put, List.setIfInBounds_toArray, List.set_cons_zero, List.set_cons_succ]
            refine wpAnyH_take (i := 19) (v := ?_) rfl (by kernel_rfl) (by kernel_rfl) (by kernel_rfl) (fun _ _ _ h => h) (Or.inl ⟨by rfl, ?_⟩) (by assumption) ?_
            rotate_left
            · ((intro w hSw; (try dsimp only at hSw); go_simp); try with_reducible rfl)
            try simp only [Act.put, List.setIfInBounds_toArray, List.set_cons_zero, List.set_cons_succ]
            refine wpAnyH_ready (rs := [20]) (by kernel_rfl) (by simp) ?_
            refine AllReadyH.cons rfl (fun K hK => ?_) ?_
            · go_simp
              refine hK.out _ _ ?_ (fun hHeldN => ?_)
              · (try dsimp only)
                (first | exact sent_keep h5 h0 h1 hrg hbg (HU59.out.mono (fun _ _ h => h.elim)) | exact sent_keep h5 h0 h1 hrg hbg (Upd.setCell (S := fun q => q = g) (HU59.out.mono (fun _ _ h => h.elim)) (p := ⟨g, k * 5 + 4, none⟩) (fun _ => rfl) _) | exact sent_keep h5 h0 h1 hrg hbg (HU56.out.mono (fun _ _ h => h.elim)) | exact sent_keep h5 h0 h1 hrg hbg ((Upd.refl (fun q => q = g) wc).drew) | exact sent_keep h5 h0 h1 hrg hbg (((Upd.refl (fun q => q = g) wc).drew).alloc _) | exact sent_keep h5 h0 h1 hrg hbg ((((Upd.refl (fun q => q = g) wc).drew).alloc _).alloc _) | exact sent_keep h5 h0 h1 hrg hbg (HU56.out.alloc _ |>.mono (fun _ _ h => h.elim)))
              clear hK K hHeld
              have hHeld := hHeldN
              clear hHeldN
              try simp only [Act.put, List.setIfInBounds_toArray, List.set_cons_zero, List.set_cons_succ]
              refine wpAnyH_done (by kernel_rfl) ?_ _
              refine NoPanic.normal ?_
              have hO := HO59.out
              rw [List.nil_append] at hO
              exact HQ.out _ _ _ _ _ _ _ _ _ _ _ _ _ _ _ _ _ _ _ _ g59 q59 w59 hO HU59.out
            exact AllReadyH.nil
          exact AllReadyH.nil
        exact AllReadyH.nil
      exact AllReadyH.nil
    exact AllReadyH.nil
  refine AllReadyH.cons rfl (fun K hK => ?_) ?_
  · go_simp
    refine hK.out _ _ ?_ (fun hHeldN => ?_)
    · (try dsimp only)
      (first | exact sent_keep h5 h0 h1 hrg hbg (HU59.out.mono (fun _ _ h => h.elim)) | exact sent_keep h5 h0 h1 hrg hbg (Upd.setCell (S := fun q => q = g) (HU59.out.mono (fun _ _ h => h.elim)) (p := ⟨g, k * 5 + 4, none⟩) (fun _ => rfl) _) | exact sent_keep h5 h0 h1 hrg hbg (HU56.out.mono (fun _ _ h => h.elim)) | exact sent_keep h5 h0 h1 hrg hbg ((Upd.refl (fun q => q = g) wc).drew) | exact sent_keep h5 h0 h1 hrg hbg (((Upd.refl (fun q => q = g) wc).drew).alloc _) | exact sent_keep h5 h0 h1 hrg hbg ((((Upd.refl (fun q => q = g) wc).drew).alloc _).alloc _) | exact sent_keep h5 h0 h1 hrg hbg (HU56.out.alloc _ |>.mono (fun _ _ h => h.elim)))
    clear hK K hHeld
    have hHeld := hHeldN
    clear hHeldN
    try simp only [Act.put, List.setIfInBounds_toArray, List.set_cons_zero, List.set_cons_succ]
    refine wpAnyH_ready (rs := [5, 13]) (by kernel_rfl) (by simp) ?_
    refine AllReadyH.cons rfl (fun K hK => ?_) ?_
    · go_simp
      refine hK.out _ _ ?_ (fun hHeldN => ?_)
      · (try dsimp only)
        (first | exact sent_keep h5 h0 h1 hrg hbg (HU59.out.mono (fun _ _ h => h.elim)) | exact sent_keep h5 h0 h1 hrg hbg (Upd.setCell (S := fun q => q = g) (HU59.out.mono (fun _ _ h => h.elim)) (p := ⟨g, k * 5 + 4, none⟩) (fun _ => rfl) _) | exact sent_keep h5 h0 h1 hrg hbg (HU56.out.mono (fun _ _ h => h.elim)) | exact sent_keep h5 h0 h1 hrg hbg ((Upd.refl (fun q => q = g) wc).drew) | exact sent_keep h5 h0 h1 hrg hbg (((Upd.refl (fun q => q = g) wc).drew).alloc _) | exact sent_keep h5 h0 h1 hrg hbg ((((Upd.refl (fun q => q = g) wc).drew).alloc _).alloc _) | exact sent_keep h5 h0 h1 hrg hbg (HU56.out.alloc _ |>.mono (fun _ _ h => h.elim)))
      clear hK K hHeld
      have hHeld := hHeldN
      clear hHeldN
      try simp only [Act.put, List.setIfInBounds_toArray, List.set_cons_zero, List.set_cons_succ]
      refine wpAnyH_ready (rs := [13]) (by kernel_rfl) (by simp) ?_
      refine AllReadyH.cons rfl (fun K hK => ?_) ?_
      · go_simp
        refine hK.out _ _ ?_ (fun hHeldN => ?_)
        · (try dsimp only)
          (first | exact sent_keep h5 h0 h1 hrg hbg (HU59.out.mono (fun _ _ h => h.elim)) | exact sent_keep h5 h0 h1 hrg hbg (Upd.setCell (S := fun q => q = g) (HU59.out.mono (fun _ _ h => h.elim)) (p := ⟨g, k * 5 + 4, none⟩) (fun _ => rfl) _) | exact sent_keep h5 h0 h1 hrg hbg (HU56.out.mono (fun _ _ h => h.elim)) | exact sent_keep h5 h0 h1 hrg hbg ((Upd.refl (fun q => q = g) wc).drew) | exact sent_keep h5 h0 h1 hrg hbg (((Upd.refl (fun q => q = g) wc).drew).alloc _) | exact sent_keep h5 h0 h1 hrg hbg ((((Upd.refl (fun q => q = g) wc).drew).alloc _).alloc _) | exact sent_keep h5 h0 h1 hrg hbg (HU56.out.alloc _ |>.mono (fun _ _ h => h.elim)))
        clear hK K hHeld
        have hHeld := hHeldN
        clear hHeldN
        try simp only [Act.put, List.setIfInBounds_toArray, List.set_cons_zero, List.set_cons_succ]
        refine wpAnyH_ready (rs := [14]) (by kernel_rfl) (by simp) ?_
        refine AllReadyH.cons rfl (fun K hK => ?_) ?_
        · apply step_newD (wc := wc) (s := .tmp 140) (x := .tmp 148) (l := []) (ns := se) (n := 0) (k := se.length) (N := se.length)
          case hgd => rfl
          case ho => rfl
          case hs => rfl
          case hx => rfl
          case hU => first | exact ((Upd.refl _ wc).alloc _).drew | exact (((Upd.refl _ wc).alloc _).alloc _).drew | exact HU59.out | exact HU56.out | exact HU56.out.alloc _ | exact (HU56.out.alloc _).drew
          case hl => rfl
          case hk => rfl
          case hm => exact Nat.zero_add _
          case hb => omega
          case hO => exact OwnD.nil (by first | exact heap_alloc_at _ _ _ _ (by simp) | exact blk_drew (heap_alloc_at _ _ _ _ (by simp)) | exact blk_drew (Upd.blk ((Upd.refl (fun _ => False) _).alloc _) (heap_alloc_at _ _ _ _ (by simp)) (fun h => h))) (by simp)
          case hN => exact (SentAt.upd (S := fun _ => False) HSE.out (by first | exact ((Upd.refl _ wc).alloc _).drew | exact (((Upd.refl _ wc).alloc _).alloc _).drew | exact HU59.out | exact HU56.out | exact HU56.out.alloc _ | exact (HU56.out.alloc _).drew) (fun h => h)).news
          intro g56 q56 w56 hO56 hU56 hV56
          have HO56 := hid hO56
          have HU56 := hid hU56
          have HV56 := hid hV56
          clear hO56 hU56 hV56
          refine hK.out _ _ ?_ (fun hHeldN => ?_)
          · (try dsimp only)
            (first | exact sent_keep h5 h0 h1 hrg hbg (HU59.out.mono (fun _ _ h => h.elim)) | exact sent_keep h5 h0 h1 hrg hbg (Upd.setCell (S := fun q => q = g) (HU59.out.mono (fun _ _ h => h.elim)) (p := ⟨g, k * 5 + 4, none⟩) (fun _ => rfl) _) | exact sent_keep h5 h0 h1 hrg hbg (HU56.out.mono (fun _ _ h => h.elim)) | exact sent_keep h5 h0 h1 hrg hbg ((Upd.refl (fun q => q = g) wc).drew) | exact sent_keep h5 h0 h1 hrg hbg (((Upd.refl (fun q => q = g) wc).drew).alloc _) | exact sent_keep h5 h0 h1 hrg hbg ((((Upd.refl (fun q => q = g) wc).drew).alloc _).alloc _) | exact sent_keep h5 h0 h1 hrg hbg (HU56.out.alloc _ |>.mono (fun _ _ h => h.elim)))
          clear hK K hHeld
          have hHeld := hHeldN
          clear hHeldN
          try simp only [Act.put, List.setIfInBounds_toArray, List.set_cons_zero, List.set_cons_succ]
          refine wpAnyH_ready (rs := [17]) (by kernel_rfl) (by simp) ?_
          refine AllReadyH.cons rfl (fun K hK => ?_) ?_
          · apply step_newD (wc := wc) (s := .tmp 149) (x := .tmp 151) (l := [] ++ se) (ns := [⟨t1, t2⟩]) (n := se.length) (k := 1) (N := se.length + 1)
            case hgd => rfl
            case ho => rfl
            case hs => rfl
            case hx => rfl
            case hU => first | exact ((Upd.refl _ wc).alloc _).drew | exact (((Upd.refl _ wc).alloc _).alloc _).drew | exact HU59.out | exact HU56.out | exact HU56.out.alloc _ | exact (HU56.out.alloc _).drew
            case hl => rfl
            case hk => rfl
            case hm => rfl
            case hb => omega
            case hO => first | exact HO56.out | exact HO56.out.upd ((Upd.refl (fun _ => False) _).alloc _) (fun h => h) | exact HO56.out.upd ((Upd.refl (fun _ => False) _).alloc _).drew (fun h => h)
            case hN => first | exact newsD_one (a := ⟨t1, t2⟩) (by first | exact heap_alloc_at _ _ _ _ (by simp) | exact blk_drew (heap_alloc_at _ _ _ _ (by simp)) | exact blk_drew (Upd.blk ((Upd.refl (fun _ => False) _).alloc _) (heap_alloc_at _ _ _ _ (by simp)) (fun h => h))) | exact newsD_one (a := ⟨t1, t2⟩) (HV56.out.blk (by first | exact heap_alloc_at _ _ _ _ (by simp) | exact blk_drew (heap_alloc_at _ _ _ _ (by simp)) | exact blk_drew (Upd.blk ((Upd.refl (fun _ => False) _).alloc _) (heap_alloc_at _ _ _ _ (by simp)) (fun h => h))) (by simp))
            intro g59 q59 w59 hO59 hU59 hV59
            have HO59 := hid hO59
            have HU59 := hid hU59
            have HV59 := hid hV59
            clear hO59 hU59 hV59
            have gc := HU59.out.cell h4 (fun h => h)
            have gf := (HU59.out.frozen (p := ⟨g, k * 5 + 4, none⟩) hgl (fun h => h)).trans hfz
            refine hK.out _ _ ?_ (fun hHeldN => ?_)
            · (try dsimp only)
              (first | exact sent_keep h5 h0 h1 hrg hbg (HU59.out.mono (fun _ _ h => h.elim)) | exact sent_keep h5 h0 h1 hrg hbg (Upd.setCell (S := fun q => q = g) (HU59.out.mono (fun _ _ h => h.elim)) (p := ⟨g, k * 5 + 4, none⟩) (fun _ => rfl) _) | exact sent_keep h5 h0 h1 hrg hbg (HU56.out.mono (fun _ _ h => h.elim)) | exact sent_keep h5 h0 h1 hrg hbg ((Upd.refl (fun q => q = g) wc).drew) | exact sent_keep h5 h0 h1 hrg hbg (((Upd.refl (fun q => q = g) wc).drew).alloc _) | exact sent_keep h5 h0 h1 hrg hbg ((((Upd.refl (fun q => q = g) wc).drew).alloc _).alloc _) | exact sent_keep h5 h0 h1 hrg hbg (HU56.out.alloc _ |>.mono (fun _ _ h => h.elim)))
            clear hK K hHeld
            have hHeld := hHeldN
            clear hHeldN
            try simp only [Act.put, List.setIfInBounds_toArray, List.set_cons_zero, List.set_cons_succ]
            refine wpAnyH_take (i := 18) (v := ?_) rfl (by kernel_rfl) (by kernel_rfl) (by kernel_rfl) (fun _ _ _ h => h) (Or.inl ⟨by rfl, ?_⟩) (by assumption) ?_
            rotate_left
            · ((intro w hSw; (try dsimp only at hSw); go_simp); try with_reducible rfl)
            try simp only [Act.put, List.setIfInBounds_toArray, List.set_cons_zero, List.set_cons_succ]
            refine wpAnyH_take (i := 19) (v := ?_) rfl (by kernel_rfl) (by kernel_rfl) (by kernel_rfl) (fun _ _ _ h => h) (Or.inl ⟨by rfl, ?_⟩) (by assumption) ?_
            rotate_left
            · ((intro w hSw; (try dsimp only at hSw); go_simp); try with_reducible rfl)
            try simp only [Act.put, List.setIfInBounds_toArray, List.set_cons_zero, List.set_cons_succ]
            refine wpAnyH_ready (rs := [20]) (by kernel_rfl) (by simp) ?_
            refine AllReadyH.cons rfl (fun K hK => ?_) ?_
            · go_simp
              refine hK.out _ _ ?_ (fun hHeldN => ?_)
              · (try dsimp only)
                (first | exact sent_keep h5 h0 h1 hrg hbg (HU59.out.mono (fun _ _ h => h.elim)) | exact sent_keep h5 h0 h1 hrg hbg (Upd.setCell (S := fun q => q = g) (HU59.out.mono (fun _ _ h => h.elim)) (p := ⟨g, k * 5 + 4, none⟩) (fun _ => rfl) _) | exact sent_keep h5 h0 h1 hrg hbg (HU56.out.mono (fun _ _ h => h.elim)) | exact sent_keep h5 h0 h1 hrg hbg ((Upd.refl (fun q => q = g) wc).drew) | exact sent_keep h5 h0 h1 hrg hbg (((Upd.refl (fun q => q = g) wc).drew).alloc _) | exact sent_keep h5 h0 h1 hrg hbg ((((Upd.refl (fun q => q = g) wc).drew).alloc _).alloc _) | exact sent_keep h5 h0 h1 hrg hbg (HU56.out.alloc _ |>.mono (fun _ _ h => h.elim)))
              clear hK K hHeld
              have hHeld := hHeldN
              clear hHeldN
              try simp only [Act.put, List.setIfInBounds_toArray, List.set_cons_zero, List.set_cons_succ]
              refine wpAnyH_done (by kernel_rfl) ?_ _
              refine NoPanic.normal ?_
              have hO := HO59.out
              rw [List.nil_append] at hO
              exact HQ.out _ _ _ _ _ _ _ _ _ _ _ _ _ _ _ _ _ _ _ _ g59 q59 w59 hO HU59.out
            exact AllReadyH.nil
          exact AllReadyH.nil
        exact AllReadyH.nil
      exact AllReadyH.nil
    refine AllReadyH.cons rfl (fun K hK => ?_) ?_
    · go_simp
      refine hK.out _ _ ?_ (fun hHeldN => ?_)
      · (try dsimp only)
        (first | exact sent_keep h5 h0 h1 hrg hbg (HU59.out.mono (fun _ _ h => h.elim)) | exact sent_keep h5 h0 h1 hrg hbg (Upd.setCell (S := fun q => q = g) (HU59.out.mono (fun _ _ h => h.elim)) (p := ⟨g, k * 5 + 4, none⟩) (fun _ => rfl) _) | exact sent_keep h5 h0 h1 hrg hbg (HU56.out.mono (fun _ _ h => h.elim)) | exact sent_keep h5 h0 h1 hrg hbg ((Upd.refl (fun q => q = g) wc).drew) | exact sent_keep h5 h0 h1 hrg hbg (((Upd.refl (fun q => q = g) wc).drew).alloc _) | exact sent_keep h5 h0 h1 hrg hbg ((((Upd.refl (fun q => q = g) wc).drew).alloc _).alloc _) | exact sent_keep h5 h0 h1 hrg hbg (HU56.out.alloc _ |>.mono (fun _ _ h => h.elim)))
      clear hK K hHeld
      have hHeld := hHeldN
      clear hHeldN
      try simp only [Act.put, List.setIfInBounds_toArray, List.set_cons_zero, List.set_cons_succ]
      refine wpAnyH_ready (rs := [5]) (by kernel_rfl) (by simp) ?_
      refine AllReadyH.cons rfl (fun K hK => ?_) ?_
      · go_simp
        refine hK.out _ _ ?_ (fun hHeldN => ?_)
        · (try dsimp only)
          (first | exact sent_keep h5 h0 h1 hrg hbg (HU59.out.mono (fun _ _ h => h.elim)) | exact sent_keep h5 h0 h1 hrg hbg (Upd.setCell (S := fun q => q = g) (HU59.out.mono (fun _ _ h => h.elim)) (p := ⟨g, k * 5 + 4, none⟩) (fun _ => rfl) _) | exact sent_keep h5 h0 h1 hrg hbg (HU56.out.mono (fun _ _ h => h.elim)) | exact sent_keep h5 h0 h1 hrg hbg ((Upd.refl (fun q => q = g) wc).drew) | exact sent_keep h5 h0 h1 hrg hbg (((Upd.refl (fun q => q = g) wc).drew).alloc _) | exact sent_keep h5 h0 h1 hrg hbg ((((Upd.refl (fun q => q = g) wc).drew).alloc _).alloc _) | exact sent_keep h5 h0 h1 hrg hbg (HU56.out.alloc _ |>.mono (fun _ _ h => h.elim)))
        clear hK K hHeld
        have hHeld := hHeldN
        clear hHeldN
        try simp only [Act.put, List.setIfInBounds_toArray, List.set_cons_zero, List.set_cons_succ]
        refine wpAnyH_ready (rs := [14]) (by kernel_rfl) (by simp) ?_
        refine AllReadyH.cons rfl (fun K hK => ?_) ?_
        · apply step_newD (wc := wc) (s := .tmp 140) (x := .tmp 148) (l := []) (ns := se) (n := 0) (k := se.length) (N := se.length)
          case hgd => rfl
          case ho => rfl
          case hs => rfl
          case hx => rfl
          case hU => first | exact ((Upd.refl _ wc).alloc _).drew | exact (((Upd.refl _ wc).alloc _).alloc _).drew | exact HU59.out | exact HU56.out | exact HU56.out.alloc _ | exact (HU56.out.alloc _).drew
          case hl => rfl
          case hk => rfl
          case hm => exact Nat.zero_add _
          case hb => omega
          case hO => exact OwnD.nil (by first | exact heap_alloc_at _ _ _ _ (by simp) | exact blk_drew (heap_alloc_at _ _ _ _ (by simp)) | exact blk_drew (Upd.blk ((Upd.refl (fun _ => False) _).alloc _) (heap_alloc_at _ _ _ _ (by simp)) (fun h => h))) (by simp)
          case hN => exact (SentAt.upd (S := fun _ => False) HSE.out (by first | exact ((Upd.refl _ wc).alloc _).drew | exact (((Upd.refl _ wc).alloc _).alloc _).drew | exact HU59.out | exact HU56.out | exact HU56.out.alloc _ | exact (HU56.out.alloc _).drew) (fun h => h)).news
          intro g56 q56 w56 hO56 hU56 hV56
          have HO56 := hid hO56
          have HU56 := hid hU56
          have HV56 := hid hV56
          clear hO56 hU56 hV56
          refine hK.out _ _ ?_ (fun hHeldN => ?_)
          · (try dsimp only)
            (first | exact sent_keep h5 h0 h1 hrg hbg (HU59.out.mono (fun _ _ h => h.elim)) | exact sent_keep h5 h0 h1 hrg hbg (Upd.setCell (S := fun q => q = g) (HU59.out.mono (fun _ _ h => h.elim)) (p := ⟨g, k * 5 + 4, none⟩) (fun _ => rfl) _) | exact sent_keep h5 h0 h1 hrg hbg (HU56.out.mono (fun _ _ h => h.elim)) | exact sent_keep h5 h0 h1 hrg hbg ((Upd.refl (fun q => q = g) wc).drew) | exact sent_keep h5 h0 h1 hrg hbg (((Upd.refl (fun q => q = g) wc).drew).alloc _) | exact sent_keep h5 h0 h1 hrg hbg ((((Upd.refl (fun q => q = g) wc).drew).alloc _).alloc _) | exact sent_keep h5 h0 h1 hrg hbg (HU56.out.alloc _ |>.mono (fun _ _ h => h.elim)))
          clear hK K hHeld
          have hHeld := hHeldN
          clear hHeldN
          try simp only [Act.put, List.setIfInBounds_toArray, List.set_cons_zero, List.set_cons_succ]
          refine wpAnyH_ready (rs := [17]) (by kernel_rfl) (by simp) ?_
          refine AllReadyH.cons rfl (fun K hK => ?_) ?_
          · apply step_newD (wc := wc) (s := .tmp 149) (x := .tmp 151) (l := [] ++ se) (ns := [⟨t1, t2⟩]) (n := se.length) (k := 1) (N := se.length + 1)
            case hgd => rfl
            case ho => rfl
            case hs => rfl
            case hx => rfl
            case hU => first | exact ((Upd.refl _ wc).alloc _).drew | exact (((Upd.refl _ wc).alloc _).alloc _).drew | exact HU59.out | exact HU56.out | exact HU56.out.alloc _ | exact (HU56.out.alloc _).drew
            case hl => rfl
            case hk => rfl
            case hm => rfl
            case hb => omega
            case hO => first | exact HO56.out | exact HO56.out.upd ((Upd.refl (fun _ => False) _).alloc _) (fun h => h) | exact HO56.out.upd ((Upd.refl (fun _ => False) _).alloc _).drew (fun h => h)
            case hN => first | exact newsD_one (a := ⟨t1, t2⟩) (by first | exact heap_alloc_at _ _ _ _ (by simp) | exact blk_drew (heap_alloc_at _ _ _ _ (by simp)) | exact blk_drew (Upd.blk ((Upd.refl (fun _ => False) _).alloc _) (heap_alloc_at _ _ _ _ (by simp)) (fun h => h))) | exact newsD_one (a := ⟨t1, t2⟩) (HV56.out.blk (by first | exact heap_alloc_at _ _ _ _ (by simp) | exact blk_drew (heap_alloc_at _ _ _ _ (by simp)) | exact blk_drew (Upd.blk ((Upd.refl (fun _ => False) _).alloc _) (heap_alloc_at _ _ _ _ (by simp)) (fun h => h))) (by simp))
            intro g59 q59 w59 hO59 hU59 hV59
            have HO59 := hid hO59
            have HU59 := hid hU59
            have HV59 := hid hV59
            clear hO59 hU59 hV59
            have gc := HU59.out.cell h4 (fun h => h)
            have gf := (HU59.out.frozen (p := ⟨g, k * 5 + 4, none⟩) hgl (fun h => h)).trans hfz
            refine hK.out _ _ ?_ (fun hHeldN => ?_)
            · (try dsimp only)
              (first | exact sent_keep h5 h0 h1 hrg hbg (HU59.out.mono (fun _ _ h => h.elim)) | exact sent_keep h5 h0 h1 hrg hbg (Upd.setCell (S := fun q => q = g) (HU59.out.mono (fun _ _ h => h.elim)) (p := ⟨g, k * 5 + 4, none⟩) (fun _ => rfl) _) | exact sent_keep h5 h0 h1 hrg hbg (HU56.out.mono (fun _ _ h => h.elim)) | exact sent_keep h5 h0 h1 hrg hbg ((Upd.refl (fun q => q = g) wc).drew) | exact sent_keep h5 h0 h1 hrg hbg (((Upd.refl (fun q => q = g) wc).drew).alloc _) | exact sent_keep h5 h0 h1 hrg hbg ((((Upd.refl (fun q => q = g) wc).drew).alloc _).alloc _) | exact sent_keep h5 h0 h1 hrg hbg (HU56.out.alloc _ |>.mono (fun _ _ h => h.elim)))
            clear hK K hHeld
            have hHeld := hHeldN
            clear hHeldN
            try simp only [Act.put, List.setIfInBounds_toArray, List.set_cons_zero, List.set_cons_succ]
            refine wpAnyH_take (i := 18) (v := ?_) rfl (by kernel_rfl) (by kernel_rfl) (by kernel_rfl) (fun _ _ _ h => h) (Or.inl ⟨by rfl, ?_⟩) (by assumption) ?_
            rotate_left
            · ((intro w hSw; (try dsimp only at hSw); go_simp); try with_reducible rfl)
            try simp only [Act.put, List.setIfInBounds_toArray, List.set_cons_zero, List.set_cons_succ]
            refine wpAnyH_take (i := 19) (v := ?_) rfl (by kernel_rfl) (by kernel_rfl) (by kernel_rfl) (fun _ _ _ h => h) (Or.inl ⟨by rfl, ?_⟩) (by assumption) ?_
            rotate_left
            · ((intro w hSw; (try dsimp only at hSw); go_simp); try with_reducible rfl)
            try simp only [Act.put, List.setIfInBounds_toArray, List.set_cons_zero, List.set_cons_succ]
            refine wpAnyH_ready (rs := [20]) (by kernel_rfl) (by simp) ?_
            refine AllReadyH.cons rfl (fun K hK => ?_) ?_
            · go_simp
              refine hK.out _ _ ?_ (fun hHeldN => ?_)
              · (try dsimp only)
                (first | exact sent_keep h5 h0 h1 hrg hbg (HU59.out.mono (fun _ _ h => h.elim)) | exact sent_keep h5 h0 h1 hrg hbg (Upd.setCell (S := fun q => q = g) (HU59.out.mono (fun _ _ h => h.elim)) (p := ⟨g, k * 5 + 4, none⟩) (fun _ => rfl) _) | exact sent_keep h5 h0 h1 hrg hbg (HU56.out.mono (fun _ _ h => h.elim)) | exact sent_keep h5 h0 h1 hrg hbg ((Upd.refl (fun q => q = g) wc).drew) | exact sent_keep h5 h0 h1 hrg hbg (((Upd.refl (fun q => q = g) wc).drew).alloc _) | exact sent_keep h5 h0 h1 hrg hbg ((((Upd.refl (fun q => q = g) wc).drew).alloc _).alloc _) | exact sent_keep h5 h0 h1 hrg hbg (HU56.out.alloc _ |>.mono (fun _ _ h => h.elim)))
              clear hK K hHeld
              have hHeld := hHeldN
              clear hHeldN
              try simp only [Act.put, List.setIfInBounds_toArray, List.set_cons_zero, List.set_cons_succ]
              refine wpAnyH_done (by kernel_rfl) ?_ _
              refine NoPanic.normal ?_
              have hO := HO59.out
              rw [List.nil_append] at hO
              exact HQ.out _ _ _ _ _ _ _ _ _ _ _ _ _ _ _ _ _ _ _ _ g59 q59 w59 hO HU59.out
            exact AllReadyH.nil
          exact AllReadyH.nil
        exact AllReadyH.nil
      exact AllReadyH.nil
    exact AllReadyH.nil
  exact AllReadyH.nil
end Go.Proofs.Ytbcchdnbfblooaa
