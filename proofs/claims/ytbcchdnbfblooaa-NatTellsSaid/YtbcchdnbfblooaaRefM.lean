/- The document's Out: a new entry is laid (no statement of the seat). -/
import Derived.Test.YtbcchdnbfblooaaRefL
namespace Go.Proofs.Ytbcchdnbfblooaa
open Go.RowKit
set_option linter.unusedSimpArgs false
set_option linter.unusedVariables false
noncomputable def reg15 : Code := ((Try.f20.body.bind (regAt 15)).getD .skip)
theorem step_appE {l : List RE} {n0 : Nat} {w : World} {ops : Array Oper} {o : Oper} {a : Act} {K : Act → World → Prop} {Q : Exit → Act → World → Prop} {E : Prop} (hgd : o.guard = none) (s x : Operand)
    (ho : o.op = .call { callee := .builtin .append, args := #[s, x], argTypes := #[47, 47] })
    (v : Value) (n c N : Nat) (z : RE) (b : Nat) (hs : a.eval s = v) (hx : a.eval x = .slice (some ⟨b, 0, none⟩) 1 c) (hl : l.length = n) (hO : w.ownsRow 0 73 5 v n (l.flatMap rent)) (hv : ∀ k, v.ownBlock = some k → n0 ≤ k) (hN : ∀ j u, (rent z)[j]? = some u → w.cell? ⟨b, j, none⟩ = some u)
    (hm : n + 1 = N) (hb : N ≤ 1000000) (hn0 : n0 ≤ w.heap.size)
    (h : ∀ g' cap' w', OwnE (l ++ [z]) n0 g' cap' w' → Upd (fun q => v.ownBlock = some q) w w' → (v.ownBlock = some g' ∨ w.heap.size ≤ g') → g' < w'.heap.size → K (a.put o.dst (.slice (some ⟨g', 0, none⟩) N cap')) w') :
    if Region.wanted o (yielded ops a.tmps) = true then Oper.wp Try.prog o a w K Q else E := by
  have hw : Region.wanted o (yielded ops a.tmps) = true := by simp [Region.wanted, hgd]
  rw [if_pos hw]
  exact wp_appE s x ho v n c N z b hs hl hO hv hx hN hm hb hn0 h
theorem new_keep {wc W : World} {r g b6 b7 : Nat} {f1 f2 t1 t2 : Int} (h60 : wc.cell? ⟨b6, 0, none⟩ = some (.int .u32 f1)) (h61 : wc.cell? ⟨b6, 1, none⟩ = some (.int .i64 f2)) (h70 : wc.cell? ⟨b7, 0, none⟩ = some (.int .u32 t1)) (h71 : wc.cell? ⟨b7, 1, none⟩ = some (.int .i64 t2))
    (hne : b6 ≠ r ∧ b6 ≠ g ∧ b7 ≠ r ∧ b7 ≠ g) (hu : Upd (fun q => q = r ∨ q = g) wc W) : W.cell? ⟨b6, 0, none⟩ = some (.int .u32 f1) ∧ W.cell? ⟨b6, 1, none⟩ = some (.int .i64 f2) ∧ W.cell? ⟨b7, 0, none⟩ = some (.int .u32 t1) ∧ W.cell? ⟨b7, 1, none⟩ = some (.int .i64 t2) :=
  ⟨hu.cell h60 (fun e => e.elim hne.1 hne.2.1), hu.cell h61 (fun e => e.elim hne.1 hne.2.1), hu.cell h70 (fun e => e.elim hne.2.2.1 hne.2.2.2), hu.cell h71 (fun e => e.elim hne.2.2.1 hne.2.2.2)⟩
set_option maxRecDepth 1000000 in
set_option maxHeartbeats 8000000 in
theorem reg15_any (Q : Exit → Act → World → Prop) (r b6 b7 g cap p : Nat) (c : Cfg) (M : List RE) (f1 f2 t1 t2 : Int) (wc : World) (HR : Hid (RefAt r c (some ⟨g, 0, none⟩) cap M wc)) (hM : M.length ≤ 64) (HP : Hid (freeP (M.map Prod.fst) = p)) (hne : b6 ≠ r ∧ b6 ≠ g ∧ b7 ≠ r ∧ b7 ≠ g) (hrg : r ≠ g) (hrl : r < wc.heap.size) (hgl : g < wc.heap.size)
    (h5 : wc.cell? ⟨r, 5, none⟩ = some (.slice (some ⟨g, 0, none⟩) M.length cap)) (hfz : wc.frozen? ⟨r, 5, none⟩ = false) (h60 : wc.cell? ⟨b6, 0, none⟩ = some (.int .u32 f1)) (h61 : wc.cell? ⟨b6, 1, none⟩ = some (.int .i64 f2)) (h70 : wc.cell? ⟨b7, 0, none⟩ = some (.int .u32 t1)) (h71 : wc.cell? ⟨b7, 1, none⟩ = some (.int .i64 t2))
    (u1 u2 u3 u4 u5 u8 u9 u10 u11 u12 u13 u14 u15 u16 u17 u18 u19 u20 u21 u22 u23 u24 u25 u26 u27 u28 u29 u30 u31 u32 u33 u34 u35 u36 u37 u38 u39 u40 u41 u42 u43 u44 u45 u46 u47 u48 u49 u50 u51 u52 u53 u54 u55 u56 u57 u58 u59 u60 u61 u62 u63 u64 u65 u66 u67 u68 u69 u70 u71 u72 u73 u74 u75 u76 u77 u78 u79 u80 u81 u82 u83 u84 u85 u86 u87 u88 u89 u90 u91 u92 u93 u94 u95 u96 u97 u98 u99 u100 u101 u102 u103 u104 u105 u106 u107 u108 u109 u110 u111 u112 u113 u114 u115 u116 u117 u118 u119 u120 u121 u122 u123 u124 u125 u126 u127 u128 u129 u130 u131 u132 u133 u134 u135 u136 u137 u138 u139 u140 u141 u142 u143 u144 u145 u146 u147 u148 u149 u150 u151 u152 u153 u154 u155 u156 u157 u158 u159 u160 u161 u162 u163 u164 u165 u166 u167 u168 u169 u170 u171 u172 u173 u174 u175 u176 : Value)
    (HQ : Hid (∀ (v96 v97 v98 v99 v100 v101 v102 v103 v104 v105 v106 v107 v108 v109 v110 : Value) (g3 q3 : Nat) (w3 : World), OwnE (M ++ [((⟨⟨f1, f2⟩, p, 0, [⟨t1, t2⟩]⟩, ⟨wc.heap.size, 1⟩) : RE)]) 0 g3 q3 w3 → Upd (fun q => q = g) wc w3 → (g3 = g ∨ wc.heap.size ≤ g3) → w3.heap[wc.heap.size]? = some (.cells #[.int .u32 t1, .int .i64 t2] 26 (0, 0)) → Q .normal ⟨(ptr r :: u1 :: u2 :: u3 :: u4 :: u5 :: ptr b6 :: ptr b7 :: u8 :: u9 :: u10 :: u11 :: u12 :: u13 :: u14 :: u15 :: u16 :: u17 :: u18 :: u19 :: u20 :: u21 :: u22 :: u23 :: u24 :: u25 :: u26 :: u27 :: u28 :: u29 :: u30 :: u31 :: u32 :: u33 :: u34 :: u35 :: u36 :: u37 :: u38 :: u39 :: u40 :: u41 :: u42 :: u43 :: u44 :: u45 :: u46 :: u47 :: u48 :: u49 :: u50 :: u51 :: u52 :: u53 :: u54 :: u55 :: u56 :: u57 :: u58 :: u59 :: u60 :: u61 :: u62 :: u63 :: u64 :: u65 :: u66 :: u67 :: u68 :: u69 :: u70 :: u71 :: u72 :: u73 :: u74 :: u75 :: u76 :: u77 :: u78 :: u79 :: u80 :: u81 :: u82 :: u83 :: u84 :: u85 :: u86 :: u87 :: u88 :: u89 :: u90 :: u91 :: u92 :: u93 :: u94 :: u95 :: v96 :: v97 :: v98 :: v99 :: v100 :: v101 :: v102 :: v103 :: v104 :: v105 :: v106 :: v107 :: v108 :: v109 :: v110 :: u111 :: u112 :: u113 :: u114 :: u115 :: u116 :: u117 :: u118 :: u119 :: u120 :: u121 :: u122 :: u123 :: u124 :: u125 :: u126 :: u127 :: u128 :: u129 :: u130 :: u131 :: u132 :: u133 :: u134 :: u135 :: u136 :: u137 :: u138 :: u139 :: u140 :: u141 :: u142 :: u143 :: u144 :: u145 :: u146 :: u147 :: u148 :: u149 :: u150 :: u151 :: u152 :: u153 :: u154 :: u155 :: u156 :: u157 :: u158 :: u159 :: u160 :: u161 :: u162 :: u163 :: u164 :: u165 :: u166 :: u167 :: u168 :: u169 :: u170 :: u171 :: u172 :: u173 :: u174 :: u175 :: u176 :: []).toArray, []⟩ (w3.setCell ⟨r, 5, none⟩ (.slice (some ⟨g3, 0, none⟩) (M.length + 1) q3)))) :
    Code.wp Try.prog reg15 Q ⟨(ptr r :: u1 :: u2 :: u3 :: u4 :: u5 :: ptr b6 :: ptr b7 :: u8 :: u9 :: u10 :: u11 :: u12 :: u13 :: u14 :: u15 :: u16 :: u17 :: u18 :: u19 :: u20 :: u21 :: u22 :: u23 :: u24 :: u25 :: u26 :: u27 :: u28 :: u29 :: u30 :: u31 :: u32 :: u33 :: u34 :: u35 :: u36 :: u37 :: u38 :: u39 :: u40 :: u41 :: u42 :: u43 :: u44 :: u45 :: u46 :: u47 :: u48 :: u49 :: u50 :: u51 :: u52 :: u53 :: u54 :: u55 :: u56 :: u57 :: u58 :: u59 :: u60 :: u61 :: u62 :: u63 :: u64 :: u65 :: u66 :: u67 :: u68 :: u69 :: u70 :: u71 :: u72 :: u73 :: u74 :: u75 :: u76 :: u77 :: u78 :: u79 :: u80 :: u81 :: u82 :: u83 :: u84 :: u85 :: u86 :: u87 :: u88 :: u89 :: u90 :: u91 :: u92 :: u93 :: u94 :: u95 :: u96 :: u97 :: u98 :: u99 :: u100 :: u101 :: u102 :: u103 :: u104 :: u105 :: u106 :: u107 :: u108 :: u109 :: u110 :: u111 :: u112 :: u113 :: u114 :: u115 :: u116 :: u117 :: u118 :: u119 :: u120 :: u121 :: u122 :: u123 :: u124 :: u125 :: u126 :: u127 :: u128 :: u129 :: u130 :: u131 :: u132 :: u133 :: u134 :: u135 :: u136 :: u137 :: u138 :: u139 :: u140 :: u141 :: u142 :: u143 :: u144 :: u145 :: u146 :: u147 :: u148 :: u149 :: u150 :: u151 :: u152 :: u153 :: u154 :: u155 :: u156 :: u157 :: u158 :: u159 :: u160 :: u161 :: u162 :: u163 :: u164 :: u165 :: u166 :: u167 :: u168 :: u169 :: u170 :: u171 :: u172 :: u173 :: u174 :: u175 :: u176 :: []).toArray, []⟩ wc := by
  conv => arg 2; whnf
  refine wp_region_noPanic ?_
  refine wp_region_held_drew (S := (fun W => W.cell? ⟨b6, 0, none⟩ = some (.int .u32 f1) ∧ W.cell? ⟨b6, 1, none⟩ = some (.int .i64 f2) ∧ W.cell? ⟨b7, 0, none⟩ = some (.int .u32 t1) ∧ W.cell? ⟨b7, 1, none⟩ = some (.int .i64 t2))) (by kernel_rfl) ?_ (fun hHeld => ?_)
  · (try dsimp only)
    exact new_keep (r := r) (g := g) h60 h61 h70 h71 hne ((Upd.refl _ wc).drew)
  refine wpAnyH_take (i := 0) (v := ?_) rfl (by kernel_rfl) (by kernel_rfl) (by kernel_rfl) (fun _ _ _ h => h) (Or.inl ⟨by rfl, ?_⟩) (by assumption) ?_
  rotate_left
  · ((intro w hSw; (try dsimp only at hSw); go_simp); try with_reducible rfl)
  try simp only [Act.put, List.setIfInBounds_toArray, List.set_cons_zero, List.set_cons_succ]
  refine wpAnyH_take (i := 1) (v := ?_) rfl (by kernel_rfl) (by kernel_rfl) (by kernel_rfl) (fun _ _ _ h => h) (Or.inl ⟨by rfl, ?_⟩) (by assumption) ?_
  rotate_left
  · ((intro w hSw; (try dsimp only at hSw); go_simp); try with_reducible rfl)
  try simp only [Act.put, List.setIfInBounds_toArray, List.set_cons_zero, List.set_cons_succ]
  refine wpAnyH_take (i := 2) (v := ?_) rfl (by kernel_rfl) (by kernel_rfl) (by kernel_rfl) (fun _ _ _ h => h) (Or.inl ⟨by rfl, ?_⟩) (by assumption) ?_
  rotate_left
  · ((intro w hSw; (try dsimp only at hSw); go_simp); try with_reducible rfl)
  try simp only [Act.put, List.setIfInBounds_toArray, List.set_cons_zero, List.set_cons_succ]
  refine wpAnyH_take (i := 3) (v := ?_) rfl (by kernel_rfl) (by kernel_rfl) (by kernel_rfl) (fun _ _ _ h => h) (Or.inl ⟨by rfl, ?_⟩) (by assumption) ?_
  rotate_left
  · ((intro w hSw; (try dsimp only at hSw); go_simp); try with_reducible rfl)
  try simp only [Act.put, List.setIfInBounds_toArray, List.set_cons_zero, List.set_cons_succ]
  refine wpAnyH_take (i := 5) (v := ?_) rfl (by kernel_rfl) (by kernel_rfl) (by kernel_rfl) (fun _ _ _ h => h) (Or.inl ⟨by rfl, ?_⟩) (by assumption) ?_
  rotate_left
  · ((intro w hSw; (try dsimp only at hSw); go_simp); try with_reducible rfl)
  try simp only [Act.put, List.setIfInBounds_toArray, List.set_cons_zero, List.set_cons_succ]
  refine wpAnyH_take (i := 6) (v := ?_) rfl (by kernel_rfl) (by kernel_rfl) (by kernel_rfl) (fun _ _ _ h => h) (Or.inl ⟨by rfl, ?_⟩) (by assumption) ?_
  rotate_left
  · ((intro w hSw; (try dsimp only at hSw); go_simp); try with_reducible rfl)
  try simp only [Act.put, List.setIfInBounds_toArray, List.set_cons_zero, List.set_cons_succ]
  refine wpAnyH_take (i := 8) (v := ?_) rfl (by kernel_rfl) (by kernel_rfl) (by kernel_rfl) (fun _ _ _ h => h) (Or.inl ⟨by rfl, ?_⟩) (by assumption) ?_
  rotate_left
  · ((intro w hSw; (try dsimp only at hSw); go_simp); try with_reducible rfl)
  try simp only [Act.put, List.setIfInBounds_toArray, List.set_cons_zero, List.set_cons_succ]
  refine wpAnyH_ready (rs := [4, 7, 9]) (by kernel_rfl) (by simp) ?_
  refine AllReadyH.cons rfl (fun K hK => ?_) ?_
  · go_simp
    refine hK.out _ _ ?_ (fun hHeldN => ?_)
    · (try dsimp only)
      (first | exact new_keep (r := r) (g := g) h60 h61 h70 h71 hne (HU12.out.mono (fun _ _ h => .inr h)) | exact new_keep (r := r) (g := g) h60 h61 h70 h71 hne (Upd.setCell (S := fun q => q = r ∨ q = g) (HU12.out.mono (fun _ _ h => .inr h)) (p := ⟨r, 5, none⟩) (fun _ => .inl rfl) _) | exact new_keep (r := r) (g := g) h60 h61 h70 h71 hne ((Upd.refl _ wc).drew) | exact new_keep (r := r) (g := g) h60 h61 h70 h71 hne (((Upd.refl _ wc).alloc _).drew) | exact new_keep (r := r) (g := g) h60 h61 h70 h71 hne ((((Upd.refl _ wc).alloc _).alloc _).drew) | exact new_keep (r := r) (g := g) h60 h61 h70 h71 hne ((Upd.refl _ wc).alloc _) | exact new_keep (r := r) (g := g) h60 h61 h70 h71 hne (((Upd.refl _ wc).alloc _).alloc _))
    clear hK K hHeld
    have hHeld := hHeldN
    clear hHeldN
    try simp only [Act.put, List.setIfInBounds_toArray, List.set_cons_zero, List.set_cons_succ]
    refine wpAnyH_ready (rs := [7, 9]) (by kernel_rfl) (by simp) ?_
    refine AllReadyH.cons rfl (fun K hK => ?_) ?_
    · go_simp
      go_at_call 31
      refine (port31_any r c (some ⟨g, 0, none⟩) cap M _ (HR.out.still (by first | exact (Upd.refl _ wc).drew | exact ((Upd.refl _ wc).alloc _).drew | exact (((Upd.refl _ wc).alloc _).alloc _).drew)) hM).mono ?_
      rintro e w' ⟨rfl, rfl⟩
      rw [HP.out]
      try go_wp2_with fail
      refine hK.out _ _ ?_ (fun hHeldN => ?_)
      · (try dsimp only)
        (first | exact new_keep (r := r) (g := g) h60 h61 h70 h71 hne (HU12.out.mono (fun _ _ h => .inr h)) | exact new_keep (r := r) (g := g) h60 h61 h70 h71 hne (Upd.setCell (S := fun q => q = r ∨ q = g) (HU12.out.mono (fun _ _ h => .inr h)) (p := ⟨r, 5, none⟩) (fun _ => .inl rfl) _) | exact new_keep (r := r) (g := g) h60 h61 h70 h71 hne ((Upd.refl _ wc).drew) | exact new_keep (r := r) (g := g) h60 h61 h70 h71 hne (((Upd.refl _ wc).alloc _).drew) | exact new_keep (r := r) (g := g) h60 h61 h70 h71 hne ((((Upd.refl _ wc).alloc _).alloc _).drew) | exact new_keep (r := r) (g := g) h60 h61 h70 h71 hne ((Upd.refl _ wc).alloc _) | exact new_keep (r := r) (g := g) h60 h61 h70 h71 hne (((Upd.refl _ wc).alloc _).alloc _))
      clear hK K hHeld
      have hHeld := hHeldN
      clear hHeldN
      try simp only [Act.put, List.setIfInBounds_toArray, List.set_cons_zero, List.set_cons_succ]
      refine wpAnyH_ready (rs := [9]) (by kernel_rfl) (by simp) ?_
      refine AllReadyH.cons rfl (fun K hK => ?_) ?_
      · go_simp
        refine hK.out _ _ ?_ (fun hHeldN => ?_)
        · (try dsimp only)
          (first | exact new_keep (r := r) (g := g) h60 h61 h70 h71 hne (HU12.out.mono (fun _ _ h => .inr h)) | exact new_keep (r := r) (g := g) h60 h61 h70 h71 hne (Upd.setCell (S := fun q => q = r ∨ q = g) (HU12.out.mono (fun _ _ h => .inr h)) (p := ⟨r, 5, none⟩) (fun _ => .inl rfl) _) | exact new_keep (r := r) (g := g) h60 h61 h70 h71 hne ((Upd.refl _ wc).drew) | exact new_keep (r := r) (g := g) h60 h61 h70 h71 hne (((Upd.refl _ wc).alloc _).drew) | exact new_keep (r := r) (g := g) h60 h61 h70 h71 hne ((((Upd.refl _ wc).alloc _).alloc _).drew) | exact new_keep (r := r) (g := g) h60 h61 h70 h71 hne ((Upd.refl _ wc).alloc _) | exact new_keep (r := r) (g := g) h60 h61 h70 h71 hne (((Upd.refl _ wc).alloc _).alloc _))
        clear hK K hHeld
        have hHeld := hHeldN
        clear hHeldN
        try simp only [Act.put, List.setIfInBounds_toArray, List.set_cons_zero, List.set_cons_succ]
        refine wpAnyH_take (i := 10) (v := ?_) rfl (by kernel_rfl) (by kernel_rfl) (by kernel_rfl) (fun _ _ _ h => h) (Or.inl ⟨by rfl, ?_⟩) (by assumption) ?_
        rotate_left
        · ((intro w hSw; (try dsimp only at hSw); go_simp); try with_reducible rfl)
        try simp only [Act.put, List.setIfInBounds_toArray, List.set_cons_zero, List.set_cons_succ]
        refine wpAnyH_ready (rs := [11]) (by kernel_rfl) (by simp) ?_
        refine AllReadyH.cons rfl (fun K hK => ?_) ?_
        · go_simp
          refine hK.out _ _ ?_ (fun hHeldN => ?_)
          · (try dsimp only)
            (first | exact new_keep (r := r) (g := g) h60 h61 h70 h71 hne (HU12.out.mono (fun _ _ h => .inr h)) | exact new_keep (r := r) (g := g) h60 h61 h70 h71 hne (Upd.setCell (S := fun q => q = r ∨ q = g) (HU12.out.mono (fun _ _ h => .inr h)) (p := ⟨r, 5, none⟩) (fun _ => .inl rfl) _) | exact new_keep (r := r) (g := g) h60 h61 h70 h71 hne ((Upd.refl _ wc).drew) | exact new_keep (r := r) (g := g) h60 h61 h70 h71 hne (((Upd.refl _ wc).alloc _).drew) | exact new_keep (r := r) (g := g) h60 h61 h70 h71 hne ((((Upd.refl _ wc).alloc _).alloc _).drew) | exact new_keep (r := r) (g := g) h60 h61 h70 h71 hne ((Upd.refl _ wc).alloc _) | exact new_keep (r := r) (g := g) h60 h61 h70 h71 hne (((Upd.refl _ wc).alloc _).alloc _))
          clear hK K hHeld
          have hHeld := hHeldN
          clear hHeldN
          try simp only [Act.put, List.setIfInBounds_toArray, List.set_cons_zero, List.set_cons_succ]
          refine wpAnyH_ready (rs := [12]) (by kernel_rfl) (by simp) ?_
          refine AllReadyH.cons rfl (fun K hK => ?_) ?_
          · apply step_appE (s := .tmp 100) (x := .tmp 107) (v := .slice (some ⟨g, 0, none⟩) M.length cap) (l := M) (n0 := 0) (n := M.length) (N := M.length + 1) (z := ((⟨⟨f1, f2⟩, p, 0, [⟨t1, t2⟩]⟩, ⟨wc.heap.size, 1⟩) : RE))
            case hgd => rfl
            case ho => rfl
            case hs => rfl
            case hx => rfl
            case hl => rfl
            case hO => exact (HR.out.still (by first | exact (Upd.refl _ wc).drew | exact ((Upd.refl _ wc).alloc _).drew | exact (((Upd.refl _ wc).alloc _).alloc _).drew)).row
            case hv => exact fun k hk => Nat.zero_le _
            case hN => exact blk_news (by first | exact heap_alloc_at _ _ _ _ (by simp) | exact blk_drew (heap_alloc_at _ _ _ _ (by simp)) | exact blk_drew (Upd.blk ((Upd.refl (fun _ => False) _).alloc _) (heap_alloc_at _ _ _ _ (by simp)) (fun h => h)) | exact Upd.blk ((Upd.refl (fun _ => False) _).alloc _) (heap_alloc_at _ _ _ _ (by simp)) (fun h => h)) rfl
            case hm => rfl
            case hb => omega
            case hn0 => exact Nat.zero_le _
            intro g12 q12 w12 hO12 hU12 hor12 hlt12
            have HO12 := hid hO12
            have HV12 : Hid (w12.heap[wc.heap.size]? = some (.cells #[.int .u32 t1, .int .i64 t2] 26 (0, 0))) := hid (hU12.blk (by first | exact heap_alloc_at _ _ _ _ (by simp) | exact blk_drew (heap_alloc_at _ _ _ _ (by simp)) | exact blk_drew (Upd.blk ((Upd.refl (fun _ => False) _).alloc _) (heap_alloc_at _ _ _ _ (by simp)) (fun h => h)) | exact Upd.blk ((Upd.refl (fun _ => False) _).alloc _) (heap_alloc_at _ _ _ _ (by simp)) (fun h => h)) (fun e => by have h := ownBlk e; omega))
            have HU12 : Hid (Upd (fun q => q = g) wc w12) := hid ((sub_upd (r := g) (by first | exact (Upd.refl _ wc).drew | exact ((Upd.refl _ wc).alloc _).drew | exact (((Upd.refl _ wc).alloc _).alloc _).drew)).then_ hU12 (fun q hq e => ownBlk e))
            have HG12 : Hid (g12 = g ∨ wc.heap.size ≤ g12) := hid (hor12.elim (fun h => .inl (ownBlk h)) (fun h => .inr (Nat.le_trans (Upd.size (S := fun _ => False) (w := wc) (by first | exact (Upd.refl _ wc).drew | exact ((Upd.refl _ wc).alloc _).drew | exact (((Upd.refl _ wc).alloc _).alloc _).drew)) h)))
            have gc := HU12.out.cell h5 hrg
            have gf := (HU12.out.frozen (p := ⟨r, 5, none⟩) hrl hrg).trans hfz
            clear hO12 hU12 hor12 hlt12
            refine hK.out _ _ ?_ (fun hHeldN => ?_)
            · (try dsimp only)
              (first | exact new_keep (r := r) (g := g) h60 h61 h70 h71 hne (HU12.out.mono (fun _ _ h => .inr h)) | exact new_keep (r := r) (g := g) h60 h61 h70 h71 hne (Upd.setCell (S := fun q => q = r ∨ q = g) (HU12.out.mono (fun _ _ h => .inr h)) (p := ⟨r, 5, none⟩) (fun _ => .inl rfl) _) | exact new_keep (r := r) (g := g) h60 h61 h70 h71 hne ((Upd.refl _ wc).drew) | exact new_keep (r := r) (g := g) h60 h61 h70 h71 hne (((Upd.refl _ wc).alloc _).drew) | exact new_keep (r := r) (g := g) h60 h61 h70 h71 hne ((((Upd.refl _ wc).alloc _).alloc _).drew) | exact new_keep (r := r) (g := g) h60 h61 h70 h71 hne ((Upd.refl _ wc).alloc _) | exact new_keep (r := r) (g := g) h60 h61 h70 h71 hne (((Upd.refl _ wc).alloc _).alloc _))
            clear hK K hHeld
            have hHeld := hHeldN
            clear hHeldN
            try simp only [Act.put, List.setIfInBounds_toArray, List.set_cons_zero, List.set_cons_succ]
            refine wpAnyH_take (i := 13) (v := ?_) rfl (by kernel_rfl) (by kernel_rfl) (by kernel_rfl) (fun _ _ _ h => h) (Or.inl ⟨by rfl, ?_⟩) (by assumption) ?_
            rotate_left
            · ((intro w hSw; (try dsimp only at hSw); go_simp); try with_reducible rfl)
            try simp only [Act.put, List.setIfInBounds_toArray, List.set_cons_zero, List.set_cons_succ]
            refine wpAnyH_take (i := 14) (v := ?_) rfl (by kernel_rfl) (by kernel_rfl) (by kernel_rfl) (fun _ _ _ h => h) (Or.inl ⟨by rfl, ?_⟩) (by assumption) ?_
            rotate_left
            · ((intro w hSw; (try dsimp only at hSw); go_simp); try with_reducible rfl)
            try simp only [Act.put, List.setIfInBounds_toArray, List.set_cons_zero, List.set_cons_succ]
            refine wpAnyH_ready (rs := [15]) (by kernel_rfl) (by simp) ?_
            refine AllReadyH.cons rfl (fun K hK => ?_) ?_
            · go_simp
              refine hK.out _ _ ?_ (fun hHeldN => ?_)
              · (try dsimp only)
                (first | exact new_keep (r := r) (g := g) h60 h61 h70 h71 hne (HU12.out.mono (fun _ _ h => .inr h)) | exact new_keep (r := r) (g := g) h60 h61 h70 h71 hne (Upd.setCell (S := fun q => q = r ∨ q = g) (HU12.out.mono (fun _ _ h => .inr h)) (p := ⟨r, 5, none⟩) (fun _ => .inl rfl) _) | exact new_keep (r := r) (g := g) h60 h61 h70 h71 hne ((Upd.refl _ wc).drew) | exact new_keep (r := r) (g := g) h60 h61 h70 h71 hne (((Upd.refl _ wc).alloc _).drew) | exact new_keep (r := r) (g := g) h60 h61 h70 h71 hne ((((Upd.refl _ wc).alloc _).alloc _).drew) | exact new_keep (r := r) (g := g) h60 h61 h70 h71 hne ((Upd.refl _ wc).alloc _) | exact new_keep (r := r) (g := g) h60 h61 h70 h71 hne (((Upd.refl _ wc).alloc _).alloc _))
              clear hK K hHeld
              have hHeld := hHeldN
              clear hHeldN
              try simp only [Act.put, List.setIfInBounds_toArray, List.set_cons_zero, List.set_cons_succ]
              refine wpAnyH_done (by kernel_rfl) ?_ _
              refine NoPanic.normal ?_
              exact HQ.out _ _ _ _ _ _ _ _ _ _ _ _ _ _ _ g12 q12 w12 HO12.out HU12.out HG12.out HV12.out
            exact AllReadyH.nil
          exact AllReadyH.nil
        exact AllReadyH.nil
      exact AllReadyH.nil
    refine AllReadyH.cons rfl (fun K hK => ?_) ?_
    · go_simp
      refine hK.out _ _ ?_ (fun hHeldN => ?_)
      · (try dsimp only)
        (first | exact new_keep (r := r) (g := g) h60 h61 h70 h71 hne (HU12.out.mono (fun _ _ h => .inr h)) | exact new_keep (r := r) (g := g) h60 h61 h70 h71 hne (Upd.setCell (S := fun q => q = r ∨ q = g) (HU12.out.mono (fun _ _ h => .inr h)) (p := ⟨r, 5, none⟩) (fun _ => .inl rfl) _) | exact new_keep (r := r) (g := g) h60 h61 h70 h71 hne ((Upd.refl _ wc).drew) | exact new_keep (r := r) (g := g) h60 h61 h70 h71 hne (((Upd.refl _ wc).alloc _).drew) | exact new_keep (r := r) (g := g) h60 h61 h70 h71 hne ((((Upd.refl _ wc).alloc _).alloc _).drew) | exact new_keep (r := r) (g := g) h60 h61 h70 h71 hne ((Upd.refl _ wc).alloc _) | exact new_keep (r := r) (g := g) h60 h61 h70 h71 hne (((Upd.refl _ wc).alloc _).alloc _))
      clear hK K hHeld
      have hHeld := hHeldN
      clear hHeldN
      try simp only [Act.put, List.setIfInBounds_toArray, List.set_cons_zero, List.set_cons_succ]
      refine wpAnyH_ready (rs := [7]) (by kernel_rfl) (by simp) ?_
      refine AllReadyH.cons rfl (fun K hK => ?_) ?_
      · go_simp
        go_at_call 31
        refine (port31_any r c (some ⟨g, 0, none⟩) cap M _ (HR.out.still (by first | exact (Upd.refl _ wc).drew | exact ((Upd.refl _ wc).alloc _).drew | exact (((Upd.refl _ wc).alloc _).alloc _).drew)) hM).mono ?_
        rintro e w' ⟨rfl, rfl⟩
        rw [HP.out]
        try go_wp2_with fail
        refine hK.out _ _ ?_ (fun hHeldN => ?_)
        · (try dsimp only)
          (first | exact new_keep (r := r) (g := g) h60 h61 h70 h71 hne (HU12.out.mono (fun _ _ h => .inr h)) | exact new_keep (r := r) (g := g) h60 h61 h70 h71 hne (Upd.setCell (S := fun q => q = r ∨ q = g) (HU12.out.mono (fun _ _ h => .inr h)) (p := ⟨r, 5, none⟩) (fun _ => .inl rfl) _) | exact new_keep (r := r) (g := g) h60 h61 h70 h71 hne ((Upd.refl _ wc).drew) | exact new_keep (r := r) (g := g) h60 h61 h70 h71 hne (((Upd.refl _ wc).alloc _).drew) | exact new_keep (r := r) (g := g) h60 h61 h70 h71 hne ((((Upd.refl _ wc).alloc _).alloc _).drew) | exact new_keep (r := r) (g := g) h60 h61 h70 h71 hne ((Upd.refl _ wc).alloc _) | exact new_keep (r := r) (g := g) h60 h61 h70 h71 hne (((Upd.refl _ wc).alloc _).alloc _))
        clear hK K hHeld
        have hHeld := hHeldN
        clear hHeldN
        try simp only [Act.put, List.setIfInBounds_toArray, List.set_cons_zero, List.set_cons_succ]
        refine wpAnyH_take (i := 10) (v := ?_) rfl (by kernel_rfl) (by kernel_rfl) (by kernel_rfl) (fun _ _ _ h => h) (Or.inl ⟨by rfl, ?_⟩) (by assumption) ?_
        rotate_left
        · ((intro w hSw; (try dsimp only at hSw); go_simp); try with_reducible rfl)
        try simp only [Act.put, List.setIfInBounds_toArray, List.set_cons_zero, List.set_cons_succ]
        refine wpAnyH_ready (rs := [11]) (by kernel_rfl) (by simp) ?_
        refine AllReadyH.cons rfl (fun K hK => ?_) ?_
        · go_simp
          refine hK.out _ _ ?_ (fun hHeldN => ?_)
          · (try dsimp only)
            (first | exact new_keep (r := r) (g := g) h60 h61 h70 h71 hne (HU12.out.mono (fun _ _ h => .inr h)) | exact new_keep (r := r) (g := g) h60 h61 h70 h71 hne (Upd.setCell (S := fun q => q = r ∨ q = g) (HU12.out.mono (fun _ _ h => .inr h)) (p := ⟨r, 5, none⟩) (fun _ => .inl rfl) _) | exact new_keep (r := r) (g := g) h60 h61 h70 h71 hne ((Upd.refl _ wc).drew) | exact new_keep (r := r) (g := g) h60 h61 h70 h71 hne (((Upd.refl _ wc).alloc _).drew) | exact new_keep (r := r) (g := g) h60 h61 h70 h71 hne ((((Upd.refl _ wc).alloc _).alloc _).drew) | exact new_keep (r := r) (g := g) h60 h61 h70 h71 hne ((Upd.refl _ wc).alloc _) | exact new_keep (r := r) (g := g) h60 h61 h70 h71 hne (((Upd.refl _ wc).alloc _).alloc _))
          clear hK K hHeld
          have hHeld := hHeldN
          clear hHeldN
          try simp only [Act.put, List.setIfInBounds_toArray, List.set_cons_zero, List.set_cons_succ]
          refine wpAnyH_ready (rs := [12]) (by kernel_rfl) (by simp) ?_
          refine AllReadyH.cons rfl (fun K hK => ?_) ?_
          · apply step_appE (s := .tmp 100) (x := .tmp 107) (v := .slice (some ⟨g, 0, none⟩) M.length cap) (l := M) (n0 := 0) (n := M.length) (N := M.length + 1) (z := ((⟨⟨f1, f2⟩, p, 0, [⟨t1, t2⟩]⟩, ⟨wc.heap.size, 1⟩) : RE))
            case hgd => rfl
            case ho => rfl
            case hs => rfl
            case hx => rfl
            case hl => rfl
            case hO => exact (HR.out.still (by first | exact (Upd.refl _ wc).drew | exact ((Upd.refl _ wc).alloc _).drew | exact (((Upd.refl _ wc).alloc _).alloc _).drew)).row
            case hv => exact fun k hk => Nat.zero_le _
            case hN => exact blk_news (by first | exact heap_alloc_at _ _ _ _ (by simp) | exact blk_drew (heap_alloc_at _ _ _ _ (by simp)) | exact blk_drew (Upd.blk ((Upd.refl (fun _ => False) _).alloc _) (heap_alloc_at _ _ _ _ (by simp)) (fun h => h)) | exact Upd.blk ((Upd.refl (fun _ => False) _).alloc _) (heap_alloc_at _ _ _ _ (by simp)) (fun h => h)) rfl
            case hm => rfl
            case hb => omega
            case hn0 => exact Nat.zero_le _
            intro g12 q12 w12 hO12 hU12 hor12 hlt12
            have HO12 := hid hO12
            have HV12 : Hid (w12.heap[wc.heap.size]? = some (.cells #[.int .u32 t1, .int .i64 t2] 26 (0, 0))) := hid (hU12.blk (by first | exact heap_alloc_at _ _ _ _ (by simp) | exact blk_drew (heap_alloc_at _ _ _ _ (by simp)) | exact blk_drew (Upd.blk ((Upd.refl (fun _ => False) _).alloc _) (heap_alloc_at _ _ _ _ (by simp)) (fun h => h)) | exact Upd.blk ((Upd.refl (fun _ => False) _).alloc _) (heap_alloc_at _ _ _ _ (by simp)) (fun h => h)) (fun e => by have h := ownBlk e; omega))
            have HU12 : Hid (Upd (fun q => q = g) wc w12) := hid ((sub_upd (r := g) (by first | exact (Upd.refl _ wc).drew | exact ((Upd.refl _ wc).alloc _).drew | exact (((Upd.refl _ wc).alloc _).alloc _).drew)).then_ hU12 (fun q hq e => ownBlk e))
            have HG12 : Hid (g12 = g ∨ wc.heap.size ≤ g12) := hid (hor12.elim (fun h => .inl (ownBlk h)) (fun h => .inr (Nat.le_trans (Upd.size (S := fun _ => False) (w := wc) (by first | exact (Upd.refl _ wc).drew | exact ((Upd.refl _ wc).alloc _).drew | exact (((Upd.refl _ wc).alloc _).alloc _).drew)) h)))
            have gc := HU12.out.cell h5 hrg
            have gf := (HU12.out.frozen (p := ⟨r, 5, none⟩) hrl hrg).trans hfz
            clear hO12 hU12 hor12 hlt12
            refine hK.out _ _ ?_ (fun hHeldN => ?_)
            · (try dsimp only)
              (first | exact new_keep (r := r) (g := g) h60 h61 h70 h71 hne (HU12.out.mono (fun _ _ h => .inr h)) | exact new_keep (r := r) (g := g) h60 h61 h70 h71 hne (Upd.setCell (S := fun q => q = r ∨ q = g) (HU12.out.mono (fun _ _ h => .inr h)) (p := ⟨r, 5, none⟩) (fun _ => .inl rfl) _) | exact new_keep (r := r) (g := g) h60 h61 h70 h71 hne ((Upd.refl _ wc).drew) | exact new_keep (r := r) (g := g) h60 h61 h70 h71 hne (((Upd.refl _ wc).alloc _).drew) | exact new_keep (r := r) (g := g) h60 h61 h70 h71 hne ((((Upd.refl _ wc).alloc _).alloc _).drew) | exact new_keep (r := r) (g := g) h60 h61 h70 h71 hne ((Upd.refl _ wc).alloc _) | exact new_keep (r := r) (g := g) h60 h61 h70 h71 hne (((Upd.refl _ wc).alloc _).alloc _))
            clear hK K hHeld
            have hHeld := hHeldN
            clear hHeldN
            try simp only [Act.put, List.setIfInBounds_toArray, List.set_cons_zero, List.set_cons_succ]
            refine wpAnyH_take (i := 13) (v := ?_) rfl (by kernel_rfl) (by kernel_rfl) (by kernel_rfl) (fun _ _ _ h => h) (Or.inl ⟨by rfl, ?_⟩) (by assumption) ?_
            rotate_left
            · ((intro w hSw; (try dsimp only at hSw); go_simp); try with_reducible rfl)
            try simp only [Act.put, List.setIfInBounds_toArray, List.set_cons_zero, List.set_cons_succ]
            refine wpAnyH_take (i := 14) (v := ?_) rfl (by kernel_rfl) (by kernel_rfl) (by kernel_rfl) (fun _ _ _ h => h) (Or.inl ⟨by rfl, ?_⟩) (by assumption) ?_
            rotate_left
            · ((intro w hSw; (try dsimp only at hSw); go_simp); try with_reducible rfl)
            try simp only [Act.put, List.setIfInBounds_toArray, List.set_cons_zero, List.set_cons_succ]
            refine wpAnyH_ready (rs := [15]) (by kernel_rfl) (by simp) ?_
            refine AllReadyH.cons rfl (fun K hK => ?_) ?_
            · go_simp
              refine hK.out _ _ ?_ (fun hHeldN => ?_)
              · (try dsimp only)
                (first | exact new_keep (r := r) (g := g) h60 h61 h70 h71 hne (HU12.out.mono (fun _ _ h => .inr h)) | exact new_keep (r := r) (g := g) h60 h61 h70 h71 hne (Upd.setCell (S := fun q => q = r ∨ q = g) (HU12.out.mono (fun _ _ h => .inr h)) (p := ⟨r, 5, none⟩) (fun _ => .inl rfl) _) | exact new_keep (r := r) (g := g) h60 h61 h70 h71 hne ((Upd.refl _ wc).drew) | exact new_keep (r := r) (g := g) h60 h61 h70 h71 hne (((Upd.refl _ wc).alloc _).drew) | exact new_keep (r := r) (g := g) h60 h61 h70 h71 hne ((((Upd.refl _ wc).alloc _).alloc _).drew) | exact new_keep (r := r) (g := g) h60 h61 h70 h71 hne ((Upd.refl _ wc).alloc _) | exact new_keep (r := r) (g := g) h60 h61 h70 h71 hne (((Upd.refl _ wc).alloc _).alloc _))
              clear hK K hHeld
              have hHeld := hHeldN
              clear hHeldN
              try simp only [Act.put, List.setIfInBounds_toArray, List.set_cons_zero, List.set_cons_succ]
              refine wpAnyH_done (by kernel_rfl) ?_ _
              refine NoPanic.normal ?_
              exact HQ.out _ _ _ _ _ _ _ _ _ _ _ _ _ _ _ g12 q12 w12 HO12.out HU12.out HG12.out HV12.out
            exact AllReadyH.nil
          exact AllReadyH.nil
        exact AllReadyH.nil
      exact AllReadyH.nil
    exact AllReadyH.nil
  refine AllReadyH.cons rfl (fun K hK => ?_) ?_
  · go_simp
    go_at_call 31
    refine (port31_any r c (some ⟨g, 0, none⟩) cap M _ (HR.out.still (by first | exact (Upd.refl _ wc).drew | exact ((Upd.refl _ wc).alloc _).drew | exact (((Upd.refl _ wc).alloc _).alloc _).drew)) hM).mono ?_
    rintro e w' ⟨rfl, rfl⟩
    rw [HP.out]
    try go_wp2_with fail
    refine hK.out _ _ ?_ (fun hHeldN => ?_)
    · (try dsimp only)
      (first | exact new_keep (r := r) (g := g) h60 h61 h70 h71 hne (HU12.out.mono (fun _ _ h => .inr h)) | exact new_keep (r := r) (g := g) h60 h61 h70 h71 hne (Upd.setCell (S := fun q => q = r ∨ q = g) (HU12.out.mono (fun _ _ h => .inr h)) (p := ⟨r, 5, none⟩) (fun _ => .inl rfl) _) | exact new_keep (r := r) (g := g) h60 h61 h70 h71 hne ((Upd.refl _ wc).drew) | exact new_keep (r := r) (g := g) h60 h61 h70 h71 hne (((Upd.refl _ wc).alloc _).drew) | exact new_keep (r := r) (g := g) h60 h61 h70 h71 hne ((((Upd.refl _ wc).alloc _).alloc _).drew) | exact new_keep (r := r) (g := g) h60 h61 h70 h71 hne ((Upd.refl _ wc).alloc _) | exact new_keep (r := r) (g := g) h60 h61 h70 h71 hne (((Upd.refl _ wc).alloc _).alloc _))
    clear hK K hHeld
    have hHeld := hHeldN
    clear hHeldN
    try simp only [Act.put, List.setIfInBounds_toArray, List.set_cons_zero, List.set_cons_succ]
    refine wpAnyH_ready (rs := [4, 9]) (by kernel_rfl) (by simp) ?_
    refine AllReadyH.cons rfl (fun K hK => ?_) ?_
    · go_simp
      refine hK.out _ _ ?_ (fun hHeldN => ?_)
      · (try dsimp only)
        (first | exact new_keep (r := r) (g := g) h60 h61 h70 h71 hne (HU12.out.mono (fun _ _ h => .inr h)) | exact new_keep (r := r) (g := g) h60 h61 h70 h71 hne (Upd.setCell (S := fun q => q = r ∨ q = g) (HU12.out.mono (fun _ _ h => .inr h)) (p := ⟨r, 5, none⟩) (fun _ => .inl rfl) _) | exact new_keep (r := r) (g := g) h60 h61 h70 h71 hne ((Upd.refl _ wc).drew) | exact new_keep (r := r) (g := g) h60 h61 h70 h71 hne (((Upd.refl _ wc).alloc _).drew) | exact new_keep (r := r) (g := g) h60 h61 h70 h71 hne ((((Upd.refl _ wc).alloc _).alloc _).drew) | exact new_keep (r := r) (g := g) h60 h61 h70 h71 hne ((Upd.refl _ wc).alloc _) | exact new_keep (r := r) (g := g) h60 h61 h70 h71 hne (((Upd.refl _ wc).alloc _).alloc _))
      clear hK K hHeld
      have hHeld := hHeldN
      clear hHeldN
      try simp only [Act.put, List.setIfInBounds_toArray, List.set_cons_zero, List.set_cons_succ]
      refine wpAnyH_ready (rs := [9]) (by kernel_rfl) (by simp) ?_
      refine AllReadyH.cons rfl (fun K hK => ?_) ?_
      · go_simp
        refine hK.out _ _ ?_ (fun hHeldN => ?_)
        · (try dsimp only)
          (first | exact new_keep (r := r) (g := g) h60 h61 h70 h71 hne (HU12.out.mono (fun _ _ h => .inr h)) | exact new_keep (r := r) (g := g) h60 h61 h70 h71 hne (Upd.setCell (S := fun q => q = r ∨ q = g) (HU12.out.mono (fun _ _ h => .inr h)) (p := ⟨r, 5, none⟩) (fun _ => .inl rfl) _) | exact new_keep (r := r) (g := g) h60 h61 h70 h71 hne ((Upd.refl _ wc).drew) | exact new_keep (r := r) (g := g) h60 h61 h70 h71 hne (((Upd.refl _ wc).alloc _).drew) | exact new_keep (r := r) (g := g) h60 h61 h70 h71 hne ((((Upd.refl _ wc).alloc _).alloc _).drew) | exact new_keep (r := r) (g := g) h60 h61 h70 h71 hne ((Upd.refl _ wc).alloc _) | exact new_keep (r := r) (g := g) h60 h61 h70 h71 hne (((Upd.refl _ wc).alloc _).alloc _))
        clear hK K hHeld
        have hHeld := hHeldN
        clear hHeldN
        try simp only [Act.put, List.setIfInBounds_toArray, List.set_cons_zero, List.set_cons_succ]
        refine wpAnyH_take (i := 10) (v := ?_) rfl (by kernel_rfl) (by kernel_rfl) (by kernel_rfl) (fun _ _ _ h => h) (Or.inl ⟨by rfl, ?_⟩) (by assumption) ?_
        rotate_left
        · ((intro w hSw; (try dsimp only at hSw); go_simp); try with_reducible rfl)
        try simp only [Act.put, List.setIfInBounds_toArray, List.set_cons_zero, List.set_cons_succ]
        refine wpAnyH_ready (rs := [11]) (by kernel_rfl) (by simp) ?_
        refine AllReadyH.cons rfl (fun K hK => ?_) ?_
        · go_simp
          refine hK.out _ _ ?_ (fun hHeldN => ?_)
          · (try dsimp only)
            (first | exact new_keep (r := r) (g := g) h60 h61 h70 h71 hne (HU12.out.mono (fun _ _ h => .inr h)) | exact new_keep (r := r) (g := g) h60 h61 h70 h71 hne (Upd.setCell (S := fun q => q = r ∨ q = g) (HU12.out.mono (fun _ _ h => .inr h)) (p := ⟨r, 5, none⟩) (fun _ => .inl rfl) _) | exact new_keep (r := r) (g := g) h60 h61 h70 h71 hne ((Upd.refl _ wc).drew) | exact new_keep (r := r) (g := g) h60 h61 h70 h71 hne (((Upd.refl _ wc).alloc _).drew) | exact new_keep (r := r) (g := g) h60 h61 h70 h71 hne ((((Upd.refl _ wc).alloc _).alloc _).drew) | exact new_keep (r := r) (g := g) h60 h61 h70 h71 hne ((Upd.refl _ wc).alloc _) | exact new_keep (r := r) (g := g) h60 h61 h70 h71 hne (((Upd.refl _ wc).alloc _).alloc _))
          clear hK K hHeld
          have hHeld := hHeldN
          clear hHeldN
          try simp only [Act.put, List.setIfInBounds_toArray, List.set_cons_zero, List.set_cons_succ]
          refine wpAnyH_ready (rs := [12]) (by kernel_rfl) (by simp) ?_
          refine AllReadyH.cons rfl (fun K hK => ?_) ?_
          · apply step_appE (s := .tmp 100) (x := .tmp 107) (v := .slice (some ⟨g, 0, none⟩) M.length cap) (l := M) (n0 := 0) (n := M.length) (N := M.length + 1) (z := ((⟨⟨f1, f2⟩, p, 0, [⟨t1, t2⟩]⟩, ⟨wc.heap.size, 1⟩) : RE))
            case hgd => rfl
            case ho => rfl
            case hs => rfl
            case hx => rfl
            case hl => rfl
            case hO => exact (HR.out.still (by first | exact (Upd.refl _ wc).drew | exact ((Upd.refl _ wc).alloc _).drew | exact (((Upd.refl _ wc).alloc _).alloc _).drew)).row
            case hv => exact fun k hk => Nat.zero_le _
            case hN => exact blk_news (by first | exact heap_alloc_at _ _ _ _ (by simp) | exact blk_drew (heap_alloc_at _ _ _ _ (by simp)) | exact blk_drew (Upd.blk ((Upd.refl (fun _ => False) _).alloc _) (heap_alloc_at _ _ _ _ (by simp)) (fun h => h)) | exact Upd.blk ((Upd.refl (fun _ => False) _).alloc _) (heap_alloc_at _ _ _ _ (by simp)) (fun h => h)) rfl
            case hm => rfl
            case hb => omega
            case hn0 => exact Nat.zero_le _
            intro g12 q12 w12 hO12 hU12 hor12 hlt12
            have HO12 := hid hO12
            have HV12 : Hid (w12.heap[wc.heap.size]? = some (.cells #[.int .u32 t1, .int .i64 t2] 26 (0, 0))) := hid (hU12.blk (by first | exact heap_alloc_at _ _ _ _ (by simp) | exact blk_drew (heap_alloc_at _ _ _ _ (by simp)) | exact blk_drew (Upd.blk ((Upd.refl (fun _ => False) _).alloc _) (heap_alloc_at _ _ _ _ (by simp)) (fun h => h)) | exact Upd.blk ((Upd.refl (fun _ => False) _).alloc _) (heap_alloc_at _ _ _ _ (by simp)) (fun h => h)) (fun e => by have h := ownBlk e; omega))
            have HU12 : Hid (Upd (fun q => q = g) wc w12) := hid ((sub_upd (r := g) (by first | exact (Upd.refl _ wc).drew | exact ((Upd.refl _ wc).alloc _).drew | exact (((Upd.refl _ wc).alloc _).alloc _).drew)).then_ hU12 (fun q hq e => ownBlk e))
            have HG12 : Hid (g12 = g ∨ wc.heap.size ≤ g12) := hid (hor12.elim (fun h => .inl (ownBlk h)) (fun h => .inr (Nat.le_trans (Upd.size (S := fun _ => False) (w := wc) (by first | exact (Upd.refl _ wc).drew | exact ((Upd.refl _ wc).alloc _).drew | exact (((Upd.refl _ wc).alloc _).alloc _).drew)) h)))
            have gc := HU12.out.cell h5 hrg
            have gf := (HU12.out.frozen (p := ⟨r, 5, none⟩) hrl hrg).trans hfz
            clear hO12 hU12 hor12 hlt12
            refine hK.out _ _ ?_ (fun hHeldN => ?_)
            · (try dsimp only)
              (first | exact new_keep (r := r) (g := g) h60 h61 h70 h71 hne (HU12.out.mono (fun _ _ h => .inr h)) | exact new_keep (r := r) (g := g) h60 h61 h70 h71 hne (Upd.setCell (S := fun q => q = r ∨ q = g) (HU12.out.mono (fun _ _ h => .inr h)) (p := ⟨r, 5, none⟩) (fun _ => .inl rfl) _) | exact new_keep (r := r) (g := g) h60 h61 h70 h71 hne ((Upd.refl _ wc).drew) | exact new_keep (r := r) (g := g) h60 h61 h70 h71 hne (((Upd.refl _ wc).alloc _).drew) | exact new_keep (r := r) (g := g) h60 h61 h70 h71 hne ((((Upd.refl _ wc).alloc _).alloc _).drew) | exact new_keep (r := r) (g := g) h60 h61 h70 h71 hne ((Upd.refl _ wc).alloc _) | exact new_keep (r := r) (g := g) h60 h61 h70 h71 hne (((Upd.refl _ wc).alloc _).alloc _))
            clear hK K hHeld
            have hHeld := hHeldN
            clear hHeldN
            try simp only [Act.put, List.setIfInBounds_toArray, List.set_cons_zero, List.set_cons_succ]
            refine wpAnyH_take (i := 13) (v := ?_) rfl (by kernel_rfl) (by kernel_rfl) (by kernel_rfl) (fun _ _ _ h => h) (Or.inl ⟨by rfl, ?_⟩) (by assumption) ?_
            rotate_left
            · ((intro w hSw; (try dsimp only at hSw); go_simp); try with_reducible rfl)
            try simp only [Act.put, List.setIfInBounds_toArray, List.set_cons_zero, List.set_cons_succ]
            refine wpAnyH_take (i := 14) (v := ?_) rfl (by kernel_rfl) (by kernel_rfl) (by kernel_rfl) (fun _ _ _ h => h) (Or.inl ⟨by rfl, ?_⟩) (by assumption) ?_
            rotate_left
            · ((intro w hSw; (try dsimp only at hSw); go_simp); try with_reducible rfl)
            try simp only [Act.put, List.setIfInBounds_toArray, List.set_cons_zero, List.set_cons_succ]
            refine wpAnyH_ready (rs := [15]) (by kernel_rfl) (by simp) ?_
            refine AllReadyH.cons rfl (fun K hK => ?_) ?_
            · go_simp
              refine hK.out _ _ ?_ (fun hHeldN => ?_)
              · (try dsimp only)
                (first | exact new_keep (r := r) (g := g) h60 h61 h70 h71 hne (HU12.out.mono (fun _ _ h => .inr h)) | exact new_keep (r := r) (g := g) h60 h61 h70 h71 hne (Upd.setCell (S := fun q => q = r ∨ q = g) (HU12.out.mono (fun _ _ h => .inr h)) (p := ⟨r, 5, none⟩) (fun _ => .inl rfl) _) | exact new_keep (r := r) (g := g) h60 h61 h70 h71 hne ((Upd.refl _ wc).drew) | exact new_keep (r := r) (g := g) h60 h61 h70 h71 hne (((Upd.refl _ wc).alloc _).drew) | exact new_keep (r := r) (g := g) h60 h61 h70 h71 hne ((((Upd.refl _ wc).alloc _).alloc _).drew) | exact new_keep (r := r) (g := g) h60 h61 h70 h71 hne ((Upd.refl _ wc).alloc _) | exact new_keep (r := r) (g := g) h60 h61 h70 h71 hne (((Upd.refl _ wc).alloc _).alloc _))
              clear hK K hHeld
              have hHeld := hHeldN
              clear hHeldN
              try simp only [Act.put, List.setIfInBounds_toArray, List.set_cons_zero, List.set_cons_succ]
              refine wpAnyH_done (by kernel_rfl) ?_ _
              refine NoPanic.normal ?_
              exact HQ.out _ _ _ _ _ _ _ _ _ _ _ _ _ _ _ g12 q12 w12 HO12.out HU12.out HG12.out HV12.out
            exact AllReadyH.nil
          exact AllReadyH.nil
        exact AllReadyH.nil
      exact AllReadyH.nil
    refine AllReadyH.cons rfl (fun K hK => ?_) ?_
    · go_simp
      refine hK.out _ _ ?_ (fun hHeldN => ?_)
      · (try dsimp only)
        (first | exact new_keep (r := r) (g := g) h60 h61 h70 h71 hne (HU12.out.mono (fun _ _ h => .inr h)) | exact new_keep (r := r) (g := g) h60 h61 h70 h71 hne (Upd.setCell (S := fun q => q = r ∨ q = g) (HU12.out.mono (fun _ _ h => .inr h)) (p := ⟨r, 5, none⟩) (fun _ => .inl rfl) _) | exact new_keep (r := r) (g := g) h60 h61 h70 h71 hne ((Upd.refl _ wc).drew) | exact new_keep (r := r) (g := g) h60 h61 h70 h71 hne (((Upd.refl _ wc).alloc _).drew) | exact new_keep (r := r) (g := g) h60 h61 h70 h71 hne ((((Upd.refl _ wc).alloc _).alloc _).drew) | exact new_keep (r := r) (g := g) h60 h61 h70 h71 hne ((Upd.refl _ wc).alloc _) | exact new_keep (r := r) (g := g) h60 h61 h70 h71 hne (((Upd.refl _ wc).alloc _).alloc _))
      clear hK K hHeld
      have hHeld := hHeldN
      clear hHeldN
      try simp only [Act.put, List.setIfInBounds_toArray, List.set_cons_zero, List.set_cons_succ]
      refine wpAnyH_take (i := 10) (v := ?_) rfl (by kernel_rfl) (by kernel_rfl) (by kernel_rfl) (fun _ _ _ h => h) (Or.inl ⟨by rfl, ?_⟩) (by assumption) ?_
      rotate_left
      · ((intro w hSw; (try dsimp only at hSw); go_simp); try with_reducible rfl)
      try simp only [Act.put, List.setIfInBounds_toArray, List.set_cons_zero, List.set_cons_succ]
      refine wpAnyH_ready (rs := [4, 11]) (by kernel_rfl) (by simp) ?_
      refine AllReadyH.cons rfl (fun K hK => ?_) ?_
      · go_simp
        refine hK.out _ _ ?_ (fun hHeldN => ?_)
        · (try dsimp only)
          (first | exact new_keep (r := r) (g := g) h60 h61 h70 h71 hne (HU12.out.mono (fun _ _ h => .inr h)) | exact new_keep (r := r) (g := g) h60 h61 h70 h71 hne (Upd.setCell (S := fun q => q = r ∨ q = g) (HU12.out.mono (fun _ _ h => .inr h)) (p := ⟨r, 5, none⟩) (fun _ => .inl rfl) _) | exact new_keep (r := r) (g := g) h60 h61 h70 h71 hne ((Upd.refl _ wc).drew) | exact new_keep (r := r) (g := g) h60 h61 h70 h71 hne (((Upd.refl _ wc).alloc _).drew) | exact new_keep (r := r) (g := g) h60 h61 h70 h71 hne ((((Upd.refl _ wc).alloc _).alloc _).drew) | exact new_keep (r := r) (g := g) h60 h61 h70 h71 hne ((Upd.refl _ wc).alloc _) | exact new_keep (r := r) (g := g) h60 h61 h70 h71 hne (((Upd.refl _ wc).alloc _).alloc _))
        clear hK K hHeld
        have hHeld := hHeldN
        clear hHeldN
        try simp only [Act.put, List.setIfInBounds_toArray, List.set_cons_zero, List.set_cons_succ]
        refine wpAnyH_ready (rs := [11]) (by kernel_rfl) (by simp) ?_
        refine AllReadyH.cons rfl (fun K hK => ?_) ?_
        · go_simp
          refine hK.out _ _ ?_ (fun hHeldN => ?_)
          · (try dsimp only)
            (first | exact new_keep (r := r) (g := g) h60 h61 h70 h71 hne (HU12.out.mono (fun _ _ h => .inr h)) | exact new_keep (r := r) (g := g) h60 h61 h70 h71 hne (Upd.setCell (S := fun q => q = r ∨ q = g) (HU12.out.mono (fun _ _ h => .inr h)) (p := ⟨r, 5, none⟩) (fun _ => .inl rfl) _) | exact new_keep (r := r) (g := g) h60 h61 h70 h71 hne ((Upd.refl _ wc).drew) | exact new_keep (r := r) (g := g) h60 h61 h70 h71 hne (((Upd.refl _ wc).alloc _).drew) | exact new_keep (r := r) (g := g) h60 h61 h70 h71 hne ((((Upd.refl _ wc).alloc _).alloc _).drew) | exact new_keep (r := r) (g := g) h60 h61 h70 h71 hne ((Upd.refl _ wc).alloc _) | exact new_keep (r := r) (g := g) h60 h61 h70 h71 hne (((Upd.refl _ wc).alloc _).alloc _))
          clear hK K hHeld
          have hHeld := hHeldN
          clear hHeldN
          try simp only [Act.put, List.setIfInBounds_toArray, List.set_cons_zero, List.set_cons_succ]
          refine wpAnyH_ready (rs := [12]) (by kernel_rfl) (by simp) ?_
          refine AllReadyH.cons rfl (fun K hK => ?_) ?_
          · apply step_appE (s := .tmp 100) (x := .tmp 107) (v := .slice (some ⟨g, 0, none⟩) M.length cap) (l := M) (n0 := 0) (n := M.length) (N := M.length + 1) (z := ((⟨⟨f1, f2⟩, p, 0, [⟨t1, t2⟩]⟩, ⟨wc.heap.size, 1⟩) : RE))
            case hgd => rfl
            case ho => rfl
            case hs => rfl
            case hx => rfl
            case hl => rfl
            case hO => exact (HR.out.still (by first | exact (Upd.refl _ wc).drew | exact ((Upd.refl _ wc).alloc _).drew | exact (((Upd.refl _ wc).alloc _).alloc _).drew)).row
            case hv => exact fun k hk => Nat.zero_le _
            case hN => exact blk_news (by first | exact heap_alloc_at _ _ _ _ (by simp) | exact blk_drew (heap_alloc_at _ _ _ _ (by simp)) | exact blk_drew (Upd.blk ((Upd.refl (fun _ => False) _).alloc _) (heap_alloc_at _ _ _ _ (by simp)) (fun h => h)) | exact Upd.blk ((Upd.refl (fun _ => False) _).alloc _) (heap_alloc_at _ _ _ _ (by simp)) (fun h => h)) rfl
            case hm => rfl
            case hb => omega
            case hn0 => exact Nat.zero_le _
            intro g12 q12 w12 hO12 hU12 hor12 hlt12
            have HO12 := hid hO12
            have HV12 : Hid (w12.heap[wc.heap.size]? = some (.cells #[.int .u32 t1, .int .i64 t2] 26 (0, 0))) := hid (hU12.blk (by first | exact heap_alloc_at _ _ _ _ (by simp) | exact blk_drew (heap_alloc_at _ _ _ _ (by simp)) | exact blk_drew (Upd.blk ((Upd.refl (fun _ => False) _).alloc _) (heap_alloc_at _ _ _ _ (by simp)) (fun h => h)) | exact Upd.blk ((Upd.refl (fun _ => False) _).alloc _) (heap_alloc_at _ _ _ _ (by simp)) (fun h => h)) (fun e => by have h := ownBlk e; omega))
            have HU12 : Hid (Upd (fun q => q = g) wc w12) := hid ((sub_upd (r := g) (by first | exact (Upd.refl _ wc).drew | exact ((Upd.refl _ wc).alloc _).drew | exact (((Upd.refl _ wc).alloc _).alloc _).drew)).then_ hU12 (fun q hq e => ownBlk e))
            have HG12 : Hid (g12 = g ∨ wc.heap.size ≤ g12) := hid (hor12.elim (fun h => .inl (ownBlk h)) (fun h => .inr (Nat.le_trans (Upd.size (S := fun _ => False) (w := wc) (by first | exact (Upd.refl _ wc).drew | exact ((Upd.refl _ wc).alloc _).drew | exact (((Upd.refl _ wc).alloc _).alloc _).drew)) h)))
            have gc := HU12.out.cell h5 hrg
            have gf := (HU12.out.frozen (p := ⟨r, 5, none⟩) hrl hrg).trans hfz
            clear hO12 hU12 hor12 hlt12
            refine hK.out _ _ ?_ (fun hHeldN => ?_)
            · (try dsimp only)
              (first | exact new_keep (r := r) (g := g) h60 h61 h70 h71 hne (HU12.out.mono (fun _ _ h => .inr h)) | exact new_keep (r := r) (g := g) h60 h61 h70 h71 hne (Upd.setCell (S := fun q => q = r ∨ q = g) (HU12.out.mono (fun _ _ h => .inr h)) (p := ⟨r, 5, none⟩) (fun _ => .inl rfl) _) | exact new_keep (r := r) (g := g) h60 h61 h70 h71 hne ((Upd.refl _ wc).drew) | exact new_keep (r := r) (g := g) h60 h61 h70 h71 hne (((Upd.refl _ wc).alloc _).drew) | exact new_keep (r := r) (g := g) h60 h61 h70 h71 hne ((((Upd.refl _ wc).alloc _).alloc _).drew) | exact new_keep (r := r) (g := g) h60 h61 h70 h71 hne ((Upd.refl _ wc).alloc _) | exact new_keep (r := r) (g := g) h60 h61 h70 h71 hne (((Upd.refl _ wc).alloc _).alloc _))
            clear hK K hHeld
            have hHeld := hHeldN
            clear hHeldN
            try simp only [Act.put, List.setIfInBounds_toArray, List.set_cons_zero, List.set_cons_succ]
            refine wpAnyH_take (i := 13) (v := ?_) rfl (by kernel_rfl) (by kernel_rfl) (by kernel_rfl) (fun _ _ _ h => h) (Or.inl ⟨by rfl, ?_⟩) (by assumption) ?_
            rotate_left
            · ((intro w hSw; (try dsimp only at hSw); go_simp); try with_reducible rfl)
            try simp only [Act.put, List.setIfInBounds_toArray, List.set_cons_zero, List.set_cons_succ]
            refine wpAnyH_take (i := 14) (v := ?_) rfl (by kernel_rfl) (by kernel_rfl) (by kernel_rfl) (fun _ _ _ h => h) (Or.inl ⟨by rfl, ?_⟩) (by assumption) ?_
            rotate_left
            · ((intro w hSw; (try dsimp only at hSw); go_simp); try with_reducible rfl)
            try simp only [Act.put, List.setIfInBounds_toArray, List.set_cons_zero, List.set_cons_succ]
            refine wpAnyH_ready (rs := [15]) (by kernel_rfl) (by simp) ?_
            refine AllReadyH.cons rfl (fun K hK => ?_) ?_
            · go_simp
              refine hK.out _ _ ?_ (fun hHeldN => ?_)
              · (try dsimp only)
                (first | exact new_keep (r := r) (g := g) h60 h61 h70 h71 hne (HU12.out.mono (fun _ _ h => .inr h)) | exact new_keep (r := r) (g := g) h60 h61 h70 h71 hne (Upd.setCell (S := fun q => q = r ∨ q = g) (HU12.out.mono (fun _ _ h => .inr h)) (p := ⟨r, 5, none⟩) (fun _ => .inl rfl) _) | exact new_keep (r := r) (g := g) h60 h61 h70 h71 hne ((Upd.refl _ wc).drew) | exact new_keep (r := r) (g := g) h60 h61 h70 h71 hne (((Upd.refl _ wc).alloc _).drew) | exact new_keep (r := r) (g := g) h60 h61 h70 h71 hne ((((Upd.refl _ wc).alloc _).alloc _).drew) | exact new_keep (r := r) (g := g) h60 h61 h70 h71 hne ((Upd.refl _ wc).alloc _) | exact new_keep (r := r) (g := g) h60 h61 h70 h71 hne (((Upd.refl _ wc).alloc _).alloc _))
              clear hK K hHeld
              have hHeld := hHeldN
              clear hHeldN
              try simp only [Act.put, List.setIfInBounds_toArray, List.set_cons_zero, List.set_cons_succ]
              refine wpAnyH_done (by kernel_rfl) ?_ _
              refine NoPanic.normal ?_
              exact HQ.out _ _ _ _ _ _ _ _ _ _ _ _ _ _ _ g12 q12 w12 HO12.out HU12.out HG12.out HV12.out
            exact AllReadyH.nil
          exact AllReadyH.nil
        exact AllReadyH.nil
      refine AllReadyH.cons rfl (fun K hK => ?_) ?_
      · go_simp
        refine hK.out _ _ ?_ (fun hHeldN => ?_)
        · (try dsimp only)
          (first | exact new_keep (r := r) (g := g) h60 h61 h70 h71 hne (HU12.out.mono (fun _ _ h => .inr h)) | exact new_keep (r := r) (g := g) h60 h61 h70 h71 hne (Upd.setCell (S := fun q => q = r ∨ q = g) (HU12.out.mono (fun _ _ h => .inr h)) (p := ⟨r, 5, none⟩) (fun _ => .inl rfl) _) | exact new_keep (r := r) (g := g) h60 h61 h70 h71 hne ((Upd.refl _ wc).drew) | exact new_keep (r := r) (g := g) h60 h61 h70 h71 hne (((Upd.refl _ wc).alloc _).drew) | exact new_keep (r := r) (g := g) h60 h61 h70 h71 hne ((((Upd.refl _ wc).alloc _).alloc _).drew) | exact new_keep (r := r) (g := g) h60 h61 h70 h71 hne ((Upd.refl _ wc).alloc _) | exact new_keep (r := r) (g := g) h60 h61 h70 h71 hne (((Upd.refl _ wc).alloc _).alloc _))
        clear hK K hHeld
        have hHeld := hHeldN
        clear hHeldN
        try simp only [Act.put, List.setIfInBounds_toArray, List.set_cons_zero, List.set_cons_succ]
        refine wpAnyH_ready (rs := [4]) (by kernel_rfl) (by simp) ?_
        refine AllReadyH.cons rfl (fun K hK => ?_) ?_
        · go_simp
          refine hK.out _ _ ?_ (fun hHeldN => ?_)
          · (try dsimp only)
            (first | exact new_keep (r := r) (g := g) h60 h61 h70 h71 hne (HU12.out.mono (fun _ _ h => .inr h)) | exact new_keep (r := r) (g := g) h60 h61 h70 h71 hne (Upd.setCell (S := fun q => q = r ∨ q = g) (HU12.out.mono (fun _ _ h => .inr h)) (p := ⟨r, 5, none⟩) (fun _ => .inl rfl) _) | exact new_keep (r := r) (g := g) h60 h61 h70 h71 hne ((Upd.refl _ wc).drew) | exact new_keep (r := r) (g := g) h60 h61 h70 h71 hne (((Upd.refl _ wc).alloc _).drew) | exact new_keep (r := r) (g := g) h60 h61 h70 h71 hne ((((Upd.refl _ wc).alloc _).alloc _).drew) | exact new_keep (r := r) (g := g) h60 h61 h70 h71 hne ((Upd.refl _ wc).alloc _) | exact new_keep (r := r) (g := g) h60 h61 h70 h71 hne (((Upd.refl _ wc).alloc _).alloc _))
          clear hK K hHeld
          have hHeld := hHeldN
          clear hHeldN
          try simp only [Act.put, List.setIfInBounds_toArray, List.set_cons_zero, List.set_cons_succ]
          refine wpAnyH_ready (rs := [12]) (by kernel_rfl) (by simp) ?_
          refine AllReadyH.cons rfl (fun K hK => ?_) ?_
          · apply step_appE (s := .tmp 100) (x := .tmp 107) (v := .slice (some ⟨g, 0, none⟩) M.length cap) (l := M) (n0 := 0) (n := M.length) (N := M.length + 1) (z := ((⟨⟨f1, f2⟩, p, 0, [⟨t1, t2⟩]⟩, ⟨wc.heap.size, 1⟩) : RE))
            case hgd => rfl
            case ho => rfl
            case hs => rfl
            case hx => rfl
            case hl => rfl
            case hO => exact (HR.out.still (by first | exact (Upd.refl _ wc).drew | exact ((Upd.refl _ wc).alloc _).drew | exact (((Upd.refl _ wc).alloc _).alloc _).drew)).row
            case hv => exact fun k hk => Nat.zero_le _
            case hN => exact blk_news (by first | exact heap_alloc_at _ _ _ _ (by simp) | exact blk_drew (heap_alloc_at _ _ _ _ (by simp)) | exact blk_drew (Upd.blk ((Upd.refl (fun _ => False) _).alloc _) (heap_alloc_at _ _ _ _ (by simp)) (fun h => h)) | exact Upd.blk ((Upd.refl (fun _ => False) _).alloc _) (heap_alloc_at _ _ _ _ (by simp)) (fun h => h)) rfl
            case hm => rfl
            case hb => omega
            case hn0 => exact Nat.zero_le _
            intro g12 q12 w12 hO12 hU12 hor12 hlt12
            have HO12 := hid hO12
            have HV12 : Hid (w12.heap[wc.heap.size]? = some (.cells #[.int .u32 t1, .int .i64 t2] 26 (0, 0))) := hid (hU12.blk (by first | exact heap_alloc_at _ _ _ _ (by simp) | exact blk_drew (heap_alloc_at _ _ _ _ (by simp)) | exact blk_drew (Upd.blk ((Upd.refl (fun _ => False) _).alloc _) (heap_alloc_at _ _ _ _ (by simp)) (fun h => h)) | exact Upd.blk ((Upd.refl (fun _ => False) _).alloc _) (heap_alloc_at _ _ _ _ (by simp)) (fun h => h)) (fun e => by have h := ownBlk e; omega))
            have HU12 : Hid (Upd (fun q => q = g) wc w12) := hid ((sub_upd (r := g) (by first | exact (Upd.refl _ wc).drew | exact ((Upd.refl _ wc).alloc _).drew | exact (((Upd.refl _ wc).alloc _).alloc _).drew)).then_ hU12 (fun q hq e => ownBlk e))
            have HG12 : Hid (g12 = g ∨ wc.heap.size ≤ g12) := hid (hor12.elim (fun h => .inl (ownBlk h)) (fun h => .inr (Nat.le_trans (Upd.size (S := fun _ => False) (w := wc) (by first | exact (Upd.refl _ wc).drew | exact ((Upd.refl _ wc).alloc _).drew | exact (((Upd.refl _ wc).alloc _).alloc _).drew)) h)))
            have gc := HU12.out.cell h5 hrg
            have gf := (HU12.out.frozen (p := ⟨r, 5, none⟩) hrl hrg).trans hfz
            clear hO12 hU12 hor12 hlt12
            refine hK.out _ _ ?_ (fun hHeldN => ?_)
            · (try dsimp only)
              (first | exact new_keep (r := r) (g := g) h60 h61 h70 h71 hne (HU12.out.mono (fun _ _ h => .inr h)) | exact new_keep (r := r) (g := g) h60 h61 h70 h71 hne (Upd.setCell (S := fun q => q = r ∨ q = g) (HU12.out.mono (fun _ _ h => .inr h)) (p := ⟨r, 5, none⟩) (fun _ => .inl rfl) _) | exact new_keep (r := r) (g := g) h60 h61 h70 h71 hne ((Upd.refl _ wc).drew) | exact new_keep (r := r) (g := g) h60 h61 h70 h71 hne (((Upd.refl _ wc).alloc _).drew) | exact new_keep (r := r) (g := g) h60 h61 h70 h71 hne ((((Upd.refl _ wc).alloc _).alloc _).drew) | exact new_keep (r := r) (g := g) h60 h61 h70 h71 hne ((Upd.refl _ wc).alloc _) | exact new_keep (r := r) (g := g) h60 h61 h70 h71 hne (((Upd.refl _ wc).alloc _).alloc _))
            clear hK K hHeld
            have hHeld := hHeldN
            clear hHeldN
            try simp only [Act.put, List.setIfInBounds_toArray, List.set_cons_zero, List.set_cons_succ]
            refine wpAnyH_take (i := 13) (v := ?_) rfl (by kernel_rfl) (by kernel_rfl) (by kernel_rfl) (fun _ _ _ h => h) (Or.inl ⟨by rfl, ?_⟩) (by assumption) ?_
            rotate_left
            · ((intro w hSw; (try dsimp only at hSw); go_simp); try with_reducible rfl)
            try simp only [Act.put, List.setIfInBounds_toArray, List.set_cons_zero, List.set_cons_succ]
            refine wpAnyH_take (i := 14) (v := ?_) rfl (by kernel_rfl) (by kernel_rfl) (by kernel_rfl) (fun _ _ _ h => h) (Or.inl ⟨by rfl, ?_⟩) (by assumption) ?_
            rotate_left
            · ((intro w hSw; (try dsimp only at hSw); go_simp); try with_reducible rfl)
            try simp only [Act.put, List.setIfInBounds_toArray, List.set_cons_zero, List.set_cons_succ]
            refine wpAnyH_ready (rs := [15]) (by kernel_rfl) (by simp) ?_
            refine AllReadyH.cons rfl (fun K hK => ?_) ?_
            · go_simp
              refine hK.out _ _ ?_ (fun hHeldN => ?_)
              · (try dsimp only)
                (first | exact new_keep (r := r) (g := g) h60 h61 h70 h71 hne (HU12.out.mono (fun _ _ h => .inr h)) | exact new_keep (r := r) (g := g) h60 h61 h70 h71 hne (Upd.setCell (S := fun q => q = r ∨ q = g) (HU12.out.mono (fun _ _ h => .inr h)) (p := ⟨r, 5, none⟩) (fun _ => .inl rfl) _) | exact new_keep (r := r) (g := g) h60 h61 h70 h71 hne ((Upd.refl _ wc).drew) | exact new_keep (r := r) (g := g) h60 h61 h70 h71 hne (((Upd.refl _ wc).alloc _).drew) | exact new_keep (r := r) (g := g) h60 h61 h70 h71 hne ((((Upd.refl _ wc).alloc _).alloc _).drew) | exact new_keep (r := r) (g := g) h60 h61 h70 h71 hne ((Upd.refl _ wc).alloc _) | exact new_keep (r := r) (g := g) h60 h61 h70 h71 hne (((Upd.refl _ wc).alloc _).alloc _))
              clear hK K hHeld
              have hHeld := hHeldN
              clear hHeldN
              try simp only [Act.put, List.setIfInBounds_toArray, List.set_cons_zero, List.set_cons_succ]
              refine wpAnyH_done (by kernel_rfl) ?_ _
              refine NoPanic.normal ?_
              exact HQ.out _ _ _ _ _ _ _ _ _ _ _ _ _ _ _ g12 q12 w12 HO12.out HU12.out HG12.out HV12.out
            exact AllReadyH.nil
          exact AllReadyH.nil
        exact AllReadyH.nil
      exact AllReadyH.nil
    exact AllReadyH.nil
  refine AllReadyH.cons rfl (fun K hK => ?_) ?_
  · go_simp
    refine hK.out _ _ ?_ (fun hHeldN => ?_)
    · (try dsimp only)
      (first | exact new_keep (r := r) (g := g) h60 h61 h70 h71 hne (HU12.out.mono (fun _ _ h => .inr h)) | exact new_keep (r := r) (g := g) h60 h61 h70 h71 hne (Upd.setCell (S := fun q => q = r ∨ q = g) (HU12.out.mono (fun _ _ h => .inr h)) (p := ⟨r, 5, none⟩) (fun _ => .inl rfl) _) | exact new_keep (r := r) (g := g) h60 h61 h70 h71 hne ((Upd.refl _ wc).drew) | exact new_keep (r := r) (g := g) h60 h61 h70 h71 hne (((Upd.refl _ wc).alloc _).drew) | exact new_keep (r := r) (g := g) h60 h61 h70 h71 hne ((((Upd.refl _ wc).alloc _).alloc _).drew) | exact new_keep (r := r) (g := g) h60 h61 h70 h71 hne ((Upd.refl _ wc).alloc _) | exact new_keep (r := r) (g := g) h60 h61 h70 h71 hne (((Upd.refl _ wc).alloc _).alloc _))
    clear hK K hHeld
    have hHeld := hHeldN
    clear hHeldN
    try simp only [Act.put, List.setIfInBounds_toArray, List.set_cons_zero, List.set_cons_succ]
    refine wpAnyH_ready (rs := [4, 7]) (by kernel_rfl) (by simp) ?_
    refine AllReadyH.cons rfl (fun K hK => ?_) ?_
    · go_simp
      refine hK.out _ _ ?_ (fun hHeldN => ?_)
      · (try dsimp only)
        (first | exact new_keep (r := r) (g := g) h60 h61 h70 h71 hne (HU12.out.mono (fun _ _ h => .inr h)) | exact new_keep (r := r) (g := g) h60 h61 h70 h71 hne (Upd.setCell (S := fun q => q = r ∨ q = g) (HU12.out.mono (fun _ _ h => .inr h)) (p := ⟨r, 5, none⟩) (fun _ => .inl rfl) _) | exact new_keep (r := r) (g := g) h60 h61 h70 h71 hne ((Upd.refl _ wc).drew) | exact new_keep (r := r) (g := g) h60 h61 h70 h71 hne (((Upd.refl _ wc).alloc _).drew) | exact new_keep (r := r) (g := g) h60 h61 h70 h71 hne ((((Upd.refl _ wc).alloc _).alloc _).drew) | exact new_keep (r := r) (g := g) h60 h61 h70 h71 hne ((Upd.refl _ wc).alloc _) | exact new_keep (r := r) (g := g) h60 h61 h70 h71 hne (((Upd.refl _ wc).alloc _).alloc _))
      clear hK K hHeld
      have hHeld := hHeldN
      clear hHeldN
      try simp only [Act.put, List.setIfInBounds_toArray, List.set_cons_zero, List.set_cons_succ]
      refine wpAnyH_ready (rs := [7]) (by kernel_rfl) (by simp) ?_
      refine AllReadyH.cons rfl (fun K hK => ?_) ?_
      · go_simp
        go_at_call 31
        refine (port31_any r c (some ⟨g, 0, none⟩) cap M _ (HR.out.still (by first | exact (Upd.refl _ wc).drew | exact ((Upd.refl _ wc).alloc _).drew | exact (((Upd.refl _ wc).alloc _).alloc _).drew)) hM).mono ?_
        rintro e w' ⟨rfl, rfl⟩
        rw [HP.out]
        try go_wp2_with fail
        refine hK.out _ _ ?_ (fun hHeldN => ?_)
        · (try dsimp only)
          (first | exact new_keep (r := r) (g := g) h60 h61 h70 h71 hne (HU12.out.mono (fun _ _ h => .inr h)) | exact new_keep (r := r) (g := g) h60 h61 h70 h71 hne (Upd.setCell (S := fun q => q = r ∨ q = g) (HU12.out.mono (fun _ _ h => .inr h)) (p := ⟨r, 5, none⟩) (fun _ => .inl rfl) _) | exact new_keep (r := r) (g := g) h60 h61 h70 h71 hne ((Upd.refl _ wc).drew) | exact new_keep (r := r) (g := g) h60 h61 h70 h71 hne (((Upd.refl _ wc).alloc _).drew) | exact new_keep (r := r) (g := g) h60 h61 h70 h71 hne ((((Upd.refl _ wc).alloc _).alloc _).drew) | exact new_keep (r := r) (g := g) h60 h61 h70 h71 hne ((Upd.refl _ wc).alloc _) | exact new_keep (r := r) (g := g) h60 h61 h70 h71 hne (((Upd.refl _ wc).alloc _).alloc _))
        clear hK K hHeld
        have hHeld := hHeldN
        clear hHeldN
        try simp only [Act.put, List.setIfInBounds_toArray, List.set_cons_zero, List.set_cons_succ]
        refine wpAnyH_take (i := 10) (v := ?_) rfl (by kernel_rfl) (by kernel_rfl) (by kernel_rfl) (fun _ _ _ h => h) (Or.inl ⟨by rfl, ?_⟩) (by assumption) ?_
        rotate_left
        · ((intro w hSw; (try dsimp only at hSw); go_simp); try with_reducible rfl)
        try simp only [Act.put, List.setIfInBounds_toArray, List.set_cons_zero, List.set_cons_succ]
        refine wpAnyH_ready (rs := [11]) (by kernel_rfl) (by simp) ?_
        refine AllReadyH.cons rfl (fun K hK => ?_) ?_
        · go_simp
          refine hK.out _ _ ?_ (fun hHeldN => ?_)
          · (try dsimp only)
            (first | exact new_keep (r := r) (g := g) h60 h61 h70 h71 hne (HU12.out.mono (fun _ _ h => .inr h)) | exact new_keep (r := r) (g := g) h60 h61 h70 h71 hne (Upd.setCell (S := fun q => q = r ∨ q = g) (HU12.out.mono (fun _ _ h => .inr h)) (p := ⟨r, 5, none⟩) (fun _ => .inl rfl) _) | exact new_keep (r := r) (g := g) h60 h61 h70 h71 hne ((Upd.refl _ wc).drew) | exact new_keep (r := r) (g := g) h60 h61 h70 h71 hne (((Upd.refl _ wc).alloc _).drew) | exact new_keep (r := r) (g := g) h60 h61 h70 h71 hne ((((Upd.refl _ wc).alloc _).alloc _).drew) | exact new_keep (r := r) (g := g) h60 h61 h70 h71 hne ((Upd.refl _ wc).alloc _) | exact new_keep (r := r) (g := g) h60 h61 h70 h71 hne (((Upd.refl _ wc).alloc _).alloc _))
          clear hK K hHeld
          have hHeld := hHeldN
          clear hHeldN
          try simp only [Act.put, List.setIfInBounds_toArray, List.set_cons_zero, List.set_cons_succ]
          refine wpAnyH_ready (rs := [12]) (by kernel_rfl) (by simp) ?_
          refine AllReadyH.cons rfl (fun K hK => ?_) ?_
          · apply step_appE (s := .tmp 100) (x := .tmp 107) (v := .slice (some ⟨g, 0, none⟩) M.length cap) (l := M) (n0 := 0) (n := M.length) (N := M.length + 1) (z := ((⟨⟨f1, f2⟩, p, 0, [⟨t1, t2⟩]⟩, ⟨wc.heap.size, 1⟩) : RE))
            case hgd => rfl
            case ho => rfl
            case hs => rfl
            case hx => rfl
            case hl => rfl
            case hO => exact (HR.out.still (by first | exact (Upd.refl _ wc).drew | exact ((Upd.refl _ wc).alloc _).drew | exact (((Upd.refl _ wc).alloc _).alloc _).drew)).row
            case hv => exact fun k hk => Nat.zero_le _
            case hN => exact blk_news (by first | exact heap_alloc_at _ _ _ _ (by simp) | exact blk_drew (heap_alloc_at _ _ _ _ (by simp)) | exact blk_drew (Upd.blk ((Upd.refl (fun _ => False) _).alloc _) (heap_alloc_at _ _ _ _ (by simp)) (fun h => h)) | exact Upd.blk ((Upd.refl (fun _ => False) _).alloc _) (heap_alloc_at _ _ _ _ (by simp)) (fun h => h)) rfl
            case hm => rfl
            case hb => omega
            case hn0 => exact Nat.zero_le _
            intro g12 q12 w12 hO12 hU12 hor12 hlt12
            have HO12 := hid hO12
            have HV12 : Hid (w12.heap[wc.heap.size]? = some (.cells #[.int .u32 t1, .int .i64 t2] 26 (0, 0))) := hid (hU12.blk (by first | exact heap_alloc_at _ _ _ _ (by simp) | exact blk_drew (heap_alloc_at _ _ _ _ (by simp)) | exact blk_drew (Upd.blk ((Upd.refl (fun _ => False) _).alloc _) (heap_alloc_at _ _ _ _ (by simp)) (fun h => h)) | exact Upd.blk ((Upd.refl (fun _ => False) _).alloc _) (heap_alloc_at _ _ _ _ (by simp)) (fun h => h)) (fun e => by have h := ownBlk e; omega))
            have HU12 : Hid (Upd (fun q => q = g) wc w12) := hid ((sub_upd (r := g) (by first | exact (Upd.refl _ wc).drew | exact ((Upd.refl _ wc).alloc _).drew | exact (((Upd.refl _ wc).alloc _).alloc _).drew)).then_ hU12 (fun q hq e => ownBlk e))
            have HG12 : Hid (g12 = g ∨ wc.heap.size ≤ g12) := hid (hor12.elim (fun h => .inl (ownBlk h)) (fun h => .inr (Nat.le_trans (Upd.size (S := fun _ => False) (w := wc) (by first | exact (Upd.refl _ wc).drew | exact ((Upd.refl _ wc).alloc _).drew | exact (((Upd.refl _ wc).alloc _).alloc _).drew)) h)))
            have gc := HU12.out.cell h5 hrg
            have gf := (HU12.out.frozen (p := ⟨r, 5, none⟩) hrl hrg).trans hfz
            clear hO12 hU12 hor12 hlt12
            refine hK.out _ _ ?_ (fun hHeldN => ?_)
            · (try dsimp only)
              (first | exact new_keep (r := r) (g := g) h60 h61 h70 h71 hne (HU12.out.mono (fun _ _ h => .inr h)) | exact new_keep (r := r) (g := g) h60 h61 h70 h71 hne (Upd.setCell (S := fun q => q = r ∨ q = g) (HU12.out.mono (fun _ _ h => .inr h)) (p := ⟨r, 5, none⟩) (fun _ => .inl rfl) _) | exact new_keep (r := r) (g := g) h60 h61 h70 h71 hne ((Upd.refl _ wc).drew) | exact new_keep (r := r) (g := g) h60 h61 h70 h71 hne (((Upd.refl _ wc).alloc _).drew) | exact new_keep (r := r) (g := g) h60 h61 h70 h71 hne ((((Upd.refl _ wc).alloc _).alloc _).drew) | exact new_keep (r := r) (g := g) h60 h61 h70 h71 hne ((Upd.refl _ wc).alloc _) | exact new_keep (r := r) (g := g) h60 h61 h70 h71 hne (((Upd.refl _ wc).alloc _).alloc _))
            clear hK K hHeld
            have hHeld := hHeldN
            clear hHeldN
            try simp only [Act.put, List.setIfInBounds_toArray, List.set_cons_zero, List.set_cons_succ]
            refine wpAnyH_take (i := 13) (v := ?_) rfl (by kernel_rfl) (by kernel_rfl) (by kernel_rfl) (fun _ _ _ h => h) (Or.inl ⟨by rfl, ?_⟩) (by assumption) ?_
            rotate_left
            · ((intro w hSw; (try dsimp only at hSw); go_simp); try with_reducible rfl)
            try simp only [Act.put, List.setIfInBounds_toArray, List.set_cons_zero, List.set_cons_succ]
            refine wpAnyH_take (i := 14) (v := ?_) rfl (by kernel_rfl) (by kernel_rfl) (by kernel_rfl) (fun _ _ _ h => h) (Or.inl ⟨by rfl, ?_⟩) (by assumption) ?_
            rotate_left
            · ((intro w hSw; (try dsimp only at hSw); go_simp); try with_reducible rfl)
            try simp only [Act.put, List.setIfInBounds_toArray, List.set_cons_zero, List.set_cons_succ]
            refine wpAnyH_ready (rs := [15]) (by kernel_rfl) (by simp) ?_
            refine AllReadyH.cons rfl (fun K hK => ?_) ?_
            · go_simp
              refine hK.out _ _ ?_ (fun hHeldN => ?_)
              · (try dsimp only)
                (first | exact new_keep (r := r) (g := g) h60 h61 h70 h71 hne (HU12.out.mono (fun _ _ h => .inr h)) | exact new_keep (r := r) (g := g) h60 h61 h70 h71 hne (Upd.setCell (S := fun q => q = r ∨ q = g) (HU12.out.mono (fun _ _ h => .inr h)) (p := ⟨r, 5, none⟩) (fun _ => .inl rfl) _) | exact new_keep (r := r) (g := g) h60 h61 h70 h71 hne ((Upd.refl _ wc).drew) | exact new_keep (r := r) (g := g) h60 h61 h70 h71 hne (((Upd.refl _ wc).alloc _).drew) | exact new_keep (r := r) (g := g) h60 h61 h70 h71 hne ((((Upd.refl _ wc).alloc _).alloc _).drew) | exact new_keep (r := r) (g := g) h60 h61 h70 h71 hne ((Upd.refl _ wc).alloc _) | exact new_keep (r := r) (g := g) h60 h61 h70 h71 hne (((Upd.refl _ wc).alloc _).alloc _))
              clear hK K hHeld
              have hHeld := hHeldN
              clear hHeldN
              try simp only [Act.put, List.setIfInBounds_toArray, List.set_cons_zero, List.set_cons_succ]
              refine wpAnyH_done (by kernel_rfl) ?_ _
              refine NoPanic.normal ?_
              exact HQ.out _ _ _ _ _ _ _ _ _ _ _ _ _ _ _ g12 q12 w12 HO12.out HU12.out HG12.out HV12.out
            exact AllReadyH.nil
          exact AllReadyH.nil
        exact AllReadyH.nil
      exact AllReadyH.nil
    refine AllReadyH.cons rfl (fun K hK => ?_) ?_
    · go_simp
      go_at_call 31
      refine (port31_any r c (some ⟨g, 0, none⟩) cap M _ (HR.out.still (by first | exact (Upd.refl _ wc).drew | exact ((Upd.refl _ wc).alloc _).drew | exact (((Upd.refl _ wc).alloc _).alloc _).drew)) hM).mono ?_
      rintro e w' ⟨rfl, rfl⟩
      rw [HP.out]
      try go_wp2_with fail
      refine hK.out _ _ ?_ (fun hHeldN => ?_)
      · (try dsimp only)
        (first | exact new_keep (r := r) (g := g) h60 h61 h70 h71 hne (HU12.out.mono (fun _ _ h => .inr h)) | exact new_keep (r := r) (g := g) h60 h61 h70 h71 hne (Upd.setCell (S := fun q => q = r ∨ q = g) (HU12.out.mono (fun _ _ h => .inr h)) (p := ⟨r, 5, none⟩) (fun _ => .inl rfl) _) | exact new_keep (r := r) (g := g) h60 h61 h70 h71 hne ((Upd.refl _ wc).drew) | exact new_keep (r := r) (g := g) h60 h61 h70 h71 hne (((Upd.refl _ wc).alloc _).drew) | exact new_keep (r := r) (g := g) h60 h61 h70 h71 hne ((((Upd.refl _ wc).alloc _).alloc _).drew) | exact new_keep (r := r) (g := g) h60 h61 h70 h71 hne ((Upd.refl _ wc).alloc _) | exact new_keep (r := r) (g := g) h60 h61 h70 h71 hne (((Upd.refl _ wc).alloc _).alloc _))
      clear hK K hHeld
      have hHeld := hHeldN
      clear hHeldN
      try simp only [Act.put, List.setIfInBounds_toArray, List.set_cons_zero, List.set_cons_succ]
      refine wpAnyH_take (i := 10) (v := ?_) rfl (by kernel_rfl) (by kernel_rfl) (by kernel_rfl) (fun _ _ _ h => h) (Or.inl ⟨by rfl, ?_⟩) (by assumption) ?_
      rotate_left
      · ((intro w hSw; (try dsimp only at hSw); go_simp); try with_reducible rfl)
      try simp only [Act.put, List.setIfInBounds_toArray, List.set_cons_zero, List.set_cons_succ]
      refine wpAnyH_ready (rs := [4, 11]) (by kernel_rfl) (by simp) ?_
      refine AllReadyH.cons rfl (fun K hK => ?_) ?_
      · go_simp
        refine hK.out _ _ ?_ (fun hHeldN => ?_)
        · (try dsimp only)
          (first | exact new_keep (r := r) (g := g) h60 h61 h70 h71 hne (HU12.out.mono (fun _ _ h => .inr h)) | exact new_keep (r := r) (g := g) h60 h61 h70 h71 hne (Upd.setCell (S := fun q => q = r ∨ q = g) (HU12.out.mono (fun _ _ h => .inr h)) (p := ⟨r, 5, none⟩) (fun _ => .inl rfl) _) | exact new_keep (r := r) (g := g) h60 h61 h70 h71 hne ((Upd.refl _ wc).drew) | exact new_keep (r := r) (g := g) h60 h61 h70 h71 hne (((Upd.refl _ wc).alloc _).drew) | exact new_keep (r := r) (g := g) h60 h61 h70 h71 hne ((((Upd.refl _ wc).alloc _).alloc _).drew) | exact new_keep (r := r) (g := g) h60 h61 h70 h71 hne ((Upd.refl _ wc).alloc _) | exact new_keep (r := r) (g := g) h60 h61 h70 h71 hne (((Upd.refl _ wc).alloc _).alloc _))
        clear hK K hHeld
        have hHeld := hHeldN
        clear hHeldN
        try simp only [Act.put, List.setIfInBounds_toArray, List.set_cons_zero, List.set_cons_succ]
        refine wpAnyH_ready (rs := [11]) (by kernel_rfl) (by simp) ?_
        refine AllReadyH.cons rfl (fun K hK => ?_) ?_
        · go_simp
          refine hK.out _ _ ?_ (fun hHeldN => ?_)
          · (try dsimp only)
            (first | exact new_keep (r := r) (g := g) h60 h61 h70 h71 hne (HU12.out.mono (fun _ _ h => .inr h)) | exact new_keep (r := r) (g := g) h60 h61 h70 h71 hne (Upd.setCell (S := fun q => q = r ∨ q = g) (HU12.out.mono (fun _ _ h => .inr h)) (p := ⟨r, 5, none⟩) (fun _ => .inl rfl) _) | exact new_keep (r := r) (g := g) h60 h61 h70 h71 hne ((Upd.refl _ wc).drew) | exact new_keep (r := r) (g := g) h60 h61 h70 h71 hne (((Upd.refl _ wc).alloc _).drew) | exact new_keep (r := r) (g := g) h60 h61 h70 h71 hne ((((Upd.refl _ wc).alloc _).alloc _).drew) | exact new_keep (r := r) (g := g) h60 h61 h70 h71 hne ((Upd.refl _ wc).alloc _) | exact new_keep (r := r) (g := g) h60 h61 h70 h71 hne (((Upd.refl _ wc).alloc _).alloc _))
          clear hK K hHeld
          have hHeld := hHeldN
          clear hHeldN
          try simp only [Act.put, List.setIfInBounds_toArray, List.set_cons_zero, List.set_cons_succ]
          refine wpAnyH_ready (rs := [12]) (by kernel_rfl) (by simp) ?_
          refine AllReadyH.cons rfl (fun K hK => ?_) ?_
          · apply step_appE (s := .tmp 100) (x := .tmp 107) (v := .slice (some ⟨g, 0, none⟩) M.length cap) (l := M) (n0 := 0) (n := M.length) (N := M.length + 1) (z := ((⟨⟨f1, f2⟩, p, 0, [⟨t1, t2⟩]⟩, ⟨wc.heap.size, 1⟩) : RE))
            case hgd => rfl
            case ho => rfl
            case hs => rfl
            case hx => rfl
            case hl => rfl
            case hO => exact (HR.out.still (by first | exact (Upd.refl _ wc).drew | exact ((Upd.refl _ wc).alloc _).drew | exact (((Upd.refl _ wc).alloc _).alloc _).drew)).row
            case hv => exact fun k hk => Nat.zero_le _
            case hN => exact blk_news (by first | exact heap_alloc_at _ _ _ _ (by simp) | exact blk_drew (heap_alloc_at _ _ _ _ (by simp)) | exact blk_drew (Upd.blk ((Upd.refl (fun _ => False) _).alloc _) (heap_alloc_at _ _ _ _ (by simp)) (fun h => h)) | exact Upd.blk ((Upd.refl (fun _ => False) _).alloc _) (heap_alloc_at _ _ _ _ (by simp)) (fun h => h)) rfl
            case hm => rfl
            case hb => omega
            case hn0 => exact Nat.zero_le _
            intro g12 q12 w12 hO12 hU12 hor12 hlt12
            have HO12 := hid hO12
            have HV12 : Hid (w12.heap[wc.heap.size]? = some (.cells #[.int .u32 t1, .int .i64 t2] 26 (0, 0))) := hid (hU12.blk (by first | exact heap_alloc_at _ _ _ _ (by simp) | exact blk_drew (heap_alloc_at _ _ _ _ (by simp)) | exact blk_drew (Upd.blk ((Upd.refl (fun _ => False) _).alloc _) (heap_alloc_at _ _ _ _ (by simp)) (fun h => h)) | exact Upd.blk ((Upd.refl (fun _ => False) _).alloc _) (heap_alloc_at _ _ _ _ (by simp)) (fun h => h)) (fun e => by have h := ownBlk e; omega))
            have HU12 : Hid (Upd (fun q => q = g) wc w12) := hid ((sub_upd (r := g) (by first | exact (Upd.refl _ wc).drew | exact ((Upd.refl _ wc).alloc _).drew | exact (((Upd.refl _ wc).alloc _).alloc _).drew)).then_ hU12 (fun q hq e => ownBlk e))
            have HG12 : Hid (g12 = g ∨ wc.heap.size ≤ g12) := hid (hor12.elim (fun h => .inl (ownBlk h)) (fun h => .inr (Nat.le_trans (Upd.size (S := fun _ => False) (w := wc) (by first | exact (Upd.refl _ wc).drew | exact ((Upd.refl _ wc).alloc _).drew | exact (((Upd.refl _ wc).alloc _).alloc _).drew)) h)))
            have gc := HU12.out.cell h5 hrg
            have gf := (HU12.out.frozen (p := ⟨r, 5, none⟩) hrl hrg).trans hfz
            clear hO12 hU12 hor12 hlt12
            refine hK.out _ _ ?_ (fun hHeldN => ?_)
            · (try dsimp only)
              (first | exact new_keep (r := r) (g := g) h60 h61 h70 h71 hne (HU12.out.mono (fun _ _ h => .inr h)) | exact new_keep (r := r) (g := g) h60 h61 h70 h71 hne (Upd.setCell (S := fun q => q = r ∨ q = g) (HU12.out.mono (fun _ _ h => .inr h)) (p := ⟨r, 5, none⟩) (fun _ => .inl rfl) _) | exact new_keep (r := r) (g := g) h60 h61 h70 h71 hne ((Upd.refl _ wc).drew) | exact new_keep (r := r) (g := g) h60 h61 h70 h71 hne (((Upd.refl _ wc).alloc _).drew) | exact new_keep (r := r) (g := g) h60 h61 h70 h71 hne ((((Upd.refl _ wc).alloc _).alloc _).drew) | exact new_keep (r := r) (g := g) h60 h61 h70 h71 hne ((Upd.refl _ wc).alloc _) | exact new_keep (r := r) (g := g) h60 h61 h70 h71 hne (((Upd.refl _ wc).alloc _).alloc _))
            clear hK K hHeld
            have hHeld := hHeldN
            clear hHeldN
            try simp only [Act.put, List.setIfInBounds_toArray, List.set_cons_zero, List.set_cons_succ]
            refine wpAnyH_take (i := 13) (v := ?_) rfl (by kernel_rfl) (by kernel_rfl) (by kernel_rfl) (fun _ _ _ h => h) (Or.inl ⟨by rfl, ?_⟩) (by assumption) ?_
            rotate_left
            · ((intro w hSw; (try dsimp only at hSw); go_simp); try with_reducible rfl)
            try simp only [Act.put, List.setIfInBounds_toArray, List.set_cons_zero, List.set_cons_succ]
            refine wpAnyH_take (i := 14) (v := ?_) rfl (by kernel_rfl) (by kernel_rfl) (by kernel_rfl) (fun _ _ _ h => h) (Or.inl ⟨by rfl, ?_⟩) (by assumption) ?_
            rotate_left
            · ((intro w hSw; (try dsimp only at hSw); go_simp); try with_reducible rfl)
            try simp only [Act.put, List.setIfInBounds_toArray, List.set_cons_zero, List.set_cons_succ]
            refine wpAnyH_ready (rs := [15]) (by kernel_rfl) (by simp) ?_
            refine AllReadyH.cons rfl (fun K hK => ?_) ?_
            · go_simp
              refine hK.out _ _ ?_ (fun hHeldN => ?_)
              · (try dsimp only)
                (first | exact new_keep (r := r) (g := g) h60 h61 h70 h71 hne (HU12.out.mono (fun _ _ h => .inr h)) | exact new_keep (r := r) (g := g) h60 h61 h70 h71 hne (Upd.setCell (S := fun q => q = r ∨ q = g) (HU12.out.mono (fun _ _ h => .inr h)) (p := ⟨r, 5, none⟩) (fun _ => .inl rfl) _) | exact new_keep (r := r) (g := g) h60 h61 h70 h71 hne ((Upd.refl _ wc).drew) | exact new_keep (r := r) (g := g) h60 h61 h70 h71 hne (((Upd.refl _ wc).alloc _).drew) | exact new_keep (r := r) (g := g) h60 h61 h70 h71 hne ((((Upd.refl _ wc).alloc _).alloc _).drew) | exact new_keep (r := r) (g := g) h60 h61 h70 h71 hne ((Upd.refl _ wc).alloc _) | exact new_keep (r := r) (g := g) h60 h61 h70 h71 hne (((Upd.refl _ wc).alloc _).alloc _))
              clear hK K hHeld
              have hHeld := hHeldN
              clear hHeldN
              try simp only [Act.put, List.setIfInBounds_toArray, List.set_cons_zero, List.set_cons_succ]
              refine wpAnyH_done (by kernel_rfl) ?_ _
              refine NoPanic.normal ?_
              exact HQ.out _ _ _ _ _ _ _ _ _ _ _ _ _ _ _ g12 q12 w12 HO12.out HU12.out HG12.out HV12.out
            exact AllReadyH.nil
          exact AllReadyH.nil
        exact AllReadyH.nil
      refine AllReadyH.cons rfl (fun K hK => ?_) ?_
      · go_simp
        refine hK.out _ _ ?_ (fun hHeldN => ?_)
        · (try dsimp only)
          (first | exact new_keep (r := r) (g := g) h60 h61 h70 h71 hne (HU12.out.mono (fun _ _ h => .inr h)) | exact new_keep (r := r) (g := g) h60 h61 h70 h71 hne (Upd.setCell (S := fun q => q = r ∨ q = g) (HU12.out.mono (fun _ _ h => .inr h)) (p := ⟨r, 5, none⟩) (fun _ => .inl rfl) _) | exact new_keep (r := r) (g := g) h60 h61 h70 h71 hne ((Upd.refl _ wc).drew) | exact new_keep (r := r) (g := g) h60 h61 h70 h71 hne (((Upd.refl _ wc).alloc _).drew) | exact new_keep (r := r) (g := g) h60 h61 h70 h71 hne ((((Upd.refl _ wc).alloc _).alloc _).drew) | exact new_keep (r := r) (g := g) h60 h61 h70 h71 hne ((Upd.refl _ wc).alloc _) | exact new_keep (r := r) (g := g) h60 h61 h70 h71 hne (((Upd.refl _ wc).alloc _).alloc _))
        clear hK K hHeld
        have hHeld := hHeldN
        clear hHeldN
        try simp only [Act.put, List.setIfInBounds_toArray, List.set_cons_zero, List.set_cons_succ]
        refine wpAnyH_ready (rs := [4]) (by kernel_rfl) (by simp) ?_
        refine AllReadyH.cons rfl (fun K hK => ?_) ?_
        · go_simp
          refine hK.out _ _ ?_ (fun hHeldN => ?_)
          · (try dsimp only)
            (first | exact new_keep (r := r) (g := g) h60 h61 h70 h71 hne (HU12.out.mono (fun _ _ h => .inr h)) | exact new_keep (r := r) (g := g) h60 h61 h70 h71 hne (Upd.setCell (S := fun q => q = r ∨ q = g) (HU12.out.mono (fun _ _ h => .inr h)) (p := ⟨r, 5, none⟩) (fun _ => .inl rfl) _) | exact new_keep (r := r) (g := g) h60 h61 h70 h71 hne ((Upd.refl _ wc).drew) | exact new_keep (r := r) (g := g) h60 h61 h70 h71 hne (((Upd.refl _ wc).alloc _).drew) | exact new_keep (r := r) (g := g) h60 h61 h70 h71 hne ((((Upd.refl _ wc).alloc _).alloc _).drew) | exact new_keep (r := r) (g := g) h60 h61 h70 h71 hne ((Upd.refl _ wc).alloc _) | exact new_keep (r := r) (g := g) h60 h61 h70 h71 hne (((Upd.refl _ wc).alloc _).alloc _))
          clear hK K hHeld
          have hHeld := hHeldN
          clear hHeldN
          try simp only [Act.put, List.setIfInBounds_toArray, List.set_cons_zero, List.set_cons_succ]
          refine wpAnyH_ready (rs := [12]) (by kernel_rfl) (by simp) ?_
          refine AllReadyH.cons rfl (fun K hK => ?_) ?_
          · apply step_appE (s := .tmp 100) (x := .tmp 107) (v := .slice (some ⟨g, 0, none⟩) M.length cap) (l := M) (n0 := 0) (n := M.length) (N := M.length + 1) (z := ((⟨⟨f1, f2⟩, p, 0, [⟨t1, t2⟩]⟩, ⟨wc.heap.size, 1⟩) : RE))
            case hgd => rfl
            case ho => rfl
            case hs => rfl
            case hx => rfl
            case hl => rfl
            case hO => exact (HR.out.still (by first | exact (Upd.refl _ wc).drew | exact ((Upd.refl _ wc).alloc _).drew | exact (((Upd.refl _ wc).alloc _).alloc _).drew)).row
            case hv => exact fun k hk => Nat.zero_le _
            case hN => exact blk_news (by first | exact heap_alloc_at _ _ _ _ (by simp) | exact blk_drew (heap_alloc_at _ _ _ _ (by simp)) | exact blk_drew (Upd.blk ((Upd.refl (fun _ => False) _).alloc _) (heap_alloc_at _ _ _ _ (by simp)) (fun h => h)) | exact Upd.blk ((Upd.refl (fun _ => False) _).alloc _) (heap_alloc_at _ _ _ _ (by simp)) (fun h => h)) rfl
            case hm => rfl
            case hb => omega
            case hn0 => exact Nat.zero_le _
            intro g12 q12 w12 hO12 hU12 hor12 hlt12
            have HO12 := hid hO12
            have HV12 : Hid (w12.heap[wc.heap.size]? = some (.cells #[.int .u32 t1, .int .i64 t2] 26 (0, 0))) := hid (hU12.blk (by first | exact heap_alloc_at _ _ _ _ (by simp) | exact blk_drew (heap_alloc_at _ _ _ _ (by simp)) | exact blk_drew (Upd.blk ((Upd.refl (fun _ => False) _).alloc _) (heap_alloc_at _ _ _ _ (by simp)) (fun h => h)) | exact Upd.blk ((Upd.refl (fun _ => False) _).alloc _) (heap_alloc_at _ _ _ _ (by simp)) (fun h => h)) (fun e => by have h := ownBlk e; omega))
            have HU12 : Hid (Upd (fun q => q = g) wc w12) := hid ((sub_upd (r := g) (by first | exact (Upd.refl _ wc).drew | exact ((Upd.refl _ wc).alloc _).drew | exact (((Upd.refl _ wc).alloc _).alloc _).drew)).then_ hU12 (fun q hq e => ownBlk e))
            have HG12 : Hid (g12 = g ∨ wc.heap.size ≤ g12) := hid (hor12.elim (fun h => .inl (ownBlk h)) (fun h => .inr (Nat.le_trans (Upd.size (S := fun _ => False) (w := wc) (by first | exact (Upd.refl _ wc).drew | exact ((Upd.refl _ wc).alloc _).drew | exact (((Upd.refl _ wc).alloc _).alloc _).drew)) h)))
            have gc := HU12.out.cell h5 hrg
            have gf := (HU12.out.frozen (p := ⟨r, 5, none⟩) hrl hrg).trans hfz
            clear hO12 hU12 hor12 hlt12
            refine hK.out _ _ ?_ (fun hHeldN => ?_)
            · (try dsimp only)
              (first | exact new_keep (r := r) (g := g) h60 h61 h70 h71 hne (HU12.out.mono (fun _ _ h => .inr h)) | exact new_keep (r := r) (g := g) h60 h61 h70 h71 hne (Upd.setCell (S := fun q => q = r ∨ q = g) (HU12.out.mono (fun _ _ h => .inr h)) (p := ⟨r, 5, none⟩) (fun _ => .inl rfl) _) | exact new_keep (r := r) (g := g) h60 h61 h70 h71 hne ((Upd.refl _ wc).drew) | exact new_keep (r := r) (g := g) h60 h61 h70 h71 hne (((Upd.refl _ wc).alloc _).drew) | exact new_keep (r := r) (g := g) h60 h61 h70 h71 hne ((((Upd.refl _ wc).alloc _).alloc _).drew) | exact new_keep (r := r) (g := g) h60 h61 h70 h71 hne ((Upd.refl _ wc).alloc _) | exact new_keep (r := r) (g := g) h60 h61 h70 h71 hne (((Upd.refl _ wc).alloc _).alloc _))
            clear hK K hHeld
            have hHeld := hHeldN
            clear hHeldN
            try simp only [Act.put, List.setIfInBounds_toArray, List.set_cons_zero, List.set_cons_succ]
            refine wpAnyH_take (i := 13) (v := ?_) rfl (by kernel_rfl) (by kernel_rfl) (by kernel_rfl) (fun _ _ _ h => h) (Or.inl ⟨by rfl, ?_⟩) (by assumption) ?_
            rotate_left
            · ((intro w hSw; (try dsimp only at hSw); go_simp); try with_reducible rfl)
            try simp only [Act.put, List.setIfInBounds_toArray, List.set_cons_zero, List.set_cons_succ]
            refine wpAnyH_take (i := 14) (v := ?_) rfl (by kernel_rfl) (by kernel_rfl) (by kernel_rfl) (fun _ _ _ h => h) (Or.inl ⟨by rfl, ?_⟩) (by assumption) ?_
            rotate_left
            · ((intro w hSw; (try dsimp only at hSw); go_simp); try with_reducible rfl)
            try simp only [Act.put, List.setIfInBounds_toArray, List.set_cons_zero, List.set_cons_succ]
            refine wpAnyH_ready (rs := [15]) (by kernel_rfl) (by simp) ?_
            refine AllReadyH.cons rfl (fun K hK => ?_) ?_
            · go_simp
              refine hK.out _ _ ?_ (fun hHeldN => ?_)
              · (try dsimp only)
                (first | exact new_keep (r := r) (g := g) h60 h61 h70 h71 hne (HU12.out.mono (fun _ _ h => .inr h)) | exact new_keep (r := r) (g := g) h60 h61 h70 h71 hne (Upd.setCell (S := fun q => q = r ∨ q = g) (HU12.out.mono (fun _ _ h => .inr h)) (p := ⟨r, 5, none⟩) (fun _ => .inl rfl) _) | exact new_keep (r := r) (g := g) h60 h61 h70 h71 hne ((Upd.refl _ wc).drew) | exact new_keep (r := r) (g := g) h60 h61 h70 h71 hne (((Upd.refl _ wc).alloc _).drew) | exact new_keep (r := r) (g := g) h60 h61 h70 h71 hne ((((Upd.refl _ wc).alloc _).alloc _).drew) | exact new_keep (r := r) (g := g) h60 h61 h70 h71 hne ((Upd.refl _ wc).alloc _) | exact new_keep (r := r) (g := g) h60 h61 h70 h71 hne (((Upd.refl _ wc).alloc _).alloc _))
              clear hK K hHeld
              have hHeld := hHeldN
              clear hHeldN
              try simp only [Act.put, List.setIfInBounds_toArray, List.set_cons_zero, List.set_cons_succ]
              refine wpAnyH_done (by kernel_rfl) ?_ _
              refine NoPanic.normal ?_
              exact HQ.out _ _ _ _ _ _ _ _ _ _ _ _ _ _ _ g12 q12 w12 HO12.out HU12.out HG12.out HV12.out
            exact AllReadyH.nil
          exact AllReadyH.nil
        exact AllReadyH.nil
      exact AllReadyH.nil
    exact AllReadyH.nil
  exact AllReadyH.nil
end Go.Proofs.Ytbcchdnbfblooaa
