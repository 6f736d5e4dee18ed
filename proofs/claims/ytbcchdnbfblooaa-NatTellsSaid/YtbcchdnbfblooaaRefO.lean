/- The document's Out (no statement of the seat). -/
import Derived.Test.YtbcchdnbfblooaaRefN
import Derived.Laws.StructEq
namespace Go.Proofs.Ytbcchdnbfblooaa
open Go.RowKit
set_option linter.unusedSimpArgs false
set_option linter.unusedVariables false
noncomputable def reg8 : Code := ((Try.f20.body.bind (regAt 8)).getD .skip)
set_option maxRecDepth 1000000 in
set_option maxHeartbeats 8000000 in
theorem reg8_any (Q : Exit → Act → World → Prop) (r b7 nx ro n rc : Nat) (mp s1 s2 t1 t2 : Int) (wr : World) (hn : 0 < n)
    (h1 : wr.cell? ⟨r, 1, none⟩ = some (.int .i64 mp)) (hx : wr.cell? ⟨nx, 4, none⟩ = some (.slice (some ⟨ro, 0, none⟩) n rc)) (hs1 : wr.cell? ⟨ro, 0, none⟩ = some (.int .u32 s1)) (hs2 : wr.cell? ⟨ro, 1, none⟩ = some (.int .i64 s2)) (h70 : wr.cell? ⟨b7, 0, none⟩ = some (.int .u32 t1)) (h71 : wr.cell? ⟨b7, 1, none⟩ = some (.int .i64 t2))
    (u1 u2 u3 u4 u5 u6 u8 u9 u10 u11 u13 u14 u15 u16 u17 u18 u19 u20 u21 u22 u23 u24 u25 u26 u27 u28 u29 u30 u31 u32 u33 u34 u35 u36 u37 u38 u39 u40 u41 u42 u43 u44 u45 u46 u47 u48 u49 u50 u51 u52 u53 u54 u55 u56 u57 u58 u59 u60 u61 u62 u63 u64 u65 u66 u67 u68 u69 u70 u71 u72 u73 u74 u75 u76 u77 u78 u79 u80 u81 u82 u83 u84 u85 u86 u87 u88 u89 u90 u91 u92 u93 u94 u95 u96 u97 u98 u99 u100 u101 u102 u103 u104 u105 u106 u107 u108 u109 u110 u111 u112 u113 u114 u115 u116 u117 u118 u119 u120 u121 u122 u123 u124 u125 u126 u127 u128 u129 u130 u131 u132 u133 u134 u135 u136 u137 u138 u139 u140 u141 u142 u143 u144 u145 u146 u147 u148 u149 u150 u151 u152 u153 u154 u155 u156 u157 u158 u159 u160 u161 u162 u163 u164 u165 u166 u167 u168 u169 u170 u171 u172 u173 u174 u175 u176 : Value)
    (HQ : Hid (∀ (δ : Bool) (v40 v41 v42 v43 v44 v45 v46 v47 v48 v49 v50 v51 v52 v53 v54 v55 v56 v57 v58 v59 v60 v61 v62 v63 v64 v65 v66 v67 v68 v69 v70 v71 v72 v73 : Value) (nq : Nat), (δ = true ↔ mp = 1 ∨ (s1 = t1 ∧ (mp = 2 ∨ s2 = t2))) → Q .normal ⟨(ptr r :: u1 :: u2 :: u3 :: u4 :: u5 :: u6 :: ptr b7 :: u8 :: u9 :: u10 :: u11 :: ptr nx :: .bool δ :: u14 :: u15 :: u16 :: u17 :: u18 :: u19 :: u20 :: u21 :: u22 :: u23 :: u24 :: u25 :: u26 :: u27 :: u28 :: u29 :: u30 :: u31 :: u32 :: u33 :: u34 :: u35 :: u36 :: u37 :: u38 :: u39 :: v40 :: v41 :: v42 :: v43 :: v44 :: v45 :: v46 :: v47 :: v48 :: v49 :: v50 :: v51 :: v52 :: v53 :: v54 :: v55 :: v56 :: v57 :: v58 :: v59 :: v60 :: v61 :: v62 :: v63 :: v64 :: v65 :: v66 :: v67 :: v68 :: v69 :: v70 :: v71 :: v72 :: v73 :: u74 :: u75 :: u76 :: u77 :: u78 :: u79 :: u80 :: u81 :: u82 :: u83 :: u84 :: u85 :: u86 :: u87 :: u88 :: u89 :: u90 :: u91 :: u92 :: u93 :: u94 :: u95 :: u96 :: u97 :: u98 :: u99 :: u100 :: u101 :: u102 :: u103 :: u104 :: u105 :: u106 :: u107 :: u108 :: u109 :: u110 :: u111 :: u112 :: u113 :: u114 :: u115 :: u116 :: u117 :: u118 :: u119 :: u120 :: u121 :: u122 :: u123 :: u124 :: u125 :: u126 :: u127 :: u128 :: u129 :: u130 :: u131 :: u132 :: u133 :: u134 :: u135 :: u136 :: u137 :: u138 :: u139 :: u140 :: u141 :: u142 :: u143 :: u144 :: u145 :: u146 :: u147 :: u148 :: u149 :: u150 :: u151 :: u152 :: u153 :: u154 :: u155 :: u156 :: u157 :: u158 :: u159 :: u160 :: u161 :: u162 :: u163 :: u164 :: u165 :: u166 :: u167 :: u168 :: u169 :: u170 :: u171 :: u172 :: u173 :: u174 :: u175 :: u176 :: []).toArray, []⟩ (wr.drewN nq))) :
    Code.wp Try.prog reg8 Q ⟨(ptr r :: u1 :: u2 :: u3 :: u4 :: u5 :: u6 :: ptr b7 :: u8 :: u9 :: u10 :: u11 :: ptr nx :: u13 :: u14 :: u15 :: u16 :: u17 :: u18 :: u19 :: u20 :: u21 :: u22 :: u23 :: u24 :: u25 :: u26 :: u27 :: u28 :: u29 :: u30 :: u31 :: u32 :: u33 :: u34 :: u35 :: u36 :: u37 :: u38 :: u39 :: u40 :: u41 :: u42 :: u43 :: u44 :: u45 :: u46 :: u47 :: u48 :: u49 :: u50 :: u51 :: u52 :: u53 :: u54 :: u55 :: u56 :: u57 :: u58 :: u59 :: u60 :: u61 :: u62 :: u63 :: u64 :: u65 :: u66 :: u67 :: u68 :: u69 :: u70 :: u71 :: u72 :: u73 :: u74 :: u75 :: u76 :: u77 :: u78 :: u79 :: u80 :: u81 :: u82 :: u83 :: u84 :: u85 :: u86 :: u87 :: u88 :: u89 :: u90 :: u91 :: u92 :: u93 :: u94 :: u95 :: u96 :: u97 :: u98 :: u99 :: u100 :: u101 :: u102 :: u103 :: u104 :: u105 :: u106 :: u107 :: u108 :: u109 :: u110 :: u111 :: u112 :: u113 :: u114 :: u115 :: u116 :: u117 :: u118 :: u119 :: u120 :: u121 :: u122 :: u123 :: u124 :: u125 :: u126 :: u127 :: u128 :: u129 :: u130 :: u131 :: u132 :: u133 :: u134 :: u135 :: u136 :: u137 :: u138 :: u139 :: u140 :: u141 :: u142 :: u143 :: u144 :: u145 :: u146 :: u147 :: u148 :: u149 :: u150 :: u151 :: u152 :: u153 :: u154 :: u155 :: u156 :: u157 :: u158 :: u159 :: u160 :: u161 :: u162 :: u163 :: u164 :: u165 :: u166 :: u167 :: u168 :: u169 :: u170 :: u171 :: u172 :: u173 :: u174 :: u175 :: u176 :: []).toArray, []⟩ wr := by
  conv => arg 2; whnf
  have hn' : (0 : Int) < (n : Int) := by omega
  by_cases m1 : mp = 1
  · have n1 : (mp == 1) = true := by simp [m1]
    have HM := hid m1
    clear m1
    go_quiet (fail)
    go_wp2_with fail
    exact HQ.out true _ _ _ _ _ _ _ _ _ _ _ _ _ _ _ _ _ _ _ _ _ _ _ _ _ _ _ _ _ _ _ _ _ _ _ (by simp [HM.out])
  · have n1 : (mp == 1) = false := by simp [m1]
    by_cases g1 : s1 = t1
    · have n2 : (s1 == t1) = true := by simp [g1]
      by_cases m2 : mp = 2
      · have n3 : (mp == 2) = true := by simp [m2]
        have HM := hid (And.intro g1 m2)
        clear m1 g1 m2
        go_quiet (fail)
        go_wp2_with fail
        exact HQ.out true _ _ _ _ _ _ _ _ _ _ _ _ _ _ _ _ _ _ _ _ _ _ _ _ _ _ _ _ _ _ _ _ _ _ _ (by simp [HM.out.1, HM.out.2])
      · have n3 : (mp == 2) = false := by simp [m2]
        obtain ⟨δ, hδ⟩ : ∃ δ, (s2 == t2) = δ := ⟨_, rfl⟩
        have HM := hid (And.intro m1 (And.intro g1 (And.intro m2 hδ)))
        clear m1 g1 m2
        go_quiet (fail)
        go_wp2_with fail
        refine HQ.out δ _ _ _ _ _ _ _ _ _ _ _ _ _ _ _ _ _ _ _ _ _ _ _ _ _ _ _ _ _ _ _ _ _ _ _ ?_
        rw [← HM.out.2.2.2]
        simp [HM.out.1, HM.out.2.1, HM.out.2.2.1]
    · have n2 : (s1 == t1) = false := by simp [g1]
      have HM := hid (And.intro m1 g1)
      clear m1 g1
      go_quiet (fail)
      go_wp2_with fail
      exact HQ.out false _ _ _ _ _ _ _ _ _ _ _ _ _ _ _ _ _ _ _ _ _ _ _ _ _ _ _ _ _ _ _ _ _ _ _ (by simp [HM.out.1, HM.out.2])
/-- How far the search has come. -/
def SrchR (c : Cfg) (M : List RE) (f1 f2 t1 t2 : Int) (w2 : World) (a v : Value) (wr : World) : Prop :=
  ∃ (k : Nat) (ix : Int), k ≤ M.length ∧ v = .int .i64 k ∧ a = .int .i64 ix ∧ -1 ≤ ix ∧ Hid ((ix = -1 ∧ ∀ j, j < k → keyB c.map ⟨f1, f2⟩ ⟨t1, t2⟩ (M.getD j default).1 = false) ∨ (∃ q : Nat, ix = q ∧ q < M.length ∧ keyB c.map ⟨f1, f2⟩ ⟨t1, t2⟩ (M.getD q default).1 = true)) ∧ Hid (Upd (fun _ => False) w2 wr)
theorem eql_ad26 (a b c d : Int) (w : World) : Sem.run Try.prog (binOp .eql 26 (.agg #[.int .u32 a, .int .i64 b]) (.agg #[.int .u32 c, .int .i64 d])) w = .ok (.bool (decide (a = c ∧ b = d))) w := by
  rw [run_eql_struct, show (10000 : Nat) = 9999 + 1 from rfl, run_equalIn_struct w 9999 26 _ _ (by kernel_rfl) (by kernel_rfl)]
  simp [go_sem]
  by_cases h1 : a = c
  · by_cases h2 : b = d <;> simp [h1, h2]
  · simp [h1]
set_option maxRecDepth 100000 in
set_option maxHeartbeats 8000000 in
theorem rout20_any (r : Nat) (c : Cfg) (A : Option Addr) (cap : Nat) (l : List RE) (now : Int) (fr tt : Ad) (w : World) (h : RefAt r c A cap l w) (R : Right c) (G : Good c.map (l.map Prod.fst)) :
    Calls Try.prog 20 #[ptr r, .int .i64 now, fr.v, tt.v] w (RefPost r c l (outL c now fr tt (l.map Prod.fst)) w) := by
  obtain ⟨f1, f2⟩ := fr
  obtain ⟨t1, t2⟩ := tt
  have H := hid h
  have HR := hid R
  have HG := hid G
  have hrl := h.lt
  clear h R G
  go_enter Try.func20, Try.ntmps20
  go_wp2_with fail
  refine (cut30_any now _).mono ?_
  rintro e w1 ⟨rfl, rfl⟩
  obtain ⟨w1, hw1⟩ : ∃ w1, ((w.alloc (.cells #[.int .u32 f1, .int .i64 f2] 26)).alloc (.cells #[.int .u32 t1, .int .i64 t2] 26)).alloc (.cells #[.int .u32 0, .int .i64 0] 26) = w1 := ⟨_, rfl⟩
  have hu1 : Upd (fun _ => False) w w1 := hw1 ▸ (((Upd.refl _ w).alloc _).alloc _).alloc _
  have hA : w1.heap[w.heap.size]? = some (.cells #[.int .u32 f1, .int .i64 f2] 26 (0, 0)) := by
    rw [← hw1]; exact (((Upd.refl (fun _ => False) _).alloc _).alloc _).blk (heap_alloc_new w _) (fun h => h)
  have hB : w1.heap[w.heap.size + 1]? = some (.cells #[.int .u32 t1, .int .i64 t2] 26 (0, 0)) := by
    rw [← hw1]
    refine ((Upd.refl (fun _ => False) _).alloc _).blk ?_ (fun h => h)
    have := heap_alloc_new (w.alloc (.cells #[.int .u32 f1, .int .i64 f2] 26)) (.cells #[.int .u32 t1, .int .i64 t2] 26)
    simpa using this
  have hC : w1.heap[w.heap.size + 1 + 1]? = some (.cells #[.int .u32 0, .int .i64 0] 26 (0, 0)) := by
    rw [← hw1]
    have := heap_alloc_new ((w.alloc (.cells #[.int .u32 f1, .int .i64 f2] 26)).alloc (.cells #[.int .u32 t1, .int .i64 t2] 26)) (.cells #[.int .u32 0, .int .i64 0] 26)
    simpa using this
  rw [hw1]
  obtain ⟨B, hBB⟩ : ∃ B, w.heap.size = B := ⟨_, rfl⟩
  rw [hBB] at hA hB hC hrl ⊢
  have HBB := hid hBB
  have HU1 := hid hu1
  have HTI := hid (cutT_in now)
  obtain ⟨t, hT⟩ : ∃ t, cutT now = t := ⟨_, rfl⟩
  have HT := hid hT
  rw [hT] at HTI ⊢
  clear hw1 hu1 hBB hT
  go_wp2_with fail
  refine (late29_any r c A cap l t w1 (H.out.still HU1.out) HTI.out ⟨HR.out.tmo0, HR.out.tmo1⟩ (by have := HG.out.len; rw [List.length_map] at this; omega)).mono ?_
  rintro e w2 ⟨rfl, g, cap2, hR2, hg, hu2⟩
  have HH := hid hR2
  have HA := hid (hu2.blk hA (by omega))
  have HB := hid (hu2.blk hB (by omega))
  have HC := hid (hu2.blk hC (by omega))
  have HU2 : Hid (Upd (fun q => q = r) w w2) := hid ((sub_upd HU1.out).trans hu2)
  have hfst := aliveR_fst t c.tmo l
  have hG2 := HG.out.alive t c.tmo
  rw [← hfst] at hG2
  obtain ⟨M, hM⟩ : ∃ M, aliveR t c.tmo l = M := ⟨_, rfl⟩
  rw [hM] at HH hfst hG2
  have HFS := hid hfst
  have HG2 := hid hG2
  have hm64 : M.length ≤ 64 := by have := hG2.len; rwa [List.length_map] at this
  have hmc : M.length ≤ cap2 := row_capE HH.out.row
  have HLT := hid (show ∀ z, z ∈ M → z ∈ l ∧ z.2.row < B from fun z hz => by
    rw [← hM] at hz
    have h1 := (List.mem_filter.1 hz).1
    have := (H.out.sent z h1).lt
    have := HBB.out
    exact ⟨h1, by omega⟩)
  have HGB := hid (show r < B ∧ B ≤ B + 1 + 1 ∧ B + 1 + 1 < g ∧ B + 1 + 1 < w1.heap.size ∧ w1.heap.size ≤ g ∧ B ≤ w1.heap.size ∧ w1.heap.size ≤ w2.heap.size from by
    have := lt_of_block hC
    have := HU1.out.size
    have := HBB.out
    have := hu2.size
    omega)
  clear hR2 hu2 hA hB hC hfst hG2 hM H HG HU1 hg
  go_wp2_with fail
  go_loopw [10, 11] (fun a v wr => SrchR c M f1 f2 t1 t2 w2 a v wr) (fun _ v _ => M.length - (intOf v).toNat)
  case atStart => exact ⟨0, -1, Nat.zero_le _, rfl, rfl, by omega, hid (.inl ⟨rfl, fun j hj => by omega⟩), hid (Upd.refl _ _)⟩
  case round =>
    obtain ⟨k, ix, hk, rfl, rfl, hix, HI, HX⟩ := hrel
    obtain ⟨b0, b1, b2, b4, b5⟩ := (HH.out.still HX.out).cells
    by_cases hgo : k < M.length ∧ ix < 0
    · obtain ⟨hkl, hi0⟩ := hgo
      have hm1 : ix = -1 := by omega
      subst hm1
      obtain ⟨gl, hgl, c0, c1, c2, c3, c4⟩ := (HH.out.still HX.out).at_ k hkl
      obtain ⟨⟨⟨⟨i1, i2⟩, po, us, se⟩, ⟨ro, rc⟩⟩, hz⟩ : ∃ q, M.getD k default = q := ⟨_, rfl⟩
      rw [hz] at c0 c1 c2 c3 c4
      dsimp only at c0 c1 c2 c3 c4
      simp only [Option.some.injEq, Addr.mk.injEq, and_true] at hgl
      subst hgl
      have HZ := hid hz
      clear hz
      go_upto_region 8 with (fail)
      obtain ⟨w3, hw3⟩ : ∃ w3, wr.alloc (.cells #[.int .u32 i1, .int .i64 i2, .int .i64 po, .int .i64 us, .slice (some ⟨ro, 0, none⟩) se.length rc] 73) = w3 := ⟨_, rfl⟩
      have hu3 : Upd (fun _ => False) wr w3 := hw3 ▸ (Upd.refl _ wr).alloc _
      have hx := heap_alloc_new wr (.cells #[.int .u32 i1, .int .i64 i2, .int .i64 po, .int .i64 us, .slice (some ⟨ro, 0, none⟩) se.length rc] 73)
      rw [hw3] at hx ⊢
      obtain ⟨nx, hnx⟩ : ∃ nx, wr.heap.size = nx := ⟨_, rfl⟩
      rw [hnx] at hx ⊢
      have HX3 := hid (HX.out.trans hu3)
      have x0 : w3.cell? ⟨nx, 0, none⟩ = some (.int .u32 i1) := (blk_cell hx 0).trans rfl
      have x1 : w3.cell? ⟨nx, 1, none⟩ = some (.int .i64 i2) := (blk_cell hx 1).trans rfl
      have x4 : w3.cell? ⟨nx, 4, none⟩ = some (.slice (some ⟨ro, 0, none⟩) se.length rc) := (blk_cell hx 4).trans rfl
      replace b1 := hu3.cell b1 (fun h => h)
      have a0 : w3.cell? ⟨B, 0, none⟩ = some (.int .u32 f1) := HX3.out.cell ((blk_cell HA.out 0).trans rfl) (fun h => h)
      have a1 : w3.cell? ⟨B, 1, none⟩ = some (.int .i64 f2) := HX3.out.cell ((blk_cell HA.out 1).trans rfl) (fun h => h)
      have d0 : w3.cell? ⟨B + 1, 0, none⟩ = some (.int .u32 t1) := HX3.out.cell ((blk_cell HB.out 0).trans rfl) (fun h => h)
      have d1 : w3.cell? ⟨B + 1, 1, none⟩ = some (.int .i64 t2) := HX3.out.cell ((blk_cell HB.out 1).trans rfl) (fun h => h)
      have hmem := mem_at hkl HZ.out
      have hse0 : se ≠ [] := HG2.out.sent0 _ (List.mem_map_of_mem (f := Prod.fst) hmem)
      have hsel : 0 < se.length := List.length_pos_iff.2 hse0
      obtain ⟨bs, hbs, hbl, s1, s2⟩ := ((HH.out.sent _ hmem).upd (S := fun _ => False) HX3.out (fun h => h)).src 0 hsel
      simp only [Option.some.injEq, Addr.mk.injEq, and_true] at hbs
      subst hbs
      have hhd : Ent.head ⟨⟨i1, i2⟩, po, us, se⟩ = se.getD 0 ⟨0, 0⟩ := by
        unfold Ent.head
        cases se with
        | nil => exact absurd rfl hse0
        | cons a r => rfl
      obtain ⟨⟨q1, q2⟩, hq⟩ : ∃ q, se.getD 0 ⟨0, 0⟩ = q := ⟨_, rfl⟩
      dsimp only at s1 s2
      rw [hq] at s1 s2 hhd
      simp only [Nat.zero_mul, Nat.zero_add] at s1 s2
      have hkey := keyB_iff c.map HR.out.map0 HR.out.map1 ⟨f1, f2⟩ ⟨t1, t2⟩ ⟨⟨i1, i2⟩, po, us, se⟩
      rw [hhd] at hkey
      have HKEY := hid hkey
      clear hw3 hu3 hx hnx c0 c1 c2 c3 c4 b0 b2 b4 b5 hkey hq hhd hbl hmem
      refine reg8_any _ r (B + 1) nx ro se.length rc c.map q1 q2 t1 t2 w3 hsel b1 x4 s1 s2 d0 d1 _ _ _ _ _ _ _ _ _ _ _ _ _ _ _ _ _ _ _ _ _ _ _ _ _ _ _ _ _ _ _ _ _ _ _ _ _ _ _ _ _ _ _ _ _ _ _ _ _ _ _ _ _ _ _ _ _ _ _ _ _ _ _ _ _ _ _ _ _ _ _ _ _ _ _ _ _ _ _ _ _ _ _ _ _ _ _ _ _ _ _ _ _ _ _ _ _ _ _ _ _ _ _ _ _ _ _ _ _ _ _ _ _ _ _ _ _ _ _ _ _ _ _ _ _ _ _ _ _ _ _ _ _ _ _ _ _ _ _ _ _ _ _ _ _ _ _ _ _ _ _ _ _ _ _ _ _ _ _ _ _ _ _ _ _ _ _ _ _ _ _ _ _ _ (hid ?_)
      intro δ v40 v41 v42 v43 v44 v45 v46 v47 v48 v49 v50 v51 v52 v53 v54 v55 v56 v57 v58 v59 v60 v61 v62 v63 v64 v65 v66 v67 v68 v69 v70 v71 v72 v73 nq hδ
      have HD := hid hδ
      replace x0 : (w3.drewN nq).cell? ⟨nx, 0, none⟩ = some (.int .u32 i1) := x0
      replace x1 : (w3.drewN nq).cell? ⟨nx, 1, none⟩ = some (.int .i64 i2) := x1
      replace a0 : (w3.drewN nq).cell? ⟨B, 0, none⟩ = some (.int .u32 f1) := a0
      replace a1 : (w3.drewN nq).cell? ⟨B, 1, none⟩ = some (.int .i64 f2) := a1
      have HX4 := hid (HX3.out.drewN nq)
      have HNO := hid (show ∀ j, j < k → keyB c.map ⟨f1, f2⟩ ⟨t1, t2⟩ (M.getD j default).1 = false from by
        rcases HI.out with ⟨_, h⟩ | ⟨q, h, _⟩
        · exact h
        · omega)
      clear hδ b1 x4 s1 s2 d0 d1 hse0 HI
      obtain ⟨γ, hγ⟩ : ∃ γ, decide (i1 = f1 ∧ i2 = f2) = γ := ⟨_, rfl⟩
      have HGA := hid hγ
      have eq1 : ∀ W, Sem.run Try.prog (binOp .eql 26 (.agg #[.int .u32 i1, .int .i64 i2]) (.agg #[.int .u32 f1, .int .i64 f2])) W = .ok (.bool γ) W := fun W => by rw [eql_ad26, hγ]
      clear hγ
      have hno2 : γ = false ∨ δ = false → ∀ j, j < k + 1 → keyB c.map ⟨f1, f2⟩ ⟨t1, t2⟩ (M.getD j default).1 = false := by
        intro h j hj
        by_cases e : j = k
        · subst e
          rw [HZ.out]
          cases hkb : keyB c.map ⟨f1, f2⟩ ⟨t1, t2⟩ ⟨⟨i1, i2⟩, po, us, se⟩ with
          | false => rfl
          | true =>
            have hh := HKEY.out.1 hkb
            rcases h with h | h
            · rw [← HGA.out, decide_eq_false_iff_not] at h
              exact absurd hh.1 h
            · have h2 := HD.out.2 hh.2
              rw [h2] at h
              cases h
        · exact HNO.out j (by omega)
      have HNO2 := hid hno2
      have hyes : γ = true → δ = true → keyB c.map ⟨f1, f2⟩ ⟨t1, t2⟩ (M.getD k default).1 = true := by
        intro h1 h2
        rw [HZ.out]
        rw [← HGA.out, decide_eq_true_eq] at h1
        exact HKEY.out.2 ⟨h1, HD.out.1 h2⟩
      have HYES := hid hyes
      clear hno2 hyes
      cases γ with
      | false =>
        have HN := hid (HNO2.out (.inl rfl))
        clear HNO2 HYES HD HGA
        go_wp2_with fail
        exact ⟨⟨k + 1, -1, by omega, by go_num, rfl, by omega, hid (.inl ⟨rfl, HN.out⟩), HX4⟩, by simp [intOf]; omega⟩
      | true =>
        cases δ with
        | false =>
          have HN := hid (HNO2.out (.inr rfl))
          clear HNO2 HYES HD HGA
          go_wp2_with fail
          exact ⟨⟨k + 1, -1, by omega, by go_num, rfl, by omega, hid (.inl ⟨rfl, HN.out⟩), HX4⟩, by simp [intOf]; omega⟩
        | true =>
          have HY := hid (HYES.out rfl rfl)
          clear HNO2 HYES HD HGA
          go_wp2_with fail
          exact ⟨⟨k + 1, k, by omega, by go_num, rfl, by omega, hid (.inr ⟨k, rfl, hkl, HY.out⟩), HX4⟩, by simp [intOf]; omega⟩
    · have HFIN : Hid (∀ e w', Tail11Post r g (B + 1 + 1) c M (outL c now ⟨f1, f2⟩ ⟨t1, t2⟩ (l.map Prod.fst)) wr e w' → RefPost r c l (outL c now ⟨f1, f2⟩ ⟨t1, t2⟩ (l.map Prod.fst)) w e w') := hid (by
        rintro e w' ⟨rfl, g', cap', l', hR', hm', hg', hrows, hu'⟩
        have hsz := HX.out.size
        have hgb := HGB.out
        have hbb := HBB.out
        refine ⟨rfl, _, cap', l', hR', hm', fun gx hgx => ?_, fun z hz => ?_, (HU2.out.trans (sub_upd HX.out)).then_ hu' (fun q hq h => ?_)⟩
        · simp only [Option.some.injEq, Addr.mk.injEq, and_true] at hgx
          subst hgx
          rcases hg' with h | h <;> omega
        · rcases hrows z hz with ⟨y, hy, e⟩ | h
          · exact .inl ⟨y, (HLT.out y hy).1, e⟩
          · right; omega
        · rcases h with h | h | h
          · exact h
          · omega
          · omega)
      have HIX : Hid ((ix = -1 ∧ Hid ((M.map Prod.fst).find? (keyB c.map ⟨f1, f2⟩ ⟨t1, t2⟩) = none)) ∨ (∃ k : Nat, ix = k ∧ k < M.length ∧ Hid (keyB c.map ⟨f1, f2⟩ ⟨t1, t2⟩ (M.getD k default).1 = true))) := hid (by
        rcases HI.out with ⟨h1, h2⟩ | ⟨q, h1, h2, h3⟩
        · left
          refine ⟨h1, hid (find_nothing (fun j hj => ?_))⟩
          rw [List.length_map] at hj
          rw [fst_getD M j hj]
          exact h2 j (by omega)
        · exact .inr ⟨q, h1, h2, hid h3⟩)
      clear HI b0 b1 b2 b4
      by_cases hkl : k < M.length
      · have hi0 : ¬ ix < 0 := fun h => hgo ⟨hkl, h⟩
        have hd0 : decide (ix < 0) = false := decide_eq_false hi0
        go_upto_if 30 with (fail)
        refine wp_cond_false rfl (wp_exit ?_)
        refine (show ∀ x y, Code.wp Try.prog tail11 _ x y → _ by assumption) _ _ ?_
        refine wp_mono (tail11_any r g cap2 B (B + 1) (B + 1 + 1) c (l.map Prod.fst) M now t f1 f2 t1 t2 ix wr (hid (HH.out.still HX.out)) HG2 (hid (by rw [HT.out]; exact HFS.out.symm)) HT (HX.out.blk HA.out (fun h => h)) (HX.out.blk HB.out (fun h => h)) (HX.out.blk HC.out (fun h => h)) ⟨by omega, by omega⟩ (fun z hz e => by have := (HLT.out z hz).2; omega) HIX.out _ _ _ _ _ _ _ _ _ _ _ _ _ _ _ _ _ _ _ _ _ _ _ _ _ _ _ _ _ _ _ _ _ _ _ _ _ _ _ _ _ _ _ _ _ _ _ _ _ _ _ _ _ _ _ _ _ _ _ _ _ _ _ _ _ _ _ _ _ _ _ _ _ _ _ _ _ _ _ _ _ _ _ _ _ _ _ _ _ _ _ _ _ _ _ _ _ _ _ _ _ _ _ _ _ _ _ _ _ _ _ _ _ _ _ _ _ _ _ _ _ _ _ _ _ _ _ _ _ _ _ _ _ _ _ _ _ _ _ _ _ _ _ _ _ _ _ _ _ _ _ _ _ _ _ _ _ _ _ _ _ _ _ _ _ _ _ _ _ _) (bodyPost_mono' ?_)
        exact HFIN.out
      · have hd1 : decide ((k : Int) < (M.length : Int)) = false := decide_eq_false (by omega)
        go_upto_if 30 with (fail)
        refine wp_cond_false rfl (wp_exit ?_)
        refine (show ∀ x y, Code.wp Try.prog tail11 _ x y → _ by assumption) _ _ ?_
        refine wp_mono (tail11_any r g cap2 B (B + 1) (B + 1 + 1) c (l.map Prod.fst) M now t f1 f2 t1 t2 ix wr (hid (HH.out.still HX.out)) HG2 (hid (by rw [HT.out]; exact HFS.out.symm)) HT (HX.out.blk HA.out (fun h => h)) (HX.out.blk HB.out (fun h => h)) (HX.out.blk HC.out (fun h => h)) ⟨by omega, by omega⟩ (fun z hz e => by have := (HLT.out z hz).2; omega) HIX.out _ _ _ _ _ _ _ _ _ _ _ _ _ _ _ _ _ _ _ _ _ _ _ _ _ _ _ _ _ _ _ _ _ _ _ _ _ _ _ _ _ _ _ _ _ _ _ _ _ _ _ _ _ _ _ _ _ _ _ _ _ _ _ _ _ _ _ _ _ _ _ _ _ _ _ _ _ _ _ _ _ _ _ _ _ _ _ _ _ _ _ _ _ _ _ _ _ _ _ _ _ _ _ _ _ _ _ _ _ _ _ _ _ _ _ _ _ _ _ _ _ _ _ _ _ _ _ _ _ _ _ _ _ _ _ _ _ _ _ _ _ _ _ _ _ _ _ _ _ _ _ _ _ _ _ _ _ _ _ _ _ _ _ _ _ _ _ _ _ _) (bodyPost_mono' ?_)
        exact HFIN.out
end Go.Proofs.Ytbcchdnbfblooaa
