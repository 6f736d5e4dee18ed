/- The document's Form of any two rows; the walk of IceForms (no statement of the seat). -/
import Derived.Test.YtoadbogfbgediaaDoorRef
import Derived.Test.YtoadbogfbgediaaDoorSymT
import Derived.Deep.CutRange
import Derived.Deep.QuietTactic
import Derived.BigQuiet
namespace Go.Proofs.YtoadbogfbgediaaDoor
open Go.RowKit
def regAtF (k : Nat) : Code → Option Code
  | .region id ops b => if id = k then some (.region id ops b) else Option.none
  | .seq a b => match regAtF k a with
    | some c => some c
    | Option.none => regAtF k b
  | .cond _ a b => match regAtF k a with
    | some c => some c
    | Option.none => regAtF k b
  | .block _ c => regAtF k c
  | .loop c => regAtF k c
  | .scope c => regAtF k c
  | _ => Option.none
noncomputable def cmpkF : Code := ((Tryd.f21.body.bind (regAtF 22)).getD .skip)
set_option maxRecDepth 1000000 in
set_option maxHeartbeats 4000000 in
theorem cmpkF_any (Q : Exit → Act → World → Prop) (g g2 n N cp c2 j x : Nat) (β : Bool) (q1 q2 q3 q4 c1 c2' c3 c4 : Int) (wr : World) (hxN : x < N) (hN : N ≤ c2) (hN8 : N ≤ 1000) (hjn : j < n) (hn : n ≤ 1000)
    (p1 : wr.cell? ⟨g2, x * 6, none⟩ = some (.int .u32 q1)) (p2 : wr.cell? ⟨g2, x * 6 + 1, none⟩ = some (.int .i64 q2)) (p3 : wr.cell? ⟨g2, x * 6 + 2, none⟩ = some (.int .u32 q3)) (p4 : wr.cell? ⟨g2, x * 6 + 3, none⟩ = some (.int .i64 q4))
    (r1 : wr.cell? ⟨g, j * 6, none⟩ = some (.int .u32 c1)) (r2 : wr.cell? ⟨g, j * 6 + 1, none⟩ = some (.int .i64 c2')) (r3 : wr.cell? ⟨g, j * 6 + 2, none⟩ = some (.int .u32 c3)) (r4 : wr.cell? ⟨g, j * 6 + 3, none⟩ = some (.int .i64 c4))
    (u0 u1 u2 u3 u4 u6 u7 u8 u9 u14 u15 u16 u17 u18 u19 u20 u21 u22 u23 u24 u25 u26 u27 u28 u29 u30 u31 u32 u33 u34 u35 u36 u37 u38 u39 u40 u41 u42 u43 u44 u45 u46 u47 u48 u49 u50 u51 u52 u53 u54 u55 u56 u57 u58 u59 u60 u61 u62 u63 u64 u65 u66 u67 u68 u69 u70 u71 u72 u73 u74 u75 u76 u77 u78 u79 u80 u81 u82 u83 u84 u85 u86 u87 u88 u89 u90 u91 u92 u93 u94 u95 u96 u97 u98 u99 u100 u101 u102 u103 u104 u105 u106 u107 u108 u109 u110 u111 u112 u113 u114 u115 u116 u117 u118 u119 u120 u121 u122 u123 u124 u125 u126 u127 u128 u129 u130 u131 u132 u133 u134 u135 u136 u137 u138 u139 u140 u141 u142 u143 u144 : Value)
    (HQ : Hid (∀ (δ : Bool) (v109 v110 v111 v112 v113 v114 v115 v116 v117 v118 v119 v120 v121 v122 v123 v124 v125 v126 v127 v128 v129 v130 v131 v132 v133 v134 v135 : Value) (nq : Nat), (δ = true ↔ β = true ∧ ¬ (q1 = c1 ∧ q2 = c2' ∧ q3 = c3 ∧ q4 = c4)) → Q .normal ⟨(u0 :: u1 :: u2 :: u3 :: u4 :: .slice (some ⟨g, 0, none⟩) n cp :: u6 :: u7 :: u8 :: u9 :: .slice (some ⟨g2, 0, none⟩) N c2 :: .int .i64 j :: .bool δ :: .int .i64 x :: u14 :: u15 :: u16 :: u17 :: u18 :: u19 :: u20 :: u21 :: u22 :: u23 :: u24 :: u25 :: u26 :: u27 :: u28 :: u29 :: u30 :: u31 :: u32 :: u33 :: u34 :: u35 :: u36 :: u37 :: u38 :: u39 :: u40 :: u41 :: u42 :: u43 :: u44 :: u45 :: u46 :: u47 :: u48 :: u49 :: u50 :: u51 :: u52 :: u53 :: u54 :: u55 :: u56 :: u57 :: u58 :: u59 :: u60 :: u61 :: u62 :: u63 :: u64 :: u65 :: u66 :: u67 :: u68 :: u69 :: u70 :: u71 :: u72 :: u73 :: u74 :: u75 :: u76 :: u77 :: u78 :: u79 :: u80 :: u81 :: u82 :: u83 :: u84 :: u85 :: u86 :: u87 :: u88 :: u89 :: u90 :: u91 :: u92 :: u93 :: u94 :: u95 :: u96 :: u97 :: u98 :: u99 :: u100 :: u101 :: u102 :: u103 :: u104 :: u105 :: u106 :: u107 :: u108 :: v109 :: v110 :: v111 :: v112 :: v113 :: v114 :: v115 :: v116 :: v117 :: v118 :: v119 :: v120 :: v121 :: v122 :: v123 :: v124 :: v125 :: v126 :: v127 :: v128 :: v129 :: v130 :: v131 :: v132 :: v133 :: v134 :: v135 :: u136 :: u137 :: u138 :: u139 :: u140 :: u141 :: u142 :: u143 :: u144 :: []).toArray, []⟩ (wr.drewN nq))) :
    Code.wp Tryd.prog cmpkF Q ⟨(u0 :: u1 :: u2 :: u3 :: u4 :: .slice (some ⟨g, 0, none⟩) n cp :: u6 :: u7 :: u8 :: u9 :: .slice (some ⟨g2, 0, none⟩) N c2 :: .int .i64 j :: .bool β :: .int .i64 x :: u14 :: u15 :: u16 :: u17 :: u18 :: u19 :: u20 :: u21 :: u22 :: u23 :: u24 :: u25 :: u26 :: u27 :: u28 :: u29 :: u30 :: u31 :: u32 :: u33 :: u34 :: u35 :: u36 :: u37 :: u38 :: u39 :: u40 :: u41 :: u42 :: u43 :: u44 :: u45 :: u46 :: u47 :: u48 :: u49 :: u50 :: u51 :: u52 :: u53 :: u54 :: u55 :: u56 :: u57 :: u58 :: u59 :: u60 :: u61 :: u62 :: u63 :: u64 :: u65 :: u66 :: u67 :: u68 :: u69 :: u70 :: u71 :: u72 :: u73 :: u74 :: u75 :: u76 :: u77 :: u78 :: u79 :: u80 :: u81 :: u82 :: u83 :: u84 :: u85 :: u86 :: u87 :: u88 :: u89 :: u90 :: u91 :: u92 :: u93 :: u94 :: u95 :: u96 :: u97 :: u98 :: u99 :: u100 :: u101 :: u102 :: u103 :: u104 :: u105 :: u106 :: u107 :: u108 :: u109 :: u110 :: u111 :: u112 :: u113 :: u114 :: u115 :: u116 :: u117 :: u118 :: u119 :: u120 :: u121 :: u122 :: u123 :: u124 :: u125 :: u126 :: u127 :: u128 :: u129 :: u130 :: u131 :: u132 :: u133 :: u134 :: u135 :: u136 :: u137 :: u138 :: u139 :: u140 :: u141 :: u142 :: u143 :: u144 :: []).toArray, []⟩ wr := by
  conv => arg 2; whnf
  cases β with
  | false =>
    go_quiet (fail)
    go_wp2_with fail
    exact HQ.out false _ _ _ _ _ _ _ _ _ _ _ _ _ _ _ _ _ _ _ _ _ _ _ _ _ _ _ _ (by simp)
  | true =>
    by_cases g3 : q1 = c1 ∧ q2 = c2'
    · have e3 : ∀ W, Sem.run Tryd.prog (binOp .neq 39 (.agg #[.int .u32 q1, .int .i64 q2]) (.agg #[.int .u32 c1, .int .i64 c2'])) W = .ok (.bool false) W := fun W => by rw [neq_adr, decide_eq_true g3]; rfl
      have HG3 := hid g3
      have e4 : ∀ W, Sem.run Tryd.prog (binOp .neq 39 (.agg #[.int .u32 q3, .int .i64 q4]) (.agg #[.int .u32 c3, .int .i64 c4])) W = .ok (.bool (!decide (q3 = c3 ∧ q4 = c4))) W := fun W => by rw [neq_adr]
      obtain ⟨δ, hδ⟩ : ∃ δ, (!decide (q3 = c3 ∧ q4 = c4)) = δ := ⟨_, rfl⟩
      rw [hδ] at e4
      have HD := hid hδ
      clear g3 hδ
      go_quiet (fail)
      go_wp2_with fail
      refine HQ.out δ _ _ _ _ _ _ _ _ _ _ _ _ _ _ _ _ _ _ _ _ _ _ _ _ _ _ _ _ ?_
      rw [← HD.out]
      have := HG3.out
      simp [this]
      omega
    · have e3 : ∀ W, Sem.run Tryd.prog (binOp .neq 39 (.agg #[.int .u32 q1, .int .i64 q2]) (.agg #[.int .u32 c1, .int .i64 c2'])) W = .ok (.bool true) W := fun W => by rw [neq_adr, decide_eq_false g3]; rfl
      have HG3 := hid g3
      clear g3
      go_quiet (fail)
      go_wp2_with fail
      refine HQ.out true _ _ _ _ _ _ _ _ _ _ _ _ _ _ _ _ _ _ _ _ _ _ _ _ _ _ _ _ ?_
      simp only [true_and, true_iff]
      exact fun h => HG3.out ⟨h.1, h.2.1⟩
end Go.Proofs.YtoadbogfbgediaaDoor

namespace Go.Proofs.YtoadbogfbgediaaDoor
open Go.RowKit
abbrev pP (c : Pr) : Int := c.p
noncomputable def tailF : Code := ((Tryd.f21.body.bind (findAt 14)).getD .skip)
set_option maxRecDepth 1000000 in
set_option maxHeartbeats 4000000 in
theorem tailF_any (L : List Pr) (l : List Pr) (g cp : Nat) (w wr : World) (HS : Hid (Sorted pP L l)) (HO : Hid (OwnG 42 encPr l w.heap.size g cp wr)) (HL2 : Hid (l.length ≤ 1000)) (HU : Hid (Upd (fun _ => False) w wr))
    (u0 u1 u2 u3 u6 u7 u8 u9 u10 u11 u12 u13 u14 u15 u16 u17 u18 u19 u20 u21 u22 u23 u24 u25 u26 u27 u28 u29 u30 u31 u32 u33 u34 u35 u36 u37 u38 u39 u40 u41 u42 u43 u44 u45 u46 u47 u48 u49 u50 u51 u52 u53 u54 u55 u56 u57 u58 u59 u60 u61 u62 u63 u64 u65 u66 u67 u68 u69 u70 u71 u72 u73 u74 u75 u76 u77 u78 u79 u80 u81 u82 u83 u84 u85 u86 u87 u88 u89 u90 u91 u92 u93 u94 u95 u96 u97 u98 u99 u100 u101 u102 u103 u104 u105 u106 u107 u108 u109 u110 u111 u112 u113 u114 u115 u116 u117 u118 u119 u120 u121 u122 u123 u124 u125 u126 u127 u128 u129 u130 u131 u132 u133 u134 u135 u136 u137 u138 u139 u140 u141 u142 u143 u144 : Value) :
    Code.wp Tryd.prog tailF (bodyPost Tryd.prog Tryd.f21 fun e w' => ∃ (l : List Pr) (g cp : Nat), Sorted pP L l ∧ e = .returned (.slice (some ⟨g, 0, none⟩) (min (kept (fun x => prK (l.getD x default)) l.length).length 16) cp) ∧ OwnG 42 encPr ((fewL (fun x => prK (l.getD x default)) l l.length).take 16) w.heap.size g cp w' ∧ Upd (fun _ => False) w w') ⟨(u0 :: u1 :: u2 :: u3 :: .slice none 0 0 :: .slice (some ⟨g, 0, none⟩) l.length cp :: u6 :: u7 :: u8 :: u9 :: u10 :: u11 :: u12 :: u13 :: u14 :: u15 :: u16 :: u17 :: u18 :: u19 :: u20 :: u21 :: u22 :: u23 :: u24 :: u25 :: u26 :: u27 :: u28 :: u29 :: u30 :: u31 :: u32 :: u33 :: u34 :: u35 :: u36 :: u37 :: u38 :: u39 :: u40 :: u41 :: u42 :: u43 :: u44 :: u45 :: u46 :: u47 :: u48 :: u49 :: u50 :: u51 :: u52 :: u53 :: u54 :: u55 :: u56 :: u57 :: u58 :: u59 :: u60 :: u61 :: u62 :: u63 :: u64 :: u65 :: u66 :: u67 :: u68 :: u69 :: u70 :: u71 :: u72 :: u73 :: u74 :: u75 :: u76 :: u77 :: u78 :: u79 :: u80 :: u81 :: u82 :: u83 :: u84 :: u85 :: u86 :: u87 :: u88 :: u89 :: u90 :: u91 :: u92 :: u93 :: u94 :: u95 :: u96 :: u97 :: u98 :: u99 :: u100 :: u101 :: u102 :: u103 :: u104 :: u105 :: u106 :: u107 :: u108 :: u109 :: u110 :: u111 :: u112 :: u113 :: u114 :: u115 :: u116 :: u117 :: u118 :: u119 :: u120 :: u121 :: u122 :: u123 :: u124 :: u125 :: u126 :: u127 :: u128 :: u129 :: u130 :: u131 :: u132 :: u133 :: u134 :: u135 :: u136 :: u137 :: u138 :: u139 :: u140 :: u141 :: u142 :: u143 :: u144 :: []).toArray, []⟩ wr := by
  conv => arg 2; whnf
  have hl1000 := HL2.out
  go_wp2_with fail
  have hu3 : Upd (fun _ => False) wr (wr.alloc (.cells #[] 42)) := (Upd.refl _ wr).alloc _
  have hb3 := heap_alloc_new wr (.cells #[] 42)
  obtain ⟨w3, hw3⟩ : ∃ w3, wr.alloc (.cells #[] 42) = w3 := ⟨_, rfl⟩
  rw [hw3] at hu3 hb3 ⊢
  have HU3 := hid (HU.out.trans hu3)
  have HB3 := hid hb3
  have HW3 := hid hu3
  have HCP := hid HO.out.cap_
  clear hw3 hb3 hu3
  go_loopw [10, 11] (fun v i wx => ∃ (j g2 c2 N : Nat), j ≤ l.length ∧ i = .int .i64 j ∧ v = .slice (some ⟨g2, 0, none⟩) N c2 ∧ N ≤ 16 ∧ Hid ((kept (fun x => prK (l.getD x default)) j).length = N) ∧ Hid (OwnG 42 encPr (fewL (fun x => prK (l.getD x default)) l j) wr.heap.size g2 c2 wx) ∧ Hid (Upd (fun _ => False) wr wx)) (fun _ i _ => l.length - (intOf i).toNat)
  case atStart => exact ⟨0, wr.heap.size, 0, 0, Nat.zero_le _, rfl, rfl, by omega, hid (by simp [kept]), hid (by
    have e : fewL (fun x => prK (l.getD x default)) l 0 = [] := by simp [fewL, kept]
    rw [e]; exact OwnG.nil HB3.out (Nat.le_refl _)), HW3⟩
  case round =>
    obtain ⟨j, g2, c2, N, hj, rfl, rfl, h8, HN, HF, HX⟩ := hrel
    by_cases hjl : j < l.length
    · by_cases hfull : N < 16
      · have hfl : (fewL (fun x => prK (l.getD x default)) l j).length = N := by rw [fewL_len]; exact HN.out
        have HFL := hid hfl
        have HC2 := hid (show N ≤ c2 by have := HF.out.cap_; omega)
        have hf8 : (N : Int) < 16 := by omega
        clear hfl
        go_wp2_with fail
        go_loopw [12, 13] (fun b v wy => ∃ (x : Nat) (β : Bool), x ≤ N ∧ v = .int .i64 x ∧ b = .bool β ∧ Hid (∀ γ, β = γ → (γ = true ↔ ∀ y, y < x → prK ((fewL (fun x => prK (l.getD x default)) l j).getD y default) ≠ prK (l.getD j default))) ∧ Hid (Upd (fun _ => False) wr wy)) (fun _ v _ => N - (intOf v).toNat)
        case atStart => exact ⟨0, true, Nat.zero_le _, rfl, rfl, hid (fun γ h => by subst h; simp), hid (Upd.refl _ _)⟩
        case round =>
          obtain ⟨x, β, hx, rfl, rfl, HB, HY⟩ := hrel
          by_cases hxN : x < N
          · obtain ⟨⟨⟨q1, q2⟩, ⟨q3, q4⟩, qk, qp⟩, hq⟩ : ∃ q, (fewL (fun x => prK (l.getD x default)) l j).getD x default = q := ⟨_, rfl⟩
            obtain ⟨⟨⟨c1, c2'⟩, ⟨c3, c4⟩, ck, cp'⟩, hc⟩ : ∃ q, l.getD j default = q := ⟨_, rfl⟩
            have hF : ∀ i, i < 6 → wr.cell? ⟨g2, x * 6 + i, none⟩ = (encPr ⟨⟨q1, q2⟩, ⟨q3, q4⟩, qk, qp⟩)[i]? := fun i hi => by
              obtain ⟨v, hv⟩ := pr_some ⟨⟨q1, q2⟩, ⟨q3, q4⟩, qk, qp⟩ i hi
              have h0 := HF.out.cell (fun _ => rfl) x i (by rw [HFL.out]; exact hxN) hi
              rw [hq] at h0
              have e1 : (encPr ⟨⟨q1, q2⟩, ⟨q3, q4⟩, qk, qp⟩)[i]? = some v := by rw [← hv]; simp [encPr]
              rw [e1] at h0 ⊢
              exact HY.out.cell h0 (fun h => h)
            have hG : ∀ i, i < 6 → wr.cell? ⟨g, j * 6 + i, none⟩ = (encPr ⟨⟨c1, c2'⟩, ⟨c3, c4⟩, ck, cp'⟩)[i]? := fun i hi => by
              obtain ⟨v, hv⟩ := pr_some ⟨⟨c1, c2'⟩, ⟨c3, c4⟩, ck, cp'⟩ i hi
              have h0 := HO.out.cell (fun _ => rfl) j i hjl hi
              rw [hc] at h0
              have e1 : (encPr ⟨⟨c1, c2'⟩, ⟨c3, c4⟩, ck, cp'⟩)[i]? = some v := by rw [← hv]; simp [encPr]
              rw [e1] at h0 ⊢
              exact (HX.out.trans HY.out).cell h0 (fun h => h)
            have p1 : wr.cell? ⟨g2, x * 6, none⟩ = some (.int .u32 q1) := (hF 0 (by decide)).trans rfl
            have p2 : wr.cell? ⟨g2, x * 6 + 1, none⟩ = some (.int .i64 q2) := (hF 1 (by decide)).trans rfl
            have p3 : wr.cell? ⟨g2, x * 6 + 2, none⟩ = some (.int .u32 q3) := (hF 2 (by decide)).trans rfl
            have p4 : wr.cell? ⟨g2, x * 6 + 3, none⟩ = some (.int .i64 q4) := (hF 3 (by decide)).trans rfl
            have r1 : wr.cell? ⟨g, j * 6, none⟩ = some (.int .u32 c1) := (hG 0 (by decide)).trans rfl
            have r2 : wr.cell? ⟨g, j * 6 + 1, none⟩ = some (.int .i64 c2') := (hG 1 (by decide)).trans rfl
            have r3 : wr.cell? ⟨g, j * 6 + 2, none⟩ = some (.int .u32 c3) := (hG 2 (by decide)).trans rfl
            have r4 : wr.cell? ⟨g, j * 6 + 3, none⟩ = some (.int .i64 c4) := (hG 3 (by decide)).trans rfl
            have HST : Hid (∀ δ : Bool, (δ = true ↔ β = true ∧ ¬ (q1 = c1 ∧ q2 = c2' ∧ q3 = c3 ∧ q4 = c4)) → Hid (∀ γ, δ = γ → (γ = true ↔ ∀ y, y < x + 1 → prK ((fewL (fun x => prK (l.getD x default)) l j).getD y default) ≠ prK (l.getD j default)))) := hid (fun δ h => hid (fun γ hγ => by
              subst hγ
              rw [h, HB.out β rfl]
              constructor
              · rintro ⟨h1, h2⟩ y hy e
                by_cases hyx : y = x
                · subst hyx
                  rw [hq, hc] at e
                  simp only [prK, Prod.mk.injEq, Ad.mk.injEq] at e
                  exact h2 ⟨e.1.1, e.1.2, e.2.1, e.2.2⟩
                · exact h1 y (by omega) e
              · intro h1
                refine ⟨fun y hy => h1 y (by omega), fun e => h1 x (by omega) ?_⟩
                rw [hq, hc, e.1, e.2.1, e.2.2.1, e.2.2.2]))
            clear hF hG hq hc
            go_upto_region 22 with (fail)
            refine cmpkF_any _ g g2 l.length N cp c2 j x β q1 q2 q3 q4 c1 c2' c3 c4 wr hxN HC2.out (by omega) hjl hl1000 p1 p2 p3 p4 r1 r2 r3 r4 _ _ _ _ _ _ _ _ _ _ _ _ _ _ _ _ _ _ _ _ _ _ _ _ _ _ _ _ _ _ _ _ _ _ _ _ _ _ _ _ _ _ _ _ _ _ _ _ _ _ _ _ _ _ _ _ _ _ _ _ _ _ _ _ _ _ _ _ _ _ _ _ _ _ _ _ _ _ _ _ _ _ _ _ _ _ _ _ _ _ _ _ _ _ _ _ _ _ _ _ _ _ _ _ _ _ _ _ _ _ _ _ _ _ _ _ _ _ _ _ _ _ _ _ _ _ _ _ _ _ _ _ _ _ _ _ _ _ _ _ (hid ?_)
            intro δ v109 v110 v111 v112 v113 v114 v115 v116 v117 v118 v119 v120 v121 v122 v123 v124 v125 v126 v127 v128 v129 v130 v131 v132 v133 v134 v135 nq hδ
            have HD := hid (HST.out δ hδ)
            clear p1 p2 p3 p4 r1 r2 r3 r4 hδ HST
            go_wp2_with fail
            exact ⟨⟨x + 1, δ, by omega, by go_num, rfl, HD.out, hid (HY.out.drewN _)⟩, by simp [intOf]; omega⟩
          · have hxe : x = N := by omega
            subst hxe
            cases β with
            | false =>
              have hd : dup (fun x => prK (l.getD x default)) j = true := by
                cases hd : dup (fun x => prK (l.getD x default)) j with
                | true => rfl
                | false =>
                  have h1 := (fewL_first prK l j).2 hd
                  rw [HFL.out] at h1
                  exact absurd ((HB.out false rfl).2 h1) (by simp)
              have he : fewL (fun x => prK (l.getD x default)) l (j + 1) = fewL (fun x => prK (l.getD x default)) l j := by rw [fewL_succ, if_pos hd]
              have hke : kept (fun x => prK (l.getD x default)) (j + 1) = kept (fun x => prK (l.getD x default)) j := by rw [kept_succ, if_pos hd]
              have HE := hid he
              have HKE := hid hke
              clear he hke hd
              go_wp2_with fail
              exact ⟨⟨j + 1, g2, c2, x, by omega, by go_num, rfl, h8, hid (by rw [HKE.out]; exact HN.out), hid (by rw [HE.out]; exact HF.out.upd HY.out (fun h => h)), hid (HX.out.trans HY.out)⟩, by simp [intOf]; omega⟩
            | true =>
              have hd : dup (fun x => prK (l.getD x default)) j = false := by
                refine (fewL_first prK l j).1 ?_
                rw [HFL.out]
                exact (HB.out true rfl).1 rfl
              have he : fewL (fun x => prK (l.getD x default)) l (j + 1) = fewL (fun x => prK (l.getD x default)) l j ++ [l.getD j default] := by rw [fewL_succ, if_neg (by rw [hd]; simp)]
              have hke : (kept (fun x => prK (l.getD x default)) (j + 1)).length = x + 1 := by rw [kept_succ, if_neg (by rw [hd]; simp), List.length_append, HN.out]; rfl
              obtain ⟨⟨⟨c1, c2'⟩, ⟨c3, c4⟩, ck, cp'⟩, hc⟩ : ∃ q, l.getD j default = q := ⟨_, rfl⟩
              have hG : ∀ i, i < 6 → wr.cell? ⟨g, j * 6 + i, none⟩ = (encPr ⟨⟨c1, c2'⟩, ⟨c3, c4⟩, ck, cp'⟩)[i]? := fun i hi => by
                obtain ⟨v, hv⟩ := pr_some ⟨⟨c1, c2'⟩, ⟨c3, c4⟩, ck, cp'⟩ i hi
                have h0 := HO.out.cell (fun _ => rfl) j i hjl hi
                rw [hc] at h0
                have e1 : (encPr ⟨⟨c1, c2'⟩, ⟨c3, c4⟩, ck, cp'⟩)[i]? = some v := by rw [← hv]; simp [encPr]
                rw [e1] at h0 ⊢
                exact (HX.out.trans HY.out).cell h0 (fun h => h)
              have r0 : wr.cell? ⟨g, j * 6, none⟩ = some (.int .u32 c1) := (hG 0 (by decide)).trans rfl
              have r1 : wr.cell? ⟨g, j * 6 + 1, none⟩ = some (.int .i64 c2') := (hG 1 (by decide)).trans rfl
              have r2 : wr.cell? ⟨g, j * 6 + 2, none⟩ = some (.int .u32 c3) := (hG 2 (by decide)).trans rfl
              have r3 : wr.cell? ⟨g, j * 6 + 3, none⟩ = some (.int .i64 c4) := (hG 3 (by decide)).trans rfl
              have r4 : wr.cell? ⟨g, j * 6 + 4, none⟩ = some (.int .u64 ck) := (hG 4 (by decide)).trans rfl
              have r5 : wr.cell? ⟨g, j * 6 + 5, none⟩ = some (.int .i64 cp') := (hG 5 (by decide)).trans rfl
              rw [hc] at he
              have HE := hid he
              have HKE := hid hke
              clear he hke hd hG hc
              go_wp2_with (at_builtin; refine list_appG sixR rfl _ _ rfl x 1 _ (x + 1) _ rfl HFL.out ((HF.out.upd HY.out (fun h => h)).upd ((Upd.refl (fun _ => False) _).alloc _) (fun h => h)) rfl rfl (news_one (c := (⟨⟨c1, c2'⟩, ⟨c3, c4⟩, ck, cp'⟩ : Pr)) (heap_alloc_new _ _) rfl) rfl (by omega) ((HX.out.trans HY.out).alloc _).size ?_; intro g4 q4 w4 hO4 hu4 hor4 hlt4; have HO4 := hid hO4; have HU4 := hid hu4; clear hO4 hu4 hor4 hlt4)
              refine ⟨⟨j + 1, g4, q4, x + 1, by omega, by go_num, rfl, by omega, HKE, hid (by rw [HE.out]; exact HO4.out), hid (((HX.out.trans HY.out).alloc _).then_ HU4.out (fun q hq h => by have := HF.out.new; omega))⟩, by simp [intOf]; omega⟩
      · obtain ⟨hs1, hs2⟩ := few_stop (fun x => prK (l.getD x default)) l j l.length 16 hj (by have := HN.out; omega) (.inr (by have := HN.out; omega))
        have H1 := hid hs1
        have H2 := hid hs2
        clear hs1 hs2
        go_wp2_with fail
        go_ret
        exact ⟨l, g2, c2, HS.out, by rw [← H2.out, HN.out]; rfl, by rw [← H1.out]; exact ⟨HF.out.row, Nat.le_trans HU.out.size HF.out.new⟩, HU.out.trans HX.out⟩
    · obtain ⟨hs1, hs2⟩ := few_stop (fun x => prK (l.getD x default)) l j l.length 16 hj (by have := HN.out; omega) (.inl (by omega))
      have H1 := hid hs1
      have H2 := hid hs2
      clear hs1 hs2
      go_wp2_with fail
      go_ret
      exact ⟨l, g2, c2, HS.out, by rw [← H2.out, HN.out]; rfl, by rw [← H1.out]; exact ⟨HF.out.row, Nat.le_trans HU.out.size HF.out.new⟩, HU.out.trans HX.out⟩
end Go.Proofs.YtoadbogfbgediaaDoor

namespace Go.Proofs.YtoadbogfbgediaaDoor
open Go.RowKit
theorem src_keep {w W : World} {ba bb oa ob k j : Nat} {a3 a4 ap b1 b2 bp : Int} (h : w.cell? ⟨ba, oa + k * 6 + 3, none⟩ = some (.int .u32 a3) ∧ w.cell? ⟨ba, oa + k * 6 + 4, none⟩ = some (.int .i64 a4) ∧ w.cell? ⟨ba, oa + k * 6 + 5, none⟩ = some (.int .u32 ap) ∧ w.cell? ⟨bb, ob + j * 6 + 1, none⟩ = some (.int .u32 b1) ∧ w.cell? ⟨bb, ob + j * 6 + 2, none⟩ = some (.int .i64 b2) ∧ w.cell? ⟨bb, ob + j * 6 + 5, none⟩ = some (.int .u32 bp)) (hu : Upd (fun _ => False) w W) : W.cell? ⟨ba, oa + k * 6 + 3, none⟩ = some (.int .u32 a3) ∧ W.cell? ⟨ba, oa + k * 6 + 4, none⟩ = some (.int .i64 a4) ∧ W.cell? ⟨ba, oa + k * 6 + 5, none⟩ = some (.int .u32 ap) ∧ W.cell? ⟨bb, ob + j * 6 + 1, none⟩ = some (.int .u32 b1) ∧ W.cell? ⟨bb, ob + j * 6 + 2, none⟩ = some (.int .i64 b2) ∧ W.cell? ⟨bb, ob + j * 6 + 5, none⟩ = some (.int .u32 bp) :=
  ⟨hu.cell h.1 (fun h => h), hu.cell h.2.1 (fun h => h), hu.cell h.2.2.1 (fun h => h), hu.cell h.2.2.2.1 (fun h => h), hu.cell h.2.2.2.2.1 (fun h => h), hu.cell h.2.2.2.2.2 (fun h => h)⟩
set_option maxRecDepth 100000 in
set_option maxHeartbeats 4000000 in
theorem rform21_any (A B : Option Addr) (n m ca cb : Nat) (f g : Nat → Ca) (w : World) (hA : SrcC w A n f) (hB : SrcC w B m g) (hn : n ≤ 10) (hm : m ≤ 10) :
    Calls Tryd.prog 21 #[.slice A n ca, .slice B m cb] w fun e w' => ∃ (l : List Pr) (gg cp : Nat), Sorted pP (formL f g m n) l ∧ e = .returned (.slice (some ⟨gg, 0, none⟩) (min (kept (fun x => prK (l.getD x default)) l.length).length 16) cp) ∧ OwnG 42 encPr ((fewL (fun x => prK (l.getD x default)) l l.length).take 16) w.heap.size gg cp w' ∧ Upd (fun _ => False) w w' := by
  have HA := hid hA
  have HB := hid hB
  clear hA hB
  go_enter Tryd.func21, Tryd.ntmps21
  go_wp2_with fail
  go_loopw [5, 6] (fun out i wr => ∃ (k : Nat) (l : List Pr) (gg cp : Nat), k ≤ n ∧ i = .int .i64 k ∧ out = .slice (some ⟨gg, 0, none⟩) l.length cp ∧ Hid (Sorted pP (formL f g m k) l) ∧ Hid (OwnG 42 encPr l w.heap.size gg cp wr) ∧ Hid (l.length ≤ k * 10) ∧ Hid (Upd (fun _ => False) w wr)) (fun _ i _ => n - (intOf i).toNat)
  case atStart =>
    refine ⟨0, [], w.heap.size, 0, Nat.zero_le _, rfl, rfl, hid (Sorted.nil _), hid (OwnG.nil (heap_alloc_new w _) (Nat.le_refl _)), hid (Nat.zero_le _), hid ((Upd.refl _ w).alloc _)⟩
  case round =>
    obtain ⟨k, l, gg, cp, hk, rfl, rfl, HS, HO, HL, HU⟩ := hrel
    by_cases hkn : k < n
    · go_wp2_with fail
      go_loopw [5, 7] (fun out i wx => ∃ (j : Nat) (l : List Pr) (gg cp : Nat), j ≤ m ∧ i = .int .i64 j ∧ out = .slice (some ⟨gg, 0, none⟩) l.length cp ∧ Hid (Sorted pP (formL f g m k ++ rowL (f k) g j) l) ∧ Hid (OwnG 42 encPr l w.heap.size gg cp wx) ∧ Hid (l.length ≤ k * 10 + j) ∧ Hid (Upd (fun _ => False) w wx)) (fun _ i _ => m - (intOf i).toNat)
      case atStart => exact ⟨0, l, gg, cp, Nat.zero_le _, rfl, rfl, by rw [rowL, List.append_nil]; exact HS, HO, HL, HU⟩
      case round =>
        clear HS HO HL HU
        obtain ⟨j, l, gg, cp, hj, rfl, rfl, HS, HO, HL, HU⟩ := hrel
        by_cases hjm : j < m
        · obtain ⟨ba, oa, ha, c0, c1, c2, c3, c4, c5⟩ := (HA.out.upd HU.out).at6 k hkn
          obtain ⟨bb, ob, hb, d0, d1, d2, d3, d4, d5⟩ := (HB.out.upd HU.out).at6 j hjm
          have hokA := HA.out.ok k hkn
          have hokB := HB.out.ok j hjm
          obtain ⟨⟨ak, ⟨a1, a2⟩, ⟨a3, a4⟩, ap⟩, hfk⟩ : ∃ q, f k = q := ⟨_, rfl⟩
          obtain ⟨⟨bk, ⟨b1, b2⟩, ⟨b3, b4⟩, bp⟩, hgj⟩ : ∃ q, g j = q := ⟨_, rfl⟩
          rw [hfk] at c0 c1 c2 c3 c4 c5 hokA
          rw [hgj] at d0 d1 d2 d3 d4 d5 hokB
          dsimp only at c0 c1 c2 c3 c4 c5 d0 d1 d2 d3 d4 d5 hokA hokB
          have HOKA := hid hokA
          have HOKB := hid hokB
          have HROW := hid (show rowL (f k) g (j + 1) = rowL (f k) g j ++ if ak = 4 ∨ bk = 4 then [] else [pairOf (f k) (g j)] by rw [rowL, hfk, hgj])
          have HPV := hid (show pairOf (f k) (g j) = ⟨⟨a3, a4⟩, ⟨b1, b2⟩, pairF ap bp, 1⟩ by rw [hfk, hgj]; rfl)
          subst ha hb
          clear hokA hokB hfk hgj c1 c2 d3 d4
          by_cases hk4 : ak = 4
          · have HR2 := hid (show rowL (f k) g (j + 1) = rowL (f k) g j by rw [HROW.out, if_pos (.inl hk4), List.append_nil])
            subst hk4
            clear c3 c4 c5 d0 d1 d2 d5
            go_wp2_with fail
            exact ⟨⟨j + 1, l, gg, cp, by omega, by go_num, rfl, by rw [HR2.out]; exact HS, HO, hid (by have := HL.out; omega), HU⟩, by simp [intOf]; omega⟩
          · by_cases hk4' : bk = 4
            · have HR2 := hid (show rowL (f k) g (j + 1) = rowL (f k) g j by rw [HROW.out, if_pos (.inr hk4'), List.append_nil])
              have hne4 : (ak == 4) = false := by rw [beq_eq_false_iff_ne]; exact hk4
              subst hk4'
              clear c3 c4 c5 d1 d2 d5
              go_wp2_with fail
              exact ⟨⟨j + 1, l, gg, cp, by omega, by go_num, rfl, by rw [HR2.out]; exact HS, HO, hid (by have := HL.out; omega), HU⟩, by simp [intOf]; omega⟩
            · have HR2 := hid (show rowL (f k) g (j + 1) = rowL (f k) g j ++ [pairOf (f k) (g j)] by rw [HROW.out, if_neg (by omega)])
              have hne4 : (ak == 4) = false := by rw [beq_eq_false_iff_ne]; exact hk4
              have hne4' : (bk == 4) = false := by rw [beq_eq_false_iff_ne]; exact hk4'
              have hpp : ∀ W, Calls Tryd.prog 16 #[.int .u32 ap, .int .u32 bp] W fun e w' => e = .returned (.int .u64 (pairF ap bp)) ∧ W = w' := fun W => rpair_any ap bp HOKA.out.2 HOKB.out.2 W
              have HPP := hid hpp
              obtain ⟨pp, hpe⟩ : ∃ pp, pairF ap bp = pp := ⟨_, rfl⟩
              rw [hpe] at HPP HPV
              clear hpp hpe
              go_upto_region 9 with (fail)
              have hs0 : Hid (wr.cell? ⟨ba, oa + k * 6 + 3, none⟩ = some (.int .u32 a3) ∧ wr.cell? ⟨ba, oa + k * 6 + 4, none⟩ = some (.int .i64 a4) ∧ wr.cell? ⟨ba, oa + k * 6 + 5, none⟩ = some (.int .u32 ap) ∧ wr.cell? ⟨bb, ob + j * 6 + 1, none⟩ = some (.int .u32 b1) ∧ wr.cell? ⟨bb, ob + j * 6 + 2, none⟩ = some (.int .i64 b2) ∧ wr.cell? ⟨bb, ob + j * 6 + 5, none⟩ = some (.int .u32 bp)) := hid ⟨c3, c4, c5, d1, d2, d5⟩
              clear c0 c3 c4 c5 d0 d1 d2 d5
              go_cut [8] from 21 to 90 (fun x wx => ∃ na : Nat, x = .pointer (some ⟨na, 0, none⟩) ∧ Hid (Upd (fun _ => False) wr wx) ∧ Hid (wx.heap[na]? = some (.cells (prCells ⟨⟨a3, a4⟩, ⟨b1, b2⟩, pp, 1⟩) 42 (0, 0))))
              case first =>
                go_region_held3 (fun W => W.cell? ⟨ba, oa + k * 6 + 3, none⟩ = some (.int .u32 a3) ∧ W.cell? ⟨ba, oa + k * 6 + 4, none⟩ = some (.int .i64 a4) ∧ W.cell? ⟨ba, oa + k * 6 + 5, none⟩ = some (.int .u32 ap) ∧ W.cell? ⟨bb, ob + j * 6 + 1, none⟩ = some (.int .u32 b1) ∧ W.cell? ⟨bb, ob + j * 6 + 2, none⟩ = some (.int .i64 b2) ∧ W.cell? ⟨bb, ob + j * 6 + 5, none⟩ = some (.int .u32 bp))
                  (first
                    | exact src_keep hs0.out ((Upd.refl _ wr).drew)
                    | exact src_keep hs0.out (((Upd.refl _ wr).alloc _).drew)
                    | exact src_keep hs0.out (((Upd.refl _ wr).alloc _)))
                  (first
                    | (go_at_call 16; refine (HPP.out _).mono ?_; rintro e w' ⟨rfl, rfl⟩)
                    | fail)
                all_goals
                  go_wp2_with fail
                  go_meet
                  refine ⟨wr.heap.size, rfl, hid ?_, hid ?_⟩
                  · first | exact (Upd.refl _ wr).alloc _ | exact ((Upd.refl _ wr).alloc _).drew
                  · first | exact heap_alloc_new wr _ | exact blk_drew (heap_alloc_new wr _)
              case rest =>
                obtain ⟨na, rfl, HW, HN⟩ := hcut
                obtain ⟨w0, hw0⟩ : ∃ w0, w0 = wc := ⟨_, rfl⟩
                subst hw0
                have HU2 := hid (HU.out.trans HW.out)
                have HO2 := hid (HO.out.upd HW.out (fun h => h))
                have hl1000 : l.length ≤ 1000 := by have := HL.out; omega
                clear HO HU HW hs0 HPP
                go_wp2_with fail
                go_loopw [9] (fun v wx => ∃ q : Nat, q ≤ l.length ∧ v = .int .i64 q ∧ Hid (∀ i, i < q → pp ≤ (l.getD i default).p) ∧ Hid (Upd (fun _ => False) w0 wx)) (fun v _ => l.length - (intOf v).toNat)
                case atStart => exact ⟨0, Nat.zero_le _, rfl, hid (fun i hi => by omega), hid (Upd.refl _ _)⟩
                case round =>
                  obtain ⟨q, hq, rfl, HJ, HX⟩ := hrel
                  go_upto_region 11 with (fail)
                  go_cut [76] from 63 to 78 (fun x wx => ∃ β : Bool, x = .bool β ∧ Hid (Upd (fun _ => False) w0 wx) ∧ Hid (β = true → q < l.length ∧ pp ≤ (l.getD q default).p) ∧ Hid (β = false → InsAt pP l ⟨⟨a3, a4⟩, ⟨b1, b2⟩, pp, 1⟩ q))
                  case first =>
                    by_cases hjl : q < l.length
                    · have q5 : wr.cell? ⟨na, 4, none⟩ = some (.int .u64 pp) := HX.out.cell ((blk_cell HN.out 4).trans rfl) (fun h => h)
                      have r5 : wr.cell? ⟨gg, q * 6 + 4, none⟩ = some (.int .u64 (l.getD q default).p) := HX.out.cell ((HO2.out.cell (fun _ => rfl) q 4 hjl (by decide)).trans rfl) (fun h => h)
                      obtain ⟨lp, hlp⟩ : ∃ lp, (l.getD q default).p = lp := ⟨_, rfl⟩
                      have HLP := hid hlp
                      rw [hlp] at r5
                      clear hlp
                      by_cases hge : pp ≤ lp
                      · go_quiet (fail)
                        go_wp2_with fail
                        go_meet
                        exact ⟨true, rfl, hid (HX.out.drewN _), hid (fun _ => ⟨hjl, by rw [HLP.out]; exact hge⟩), hid (fun h => by simp at h)⟩
                      · go_quiet (fail)
                        go_wp2_with fail
                        go_meet
                        exact ⟨false, rfl, hid (HX.out.drewN _), hid (fun h => by simp at h), hid (fun _ => ⟨hq, HJ.out, fun _ => by rw [pP, HLP.out]; show lp < pp; omega⟩)⟩
                    · go_quiet (fail)
                      go_wp2_with fail
                      go_meet
                      exact ⟨false, rfl, hid (HX.out.drewN _), hid (fun h => by simp at h), hid (fun _ => ⟨hq, HJ.out, fun h => absurd h hjl⟩)⟩
                  case rest =>
                    obtain ⟨β, rfl, HX2, HT, HF⟩ := hcut
                    cases β with
                    | true =>
                      go_wp2_with fail
                      refine ⟨⟨q + 1, (HT.out rfl).1, by go_num, hid (fun i hi => ?_), HX2⟩, by have := (HT.out rfl).1; simp [intOf]; omega⟩
                      by_cases e : i = q
                      · subst e; exact (HT.out rfl).2
                      · exact HJ.out i (by omega)
                    | false =>
                      have HI := hid (HF.out rfl)
                      clear HF HT
                      go_upto_region 13 with (fail)
                      have hbc := HX2.out.blk HN.out (fun h => h)
                      have hO := HO2.out.upd HX2.out (fun h => h)
                      have HBC := hid hbc
                      have HOC := hid hO
                      have hcp := HO2.out.cap_
                      have b1' : (0 : Int) ≤ (q : Int) := by omega
                      have b2' : (q : Int) ≤ (cp : Int) := by omega
                      have b3' : (q : Int) ≤ (l.length : Int) := by omega
                      have b4' : (l.length : Int) ≤ (cp : Int) := by omega
                      clear hbc hO
                      go_region_held3 (fun W => W.cell? ⟨na, 0, none⟩ = some (.int .u32 a3) ∧ W.cell? ⟨na, 1, none⟩ = some (.int .i64 a4) ∧ W.cell? ⟨na, 2, none⟩ = some (.int .u32 b1) ∧ W.cell? ⟨na, 3, none⟩ = some (.int .i64 b2) ∧ W.cell? ⟨na, 4, none⟩ = some (.int .u64 pp) ∧ W.cell? ⟨na, 5, none⟩ = some (.int .i64 1) ∧ Hid (Upd (fun _ => False) wc W))
                        (first
                    | exact pr_keep HBC.out ((Upd.refl _ wc).drew)
                    | exact pr_keep HBC.out (HU63.out)
                    | exact pr_keep HBC.out (HU59.out)
                    | exact pr_keep HBC.out (HU56.out)
                    | exact pr_keep HBC.out (((Upd.refl _ wc).drew).alloc _)
                    | exact pr_keep HBC.out ((((Upd.refl _ wc).drew).alloc _).alloc _)
                    | exact pr_keep HBC.out (HU56.out.alloc _))
                        (first
                      | (apply step_new sixR (wc := wc) (s := .tmp 79) (x := .tmp 82) (l := []) (ns := l.take q) (n := 0) (k := q) (N := q)
                         case hgd => rfl
                         case ho => rfl
                         case hs => rfl
                         case hx => rfl
                         case hU => first | exact ((Upd.refl _ wc).alloc _).drew | exact (((Upd.refl _ wc).alloc _).alloc _).drew | exact HU59.out | exact HU56.out | exact HU56.out.alloc _ | exact (HU56.out.alloc _).drew
                         case hl => rfl
                         case hk => rw [List.length_take]; omega
                         case hm => exact Nat.zero_add q
                         case hb => omega
                         case hO => exact OwnG.nil (by first | exact heap_alloc_at _ _ _ _ (by simp) | exact blk_drew (heap_alloc_at _ _ _ _ (by simp)) | exact blk_drew (Upd.blk ((Upd.refl (fun _ => False) _).alloc _) (heap_alloc_at _ _ _ _ (by simp)) (fun h => h))) (by simp)
                         case hN => exact (OwnG.upd (S := fun _ => False) HOC.out (by first | exact ((Upd.refl _ wc).alloc _).drew | exact (((Upd.refl _ wc).alloc _).alloc _).drew | exact HU59.out | exact HU56.out | exact HU56.out.alloc _ | exact (HU56.out.alloc _).drew) (fun h => h)).take (fun _ => rfl) q
                         intro g56 q56 w56 hO56 hU56 hV56
                         have HO56 := hid hO56
                         have HU56 := hid hU56
                         have HV56 := hid hV56
                         clear hO56 hU56 hV56)
                      | (apply step_new sixR (wc := wc) (s := .tmp 83) (x := .tmp 85) (l := [] ++ l.take q) (ns := [(⟨⟨a3, a4⟩, ⟨b1, b2⟩, pp, 1⟩ : Pr)]) (n := q) (k := 1) (N := q + 1)
                         case hgd => rfl
                         case ho => rfl
                         case hs => rfl
                         case hx => rfl
                         case hU => first | exact ((Upd.refl _ wc).alloc _).drew | exact (((Upd.refl _ wc).alloc _).alloc _).drew | exact HU59.out | exact HU56.out | exact HU56.out.alloc _ | exact (HU56.out.alloc _).drew
                         case hl => rw [List.length_append, List.length_take]; simp; omega
                         case hk => rfl
                         case hm => rfl
                         case hb => omega
                         case hO => first | exact HO56.out | exact HO56.out.upd ((Upd.refl (fun _ => False) _).alloc _) (fun h => h) | exact HO56.out.upd ((Upd.refl (fun _ => False) _).alloc _).drew (fun h => h)
                         case hN => first | exact news_one (by first | exact heap_alloc_at _ _ _ _ (by simp) | exact blk_drew (heap_alloc_at _ _ _ _ (by simp)) | exact blk_drew (Upd.blk ((Upd.refl (fun _ => False) _).alloc _) (heap_alloc_at _ _ _ _ (by simp)) (fun h => h))) rfl | exact news_one (HV56.out.blk (by first | exact heap_alloc_at _ _ _ _ (by simp) | exact blk_drew (heap_alloc_at _ _ _ _ (by simp)) | exact blk_drew (Upd.blk ((Upd.refl (fun _ => False) _).alloc _) (heap_alloc_at _ _ _ _ (by simp)) (fun h => h))) (by simp)) rfl
                         intro g59 q59 w59 hO59 hU59 hV59
                         have HO59 := hid hO59
                         have HU59 := hid hU59
                         have HV59 := hid hV59
                         clear hO59 hU59 hV59)
                      | (apply step_new sixR (wc := wc) (s := .tmp 86) (x := .tmp 89) (l := ([] ++ l.take q) ++ [(⟨⟨a3, a4⟩, ⟨b1, b2⟩, pp, 1⟩ : Pr)]) (ns := l.drop q) (n := q + 1) (k := l.length - q) (N := l.length + 1)
                         case hgd => rfl
                         case ho => rfl
                         case hs => rfl
                         case hx => rfl
                         case hU => first | exact ((Upd.refl _ wc).alloc _).drew | exact (((Upd.refl _ wc).alloc _).alloc _).drew | exact HU59.out | exact HU56.out | exact HU56.out.alloc _ | exact (HU56.out.alloc _).drew
                         case hl => rw [List.length_append, List.length_append, List.length_take]; simp; omega
                         case hk => rw [List.length_drop]
                         case hm => omega
                         case hb => omega
                         case hO => exact HO59.out
                         case hN => exact (OwnG.upd (S := fun _ => False) HOC.out (by first | exact ((Upd.refl _ wc).alloc _).drew | exact (((Upd.refl _ wc).alloc _).alloc _).drew | exact HU59.out | exact HU56.out | exact HU56.out.alloc _ | exact (HU56.out.alloc _).drew) (fun h => h)).rest (fun _ => rfl) q hq
                         intro g63 q63 w63 hO63 hU63 hV63
                         have HO63 := hid hO63
                         have HU63 := hid hU63
                         have HV63 := hid hV63
                         clear hO63 hU63 hV63)
                      | fail)
                      all_goals
                        have hlen : (([] ++ l.take q) ++ [(⟨⟨a3, a4⟩, ⟨b1, b2⟩, pp, 1⟩ : Pr)] ++ l.drop q).length = l.length + 1 := by
                          simp only [List.length_append, List.length_take, List.length_drop, List.length_nil, List.length_singleton]; omega
                        have HLEN := hid hlen
                        clear hlen
                        go_wp2_with fail
                        refine ⟨⟨j + 1, _, g63, q63, by omega, by go_num, by rw [HLEN.out], hid ?_, hid ⟨HO63.out.row, Nat.le_trans (HU2.out.trans HX2.out).size HO63.out.new⟩, hid ?_, hid ((HU2.out.trans HX2.out).trans HU63.out)⟩, by simp [intOf]; omega⟩
                        · rw [HR2.out, List.nil_append, ← List.append_assoc, HPV.out]; exact HS.out.put HI.out
                        · rw [HLEN.out]; have := HL.out; omega
        · have hjm' : j = m := by omega
          have HS2 : Hid (Sorted pP (formL f g m (k + 1)) l) := by
            refine hid ?_
            rw [formL]
            have := HS.out
            rw [hjm'] at this
            exact this
          subst hjm'
          go_wp2_with fail
          exact ⟨⟨k + 1, l, gg, cp, by omega, by go_num, rfl, HS2, HO, hid (by have := HL.out; omega), HU⟩, by simp [intOf]; omega⟩
    · have hkn' : k = n := by omega
      subst hkn'
      have HL2 := hid (show l.length ≤ 1000 by have := HL.out; omega)
      go_upto_if 18 with (fail)
      refine wp_cond_false rfl (wp_exit ?_)
      refine (show ∀ x y, Code.wp Tryd.prog tailF _ x y → _ by assumption) _ _ ?_
      exact tailF_any (formL f g m k) l gg cp w _ HS HO HL2 HU _ _ _ _ _ _ _ _ _ _ _ _ _ _ _ _ _ _ _ _ _ _ _ _ _ _ _ _ _ _ _ _ _ _ _ _ _ _ _ _ _ _ _ _ _ _ _ _ _ _ _ _ _ _ _ _ _ _ _ _ _ _ _ _ _ _ _ _ _ _ _ _ _ _ _ _ _ _ _ _ _ _ _ _ _ _ _ _ _ _ _ _ _ _ _ _ _ _ _ _ _ _ _ _ _ _ _ _ _ _ _ _ _ _ _ _ _ _ _ _ _ _ _ _ _ _ _ _ _ _ _ _ _ _ _ _ _ _ _ _ _ _ _
end Go.Proofs.YtoadbogfbgediaaDoor

namespace Go.Proofs.YtoadbogfbgediaaDoor
open Go.RowKit
theorem few_lenP {α : Type} [Inhabited α] (ks : Nat → Ad × Ad) (l : List α) (n m : Nat) : ((fewL ks l n).take m).length = min (kept ks n).length m := by
  rw [List.length_take, fewL_len]; omega
theorem same_fewP {α : Type} [Inhabited α] (key : α → Ad × Ad) {p : α → Int} {L l : List α} (h : Sorted p L l) {d : Array Nat} (hs : d.size = L.length) (hm : Mv 0 L.length (Array.range L.length) d) (hsr : Srt (fun x => p (L.getD x default)) d 0 L.length) (most : Nat) :
    kept (fun x => key (l.getD x default)) l.length = kept (fun x => key (L.getD d[x]! default)) L.length ∧
    ∀ x, x < min (kept (fun x => key (L.getD d[x]! default)) L.length).length most → ((fewL (fun x => key (l.getD x default)) l l.length).take most).getD x default = L.getD d[(kept (fun x => key (L.getD d[x]! default)) L.length).getD x 0]! default := by
  obtain ⟨h1, h2⟩ := h.same hs hm hsr
  have hk : kept (fun x => key (l.getD x default)) l.length = kept (fun x => key (L.getD d[x]! default)) L.length := by
    rw [h1]
    exact kept_congr _ (fun i hi => by rw [h2 i hi])
  refine ⟨hk, fun x hx => ?_⟩
  have e1 : ((fewL (fun x => key (l.getD x default)) l l.length).take most).getD x default = (fewL (fun x => key (l.getD x default)) l l.length).getD x default := by
    simp only [List.getD, List.getElem?_take]
    rw [if_pos (by omega)]
  rw [e1, fewL_get _ _ _ _ (by rw [hk]; omega), hk]
  exact h2 _ (kept_in _ _ x (by omega)).1
/-- A block of pairs, of whatever type. -/
structure BlkQ (w : World) (b n : Nat) (h : Nat → Pr) : Prop where
  blk : ∃ cs t, w.heap[b]? = some (.cells cs t (0, 0)) ∧ n * 6 ≤ cs.size ∧ ∀ i, i < n → ∀ j, j < 6 → cs[i * 6 + j]? = (prCells (h i))[j]?
section
variable {w w' : World} {b n : Nat} {h : Nat → Pr}
theorem BlkP.q (H : BlkP w b n h) : BlkQ w b n h := by
  obtain ⟨cs, h1, h2, h3⟩ := H.blk
  exact ⟨cs, _, h1, h2, h3⟩
theorem BlkQ.upd {S : Nat → Prop} (H : BlkQ w b n h) (hu : Upd S w w') (hn : ¬ S b) : BlkQ w' b n h := by
  obtain ⟨cs, t, h1, h2⟩ := H.blk
  exact ⟨cs, t, hu.blk h1 hn, h2⟩
theorem BlkQ.lt (H : BlkQ w b n h) : b < w.heap.size := by
  obtain ⟨cs, t, h1, _⟩ := H.blk
  exact lt_of_block h1
theorem BlkQ.free (H : BlkQ w b n h) (k : Nat) : w.frozen? ⟨b, k, none⟩ = false := by
  obtain ⟨cs, t, h1, _⟩ := H.blk
  exact blk_free h1 k
theorem BlkQ.cell (H : BlkQ w b n h) (i j : Nat) (hi : i < n) (hj : j < 6) : w.cell? ⟨b, i * 6 + j, none⟩ = (prCells (h i))[j]? := by
  obtain ⟨cs, t, h1, _, h3⟩ := H.blk
  rw [blk_cell h1]; exact h3 i hi j hj
theorem BlkQ.congr {h' : Nat → Pr} (H : BlkQ w b n h) (e : ∀ i, i < n → h i = h' i) : BlkQ w b n h' := by
  obtain ⟨cs, t, h1, h2, h3⟩ := H.blk
  exact ⟨cs, t, h1, h2, fun i hi j hj => by rw [← e i hi]; exact h3 i hi j hj⟩
/-- The first k in other states. -/
def stated (f : Nat → Int) (h : Nat → Pr) (k x : Nat) : Pr := if x < k then ⟨(h x).f, (h x).t, (h x).p, f x⟩ else h x
theorem BlkQ.state {f : Nat → Int} {k : Nat} (H : BlkQ w b n (stated f h k)) (hk : k < n) : BlkQ (w.setCell ⟨b, k * 6 + 5, none⟩ (.int .i64 (f k))) b n (stated f h (k + 1)) := by
  obtain ⟨cs, t, h1, h2, h3⟩ := H.blk
  refine ⟨_, t, blk_set h1 _ _, by simpa using h2, fun x hx j hj => ?_⟩
  have h4 := h3 x hx j hj
  by_cases e : x = k
  · subst e
    have e1 : stated f h (x + 1) x = ⟨(h x).f, (h x).t, (h x).p, f x⟩ := by simp [stated]
    have e2 : stated f h x x = h x := by simp [stated]
    rw [e1]
    rw [e2] at h4
    have hj' : j = 0 ∨ j = 1 ∨ j = 2 ∨ j = 3 ∨ j = 4 ∨ j = 5 := by omega
    rcases hj' with rfl | rfl | rfl | rfl | rfl | rfl
    · simp only [Array.getElem?_setIfInBounds]; rw [if_neg (by omega)]; exact h4
    · simp only [Array.getElem?_setIfInBounds]; rw [if_neg (by omega)]; exact h4
    · simp only [Array.getElem?_setIfInBounds]; rw [if_neg (by omega)]; exact h4
    · simp only [Array.getElem?_setIfInBounds]; rw [if_neg (by omega)]; exact h4
    · simp only [Array.getElem?_setIfInBounds]; rw [if_neg (by omega)]; exact h4
    · simp [Array.getElem?_setIfInBounds]; omega
  · have eb : stated f h (k + 1) x = stated f h k x := by
      unfold stated
      by_cases hx : x < k
      · rw [if_pos hx, if_pos (by omega)]
      · rw [if_neg hx, if_neg (by omega)]
    rw [eb, ← h4]
    simp only [Array.getElem?_setIfInBounds]
    rw [if_neg (by omega)]
theorem BlkQ.src (H : BlkQ w b n h) (hn : n ≤ 1000) : SrcP w (some ⟨b, 0, none⟩) n h :=
  ⟨by omega, fun i hi => ⟨b, rfl, H.lt, H.cell i 0 hi (by omega), H.cell i 1 hi (by omega), H.cell i 2 hi (by omega), H.cell i 3 hi (by omega), H.cell i 4 hi (by omega), H.cell i 5 hi (by omega)⟩⟩
theorem OwnG.blkQ {e : TypeId} {l : List Pr} {n0 g cap : Nat} (H : OwnG e encPr l n0 g cap w) : BlkQ w g l.length (fun i => l.getD i default) := by
  have hcell : ∀ i, i < l.length → ∀ j, j < 6 → w.cell? ⟨g, i * 6 + j, none⟩ = (prCells (l.getD i default))[j]? := fun i hi j hj => by
    rw [H.cell (fun _ => rfl) i j hi hj]; simp [encPr]
  rcases H.row.2 with ⟨h', _⟩ | ⟨g', cap', cur, hv, _, hh, _⟩
  · simp at h'
  · simp only [Value.slice.injEq, Option.some.injEq, Addr.mk.injEq, and_true, true_and] at hv
    obtain ⟨rfl, rfl⟩ := hv
    refine ⟨cur, e, hh, ?_, fun i hi j hj => ?_⟩
    · by_cases hn : l.length = 0
      · omega
      · obtain ⟨v, hv⟩ := pr_some (l.getD (l.length - 1) default) 5 (by omega)
        have := hcell (l.length - 1) (by omega) 5 (by omega)
        rw [hv, blk_cell hh] at this
        have h5 := (Array.getElem?_eq_some_iff.1 this).1
        omega
    · have := hcell i hi j hj
      rw [blk_cell hh] at this; exact this
/-- Two rows of the same pairs, in blocks of their own, made since there were n0 blocks. -/
def Two (w : World) (n0 : Nat) (A B : Option Addr) (n : Nat) (h : Nat → Pr) : Prop :=
  n = 0 ∨ ∃ a b, A = some ⟨a, 0, none⟩ ∧ B = some ⟨b, 0, none⟩ ∧ a ≠ b ∧ n0 ≤ a ∧ n0 ≤ b ∧ BlkQ w a n h ∧ BlkQ w b n h
theorem Two.upd {A B : Option Addr} {n0 : Nat} (H : Two w n0 A B n h) (hu : Upd (fun _ => False) w w') : Two w' n0 A B n h := by
  rcases H with H | ⟨a, b, h1, h2, h3, h4, h5, h6, h7⟩
  · exact .inl H
  · exact .inr ⟨a, b, h1, h2, h3, h4, h5, h6.upd hu (fun h => h), h7.upd hu (fun h => h)⟩
theorem Two.congr {A B : Option Addr} {n0 : Nat} {h' : Nat → Pr} (H : Two w n0 A B n h) (e : ∀ i, i < n → h i = h' i) : Two w n0 A B n h' := by
  rcases H with H | ⟨a, b, h1, h2, h3, h4, h5, h6, h7⟩
  · exact .inl H
  · exact .inr ⟨a, b, h1, h2, h3, h4, h5, h6.congr e, h7.congr e⟩
theorem Two.fst {A B : Option Addr} {n0 : Nat} (H : Two w n0 A B n h) (hn : n ≤ 1000) : SrcP w A n h := by
  rcases H with rfl | ⟨a, b, rfl, _, _, _, _, h6, _⟩
  · exact ⟨by omega, fun i hi => by omega⟩
  · exact h6.src hn
theorem Two.snd {A B : Option Addr} {n0 : Nat} (H : Two w n0 A B n h) (hn : n ≤ 1000) : SrcP w B n h := by
  rcases H with rfl | ⟨a, b, _, rfl, _, _, _, _, h7⟩
  · exact ⟨by omega, fun i hi => by omega⟩
  · exact h7.src hn
end
theorem findR_one {g : Nat → Pr} {n : Nat} {st r r' : Int} (h : FindR g n st r) (h' : FindR g n st r') : r = r' := by
  rcases h with ⟨i, hi, rfl, h1, h2⟩ | ⟨rfl, hn⟩
  · rcases h' with ⟨j, hj, rfl, h3, h4⟩ | ⟨rfl, hn⟩
    · have a1 : ¬ i < j := fun hl => h4 i hl h1
      have a2 : ¬ j < i := fun hl => h2 j hl h3
      omega
    · exact absurd h1 (hn i hi)
  · rcases h' with ⟨j, hj, rfl, h3, h4⟩ | ⟨rfl, _⟩
    · exact absurd h3 (hn j hj)
    · rfl
theorem nextR_one {g : Nat → Pr} {n : Nat} {r r' : Int} (h : NextR g n r) (h' : NextR g n r') : r = r' := by
  obtain ⟨a, ha, h⟩ := h
  obtain ⟨b, hb, h'⟩ := h'
  obtain rfl := findR_one ha hb
  rcases h with ⟨h1, rfl⟩ | ⟨h1, h2⟩
  · rcases h' with ⟨h3, rfl⟩ | ⟨h3, h4⟩
    · rfl
    · omega
  · rcases h' with ⟨h3, rfl⟩ | ⟨h3, h4⟩
    · omega
    · exact findR_one h2 h4
/-- Form, and the document's. -/
theorem form_pair (A B : Option Addr) (n m ca cb : Nat) (f g : Nat → Ca) (w : World) (hA : SrcC w A n f) (hB : SrcC w B m g) (hn : n ≤ 10) (hm : m ≤ 10) :
    Calls Tryd.prog 20 #[.slice A n ca, .slice B m cb] w fun e w' => ∃ (R : Option Addr) (N cp : Nat) (h : Nat → Pr), e = .returned (.slice R N cp) ∧ N ≤ 16 ∧ (N = 0 ∨ ∃ b, R = some ⟨b, 0, none⟩ ∧ w.heap.size ≤ b ∧ BlkQ w' b N h) ∧ Upd (fun _ => False) w w' ∧
      ∀ l, Sorted pP (formL f g m n) l → min (kept (fun x => prK (l.getD x default)) l.length).length 16 = N ∧ ∀ x, x < N → ((fewL (fun x => prK (l.getD x default)) l l.length).take 16).getD x default = h x := by
  refine (form20_any A B n m ca cb f g w hA hB (by omega) (by omega)).mono ?_
  rintro e w' (⟨hz, rfl, hu⟩ | ⟨b, cp, w1, hb, hF, hu⟩)
  · refine ⟨none, 0, 0, fun _ => default, rfl, by omega, .inl rfl, hu, fun l hl => ⟨?_, fun x hx => by omega⟩⟩
    rw [hz] at hl
    obtain ⟨D, rfl, _, hD⟩ := hl
    have : D = [] := by
      cases D with
      | nil => rfl
      | cons a r => exact absurd ((hD a).1 (by simp)) (by simp)
    subst this
    simp [kept]
  · obtain ⟨d, N, h, rfl, hR, hN, hB, hh, _⟩ := hF
    dsimp only at hN hh
    refine ⟨_, N, cp, h, rfl, by omega, .inr ⟨b, rfl, hb, hB.q⟩, hu, fun l hl => ?_⟩
    · obtain ⟨q1, q2⟩ := same_fewP prK hl hR.size hR.mv hR.srt 16
      rw [q1]
      exact ⟨hN.symm, fun x hx => by rw [hh x hx]; exact q2 x (by omega)⟩
set_option maxRecDepth 100000 in
set_option maxHeartbeats 4000000 in
theorem forms5_any (bm : Nat) (es : Array MapEntry) (clock : Nat) (A : Option Addr) (n ca : Nat) (f : Nat → Ca) (B : Option Addr) (m cb : Nat) (g : Nat → Ca) (C : Option Addr) (s cs : Nat) (q : Nat → Int) (w : World) (hK : Kin bm es clock w) (hca : n ≤ ca) (hA : SrcC w A n f) (hcb : m ≤ cb) (hB : SrcC w B m g) (hI : SrcI w C s q) :
    Calls Tryd.prog 5 #[.slice A n ca, .slice B m cb, .slice C s cs] w fun e w' => e = .returned (.bool true) ∧ Upd (fun _ => False) w w' := by
  have HK := hid hK
  have HA := hid hA
  have HB := hid hB
  have HI := hid hI
  have hsm := hI.max
  clear hK hA hB hI
  go_enter Tryd.func5, Tryd.ntmps5
  go_wp2_with fail
  refine (shown12_any bm es clock w HK.out).mono ?_
  rintro e w1 ⟨rfl, hu⟩
  have HU1 := hid hu
  clear hu
  obtain ⟨q1, q2, q3⟩ := min_cut n ca hca
  obtain ⟨q4, q5, q6⟩ := min_cut m cb hcb
  go_wp2_with fail
  have hA1 := (HA.out.upd HU1.out).less (show min n 10 ≤ n by omega)
  have hB1 := (HB.out.upd HU1.out).less (show min m 10 ≤ m by omega)
  obtain ⟨N, hN⟩ : ∃ N, min n 10 = N := ⟨_, rfl⟩
  obtain ⟨M, hM⟩ : ∃ M, min m 10 = M := ⟨_, rfl⟩
  rw [hN] at hA1 ⊢
  rw [hM] at hB1 ⊢
  have hN10 : N ≤ 10 := by omega
  have hM10 : M ≤ 10 := by omega
  clear HA HB q1 q2 q3 q4 q5 q6 hN hM
  refine (form_pair A B N M ca cb f g w1 hA1 hB1 hN10 hM10).mono ?_
  rintro e w2 ⟨R, L, cp, h, rfl, hL16, hrow, hu2, hsame⟩
  have HR := hid hrow
  have HS := hid hsame
  have HA := hid (hA1.upd hu2)
  have HB := hid (hB1.upd hu2)
  have HS1 := hid HU1.out.size
  have HU2 := hid (HU1.out.trans hu2)
  clear hrow hsame hu2 hA1 hB1 HU1
  go_wp2_with fail
  refine (rform21_any A B N M ca cb f g w2 HA.out HB.out hN10 hM10).mono ?_
  rintro e w3 ⟨l, g5, c5, hl, rfl, hO, hu3⟩
  obtain ⟨hm, hx⟩ := HS.out l hl
  have hlen := few_lenP (fun x => prK (l.getD x default)) l l.length 16
  rw [hm] at hlen ⊢
  have HU3 := hid (HU2.out.trans hu3)
  have hQ : BlkQ w3 g5 L h := by
    have := hO.blkQ
    rw [hlen] at this
    exact this.congr hx
  have HT : Hid (Two w3 w.heap.size R (some ⟨g5, 0, none⟩) L h) := by
    refine hid ?_
    rcases HR.out with h0 | ⟨b, h1, h2, h3⟩
    · exact .inl h0
    · have hlt := h3.lt
      have hn5 := hO.new
      have hsz := HU2.out.size
      have hs1 := HS1.out
      exact .inr ⟨b, g5, h1, rfl, by omega, by omega, by omega, h3.upd hu3 (fun h => h), hQ⟩
  have hc5 : L ≤ c5 := by have := hO.cap_; rw [hlen] at this; exact this
  clear hO hu3 hl hm hx hlen hQ HR HS HA HB HU2 HS1
  go_wp2_with fail
  refine (pairs22_any R (some ⟨g5, 0, none⟩) L cp c5 h w3 (HT.out.fst (by omega)) (HT.out.snd (by omega))).mono ?_
  rintro e w4 ⟨rfl, hu4⟩
  have HT4 := hid (HT.out.upd hu4)
  have HU4 := hid (HU3.out.trans hu4)
  clear hu4 HT HU3
  go_wp2_with fail
  go_loopw [10] (fun i wr => ∃ k : Nat, k ≤ L ∧ k ≤ s ∧ i = .int .i64 k ∧ Hid (Two wr w.heap.size R (some ⟨g5, 0, none⟩) L (stated q h k)) ∧ Hid (Upd (fun _ => False) w wr)) (fun i _ => L - (intOf i).toNat)
  case atStart => exact ⟨0, Nat.zero_le _, Nat.zero_le _, rfl, hid (HT4.out.congr (fun i hi => by simp [stated])), HU4⟩
  case round =>
    obtain ⟨k, hk, hks, rfl, HT, HU⟩ := hrel
    by_cases hkL : k < L
    · by_cases hkS : k < s
      · obtain ⟨bs, os, hc, hbs, i0⟩ := HI.out.at_ k hkS
        subst hc
        obtain ⟨v, hv⟩ : ∃ v, q k = v := ⟨_, rfl⟩
        have HV := hid hv
        rw [hv] at i0
        have i1 : wr.cell? ⟨bs, os + k, none⟩ = some (.int .i64 v) := HU.out.cell i0 (fun h => h)
        rcases HT.out with h0 | ⟨a, b, rfl, hb, hab, ha0, hb0, H1, H2⟩
        · omega
        · simp only [Option.some.injEq, Addr.mk.injEq, and_true] at hb
          subst hb
          have e1 := H1.free (k * 6 + 5)
          have e2 : wr.cell? ⟨a, k * 6 + 5, none⟩ = some (.int .i64 (stated q h k k).s) := (H1.cell k 5 hkL (by decide)).trans rfl
          have HH1 := hid H1
          have HH2 := hid H2
          have HAB := hid (And.intro hab (And.intro ha0 (And.intro hb0 hbs)))
          clear H1 H2 hab ha0 hb0 hbs i0 hv
          go_upto_region 12 with (fail)
          have hu5 : Upd (fun x => x = a) wr (wr.setCell ⟨a, k * 6 + 5, none⟩ (.int .i64 v)) := Upd.setCell (Upd.refl (fun x => x = a) wr) (fun _ => rfl) _
          have hB1 := HH1.out.state hkL
          rw [HV.out] at hB1
          obtain ⟨w5, hw5⟩ : ∃ w5, wr.setCell ⟨a, k * 6 + 5, none⟩ (.int .i64 v) = w5 := ⟨_, rfl⟩
          rw [hw5] at hu5 hB1 ⊢
          have hu6 : Upd (fun _ => False) w w5 := HU.out.then_ hu5 (fun x hx e => by have := HAB.out; omega)
          have hB2 := HH2.out.upd hu5 (fun e => HAB.out.1 e.symm)
          have e3 := hB2.free (k * 6 + 5)
          have e4 : w5.cell? ⟨g5, k * 6 + 5, none⟩ = some (.int .i64 (stated q h k k).s) := (hB2.cell k 5 hkL (by decide)).trans rfl
          have i2 : w5.cell? ⟨bs, os + k, none⟩ = some (.int .i64 v) := hu5.cell i1 (fun e => by
            have := HAB.out
            have := (show bs = a from e)
            omega)
          have HB1 := hid hB1
          have HB2 := hid hB2
          have HU6 := hid hu6
          clear hw5 i1 e1 e2 HH1 HH2 hu5 hB1 hB2 hu6 HU HT HT4
          go_wp2_with fail
          have hu7 : Upd (fun x => x = g5) w5 (w5.setCell ⟨g5, k * 6 + 5, none⟩ (.int .i64 v)) := Upd.setCell (Upd.refl (fun x => x = g5) w5) (fun _ => rfl) _
          have hB3 := HB2.out.state hkL
          rw [HV.out] at hB3
          exact ⟨⟨k + 1, by omega, by omega, by go_num, hid (.inr ⟨a, g5, rfl, rfl, HAB.out.1, HAB.out.2.1, HAB.out.2.2.1, HB1.out.upd hu7 (fun e => HAB.out.1 e), hB3⟩), hid (HU6.out.then_ hu7 (fun x hx e => by have := HAB.out; omega))⟩, by simp [intOf]; omega⟩
      · go_wp2_with fail
        refine (next23_any R L cp (stated q h k) _ (HT.out.fst (by omega))).mono ?_
        rintro e w6 ⟨r1, rfl, hr1, hu6⟩
        have HR1 := hid hr1
        have HT6 := hid (HT.out.upd hu6)
        have HU6 := hid (HU.out.trans hu6)
        clear hr1 hu6 HT HU
        go_wp2_with fail
        refine (next24_any (some ⟨g5, 0, none⟩) L c5 (stated q h k) _ (HT6.out.snd (by omega))).mono ?_
        rintro e w7 ⟨r2, rfl, hr2, hu7⟩
        obtain rfl := nextR_one HR1.out hr2
        have HT7 := hid (HT6.out.upd hu7)
        have HU7 := hid (HU6.out.trans hu7)
        clear hr2 hu7 HT6 HU6
        go_wp2_with fail
        refine (best25_any R L cp (stated q h k) _ (HT7.out.fst (by omega))).mono ?_
        rintro e w8 ⟨r3, rfl, hr3, hu8⟩
        have HR3 := hid hr3
        have HT8 := hid (HT7.out.upd hu8)
        have HU8 := hid (HU7.out.trans hu8)
        clear hr3 hu8 HT7 HU7
        go_wp2_with fail
        refine (best26_any (some ⟨g5, 0, none⟩) L c5 (stated q h k) _ (HT8.out.snd (by omega))).mono ?_
        rintro e w9 ⟨r4, rfl, hr4, hu9⟩
        obtain rfl := findR_one HR3.out hr4
        have HU9 := hid (HU8.out.trans hu9)
        clear hr4 hu9 HT8 HU8
        go_wp2_with fail
        go_ret
        exact ⟨rfl, HU9.out⟩
    · go_wp2_with fail
      refine (next23_any R L cp (stated q h k) _ (HT.out.fst (by omega))).mono ?_
      rintro e w6 ⟨r1, rfl, hr1, hu6⟩
      have HR1 := hid hr1
      have HT6 := hid (HT.out.upd hu6)
      have HU6 := hid (HU.out.trans hu6)
      clear hr1 hu6 HT HU
      go_wp2_with fail
      refine (next24_any (some ⟨g5, 0, none⟩) L c5 (stated q h k) _ (HT6.out.snd (by omega))).mono ?_
      rintro e w7 ⟨r2, rfl, hr2, hu7⟩
      obtain rfl := nextR_one HR1.out hr2
      have HT7 := hid (HT6.out.upd hu7)
      have HU7 := hid (HU6.out.trans hu7)
      clear hr2 hu7 HT6 HU6
      go_wp2_with fail
      refine (best25_any R L cp (stated q h k) _ (HT7.out.fst (by omega))).mono ?_
      rintro e w8 ⟨r3, rfl, hr3, hu8⟩
      have HR3 := hid hr3
      have HT8 := hid (HT7.out.upd hu8)
      have HU8 := hid (HU7.out.trans hu8)
      clear hr3 hu8 HT7 HU7
      go_wp2_with fail
      refine (best26_any (some ⟨g5, 0, none⟩) L c5 (stated q h k) _ (HT8.out.snd (by omega))).mono ?_
      rintro e w9 ⟨r4, rfl, hr4, hu9⟩
      obtain rfl := findR_one HR3.out hr4
      have HU9 := hid (HU8.out.trans hu9)
      clear hr4 hu9 HT8 HU8
      go_wp2_with fail
      go_ret
      exact ⟨rfl, HU9.out⟩
end Go.Proofs.YtoadbogfbgediaaDoor
