/- The document's Gather of any row; the walk of IceGathers (no statement of the seat). -/
import Derived.Test.YtoadbogfbgediaaDoorRef
import Derived.Test.YtoadbogfbgediaaDoorSymT
import Derived.Deep.CutRange
import Derived.Deep.QuietTactic
import Derived.BigQuiet
import Derived.Test.YtoadbogfbgediaaDoorGathS
import Derived.Test.YtoadbogfbgediaaDoorCopy
namespace Go.Proofs.YtoadbogfbgediaaDoor
open Go.RowKit
def regAtG (k : Nat) : Code → Option Code
  | .region id ops b => if id = k then some (.region id ops b) else Option.none
  | .seq a b => match regAtG k a with
    | some c => some c
    | Option.none => regAtG k b
  | .cond _ a b => match regAtG k a with
    | some c => some c
    | Option.none => regAtG k b
  | .block _ c => regAtG k c
  | .loop c => regAtG k c
  | .scope c => regAtG k c
  | _ => Option.none
noncomputable def cmpG : Code := ((Tryd.f19.body.bind (regAtG 20)).getD .skip)
set_option maxRecDepth 1000000 in
set_option maxHeartbeats 4000000 in
theorem cmpG_any (Q : Exit → Act → World → Prop) (g g2 n N cp c2 j x : Nat) (β : Bool) (q1 q2 q3 q4 c1 c2' c3 c4 : Int) (wr : World) (hxN : x < N) (hN : N ≤ c2) (hN8 : N ≤ 1000) (hjn : j < n) (hn : n ≤ 1000)
    (p1 : wr.cell? ⟨g2, x * 6 + 1, none⟩ = some (.int .u32 q1)) (p2 : wr.cell? ⟨g2, x * 6 + 2, none⟩ = some (.int .i64 q2)) (p3 : wr.cell? ⟨g2, x * 6 + 3, none⟩ = some (.int .u32 q3)) (p4 : wr.cell? ⟨g2, x * 6 + 4, none⟩ = some (.int .i64 q4))
    (r1 : wr.cell? ⟨g, j * 6 + 1, none⟩ = some (.int .u32 c1)) (r2 : wr.cell? ⟨g, j * 6 + 2, none⟩ = some (.int .i64 c2')) (r3 : wr.cell? ⟨g, j * 6 + 3, none⟩ = some (.int .u32 c3)) (r4 : wr.cell? ⟨g, j * 6 + 4, none⟩ = some (.int .i64 c4))
    (u0 u1 u2 u4 u5 u6 u11 u12 u13 u14 u15 u16 u17 u18 u19 u20 u21 u22 u23 u24 u25 u26 u27 u28 u29 u30 u31 u32 u33 u34 u35 u36 u37 u38 u39 u40 u41 u42 u43 u44 u45 u46 u47 u48 u49 u50 u51 u52 u53 u54 u55 u56 u57 u58 u59 u60 u61 u62 u63 u64 u65 u66 u67 u68 u69 u70 u71 u72 u73 u74 u75 u76 u77 u78 u79 u80 u81 u82 u83 u84 u85 u86 u87 u88 u89 u90 u91 u92 u93 u94 u95 u96 u97 u98 u99 u100 u101 u102 u103 u104 u105 u106 u107 u108 u109 u110 u111 u112 u113 u114 u115 u116 u117 : Value)
    (HQ : Hid (∀ (δ : Bool) (v82 v83 v84 v85 v86 v87 v88 v89 v90 v91 v92 v93 v94 v95 v96 v97 v98 v99 v100 v101 v102 v103 v104 v105 v106 v107 v108 : Value) (nq : Nat), (δ = true ↔ β = true ∧ ¬ (q1 = c1 ∧ q2 = c2' ∧ q3 = c3 ∧ q4 = c4)) → Q .normal ⟨(u0 :: u1 :: u2 :: .slice (some ⟨g, 0, none⟩) n cp :: u4 :: u5 :: u6 :: .slice (some ⟨g2, 0, none⟩) N c2 :: .int .i64 j :: .bool δ :: .int .i64 x :: u11 :: u12 :: u13 :: u14 :: u15 :: u16 :: u17 :: u18 :: u19 :: u20 :: u21 :: u22 :: u23 :: u24 :: u25 :: u26 :: u27 :: u28 :: u29 :: u30 :: u31 :: u32 :: u33 :: u34 :: u35 :: u36 :: u37 :: u38 :: u39 :: u40 :: u41 :: u42 :: u43 :: u44 :: u45 :: u46 :: u47 :: u48 :: u49 :: u50 :: u51 :: u52 :: u53 :: u54 :: u55 :: u56 :: u57 :: u58 :: u59 :: u60 :: u61 :: u62 :: u63 :: u64 :: u65 :: u66 :: u67 :: u68 :: u69 :: u70 :: u71 :: u72 :: u73 :: u74 :: u75 :: u76 :: u77 :: u78 :: u79 :: u80 :: u81 :: v82 :: v83 :: v84 :: v85 :: v86 :: v87 :: v88 :: v89 :: v90 :: v91 :: v92 :: v93 :: v94 :: v95 :: v96 :: v97 :: v98 :: v99 :: v100 :: v101 :: v102 :: v103 :: v104 :: v105 :: v106 :: v107 :: v108 :: u109 :: u110 :: u111 :: u112 :: u113 :: u114 :: u115 :: u116 :: u117 :: []).toArray, []⟩ (wr.drewN nq))) :
    Code.wp Tryd.prog cmpG Q ⟨(u0 :: u1 :: u2 :: .slice (some ⟨g, 0, none⟩) n cp :: u4 :: u5 :: u6 :: .slice (some ⟨g2, 0, none⟩) N c2 :: .int .i64 j :: .bool β :: .int .i64 x :: u11 :: u12 :: u13 :: u14 :: u15 :: u16 :: u17 :: u18 :: u19 :: u20 :: u21 :: u22 :: u23 :: u24 :: u25 :: u26 :: u27 :: u28 :: u29 :: u30 :: u31 :: u32 :: u33 :: u34 :: u35 :: u36 :: u37 :: u38 :: u39 :: u40 :: u41 :: u42 :: u43 :: u44 :: u45 :: u46 :: u47 :: u48 :: u49 :: u50 :: u51 :: u52 :: u53 :: u54 :: u55 :: u56 :: u57 :: u58 :: u59 :: u60 :: u61 :: u62 :: u63 :: u64 :: u65 :: u66 :: u67 :: u68 :: u69 :: u70 :: u71 :: u72 :: u73 :: u74 :: u75 :: u76 :: u77 :: u78 :: u79 :: u80 :: u81 :: u82 :: u83 :: u84 :: u85 :: u86 :: u87 :: u88 :: u89 :: u90 :: u91 :: u92 :: u93 :: u94 :: u95 :: u96 :: u97 :: u98 :: u99 :: u100 :: u101 :: u102 :: u103 :: u104 :: u105 :: u106 :: u107 :: u108 :: u109 :: u110 :: u111 :: u112 :: u113 :: u114 :: u115 :: u116 :: u117 :: []).toArray, []⟩ wr := by
  conv => arg 2; whnf
  cases β with
  | false =>
    go_quiet (fail)
    go_wp2_with fail
    exact HQ.out false _ _ _ _ _ _ _ _ _ _ _ _ _ _ _ _ _ _ _ _ _ _ _ _ _ _ _ _ (by simp)
  | true =>
    by_cases g3 : q1 = c1 ∧ q2 = c2'
    · have e3 : ∀ W, Sem.run Tryd.prog (binOp .neq 39 (.agg #[.int .u32 q1, .int .i64 q2]) (.agg #[.int .u32 c1, .int .i64 c2'])) W = .ok (.bool false) W := fun W => by rw [neq_adr, decide_eq_true g3]; rfl
      have HG3 := hid g3
      have e4 : ∀ W, Sem.run Tryd.prog (binOp .neq 39 (.agg #[.int .u32 q3, .int .i64 q4]) (.agg #[.int .u32 c3, .int .i64 c4])) W = .ok (.bool (!decide (q3 = c3 ∧ q4 = c4))) W := fun W => by rw [neq_adr]
      obtain ⟨δ, hδ⟩ : ∃ δ, (!decide (q3 = c3 ∧ q4 = c4)) = δ := ⟨_, rfl⟩
      rw [hδ] at e4
      have HD := hid hδ
      clear g3 hδ
      go_quiet (fail)
      go_wp2_with fail
      refine HQ.out δ _ _ _ _ _ _ _ _ _ _ _ _ _ _ _ _ _ _ _ _ _ _ _ _ _ _ _ _ ?_
      rw [← HD.out]
      have := HG3.out
      simp [this]
      omega
    · have e3 : ∀ W, Sem.run Tryd.prog (binOp .neq 39 (.agg #[.int .u32 q1, .int .i64 q2]) (.agg #[.int .u32 c1, .int .i64 c2'])) W = .ok (.bool true) W := fun W => by rw [neq_adr, decide_eq_false g3]; rfl
      have HG3 := hid g3
      clear g3
      go_quiet (fail)
      go_wp2_with fail
      refine HQ.out true _ _ _ _ _ _ _ _ _ _ _ _ _ _ _ _ _ _ _ _ _ _ _ _ _ _ _ _ ?_
      simp only [true_and, true_iff]
      exact fun h => HG3.out ⟨h.1, h.2.1⟩
end Go.Proofs.YtoadbogfbgediaaDoor

namespace Go.Proofs.YtoadbogfbgediaaDoor
open Go.RowKit
abbrev pC (c : Ca) : Int := c.p
noncomputable def tailG : Code := ((Tryd.f19.body.bind (findAt 12)).getD .skip)
set_option maxRecDepth 1000000 in
set_option maxHeartbeats 4000000 in
theorem tailG_any (L : List Ca) (l : List Ca) (g cp : Nat) (w wr : World) (HS : Hid (Sorted pC L l)) (HO : Hid (OwnG 47 encCa l w.heap.size g cp wr)) (HL2 : Hid (l.length ≤ 1000)) (HU : Hid (Upd (fun _ => False) w wr))
    (u0 u1 u4 u5 u6 u7 u8 u9 u10 u11 u12 u13 u14 u15 u16 u17 u18 u19 u20 u21 u22 u23 u24 u25 u26 u27 u28 u29 u30 u31 u32 u33 u34 u35 u36 u37 u38 u39 u40 u41 u42 u43 u44 u45 u46 u47 u48 u49 u50 u51 u52 u53 u54 u55 u56 u57 u58 u59 u60 u61 u62 u63 u64 u65 u66 u67 u68 u69 u70 u71 u72 u73 u74 u75 u76 u77 u78 u79 u80 u81 u82 u83 u84 u85 u86 u87 u88 u89 u90 u91 u92 u93 u94 u95 u96 u97 u98 u99 u100 u101 u102 u103 u104 u105 u106 u107 u108 u109 u110 u111 u112 u113 u114 u115 u116 u117 : Value) :
    Code.wp Tryd.prog tailG (bodyPost Tryd.prog Tryd.f19 fun e w' => ∃ (l : List Ca) (g cp : Nat), Sorted pC L l ∧ e = .returned (.slice (some ⟨g, 0, none⟩) (min (kept (fun x => caK (l.getD x default)) l.length).length 8) cp) ∧ OwnG 47 encCa ((fewL (fun x => caK (l.getD x default)) l l.length).take 8) w.heap.size g cp w' ∧ Upd (fun _ => False) w w') ⟨(u0 :: u1 :: .slice none 0 0 :: .slice (some ⟨g, 0, none⟩) l.length cp :: u4 :: u5 :: u6 :: u7 :: u8 :: u9 :: u10 :: u11 :: u12 :: u13 :: u14 :: u15 :: u16 :: u17 :: u18 :: u19 :: u20 :: u21 :: u22 :: u23 :: u24 :: u25 :: u26 :: u27 :: u28 :: u29 :: u30 :: u31 :: u32 :: u33 :: u34 :: u35 :: u36 :: u37 :: u38 :: u39 :: u40 :: u41 :: u42 :: u43 :: u44 :: u45 :: u46 :: u47 :: u48 :: u49 :: u50 :: u51 :: u52 :: u53 :: u54 :: u55 :: u56 :: u57 :: u58 :: u59 :: u60 :: u61 :: u62 :: u63 :: u64 :: u65 :: u66 :: u67 :: u68 :: u69 :: u70 :: u71 :: u72 :: u73 :: u74 :: u75 :: u76 :: u77 :: u78 :: u79 :: u80 :: u81 :: u82 :: u83 :: u84 :: u85 :: u86 :: u87 :: u88 :: u89 :: u90 :: u91 :: u92 :: u93 :: u94 :: u95 :: u96 :: u97 :: u98 :: u99 :: u100 :: u101 :: u102 :: u103 :: u104 :: u105 :: u106 :: u107 :: u108 :: u109 :: u110 :: u111 :: u112 :: u113 :: u114 :: u115 :: u116 :: u117 :: []).toArray, []⟩ wr := by
  conv => arg 2; whnf
  have hl1000 := HL2.out
  go_wp2_with fail
  have hu3 : Upd (fun _ => False) wr (wr.alloc (.cells #[] 47)) := (Upd.refl _ wr).alloc _
  have hb3 := heap_alloc_new wr (.cells #[] 47)
  obtain ⟨w3, hw3⟩ : ∃ w3, wr.alloc (.cells #[] 47) = w3 := ⟨_, rfl⟩
  rw [hw3] at hu3 hb3 ⊢
  have HU3 := hid (HU.out.trans hu3)
  have HB3 := hid hb3
  have HW3 := hid hu3
  have HCP := hid HO.out.cap_
  clear hw3 hb3 hu3
  go_loopw [7, 8] (fun v i wx => ∃ (j g2 c2 N : Nat), j ≤ l.length ∧ i = .int .i64 j ∧ v = .slice (some ⟨g2, 0, none⟩) N c2 ∧ N ≤ 8 ∧ Hid ((kept (fun x => caK (l.getD x default)) j).length = N) ∧ Hid (OwnG 47 encCa (fewL (fun x => caK (l.getD x default)) l j) wr.heap.size g2 c2 wx) ∧ Hid (Upd (fun _ => False) wr wx)) (fun _ i _ => l.length - (intOf i).toNat)
  case atStart => exact ⟨0, wr.heap.size, 0, 0, Nat.zero_le _, rfl, rfl, by omega, hid (by simp [kept]), hid (by
    have e : fewL (fun x => caK (l.getD x default)) l 0 = [] := by simp [fewL, kept]
    rw [e]; exact OwnG.nil HB3.out (Nat.le_refl _)), HW3⟩
  case round =>
    obtain ⟨j, g2, c2, N, hj, rfl, rfl, h8, HN, HF, HX⟩ := hrel
    by_cases hjl : j < l.length
    · by_cases hfull : N < 8
      · have hfl : (fewL (fun x => caK (l.getD x default)) l j).length = N := by rw [fewL_len]; exact HN.out
        have HFL := hid hfl
        have HC2 := hid (show N ≤ c2 by have := HF.out.cap_; omega)
        have hf8 : (N : Int) < 8 := by omega
        clear hfl
        go_wp2_with fail
        go_loopw [9, 10] (fun b v wy => ∃ (x : Nat) (β : Bool), x ≤ N ∧ v = .int .i64 x ∧ b = .bool β ∧ Hid (∀ γ, β = γ → (γ = true ↔ ∀ y, y < x → caK ((fewL (fun x => caK (l.getD x default)) l j).getD y default) ≠ caK (l.getD j default))) ∧ Hid (Upd (fun _ => False) wr wy)) (fun _ v _ => N - (intOf v).toNat)
        case atStart => exact ⟨0, true, Nat.zero_le _, rfl, rfl, hid (fun γ h => by subst h; simp), hid (Upd.refl _ _)⟩
        case round =>
          obtain ⟨x, β, hx, rfl, rfl, HB, HY⟩ := hrel
          by_cases hxN : x < N
          · obtain ⟨⟨qk, ⟨q1, q2⟩, ⟨q3, q4⟩, qp⟩, hq⟩ : ∃ q, (fewL (fun x => caK (l.getD x default)) l j).getD x default = q := ⟨_, rfl⟩
            obtain ⟨⟨ck, ⟨c1, c2'⟩, ⟨c3, c4⟩, cp'⟩, hc⟩ : ∃ q, l.getD j default = q := ⟨_, rfl⟩
            have hF : ∀ i, i < 6 → wr.cell? ⟨g2, x * 6 + i, none⟩ = (encCa ⟨qk, ⟨q1, q2⟩, ⟨q3, q4⟩, qp⟩)[i]? := fun i hi => by
              obtain ⟨v, hv⟩ := ca_some ⟨qk, ⟨q1, q2⟩, ⟨q3, q4⟩, qp⟩ i hi
              have h0 := HF.out.cell (fun _ => rfl) x i (by rw [HFL.out]; exact hxN) hi
              rw [hq] at h0
              have e1 : (encCa ⟨qk, ⟨q1, q2⟩, ⟨q3, q4⟩, qp⟩)[i]? = some v := by rw [← hv]; simp [encCa]
              rw [e1] at h0 ⊢
              exact HY.out.cell h0 (fun h => h)
            have hG : ∀ i, i < 6 → wr.cell? ⟨g, j * 6 + i, none⟩ = (encCa ⟨ck, ⟨c1, c2'⟩, ⟨c3, c4⟩, cp'⟩)[i]? := fun i hi => by
              obtain ⟨v, hv⟩ := ca_some ⟨ck, ⟨c1, c2'⟩, ⟨c3, c4⟩, cp'⟩ i hi
              have h0 := HO.out.cell (fun _ => rfl) j i hjl hi
              rw [hc] at h0
              have e1 : (encCa ⟨ck, ⟨c1, c2'⟩, ⟨c3, c4⟩, cp'⟩)[i]? = some v := by rw [← hv]; simp [encCa]
              rw [e1] at h0 ⊢
              exact (HX.out.trans HY.out).cell h0 (fun h => h)
            have p1 : wr.cell? ⟨g2, x * 6 + 1, none⟩ = some (.int .u32 q1) := (hF 1 (by decide)).trans rfl
            have p2 : wr.cell? ⟨g2, x * 6 + 2, none⟩ = some (.int .i64 q2) := (hF 2 (by decide)).trans rfl
            have p3 : wr.cell? ⟨g2, x * 6 + 3, none⟩ = some (.int .u32 q3) := (hF 3 (by decide)).trans rfl
            have p4 : wr.cell? ⟨g2, x * 6 + 4, none⟩ = some (.int .i64 q4) := (hF 4 (by decide)).trans rfl
            have r1 : wr.cell? ⟨g, j * 6 + 1, none⟩ = some (.int .u32 c1) := (hG 1 (by decide)).trans rfl
            have r2 : wr.cell? ⟨g, j * 6 + 2, none⟩ = some (.int .i64 c2') := (hG 2 (by decide)).trans rfl
            have r3 : wr.cell? ⟨g, j * 6 + 3, none⟩ = some (.int .u32 c3) := (hG 3 (by decide)).trans rfl
            have r4 : wr.cell? ⟨g, j * 6 + 4, none⟩ = some (.int .i64 c4) := (hG 4 (by decide)).trans rfl
            have HST : Hid (∀ δ : Bool, (δ = true ↔ β = true ∧ ¬ (q1 = c1 ∧ q2 = c2' ∧ q3 = c3 ∧ q4 = c4)) → Hid (∀ γ, δ = γ → (γ = true ↔ ∀ y, y < x + 1 → caK ((fewL (fun x => caK (l.getD x default)) l j).getD y default) ≠ caK (l.getD j default)))) := hid (fun δ h => hid (fun γ hγ => by
              subst hγ
              rw [h, HB.out β rfl]
              constructor
              · rintro ⟨h1, h2⟩ y hy e
                by_cases hyx : y = x
                · subst hyx
                  rw [hq, hc] at e
                  simp only [caK, Prod.mk.injEq, Ad.mk.injEq] at e
                  exact h2 ⟨e.1.1, e.1.2, e.2.1, e.2.2⟩
                · exact h1 y (by omega) e
              · intro h1
                refine ⟨fun y hy => h1 y (by omega), fun e => h1 x (by omega) ?_⟩
                rw [hq, hc, e.1, e.2.1, e.2.2.1, e.2.2.2]))
            clear hF hG hq hc
            go_upto_region 20 with (fail)
            refine cmpG_any _ g g2 l.length N cp c2 j x β q1 q2 q3 q4 c1 c2' c3 c4 wr hxN HC2.out (by omega) hjl hl1000 p1 p2 p3 p4 r1 r2 r3 r4 _ _ _ _ _ _ _ _ _ _ _ _ _ _ _ _ _ _ _ _ _ _ _ _ _ _ _ _ _ _ _ _ _ _ _ _ _ _ _ _ _ _ _ _ _ _ _ _ _ _ _ _ _ _ _ _ _ _ _ _ _ _ _ _ _ _ _ _ _ _ _ _ _ _ _ _ _ _ _ _ _ _ _ _ _ _ _ _ _ _ _ _ _ _ _ _ _ _ _ _ _ _ _ _ _ _ _ _ _ _ _ _ _ (hid ?_)
            intro δ v82 v83 v84 v85 v86 v87 v88 v89 v90 v91 v92 v93 v94 v95 v96 v97 v98 v99 v100 v101 v102 v103 v104 v105 v106 v107 v108 nq hδ
            have HD := hid (HST.out δ hδ)
            clear p1 p2 p3 p4 r1 r2 r3 r4 hδ HST
            go_wp2_with fail
            exact ⟨⟨x + 1, δ, by omega, by go_num, rfl, HD.out, hid (HY.out.drewN _)⟩, by simp [intOf]; omega⟩
          · have hxe : x = N := by omega
            subst hxe
            cases β with
            | false =>
              have hd : dup (fun x => caK (l.getD x default)) j = true := by
                cases hd : dup (fun x => caK (l.getD x default)) j with
                | true => rfl
                | false =>
                  have h1 := (fewL_first caK l j).2 hd
                  rw [HFL.out] at h1
                  exact absurd ((HB.out false rfl).2 h1) (by simp)
              have he : fewL (fun x => caK (l.getD x default)) l (j + 1) = fewL (fun x => caK (l.getD x default)) l j := by rw [fewL_succ, if_pos hd]
              have hke : kept (fun x => caK (l.getD x default)) (j + 1) = kept (fun x => caK (l.getD x default)) j := by rw [kept_succ, if_pos hd]
              have HE := hid he
              have HKE := hid hke
              clear he hke hd
              go_wp2_with fail
              exact ⟨⟨j + 1, g2, c2, x, by omega, by go_num, rfl, h8, hid (by rw [HKE.out]; exact HN.out), hid (by rw [HE.out]; exact HF.out.upd HY.out (fun h => h)), hid (HX.out.trans HY.out)⟩, by simp [intOf]; omega⟩
            | true =>
              have hd : dup (fun x => caK (l.getD x default)) j = false := by
                refine (fewL_first caK l j).1 ?_
                rw [HFL.out]
                exact (HB.out true rfl).1 rfl
              have he : fewL (fun x => caK (l.getD x default)) l (j + 1) = fewL (fun x => caK (l.getD x default)) l j ++ [l.getD j default] := by rw [fewL_succ, if_neg (by rw [hd]; simp)]
              have hke : (kept (fun x => caK (l.getD x default)) (j + 1)).length = x + 1 := by rw [kept_succ, if_neg (by rw [hd]; simp), List.length_append, HN.out]; rfl
              obtain ⟨⟨ck, ⟨c1, c2'⟩, ⟨c3, c4⟩, cp'⟩, hc⟩ : ∃ q, l.getD j default = q := ⟨_, rfl⟩
              have hG : ∀ i, i < 6 → wr.cell? ⟨g, j * 6 + i, none⟩ = (encCa ⟨ck, ⟨c1, c2'⟩, ⟨c3, c4⟩, cp'⟩)[i]? := fun i hi => by
                obtain ⟨v, hv⟩ := ca_some ⟨ck, ⟨c1, c2'⟩, ⟨c3, c4⟩, cp'⟩ i hi
                have h0 := HO.out.cell (fun _ => rfl) j i hjl hi
                rw [hc] at h0
                have e1 : (encCa ⟨ck, ⟨c1, c2'⟩, ⟨c3, c4⟩, cp'⟩)[i]? = some v := by rw [← hv]; simp [encCa]
                rw [e1] at h0 ⊢
                exact (HX.out.trans HY.out).cell h0 (fun h => h)
              have r0 : wr.cell? ⟨g, j * 6, none⟩ = some (.int .i64 ck) := (hG 0 (by decide)).trans rfl
              have r1 : wr.cell? ⟨g, j * 6 + 1, none⟩ = some (.int .u32 c1) := (hG 1 (by decide)).trans rfl
              have r2 : wr.cell? ⟨g, j * 6 + 2, none⟩ = some (.int .i64 c2') := (hG 2 (by decide)).trans rfl
              have r3 : wr.cell? ⟨g, j * 6 + 3, none⟩ = some (.int .u32 c3) := (hG 3 (by decide)).trans rfl
              have r4 : wr.cell? ⟨g, j * 6 + 4, none⟩ = some (.int .i64 c4) := (hG 4 (by decide)).trans rfl
              have r5 : wr.cell? ⟨g, j * 6 + 5, none⟩ = some (.int .u32 cp') := (hG 5 (by decide)).trans rfl
              rw [hc] at he
              have HE := hid he
              have HKE := hid hke
              clear he hke hd hG hc
              go_wp2_with (at_builtin; refine list_appG sixC rfl _ _ rfl x 1 _ (x + 1) _ rfl HFL.out ((HF.out.upd HY.out (fun h => h)).upd ((Upd.refl (fun _ => False) _).alloc _) (fun h => h)) rfl rfl (news_one (c := (⟨ck, ⟨c1, c2'⟩, ⟨c3, c4⟩, cp'⟩ : Ca)) (heap_alloc_new _ _) rfl) rfl (by omega) ((HX.out.trans HY.out).alloc _).size ?_; intro g4 q4 w4 hO4 hu4 hor4 hlt4; have HO4 := hid hO4; have HU4 := hid hu4; clear hO4 hu4 hor4 hlt4)
              refine ⟨⟨j + 1, g4, q4, x + 1, by omega, by go_num, rfl, by omega, HKE, hid (by rw [HE.out]; exact HO4.out), hid (((HX.out.trans HY.out).alloc _).then_ HU4.out (fun q hq h => by have := HF.out.new; omega))⟩, by simp [intOf]; omega⟩
      · obtain ⟨hs1, hs2⟩ := few_stop (fun x => caK (l.getD x default)) l j l.length 8 hj (by have := HN.out; omega) (.inr (by have := HN.out; omega))
        have H1 := hid hs1
        have H2 := hid hs2
        clear hs1 hs2
        go_wp2_with fail
        go_ret
        exact ⟨l, g2, c2, HS.out, by rw [← H2.out, HN.out]; rfl, by rw [← H1.out]; exact ⟨HF.out.row, Nat.le_trans HU.out.size HF.out.new⟩, HU.out.trans HX.out⟩
    · obtain ⟨hs1, hs2⟩ := few_stop (fun x => caK (l.getD x default)) l j l.length 8 hj (by have := HN.out; omega) (.inl (by omega))
      have H1 := hid hs1
      have H2 := hid hs2
      clear hs1 hs2
      go_wp2_with fail
      go_ret
      exact ⟨l, g2, c2, HS.out, by rw [← H2.out, HN.out]; rfl, by rw [← H1.out]; exact ⟨HF.out.row, Nat.le_trans HU.out.size HF.out.new⟩, HU.out.trans HX.out⟩
end Go.Proofs.YtoadbogfbgediaaDoor

namespace Go.Proofs.YtoadbogfbgediaaDoor
open Go.RowKit
theorem InsAt.zero {α : Type} [Inhabited α] (p : α → Int) (l : List α) (x : α) : ∀ i, i < 0 → p x ≤ p (l.getD i default) := fun i hi => by omega

set_option maxRecDepth 100000 in
set_option maxHeartbeats 4000000 in
theorem rgather19_any (A : Option Addr) (n cap : Nat) (f : Nat → Ca) (w : World) (hA : SrcC w A n f) (hn : n ≤ 1000) :
    Calls Tryd.prog 19 #[.slice A n cap] w fun e w' => ∃ (l : List Ca) (g cp : Nat), Sorted pC (gathL f n) l ∧ e = .returned (.slice (some ⟨g, 0, none⟩) (min (kept (fun x => caK (l.getD x default)) l.length).length 8) cp) ∧ OwnG 47 encCa ((fewL (fun x => caK (l.getD x default)) l l.length).take 8) w.heap.size g cp w' ∧ Upd (fun _ => False) w w' := by
  have HA := hid hA
  clear hA
  go_enter Tryd.func19, Tryd.ntmps19
  go_wp2_with fail
  go_loopw [3, 4] (fun out i wr => ∃ (k : Nat) (l : List Ca) (g cp : Nat), k ≤ n ∧ i = .int .i64 k ∧ out = .slice (some ⟨g, 0, none⟩) l.length cp ∧ Hid (Sorted pC (gathL f k) l) ∧ Hid (OwnG 47 encCa l w.heap.size g cp wr) ∧ Hid (l.length ≤ k) ∧ Hid (Upd (fun _ => False) w wr)) (fun _ i _ => n - (intOf i).toNat)
  case atStart =>
    refine ⟨0, [], w.heap.size, 0, Nat.zero_le _, rfl, rfl, hid (Sorted.nil _), hid (OwnG.nil (heap_alloc_new w _) (Nat.le_refl _)), hid (Nat.le_refl _), hid ((Upd.refl _ w).alloc _)⟩
  case round =>
    obtain ⟨k, l, g, cp, hk, rfl, rfl, HS, HO, HL, HU⟩ := hrel
    by_cases hkn : k < n
    · obtain ⟨ba, oa, ha, c0, c1, c2, c3, c4, c5⟩ := (HA.out.upd HU.out).at6 k hkn
      have hok := (HA.out.ok k hkn).1
      obtain ⟨⟨ck, ⟨a1, a2⟩, ⟨b1, b2⟩, cp0⟩, hfk⟩ : ∃ q, f k = q := ⟨_, rfl⟩
      rw [hfk] at c0 c1 c2 c3 c4 c5 hok
      dsimp only at c0 c1 c2 c3 c4 c5 hok
      have HOK := hid hok
      have HFK := hid hfk
      subst ha
      clear hok hfk
      by_cases hlo : ck < 1
      · have hi : isK ck = false := by simp [isK]; omega
        have hg : gathL f (k + 1) = gathL f k := by rw [gathL, HFK.out]; simp [hi]
        have HG := hid hg
        clear hi hg
        go_wp2_with fail
        exact ⟨⟨k + 1, l, g, cp, by omega, by go_num, rfl, by rw [HG.out]; exact HS, hid (HO.out.upd ((Upd.refl (fun _ => False) wr).alloc _) (fun h => h)), hid (by have := HL.out; omega), hid (HU.out.alloc _)⟩, by simp [intOf]; omega⟩
      · by_cases hhi : 4 < ck
        · have hi : isK ck = false := by simp [isK]; omega
          have hg : gathL f (k + 1) = gathL f k := by rw [gathL, HFK.out]; simp [hi]
          have HG := hid hg
          clear hi hg
          go_wp2_with fail
          exact ⟨⟨k + 1, l, g, cp, by omega, by go_num, rfl, by rw [HG.out]; exact HS, hid (HO.out.upd ((Upd.refl (fun _ => False) wr).alloc _) (fun h => h)), hid (by have := HL.out; omega), hid (HU.out.alloc _)⟩, by simp [intOf]; omega⟩
        · have hi : isK ck = true := by simp [isK]; omega
          have hg : gathL f (k + 1) = gathL f k ++ [⟨ck, ⟨a1, a2⟩, ⟨b1, b2⟩, prioF ck (65535 - k)⟩] := by rw [gathL, HFK.out]; simp [hi, placed]
          have HG := hid hg
          clear hi hg
          go_wp2_with fail
          refine (rprio_any ck (65535 - k) _).mono ?_
          rintro e w1 ⟨rfl, rfl⟩
          obtain ⟨pr, hpr⟩ : ∃ pr, prioF ck (65535 - k) = pr := ⟨_, rfl⟩
          rw [hpr] at HG ⊢
          clear c0 c1 c2 c3 c4 c5 hpr
          go_wp2_with fail
          obtain ⟨w2, hw⟩ : ∃ w2, wr.alloc (.cells (caCells ⟨ck, ⟨a1, a2⟩, ⟨b1, b2⟩, pr⟩) 47) = w2 := ⟨_, rfl⟩
          have hu2 : Upd (fun _ => False) wr w2 := hw ▸ (Upd.refl _ wr).alloc _
          have hb2 := heap_alloc_new wr (.cells (caCells ⟨ck, ⟨a1, a2⟩, ⟨b1, b2⟩, pr⟩) 47)
          rw [hw] at hb2 ⊢
          clear hw
          have HU2 := hid (HU.out.trans hu2)
          have HO2 := hid (HO.out.upd hu2 (fun h => h))
          have HB2 := hid hb2
          clear hu2 hb2
          obtain ⟨na, hna⟩ : ∃ na, wr.heap.size = na := ⟨_, rfl⟩
          rw [hna] at HB2 ⊢
          have HL2 := hid (show l.length ≤ 1000 by have := HL.out; omega)
          have hl1000 := HL2.out
          clear hna HO HU
          go_loopw [6] (fun v wx => ∃ j : Nat, j ≤ l.length ∧ v = .int .i64 j ∧ Hid (∀ i, i < j → pr ≤ (l.getD i default).p) ∧ Hid (Upd (fun _ => False) w2 wx)) (fun v _ => l.length - (intOf v).toNat)
          case atStart => exact ⟨0, Nat.zero_le _, rfl, hid (fun i hi => by omega), hid (Upd.refl _ _)⟩
          case round =>
            obtain ⟨j, hj, rfl, HJ, HX⟩ := hrel
            go_upto_region 9 with (fail)
            go_cut [49] from 36 to 51 (fun x wx => ∃ β : Bool, x = .bool β ∧ Hid (Upd (fun _ => False) w2 wx) ∧ Hid (β = true → j < l.length ∧ pr ≤ (l.getD j default).p) ∧ Hid (β = false → InsAt pC l ⟨ck, ⟨a1, a2⟩, ⟨b1, b2⟩, pr⟩ j))
            case first =>
              by_cases hjl : j < l.length
              · have hB := HB2.out
                have q5 : wr.cell? ⟨na, 5, none⟩ = some (.int .u32 pr) := HX.out.cell ((blk_cell HB2.out 5).trans rfl) (fun h => h)
                have r5 : wr.cell? ⟨g, j * 6 + 5, none⟩ = some (.int .u32 (l.getD j default).p) := HX.out.cell ((HO2.out.cell (fun _ => rfl) j 5 hjl (by decide)).trans rfl) (fun h => h)
                obtain ⟨lp, hlp⟩ : ∃ lp, (l.getD j default).p = lp := ⟨_, rfl⟩
                have HLP := hid hlp
                rw [hlp] at r5
                clear hlp hB
                by_cases hge : pr ≤ lp
                · go_quiet (fail)
                  go_wp2_with fail
                  go_meet
                  exact ⟨true, rfl, hid (HX.out.drewN _), hid (fun _ => ⟨hjl, by rw [HLP.out]; exact hge⟩), hid (fun h => by simp at h)⟩
                · go_quiet (fail)
                  go_wp2_with fail
                  go_meet
                  exact ⟨false, rfl, hid (HX.out.drewN _), hid (fun h => by simp at h), hid (fun _ => ⟨hj, HJ.out, fun _ => by rw [pC, HLP.out]; show lp < pr; omega⟩)⟩
              · go_quiet (fail)
                go_wp2_with fail
                go_meet
                exact ⟨false, rfl, hid (HX.out.drewN _), hid (fun h => by simp at h), hid (fun _ => ⟨hj, HJ.out, fun h => absurd h hjl⟩)⟩
            case rest =>
              obtain ⟨β, rfl, HX2, HT, HF⟩ := hcut
              cases β with
              | true =>
                go_wp2_with fail
                refine ⟨⟨j + 1, (HT.out rfl).1, by go_num, hid (fun i hi => ?_), HX2⟩, by have := (HT.out rfl).1; simp [intOf]; omega⟩
                by_cases e : i = j
                · subst e; exact (HT.out rfl).2
                · exact HJ.out i (by omega)
              | false =>
                have HI := hid (HF.out rfl)
                clear HF HT
                go_upto_region 11 with (fail)
                have hbc := HX2.out.blk HB2.out (fun h => h)
                have hO := HO2.out.upd HX2.out (fun h => h)
                have HBC := hid hbc
                have HOC := hid hO
                have hcp := HO2.out.cap_
                have b1' : (0 : Int) ≤ (j : Int) := by omega
                have b2' : (j : Int) ≤ (cp : Int) := by omega
                have b3' : (j : Int) ≤ (l.length : Int) := by omega
                have b4' : (l.length : Int) ≤ (cp : Int) := by omega
                clear hbc hO
                go_region_held3 (fun W => W.cell? ⟨na, 0, none⟩ = some (.int .i64 ck) ∧ W.cell? ⟨na, 1, none⟩ = some (.int .u32 a1) ∧ W.cell? ⟨na, 2, none⟩ = some (.int .i64 a2) ∧ W.cell? ⟨na, 3, none⟩ = some (.int .u32 b1) ∧ W.cell? ⟨na, 4, none⟩ = some (.int .i64 b2) ∧ W.cell? ⟨na, 5, none⟩ = some (.int .u32 pr) ∧ Hid (Upd (fun _ => False) wc W))
                  (first
                    | exact ca_keep HBC.out ((Upd.refl _ wc).drew)
                    | exact ca_keep HBC.out (HU63.out)
                    | exact ca_keep HBC.out (HU59.out)
                    | exact ca_keep HBC.out (HU56.out)
                    | exact ca_keep HBC.out (((Upd.refl _ wc).drew).alloc _)
                    | exact ca_keep HBC.out ((((Upd.refl _ wc).drew).alloc _).alloc _)
                    | exact ca_keep HBC.out (HU56.out.alloc _))
                  (first
                    | (apply step_new sixC (wc := wc) (s := .tmp 52) (x := .tmp 55) (l := []) (ns := l.take j) (n := 0) (k := j) (N := j)
                       case hgd => rfl
                       case ho => rfl
                       case hs => rfl
                       case hx => rfl
                       case hU => first | exact ((Upd.refl _ wc).alloc _).drew | exact (((Upd.refl _ wc).alloc _).alloc _).drew | exact HU59.out | exact HU56.out | exact HU56.out.alloc _ | exact (HU56.out.alloc _).drew
                       case hl => rfl
                       case hk => rw [List.length_take]; omega
                       case hm => exact Nat.zero_add j
                       case hb => omega
                       case hO => exact OwnG.nil (by first | exact heap_alloc_at _ _ _ _ (by simp) | exact blk_drew (heap_alloc_at _ _ _ _ (by simp)) | exact blk_drew (Upd.blk ((Upd.refl (fun _ => False) _).alloc _) (heap_alloc_at _ _ _ _ (by simp)) (fun h => h))) (by simp)
                       case hN => exact (OwnG.upd (S := fun _ => False) HOC.out (by first | exact ((Upd.refl _ wc).alloc _).drew | exact (((Upd.refl _ wc).alloc _).alloc _).drew | exact HU59.out | exact HU56.out | exact HU56.out.alloc _ | exact (HU56.out.alloc _).drew) (fun h => h)).take (fun _ => rfl) j
                       intro g56 q56 w56 hO56 hU56 hV56
                       have HO56 := hid hO56
                       have HU56 := hid hU56
                       have HV56 := hid hV56
                       clear hO56 hU56 hV56)
                    | (apply step_new sixC (wc := wc) (s := .tmp 56) (x := .tmp 58) (l := [] ++ l.take j) (ns := [⟨ck, ⟨a1, a2⟩, ⟨b1, b2⟩, pr⟩]) (n := j) (k := 1) (N := j + 1)
                       case hgd => rfl
                       case ho => rfl
                       case hs => rfl
                       case hx => rfl
                       case hU => first | exact ((Upd.refl _ wc).alloc _).drew | exact (((Upd.refl _ wc).alloc _).alloc _).drew | exact HU59.out | exact HU56.out | exact HU56.out.alloc _ | exact (HU56.out.alloc _).drew
                       case hl => rw [List.length_append, List.length_take]; simp; omega
                       case hk => rfl
                       case hm => rfl
                       case hb => omega
                       case hO => first | exact HO56.out | exact HO56.out.upd ((Upd.refl (fun _ => False) _).alloc _) (fun h => h) | exact HO56.out.upd ((Upd.refl (fun _ => False) _).alloc _).drew (fun h => h)
                       case hN => first
                         | exact news_one (by first | exact heap_alloc_at _ _ _ _ (by simp) | exact blk_drew (heap_alloc_at _ _ _ _ (by simp)) | exact blk_drew (Upd.blk ((Upd.refl (fun _ => False) _).alloc _) (heap_alloc_at _ _ _ _ (by simp)) (fun h => h))) rfl
                         | exact news_one (HV56.out.blk (by first | exact heap_alloc_at _ _ _ _ (by simp) | exact blk_drew (heap_alloc_at _ _ _ _ (by simp)) | exact blk_drew (Upd.blk ((Upd.refl (fun _ => False) _).alloc _) (heap_alloc_at _ _ _ _ (by simp)) (fun h => h))) (by simp)) rfl
                       intro g59 q59 w59 hO59 hU59 hV59
                       have HO59 := hid hO59
                       have HU59 := hid hU59
                       have HV59 := hid hV59
                       clear hO59 hU59 hV59)
                    | (apply step_new sixC (wc := wc) (s := .tmp 59) (x := .tmp 62) (l := ([] ++ l.take j) ++ [⟨ck, ⟨a1, a2⟩, ⟨b1, b2⟩, pr⟩]) (ns := l.drop j) (n := j + 1) (k := l.length - j) (N := l.length + 1)
                       case hgd => rfl
                       case ho => rfl
                       case hs => rfl
                       case hx => rfl
                       case hU => first | exact ((Upd.refl _ wc).alloc _).drew | exact (((Upd.refl _ wc).alloc _).alloc _).drew | exact HU59.out | exact HU56.out | exact HU56.out.alloc _ | exact (HU56.out.alloc _).drew
                       case hl => rw [List.length_append, List.length_append, List.length_take]; simp; omega
                       case hk => rw [List.length_drop]
                       case hm => omega
                       case hb => omega
                       case hO => exact HO59.out
                       case hN => exact (OwnG.upd (S := fun _ => False) HOC.out (by first | exact ((Upd.refl _ wc).alloc _).drew | exact (((Upd.refl _ wc).alloc _).alloc _).drew | exact HU59.out | exact HU56.out | exact HU56.out.alloc _ | exact (HU56.out.alloc _).drew) (fun h => h)).rest (fun _ => rfl) j hj
                       intro g63 q63 w63 hO63 hU63 hV63
                       have HO63 := hid hO63
                       have HU63 := hid hU63
                       have HV63 := hid hV63
                       clear hO63 hU63 hV63)
                    | fail)
                all_goals
                  have hlen : (([] ++ l.take j) ++ [(⟨ck, ⟨a1, a2⟩, ⟨b1, b2⟩, pr⟩ : Ca)] ++ l.drop j).length = l.length + 1 := by
                    simp only [List.length_append, List.length_take, List.length_drop, List.length_nil, List.length_singleton]; omega
                  have HLEN := hid hlen
                  clear hlen
                  go_wp2_with fail
                  refine ⟨⟨k + 1, _, g63, q63, by omega, by go_num, by rw [HLEN.out], hid ?_, hid ⟨HO63.out.row, Nat.le_trans (HU2.out.trans HX2.out).size HO63.out.new⟩, hid ?_, hid ((HU2.out.trans HX2.out).trans HU63.out)⟩, by simp [intOf]; omega⟩
                  · rw [HG.out, List.nil_append]; exact HS.out.put HI.out
                  · rw [HLEN.out]; have := HL.out; omega
    · have hkn' : k = n := by omega
      subst hkn'
      have HL2 := hid (show l.length ≤ 1000 by have := HL.out; omega)
      clear HL hk hkn HA
      go_upto_if 15 with (fail)
      refine wp_cond_false rfl (wp_exit ?_)
      refine (show ∀ x y, Code.wp Tryd.prog tailG _ x y → _ by assumption) _ _ ?_
      exact tailG_any (gathL f k) l g cp w _ HS HO HL2 HU _ _ _ _ _ _ _ _ _ _ _ _ _ _ _ _ _ _ _ _ _ _ _ _ _ _ _ _ _ _ _ _ _ _ _ _ _ _ _ _ _ _ _ _ _ _ _ _ _ _ _ _ _ _ _ _ _ _ _ _ _ _ _ _ _ _ _ _ _ _ _ _ _ _ _ _ _ _ _ _ _ _ _ _ _ _ _ _ _ _ _ _ _ _ _ _ _ _ _ _ _ _ _ _ _ _ _ _ _ _ _ _ _ _ _ _
end Go.Proofs.YtoadbogfbgediaaDoor

namespace Go.Proofs.YtoadbogfbgediaaDoor
open Go.RowKit
theorem few_len {α : Type} [Inhabited α] (ks : Nat → Ad × Ad) (l : List α) (n m : Nat) : ((fewL ks l n).take m).length = min (kept ks n).length m := by
  rw [List.length_take, fewL_len]; omega
theorem same_few {α : Type} [Inhabited α] (key : α → Ad × Ad) {p : α → Int} {L l : List α} (h : Sorted p L l) {d : Array Nat} (hs : d.size = L.length) (hm : Mv 0 L.length (Array.range L.length) d) (hsr : Srt (fun x => p (L.getD x default)) d 0 L.length) (most : Nat) :
    kept (fun x => key (l.getD x default)) l.length = kept (fun x => key (L.getD d[x]! default)) L.length ∧
    ∀ x, x < min (kept (fun x => key (L.getD d[x]! default)) L.length).length most → ((fewL (fun x => key (l.getD x default)) l l.length).take most).getD x default = L.getD d[(kept (fun x => key (L.getD d[x]! default)) L.length).getD x 0]! default := by
  obtain ⟨h1, h2⟩ := h.same hs hm hsr
  have hk : kept (fun x => key (l.getD x default)) l.length = kept (fun x => key (L.getD d[x]! default)) L.length := by
    rw [h1]
    exact kept_congr _ (fun i hi => by rw [h2 i hi])
  refine ⟨hk, fun x hx => ?_⟩
  have e1 : ((fewL (fun x => key (l.getD x default)) l l.length).take most).getD x default = (fewL (fun x => key (l.getD x default)) l l.length).getD x default := by
    simp only [List.getD, List.getElem?_take]
    rw [if_pos (by omega)]
  rw [e1, fewL_get _ _ _ _ (by rw [hk]; omega), hk]
  exact h2 _ (kept_in _ _ x (by omega)).1
theorem OwnG.srcC {l : List Ca} {n0 g cap : Nat} {w : World} (h : OwnG 47 encCa l n0 g cap w) (hl : l.length ≤ 1000) (ok : ∀ i, i < l.length → InR (l.getD i default).k ∧ InU (l.getD i default).p) : SrcC w (some ⟨g, 0, none⟩) l.length (fun i => l.getD i default) :=
  ⟨by omega, fun i hi => ⟨g, 0, rfl, (World.ownsRow.lt h.row g rfl).2, fun j hj => by
    rw [Nat.zero_add, h.cell (fun _ => rfl) i j hi hj]; simp [encCa]⟩, ok⟩
theorem SrcC.congr {w : World} {A : Option Addr} {n : Nat} {f g : Nat → Ca} (h : SrcC w A n f) (e : ∀ i, i < n → f i = g i) : SrcC w A n g :=
  ⟨h.max, fun i hi => by rw [← e i hi]; exact h.at_ i hi, fun i hi => by rw [← e i hi]; exact h.ok i hi⟩
/-- Gather, and the document's. -/
theorem gather_pair (bm : Nat) (es : Array MapEntry) (clock : Nat) (A : Option Addr) (n ca : Nat) (f : Nat → Ca) (w : World) (hK : Kin bm es clock w) (hA : SrcC w A n f) (hn : n ≤ 1000) :
    Calls Tryd.prog 18 #[.slice A n ca] w fun e w' => ∃ (R : Option Addr) (m cp : Nat) (h : Nat → Ca), e = .returned (.slice R m cp) ∧ SrcC w' R m h ∧ Upd (fun _ => False) w w' ∧
      ∀ l, Sorted pC (gathL f n) l → min (kept (fun x => caK (l.getD x default)) l.length).length 8 = m ∧ ∀ x, x < m → ((fewL (fun x => caK (l.getD x default)) l l.length).take 8).getD x default = h x := by
  refine (gather18_any bm es clock A n ca f w hK hA hn).mono ?_
  rintro e w' (⟨hz, rfl, hu⟩ | ⟨b, cp, w1, _, hF, hu⟩)
  · refine ⟨none, 0, 0, fun _ => default, rfl, ⟨by omega, fun i hi => by omega, fun i hi => by omega⟩, hu, fun l hl => ⟨?_, fun x hx => by omega⟩⟩
    rw [hz] at hl
    obtain ⟨D, rfl, _, hD⟩ := hl
    have : D = [] := by
      cases D with
      | nil => rfl
      | cons a r => exact absurd ((hD a).1 (by simp)) (by simp)
    subst this
    simp [kept]
  · obtain ⟨d, m, h, rfl, hR, hm, hB, hh, _⟩ := hF
    dsimp only at hm hh
    refine ⟨_, m, cp, h, rfl, hB.src (by omega) (fun x hx => ?_), hu, fun l hl => ?_⟩
    · have hk := (kept_in (fun x => caK ((gathL f n).getD d[x]! default)) (gathL f n).length x (by omega)).1
      have h1 := hR.lt _ hk
      have eg : (gathL f n).getD d[(kept (fun x => caK ((gathL f n).getD d[x]! default)) (gathL f n).length).getD x 0]! default = (gathL f n)[d[(kept (fun x => caK ((gathL f n).getD d[x]! default)) (gathL f n).length).getD x 0]!] := by
        rw [List.getD_eq_getElem?_getD, List.getElem?_eq_getElem h1]; rfl
      obtain ⟨j, hj, _, e⟩ := mem_gathL f _ n (List.getElem_mem h1)
      rw [hh x hx, eg, e]
      exact placed_ok _ _ (hA.ok j hj).1
    · obtain ⟨q1, q2⟩ := same_few caK hl hR.size hR.mv hR.srt 8
      rw [q1]
      exact ⟨hm.symm, fun x hx => by rw [hh x hx]; exact q2 x (by omega)⟩
theorem min_cut30 (n cap : Nat) (h : n ≤ cap) : (min (n : Int) 30).toNat = min n 30 ∧ ((min (n : Int) 30) ≤ (cap : Int)) ∧ (0 ≤ min (n : Int) 30) := by omega
set_option maxRecDepth 100000 in
set_option maxHeartbeats 4000000 in
theorem gathers4_any (bm : Nat) (es : Array MapEntry) (clock : Nat) (A : Option Addr) (n ca : Nat) (f : Nat → Ca) (w : World) (hK : Kin bm es clock w) (hca : n ≤ ca) (hA : SrcC w A n f) :
    Calls Tryd.prog 4 #[.slice A n ca] w fun e w' => e = .returned (.bool true) ∧ Upd (fun _ => False) w w' := by
  have HK := hid hK
  have HA := hid hA
  clear hK hA
  go_enter Tryd.func4, Tryd.ntmps4
  go_wp2_with fail
  refine (shown12_any bm es clock w HK.out).mono ?_
  rintro e w1 ⟨rfl, hu⟩
  have HU1 := hid hu
  clear hu
  obtain ⟨q1, q2, q3⟩ := min_cut30 n ca hca
  have hA1 := hid ((HA.out.upd HU1.out).less (show min n 30 ≤ n by omega))
  have hN3 : min n 30 ≤ 30 := by omega
  obtain ⟨N, hN⟩ : ∃ N, min n 30 = N := ⟨_, rfl⟩
  rw [hN] at q1 hA1 hN3
  have HOK := hid hA1.out.ok
  clear hN HA
  go_wp2_with (first
    | (at_builtin; refine app_copy rfl _ _ rfl A N ca f rfl rfl (Nat.le_trans hN3 (by decide)) hA1.out ?_; intro g1 c1 w2 hrow4 hu4 hlt4; have HR2 := hid hrow4; have HU2 := hid (HU1.out.trans hu4); have HB2 := hid (hrow4.src (Nat.le_trans hN3 (by decide)) HOK.out); clear hrow4 hu4 hlt4)
    | (at_builtin; refine app_copy rfl _ _ rfl (some ⟨g1, 0, none⟩) N c1 f rfl rfl (Nat.le_trans hN3 (by decide)) HB2.out ?_; intro g2 c2 w3 hrow4 hu4 hlt4; have HU3 := hid (HU2.out.trans hu4); have HB3 := hid (HB2.out.upd hu4); have HD3 := hid (hrow4.src (Nat.le_trans hN3 (by decide)) HOK.out); clear hrow4 hu4 hlt4 HR2 HB2 HU2 hA1))
  refine (gather_pair bm es clock (some ⟨g1, 0, none⟩) N c1 f w3 (HK.out.upd HU3.out (fun h => h) (fun h => h)) HB3.out (by omega)).mono ?_
  rintro e w4 ⟨R, m, cp, h, rfl, hR, hu4, hsame⟩
  have HR := hid hR
  have HS := hid hsame
  have HB4 := hid (HB3.out.upd hu4)
  have HD4 := hid (HD3.out.upd hu4)
  have HU4 := hid (HU3.out.trans hu4)
  clear hR hsame hu4 HB3 HD3
  go_wp2_with fail
  refine (rgather19_any (some ⟨g2, 0, none⟩) N c2 f w4 HD4.out (by omega)).mono ?_
  rintro e w5 ⟨l, g5, c5, hl, rfl, hO, hu5⟩
  obtain ⟨hm, hx⟩ := HS.out l hl
  have hlen := few_len (fun x => caK (l.getD x default)) l l.length 8
  rw [hm] at hlen ⊢
  have HR5 := hid (HR.out.upd hu5)
  have HB5 := hid (HB4.out.upd hu5)
  have HD5 := hid (HD4.out.upd hu5)
  have HU5 := hid (HU4.out.trans hu5)
  have hO5 : SrcC w5 (some ⟨g5, 0, none⟩) m h := by
    have := hO.srcC (by rw [hlen, ← hm]; omega) (fun i hi => by
      rw [hlen] at hi
      rw [hx i hi]
      exact HR.out.ok i hi)
    rw [hlen] at this
    exact this.congr hx
  have HO5 := hid hO5
  clear hO hu5 hl hm hx hlen hO5 HR HB4 HD4 HS
  go_wp2_with fail
  refine (cands17_any R (some ⟨g5, 0, none⟩) m cp c5 h w5 HR5.out HO5.out).mono ?_
  rintro e w6 ⟨rfl, hu6⟩
  have HB6 := hid (HB5.out.upd hu6)
  have HD6 := hid (HD5.out.upd hu6)
  have HU6 := hid (HU5.out.trans hu6)
  clear hu6
  go_wp2_with fail
  refine (cands17_any (some ⟨g1, 0, none⟩) (some ⟨g2, 0, none⟩) N c1 c2 f w6 HB6.out HD6.out).mono ?_
  rintro e w7 ⟨rfl, hu7⟩
  have HU7 := hid (HU6.out.trans hu7)
  clear hu7
  go_wp2_with fail
  go_ret
  exact ⟨rfl, HU7.out⟩
end Go.Proofs.YtoadbogfbgediaaDoor
