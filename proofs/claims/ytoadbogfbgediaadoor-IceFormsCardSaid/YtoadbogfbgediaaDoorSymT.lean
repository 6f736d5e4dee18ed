/- symMerge over a row of pairs: what stands behind the search, in two declarations (no statement of the seat). Printed by gen_sym.py. -/
import Derived.Test.YtoadbogfbgediaaDoorSymB
import Derived.Deep.Cut
namespace Go.Proofs.YtoadbogfbgediaaDoor
open Go.RowKit Go.Lib Go.Sort

theorem Crs.out {d d' : Array Nat} {a m b x y : Nat} (h : Crs d a m b) (hm : Mv x y d d') (hd : b ≤ x ∨ y ≤ a) (hmb : m ≤ b) (ham : a ≤ m) : Crs d' a m b := by
  intro i j hi him hmj hj
  rw [hm.out i (by omega), hm.out j (by omega)]
  exact h i j hi him hmj hj
theorem Srt.none {W : Nat → Int} {d : Array Nat} {a b : Nat} (h : b ≤ a) : Srt W d a b := fun i j hi hij hj => by omega

/-- symMerge's contract at rows shorter than so much. -/
def SymAt (P : Program) (z : Nat) (enc : Nat → List Value) (W : Nat → Int) (g : Nat) (cb : Array Value) (blk off cap N : Nat) (w0 : World) (lim : Nat) : Prop :=
  ∀ (a m b : Nat) (d : Array Nat) (w : World), d.size = N → SWK enc z w0 blk off d w → a < m → m < b → b ≤ N → b - a < lim → Srt W d a m → Srt W d m b → Crs d a m b →
    Calls P 53 #[.slice (some ⟨blk, off, none⟩) N cap, .int .i64 a, .int .i64 m, .int .i64 b, .func (.func g) #[] cb] w fun e w' =>
      e = .returned (.tuple #[]) ∧ ∃ d', Mv a b d d' ∧ Srt W d' a b ∧ SWK enc z w0 blk off d' w'

theorem bool_meet {β : Bool} {A B : Prop} [Decidable B] (h : β = true ↔ (A ∧ B)) (ha : A) : Value.bool (decide B) = Value.bool β := by
  congr 1; rw [Bool.eq_iff_iff, h]; simp [ha]
theorem bool_meet0 {β : Bool} {A B : Prop} (h : β = true ↔ (A ∧ B)) (ha : ¬ A) : Value.bool false = Value.bool β := by
  congr 1; rw [Bool.eq_iff_iff, h]; simp [ha]
/-- What stands behind the first of the two calls. -/
structure Mid2 (W : Nat → Int) (d d2 : Array Nat) (a mid e b : Nat) : Prop where
  size : d2.size = d.size
  mv : Mv a b d d2
  l : Srt W d2 a mid
  r1 : Srt W d2 mid e
  r2 : Srt W d2 e b
  rc : Crs d2 mid e b
  ahd : Ahd W d2 a mid b
theorem Halves.rec1 {W : Nat → Int} {d d1 d2 : Array Nat} {a i mid e b : Nat} (H : Halves W d1 a i mid e b) (hm : Mv a b d d1) (hmid : mid ≤ b) (hme : mid ≤ e) (heb : e ≤ b) (h : Mv a mid d1 d2) (hs : Srt W d2 a mid) : Mid2 W d d2 a mid e b :=
  ⟨h.size.trans hm.size, hm.trans (h.wide (Nat.le_refl _) hmid), hs, H.r1.out h (.inr (Nat.le_refl _)), H.r2.out h (.inr hme), H.rc.out h (.inr (Nat.le_refl _)) heb hme, H.ahd.mv h⟩
theorem Mid2.rec2 {W : Nat → Int} {d d2 d3 : Array Nat} {a mid e b : Nat} (H : Mid2 W d d2 a mid e b) (ham : a ≤ mid) (h : Mv mid b d2 d3) (hs : Srt W d3 mid b) : Mv a b d d3 ∧ Srt W d3 a b :=
  ⟨H.mv.trans (h.wide ham (Nat.le_refl _)), (H.l.out h (.inl (Nat.le_refl _))).join hs (H.ahd.mv' h)⟩

/-- Where the search begins and ends. -/
structure Bnd (a m b mid n st r : Nat) : Prop where
  h1 : a ≤ st
  h2 : st ≤ r
  h3 : r ≤ m
  h5 : st = a ∨ st + b = n
  h6 : r = m ∨ r = mid
  h8 : r ≤ mid
  h7 : ∀ c, st ≤ c → c < r → m + 1 + c ≤ n ∧ n ≤ b + c

theorem sub_facts (p c q N : Nat) (h : c + q = p) (hq : q < N) (hN : N ≤ 1000000) : (p : Int) - (c : Int) = (q : Int) ∧ (q : Int) < (N : Int) ∧ wrap64 (q : Int) = (q : Int) ∧ IntKind.i64.wrap (q : Int) = (q : Int) :=
  ⟨by omega, by omega, by unfold wrap64; omega, by rw [IntKind.wrap_i64]; omega⟩


def headId : Code → Option Nat
  | .region id _ _ => some id
  | .seq a _ => headId a
  | _ => Option.none
/-- The part of a text that begins with such a region and goes on to the end. -/
def findAt (k : Nat) : Code → Option Code
  | .seq a b => if headId a = some k then some (.seq a b) else match findAt k a with
    | some c => some c
    | Option.none => findAt k b
  | .block _ c => findAt k c
  | .scope c => findAt k c
  | _ => Option.none
noncomputable def tail41P : Code := ((Tryd.f53.body.bind (findAt 41)).getD .skip)
noncomputable def tail39P : Code := ((Tryd.f53.body.bind (findAt 39)).getD .skip)

set_option maxHeartbeats 8000000 in
set_option maxRecDepth 1000000 in
theorem tail41_53 {P : Program} {z : Nat} (T : Ty P 41 33 70 z) (FG : P.funcs[53]? = some Tryd.f53) (F55 : P.funcs[55]? = some Tryd.f55) (F57 : P.funcs[57]? = some Tryd.f57)
    (e53 : ∀ args w, (callFunc 53 args).run P w = .ok (.enter 53 args) w) (e55 : ∀ args w, (callFunc 55 args).run P w = .ok (.enter 55 args) w) (e57 : ∀ args w, (callFunc 57 args).run P w = .ok (.enter 57 args) w)
    (enc : Nat → List Value) (cf : Nat → Nat → Int) (W : Nat → Int) (g : Nat) (cb : Array Value) (blk off cap : Nat) (d0 : Array Nat) (w0 : World) (a m b : Nat) (d : Array Nat)
    (Y : Sy P z enc cf W g cb blk off d.size d0 w0) (IH : SymAt P z enc W g cb blk off cap d.size w0 (b - a)) (hb : b ≤ d.size)
    (mid n i p e : Nat) (hai' : a ≤ i) (hmb' : mid ≤ e ∧ e ≤ b ∧ a ≤ mid ∧ mid < b ∧ a < mid) (d1 : Array Nat) (wc : World) (HV : Aside (Mv a b d d1 ∧ Halves W d1 a i mid e b)) (S1 : Aside (SWK enc z w0 blk off d1 wc))
    (u5 u6 u7 u8 u9 u10 u11 u12 u13 u14 u15 u16 u17 u23 u25 u26 u27 u28 u29 u30 u31 u32 u33 u34 u35 u36 u37 u38 u39 u40 u41 u42 u43 u44 u45 u46 u47 u48 u49 u50 u51 u52 u53 u54 u55 u56 u57 u58 u59 u60 u61 u62 u63 u64 u65 u66 u67 u68 u69 u70 u71 u72 u73 u74 u75 u76 u77 u78 u79 u80 u81 u82 u83 u84 u85 u86 u87 u88 u89 u90 u91 u92 u93 u94 u95 u96 u97 u98 u99 u100 u101 u102 u103 u104 u105 u106 u107 u108 u109 u110 u111 u112 u113 u114 u115 u116 u117 u118 u119 u120 u121 u122 u123 u124 u125 u126 u127 u128 u129 u130 u131 u132 u133 u134 u135 u136 u137 u138 u139 u140 u141 u142 u143 u144 u145 u146 u147 u148 u149 u150 u151 u152 u153 u154 u155 u156 u157 u158 u159 u160 u161 u162 u163 u164 u165 u166 u167 u168 u169 u170 u171 u172 u173 u174 u175 u176 u177 u178 u179 u180 u181 u182 u183 u184 u185 u186 u187 u188 u189 u190 u191 u192 u193 u194 u195 u196 u197 u198 u199 u200 u201 u202 u203 u204 u205 u206 u207 u208 u209 u210 u211 u212 u213 u214 u215 u216 u217 u218 u219 : Value) :
    Code.wp P tail41P (bodyPost P Tryd.f53 fun e w' => e = Ending.returned (Value.tuple #[]) ∧ ∃ d', Mv a b d d' ∧ Srt W d' a b ∧ SWK enc z w0 blk off d' w') ⟨(.slice (some ⟨blk, off, none⟩) d.size cap :: .int .i64 a :: .int .i64 m :: .int .i64 b :: .func (.func g) #[] cb :: u5 :: u6 :: u7 :: u8 :: u9 :: u10 :: u11 :: u12 :: u13 :: u14 :: u15 :: u16 :: u17 :: .int .i64 mid :: .int .i64 n :: .int .i64 i :: .int .i64 i :: .int .i64 p :: u23 :: .int .i64 e :: u25 :: u26 :: u27 :: u28 :: u29 :: u30 :: u31 :: u32 :: u33 :: u34 :: u35 :: u36 :: u37 :: u38 :: u39 :: u40 :: u41 :: u42 :: u43 :: u44 :: u45 :: u46 :: u47 :: u48 :: u49 :: u50 :: u51 :: u52 :: u53 :: u54 :: u55 :: u56 :: u57 :: u58 :: u59 :: u60 :: u61 :: u62 :: u63 :: u64 :: u65 :: u66 :: u67 :: u68 :: u69 :: u70 :: u71 :: u72 :: u73 :: u74 :: u75 :: u76 :: u77 :: u78 :: u79 :: u80 :: u81 :: u82 :: u83 :: u84 :: u85 :: u86 :: u87 :: u88 :: u89 :: u90 :: u91 :: u92 :: u93 :: u94 :: u95 :: u96 :: u97 :: u98 :: u99 :: u100 :: u101 :: u102 :: u103 :: u104 :: u105 :: u106 :: u107 :: u108 :: u109 :: u110 :: u111 :: u112 :: u113 :: u114 :: u115 :: u116 :: u117 :: u118 :: u119 :: u120 :: u121 :: u122 :: u123 :: u124 :: u125 :: u126 :: u127 :: u128 :: u129 :: u130 :: u131 :: u132 :: u133 :: u134 :: u135 :: u136 :: u137 :: u138 :: u139 :: u140 :: u141 :: u142 :: u143 :: u144 :: u145 :: u146 :: u147 :: u148 :: u149 :: u150 :: u151 :: u152 :: u153 :: u154 :: u155 :: u156 :: u157 :: u158 :: u159 :: u160 :: u161 :: u162 :: u163 :: u164 :: u165 :: u166 :: u167 :: u168 :: u169 :: u170 :: u171 :: u172 :: u173 :: u174 :: u175 :: u176 :: u177 :: u178 :: u179 :: u180 :: u181 :: u182 :: u183 :: u184 :: u185 :: u186 :: u187 :: u188 :: u189 :: u190 :: u191 :: u192 :: u193 :: u194 :: u195 :: u196 :: u197 :: u198 :: u199 :: u200 :: u201 :: u202 :: u203 :: u204 :: u205 :: u206 :: u207 :: u208 :: u209 :: u210 :: u211 :: u212 :: u213 :: u214 :: u215 :: u216 :: u217 :: u218 :: u219 :: []).toArray, []⟩ wc := by
  have YY : Aside (Sy P z enc cf W g cb blk off d.size d0 w0) := Y
  have II : Aside (SymAt P z enc W g cb blk off cap d.size w0 (b - a)) := IH
  have TT : Aside (Ty P 41 33 70 z) := T
  have FF : Aside (P.funcs[55]? = some Tryd.f55 ∧ P.funcs[57]? = some Tryd.f57) := ⟨F55, F57⟩
  have EE : Aside (∀ args w, (callFunc 57 args).run P w = .ok (.enter 57 args) w) := e57
  have hN := Y.hN
  have eg := Y.eg
  clear Y IH F55 F57
  obtain ⟨mixed, t0, a0, z0, v0, t3, a3, z3, v3, t4, a4, z4, v4, t48, a48, z48, v48, ts, aS, zs, vs, tf, af, zf, vf, aE, zE⟩ := T
  have us := run_underlying ts
  conv => arg 2; whnf
  go_upto_region 41 with (fail)
  obtain ⟨β2, hβ2⟩ : ∃ β : Bool, (β = true ↔ (a < i ∧ i < mid)) := ⟨decide (a < i ∧ i < mid), by simp⟩
  have HB2 := hid hβ2
  clear hβ2
  go_cut [199] from 25 (fun x wx => x = .bool β2 ∧ wx = wc)
  case first =>
    go_wp2_with fail
    all_goals
      go_meet
      first
        | exact ⟨bool_meet HB2.out (by assumption), rfl⟩
        | exact ⟨bool_meet0 HB2.out (by assumption), rfl⟩
  case rest =>
    obtain ⟨rfl, rfl⟩ := hcut
    go_upto_if 199 with (fail)
    go_cut [] from 25 (fun wx => ∃ d2 : Array Nat, Aside (Mid2 W d d2 a mid e b) ∧ Aside (SWK enc z w0 blk off d2 wx))
    case first =>
      cases β2 with
      | false =>
        have hno : ¬ (a < i ∧ i < mid) := fun q => by have := HB2.out.2 q; cases this
        have hs : Srt W d1 a mid := by
          by_cases h : i = a
          · subst h; exact HV.out.2.l2
          · exact HV.out.2.l1.narrow (Nat.le_refl _) (by omega)
        have hF : Aside (Mid2 W d d1 a mid e b) := HV.out.2.rec1 HV.out.1 (by omega) hmb'.1 hmb'.2.1 (Mv.refl _ _ _) hs
        clear hs
        go_wp2_with fail
        go_meet
        exact ⟨d1, hF, S1⟩
      | true =>
        have hyes := HB2.out.1 rfl
        go_wp2_with fail
        refine (II.out a i mid d1 _ HV.out.1.size S1.out hyes.1 hyes.2 (by omega) (by omega) HV.out.2.l1 HV.out.2.l2 HV.out.2.lc).mono ?_
        rintro e' w' ⟨rfl, d2, hm2, hs2, S2⟩
        have hF : Aside (Mid2 W d d2 a mid e b) := HV.out.2.rec1 HV.out.1 (by omega) hmb'.1 hmb'.2.1 hm2 hs2
        have HS2 : Aside _ := S2
        clear hm2 hs2 S2
        go_wp2_with fail
        go_meet
        exact ⟨d2, hF, HS2⟩
    case rest =>
      clear S1 HV
      obtain ⟨d2, H2, S1⟩ := hcut
      go_upto_region 43 with (fail)
      obtain ⟨β3, hβ3⟩ : ∃ β : Bool, (β = true ↔ (mid < e ∧ e < b)) := ⟨decide (mid < e ∧ e < b), by simp⟩
      have HB3 := hid hβ3
      clear hβ3
      go_cut [213] from 25 (fun x wx => x = .bool β3 ∧ wx = wc)
      case first =>
        go_wp2_with fail
        all_goals
          go_meet
          first
            | exact ⟨bool_meet HB3.out (by assumption), rfl⟩
            | exact ⟨bool_meet0 HB3.out (by assumption), rfl⟩
      case rest =>
        obtain ⟨rfl, rfl⟩ := hcut
        cases β3 with
        | false =>
          have hno : ¬ (mid < e ∧ e < b) := fun q => by have := HB3.out.2 q; cases this
          have hs : Srt W d2 mid b := by
            by_cases h : mid = e
            · have := H2.out.r2; rwa [← h] at this
            · exact H2.out.r1.narrow (Nat.le_refl _) (by omega)
          have hF := hid (H2.out.rec2 hmb'.2.2.1 (Mv.refl _ _ _) hs)
          clear hs
          go_wp2_with fail
          go_end0
          exact ⟨rfl, d2, hF.out.1, hF.out.2, S1.out⟩
        | true =>
          have hyes := HB3.out.1 rfl
          go_wp2_with fail
          refine (II.out mid e b d2 _ H2.out.size S1.out hyes.1 hyes.2 hb (by omega) H2.out.r1 H2.out.r2 H2.out.rc).mono ?_
          rintro e' w' ⟨rfl, d3, hm3, hs3, S3⟩
          have hF := hid (H2.out.rec2 hmb'.2.2.1 hm3 hs3)
          have HS3 : Aside _ := S3
          clear hm3 hs3 S3
          go_wp2_with fail
          go_end0
          exact ⟨rfl, d3, hF.out.1, hF.out.2, HS3.out⟩

set_option maxHeartbeats 8000000 in
set_option maxRecDepth 1000000 in
theorem tail39_53 {P : Program} {z : Nat} (T : Ty P 41 33 70 z) (FG : P.funcs[53]? = some Tryd.f53) (F55 : P.funcs[55]? = some Tryd.f55) (F57 : P.funcs[57]? = some Tryd.f57)
    (e53 : ∀ args w, (callFunc 53 args).run P w = .ok (.enter 53 args) w) (e55 : ∀ args w, (callFunc 55 args).run P w = .ok (.enter 55 args) w) (e57 : ∀ args w, (callFunc 57 args).run P w = .ok (.enter 57 args) w)
    (enc : Nat → List Value) (cf : Nat → Nat → Int) (W : Nat → Int) (g : Nat) (cb : Array Value) (blk off cap : Nat) (d0 : Array Nat) (w0 : World) (a m b : Nat) (d : Array Nat)
    (Y : Sy P z enc cf W g cb blk off d.size d0 w0) (IH : SymAt P z enc W g cb blk off cap d.size w0 (b - a)) (hb : b ≤ d.size)
    (mid n i p e : Nat) (him : i ≤ m) (hai' : a ≤ i) (hme : m ≤ e ∧ e ≤ b) (hmb' : mid ≤ e ∧ e ≤ b ∧ a ≤ mid ∧ mid < b ∧ a < mid) (HHV : Hid (∀ d1 : Array Nat, (∀ k, d1[k]! = d[rot i m e k]!) → Halves W d1 a i mid e b)) (wr : World) (S1 : Aside (SWK enc z w0 blk off d wr))
    (u5 u6 u7 u8 u9 u10 u11 u12 u13 u14 u15 u16 u17 u23 u25 u26 u27 u28 u29 u30 u31 u32 u33 u34 u35 u36 u37 u38 u39 u40 u41 u42 u43 u44 u45 u46 u47 u48 u49 u50 u51 u52 u53 u54 u55 u56 u57 u58 u59 u60 u61 u62 u63 u64 u65 u66 u67 u68 u69 u70 u71 u72 u73 u74 u75 u76 u77 u78 u79 u80 u81 u82 u83 u84 u85 u86 u87 u88 u89 u90 u91 u92 u93 u94 u95 u96 u97 u98 u99 u100 u101 u102 u103 u104 u105 u106 u107 u108 u109 u110 u111 u112 u113 u114 u115 u116 u117 u118 u119 u120 u121 u122 u123 u124 u125 u126 u127 u128 u129 u130 u131 u132 u133 u134 u135 u136 u137 u138 u139 u140 u141 u142 u143 u144 u145 u146 u147 u148 u149 u150 u151 u152 u153 u154 u155 u156 u157 u158 u159 u160 u161 u162 u163 u164 u165 u166 u167 u168 u169 u170 u171 u172 u173 u174 u175 u176 u177 u178 u179 u180 u181 u182 u183 u184 u185 u186 u187 u188 u189 u190 u191 u192 u193 u194 u195 u196 u197 u198 u199 u200 u201 u202 u203 u204 u205 u206 u207 u208 u209 u210 u211 u212 u213 u214 u215 u216 u217 u218 u219 : Value) :
    Code.wp P tail39P (bodyPost P Tryd.f53 fun e w' => e = Ending.returned (Value.tuple #[]) ∧ ∃ d', Mv a b d d' ∧ Srt W d' a b ∧ SWK enc z w0 blk off d' w') ⟨(.slice (some ⟨blk, off, none⟩) d.size cap :: .int .i64 a :: .int .i64 m :: .int .i64 b :: .func (.func g) #[] cb :: u5 :: u6 :: u7 :: u8 :: u9 :: u10 :: u11 :: u12 :: u13 :: u14 :: u15 :: u16 :: u17 :: .int .i64 mid :: .int .i64 n :: .int .i64 i :: .int .i64 i :: .int .i64 p :: u23 :: .int .i64 e :: u25 :: u26 :: u27 :: u28 :: u29 :: u30 :: u31 :: u32 :: u33 :: u34 :: u35 :: u36 :: u37 :: u38 :: u39 :: u40 :: u41 :: u42 :: u43 :: u44 :: u45 :: u46 :: u47 :: u48 :: u49 :: u50 :: u51 :: u52 :: u53 :: u54 :: u55 :: u56 :: u57 :: u58 :: u59 :: u60 :: u61 :: u62 :: u63 :: u64 :: u65 :: u66 :: u67 :: u68 :: u69 :: u70 :: u71 :: u72 :: u73 :: u74 :: u75 :: u76 :: u77 :: u78 :: u79 :: u80 :: u81 :: u82 :: u83 :: u84 :: u85 :: u86 :: u87 :: u88 :: u89 :: u90 :: u91 :: u92 :: u93 :: u94 :: u95 :: u96 :: u97 :: u98 :: u99 :: u100 :: u101 :: u102 :: u103 :: u104 :: u105 :: u106 :: u107 :: u108 :: u109 :: u110 :: u111 :: u112 :: u113 :: u114 :: u115 :: u116 :: u117 :: u118 :: u119 :: u120 :: u121 :: u122 :: u123 :: u124 :: u125 :: u126 :: u127 :: u128 :: u129 :: u130 :: u131 :: u132 :: u133 :: u134 :: u135 :: u136 :: u137 :: u138 :: u139 :: u140 :: u141 :: u142 :: u143 :: u144 :: u145 :: u146 :: u147 :: u148 :: u149 :: u150 :: u151 :: u152 :: u153 :: u154 :: u155 :: u156 :: u157 :: u158 :: u159 :: u160 :: u161 :: u162 :: u163 :: u164 :: u165 :: u166 :: u167 :: u168 :: u169 :: u170 :: u171 :: u172 :: u173 :: u174 :: u175 :: u176 :: u177 :: u178 :: u179 :: u180 :: u181 :: u182 :: u183 :: u184 :: u185 :: u186 :: u187 :: u188 :: u189 :: u190 :: u191 :: u192 :: u193 :: u194 :: u195 :: u196 :: u197 :: u198 :: u199 :: u200 :: u201 :: u202 :: u203 :: u204 :: u205 :: u206 :: u207 :: u208 :: u209 :: u210 :: u211 :: u212 :: u213 :: u214 :: u215 :: u216 :: u217 :: u218 :: u219 :: []).toArray, []⟩ wr := by
  have T0 : Aside (Ty P 41 33 70 z) := T
  have FG0 : Aside (P.funcs[53]? = some Tryd.f53) := FG
  have YY : Aside (Sy P z enc cf W g cb blk off d.size d0 w0) := Y
  have II : Aside (SymAt P z enc W g cb blk off cap d.size w0 (b - a)) := IH
  have TT : Aside (Ty P 41 33 70 z) := T
  have FF : Aside (P.funcs[55]? = some Tryd.f55 ∧ P.funcs[57]? = some Tryd.f57) := ⟨F55, F57⟩
  have EE : Aside (∀ args w, (callFunc 57 args).run P w = .ok (.enter 57 args) w) := e57
  have hN := Y.hN
  have eg := Y.eg
  clear Y IH F55 F57
  obtain ⟨mixed, t0, a0, z0, v0, t3, a3, z3, v3, t4, a4, z4, v4, t48, a48, z48, v48, ts, aS, zs, vs, tf, af, zf, vf, aE, zE⟩ := T
  have us := run_underlying ts
  conv => arg 2; whnf
  go_upto_region 39 with (fail)
  have eB : ∃ β : Bool, (β = true ↔ (i < m ∧ m < e)) := ⟨decide (i < m ∧ m < e), by simp⟩
  obtain ⟨β, hβ⟩ := eB
  have HB1 := hid hβ
  clear hβ
  go_cut [185] from 25 (fun x wc => x = .bool β ∧ wc = wr)
  case first =>
    go_wp2_with fail
    all_goals
      go_meet
      first
        | exact ⟨bool_meet HB1.out (by assumption), rfl⟩
        | exact ⟨bool_meet0 HB1.out (by assumption), rfl⟩
  case rest =>
    obtain ⟨rfl, rfl⟩ := hcut
    go_upto_if 185 with (fail)
    go_cut [] from 25 (fun wc => ∃ d1 : Array Nat, Aside (Mv a b d d1 ∧ Halves W d1 a i mid e b) ∧ Aside (SWK enc z w0 blk off d1 wc))
    case first =>
      cases β with
      | false =>
        have hno : ¬ (i < m ∧ m < e) := fun q => by have := HB1.out.2 q; cases this
        have hsame : ∀ k, d[k]! = d[rot i m e k]! := fun k => by rw [rot_id i m e k (by omega) him hme.1]
        have hF : Aside (Mv a b d d ∧ Halves W d a i mid e b) := ⟨Mv.refl _ _ _, HHV.out d hsame⟩
        clear hsame
        go_wp2_with fail
        go_meet
        exact ⟨d, hF, S1⟩
      | true =>
        have hyes := HB1.out.1 rfl
        go_wp2_with fail
        refine (rot55 TT.out FF.out.1 FF.out.2 EE.out enc g cb blk off cap i m e d.size d0 d rfl w0 wc YY.out.R YY.out.h0 S1.out hyes.1 hyes.2 (by omega) hN).mono ?_
        rintro e' w' ⟨rfl, d', hds', hq, S2⟩
        have hF : Aside (Mv a b d d' ∧ Halves W d' a i mid e b) := ⟨(Mv.rot hds' him hme.1 hq).wide hai' hme.2, HHV.out d' hq⟩
        have HS2 : Aside _ := S2
        clear hq S2
        go_wp2_with fail
        go_meet
        exact ⟨d', hF, HS2⟩
    case rest =>
      clear S1
      obtain ⟨d1, HV, S1⟩ := hcut
      refine (show ∀ x y, Code.wp P tail41P _ x y → _ by assumption) _ _ ?_
      exact tail41_53 T0.out FG0.out FF.out.1 FF.out.2 e53 e55 EE.out enc cf W g cb blk off cap d0 w0 a m b d YY.out II.out hb mid n i p e hai' hmb' d1 wc HV S1 _ _ _ _ _ _ _ _ _ _ _ _ _ _ _ _ _ _ _ _ _ _ _ _ _ _ _ _ _ _ _ _ _ _ _ _ _ _ _ _ _ _ _ _ _ _ _ _ _ _ _ _ _ _ _ _ _ _ _ _ _ _ _ _ _ _ _ _ _ _ _ _ _ _ _ _ _ _ _ _ _ _ _ _ _ _ _ _ _ _ _ _ _ _ _ _ _ _ _ _ _ _ _ _ _ _ _ _ _ _ _ _ _ _ _ _ _ _ _ _ _ _ _ _ _ _ _ _ _ _ _ _ _ _ _ _ _ _ _ _ _ _ _ _ _ _ _ _ _ _ _ _ _ _ _ _ _ _ _ _ _ _ _ _ _ _ _ _ _ _ _ _ _ _ _ _ _ _ _ _ _ _ _ _ _ _ _ _ _ _ _ _ _ _ _ _ _ _ _ _ _ _ _ _ _ _ _ _ _
end Go.Proofs.YtoadbogfbgediaaDoor
