/- The last loops of IceTurned (no statement of the seat). -/
import Derived.Test.YtoadbogfbgediaaDoorWhole
import Derived.Test.YtoadbogfbgediaaDoorOrder
import Derived.Test.YtoadbogfbgediaaDoorSymT
namespace Go.Proofs.YtoadbogfbgediaaDoor
open Go.RowKit
noncomputable def tail14 : Code := ((Tryd.f6.body.bind (findAt 14)).getD .skip)
set_option maxRecDepth 1000000 in
set_option maxHeartbeats 4000000 in
theorem tail14_6 (RA RB : Option Addr) (LA capA capB : Nat) (ha hb : Nat → Pr) (w0 w5 : World) (HRA : Hid (SrcP w5 RA LA ha)) (HRB : Hid (SrcP w5 RB LA hb)) (hL16 : LA ≤ 16)
    (HT : Hid (∀ x, x < LA → ∃ y, y < LA ∧ (ha x).f = (hb y).t ∧ (ha x).t = (hb y).f ∧ (ha x).p / 2 = (hb y).p / 2)) (HU5 : Hid (Upd (fun _ => False) w0 w5))
    (u0 u1 u2 u3 u6 u7 u10 u11 u12 u13 u14 u15 u16 u17 u18 u19 u20 u21 u22 u23 u24 u25 u26 u27 u28 u29 u30 u31 u32 u33 u34 u35 u36 u37 u38 u39 u40 u41 u42 u43 u44 u45 u46 u47 u48 u49 u50 u51 u52 u53 u54 u55 u56 u57 u58 u59 u60 u61 u62 u63 u64 u65 u66 u67 u68 u69 u70 u71 u72 u73 u74 u75 u76 u77 u78 u79 u80 u81 u82 u83 u84 u85 u86 u87 u88 u89 u90 u91 u92 u93 u94 u95 u96 u97 u98 u99 u100 u101 u102 u103 u104 u105 u106 u107 u108 u109 u110 u111 u112 u113 u114 u115 u116 u117 u118 u119 u120 u121 u122 u123 u124 u125 : Value) :
    Code.wp Tryd.prog tail14 (bodyPost Tryd.prog Tryd.f6 fun e w' => e = .returned (.bool true) ∧ Upd (fun _ => False) w0 w') ⟨(u0 :: u1 :: u2 :: u3 :: .bool false :: .bool true :: u6 :: u7 :: .slice RA LA capA :: .slice RB LA capB :: u10 :: u11 :: u12 :: u13 :: u14 :: u15 :: u16 :: u17 :: u18 :: u19 :: u20 :: u21 :: u22 :: u23 :: u24 :: u25 :: u26 :: u27 :: u28 :: u29 :: u30 :: u31 :: u32 :: u33 :: u34 :: u35 :: u36 :: u37 :: u38 :: u39 :: u40 :: u41 :: u42 :: u43 :: u44 :: u45 :: u46 :: u47 :: u48 :: u49 :: u50 :: u51 :: u52 :: u53 :: u54 :: u55 :: u56 :: u57 :: u58 :: u59 :: u60 :: u61 :: u62 :: u63 :: u64 :: u65 :: u66 :: u67 :: u68 :: u69 :: u70 :: u71 :: u72 :: u73 :: u74 :: u75 :: u76 :: u77 :: u78 :: u79 :: u80 :: u81 :: u82 :: u83 :: u84 :: u85 :: u86 :: u87 :: u88 :: u89 :: u90 :: u91 :: u92 :: u93 :: u94 :: u95 :: u96 :: u97 :: u98 :: u99 :: u100 :: u101 :: u102 :: u103 :: u104 :: u105 :: u106 :: u107 :: u108 :: u109 :: u110 :: u111 :: u112 :: u113 :: u114 :: u115 :: u116 :: u117 :: u118 :: u119 :: u120 :: u121 :: u122 :: u123 :: u124 :: u125 :: []).toArray, []⟩ w5 := by
  conv => arg 2; whnf
  go_wp2_with fail
  go_loopw [10] (fun i wx => ∃ q : Nat, q ≤ LA ∧ i = .int .i64 q ∧ Upd (fun _ => False) w5 wx) (fun i _ => LA - (intOf i).toNat)
  case atStart => exact ⟨0, Nat.zero_le _, rfl, Upd.refl _ _⟩
  case round =>
    obtain ⟨i, hi, rfl, hu⟩ := hrel
    have HU := hid hu
    clear hu
    by_cases hil : i < LA
    · have hex := HT.out i hil
      have HEX := hid hex
      clear hex
      go_wp2_with fail
      go_loopw [11, 12] (fun fd kk wx => ∃ (y : Nat) (γ : Bool), y ≤ LA ∧ kk = .int .i64 y ∧ fd = .bool γ ∧ Hid (∀ y', y' < y → ((ha i).f = (hb y').t ∧ (ha i).t = (hb y').f ∧ (ha i).p / 2 = (hb y').p / 2) → γ = true) ∧ Upd (fun _ => False) w5 wx) (fun _ kk _ => LA - (intOf kk).toNat)
      case atStart => exact ⟨0, false, Nat.zero_le _, rfl, rfl, hid (fun _ h => by omega), HU.out⟩
      case round =>
        obtain ⟨y, γ, hy, rfl, rfl, HGA, hu⟩ := hrel
        have HUy := hid hu
        clear hu
        by_cases hyM : y < LA
        · obtain ⟨bA, hbA, _, p0, p1, p2, p3, p4, p5⟩ := (HRA.out.upd HUy.out).at_ i hil
          obtain ⟨bB, hbB, _, r0, r1, r2, r3, r4, r5⟩ := (HRB.out.upd HUy.out).at_ y hyM
          subst hbA hbB
          obtain ⟨⟨⟨a1, a2⟩, ⟨b1, b2⟩, pa, sa⟩, hfx⟩ : ∃ q, ha i = q := ⟨_, rfl⟩
          obtain ⟨⟨⟨d1, d2⟩, ⟨e1, e2⟩, pb, sb⟩, hgy⟩ : ∃ q, hb y = q := ⟨_, rfl⟩
          rw [hfx] at p0 p1 p2 p3 p4
          rw [hgy] at r0 r1 r2 r3 r4
          dsimp only at p0 p1 p2 p3 p4 r0 r1 r2 r3 r4
          have HFX := hid hfx
          have HGY := hid hgy
          clear hfx hgy p5 r5
          cases γ with
          | true =>
            go_wp2_with fail
            go_quiet (fail)
            go_wp2_with fail
            exact ⟨⟨y + 1, true, by omega, by go_num, rfl, hid (fun _ _ _ => rfl), HUy.out.drewN _⟩, by simp [intOf]; omega⟩
          | false =>
            have HST : ∀ δ : Bool, (((ha i).f = (hb y).t ∧ (ha i).t = (hb y).f ∧ (ha i).p / 2 = (hb y).p / 2) → δ = true) → Hid (∀ y', y' < y + 1 → ((ha i).f = (hb y').t ∧ (ha i).t = (hb y').f ∧ (ha i).p / 2 = (hb y').p / 2) → δ = true) := fun δ h2 => hid (fun y' hy' hc => by
              by_cases e : y' = y
              · subst e; exact h2 hc
              · exact absurd (HGA.out y' (by omega) hc) (by simp))
            have HSTT := hid HST
            clear HST HGA
            by_cases g1 : a1 = e1 ∧ a2 = e2
            · have e3 : ∀ W, Sem.run Tryd.prog (binOp .eql 39 (.agg #[.int .u32 a1, .int .i64 a2]) (.agg #[.int .u32 e1, .int .i64 e2])) W = .ok (.bool true) W := fun W => by rw [eql_ad, decide_eq_true g1]
              by_cases g2 : b1 = d1 ∧ b2 = d2
              · have e4 : ∀ W, Sem.run Tryd.prog (binOp .eql 39 (.agg #[.int .u32 b1, .int .i64 b2]) (.agg #[.int .u32 d1, .int .i64 d2])) W = .ok (.bool true) W := fun W => by rw [eql_ad, decide_eq_true g2]
                clear g1 g2
                go_wp2_with fail
                go_quiet (fail)
                go_wp2_with fail
                exact ⟨⟨y + 1, (pa / 2 == pb / 2), by omega, by go_num, rfl, HSTT.out _ (fun q => by have h := q.2.2; rw [HFX.out, HGY.out] at h; simpa using h), HUy.out.drewN _⟩, by simp [intOf]; omega⟩
              · have e4 : ∀ W, Sem.run Tryd.prog (binOp .eql 39 (.agg #[.int .u32 b1, .int .i64 b2]) (.agg #[.int .u32 d1, .int .i64 d2])) W = .ok (.bool false) W := fun W => by rw [eql_ad, decide_eq_false g2]
                have HC := hid (HSTT.out false (fun q => by have h := q.2.1; rw [HFX.out, HGY.out] at h; simp at h; exact (g2 h).elim))
                clear g1 g2
                go_wp2_with fail
                go_quiet (fail)
                go_wp2_with fail
                exact ⟨⟨y + 1, false, by omega, by go_num, rfl, HC.out, HUy.out.drewN _⟩, by simp [intOf]; omega⟩
            · have e3 : ∀ W, Sem.run Tryd.prog (binOp .eql 39 (.agg #[.int .u32 a1, .int .i64 a2]) (.agg #[.int .u32 e1, .int .i64 e2])) W = .ok (.bool false) W := fun W => by rw [eql_ad, decide_eq_false g1]
              have HC := hid (HSTT.out false (fun q => by have h := q.1; rw [HFX.out, HGY.out] at h; simp at h; exact (g1 h).elim))
              clear g1
              go_wp2_with fail
              go_quiet (fail)
              go_wp2_with fail
              exact ⟨⟨y + 1, false, by omega, by go_num, rfl, HC.out, HUy.out.drewN _⟩, by simp [intOf]; omega⟩
        · have hγ : γ = true := by
            obtain ⟨y0, hy0, hc⟩ := HEX.out
            exact HGA.out y0 (by omega) hc
          subst hγ
          go_wp2_with fail
          exact ⟨⟨i + 1, by omega, by go_num, HUy.out⟩, by simp [intOf]; omega⟩
    · go_wp2_with fail
      go_ret
      exact ⟨rfl, HU5.out.trans HU.out⟩
end Go.Proofs.YtoadbogfbgediaaDoor
