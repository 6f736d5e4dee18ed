/- The walk of IceOrder (no statement of the seat). -/
import Derived.Test.YtoadbogfbgediaaDoorFacts
import Derived.Laws.StructEq
import Derived.Deep.CutRange
import Derived.Deep.QuietTactic
import Derived.BigQuiet
namespace Go.Proofs.YtoadbogfbgediaaDoor
open Go.RowKit

theorem SrcC.less {w : World} {A : Option Addr} {n m : Nat} {g : Nat → Ca} (h : SrcC w A n g) (hm : m ≤ n) : SrcC w A m g :=
  ⟨by have := h.max; omega, fun i hi => h.at_ i (by omega), fun i hi => h.ok i (by omega)⟩
theorem eql_ad (a b c d : Int) (w : World) : Sem.run Tryd.prog (binOp .eql 39 (.agg #[.int .u32 a, .int .i64 b]) (.agg #[.int .u32 c, .int .i64 d])) w = .ok (.bool (decide (a = c ∧ b = d))) w := by
  rw [run_eql_struct, show (10000 : Nat) = 9999 + 1 from rfl, run_equalIn_struct w 9999 39 _ _ (by kernel_rfl) (by kernel_rfl)]
  simp [go_sem]
  by_cases h1 : a = c
  · by_cases h2 : b = d <;> simp [h1, h2]
  · simp [h1]
theorem min_cut (n cap : Nat) (h : n ≤ cap) : (min (n : Int) 10).toNat = min n 10 ∧ ((min (n : Int) 10) ≤ (cap : Int)) ∧ (0 ≤ min (n : Int) 10) := by omega

/-- One of the ends that were handed in makes this pair. -/
def Cnd (c : Pr) (a b : Ca) : Prop := a.k ≠ 4 ∧ b.k ≠ 4 ∧ a.b = c.f ∧ b.a = c.t ∧ pairF a.p b.p = c.p
set_option maxRecDepth 100000 in
set_option maxHeartbeats 4000000 in
theorem order7_any (bm : Nat) (es : Array MapEntry) (clock : Nat) (A : Option Addr) (n ca : Nat) (f : Nat → Ca) (B : Option Addr) (m cb : Nat) (g : Nat → Ca) (w : World) (hK : Kin bm es clock w) (hca : n ≤ ca) (hA : SrcC w A n f) (hcb : m ≤ cb) (hB : SrcC w B m g) :
    Calls Tryd.prog 7 #[.slice A n ca, .slice B m cb] w fun e w' => e = .returned (.bool true) ∧ Upd (fun _ => False) w w' := by
  have HK := hid hK
  have HA := hid hA
  have HB := hid hB
  clear hK hA hB
  go_enter Tryd.func7, Tryd.ntmps7
  go_wp2_with fail
  refine (shown12_any bm es clock w HK.out).mono ?_
  rintro e w1 ⟨rfl, hu⟩
  have HU1 := hid hu
  clear hu
  obtain ⟨q1, q2, q3⟩ := min_cut n ca hca
  obtain ⟨q4, q5, q6⟩ := min_cut m cb hcb
  go_wp2_with fail
  have hA1 := (HA.out.upd HU1.out).less (show min n 10 ≤ n by omega)
  have hB1 := (HB.out.upd HU1.out).less (show min m 10 ≤ m by omega)
  obtain ⟨N, hN⟩ : ∃ N, min n 10 = N := ⟨_, rfl⟩
  obtain ⟨M, hM⟩ : ∃ M, min m 10 = M := ⟨_, rfl⟩
  rw [hN] at hA1 ⊢
  rw [hM] at hB1 ⊢
  have hN10 : N ≤ 10 := by omega
  have hM10 : M ≤ 10 := by omega
  clear HA HB q1 q2 q3 q4 q5 q6 hN hM
  refine (form20_facts A B N M ca cb f g w1 hA1 hB1 (by omega) (by omega)).mono ?_
  rintro e w2 ⟨R, L, cap, hh, rfl, hS, hF, hu2⟩
  have HS := hid hS
  have HF := hid hF
  have HA := hid (hA1.upd hu2)
  have HB := hid (hB1.upd hu2)
  have HU2 := hid (HU1.out.trans hu2)
  have hL16 := hF.most_
  clear hS hF hA1 hB1 hu2
  go_wp2_with fail
  go_loopw [7] (fun i wr => ∃ k : Nat, k ≤ L ∧ i = .int .i64 k ∧ Upd (fun _ => False) w2 wr) (fun i _ => L - (intOf i).toNat)
  case atStart => exact ⟨0, Nat.zero_le _, rfl, Upd.refl _ _⟩
  case round =>
    obtain ⟨i, hi, rfl, hu⟩ := hrel
    have HU := hid hu
    clear hu
    by_cases hil : i < L
    · obtain ⟨b, rfl, hb, c0, c1, c2, c3, c4, c5⟩ := (HS.out.upd HU.out).at_ i hil
      obtain ⟨ia, ja, hia, hja, hka, hkb, hpo⟩ := HF.out.some_ i hil
      have hs1 : (hh i).s = 1 := by rw [hpo]; rfl
      rw [hs1] at c5
      obtain ⟨⟨⟨a1, a2⟩, ⟨b1, b2⟩, p, s⟩, hg⟩ : ∃ q, hh i = q := ⟨_, rfl⟩
      rw [hg] at c0 c1 c2 c3 c4
      dsimp only at c0 c1 c2 c3 c4
      have HG := hid hg
      have HPO := hid (⟨ia, ja, hia, hja, hka, hkb, hpo⟩ : ∃ ia ja, ia < N ∧ ja < M ∧ (f ia).k ≠ 4 ∧ (g ja).k ≠ 4 ∧ hh i = pairOf (f ia) (g ja))
      clear hg hpo hs1 hia hja hka hkb
      go_upto_region 8 with (fail)
      go_cut [55] from 26 to 160 (fun x wx => x = .bool false ∧ Upd (fun _ => False) w2 wx)
      case first =>
        by_cases hi0 : i = 0
        · subst hi0
          go_quiet (fail)
          go_wp2_with fail
          go_meet
          exact ⟨rfl, HU.out.drewN _⟩
        · obtain ⟨ip, rfl⟩ : ∃ ip, i = ip + 1 := ⟨i - 1, by omega⟩
          obtain ⟨b', hb', _, d0, d1, d2, d3, d4, d5⟩ := (HS.out.upd HU.out).at_ ip (by omega)
          obtain rfl : b = b' := by simpa using hb'
          have hf := HF.out.fall ip (ip + 1) (by omega) hil
          rw [HG.out] at hf
          dsimp only at hf
          obtain ⟨pq, hpq⟩ : ∃ pq, (hh ip).p = pq := ⟨_, rfl⟩
          rw [hpq] at hf d4
          have hdec : decide (p > pq) = false := decide_eq_false (by omega)
          have hdec2 : ¬ pq < p := by omega
          have hgt : (0 : Int) < (ip : Int) + 1 := by omega
          clear hpq hb' d0 d1 d2 d3 d5 c0 c1 c2 c3 hf
          go_quiet (fail)
          go_wp2_with fail
          go_meet
          exact ⟨rfl, HU.out.drewN _⟩
      case rest =>
        clear c0 c1 c2 c3 c4 c5
        obtain ⟨rfl, hu⟩ := hcut
        have HU' := hid hu
        clear hu HU
        go_wp2_with fail
        go_loopw [8] (fun kk wx => ∃ k : Nat, k ≤ i ∧ kk = .int .i64 k ∧ Upd (fun _ => False) w2 wx) (fun kk _ => i - (intOf kk).toNat)
        case atStart => exact ⟨0, Nat.zero_le _, rfl, HU'.out⟩
        case round =>
          obtain ⟨k, hk, rfl, hu⟩ := hrel
          have HU := hid hu
          clear hu
          by_cases hki : k < i
          · obtain ⟨b', hb', _, d0, d1, d2, d3, d4, d5⟩ := (HS.out.upd HU.out).at_ k (by omega)
            obtain rfl : b = b' := by simpa using hb'
            obtain ⟨b'', hb'', _, c0, c1, c2, c3, c4, c5⟩ := (HS.out.upd HU.out).at_ i hil
            obtain rfl : b = b'' := by simpa using hb''
            have hap := HF.out.apart k i hki hil
            obtain ⟨⟨⟨k1, k2⟩, ⟨k3, k4⟩, kp, ks⟩, hgk⟩ : ∃ q, hh k = q := ⟨_, rfl⟩
            rw [HG.out] at c0 c1 c2 c3 hap
            rw [hgk] at d0 d1 d2 d3 hap
            dsimp only at c0 c1 c2 c3 d0 d1 d2 d3
            clear hb' hb'' d4 d5 c4 c5 hgk
            by_cases hfe : k1 = a1 ∧ k2 = a2
            · have hte : ¬ (k3 = b1 ∧ k4 = b2) := fun q => hap (by rw [hfe.1, hfe.2, q.1, q.2])
              have e1 : ∀ W, Sem.run Tryd.prog (binOp .eql 39 (.agg #[.int .u32 k1, .int .i64 k2]) (.agg #[.int .u32 a1, .int .i64 a2])) W = .ok (.bool true) W := fun W => by rw [eql_ad, decide_eq_true hfe]
              have e2 : ∀ W, Sem.run Tryd.prog (binOp .eql 39 (.agg #[.int .u32 k3, .int .i64 k4]) (.agg #[.int .u32 b1, .int .i64 b2])) W = .ok (.bool false) W := fun W => by rw [eql_ad, decide_eq_false hte]
              clear hfe hte hap
              go_wp2_with fail
              go_quiet (fail)
              go_wp2_with fail
              refine ⟨⟨k + 1, by omega, by go_num, HU.out.drewN _⟩, by simp [intOf]; omega⟩
            · have e1 : ∀ W, Sem.run Tryd.prog (binOp .eql 39 (.agg #[.int .u32 k1, .int .i64 k2]) (.agg #[.int .u32 a1, .int .i64 a2])) W = .ok (.bool false) W := fun W => by rw [eql_ad, decide_eq_false hfe]
              clear hfe hap
              go_wp2_with fail
              go_quiet (fail)
              go_wp2_with fail
              refine ⟨⟨k + 1, by omega, by go_num, HU.out.drewN _⟩, by simp [intOf]; omega⟩
          · go_wp2_with fail
            clear hki
            go_loopw [9, 10] (fun fd aa wx => ∃ (x : Nat) (β : Bool), x ≤ N ∧ aa = .int .i64 x ∧ fd = .bool β ∧ Hid (∀ x' y', x' < x → y' < M → Cnd (hh i) (f x') (g y') → β = true) ∧ Upd (fun _ => False) w2 wx) (fun _ aa _ => N - (intOf aa).toNat)
            case atStart => exact ⟨0, false, Nat.zero_le _, rfl, rfl, hid (fun _ _ h => by omega), HU.out⟩
            case round =>
              obtain ⟨x, β, hx, rfl, rfl, HBE, hu⟩ := hrel
              have HUx := hid hu
              clear hu
              by_cases hxN : x < N
              · go_wp2_with fail
                go_loopw [9, 11] (fun fd bb wx => ∃ (y : Nat) (γ : Bool), y ≤ M ∧ bb = .int .i64 y ∧ fd = .bool γ ∧ Hid ((β = true → γ = true) ∧ ∀ y', y' < y → Cnd (hh i) (f x) (g y') → γ = true) ∧ Upd (fun _ => False) w2 wx) (fun _ bb _ => M - (intOf bb).toNat)
                case atStart => exact ⟨0, β, Nat.zero_le _, rfl, rfl, hid ⟨fun h => h, fun _ h => by omega⟩, HUx.out⟩
                case round =>
                  obtain ⟨y, γ, hy, rfl, rfl, HGA, hu⟩ := hrel
                  have HUy := hid hu
                  clear hu
                  by_cases hyM : y < M
                  · obtain ⟨bA, oA, hbA, p0, p1, p2, p3, p4, p5⟩ := (HA.out.upd HUy.out).at6 x hxN
                    obtain ⟨bB, oB, hbB, r0, r1, r2, r3, r4, r5⟩ := (HB.out.upd HUy.out).at6 y hyM
                    obtain ⟨b', hb', _, d0, d1, d2, d3, d4, d5⟩ := (HS.out.upd HUy.out).at_ i hil
                    obtain rfl : b = b' := by simpa using hb'
                    have okA := HA.out.ok x hxN
                    have okB := HB.out.ok y hyM
                    rw [HG.out] at d0 d1 d2 d3 d4
                    dsimp only at d0 d1 d2 d3 d4
                    obtain ⟨⟨xk, ⟨x1, x2⟩, ⟨x3, x4⟩, xp⟩, hfx⟩ : ∃ q, f x = q := ⟨_, rfl⟩
                    obtain ⟨⟨yk, ⟨y1, y2⟩, ⟨y3, y4⟩, yp⟩, hgy⟩ : ∃ q, g y = q := ⟨_, rfl⟩
                    rw [hfx] at p0 p1 p2 p3 p4 p5 okA
                    rw [hgy] at r0 r1 r2 r3 r4 r5 okB
                    dsimp only at p0 p1 p2 p3 p4 p5 okA r0 r1 r2 r3 r4 r5 okB
                    have HFX := hid hfx
                    have HGY := hid hgy
                    have hpp : ∀ W, Calls Tryd.prog 15 #[.int .u32 xp, .int .u32 yp] W fun e w' => e = .returned (.int .u64 (pairF xp yp)) ∧ W = w' := fun W => pair_any xp yp okA.2 okB.2 W
                    have HPP := hid hpp
                    have hcnd : Cnd (hh i) (f x) (g y) ↔ (xk ≠ 4 ∧ yk ≠ 4 ∧ (x3 = a1 ∧ x4 = a2) ∧ (y1 = b1 ∧ y2 = b2) ∧ pairF xp yp = p) := by
                      unfold Cnd
                      rw [HG.out, HFX.out, HGY.out]
                      simp
                    have HCND := hid hcnd
                    have HST : Hid (∀ δ : Bool, (γ = true → δ = true) → (Cnd (hh i) (f x) (g y) → δ = true) → Hid ((β = true → δ = true) ∧ ∀ y', y' < y + 1 → Cnd (hh i) (f x) (g y') → δ = true)) := hid (fun δ h1 h2 => hid ⟨fun h => h1 (HGA.out.1 h), fun y' hy' hc => by
                      by_cases hyy : y' = y
                      · subst hyy; exact h2 hc
                      · exact h1 (HGA.out.2 y' (by omega) hc)⟩)
                    obtain ⟨pp, hpe⟩ : ∃ pp, pairF xp yp = pp := ⟨_, rfl⟩
                    rw [hpe] at HPP HCND
                    clear hb' hpp hcnd hfx hgy d5 okA okB hpe HBE HGA
                    subst hbA hbB
                    cases γ with
                    | true =>
                      go_wp2_with fail
                      go_quiet (fail)
                      go_wp2_with fail
                      exact ⟨⟨y + 1, true, by omega, by go_num, rfl, HST.out true (by simp) (fun _ => rfl), HUy.out.drewN _⟩, by simp [intOf]; omega⟩
                    | false =>
                      by_cases g1 : xk = 4
                      · have hn2 : (xk != 4) = false := by simp [g1]
                        have hC := hid (fun q : Cnd (hh i) (f x) (g y) => (HCND.out.1 q).1 g1)
                        subst g1
                        have HC := hid hC.out
                        go_wp2_with fail
                        go_quiet (first | (go_at_call 15; exact Calls.quiet_of_same ((HPP.out _).mono (fun e w' ⟨he, hw⟩ => ⟨he, hw.symm⟩))))
                        go_wp2_with fail
                        exact ⟨⟨y + 1, false, by omega, by go_num, rfl, HST.out false (by simp) (fun q => (HC.out q).elim), HUy.out.drewN _⟩, by simp [intOf]; omega⟩
                      · have n1 : (xk == 4) = false := by rw [beq_eq_false_iff_ne]; exact g1
                        have n2 : (xk != 4) = true := by rw [bne_iff_ne]; exact g1
                        by_cases g2 : yk = 4
                        · have hC := hid (fun q : Cnd (hh i) (f x) (g y) => (HCND.out.1 q).2.1 g2)
                          subst g2
                          have HC := hid hC.out
                          go_wp2_with fail
                          go_quiet (first | (go_at_call 15; exact Calls.quiet_of_same ((HPP.out _).mono (fun e w' ⟨he, hw⟩ => ⟨he, hw.symm⟩))))
                          go_wp2_with fail
                          exact ⟨⟨y + 1, false, by omega, by go_num, rfl, HST.out false (by simp) (fun q => (HC.out q).elim), HUy.out.drewN _⟩, by simp [intOf]; omega⟩
                        · have n3 : (yk == 4) = false := by rw [beq_eq_false_iff_ne]; exact g2
                          have n4 : (yk != 4) = true := by rw [bne_iff_ne]; exact g2
                          by_cases g3 : x3 = a1 ∧ x4 = a2
                          · have e3 : ∀ W, Sem.run Tryd.prog (binOp .eql 39 (.agg #[.int .u32 x3, .int .i64 x4]) (.agg #[.int .u32 a1, .int .i64 a2])) W = .ok (.bool true) W := fun W => by rw [eql_ad, decide_eq_true g3]
                            by_cases g4 : y1 = b1 ∧ y2 = b2
                            · have e4 : ∀ W, Sem.run Tryd.prog (binOp .eql 39 (.agg #[.int .u32 y1, .int .i64 y2]) (.agg #[.int .u32 b1, .int .i64 b2])) W = .ok (.bool true) W := fun W => by rw [eql_ad, decide_eq_true g4]
                              by_cases g5 : pp = p
                              · subst g5
                                clear g3 g4 g1 g2
                                go_wp2_with fail
                                go_quiet (first | (go_at_call 15; exact Calls.quiet_of_same ((HPP.out _).mono (fun e w' ⟨he, hw⟩ => ⟨he, hw.symm⟩))))
                                go_wp2_with fail
                                exact ⟨⟨y + 1, true, by omega, by go_num, rfl, HST.out true (by simp) (fun _ => rfl), HUy.out.drewN _⟩, by simp [intOf]; omega⟩
                              · have n5 : (pp == p) = false := by rw [beq_eq_false_iff_ne]; exact g5
                                have hC := hid (fun q : Cnd (hh i) (f x) (g y) => g5 (HCND.out.1 q).2.2.2.2)
                                clear g3 g4 g1 g2
                                have HC := hid hC.out
                                go_wp2_with fail
                                go_quiet (first | (go_at_call 15; exact Calls.quiet_of_same ((HPP.out _).mono (fun e w' ⟨he, hw⟩ => ⟨he, hw.symm⟩))))
                                go_wp2_with fail
                                exact ⟨⟨y + 1, false, by omega, by go_num, rfl, HST.out false (by simp) (fun q => (HC.out q).elim), HUy.out.drewN _⟩, by simp [intOf]; omega⟩
                            · have e4 : ∀ W, Sem.run Tryd.prog (binOp .eql 39 (.agg #[.int .u32 y1, .int .i64 y2]) (.agg #[.int .u32 b1, .int .i64 b2])) W = .ok (.bool false) W := fun W => by rw [eql_ad, decide_eq_false g4]
                              have hC := hid (fun q : Cnd (hh i) (f x) (g y) => g4 (HCND.out.1 q).2.2.2.1)
                              clear g3 g4 g1 g2
                              have HC := hid hC.out
                              go_wp2_with fail
                              go_quiet (first | (go_at_call 15; exact Calls.quiet_of_same ((HPP.out _).mono (fun e w' ⟨he, hw⟩ => ⟨he, hw.symm⟩))))
                              go_wp2_with fail
                              exact ⟨⟨y + 1, false, by omega, by go_num, rfl, HST.out false (by simp) (fun q => (HC.out q).elim), HUy.out.drewN _⟩, by simp [intOf]; omega⟩
                          · have e3 : ∀ W, Sem.run Tryd.prog (binOp .eql 39 (.agg #[.int .u32 x3, .int .i64 x4]) (.agg #[.int .u32 a1, .int .i64 a2])) W = .ok (.bool false) W := fun W => by rw [eql_ad, decide_eq_false g3]
                            have hC := hid (fun q : Cnd (hh i) (f x) (g y) => g3 (HCND.out.1 q).2.2.1)
                            clear g3 g1 g2
                            have HC := hid hC.out
                            go_wp2_with fail
                            go_quiet (first | (go_at_call 15; exact Calls.quiet_of_same ((HPP.out _).mono (fun e w' ⟨he, hw⟩ => ⟨he, hw.symm⟩))))
                            go_wp2_with fail
                            exact ⟨⟨y + 1, false, by omega, by go_num, rfl, HST.out false (by simp) (fun q => (HC.out q).elim), HUy.out.drewN _⟩, by simp [intOf]; omega⟩
                  · go_wp2_with fail
                    refine ⟨⟨x + 1, γ, by omega, by go_num, rfl, hid (fun x' y' hx' hy' hc => ?_), HUy.out⟩, by simp [intOf]; omega⟩
                    by_cases hxx : x' = x
                    · subst hxx; exact HGA.out.2 y' (by omega) hc
                    · exact HGA.out.1 (HBE.out x' y' (by omega) hy' hc)
              · have hβ : β = true := by
                  obtain ⟨ia, ja, h1, h2, h3, h4, h5⟩ := HPO.out
                  exact HBE.out ia ja (by omega) h2 ⟨h3, h4, by rw [h5]; rfl, by rw [h5]; rfl, by rw [h5]; rfl⟩
                subst hβ
                go_wp2_with fail
                refine ⟨⟨i + 1, by omega, by go_num, HUx.out⟩, by simp [intOf]; omega⟩
    · have hLz : (L : Int) ≤ 16 := by omega
      go_wp2_with fail
      go_ret
      exact ⟨rfl, HU2.out.trans HU.out⟩
end Go.Proofs.YtoadbogfbgediaaDoor
