/- The walk of IceCuts (no statement of the seat). -/
import Derived.Test.YtoadbogfbgediaaDoorGathS
namespace Go.Proofs.YtoadbogfbgediaaDoor
open Go.RowKit
set_option maxRecDepth 100000 in
set_option maxHeartbeats 4000000 in
theorem cuts10_any (bm : Nat) (es : Array MapEntry) (clock : Nat) (A : Option Addr) (n ca : Nat) (f : Nat → Ca) (w : World) (hK : Kin bm es clock w) (hca : n ≤ ca) (hA : SrcC w A n f) :
    Calls Tryd.prog 10 #[.slice A n ca] w fun e w' => e = .returned (.bool true) ∧ Upd (fun _ => False) w w' := by
  have HK := hid hK
  have HA := hid hA
  clear hK hA
  go_enter Tryd.func10, Tryd.ntmps10
  go_wp2_with fail
  refine (shown12_any bm es clock w HK.out).mono ?_
  rintro e w1 ⟨rfl, hu⟩
  have HU1 := hid hu
  clear hu
  obtain ⟨q1, q2, q3⟩ := min_cut20 n ca hca
  go_wp2_with fail
  have hA1 := (HA.out.upd HU1.out).less (show min n 20 ≤ n by omega)
  obtain ⟨N, hN⟩ : ∃ N, min n 20 = N := ⟨_, rfl⟩
  rw [hN] at hA1 ⊢
  have hN20 : N ≤ 20 := by omega
  clear HA q1 q2 q3 hN
  refine (gather18_facts bm es clock A N ca f w1 (HK.out.upd HU1.out (fun h => h) (fun h => h)) hA1 (by omega)).mono ?_
  rintro e w2 ⟨R, L, cp, h1, rfl, hS, hF, hu2⟩
  have HS1 := hid hS
  have HF := hid hF
  have HU2 := hid (HU1.out.trans hu2)
  have hL8 := hF.most_
  clear hS hF hA1 hu2
  go_wp2_with fail
  refine (gather18_again bm es clock R N L cp f h1 w2 (HK.out.upd HU2.out (fun h => h) (fun h => h)) HS1.out HF.out (by omega)).mono ?_
  rintro e w3 ⟨R2, cp2, h2, rfl, hS, heq, hu3⟩
  have HS2 := hid hS
  have HE := hid heq
  have HS := hid (HS1.out.upd hu3)
  have HU3 := hid (HU2.out.trans hu3)
  have hLz : (L : Int) ≤ 8 := by omega
  clear hS heq hu3
  go_wp2_with fail
  go_loopw [6] (fun i wr => ∃ k : Nat, k ≤ L ∧ i = .int .i64 k ∧ Upd (fun _ => False) w3 wr) (fun i _ => L - (intOf i).toNat)
  case atStart => exact ⟨0, Nat.zero_le _, rfl, Upd.refl _ _⟩
  case round =>
    obtain ⟨i, hi, rfl, hu⟩ := hrel
    have HU := hid hu
    clear hu
    by_cases hil : i < L
    · obtain ⟨bA, oA, hbA, p0, p1, p2, p3, p4, p5⟩ := (HS.out.upd HU.out).at6 i hil
      obtain ⟨bB, oB, hbB, r0, r1, r2, r3, r4, r5⟩ := (HS2.out.upd HU.out).at6 i hil
      rw [HE.out i hil] at r0 r1 r2 r3 r4 r5
      obtain ⟨⟨xk, ⟨x1, x2⟩, ⟨x3, x4⟩, xp⟩, hfx⟩ : ∃ q, h1 i = q := ⟨_, rfl⟩
      rw [hfx] at p0 p1 p2 p3 p4 p5 r0 r1 r2 r3 r4 r5
      dsimp only [placed] at p0 p1 p2 p3 p4 p5 r0 r1 r2 r3 r4 r5
      have e1 : ∀ W, Sem.run Tryd.prog (binOp .neq 39 (.agg #[.int .u32 x1, .int .i64 x2]) (.agg #[.int .u32 x1, .int .i64 x2])) W = .ok (.bool false) W := fun W => neq_ad_self _ _ W
      have e2 : ∀ W, Sem.run Tryd.prog (binOp .neq 39 (.agg #[.int .u32 x3, .int .i64 x4]) (.agg #[.int .u32 x3, .int .i64 x4])) W = .ok (.bool false) W := fun W => neq_ad_self _ _ W
      have e3 : (xk != xk) = false := by simp
      by_cases hi0 : i = 0
      · subst hi0
        clear hfx
        simp only [Nat.zero_mul, Nat.add_zero] at p0 p1 p2 p3 p4 p5 r0 r1 r2 r3 r4 r5
        subst hbA hbB
        go_wp2_with fail
        go_quiet (fail)
        go_wp2_with fail
        exact ⟨⟨1, by omega, by go_num, HU.out.drewN _⟩, by simp [intOf]; omega⟩
      · obtain ⟨ip, rfl⟩ : ∃ ip, i = ip + 1 := ⟨i - 1, by omega⟩
        obtain ⟨b', o', hb', d0, d1, d2, d3, d4, d5⟩ := (HS.out.upd HU.out).at6 ip (by omega)
        have hf := HF.out.fall ip (ip + 1) (by omega) hil
        rw [hfx] at hf
        dsimp only at hf
        obtain ⟨pq, hpq⟩ : ∃ pq, (h1 ip).p = pq := ⟨_, rfl⟩
        rw [hpq] at hf d5
        subst hbA
        simp only [Option.some.injEq, Addr.mk.injEq, and_true] at hb'
        obtain ⟨rfl, rfl⟩ := hb'
        have hdec : decide (xp > pq) = false := decide_eq_false (by omega)
        have hdec2 : ¬ pq < xp := by omega
        have hgt : (0 : Int) < (ip : Int) + 1 := by omega
        clear hfx hpq d0 d1 d2 d3 d4 hf
        subst hbB
        go_wp2_with fail
        go_quiet (fail)
        go_wp2_with fail
        exact ⟨⟨ip + 1 + 1, by omega, by go_num, HU.out.drewN _⟩, by simp [intOf]; omega⟩
    · have HSr := hid (HS.out.upd HU.out)
      have HUr := hid (HU3.out.trans HU.out)
      go_wp2_with fail
      refine (form20_facts R R L L cp cp h1 h1 _ HSr.out HSr.out (by omega) (by omega)).mono ?_
      rintro e w4 ⟨R4, M, cp4, hh4, rfl, _, hF4, hu4⟩
      have hM16 : (M : Int) ≤ 16 := by have := hF4.most_; omega
      have HU4 := hid (HUr.out.trans hu4)
      clear hF4 hu4
      go_wp2_with fail
      go_ret
      exact ⟨rfl, HU4.out⟩
end Go.Proofs.YtoadbogfbgediaaDoor
