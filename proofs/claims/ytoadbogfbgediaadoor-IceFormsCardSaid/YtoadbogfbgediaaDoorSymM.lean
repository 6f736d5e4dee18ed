/- symMerge over a row of pairs: both parts greater than one (no statement of the seat). Printed by gen_sym.py. -/
import Derived.Test.YtoadbogfbgediaaDoorSymT
namespace Go.Proofs.YtoadbogfbgediaaDoor
open Go.RowKit Go.Lib Go.Sort

set_option maxHeartbeats 8000000 in
set_option maxRecDepth 1000000 in
theorem symC53 {P : Program} {z : Nat} (T : Ty P 41 33 70 z) (FG : P.funcs[53]? = some Tryd.f53) (F55 : P.funcs[55]? = some Tryd.f55) (F57 : P.funcs[57]? = some Tryd.f57)
    (e53 : ∀ args w, (callFunc 53 args).run P w = .ok (.enter 53 args) w) (e55 : ∀ args w, (callFunc 55 args).run P w = .ok (.enter 55 args) w) (e57 : ∀ args w, (callFunc 57 args).run P w = .ok (.enter 57 args) w)
    (enc : Nat → List Value) (cf : Nat → Nat → Int) (W : Nat → Int) (g : Nat) (cb : Array Value) (blk off cap N : Nat) (d0 : Array Nat) (w0 : World)
    (Y : Sy P z enc cf W g cb blk off N d0 w0) (a m b : Nat) (IH : SymAt P z enc W g cb blk off cap N w0 (b - a)) (d : Array Nat) (w : World) (hd : d.size = N) (S : SWK enc z w0 blk off d w) (ham : a + 1 < m) (hmb : m + 1 < b) (hb : b ≤ N)
    (s1 : Srt W d a m) (s2 : Srt W d m b) (sc : Crs d a m b) :
    Calls P 53 #[.slice (some ⟨blk, off, none⟩) N cap, .int .i64 a, .int .i64 m, .int .i64 b, .func (.func g) #[] cb] w fun e w' =>
      e = .returned (.tuple #[]) ∧ ∃ d', Mv a b d d' ∧ Srt W d' a b ∧ SWK enc z w0 blk off d' w' := by
  have YY : Aside (Sy P z enc cf W g cb blk off N d0 w0) := Y
  have S0 : Aside (SWK enc z w0 blk off d w) := S
  have SS : Aside (Srt W d a m ∧ Srt W d m b ∧ Crs d a m b) := ⟨s1, s2, sc⟩
  have II : Aside (SymAt P z enc W g cb blk off cap N w0 (b - a)) := IH
  have TT : Aside (Ty P 41 33 70 z) := T
  have FF : Aside (P.funcs[55]? = some Tryd.f55 ∧ P.funcs[57]? = some Tryd.f57) := ⟨F55, F57⟩
  have EE : Aside (∀ args w, (callFunc 57 args).run P w = .ok (.enter 57 args) w) := e57
  have FG0 : Aside (P.funcs[53]? = some Tryd.f53) := FG
  have hN := Y.hN
  have eg := Y.eg
  have hm1 : ((m : Int) - (a : Int) == 1) = false := by
    rw [beq_eq_false_iff_ne]; omega
  have hb1 : ((b : Int) - (m : Int) == 1) = false := by
    rw [beq_eq_false_iff_ne]; omega
  clear Y S s1 s2 sc IH F55 F57 e57
  subst hd
  obtain ⟨mixed, t0, a0, z0, v0, t3, a3, z3, v3, t4, a4, z4, v4, t48, a48, z48, v48, ts, aS, zs, vs, tf, af, zf, vf, aE, zE⟩ := T
  have us := run_underlying ts
  go_enter FG, Tryd.ntmps53
  go_upto_if 140 with (fail)
  obtain ⟨mid, hmid⟩ : ∃ mid : Nat, mid = (a + b) / 2 := ⟨_, rfl⟩
  obtain ⟨n, hn⟩ : ∃ n : Nat, n = mid + m := ⟨_, rfl⟩
  obtain ⟨p, hp⟩ : ∃ p : Nat, p + 1 = n := ⟨n - 1, by omega⟩
  have z1 : ((a : Int) + (b : Int)) / 2 = (mid : Int) := by omega
  have z2 : (mid : Int) + (m : Int) = (n : Int) := by omega
  have z3' : (n : Int) - 1 = (p : Int) := by omega
  rw [z1, z2]
  have HM := hid hmid
  have HN' := hid hn
  have HP := hid hp
  have HZ3 := hid z3'
  have hnb : n ≤ 2000000 := by omega
  clear z1 z2 z3' hmid hn hp
  go_cut [20, 21] from 25 (fun x20 x21 wc => ∃ st r : Nat, x20 = .int .i64 st ∧ x21 = .int .i64 r ∧ wc = w ∧ Aside (Bnd a m b mid n st r))
  case first =>
    by_cases hmm : mid < m
    · have hmz : (mid : Int) < (m : Int) := by omega
      have e1 : (n : Int) - (b : Int) = ((n - b : Nat) : Int) := by have := HM.out; have := HN'.out; omega
      have E1 := hid e1
      clear e1
      have hB : Aside (Bnd a m b mid n (n - b) mid) := by
        have k1 := HM.out; have k2 := HN'.out
        exact ⟨by omega, by omega, by omega, by omega, .inr rfl, Nat.le_refl _, fun c h1 h2 => by omega⟩
      go_wp2_with fail
      go_meet
      exact ⟨n - b, mid, by rw [E1.out], rfl, rfl, hB⟩
    · have hmz : ¬ (mid : Int) < (m : Int) := by omega
      have hB : Aside (Bnd a m b mid n a m) := by
        have k1 := HM.out; have k2 := HN'.out
        exact ⟨by omega, by omega, by omega, .inl rfl, .inl rfl, by omega, fun c h1 h2 => by omega⟩
      go_wp2_with fail
      go_meet
      exact ⟨a, m, rfl, rfl, rfl, hB⟩
  case rest =>
    obtain ⟨st, r, rfl, rfl, rfl, hB⟩ := hcut
    go_wp2_with fail
    rw [HZ3.out]
    have hst1 := hB.out.h2
    have hst2 := hB.out.h3
    go_loopg [20, 21] (r - st) (fun kx s10 s11 wr => ∃ (i j : Nat), s10 = .int .i64 i ∧ s11 = .int .i64 j ∧ st ≤ i ∧ i ≤ j ∧ j ≤ r ∧ j - i ≤ kx ∧ Aside (SWK enc z w0 blk off d wr) ∧
      Hid ((i = st ∨ W d[p - (i - 1)]! ≤ W d[i - 1]!) ∧ (j = r ∨ W d[j]! < W d[p - j]!)))
    case atStart => exact ⟨st, r, by first | rfl | go_num, by first | rfl | go_num, Nat.le_refl _, hst1, Nat.le_refl _, Nat.le_refl _, S0, hid ⟨.inl rfl, .inl rfl⟩⟩
    case round =>
      clear S0
      obtain ⟨i, j, rfl, rfl, hai, hij, hjm, hkx, S1, HQ⟩ := hrel
      by_cases hlt : i < j
      · have hltz : (i : Int) < (j : Int) := by omega
        go_wp2_with fail
        obtain ⟨h, hh⟩ : ∃ h : Nat, h = (i + j) / 2 := ⟨_, rfl⟩
        have hz : ((i : Int) + (j : Int)) / 2 = (h : Int) := by omega
        rw [hz]
        have hi1 : i ≤ h := by omega
        have hj1 : h < j := by omega
        have hb7 := hB.out.h7 h (by omega) (by omega)
        obtain ⟨q, hq⟩ : ∃ q : Nat, h + q = p := ⟨p - h, by have := HP.out; omega⟩
        have hqN : q < d.size := by have := HP.out; omega
        have hhN : h < d.size := by omega
        have h0 : d.size = d0.size := YY.out.h0.symm
        obtain ⟨xh, hxh⟩ : ∃ x, d[h]! = x := ⟨_, rfl⟩
        obtain ⟨xq, hxq⟩ : ∃ x, d[q]! = x := ⟨_, rfl⟩
        have lh := S1.out.ld YY.out.R h0 P h hhN
        have lq := S1.out.ld YY.out.R h0 P q hqN
        have hcg := S1.out.cmp YY.out.hC rfl xq xh
        rw [hxh] at lh
        rw [hxq] at lq
        have HXH := hid hxh
        have HXQ := hid (show d[p - h]! = xq by rw [← hxq]; congr 1; omega)
        have HHZ := hid hz
        have HH := hid hh
        have HB7 := hid hb7
        have HQE := hid hq
        have hhz : (h : Int) < (d.size : Int) := by omega
        clear hz hh hxh hxq h0 hb7
        by_cases hlv : cf xq xh < 0
        · obtain ⟨f1, f2, f3, f4⟩ := sub_facts p h q d.size hq hqN hN
          clear hq
          go_quiet_grown (first | (go_at_fn g; refine Calls.grown_of (hcg _ _)))
          clear lh lq hcg f1 f2 f3 f4
          go_wp2_with fail
          go_roundg (h - i)
          case measure => omega
          case rel =>
            exact ⟨i, h, rfl, rfl, hai, hi1, by omega, Nat.le_refl _, S1.out.grown nq osq, hid ⟨HQ.out.1, .inr (by rw [HXH.out, HXQ.out]; exact (YY.out.hcf xq xh).1 hlv)⟩⟩
        · obtain ⟨f1, f2, f3, f4⟩ := sub_facts p h q d.size hq hqN hN
          clear hq
          go_quiet_grown (first | (go_at_fn g; refine Calls.grown_of (hcg _ _)))
          clear lh lq hcg f1 f2 f3 f4
          go_wp2_with fail
          go_roundg (j - (h + 1))
          case measure => omega
          case rel =>
            exact ⟨h + 1, j, by go_num, rfl, by omega, by omega, hjm, Nat.le_refl _, S1.out.grown nq osq, hid ⟨.inr (by rw [Nat.add_sub_cancel, HXH.out, HXQ.out]; exact Int.not_lt.1 (fun q => by have := (YY.out.hcf xq xh).2 q; omega)), HQ.out.2⟩⟩
      · obtain rfl : i = j := by omega
        clear hkx hlt
        obtain ⟨e, he⟩ : ∃ e : Nat, i + e = n := ⟨n - i, by have := HN'.out; omega⟩
        have hz : (n : Int) - (i : Int) = (e : Int) := by omega
        have hme : m ≤ e ∧ e ≤ b := by
          have k1 := HM.out; have k2 := HN'.out; have k3 := hB.out.h5; have k4 := hB.out.h6; have k5 := hB.out.h7
          have k6 := hB.out.h8
          by_cases hi : i = r
          · omega
          · have := k5 i hai (by omega); omega
        have hA : i = a ∨ e = b ∨ ¬ W d[i - 1]! < W d[e]! := by
          have k2 := HP.out; have k3 := hB.out.h5; have k4 := he; have k5 := hB.out.h1
          rcases HQ.out.1 with q | q
          · omega
          · by_cases h0 : i = 0
            · left; omega
            · right; right
              rw [show p - (i - 1) = e by omega] at q
              omega
        have hBB : e = m ∨ i = m ∨ W d[i]! < W d[e - 1]! := by
          have k2 := HP.out; have k3 := hB.out.h6; have k4 := he; have k5 := HN'.out
          rcases HQ.out.2 with q | q
          · omega
          · right; right
            rw [show p - i = e - 1 by omega] at q
            exact q
        have him : i ≤ m := by omega
        have hai' : a ≤ i := by have := hB.out.h1; omega
        have hcm : i + (e - m) = mid := by have k4 := he; have k5 := HN'.out; omega
        have hHV : ∀ d1 : Array Nat, (∀ k, d1[k]! = d[rot i m e k]!) → Halves W d1 a i mid e b := fun d1 h1 => by
          have := halves (W := W) hai' him hme.1 hme.2 SS.out.1 SS.out.2.1 SS.out.2.2 hA hBB h1
          rwa [hcm] at this
        have HHV := hid hHV
        have hmb' : mid ≤ e ∧ e ≤ b ∧ a ≤ mid ∧ mid < b ∧ a < mid := by have k1 := HM.out; have k4 := he; have k5 := HN'.out; omega
        clear hA hBB hHV hcm
        go_upto_region 38 with (fail)
        go_cut [24] from 25 (fun x wc => x = .int .i64 e ∧ wc = wr)
        case first =>
          go_wp2_with fail
          go_meet
          exact ⟨rfl, rfl⟩
        case rest =>
          obtain ⟨rfl, rfl⟩ := hcut
          refine (show ∀ x y, Code.wp P tail39P _ x y → _ by assumption) _ _ ?_
          exact tail39_53 TT.out FG0.out FF.out.1 FF.out.2 e53 e55 EE.out enc cf W g cb blk off cap d0 w0 a m b d YY.out II.out hb mid n i p e him hai' hme hmb' HHV _ S1 _ _ _ _ _ _ _ _ _ _ _ _ _ _ _ _ _ _ _ _ _ _ _ _ _ _ _ _ _ _ _ _ _ _ _ _ _ _ _ _ _ _ _ _ _ _ _ _ _ _ _ _ _ _ _ _ _ _ _ _ _ _ _ _ _ _ _ _ _ _ _ _ _ _ _ _ _ _ _ _ _ _ _ _ _ _ _ _ _ _ _ _ _ _ _ _ _ _ _ _ _ _ _ _ _ _ _ _ _ _ _ _ _ _ _ _ _ _ _ _ _ _ _ _ _ _ _ _ _ _ _ _ _ _ _ _ _ _ _ _ _ _ _ _ _ _ _ _ _ _ _ _ _ _ _ _ _ _ _ _ _ _ _ _ _ _ _ _ _ _ _ _ _ _ _ _ _ _ _ _ _ _ _ _ _ _ _ _ _ _ _ _ _ _ _ _ _ _ _ _ _ _ _ _ _ _ _ _ _
end Go.Proofs.YtoadbogfbgediaaDoor
