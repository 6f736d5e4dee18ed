/- symMerge over a row of pairs: where the right part is one (no statement of the seat). -/
import Derived.Test.YtoadbogfbgediaaDoorSymA
namespace Go.Proofs.YtoadbogfbgediaaDoor
open Go.RowKit Go.Lib Go.Sort

theorem down_facts (k N : Nat) (h : k + 1 < N) (hN : N ≤ 1000000) : (k : Int) < (N : Int) ∧ (k : Int) + 1 < (N : Int) ∧ (0 : Int) ≤ (k : Int) + 1 ∧ ((k : Int) + 1).toNat = k + 1 ∧ wrap64 (k : Int) = (k : Int) ∧ IntKind.i64.wrap (k : Int) = (k : Int) :=
  ⟨by omega, by omega, by omega, by omega, by unfold wrap64; omega, by rw [IntKind.wrap_i64]; omega⟩
set_option maxHeartbeats 4000000 in
set_option maxRecDepth 1000000 in
theorem symB53 {P : Program} {z : Nat} (T : Ty P 41 33 70 z) (FG : P.funcs[53]? = some Tryd.f53) (enc : Nat → List Value) (cf : Nat → Nat → Int) (W : Nat → Int) (g : Nat) (cb : Array Value) (blk off cap N : Nat) (d0 : Array Nat) (w0 : World)
    (Y : Sy P z enc cf W g cb blk off N d0 w0) (a m b : Nat) (d : Array Nat) (w : World) (hd : d.size = N) (S : SWK enc z w0 blk off d w) (ham : a + 1 < m) (hmb : m + 1 = b) (hb : b ≤ N)
    (s1 : Srt W d a m) (s2 : Srt W d m b) (sc : Crs d a m b) :
    Calls P 53 #[.slice (some ⟨blk, off, none⟩) N cap, .int .i64 a, .int .i64 m, .int .i64 b, .func (.func g) #[] cb] w fun e w' =>
      e = .returned (.tuple #[]) ∧ ∃ d', Mv a b d d' ∧ Srt W d' a b ∧ SWK enc z w0 blk off d' w' := by
  have YY : Aside (Sy P z enc cf W g cb blk off N d0 w0) := Y
  have S0 : Aside (SWK enc z w0 blk off d w) := S
  have SS : Aside (Srt W d a m ∧ Srt W d m b ∧ Crs d a m b) := ⟨s1, s2, sc⟩
  have hN := Y.hN
  have eg := Y.eg
  have hm1 : ((m : Int) - (a : Int) == 1) = false := by
    rw [beq_eq_false_iff_ne]; omega
  have hb1 : (b : Int) - (m : Int) = 1 := by omega
  clear Y S s1 s2 sc
  subst hd
  obtain ⟨mixed, t0, a0, z0, v0, t3, a3, z3, v3, t4, a4, z4, v4, t48, a48, z48, v48, ts, aS, zs, vs, tf, af, zf, vf, aE, zE⟩ := T
  have us := run_underlying ts
  go_enter FG, Tryd.ntmps53
  go_wp2_with fail
  go_loopg [14, 15] (m - a) (fun kx s10 s11 wr => ∃ (i j : Nat), s10 = .int .i64 i ∧ s11 = .int .i64 j ∧ a ≤ i ∧ i ≤ j ∧ j ≤ m ∧ j - i ≤ kx ∧ Aside (SWK enc z w0 blk off d wr) ∧
    Hid ((i = a ∨ ¬ W d[i - 1]! < W d[m]!) ∧ (j = m ∨ W d[j]! < W d[m]!)))
  case atStart => exact ⟨a, m, by first | rfl | go_num, by first | rfl | go_num, Nat.le_refl _, by omega, Nat.le_refl _, Nat.le_refl _, S0, hid ⟨.inl rfl, .inl rfl⟩⟩
  case round =>
    clear S0
    obtain ⟨i, j, rfl, rfl, hai, hij, hjm, hkx, S1, HQ⟩ := hrel
    by_cases hlt : i < j
    · have hltz : (i : Int) < (j : Int) := by omega
      go_wp2_with fail
      obtain ⟨h, hh⟩ : ∃ h : Nat, h = (i + j) / 2 := ⟨_, rfl⟩
      have hz : ((i : Int) + (j : Int)) / 2 = (h : Int) := by omega
      rw [hz]
      have hi1 : i ≤ h := by omega
      have hj1 : h < j := by omega
      have hhN : h < d.size := by omega
      have hmN : m < d.size := by omega
      have hhz : (h : Int) < (d.size : Int) := by omega
      have hmz : (m : Int) < (d.size : Int) := by omega
      have h0 : d.size = d0.size := YY.out.h0.symm
      obtain ⟨xh, hxh⟩ : ∃ x, d[h]! = x := ⟨_, rfl⟩
      obtain ⟨xm, hxm⟩ : ∃ x, d[m]! = x := ⟨_, rfl⟩
      have lh := S1.out.ld YY.out.R h0 P h hhN
      have la := S1.out.ld YY.out.R h0 P m hmN
      have hcg := S1.out.cmp YY.out.hC rfl xm xh
      rw [hxh] at lh
      rw [hxm] at la
      have HXH := hid hxh
      have HXM := hid hxm
      have HHZ := hid hz
      have HH := hid hh
      clear hz hh hxh hxm h0
      by_cases hlv : cf xm xh < 0
      · go_quiet_grown (first | (go_at_fn g; refine Calls.grown_of (hcg _ _)))
        clear lh la hcg
        go_wp2_with fail
        go_roundg (h - i)
        case measure => omega
        case rel =>
          exact ⟨i, h, rfl, rfl, hai, hi1, by omega, Nat.le_refl _, S1.out.grown nq osq, hid ⟨by have := HQ.out.1; omega, .inr (by rw [HXH.out, HXM.out]; exact (YY.out.hcf xm xh).1 hlv)⟩⟩
      · go_quiet_grown (first | (go_at_fn g; refine Calls.grown_of (hcg _ _)))
        clear lh la hcg
        go_wp2_with fail
        go_roundg (j - (h + 1))
        case measure => omega
        case rel =>
          exact ⟨h + 1, j, by go_num, rfl, by omega, by omega, hjm, Nat.le_refl _, S1.out.grown nq osq, hid ⟨.inr (by rw [Nat.add_sub_cancel, HXH.out, HXM.out]; exact Int.not_lt.1 (fun q => by have := (YY.out.hcf xm xh).2 q; omega)), HQ.out.2⟩⟩
    · obtain rfl : i = j := by omega
      clear hkx hlt
      go_wp2_with fail
      go_loopg [17] m (fun kx s13 wk => ∃ (k : Nat) (dk : Array Nat), s13 = .int .i64 k ∧ i ≤ k ∧ k ≤ m ∧ k ≤ kx ∧ dk.size = d.size ∧ Aside (SWK enc z w0 blk off dk wk) ∧ Hid (∀ x, dk[x]! = d[rot k m (m + 1) x]!))
      case atStart => exact ⟨m, d, by first | rfl | go_num, hjm, Nat.le_refl _, Nat.le_refl _, rfl, S1, hid (fun x => by rw [rot_id m m (m + 1) x (.inl rfl) (Nat.le_refl _) (by omega)])⟩
      case round =>
        clear S1
        obtain ⟨k, dk, rfl, hik, hkm, hkx, hds, S1, HK⟩ := hrel
        by_cases hlt : i < k
        · obtain ⟨kp, rfl⟩ : ∃ kp, k = kp + 1 := ⟨k - 1, by omega⟩
          have hltz : (i : Int) < (kp : Int) + 1 := by omega
          go_wp2_with fail
          have h1 : kp + 1 < dk.size := by omega
          have h2 : kp < dk.size := by omega
          have h5 : dk.size = d0.size := by have := YY.out.h0; omega
          have S2 : Aside (SWK enc z w0 blk off (swp dk (kp + 1) kp) ((wr.drew.setCells blk (off + (kp + 1) * z) (enc dk[kp]!)).setCells blk (off + kp * z) (enc dk[kp + 1]!))) := S1.out.swapped YY.out.R (kp + 1) kp h1 h2
          have la := S1.out.ld1 YY.out.R h5 P (kp + 1) h1
          have lb := S1.out.ld1 YY.out.R h5 P kp h2
          have sa := S1.out.st1 YY.out.R h5 P (kp + 1) h1 dk[kp]!
          have sb := S1.out.st2 YY.out.R h5 P (kp + 1) kp h1 h2 dk[kp]! dk[kp + 1]!
          have na : (enc dk[kp + 1]!).length = z := YY.out.R.hk _
          have nb : (enc dk[kp]!).length = z := YY.out.R.hk _
          generalize enc dk[kp + 1]! = cI at S2 la sb na
          generalize enc dk[kp]! = cJ at S2 lb sa sb nb
          have hkz : (kp : Int) + 1 ≤ (m : Int) := by omega
          obtain ⟨kz, kz1, k0, ke, kw, kw'⟩ := down_facts kp d.size (by omega) hN
          clear S1
          go_big_region_o
          clear la lb sa sb kz kz1 k0 ke kw kw'
          generalize (wr.drew.setCells blk (off + (kp + 1) * z) cJ).setCells blk (off + kp * z) cI = w2 at S2 ⊢
          go_wp2_with fail
          go_roundg kp
          case measure => omega
          case rel =>
            exact ⟨kp, swp dk (kp + 1) kp, by first | rfl | go_num, by omega, by omega, Nat.le_refl _, by rw [size_swp']; exact hds, S2, hid (rot_down kp (by omega) (by omega) HK.out)⟩
        · obtain rfl : i = k := by omega
          go_wp2_with fail
          refine bodyPost_ret (results_none rfl _ _ _) rfl ?_
          have hrot := HK.out
          exact ⟨rfl, dk, (Mv.rot hds hjm (by omega) hrot).wide hai (by omega), symB_law hmb hai hjm SS.out.1 SS.out.2.1 SS.out.2.2 ⟨HQ.out.1.imp_right (fun q => by omega), HQ.out.2⟩ hrot, S1.out⟩
end Go.Proofs.YtoadbogfbgediaaDoor
