/- symMerge over a row of pairs: where the left part is one (no statement of the seat). -/
import Derived.Test.YtoadbogfbgediaaDoorSwap
namespace Go.Proofs.YtoadbogfbgediaaDoor
open Go.RowKit Go.Lib Go.Sort

/-- What symMerge is told once. -/
structure Sy (P : Program) (z : Nat) (enc : Nat → List Value) (cf : Nat → Nat → Int) (W : Nat → Int) (g : Nat) (cb : Array Value) (blk off N : Nat) (d0 : Array Nat) (w0 : World) : Prop where
  eg : ∀ args w, (callFunc g args).run P w = .ok (.enter g args) w
  hC : CmpLays P g cb enc z cf blk off N w0
  R : RowK enc z w0 blk off d0
  h0 : d0.size = N
  hN : N ≤ 1000000
  hcf : ∀ x y, cf x y < 0 ↔ W y < W x

theorem up_facts (k N : Nat) (h : k + 1 < N) (hN : N ≤ 1000000) : (k : Int) < (N : Int) ∧ (k : Int) + 1 < (N : Int) ∧ (0 : Int) ≤ (k : Int) + 1 ∧ ((k : Int) + 1).toNat = k + 1 ∧ wrap64 ((k : Int) + 1) = (k : Int) + 1 ∧ IntKind.i64.wrap ((k : Int) + 1) = (k : Int) + 1 :=
  ⟨by omega, by omega, by omega, by omega, by unfold wrap64; omega, by rw [IntKind.wrap_i64]; omega⟩
set_option maxHeartbeats 4000000 in
set_option maxRecDepth 1000000 in
theorem symA53 {P : Program} {z : Nat} (T : Ty P 41 33 70 z) (FG : P.funcs[53]? = some Tryd.f53) (enc : Nat → List Value) (cf : Nat → Nat → Int) (W : Nat → Int) (g : Nat) (cb : Array Value) (blk off cap N : Nat) (d0 : Array Nat) (w0 : World)
    (Y : Sy P z enc cf W g cb blk off N d0 w0) (a m b : Nat) (d : Array Nat) (w : World) (hd : d.size = N) (S : SWK enc z w0 blk off d w) (ham : a + 1 = m) (hmb : m < b) (hb : b ≤ N)
    (s1 : Srt W d a m) (s2 : Srt W d m b) (sc : Crs d a m b) :
    Calls P 53 #[.slice (some ⟨blk, off, none⟩) N cap, .int .i64 a, .int .i64 m, .int .i64 b, .func (.func g) #[] cb] w fun e w' =>
      e = .returned (.tuple #[]) ∧ ∃ d', Mv a b d d' ∧ Srt W d' a b ∧ SWK enc z w0 blk off d' w' := by
  have YY : Aside (Sy P z enc cf W g cb blk off N d0 w0) := Y
  have S0 : Aside (SWK enc z w0 blk off d w) := S
  have SS : Aside (Srt W d a m ∧ Srt W d m b ∧ Crs d a m b) := ⟨s1, s2, sc⟩
  have hN := Y.hN
  have eg := Y.eg
  have hm1 : (m : Int) - (a : Int) = 1 := by omega
  clear Y S s1 s2 sc
  subst hd
  obtain ⟨mixed, t0, a0, z0, v0, t3, a3, z3, v3, t4, a4, z4, v4, t48, a48, z48, v48, ts, aS, zs, vs, tf, af, zf, vf, aE, zE⟩ := T
  have us := run_underlying ts
  go_enter FG, Tryd.ntmps53
  go_wp2_with fail
  go_loopg [10, 11] (b - m) (fun kx s10 s11 wr => ∃ (i j : Nat), s10 = .int .i64 i ∧ s11 = .int .i64 j ∧ m ≤ i ∧ i ≤ j ∧ j ≤ b ∧ j - i ≤ kx ∧ Aside (SWK enc z w0 blk off d wr) ∧
    Hid ((i = m ∨ W d[a]! < W d[i - 1]!) ∧ (j = b ∨ ¬ W d[a]! < W d[j]!)))
  case atStart => exact ⟨m, b, by first | rfl | go_num, by first | rfl | go_num, Nat.le_refl _, by omega, Nat.le_refl _, Nat.le_refl _, S0, hid ⟨.inl rfl, .inl rfl⟩⟩
  case round =>
    clear S0
    obtain ⟨i, j, rfl, rfl, hmi, hij, hjb, hkx, S1, HQ⟩ := hrel
    by_cases hlt : i < j
    · have hltz : (i : Int) < (j : Int) := by omega
      go_wp2_with fail
      obtain ⟨h, hh⟩ : ∃ h : Nat, h = (i + j) / 2 := ⟨_, rfl⟩
      have hz : ((i : Int) + (j : Int)) / 2 = (h : Int) := by omega
      rw [hz]
      have hi1 : i ≤ h := by omega
      have hj1 : h < j := by omega
      have hhN : h < d.size := by omega
      have haN : a < d.size := by omega
      have hhz : (h : Int) < (d.size : Int) := by omega
      have haz : (a : Int) < (d.size : Int) := by omega
      have h0 : d.size = d0.size := YY.out.h0.symm
      obtain ⟨xh, hxh⟩ : ∃ x, d[h]! = x := ⟨_, rfl⟩
      obtain ⟨xa, hxa⟩ : ∃ x, d[a]! = x := ⟨_, rfl⟩
      have lh := S1.out.ld YY.out.R h0 P h hhN
      have la := S1.out.ld YY.out.R h0 P a haN
      have hcg := S1.out.cmp YY.out.hC rfl xh xa
      rw [hxh] at lh
      rw [hxa] at la
      have HXH := hid hxh
      have HXA := hid hxa
      have HHZ := hid hz
      have HH := hid hh
      clear hz hh hxh hxa h0
      by_cases hlv : cf xh xa < 0
      · go_quiet_grown (first | (go_at_fn g; refine Calls.grown_of (hcg _ _)))
        clear lh la hcg
        go_wp2_with fail
        go_roundg (j - (h + 1))
        case measure => omega
        case rel =>
          exact ⟨h + 1, j, by go_num, rfl, by omega, by omega, hjb, Nat.le_refl _, S1.out.grown nq osq, hid ⟨.inr (by rw [Nat.add_sub_cancel, HXH.out, HXA.out]; exact (YY.out.hcf _ _).1 hlv), HQ.out.2⟩⟩
      · go_quiet_grown (first | (go_at_fn g; refine Calls.grown_of (hcg _ _)))
        clear lh la hcg
        go_wp2_with fail
        go_roundg (h - i)
        case measure => omega
        case rel =>
          exact ⟨i, h, rfl, rfl, hmi, hi1, by omega, Nat.le_refl _, S1.out.grown nq osq, hid ⟨HQ.out.1, .inr (by rw [HXH.out, HXA.out]; exact Int.not_lt.1 (fun q => by have := (YY.out.hcf xh xa).2 q; omega))⟩⟩
    · obtain rfl : i = j := by omega
      clear hkx hlt
      go_wp2_with fail
      go_loopg [13] i (fun kx s13 wk => ∃ (k : Nat) (dk : Array Nat), s13 = .int .i64 k ∧ a ≤ k ∧ k ≤ i - 1 ∧ i - 1 - k ≤ kx ∧ dk.size = d.size ∧ Aside (SWK enc z w0 blk off dk wk) ∧ Hid (∀ x, dk[x]! = d[rot a (a + 1) (k + 1) x]!))
      case atStart => exact ⟨a, d, rfl, Nat.le_refl _, by omega, by omega, rfl, S1, hid (fun x => by rw [rot_id a (a + 1) (a + 1) x (.inr rfl) (by omega) (Nat.le_refl _)])⟩
      case round =>
        clear S1
        obtain ⟨k, dk, rfl, hak, hki, hkx, hds, S1, HK⟩ := hrel
        have hi0 : (i : Int) - 1 = ((i - 1 : Nat) : Int) := by omega
        have HI0 := hid hi0
        clear hi0
        by_cases hlt : k < i - 1
        · have hltz : (k : Int) < (i : Int) - 1 := by omega
          go_wp2_with fail
          have h1 : k < dk.size := by omega
          have h2 : k + 1 < dk.size := by omega
          have h5 : dk.size = d0.size := by have := YY.out.h0; omega
          have S2 : Aside (SWK enc z w0 blk off (swp dk k (k + 1)) ((wr.drew.setCells blk (off + k * z) (enc dk[k + 1]!)).setCells blk (off + (k + 1) * z) (enc dk[k]!))) := S1.out.swapped YY.out.R k (k + 1) h1 h2
          have la := S1.out.ld1 YY.out.R h5 P k h1
          have lb := S1.out.ld1 YY.out.R h5 P (k + 1) h2
          have sa := S1.out.st1 YY.out.R h5 P k h1 dk[k + 1]!
          have sb := S1.out.st2 YY.out.R h5 P k (k + 1) h1 h2 dk[k + 1]! dk[k]!
          have na : (enc dk[k]!).length = z := YY.out.R.hk _
          have nb : (enc dk[k + 1]!).length = z := YY.out.R.hk _
          generalize enc dk[k]! = cI at S2 la sb na
          generalize enc dk[k + 1]! = cJ at S2 lb sa sb nb
          obtain ⟨kz, kz1, k0, ke, kw, kw'⟩ := up_facts k d.size (by omega) hN
          clear S1
          go_big_region_o
          clear la lb sa sb kz kz1 k0 ke kw kw'
          generalize (wr.drew.setCells blk (off + k * z) cJ).setCells blk (off + (k + 1) * z) cI = w2 at S2 ⊢
          go_wp2_with fail
          go_roundg (i - 1 - (k + 1))
          case measure => omega
          case rel =>
            exact ⟨k + 1, swp dk k (k + 1), by go_num, by omega, by omega, Nat.le_refl _, by rw [size_swp']; exact hds, S2, hid (rot_up k hak h2 HK.out)⟩
        · have hk : k = i - 1 := by omega
          subst hk
          go_wp2_with fail
          refine bodyPost_ret (results_none rfl _ _ _) rfl ?_
          have e1 : i - 1 + 1 = i := by omega
          have hrot : ∀ x, dk[x]! = d[rot a m i x]! := fun x => by rw [HK.out x, e1, ham]
          exact ⟨rfl, dk, (Mv.rot hds (by omega) hmi hrot).wide (Nat.le_refl _) hjb, symA_law ham hmi hjb SS.out.1 SS.out.2.1 SS.out.2.2 ⟨HQ.out.1, HQ.out.2.imp_right (fun q => by omega)⟩ hrot, S1.out⟩
end Go.Proofs.YtoadbogfbgediaaDoor
