/- The stable sort of a row of pairs (no statement of the seat). -/
import Derived.Test.YtoadbogfbgediaaDoorSymM
import Derived.Test.YtoadbogfbgediaaDoorStabLaw
import Derived.Test.YtoadbogfbgediaaDoorIns
namespace Go.Proofs.YtoadbogfbgediaaDoor
open Go.RowKit Go.Lib Go.Sort Go.Shelf

theorem SymAt.le {P : Program} {z : Nat} {enc : Nat → List Value} {W : Nat → Int} {g : Nat} {cb : Array Value} {blk off cap N : Nat} {w0 : World} {lim lim' : Nat} (h : SymAt P z enc W g cb blk off cap N w0 lim) (hl : lim' ≤ lim) : SymAt P z enc W g cb blk off cap N w0 lim' :=
  fun a m b d w h1 h2 h3 h4 h5 h6 => h a m b d w h1 h2 h3 h4 h5 (by omega)
theorem enters53 : ∀ args w, (callFunc 53 args).run Tryd.prog w = .ok (.enter 53 args) w := enters_of Tryd.func53 (by kernel_rfl) rfl
theorem enters55 : ∀ args w, (callFunc 55 args).run Tryd.prog w = .ok (.enter 55 args) w := enters_of Tryd.func55 (by kernel_rfl) rfl
theorem enters57 : ∀ args w, (callFunc 57 args).run Tryd.prog w = .ok (.enter 57 args) w := enters_of Tryd.func57 (by kernel_rfl) rfl

section
variable {enc : Nat → List Value} {cf : Nat → Nat → Int} {W : Nat → Int} {g : Nat} {cb : Array Value} {blk off N : Nat} {d0 : Array Nat} {w0 : World}
theorem sym53 (cap : Nat) (Y : Sy Tryd.prog 6 enc cf W g cb blk off N d0 w0) : ∀ lim, SymAt Tryd.prog 6 enc W g cb blk off cap N w0 lim := by
  intro lim
  induction lim with
  | zero => intro a m b d w h1 h2 h3 h4 h5 h6; omega
  | succ lim ih =>
    intro a m b d w hd S ham hmb hb hl s1 s2 sc
    by_cases h1 : a + 1 = m
    · exact symA53 tyP Tryd.func53 enc cf W g cb blk off cap N d0 w0 Y a m b d w hd S h1 hmb hb s1 s2 sc
    · by_cases h2 : m + 1 = b
      · exact symB53 tyP Tryd.func53 enc cf W g cb blk off cap N d0 w0 Y a m b d w hd S (by omega) h2 hb s1 s2 sc
      · exact symC53 tyP Tryd.func53 Tryd.func55 Tryd.func57 enters53 enters55 enters57 enc cf W g cb blk off cap N d0 w0 Y a m b (ih.le (by omega)) d w hd S (by omega) (by omega) hb s1 s2 sc

theorem SWK.cmpLays {dk : Array Nat} {w : World} (h : SWK enc 6 w0 blk off dk w) (hC : CmpLays Tryd.prog g cb enc 6 cf blk off N w0) (hblk : blk < w0.heap.size) (hs : dk.size = N) : CmpLays Tryd.prog g cb enc 6 cf blk off N w := by
  intro m os dk' hs' x y
  obtain ⟨m', os', hw⟩ := h.on hblk m dk' os (by omega)
  rw [hw]
  exact hC m' os' dk' hs' x y
theorem ins52 (cap : Nat) (Y : Sy Tryd.prog 6 enc cf W g cb blk off N d0 w0) (a b : Nat) (d : Array Nat) (w : World) (hd : d.size = N) (S : SWK enc 6 w0 blk off d w) (hab : a ≤ b) (hb : b ≤ N)
    (hx : ∀ x y, a ≤ x → x < y → y < b → d[x]! < d[y]!) :
    Calls Tryd.prog 52 #[.slice (some ⟨blk, off, none⟩) N cap, .int .i64 a, .int .i64 b, .func (.func g) #[] cb] w fun e w' =>
      e = .returned (.tuple #[]) ∧ ∃ d', d'.size = N ∧ Mv a b d d' ∧ Srt W d' a b ∧ SWK enc 6 w0 blk off d' w' := by
  subst hd
  have hN := Y.hN
  have hH := S.holds Y.R.hblk Y.R.hH Y.h0.symm
  have hlaw := insertion_law (W := W) (lt := ltOf cf) (fun x y => by unfold ltOf; rw [decide_eq_true_eq]; exact Y.hcf x y) d a b hb hx
  refine (AnyQ.insertionSortCmpFunc layInsP 6 (fun w => tyP.aE w) (fun w => tyP.zE w) enc Y.R.hk Y.R.h1 cf g cb blk off cap a b d w Y.eg (SWK.cmpLays S Y.hC Y.R.hblk rfl) hH (S.lt Y.R.hblk) hab hb (by omega)).mono ?_
  rintro e w' ⟨rfl, n, os, rfl⟩
  exact ⟨rfl, _, hlaw.2.size, hlaw.2, hlaw.1, S.on Y.R.hblk n _ os hlaw.2.size⟩

set_option maxHeartbeats 4000000 in
set_option maxRecDepth 100000 in
theorem stab49 (cap : Nat) (Y : Sy Tryd.prog 6 enc cf W g cb blk off N d0 w0) (d : Array Nat) (w : World) (hd : d.size = N) (S : SWK enc 6 w0 blk off d w) (hid0 : ∀ k, k < N → d[k]! = k) :
    Calls Tryd.prog 49 #[.slice (some ⟨blk, off, none⟩) N cap, .int .i64 N, .func (.func g) #[] cb] w fun e w' =>
      e = .returned (.tuple #[]) ∧ ∃ d', d'.size = N ∧ Mv 0 N d d' ∧ Srt W d' 0 N ∧ SWK enc 6 w0 blk off d' w' := by
  have YY : Aside (Sy Tryd.prog 6 enc cf W g cb blk off N d0 w0) := Y
  have S0 : Aside (SWK enc 6 w0 blk off d w) := S
  have F0 : Aside (Fst W 0 N d d) := fst_start hid0
  have hN := Y.hN
  have HD := hid hd
  clear Y S hid0 hd
  go_enter Tryd.func49, Tryd.ntmps49
  go_wp2_with fail
  go_loopg [7, 8] N (fun kx s7 s8 wr => ∃ (t A B : Nat) (dk : Array Nat), s7 = .int .i64 A ∧ s8 = .int .i64 B ∧ Hid (A = t * 20 ∧ B = A + 20) ∧ A ≤ N ∧ N - A ≤ kx ∧ dk.size = N ∧ Aside (Fst W t N d dk) ∧ Aside (SWK enc 6 w0 blk off dk wr))
  case atStart => exact ⟨0, 0, 20, d, rfl, rfl, hid ⟨rfl, rfl⟩, Nat.zero_le _, by omega, HD.out, F0, S0⟩
  case round =>
    clear S0 F0
    obtain ⟨t, A, B, dk, rfl, rfl, HAB, htN, hkx, hds, F, S⟩ := hrel
    obtain ⟨hA, hB⟩ := HAB.out
    by_cases hlt : B ≤ N
    · have hltz : (B : Int) ≤ (N : Int) := by omega
      have hBB : B ≤ 1000000 := by omega
      have HINC := hid (fun (x y : Nat) (hx : A ≤ x) (hxy : x < y) (hy : y < B) => F.out.inc x y (by omega) hxy (by omega))
      have hAB : A ≤ B := by omega
      clear hA hB
      go_wp2_with fail
      refine (ins52 cap YY.out A B dk wr hds S.out hAB hlt HINC.out).mono ?_
      rintro e w' ⟨rfl, dn, hdn, hm, hs, S2⟩
      have F2 : Aside (Fst W (t + 1) N d dn) := by
        obtain ⟨hA, hB⟩ := HAB.out
        have e1 : B = t * 20 + 20 := by omega
        rw [hA, e1] at hm hs
        exact F.out.step (by omega) hm hs
      have HS2 : Aside _ := S2
      clear hm hs S2
      go_wp2_with fail
      go_roundg (N - B)
      case measure => have := HAB.out; omega
      case rel => exact ⟨t + 1, B, B + 20, dn, rfl, by go_num, hid ⟨by have := HAB.out; omega, rfl⟩, hlt, Nat.le_refl _, hdn, F2, HS2⟩
    · have hltz : ¬ (B : Int) ≤ (N : Int) := by omega
      have HINC := hid (fun (x y : Nat) (hx : A ≤ x) (hxy : x < y) (hy : y < N) => F.out.inc x y (by omega) hxy hy)
      clear hA hB
      go_wp2_with fail
      refine (ins52 cap YY.out A N dk wr hds S.out htN (Nat.le_refl _) HINC.out).mono ?_
      rintro e w' ⟨rfl, dn, hdn, hm, hs, S2⟩
      have L0 : Aside (Lvl W 20 N d dn) := by
        obtain ⟨hA, hB⟩ := HAB.out
        rw [hA] at hm hs
        exact F.out.fin (by omega) (by omega) hm hs
      have HS2 : Aside _ := S2
      clear hm hs S2 S F HINC hkx hltz hlt
      go_wp2_with fail
      go_loopg [6] N (fun kx s6 wr => ∃ (bs : Nat) (dk : Array Nat), s6 = .int .i64 bs ∧ 20 ≤ bs ∧ bs ≤ N * 2 + 20 ∧ N - bs ≤ kx ∧ dk.size = N ∧ Aside (Lvl W bs N d dk) ∧ Aside (SWK enc 6 w0 blk off dk wr))
      case atStart => exact ⟨20, dn, rfl, Nat.le_refl _, by omega, by omega, hdn, L0, HS2⟩
      case round =>
        clear HS2 L0
        obtain ⟨bs, dk, rfl, hbs, hbm, hkx, hds, L, S⟩ := hrel
        by_cases hlt : bs < N
        · have hltz : (bs : Int) < (N : Int) := by omega
          have H0 : Aside (Half W bs 0 N d dk) := L.out.half
          go_wp2_with fail
          go_loopg [7, 8] N (fun kx s7 s8 wr => ∃ (t A B : Nat) (dk : Array Nat), s7 = .int .i64 A ∧ s8 = .int .i64 B ∧ Hid (A = t * (bs * 2) ∧ B = A + bs * 2) ∧ A ≤ N ∧ N - A ≤ kx ∧ dk.size = N ∧ Aside (Half W bs t N d dk) ∧ Aside (SWK enc 6 w0 blk off dk wr))
          case atStart => exact ⟨0, 0, bs * 2, dk, rfl, by first | rfl | (congr 1; omega), hid ⟨by simp, by omega⟩, Nat.zero_le _, by omega, hds, H0, S⟩
          case round =>
            clear S H0 L
            obtain ⟨t, A, B, dk, rfl, rfl, HAB, htN, hkx2, hds, F, S⟩ := hrel
            have hB := HAB.out.2
            have hBB : B ≤ 4000000 := by omega
            by_cases hlt2 : B ≤ N
            · have hltz2 : (B : Int) ≤ (N : Int) := by omega
              have hpre := hid (F.out.pre (e := B) (by omega) (by have := HAB.out; omega) hlt2 (.inl (by have := HAB.out; omega)))
              have ez := hid (show (A : Int) + (bs : Int) = ((A + bs : Nat) : Int) by omega)
              clear hB
              go_wp2_with fail
              try rw [ez.out]
              refine (sym53 cap YY.out (B - A + 1) A (A + bs) B dk wr hds S.out (by omega) (by have := HAB.out; omega) hlt2 (by omega) (by have := hpre.out.1; rw [← HAB.out.1] at this; exact this) (by have := hpre.out.2.1; rw [← HAB.out.1] at this; exact this) (by have := hpre.out.2.2; rw [← HAB.out.1] at this; exact this)).mono ?_
              rintro e w' ⟨rfl, dn2, hm, hs, S2⟩
              have F2 : Aside (Half W bs (t + 1) N d dn2) := by
                obtain ⟨hA, hB⟩ := HAB.out
                rw [hB, hA] at hm hs
                exact F.out.step (by omega) (by omega) hm hs
              have hdn2 : dn2.size = N := hm.size.trans hds
              have HS2 : Aside _ := S2
              clear hm hs S2
              go_wp2_with fail
              go_roundg (N - B)
              case measure => have := HAB.out; omega
              case rel => exact ⟨t + 1, B, B + bs * 2, dn2, rfl, by first | rfl | go_num | (congr 1; omega), hid ⟨by rw [(two_blocks t bs).2.2]; have := HAB.out; omega, rfl⟩, hlt2, Nat.le_refl _, hdn2, F2, HS2⟩
            · have hltz2 : ¬ (B : Int) ≤ (N : Int) := by omega
              by_cases hmn : A + bs < N
              · have hmz : (A : Int) + (bs : Int) < (N : Int) := by omega
                have hpre := hid (F.out.pre (e := N) (by omega) (by have := HAB.out; omega) (Nat.le_refl _) (.inr ⟨rfl, by have := HAB.out; omega⟩))
                have ez := hid (show (A : Int) + (bs : Int) = ((A + bs : Nat) : Int) by omega)
                clear hB
                go_wp2_with fail
                try rw [ez.out]
                refine (sym53 cap YY.out (N - A + 1) A (A + bs) N dk wr hds S.out (by omega) hmn (Nat.le_refl _) (by omega) (by have := hpre.out.1; rw [← HAB.out.1] at this; exact this) (by have := hpre.out.2.1; rw [← HAB.out.1] at this; exact this) (by have := hpre.out.2.2; rw [← HAB.out.1] at this; exact this)).mono ?_
                rintro e w' ⟨rfl, dn2, hm, hs, S2⟩
                have F2 : Aside (Lvl W (bs * 2) N d dn2) := by
                  obtain ⟨hA, hB⟩ := HAB.out
                  rw [hA] at hm hs
                  exact F.out.fin (by omega) (by omega) (by omega) hm hs
                have hdn2 : dn2.size = N := hm.size.trans hds
                have HS2 : Aside _ := S2
                clear hm hs S2
                go_wp2_with fail
                go_roundg (N - bs * 2)
                case measure => omega
                case rel => exact ⟨bs * 2, dn2, by first | rfl | go_num | (congr 1; omega), by omega, by omega, Nat.le_refl _, hdn2, F2, HS2⟩
              · have hmz : ¬ (A : Int) + (bs : Int) < (N : Int) := by omega
                have F2 : Aside (Lvl W (bs * 2) N d dk) := F.out.fin0 (by have := HAB.out; omega)
                clear hB
                go_wp2_with fail
                go_roundg (N - bs * 2)
                case measure => omega
                case rel => exact ⟨bs * 2, dk, by first | rfl | go_num | (congr 1; omega), by omega, by omega, Nat.le_refl _, hds, F2, S⟩
        · have hltz : ¬ (bs : Int) < (N : Int) := by omega
          go_wp2_with fail
          go_end0
          exact ⟨rfl, dk, hds, L.out.mv, L.out.all (by omega), S.out⟩
theorem sort40 (cap : Nat) (Y : Sy Tryd.prog 6 enc cf W g cb blk off N d0 w0) (d : Array Nat) (w : World) (hd : d.size = N) (S : SWK enc 6 w0 blk off d w) (hid0 : ∀ k, k < N → d[k]! = k) :
    Calls Tryd.prog 40 #[.slice (some ⟨blk, off, none⟩) N cap, .func (.func g) #[] cb] w fun e w' =>
      e = .returned (.tuple #[]) ∧ ∃ d', d'.size = N ∧ Mv 0 N d d' ∧ Srt W d' 0 N ∧ SWK enc 6 w0 blk off d' w' := by
  go_enter Tryd.func40, Tryd.ntmps40
  go_wp2_with fail
  refine (stab49 cap Y d w hd S hid0).mono ?_
  rintro e w' ⟨rfl, d', h1, h2, h3, h4⟩
  have H := hid (show d'.size = N ∧ Mv 0 N d d' ∧ Srt W d' 0 N ∧ SWK enc 6 w0 blk off d' w' from ⟨h1, h2, h3, h4⟩)
  clear h1 h2 h3 h4
  go_wp2_with fail
  go_end0
  exact ⟨rfl, d', H.out⟩
end
end Go.Proofs.YtoadbogfbgediaaDoor
