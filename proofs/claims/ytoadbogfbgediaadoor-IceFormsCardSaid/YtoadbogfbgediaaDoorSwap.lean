/- swapRange and rotate over a row of pairs, and of candidates (no statement of the seat). -/
import Derived.Test.YtoadbogfbgediaaDoorMerge
import Derived.Test.YtoadbogfbgediaaDoorOne
import Derived.Shelf.SlSortCmp.KitK
import Derived.Deep.LoopGhost
import Derived.BigRegion
namespace Go.Proofs.YtoadbogfbgediaaDoor
open Go.RowKit Go.Lib Go.Sort

/-- What a walk of the sort's functions asks of the program: the types of its text, the element's size a variable. -/
structure Ty (P : Program) (eT sT fT : TypeId) (k : Nat) : Prop where
  mixed : P.follows .mixedOrders = true
  t0 : P.underlying 0 = some (TypeDesc.tuple #[])
  a0 : ∀ w, (isAgg 0).run P w = .ok false w
  z0 : ∀ w, (Go.sizeOf 0).run P w = .ok 1 w
  v0 : ∀ w, (zeroValue 0).run P w = .ok (Value.tuple #[]) w
  t3 : P.underlying 3 = some (TypeDesc.int IntKind.i64)
  a3 : ∀ w, (isAgg 3).run P w = .ok false w
  z3 : ∀ w, (Go.sizeOf 3).run P w = .ok 1 w
  v3 : ∀ w, (zeroValue 3).run P w = .ok (Value.int IntKind.i64 0) w
  t4 : P.underlying 4 = some (TypeDesc.bool)
  a4 : ∀ w, (isAgg 4).run P w = .ok false w
  z4 : ∀ w, (Go.sizeOf 4).run P w = .ok 1 w
  v4 : ∀ w, (zeroValue 4).run P w = .ok (Value.bool false) w
  t48 : P.underlying 48 = some (TypeDesc.int IntKind.u64)
  a48 : ∀ w, (isAgg 48).run P w = .ok false w
  z48 : ∀ w, (Go.sizeOf 48).run P w = .ok 1 w
  v48 : ∀ w, (zeroValue 48).run P w = .ok (Value.int IntKind.u64 0) w
  ts : P.underlying sT = some (TypeDesc.slice eT)
  aS : ∀ w, (isAgg sT).run P w = .ok false w
  zs : ∀ w, (Go.sizeOf sT).run P w = .ok 1 w
  vs : ∀ w, (zeroValue sT).run P w = .ok (Value.slice none 0 0) w
  tf : P.underlying fT = some (TypeDesc.func #[eT, eT] #[3] false)
  af : ∀ w, (isAgg fT).run P w = .ok false w
  zf : ∀ w, (Go.sizeOf fT).run P w = .ok 1 w
  vf : ∀ w, (zeroValue fT).run P w = .ok (Value.nilFunc) w
  aE : ∀ w, (isAgg eT).run P w = .ok true w
  zE : ∀ w, (Go.sizeOf eT).run P w = .ok k w
theorem tyP : Ty Tryd.prog 41 33 70 6 := by
  constructor <;> first | kernel_rfl | exact Tryd.underlying0 | exact Tryd.underlying3 | exact Tryd.underlying4 | exact Tryd.underlying48 | exact Tryd.underlying33 | exact Tryd.underlying70 | (intro w; kernel_rfl)
theorem tyC : Ty Tryd.prog 47 28 65 6 := by
  constructor <;> first | kernel_rfl | exact Tryd.underlying0 | exact Tryd.underlying3 | exact Tryd.underlying4 | exact Tryd.underlying48 | exact Tryd.underlying28 | exact Tryd.underlying65 | (intro w; kernel_rfl)

theorem idx_facts (a i N : Nat) (h : a + i < N) (hN : N ≤ 1000000) : ((a : Int) + (i : Int)).toNat = a + i ∧ (0 : Int) ≤ (a : Int) + (i : Int) ∧ (a : Int) + (i : Int) < (N : Int) ∧ IntKind.i64.wrap ((a : Int) + (i : Int)) = (a : Int) + (i : Int) ∧ wrap64 ((a : Int) + (i : Int)) = (a : Int) + (i : Int) :=
  ⟨by omega, by omega, by omega, by rw [IntKind.wrap_i64]; omega, by unfold wrap64; omega⟩
set_option maxHeartbeats 4000000 in
set_option maxRecDepth 1000000 in
theorem swapR57 {P : Program} {z : Nat} (T : Ty P 41 33 70 z) (FG : P.funcs[57]? = some Tryd.f57) (enc : Nat → List Value) (g : Nat) (cb : Array Value) (blk off cap a b n N : Nat) (d0 d : Array Nat) (hN : d.size = N) (w0 w : World) (R : RowK enc z w0 blk off d0) (hs : d0.size = d.size) (S : SWK enc z w0 blk off d w)
    (hab : a + n ≤ b) (hb : b + n ≤ d.size) (hsz : d.size ≤ 1000000) :
    Calls P 57 #[.slice (some ⟨blk, off, none⟩) N cap, .int .i64 a, .int .i64 b, .int .i64 n, .func (.func g) #[] cb] w fun e w' =>
      e = .returned (.tuple #[]) ∧ ∃ d', d'.size = d.size ∧ (∀ k, d'[k]! = d[swR a b n k]!) ∧ SWK enc z w0 blk off d' w' := by
  subst hN
  have S0 : Aside (SWK enc z w0 blk off d w) := S
  have RR : Aside (RowK enc z w0 blk off d0) := R
  clear S R
  obtain ⟨mixed, t0, a0, z0, v0, t3, a3, z3, v3, t4, a4, z4, v4, t48, a48, z48, v48, ts, aS, zs, vs, tf, af, zf, vf, aE, zE⟩ := T
  have us := run_underlying ts
  go_enter FG, Tryd.ntmps57
  go_wp2_with fail
  go_loopg [10] n (fun kx s9 wr => ∃ (i : Nat) (dk : Array Nat), s9 = .int .i64 i ∧ i ≤ n ∧ n - i ≤ kx ∧ dk.size = d.size ∧ Aside (SWK enc z w0 blk off dk wr) ∧ Hid (∀ k, dk[k]! = d[swR a b i k]!))
  case atStart => exact ⟨0, d, rfl, Nat.zero_le _, by omega, rfl, S0, hid (fun k => by rw [swR_zero])⟩
  case round =>
    clear S0
    obtain ⟨i, dk, rfl, hin, hkx, hds, S1, HQ⟩ := hrel
    by_cases hlt : i < n
    · have hltz : (i : Int) < (n : Int) := by omega
      go_wp2_with fail
      have h1 : a + i < dk.size := by omega
      have h2 : b + i < dk.size := by omega
      have h3 : a + i < d.size := by omega
      have h4 : b + i < d.size := by omega
      have h5 : dk.size = d0.size := by omega
      have S2 : Aside (SWK enc z w0 blk off (swp dk (a + i) (b + i)) ((wr.drew.setCells blk (off + (a + i) * z) (enc dk[b + i]!)).setCells blk (off + (b + i) * z) (enc dk[a + i]!))) := S1.out.swapped RR.out (a + i) (b + i) h1 h2
      have la := S1.out.ld1 RR.out h5 P (a + i) h1
      have lb := S1.out.ld1 RR.out h5 P (b + i) h2
      have sa := S1.out.st1 RR.out h5 P (a + i) h1 dk[b + i]!
      have sb := S1.out.st2 RR.out h5 P (a + i) (b + i) h1 h2 dk[b + i]! dk[a + i]!
      have na : (enc dk[a + i]!).length = z := RR.out.hk _
      have nb : (enc dk[b + i]!).length = z := RR.out.hk _
      generalize enc dk[a + i]! = cI at S2 la sb na
      generalize enc dk[b + i]! = cJ at S2 lb sa sb nb
      obtain ⟨eI, pI, bI, rI, wI⟩ := idx_facts a i d.size h3 hsz
      obtain ⟨eJ, pJ, bJ, rJ, wJ⟩ := idx_facts b i d.size h4 hsz
      clear S1
      go_wp2_with fail
      go_big_region_o
      clear la lb sa sb rI wI eI pI bI rJ wJ eJ pJ bJ
      generalize (wr.drew.setCells blk (off + (a + i) * z) cJ).setCells blk (off + (b + i) * z) cI = w2 at S2 ⊢
      go_wp2_with fail
      go_roundg (n - (i + 1))
      case measure => omega
      case rel =>
        exact ⟨i + 1, swp dk (a + i) (b + i), by go_num, by omega, Nat.le_refl _, by rw [size_swp']; exact hds, S2, hid (swR_step dk d a b i (by omega) h2 HQ.out)⟩
    · go_wp2_with fail
      go_end0
      have : i = n := by omega
      subst this
      exact ⟨rfl, dk, hds, HQ.out, S1.out⟩
set_option maxHeartbeats 4000000 in
set_option maxRecDepth 1000000 in
theorem rot55 {P : Program} {z : Nat} (T : Ty P 41 33 70 z) (FG : P.funcs[55]? = some Tryd.f55) (F57 : P.funcs[57]? = some Tryd.f57) (e57 : ∀ args w, (callFunc 57 args).run P w = .ok (.enter 57 args) w) (enc : Nat → List Value) (g : Nat) (cb : Array Value) (blk off cap a m b N : Nat) (d0 d : Array Nat) (hN : d.size = N) (w0 w : World) (R : RowK enc z w0 blk off d0) (hs : d0.size = d.size) (S : SWK enc z w0 blk off d w)
    (ham : a < m) (hmb : m < b) (hb : b ≤ d.size) (hsz : d.size ≤ 1000000) :
    Calls P 55 #[.slice (some ⟨blk, off, none⟩) N cap, .int .i64 a, .int .i64 m, .int .i64 b, .func (.func g) #[] cb] w fun e w' =>
      e = .returned (.tuple #[]) ∧ ∃ d', d'.size = d.size ∧ (∀ k, d'[k]! = d[rot a m b k]!) ∧ SWK enc z w0 blk off d' w' := by
  subst hN
  have S0 : Aside (SWK enc z w0 blk off d w) := S
  have RR : Aside (RowK enc z w0 blk off d0) := R
  have TT : Aside (Ty P 41 33 70 z) := T
  have FF : Aside (P.funcs[57]? = some Tryd.f57) := F57
  obtain ⟨mixed, t0, a0, z0, v0, t3, a3, z3, v3, t4, a4, z4, v4, t48, a48, z48, v48, ts, aS, zs, vs, tf, af, zf, vf, aE, zE⟩ := T
  have us := run_underlying ts
  clear S R F57
  go_enter FG, Tryd.ntmps55
  go_wp2_with fail
  have w1 : wrap64 ((m : Int) - (a : Int)) = ((m - a : Nat) : Int) := by unfold wrap64; omega
  have w2 : wrap64 ((b : Int) - (m : Int)) = ((b - m : Nat) : Int) := by unfold wrap64; omega
  try rw [w1, w2]
  clear w1 w2
  go_loopg [10, 11] (m + b) (fun kx s10 s11 wr => ∃ (i j : Nat) (dk : Array Nat), s10 = .int .i64 i ∧ s11 = .int .i64 j ∧ 0 < i ∧ 0 < j ∧ i ≤ m - a ∧ j ≤ b - m ∧ i + j ≤ kx ∧ dk.size = d.size ∧ Aside (SWK enc z w0 blk off dk wr) ∧ Hid (∀ k, dk[rot (m - i) m (m + j) k]! = d[rot a m b k]!))
  case atStart => exact ⟨m - a, b - m, d, by first | rfl | go_num, by first | rfl | go_num, by omega, by omega, Nat.le_refl _, Nat.le_refl _, by omega, rfl, S0, hid (fun k => by rw [show m - (m - a) = a by omega, show m + (b - m) = b by omega])⟩
  case round =>
    clear S0
    obtain ⟨i, j, dk, rfl, rfl, hi0, hj0, hi, hj, hkx, hds, S1, HQ⟩ := hrel
    have h1 : i ≤ m := by omega
    have h2 : m + j ≤ 1000000 := by omega
    have h3 : d0.size = dk.size := by omega
    have h4 : dk.size ≤ 1000000 := by omega
    by_cases hij : i = j
    · subst hij
      have g1 : m - i + i ≤ m := by omega
      have g2 : m + i ≤ dk.size := by omega
      have E1 := hid (show (m : Int) - (i : Int) = ((m - i : Nat) : Int) by omega)
      go_wp2_with fail
      rw [E1.out]
      refine (swapR57 TT.out FF.out enc g cb blk off cap (m - i) m i d.size d0 dk hds w0 wr RR.out h3 S1.out g1 g2 h4).mono ?_
      rintro e w' ⟨rfl, d', hds', hq, S2⟩
      have HQ2 : Hid (∀ k, d'[k]! = d[rot a m b k]!) := hid (fun k => by rw [hq, rot_same m i k h1]; exact HQ.out k)
      have HS2 := hid S2
      clear hq S2
      go_wp2_with fail
      go_end0
      exact ⟨rfl, d', hds'.trans hds, HQ2.out, HS2.out⟩
    · rcases Nat.lt_or_gt_of_ne hij with hlt | hlt
      · have g1 : m - i + i ≤ m + j - i := by omega
        have g2 : m + j - i + i ≤ dk.size := by omega
        have g3 : ¬ j < i := by omega
        have g4 : ¬ (j : Int) < (i : Int) := by omega
        have g5 : ¬ (i : Int) = (j : Int) := by omega
        have g6 : ((j : Int) - (i : Int)) = ((j - i : Nat) : Int) := by omega
        have G6 := hid g6
        clear g6
        have E1 := hid (show (m : Int) - (i : Int) = ((m - i : Nat) : Int) by omega)
        have E2 := hid (show (m : Int) + (j : Int) - (i : Int) = ((m + j - i : Nat) : Int) by omega)
        go_wp2_with fail
        rw [E1.out, E2.out]
        refine (swapR57 TT.out FF.out enc g cb blk off cap (m - i) (m + j - i) i d.size d0 dk hds w0 wr RR.out h3 S1.out g1 g2 h4).mono ?_
        rintro e w' ⟨rfl, d', hds', hq, S2⟩
        have HQ2 : Hid (∀ k, d'[rot (m - i) m (m + (j - i)) k]! = d[rot a m b k]!) := hid (fun k => by rw [hq, rot_right m i j k hlt h1 hi0]; exact HQ.out k)
        have HS2 := hid S2
        clear hq S2
        go_wp2_with fail
        go_roundg (i + (j - i))
        case measure => omega
        case rel => exact ⟨i, j - i, d', rfl, by rw [G6.out], hi0, by omega, hi, by omega, Nat.le_refl _, by omega, HS2.out, HQ2⟩
      · have g1 : m - i + j ≤ m := by omega
        have g2 : m + j ≤ dk.size := by omega
        have g4 : (j : Int) < (i : Int) := by omega
        have g5 : ¬ (i : Int) = (j : Int) := by omega
        have g6 : ((i : Int) - (j : Int)) = ((i - j : Nat) : Int) := by omega
        have G6 := hid g6
        clear g6
        have E1 := hid (show (m : Int) - (i : Int) = ((m - i : Nat) : Int) by omega)
        go_wp2_with fail
        rw [E1.out]
        refine (swapR57 TT.out FF.out enc g cb blk off cap (m - i) m j d.size d0 dk hds w0 wr RR.out h3 S1.out g1 g2 h4).mono ?_
        rintro e w' ⟨rfl, d', hds', hq, S2⟩
        have HQ2 : Hid (∀ k, d'[rot (m - (i - j)) m (m + j) k]! = d[rot a m b k]!) := hid (fun k => by rw [hq, rot_left m i j k hlt h1 hj0]; exact HQ.out k)
        have HS2 := hid S2
        clear hq S2
        go_wp2_with fail
        go_roundg (i - j + j)
        case measure => omega
        case rel => exact ⟨i - j, j, d', by rw [G6.out], rfl, by omega, hj0, by omega, hj, Nat.le_refl _, by omega, HS2.out, HQ2⟩
end Go.Proofs.YtoadbogfbgediaaDoor
