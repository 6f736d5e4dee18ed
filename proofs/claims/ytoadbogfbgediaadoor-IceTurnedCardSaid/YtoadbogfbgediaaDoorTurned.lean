/- The walk of IceTurned (no statement of the seat). -/
import Derived.Test.YtoadbogfbgediaaDoorWhole
import Derived.Test.YtoadbogfbgediaaDoorOrder
import Derived.Test.YtoadbogfbgediaaDoorCopy
import Derived.Test.YtoadbogfbgediaaDoorGathS
import Derived.Test.YtoadbogfbgediaaDoorTurnT
namespace Go.Proofs.YtoadbogfbgediaaDoor
open Go.RowKit
theorem min_cut3 (n cap : Nat) (h : n ≤ cap) : (min (n : Int) 3).toNat = min n 3 ∧ ((min (n : Int) 3) ≤ (cap : Int)) ∧ (0 ≤ min (n : Int) 3) := by omega
/-- The first k with their own address as base. -/
def based (f : Nat → Ca) (k x : Nat) : Ca := if x < k then ⟨(f x).k, (f x).a, (f x).a, (f x).p⟩ else f x
theorem based_zero (f : Nat → Ca) (x : Nat) : f x = based f 0 x := by simp [based]
theorem based_in (f : Nat → Ca) (N x : Nat) (h : x < N) : based f N x = ⟨(f x).k, (f x).a, (f x).a, (f x).p⟩ := by simp [based, h]
abbrev put2B (w : World) (b i : Nat) (a : Ad) : World := (w.setCell ⟨b, i * 6 + 3, none⟩ (.int .u32 a.h)).setCell ⟨b, i * 6 + 3 + 1, none⟩ (.int .i64 a.p)
theorem BlkC.base {w : World} {b n k : Nat} {f : Nat → Ca} (h : BlkC w b n (based f k)) (hk : k < n) : BlkC (put2B w b k (f k).a) b n (based f (k + 1)) := by
  obtain ⟨cs, h1, h2, h3⟩ := h.blk
  refine ⟨_, blk_set (blk_set h1 _ _) _ _, by simpa using h2, fun x hx j hj => ?_⟩
  have h4 := h3 x hx j hj
  by_cases e : x = k
  · subst e
    rw [based_in f (x + 1) x (by omega)]
    have eb : based f x x = f x := by simp [based]
    rw [eb] at h4
    have hj' : j = 0 ∨ j = 1 ∨ j = 2 ∨ j = 3 ∨ j = 4 ∨ j = 5 := by omega
    rcases hj' with rfl | rfl | rfl | rfl | rfl | rfl
    · simp only [Array.getElem?_setIfInBounds, Array.size_setIfInBounds]; rw [if_neg (by omega), if_neg (by omega)]; exact h4
    · simp only [Array.getElem?_setIfInBounds, Array.size_setIfInBounds]; rw [if_neg (by omega), if_neg (by omega)]; exact h4
    · simp only [Array.getElem?_setIfInBounds, Array.size_setIfInBounds]; rw [if_neg (by omega), if_neg (by omega)]; exact h4
    · simp [Array.getElem?_setIfInBounds]; omega
    · simp [Array.getElem?_setIfInBounds]; omega
    · simp only [Array.getElem?_setIfInBounds, Array.size_setIfInBounds]; rw [if_neg (by omega), if_neg (by omega)]; exact h4
  · have eb : based f (k + 1) x = based f k x := by
      unfold based
      by_cases hx : x < k
      · rw [if_pos hx, if_pos (by omega)]
      · rw [if_neg hx, if_neg (by omega)]
    rw [eb, ← h4]
    simp only [Array.getElem?_setIfInBounds, Array.size_setIfInBounds]
    rw [if_neg (by omega), if_neg (by omega)]
theorem put2B_upd {S : Nat → Prop} (w : World) (b i : Nat) (a : Ad) (hb : S b) : Upd S w (put2B w b i a) :=
  ((Upd.refl S w).setCell (fun _ => hb) _).setCell (fun _ => hb) _
set_option maxRecDepth 100000 in
set_option maxHeartbeats 4000000 in
set_option pp.maxSteps 200000 in
set_option pp.deepTerms true in
theorem turned6_any (bm : Nat) (es : Array MapEntry) (clock : Nat) (A : Option Addr) (n ca : Nat) (f : Nat → Ca) (B : Option Addr) (m cb : Nat) (g : Nat → Ca) (w : World) (hK : Kin bm es clock w) (hca : n ≤ ca) (hA : SrcC w A n f) (hcb : m ≤ cb) (hB : SrcC w B m g) :
    Calls Tryd.prog 6 #[.slice A n ca, .slice B m cb] w fun e w' => e = .returned (.bool true) ∧ Upd (fun _ => False) w w' := by
  have HK := hid hK
  have HA := hid hA
  have HB := hid hB
  clear hK hA hB
  go_enter Tryd.func6, Tryd.ntmps6
  go_wp2_with fail
  refine (shown12_any bm es clock w HK.out).mono ?_
  rintro e w1 ⟨rfl, hu⟩
  have HU1 := hid hu
  clear hu
  obtain ⟨q1, q2, q3⟩ := min_cut3 n ca hca
  obtain ⟨q4, q5, q6⟩ := min_cut3 m cb hcb
  have hA1 := hid ((HA.out.upd HU1.out).less (show min n 3 ≤ n by omega))
  have HB1 := hid ((HB.out.upd HU1.out).less (show min m 3 ≤ m by omega))
  have hN3 : min n 3 ≤ 3 := by omega
  have hM3 : min m 3 ≤ 3 := by omega
  go_wp2_with (first
    | (at_builtin; refine app_copy rfl _ _ rfl A (min n 3) ca f rfl rfl (Nat.le_trans hN3 (by decide)) hA1.out ?_; intro g1 c1 w2 hrow4 hu4 hlt4; have HR2 := hid hrow4; have HU2 := hid (HU1.out.trans hu4); have HG2 := hid hlt4; have HB2 := hid (HB1.out.upd hu4); clear hrow4 hu4 hlt4)
    | (at_builtin; refine app_copy rfl _ _ rfl B (min m 3) cb g rfl rfl (Nat.le_trans hM3 (by decide)) HB2.out ?_; intro g2 c2 w3 hrow4 hu4 hlt4; have HS3 := hid hrow4; have HU3 := hid (HU2.out.trans hu4); have HG3 := hid hlt4; have HR3 := hid (HR2.out.upd hu4 (fun h => h)); have HL3 := hid (HR2.out.lt); clear hrow4 hu4 hlt4))
  have HOA := hid hA1.out.ok
  have HOB := hid HB1.out.ok
  obtain ⟨N, hN⟩ : ∃ N, min n 3 = N := ⟨_, rfl⟩
  obtain ⟨M, hM⟩ : ∃ M, min m 3 = M := ⟨_, rfl⟩
  have hgne : g1 ≠ g2 := by have := HL3.out; have := HG3.out; omega
  have hg1n : w.heap.size ≤ g1 := Nat.le_trans HU1.out.size HG2.out
  have hg2n : w.heap.size ≤ g2 := Nat.le_trans HU2.out.size HG3.out
  rw [hN] at hN3 HR3 HR2 hA1 HOA ⊢
  rw [hM] at hM3 HS3 HB1 HB2 HOB ⊢
  clear q1 q2 q3 q4 q5 q6 hN hM HR2 HB1 HB2 hA1 HA HB
  go_loopw [6] (fun i wr => ∃ k : Nat, k ≤ N ∧ i = .int .i64 k ∧ BlkC wr g1 N (based f k) ∧ BlkC wr g2 M g ∧ Upd (fun _ => False) w wr) (fun i _ => N - (intOf i).toNat)
  case atStart => exact ⟨0, Nat.zero_le _, rfl, HR3.out.congr (fun x _ => by simp [based]), HS3.out, HU3.out⟩
  case round =>
    obtain ⟨k, hk, rfl, hb1, hb2, hu⟩ := hrel
    have HB1 := hid hb1
    have HB2 := hid hb2
    have HU := hid hu
    clear hb1 hb2 hu
    by_cases hkN : k < N
    · have eb : based f k k = f k := by simp [based]
      have p1 := HB1.out.cell k 1 hkN (by decide)
      have p2 := HB1.out.cell k 2 hkN (by decide)
      have p3 := HB1.out.cell k 3 hkN (by decide)
      have p4 := HB1.out.cell k 4 hkN (by decide)
      have r3 := HB1.out.free (k * 6 + 3)
      have r4 := HB1.out.free (k * 6 + 4)
      rw [eb] at p1 p2 p3 p4
      obtain ⟨⟨xk, ⟨x1, x2⟩, ⟨x3, x4⟩, xp⟩, hfx⟩ : ∃ q, f k = q := ⟨_, rfl⟩
      rw [hfx] at p1 p2 p3 p4
      replace p1 : wr.cell? ⟨g1, k * 6 + 1, none⟩ = some (.int .u32 x1) := p1
      replace p2 : wr.cell? ⟨g1, k * 6 + 2, none⟩ = some (.int .i64 x2) := p2
      replace p3 : wr.cell? ⟨g1, k * 6 + 3, none⟩ = some (.int .u32 x3) := p3
      replace p4 : wr.cell? ⟨g1, k * 6 + 4, none⟩ = some (.int .i64 x4) := p4
      have HFX := hid hfx
      clear hfx eb
      go_wp2_with fail
      have hc1 := HB1.out.base hkN
      have hc2 := HB2.out.upd (put2B_upd (S := fun q => q = g1) wr g1 k (f k).a rfl) (fun h => hgne h.symm)
      have hc3 : Upd (fun _ => False) w (put2B wr g1 k (f k).a) := HU.out.then_ (put2B_upd (S := fun q => q = g1) wr g1 k (f k).a rfl) (fun q hq h => by omega)
      rw [HFX.out] at hc1 hc2 hc3
      exact ⟨⟨k + 1, by omega, by go_num, hc1, hc2, hc3⟩, by simp [intOf]; omega⟩
    · have : k = N := by omega
      subst this
      clear hkN hk HR3 HS3 HU3
      go_wp2_with fail
      go_loopw [7] (fun i wx => ∃ j : Nat, j ≤ M ∧ i = .int .i64 j ∧ BlkC wx g2 M (based g j) ∧ BlkC wx g1 k (based f k) ∧ Upd (fun _ => False) w wx) (fun i _ => M - (intOf i).toNat)
      case atStart => exact ⟨0, Nat.zero_le _, rfl, HB2.out.congr (fun x _ => based_zero g x), HB1.out, HU.out⟩
      case round =>
        clear HB1 HB2 HU
        obtain ⟨j, hj, rfl, hb2, hb1, hu⟩ := hrel
        have HB1 := hid hb1
        have HB2 := hid hb2
        have HU := hid hu
        clear hb1 hb2 hu
        by_cases hjM : j < M
        · have eb : based g j j = g j := by simp [based]
          have p1 := HB2.out.cell j 1 hjM (by decide)
          have p2 := HB2.out.cell j 2 hjM (by decide)
          have p3 := HB2.out.cell j 3 hjM (by decide)
          have p4 := HB2.out.cell j 4 hjM (by decide)
          have r3 := HB2.out.free (j * 6 + 3)
          have r4 := HB2.out.free (j * 6 + 4)
          rw [eb] at p1 p2 p3 p4
          obtain ⟨⟨xk, ⟨x1, x2⟩, ⟨x3, x4⟩, xp⟩, hfx⟩ : ∃ q, g j = q := ⟨_, rfl⟩
          rw [hfx] at p1 p2 p3 p4
          replace p1 : wr.cell? ⟨g2, j * 6 + 1, none⟩ = some (.int .u32 x1) := p1
          replace p2 : wr.cell? ⟨g2, j * 6 + 2, none⟩ = some (.int .i64 x2) := p2
          replace p3 : wr.cell? ⟨g2, j * 6 + 3, none⟩ = some (.int .u32 x3) := p3
          replace p4 : wr.cell? ⟨g2, j * 6 + 4, none⟩ = some (.int .i64 x4) := p4
          have HFX := hid hfx
          clear hfx eb
          go_wp2_with fail
          have hc1 := HB2.out.base hjM
          have hc2 := HB1.out.upd (put2B_upd (S := fun q => q = g2) wr g2 j (g j).a rfl) hgne
          have hc3 : Upd (fun _ => False) w (put2B wr g2 j (g j).a) := HU.out.then_ (put2B_upd (S := fun q => q = g2) wr g2 j (g j).a rfl) (fun q hq h => by omega)
          rw [HFX.out] at hc1 hc2 hc3
          exact ⟨⟨j + 1, by omega, by go_num, hc1, hc2, hc3⟩, by simp [intOf]; omega⟩
        · have : j = M := by omega
          subst this
          clear hjM hj
          go_wp2_with fail
          have hSA := HB1.out.src (by omega) (fun x hx => by rw [based_in f k x hx]; exact HOA.out x hx)
          have hSB := HB2.out.src (by omega) (fun x hx => by rw [based_in g j x hx]; exact HOB.out x hx)
          refine (form20_whole (some ⟨g1, 0, none⟩) (some ⟨g2, 0, none⟩) k j c1 c2 (based f k) (based g j) _ hSA hSB hN3 hM3).mono ?_
          rintro e w4 ⟨RA, LA, capA, ha, rfl, hRA, hWA, hu4⟩
          have HRA := hid hRA
          have HWA := hid hWA
          have HSA := hid (hSA.upd hu4)
          have HSB := hid (hSB.upd hu4)
          have HU4 := hid (HU.out.trans hu4)
          clear hRA hWA hSA hSB hu4 HB1 HB2 HU
          go_upto_region 13 with (fail)
          go_cut [9] from 61 (fun x wx => ∃ (RB : Option Addr) (capB : Nat) (hb : Nat → Pr), x = .slice RB LA capB ∧ Hid (SrcP wx RA LA ha) ∧ Hid (SrcP wx RB LA hb) ∧ LA ≤ 16 ∧ Hid (∀ x, x < LA → ∃ y, y < LA ∧ (ha x).f = (hb y).t ∧ (ha x).t = (hb y).f ∧ (ha x).p / 2 = (hb y).p / 2) ∧ Hid (Upd (fun _ => False) w wx))
          case first =>
            go_wp2_with fail
            refine (form20_whole (some ⟨g2, 0, none⟩) (some ⟨g1, 0, none⟩) j k c2 c1 (based g j) (based f k) _ HSB.out HSA.out hM3 hN3).mono ?_
            rintro e w5 ⟨RB, LB, capB, hb, rfl, hRB, hWB, hu5⟩
            have hTL := turned_len (fun i hi => by rw [based_in f k i hi]) (fun i hi => by rw [based_in g j i hi]) HWA.out hWB
            have HT := hid (turned (fun i hi => by rw [based_in f k i hi]) (fun i hi => by rw [based_in g j i hi]) HWA.out hWB)
            have hL16 := HWA.out.form.most_
            subst hTL
            have HRA := hid (HRA.out.upd hu5)
            have HRB := hid hRB
            have HU5 := hid (HU4.out.trans hu5)
            clear hRB hWB hu5 HU4 HSA HSB HWA
            go_wp2_with fail
            go_meet
            exact ⟨RB, capB, hb, rfl, HRA, HRB, hL16, HT, HU5⟩
          case rest =>
            obtain ⟨RB, capB, hb, rfl, h1, h2, h3, h4, h5⟩ := hcut
            refine (show ∀ x y, Code.wp Tryd.prog tail14 _ x y → _ by assumption) _ _ ?_
            exact tail14_6 RA RB LA capA capB ha hb w _ h1 h2 h3 h4 h5 _ _ _ _ _ _ _ _ _ _ _ _ _ _ _ _ _ _ _ _ _ _ _ _ _ _ _ _ _ _ _ _ _ _ _ _ _ _ _ _ _ _ _ _ _ _ _ _ _ _ _ _ _ _ _ _ _ _ _ _ _ _ _ _ _ _ _ _ _ _ _ _ _ _ _ _ _ _ _ _ _ _ _ _ _ _ _ _ _ _ _ _ _ _ _ _ _ _ _ _ _ _ _ _ _ _ _ _ _ _ _ _ _ _ _ _ _ _ _ _ _ _
end Go.Proofs.YtoadbogfbgediaaDoor
