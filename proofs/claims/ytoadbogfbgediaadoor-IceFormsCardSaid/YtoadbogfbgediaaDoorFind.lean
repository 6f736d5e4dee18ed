/- find, Next and Best over a row of pairs (no statement of the seat). -/
import Derived.Test.YtoadbogfbgediaaDoorFew1
namespace Go.Proofs.YtoadbogfbgediaaDoor
open Go.RowKit

/-- Pairs of a slice, one by one. -/
structure SrcP (w : World) (A : Option Addr) (n : Nat) (g : Nat → Pr) : Prop where
  max : n ≤ 9223372036854775807
  at_ : ∀ i, i < n → ∃ b, A = some ⟨b, 0, none⟩ ∧ b < w.heap.size ∧ w.cell? ⟨b, i * 6, none⟩ = some (.int .u32 (g i).f.h) ∧ w.cell? ⟨b, i * 6 + 1, none⟩ = some (.int .i64 (g i).f.p) ∧
    w.cell? ⟨b, i * 6 + 2, none⟩ = some (.int .u32 (g i).t.h) ∧ w.cell? ⟨b, i * 6 + 3, none⟩ = some (.int .i64 (g i).t.p) ∧ w.cell? ⟨b, i * 6 + 4, none⟩ = some (.int .u64 (g i).p) ∧ w.cell? ⟨b, i * 6 + 5, none⟩ = some (.int .i64 (g i).s)
theorem SrcP.upd {w w' : World} {A : Option Addr} {n : Nat} {g : Nat → Pr} (h : SrcP w A n g) (hu : Upd (fun _ => False) w w') : SrcP w' A n g :=
  ⟨h.max, fun i hi => by
    obtain ⟨b, ha, hb, h0, h1, h2, h3, h4, h5⟩ := h.at_ i hi
    exact ⟨b, ha, Nat.lt_of_lt_of_le hb hu.size, hu.cell h0 (fun h => h), hu.cell h1 (fun h => h), hu.cell h2 (fun h => h), hu.cell h3 (fun h => h), hu.cell h4 (fun h => h), hu.cell h5 (fun h => h)⟩⟩
def FindR (g : Nat → Pr) (n : Nat) (st : Int) (r : Int) : Prop :=
  (∃ i : Nat, i < n ∧ r = i ∧ (g i).s = st ∧ ∀ j, j < i → (g j).s ≠ st) ∨ (r = -1 ∧ ∀ j, j < n → (g j).s ≠ st)

theorem clo45_any (c : Pr) (sb : Nat) (st : Int) (w : World) (h : w.cell? ⟨sb, 0, none⟩ = some (.int .i64 st)) :
    Calls Tryd.prog 45 #[c.v, .pointer (some ⟨sb, 0, none⟩)] w fun e w' => e = .returned (.bool (c.s == st)) ∧ Upd (fun _ => False) w w' := by
  obtain ⟨⟨a1, a2⟩, ⟨b1, b2⟩, p, s⟩ := c
  have h1 : ∀ o, (w.alloc o).cell? ⟨sb, 0, none⟩ = some (.int .i64 st) := fun o => ((Upd.refl (fun _ => False) w).alloc o).cell h (fun h => h)
  clear h
  go_enter Tryd.func45, Tryd.ntmps45
  go_wp2_with fail
  go_ret
  exact ⟨rfl, (Upd.refl _ _).alloc _⟩

set_option maxHeartbeats 2000000 in
theorem idx44_find (A : Option Addr) (n cap : Nat) (g : Nat → Pr) (sb : Nat) (st : Int) (w : World) (h : SrcP w A n g) (hs : w.cell? ⟨sb, 0, none⟩ = some (.int .i64 st)) :
    Calls Tryd.prog 44 #[.slice A n cap, fnv 45 #[.pointer (some ⟨sb, 0, none⟩)]] w fun e w' => ∃ r : Int, e = .returned (.int .i64 r) ∧ FindR g n st r ∧ Upd (fun _ => False) w w' := by
  have HS := hid h
  have HB := hid hs
  have hmax := h.max
  clear h hs
  go_enter Tryd.func44, Tryd.ntmps44
  go_wp2_with fail
  go_loopw [8] (fun i wr => ∃ k : Nat, k ≤ n ∧ i = .int .i64 k ∧ (∀ j, j < k → (g j).s ≠ st) ∧ Upd (fun _ => False) w wr) (fun i _ => n - (intOf i).toNat)
  case atStart => exact ⟨0, Nat.zero_le _, rfl, by simp, Upd.refl _ _⟩
  case round =>
    obtain ⟨k, hk, rfl, hno, hu⟩ := hrel
    have HU := hid hu
    have HN := hid hno
    clear hu hno
    by_cases hkn : k < n
    · obtain ⟨b, ha, hb, h0, h1, h2, h3, h4, h5⟩ := (HS.out.upd HU.out).at_ k hkn
      subst ha
      obtain ⟨⟨⟨a1, a2⟩, ⟨b1, b2⟩, p, s⟩, hg⟩ : ∃ q, g k = q := ⟨_, rfl⟩
      have HG := hid hg
      rw [hg] at h0 h1 h2 h3 h4 h5
      dsimp only at h0 h1 h2 h3 h4 h5
      clear hg
      go_wp2_with fail
      refine (clo45_any ⟨⟨a1, a2⟩, ⟨b1, b2⟩, p, s⟩ sb st _ (HU.out.cell HB.out (fun h => h))).mono ?_
      rintro e w1 ⟨rfl, hu1⟩
      have HU1 : Hid (Upd (fun _ => False) w w1) := hid (HU.out.trans hu1)
      clear hu1 h0 h1 h2 h3 h4 h5
      by_cases hst : s = st
      · have kst : (s == st) = true := by simp [hst]
        have HST := hid hst
        clear hst
        dsimp only
        rw [kst]
        go_wp2_with fail
        go_ret
        exact ⟨k, rfl, .inl ⟨k, hkn, rfl, by rw [HG.out]; exact HST.out, HN.out⟩, HU1.out⟩
      · have kst : (s == st) = false := by simp [hst]
        have HST := hid hst
        clear hst
        dsimp only
        rw [kst]
        go_wp2_with fail
        refine ⟨⟨k + 1, by omega, by go_num, fun j hj => ?_, HU1.out⟩, by simp [intOf]; omega⟩
        by_cases hjk : j = k
        · subst hjk; rw [HG.out]; exact HST.out
        · exact HN.out j (by omega)
    · have hkn' : k = n := by omega
      subst hkn'
      go_wp2_with fail
      go_ret
      exact ⟨-1, rfl, .inr ⟨rfl, HN.out⟩, HU.out⟩

theorem find33_any (A : Option Addr) (n cap : Nat) (g : Nat → Pr) (st : Int) (w : World) (h : SrcP w A n g) :
    Calls Tryd.prog 33 #[.slice A n cap, .int .i64 st] w fun e w' => ∃ r : Int, e = .returned (.int .i64 r) ∧ FindR g n st r ∧ Upd (fun _ => False) w w' := by
  have HS := hid h
  clear h
  go_enter Tryd.func33, Tryd.ntmps33
  go_wp2_with fail
  refine (idx44_find A n cap g w.heap.size st _ (HS.out.upd ((Upd.refl _ w).alloc _)) ((blk_cell (heap_alloc_new w (.cells #[.int .i64 st] 3)) 0).trans rfl)).mono ?_
  rintro e w1 ⟨r, rfl, hr, hu⟩
  have HR := hid hr
  have HU := hid hu
  clear hr hu
  go_wp2_with fail
  go_ret
  exact ⟨r, rfl, HR.out, ((Upd.refl _ w).alloc _).trans HU.out⟩

def NextR (g : Nat → Pr) (n : Nat) (r : Int) : Prop := ∃ r1, FindR g n 1 r1 ∧ ((0 ≤ r1 ∧ r = r1) ∨ (r1 < 0 ∧ FindR g n 4 r))
theorem next23_any (A : Option Addr) (n cap : Nat) (g : Nat → Pr) (w : World) (h : SrcP w A n g) :
    Calls Tryd.prog 23 #[.slice A n cap] w fun e w' => ∃ r : Int, e = .returned (.int .i64 r) ∧ NextR g n r ∧ Upd (fun _ => False) w w' := by
  have HS := hid h
  clear h
  go_enter Tryd.func23, Tryd.ntmps23
  go_wp2_with fail
  refine (find33_any A n cap g 1 _ HS.out).mono ?_
  rintro e w1 ⟨r, rfl, hr, hu⟩
  have HR := hid hr
  have HU := hid hu
  clear hr hu
  rcases Int.lt_or_le r 0 with h0 | h0
  · go_wp2_with fail
    refine (find33_any A n cap g 4 _ (HS.out.upd HU.out)).mono ?_
    rintro e w2 ⟨r2, rfl, hr2, hu2⟩
    have HR2 := hid hr2
    have HU2 := hid (HU.out.trans hu2)
    clear hr2 hu2
    go_wp2_with fail
    go_ret
    exact ⟨r2, rfl, ⟨r, HR.out, .inr ⟨h0, HR2.out⟩⟩, HU2.out⟩
  · go_wp2_with fail
    go_ret
    exact ⟨r, rfl, ⟨r, HR.out, .inl ⟨h0, rfl⟩⟩, HU.out⟩
theorem best25_any (A : Option Addr) (n cap : Nat) (g : Nat → Pr) (w : World) (h : SrcP w A n g) :
    Calls Tryd.prog 25 #[.slice A n cap] w fun e w' => ∃ r : Int, e = .returned (.int .i64 r) ∧ FindR g n 3 r ∧ Upd (fun _ => False) w w' := by
  have HS := hid h
  clear h
  go_enter Tryd.func25, Tryd.ntmps25
  go_wp2_with fail
  refine (find33_any A n cap g 3 _ HS.out).mono ?_
  rintro e w1 ⟨r, rfl, hr, hu⟩
  have HR := hid hr
  have HU := hid hu
  clear hr hu
  go_wp2_with fail
  go_ret
  exact ⟨r, rfl, HR.out, HU.out⟩
end Go.Proofs.YtoadbogfbgediaaDoor
