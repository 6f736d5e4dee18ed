/- DeleteFunc over a row of pairs (no statement of the seat). -/
import Derived.Test.YtoadbogfbgediaaDoorSeenO
import Derived.Test.YtoadbogfbgediaaDoorFew1
import Derived.Laws.CopyRow
namespace Go.Proofs.YtoadbogfbgediaaDoor
open Go.RowKit

/-- A block that holds n pairs one behind the other. -/
structure BlkP (w : World) (b n : Nat) (g : Nat → Pr) : Prop where
  blk : ∃ cs, w.heap[b]? = some (.cells cs 41 (0, 0)) ∧ n * 6 ≤ cs.size ∧ ∀ i, i < n → ∀ j, j < 6 → cs[i * 6 + j]? = (prCells (g i))[j]?
section
variable {w w' : World} {b n : Nat} {g : Nat → Pr}
theorem BlkP.cell (h : BlkP w b n g) (i j : Nat) (hi : i < n) (hj : j < 6) : w.cell? ⟨b, i * 6 + j, none⟩ = (prCells (g i))[j]? := by
  obtain ⟨cs, h1, _, h3⟩ := h.blk
  rw [blk_cell h1]; exact h3 i hi j hj
theorem BlkP.free (h : BlkP w b n g) (k : Nat) : w.frozen? ⟨b, k, none⟩ = false := by
  obtain ⟨cs, h1, _, h3⟩ := h.blk
  exact blk_free h1 k
theorem BlkP.lt (h : BlkP w b n g) : b < w.heap.size := by
  obtain ⟨cs, h1, _, h3⟩ := h.blk
  exact lt_of_block h1
theorem BlkP.upd {S : Nat → Prop} (h : BlkP w b n g) (hu : Upd S w w') (hn : ¬ S b) : BlkP w' b n g := by
  obtain ⟨cs, h1, h2⟩ := h.blk
  exact ⟨cs, hu.blk h1 hn, h2⟩
theorem BlkP.congr {g' : Nat → Pr} (h : BlkP w b n g) (e : ∀ i, i < n → g i = g' i) : BlkP w b n g' := by
  obtain ⟨cs, h1, h2, h3⟩ := h.blk
  exact ⟨cs, h1, h2, fun i hi j hj => by rw [← e i hi]; exact h3 i hi j hj⟩
theorem BlkP.less {m : Nat} (h : BlkP w b n g) (hm : m ≤ n) : BlkP w b m g := by
  obtain ⟨cs, h1, h2, h3⟩ := h.blk
  exact ⟨cs, h1, by omega, fun i hi => h3 i (by omega)⟩
/-- The row with c in place i. -/
abbrev put6 (w : World) (b i : Nat) (c : Pr) : World :=
  (((((w.setCell ⟨b, i * 6, none⟩ (.int .u32 c.f.h)).setCell ⟨b, i * 6 + 1, none⟩ (.int .i64 c.f.p)).setCell ⟨b, i * 6 + 2, none⟩ (.int .u32 c.t.h)).setCell ⟨b, i * 6 + 3, none⟩ (.int .i64 c.t.p)).setCell ⟨b, i * 6 + 4, none⟩ (.int .u64 c.p)).setCell ⟨b, i * 6 + 5, none⟩ (.int .i64 c.s)
theorem BlkP.put (h : BlkP w b n g) (i : Nat) (hi : i < n) (c : Pr) : BlkP (put6 w b i c) b n (fun x => if x = i then c else g x) := by
  obtain ⟨cs, h1, h2, h3⟩ := h.blk
  refine ⟨_, blk_set (blk_set (blk_set (blk_set (blk_set (blk_set h1 _ _) _ _) _ _) _ _) _ _) _ _, by simpa using h2, fun x hx j hj => ?_⟩
  by_cases e : x = i
  · subst e
    rw [if_pos rfl]
    have hj' : j = 0 ∨ j = 1 ∨ j = 2 ∨ j = 3 ∨ j = 4 ∨ j = 5 := by omega
    rcases hj' with rfl | rfl | rfl | rfl | rfl | rfl <;> simp [Array.getElem?_setIfInBounds] <;> omega
  · rw [if_neg e, ← h3 x hx j hj]
    simp only [Array.getElem?_setIfInBounds, Array.size_setIfInBounds]
    rw [if_neg (by omega), if_neg (by omega), if_neg (by omega), if_neg (by omega), if_neg (by omega), if_neg (by omega)]
theorem put6_upd {S : Nat → Prop} (w : World) (b i : Nat) (c : Pr) (hb : S b) : Upd S w (put6 w b i c) :=
  ((((((Upd.refl S w).setCell (fun _ => hb) _).setCell (fun _ => hb) _).setCell (fun _ => hb) _).setCell (fun _ => hb) _).setCell (fun _ => hb) _).setCell (fun _ => hb) _
end

abbrev prK (c : Pr) : Ad × Ad := (c.f, c.t)
/-- The keys of the first j things, each once. -/
def keysOf (ks : Nat → Ad × Ad) : Nat → List (Ad × Ad)
  | 0 => []
  | j + 1 => seenNext (keysOf ks j) (ks j)
theorem mem_keysOf (ks : Nat → Ad × Ad) (k : Ad × Ad) : ∀ j, k ∈ keysOf ks j ↔ ∃ i, i < j ∧ ks i = k := by
  intro j
  induction j with
  | zero => simp [keysOf]
  | succ j ih =>
    have h : k ∈ keysOf ks (j + 1) ↔ k ∈ keysOf ks j ∨ ks j = k := by
      show k ∈ seenNext (keysOf ks j) (ks j) ↔ _
      unfold seenNext
      split
      · rename_i hin
        refine ⟨.inl, fun h => ?_⟩
        rcases h with h | h
        · exact h
        · rw [← h]; exact hin
      · rw [List.mem_append, List.mem_singleton]; exact ⟨fun h => h.imp_right Eq.symm, fun h => h.imp_right Eq.symm⟩
    rw [h, ih]
    constructor
    · rintro (⟨i, hi, e⟩ | e)
      · exact ⟨i, by omega, e⟩
      · exact ⟨j, by omega, e⟩
    · rintro ⟨i, hi, e⟩
      by_cases hij : i = j
      · subst hij; exact .inr e
      · exact .inl ⟨i, by omega, e⟩
/-- Thing j came before. -/
def dup (ks : Nat → Ad × Ad) (j : Nat) : Bool := decide (ks j ∈ keysOf ks j)

/-- What the closure has at hand. -/
structure Hand (n : Nat) (kb sb mb : Nat) (w : World) : Prop where
  k : w.cell? ⟨kb, 0, none⟩ = some (fnv n #[])
  s : w.cell? ⟨sb, 0, none⟩ = some (.map (some mb))
  ne : sb ≠ mb
  nk : kb ≠ mb
theorem Hand.upd {m kb sb mb : Nat} {w w' : World} {S : Nat → Prop} (h : Hand m kb sb mb w) (hu : Upd S w w') (h1 : ¬ S kb) (h2 : ¬ S sb) : Hand m kb sb mb w' := ⟨hu.cell h.k h1, hu.cell h.s h2, h.ne, h.nk⟩
abbrev delP (kb sb : Nat) : Value := fnv 43 #[.pointer (some ⟨kb, 0, none⟩), .pointer (some ⟨sb, 0, none⟩)]

set_option maxHeartbeats 2000000 in
theorem idx44_del (b n cap kb sb mb : Nat) (g : Nat → Pr) (w : World) (hn : n ≤ 1000000) (hB : BlkP w b n g) (hH : Hand 32 kb sb mb w) (hS : Seen mb [] 0 w) (hbm : b ≠ mb) :
    Calls Tryd.prog 44 #[.slice (some ⟨b, 0, none⟩) n cap, delP kb sb] w fun e w' =>
      ∃ r : Int, e = .returned (.int .i64 r) ∧ ((∃ i : Nat, r = i ∧ i < n ∧ dup (fun x => prK (g x)) i = true ∧ (∀ j, j < i → dup (fun x => prK (g x)) j = false) ∧ Seen mb (keysOf (fun x => prK (g x)) (i + 1)) (i + 1) w') ∨
        (r = -1 ∧ ∀ j, j < n → dup (fun x => prK (g x)) j = false)) ∧ Upd (fun k => k = mb) w w' := by
  have HB := hid hB
  have HH := hid hH
  have HS := hid hS
  clear hB hH hS
  go_enter Tryd.func44, Tryd.ntmps44
  go_wp2_with fail
  go_loopw [8] (fun i wr => ∃ k : Nat, k ≤ n ∧ i = .int .i64 k ∧ (∀ j, j < k → dup (fun x => prK (g x)) j = false) ∧ Seen mb (keysOf (fun x => prK (g x)) k) k wr ∧ Upd (fun k => k = mb) w wr) (fun i _ => n - (intOf i).toNat)
  case atStart => exact ⟨0, Nat.zero_le _, rfl, by simp, HS.out, Upd.refl _ _⟩
  case round =>
    obtain ⟨k, hk, rfl, hno, hs, hu⟩ := hrel
    have HU := hid hu
    have HN := hid hno
    have HSE := hid hs
    clear hu hno hs
    by_cases hkn : k < n
    · have hBr := HB.out.upd HU.out hbm
      obtain ⟨⟨⟨a1, a2⟩, ⟨b1, b2⟩, p, s⟩, hg⟩ : ∃ q, g k = q := ⟨_, rfl⟩
      have c0 := hBr.cell k 0 hkn (by omega)
      have c1 := hBr.cell k 1 hkn (by omega)
      have c2 := hBr.cell k 2 hkn (by omega)
      have c3 := hBr.cell k 3 hkn (by omega)
      have c4 := hBr.cell k 4 hkn (by omega)
      have c5 := hBr.cell k 5 hkn (by omega)
      rw [hg] at c0 c1 c2 c3 c4 c5
      replace c0 : wr.cell? ⟨b, k * 6, none⟩ = some (.int .u32 a1) := c0
      replace c1 : wr.cell? ⟨b, k * 6 + 1, none⟩ = some (.int .i64 a2) := c1
      replace c2 : wr.cell? ⟨b, k * 6 + 2, none⟩ = some (.int .u32 b1) := c2
      replace c3 : wr.cell? ⟨b, k * 6 + 3, none⟩ = some (.int .i64 b2) := c3
      replace c4 : wr.cell? ⟨b, k * 6 + 4, none⟩ = some (.int .u64 p) := c4
      replace c5 : wr.cell? ⟨b, k * 6 + 5, none⟩ = some (.int .i64 s) := c5
      have HG := hid hg
      have hHr := HH.out.upd HU.out HH.out.nk HH.out.ne
      have HHR := hid hHr
      clear hg hBr hHr
      go_wp2_with fail
      refine (seenP_any ⟨⟨a1, a2⟩, ⟨b1, b2⟩, p, s⟩ kb sb mb k _ _ HHR.out.k HHR.out.s HSE.out (by omega) (by omega) HHR.out.ne).mono ?_
      rintro e w1 ⟨rfl, hs1, hu1⟩
      have hdup : dup (fun x => prK (g x)) k = decide (((⟨a1, a2⟩, ⟨b1, b2⟩) : Ad × Ad) ∈ keysOf (fun x => prK (g x)) k) := by
        unfold dup; simp only [HG.out]
      have HS1 : Hid (Seen mb (keysOf (fun x => prK (g x)) (k + 1)) (k + 1) w1) := by
        have : prK (g k) = (⟨a1, a2⟩, ⟨b1, b2⟩) := by rw [HG.out]
        refine hid ?_
        rw [keysOf, this]; exact hs1
      have HU1 := hid (HU.out.trans hu1)
      dsimp only
      rw [← hdup]
      clear hs1 hu1 c0 c1 c2 c3 c4 c5 hdup
      cases hd : dup (fun x => prK (g x)) k with
      | true =>
        have HD := hid hd
        clear hd
        go_wp2_with fail
        go_ret
        exact ⟨k, rfl, .inl ⟨k, rfl, hkn, HD.out, HN.out, HS1.out⟩, HU1.out⟩
      | false =>
        have HD := hid hd
        clear hd
        go_wp2_with fail
        refine ⟨⟨k + 1, by omega, by go_num, fun j hj => ?_, HS1.out, HU1.out⟩, by simp [intOf]; omega⟩
        by_cases hjk : j = k
        · subst hjk; exact HD.out
        · exact HN.out j (by omega)
    · have hkn' : k = n := by omega
      subst hkn'
      go_wp2_with fail
      go_ret
      exact ⟨-1, rfl, .inr ⟨rfl, HN.out⟩, HU.out⟩
end Go.Proofs.YtoadbogfbgediaaDoor
