/- The walk of WindowTells (no statement of the seat). -/
import Derived.Test.YtgfpmonfdplalaaWalkB
import Derived.Test.YtgfpmonfdplalaaSrc
import Derived.Test.YtgfpmonfdplalaaRef
namespace Go.Proofs.Ytgfpmonfdplalaa
open Go.RowKit

theorem RefW.upd {g base : Nat} {L : List Nat} {S : Nat → Prop} {w w' : World} (h : RefW g base L w) (hu : Upd S w w') (hn : ¬ S g) (hb : ∀ k, base ≤ k → k < w.heap.size → ¬ S k) : RefW g base L w' := by
  obtain ⟨v, h1, h2⟩ := h
  exact ⟨v, hu.blk h1 hn, hu.row h2 (fun k hk => hb k (World.ownsRow.lt h2 k hk).1 (World.ownsRow.lt h2 k hk).2)⟩

set_option maxHeartbeats 2000000 in
theorem ref_take (g base : Nat) (L : List Nat) (n : Nat) (w : World) (h : RefW g base L w) (hg : g < base) (hbase : base ≤ w.heap.size) (hlen : L.length ≤ 1000) (hL : ∀ m, m ∈ L → m < 18446744073709551616) (hn : n < 18446744073709551616) :
    Calls Try.prog 10 #[.pointer (some ⟨g, 0, none⟩), .int .u64 n] w fun e w' => e = .returned (.bool (freshB L n)) ∧ RefW g base (takeL L n) w' ∧ Upd (fun k => k = g ∨ base ≤ k) w w' := by
  have HFR := hid (ref_fresh g base L n w h (by omega) hL hn)
  have HR := hid h
  cases hf : freshB L n with
  | false =>
    rw [hf] at HFR
    have HT := hid (takeL_no hf)
    clear hf h hL
    go_enter Try.func10, Try.ntmps10
    go_wp2_with fail
    refine HFR.out.mono ?_
    rintro e w' ⟨rfl, nd, rfl⟩
    go_wp2_with fail
    go_ret
    exact ⟨rfl, by rw [HT.out]; exact HR.out, (Upd.refl _ w).drewN nd⟩
  | true =>
    rw [hf] at HFR
    have HT := hid (takeL_yes hf)
    clear hf hL
    obtain ⟨v, hb, hr⟩ := h
    go_enter Try.func10, Try.ntmps10
    go_wp2_with fail
    refine HFR.out.mono ?_
    rintro e w' ⟨rfl, nd, rfl⟩
    obtain ⟨w2, hw2⟩ : ∃ w2, w.drewN nd = w2 := ⟨_, rfl⟩
    have c1 : w2.cell? ⟨g, 0, none⟩ = some v := by rw [← hw2]; exact (blk_cell hb 0).trans rfl
    have hr2 : w2.ownsRow base 23 1 v L.length (words L) := by rw [← hw2]; exact hr
    have hb2 : w2.heap[g]? = some (.cells #[v] 30 (0, 0)) := by rw [← hw2]; exact hb
    have hs2 : base ≤ w2.heap.size := by rw [← hw2]; exact hbase
    have HU := hid (show Upd (fun k => k = g ∨ base ≤ k) w w2 by rw [← hw2]; exact (Upd.refl _ w).drewN nd)
    rw [hw2]
    have HB := hid hb2
    have HRW := hid hr2
    clear hw2 hb hr hb2 hr2
    have HNE : Hid (∀ k, v.ownBlock = some k → base ≤ k) := hid (fun k hk => (World.ownsRow.lt HRW.out k hk).1)
    have HK : Hid (∀ w4, Upd (fun k => v.ownBlock = some k) w2 w4 → w4.heap[g]? = some (.cells #[v] 30 (0, 0))) :=
      hid (fun w4 hu4 => hu4.blk HB.out (fun e => by have := HNE.out g e; omega))
    go_wp2_with (at_builtin; refine wpList_app rfl _ _ rfl base v _ _ rfl HRW.out _ rfl rfl (by omega) hs2 ?_; intro g4 c4 w4 hrow4 hu4; have HB4 := hid (HK.out _ hu4); have hc4 : w4.cell? ⟨g, 0, none⟩ = some v := (blk_cell HB4.out 0).trans rfl; have hf4 : w4.frozen? ⟨g, 0, none⟩ = false := blk_free HB4.out 0; have HROW := hid hrow4; have HU4 := hid hu4; clear hrow4 hu4)
    go_ret
    refine ⟨rfl, ?_, ?_⟩
    · rw [HT.out]
      have e : words (L ++ [n]) = words L ++ [.int .u64 ((n : Nat) : Int)] := by simp [words]
      have hrow : w4.ownsRow base 23 1 (.slice (some ⟨g4, 0, none⟩) (L.length + 1) c4) (L ++ [n]).length (words (L ++ [n])) := by
        rw [e, List.length_append]; exact HROW.out
      refine ⟨_, (blk_set HB4.out 0 _).trans rfl, ?_⟩
      exact ((Upd.refl (· = g) w4).setCell (p := ⟨g, 0, none⟩) (fun _ => rfl) _).row hrow (fun k hk e => by have := (World.ownsRow.lt hrow k hk).1; omega)
    · exact (HU.out.then_ HU4.out (fun k _ hk => .inr (HNE.out k hk))).setCell (p := ⟨g, 0, none⟩) (fun _ => .inl rfl) _

def TellsRel (w : World) (g len0 : Nat) (i : Value) (wr : World) : Prop :=
  ∃ (k : Nat) (L : List Nat), k ≤ len0 ∧ k ≤ 100 ∧ i = .int .i64 k ∧ Win g L wr ∧ RefW (g + 1) (g + 2) L wr ∧ L.length ≤ k ∧ (∀ m, m ∈ L → m < 18446744073709551616) ∧ Upd (fun _ => False) w wr

theorem takeL_len (L : List Nat) (n : Nat) : (takeL L n).length ≤ L.length + 1 := by
  unfold takeL; split <;> simp

set_option maxRecDepth 100000 in
set_option maxHeartbeats 2000000 in
theorem tells_walk (q : Nat) (a0 : Option Addr) (len0 cap0 : Nat) (f : Nat → Nat) (w : World) (hq : q < 18446744073709551616) (hs : Src .u64 18446744073709551616 w a0 len0 f) :
    Calls Try.prog 3 #[.slice a0 len0 cap0, .int .u64 q] w fun e w' => e = .returned (.bool true) ∧ Below w.heap.size w w' := by
  have HS := hid hs
  have hmax := hs.max
  clear hs
  go_enter Try.func3, Try.ntmps3
  go_wp2_with fail
  refine (shown_any _).mono ?_
  rintro e w1 ⟨rfl, hu⟩
  have HU := hid hu
  clear hu
  have hsz := HU.out.size
  go_wp2_with fail
  go_loopw [8] (fun i wr => TellsRel w w1.heap.size len0 i wr) (fun i _ => len0 - (intOf i).toNat)
  case atStart =>
    refine ⟨0, [], Nat.zero_le _, by omega, rfl, (Win.new w1).upd ((Upd.refl (fun _ => False) _).alloc _) (fun h => h), ⟨.slice none 0 0, ?_, World.ownsRow_nil _ _ _ _⟩, Nat.le_refl _, by simp, (HU.out.alloc _).alloc _⟩
    simpa using heap_alloc_new (w1.alloc (.cells #[.int .u64 0, .int .u64 0] 27)) (.cells #[.slice none 0 0] 30)
  case round =>
    obtain ⟨k, L, hk, hk80, rfl, hw, hr, hlen, hL, hu⟩ := hrel
    have HU2 := hid hu
    have HR := hid hr
    have HL := hid hL
    clear hu hr hL
    by_cases hlt : k < len0 ∧ k < 100
    · obtain ⟨b, off, ha, hb, hc⟩ := (HS.out.upd HU2.out (fun _ _ h => h)).at_ k hlt.1
      obtain ⟨b', off', ha', hbw, _⟩ := HS.out.at_ k hlt.1
      have hf := HS.out.lt k hlt.1
      subst ha
      obtain ⟨rfl, rfl⟩ : b = b' ∧ off = off' := by simpa using ha'
      have k1 : decide (k < len0) = true := decide_eq_true hlt.1
      have k3 := hlt.1
      have k4 := hlt.2
      clear hlt ha'
      go_wp2_with fail
      have hgsz : w1.heap.size + 1 < wr.heap.size := by obtain ⟨_, h1, _⟩ := HR.out; exact lt_of_block h1
      refine (take_winZ _ L _ _ (f k) _ _ hw rfl hf rfl rfl).mono ?_
      rintro e w2 ⟨rfl, hw2, hu2⟩
      have hc2 := hu2.cell hc (by show b ≠ w1.heap.size; omega)
      have HU3 := hid (HU2.out.then_ hu2 (fun j hj e => by omega))
      have HR2 := hid (HR.out.upd hu2 (by omega) (fun j hj _ => by omega))
      have hsz2 : w1.heap.size + 2 ≤ w2.heap.size := Nat.le_trans (by omega) hu2.size
      clear hu2 hw hc hb
      go_wp2_with fail
      refine (ref_take _ _ L (f k) _ HR2.out (by omega) hsz2 (by omega) HL.out hf).mono ?_
      rintro e w3 ⟨rfl, hr3, hu3⟩
      have HW3 := hid (hw2.upd hu3 (by omega))
      have HU4 := hid (HU3.out.then_ hu3 (fun j hj e => by omega))
      have HR3 := hid hr3
      clear hw2 hu3 hr3 hc2
      have hl3 := takeL_len L (f k)
      have HL3 := hid (takeL_lt HL.out hf)
      obtain ⟨b3, hb3⟩ : ∃ b3, freshB L (f k) = b3 := ⟨_, rfl⟩
      rw [hb3]
      clear hb3
      obtain ⟨L3, hL3⟩ : ∃ L3, takeL L (f k) = L3 := ⟨_, rfl⟩
      rw [hL3] at HW3 HR3 hl3 HL3
      clear hL3
      go_wp2_with fail
      refine (top_winZ _ L3 _ _ _ HW3.out rfl rfl).mono ?_
      rintro e w4 ⟨rfl, hw4, hu4⟩
      have HU5 := hid (HU4.out.trans hu4)
      have HR4 := hid (HR3.out.upd hu4 (fun h => h) (fun _ _ _ h => h))
      have HW4 := hid hw4
      clear hw4 hu4
      go_wp2_with fail
      refine (ref_top _ _ L3 _ HR4.out (by omega) HL3.out).mono ?_
      rintro e w5 ⟨rfl, nd, rfl⟩
      obtain ⟨t3, ht3⟩ : ∃ t3, topL L3 = t3 := ⟨_, rfl⟩
      rw [ht3]
      obtain ⟨e3, he3⟩ : ∃ e3, (!L3.isEmpty) = e3 := ⟨_, rfl⟩
      rw [he3]
      clear ht3 he3
      have HU6 := hid (HU5.out.drewN nd)
      have HW5 : Hid (Win w1.heap.size L3 (w4.drewN nd)) := hid HW4.out
      have HR5 : Hid (RefW (w1.heap.size + 1) (w1.heap.size + 2) L3 (w4.drewN nd)) := hid HR4.out
      obtain ⟨w6, hw6⟩ : ∃ w6, w4.drewN nd = w6 := ⟨_, rfl⟩
      rw [hw6] at HU6 HW5 HR5 ⊢
      clear hw6
      cases b3 <;> cases e3
      all_goals
        go_wp2_with fail
        refine (fresh_winZ _ L3 _ q _ _ HW5.out rfl hq rfl).mono ?_
        rintro e w7 ⟨rfl, rfl⟩
        obtain ⟨c3, hc3⟩ : ∃ c3, freshB L3 q = c3 := ⟨_, rfl⟩
        rw [hc3]
        have HC3 := hid hc3
        clear hc3
        go_wp2_with fail
        refine (ref_fresh _ _ L3 q _ HR5.out (by omega) HL3.out hq).mono ?_
        rw [HC3.out]
        rintro e w7 ⟨rfl, nd2, rfl⟩
        cases c3
        all_goals
          go_wp2_with fail
          refine ⟨⟨k + 1, L3, by omega, by omega, by go_num, HW5.out, HR5.out, by omega, HL3.out, HU6.out.drewN nd2⟩, by simp [intOf]; omega⟩
    · have hlt' : (decide (k < len0) = false ∧ len0 ≤ k) ∨ (decide (k < len0) = true ∧ 100 ≤ k ∧ k < len0) := by
        rcases Nat.lt_or_ge k len0 with h | h
        · exact .inr ⟨decide_eq_true h, by omega, h⟩
        · exact .inl ⟨decide_eq_false (by omega), h⟩
      clear hlt
      rcases hlt' with ⟨hl, hl1⟩ | ⟨hl, hl1, hl2⟩
      all_goals
        go_wp2_with fail
        go_ret
        exact ⟨rfl, HU2.out.below (Nat.le_refl _) (fun _ h => h.elim)⟩
end Go.Proofs.Ytgfpmonfdplalaa
