/- The walk of IceTries (no statement of the seat). -/
import Derived.Test.YtoadbogfbgediaaDoorOwn
import Derived.Test.YtoadbogfbgediaaDoorLaws
namespace Go.Proofs.YtoadbogfbgediaaDoor
open Go.RowKit

theorem SrcP.congr {w : World} {A : Option Addr} {n : Nat} {g g' : Nat → Pr} (h : SrcP w A n g) (e : ∀ i, i < n → g i = g' i) : SrcP w A n g' :=
  ⟨h.max, fun i hi => by rw [← e i hi]; exact h.at_ i hi⟩
section
variable {g : Nat → Pr} {k n : Nat} {st r r' : Int}
theorem findR_hit (h : FindR g k st r) (hr : r < 0) (hs : (g k).s = st) : FindR g (k + 1) st k := by
  rcases h with ⟨i, hi, rfl, _, _⟩ | ⟨_, hn⟩
  · omega
  · exact .inl ⟨k, by omega, rfl, hs, hn⟩
theorem findR_keep (h : FindR g k st r) (hs : 0 ≤ r ∨ (g k).s ≠ st) : FindR g (k + 1) st r := by
  rcases h with ⟨i, hi, rfl, h1, h2⟩ | ⟨rfl, hn⟩
  · exact .inl ⟨i, by omega, rfl, h1, h2⟩
  · refine .inr ⟨rfl, fun j hj => ?_⟩
    by_cases hjk : j = k
    · subst hjk
      rcases hs with h | h
      · omega
      · exact h
    · exact hn j (by omega)
theorem findR_uniq (h : FindR g n st r) (h' : FindR g n st r') : r = r' := by
  rcases h with ⟨i, hi, rfl, h1, h2⟩ | ⟨rfl, hn⟩
  · rcases h' with ⟨j, hj, rfl, h3, h4⟩ | ⟨rfl, hn⟩
    · have a1 : ¬ i < j := fun hl => h4 i hl h1
      have a2 : ¬ j < i := fun hl => h2 j hl h3
      omega
    · exact absurd h1 (hn i hi)
  · rcases h' with ⟨j, hj, rfl, h3, h4⟩ | ⟨rfl, _⟩
    · exact absurd h3 (hn j hj)
    · rfl
theorem findR_zero : FindR g 0 st (-1) := .inr ⟨rfl, fun j hj => by omega⟩
theorem findR_in (h : FindR g n st r) : -1 ≤ r ∧ r < n := by
  rcases h with ⟨i, hi, rfl, h1, h2⟩ | ⟨rfl, hn⟩ <;> omega
end
abbrev pz (s : Int) : Pr := ⟨⟨0, 0⟩, ⟨0, 0⟩, 0, s⟩
abbrev pzL (f : Nat → Int) (k : Nat) : List Pr := (List.range k).map (fun i => pz (four (f i)))
theorem pzL_len (f : Nat → Int) (k : Nat) : (pzL f k).length = k := by simp
theorem pzL_succ (f : Nat → Int) (k : Nat) : pzL f (k + 1) = pzL f k ++ [pz (four (f k))] := by simp [pzL, List.range_succ]
theorem pzL_at (f : Nat → Int) (k i : Nat) (hi : i < k) : (pzL f k).getD i default = pz (four (f i)) := by simp [pzL, List.getD, hi]

set_option maxRecDepth 100000 in
set_option maxHeartbeats 4000000 in
theorem tries11_any (bm : Nat) (es : Array MapEntry) (clock : Nat) (A : Option Addr) (len cap : Nat) (f : Nat → Int) (w : World) (hK : Kin bm es clock w) (hI : SrcI w A len f) :
    Calls Tryd.prog 11 #[.slice A len cap] w fun e w' => e = .returned (.bool true) ∧ Upd (fun _ => False) w w' := by
  have HK := hid hK
  have HI := hid hI
  have hmax := hI.max
  clear hK hI
  go_enter Tryd.func11, Tryd.ntmps11
  go_wp2_with fail
  refine (shown12_any bm es clock w HK.out).mono ?_
  rintro e w1 ⟨rfl, hu⟩
  have HU1 := hid hu
  clear hu
  go_wp2_with fail
  go_loopw [4, 5, 6, 7, 8] (fun l wa fa wo i wr => ∃ (k : Nat) (a b c : Int), k ≤ len ∧ k ≤ 16 ∧ i = .int .i64 k ∧ wa = .int .i64 a ∧ fa = .int .i64 b ∧ wo = .int .i64 c ∧ OwnP (pzL f k) w1.heap.size l wr ∧
    FindR (fun i => pz (four (f i))) k 1 a ∧ FindR (fun i => pz (four (f i))) k 4 b ∧ FindR (fun i => pz (four (f i))) k 3 c ∧ Upd (fun _ => False) w1 wr) (fun _ _ _ _ i _ => 16 - (intOf i).toNat)
  case atStart => exact ⟨0, -1, -1, -1, Nat.zero_le _, by omega, rfl, rfl, rfl, rfl, OwnP.nil _ _, findR_zero, findR_zero, findR_zero, Upd.refl _ _⟩
  case round =>
    obtain ⟨k, a, b, c, hk, hk16, rfl, rfl, rfl, rfl, hO, ha, hb, hc, hu⟩ := hrel
    have HO := hid hO
    have HA := hid ha
    have HB := hid hb
    have HC := hid hc
    have HU := hid hu
    have hra := findR_in ha
    have hrb := findR_in hb
    have hrc := findR_in hc
    clear hO ha hb hc hu
    by_cases hlt : k < len ∧ k < 16
    · obtain ⟨hl1, hl2⟩ := hlt
      obtain ⟨bl, off, ha0, hb0, hcell⟩ := (HI.out.upd (HU1.out.trans HU.out)).at_ k hl1
      subst ha0
      go_upto_region 10 with (fail)
      have hs4 := four_in (f k)
      have ew : wrap64 (1 + (bits BinOp.and IntKind.i64 (f k) 65535).tmod 4) = four (f k) := by unfold four at hs4 ⊢; unfold wrap64; omega
      rw [ew]
      obtain ⟨s, hs⟩ : ∃ s, four (f k) = s := ⟨_, rfl⟩
      rw [hs] at hs4 ⊢
      have HS := hid hs
      have HROW := hid (pzL_len f k ▸ HO.out.row)
      clear ew hs hcell hb0
      have hs5 : s = 1 ∨ s = 2 ∨ s = 3 ∨ s = 4 := by omega
      go_wp2_with (at_builtin; refine app_pr rfl _ _ rfl u4 (prL (pzL f k)) k rfl HROW.out (pz s) rfl (by omega) ?_; intro g4 q4 w4 hrow4 hu4 hor4 hlt4; have HR4 := hid hrow4; have HU4 := hid hu4; have HO4 := hid hor4; clear hrow4 hu4 hor4 hlt4)
      all_goals
        have hO2 : OwnP (pzL f (k + 1)) w1.heap.size (.slice (some ⟨g4, 0, none⟩) (k + 1) q4) w4 := by
          rw [pzL_succ, HS.out]
          have := OwnP.snoc (l := pzL f k) (n0 := w1.heap.size) (g := g4) (cap := q4) (w := w4) (c := pz s) (by rw [pzL_len]; exact HR4.out)
            (by rcases HO4.out with h | h
                · exact HO.out.new _ h
                · exact Nat.le_trans HU.out.size h)
          rw [pzL_len] at this; exact this
        have hU2 : Upd (fun _ => False) w1 w4 := HU.out.then_ HU4.out (fun j hj h => by have := HO.out.new j h; omega)
        have hst := HS.out
        refine ⟨⟨k + 1, _, _, _, by omega, by omega, by go_num, rfl, rfl, rfl, hO2, ?_, ?_, ?_, hU2⟩, by simp [intOf]; omega⟩
        · first
            | exact findR_keep HA.out (.inr (show ¬ four (f k) = 1 by omega))
            | exact findR_keep HA.out (.inl (by omega))
            | exact findR_hit HA.out (by omega) (show four (f k) = 1 by omega)
        · first
            | exact findR_keep HB.out (.inr (show ¬ four (f k) = 4 by omega))
            | exact findR_keep HB.out (.inl (by omega))
            | exact findR_hit HB.out (by omega) (show four (f k) = 4 by omega)
        · first
            | exact findR_keep HC.out (.inr (show ¬ four (f k) = 3 by omega))
            | exact findR_keep HC.out (.inl (by omega))
            | exact findR_hit HC.out (by omega) (show four (f k) = 3 by omega)
    · obtain ⟨A2, cap2, hv, hS⟩ := HO.out.src (by rw [pzL_len]; omega)
      rw [pzL_len] at hv hS
      have HSR := hid (hS.congr (fun i hi => pzL_at f k i hi))
      clear hS
      subst hv
      have hkk : k = len ∨ k = 16 := by omega
      have hdec : (decide ((k : Int) < (len : Int)) && decide ((k : Int) < 16)) = false := by simp; omega
      clear HO
      have HNB := hid (fun r h => findR_uniq (r := r) (r' := b) h HB.out)
      have HNA := hid (fun r h => findR_uniq (r := r) (r' := a) h HA.out)
      have HNC := hid (fun r h => findR_uniq (r := r) (r' := c) h HC.out)
      have key : ∀ r r1 : Int, FindR (fun i => pz (four (f i))) k 1 r1 → ((0 ≤ r1 ∧ r = r1) ∨ (r1 < 0 ∧ FindR (fun i => pz (four (f i))) k 4 r)) → (a < 0 → r = b) ∧ (0 ≤ a → r = a) := by
        intro r r1 hf1 hr
        have he : r1 = a := HNA.out _ hf1
        refine ⟨fun h => ?_, fun h => ?_⟩
        · rcases hr with ⟨h1, _⟩ | ⟨_, h2⟩
          · omega
          · exact HNB.out _ h2
        · rcases hr with ⟨h1, h2⟩ | ⟨h1, _⟩ <;> omega
      have KEY := hid key
      clear HA HB HC key HNA HNB
      have fin : ∀ W3 W5 : World, Upd (fun _ => False) wr W3 → Upd (fun _ => False) W3 W5 → Upd (fun _ => False) w W5 := fun W3 W5 h3 h5 => ((HU1.out.trans HU.out).trans h3).trans h5
      have FIN := hid fin
      clear fin
      rcases hkk with hk1 | hk1
      all_goals
        subst hk1
        rcases Int.lt_or_le a 0 with ha0 | ha0
      all_goals
        go_wp2_with fail
      all_goals
        refine (next23_any A2 _ cap2 _ _ HSR.out).mono ?_
        rintro e w3 ⟨r, rfl, ⟨r1, hf1, hr⟩, hu3⟩
        have hrk := KEY.out r r1 hf1 hr
      all_goals
        first
          | (have hrb := hrk.1 ha0; subst hrb)
          | (have hrb := hrk.2 ha0; subst hrb)
        have HU3 := hid hu3
        clear hu3 hf1 hr hrk
        go_wp2_with fail
        refine (best25_any A2 _ cap2 _ _ (HSR.out.upd HU3.out)).mono ?_
        rintro e w5 ⟨r5, rfl, hf5, hu5⟩
        have hr5 := HNC.out _ hf5
        subst hr5
        have HU5 := hid hu5
        clear hu5 hf5
        go_wp2_with fail
        go_ret
        exact ⟨rfl, FIN.out _ _ HU3.out HU5.out⟩
end Go.Proofs.YtoadbogfbgediaaDoor
