/- The insertion sort, as a plain function, is stable (lemmas; no statement of the seat). -/
import Derived.Test.YtoadbogfbgediaaDoorMerge
namespace Go.Proofs.YtoadbogfbgediaaDoor
open Go.Sort
variable {W : Nat → Int} {lt : Nat → Nat → Bool}

/-- Where the inner loop stands: j is on its way down. -/
structure Inn (W : Nat → Int) (d : Array Nat) (a j t : Nat) : Prop where
  l : Srt W d a j
  r : Srt W d (j + 1) t
  lr : ∀ x y, a ≤ x → x < j → j < y → y < t → Lt W d[x]! d[y]!
  jr : ∀ y, j < y → y < t → Lt W d[j]! d[y]!
  idx : ∀ x, a ≤ x → x < j → d[x]! < d[j]!
theorem Inn.stop {d : Array Nat} {a j t : Nat} (h : Inn W d a j t) (hs : j = a ∨ Lt W d[j - 1]! d[j]!) (haj : a ≤ j) : Srt W d a t := by
  intro x y hx hxy hy
  by_cases h1 : y < j
  · exact h.l x y hx hxy h1
  · by_cases h2 : x < j
    · by_cases h3 : y = j
      · subst h3
        rcases hs with e | e
        · omega
        · by_cases h4 : x = y - 1
          · rw [h4]; exact e
          · exact (h.l x (y - 1) hx (by omega) (by omega)).trans e
      · exact h.lr x y hx h2 (by omega) hy
    · by_cases h3 : x = j
      · subst h3; exact h.jr y hxy hy
      · exact h.r x y (by omega) hxy hy
theorem Inn.go {d : Array Nat} {a j t : Nat} (h : Inn W d a (j + 1) t) (haj : a ≤ j) (hjt : j + 1 < t) (ht : t ≤ d.size) (hl : W d[j]! < W d[j + 1]!) : Inn W (swp d (j + 1) j) a j t := by
  have g : ∀ k, (swp d (j + 1) j)[k]! = if k = j then d[j + 1]! else if k = j + 1 then d[j]! else d[k]! := fun k => get_swp d (j + 1) j k (by omega) (by omega)
  have gj : (swp d (j + 1) j)[j]! = d[j + 1]! := by rw [g, if_pos rfl]
  have gj1 : (swp d (j + 1) j)[j + 1]! = d[j]! := by rw [g, if_neg (by omega), if_pos rfl]
  have go : ∀ k, k ≠ j → k ≠ j + 1 → (swp d (j + 1) j)[k]! = d[k]! := fun k h1 h2 => by rw [g, if_neg h1, if_neg h2]
  refine ⟨?_, ?_, ?_, ?_, ?_⟩
  · intro x y hx hxy hy
    rw [go x (by omega) (by omega), go y (by omega) (by omega)]; exact h.l x y hx hxy (by omega)
  · intro x y hx hxy hy
    rw [go y (by omega) (by omega)]
    by_cases hxj : x = j + 1
    · rw [hxj, gj1]; exact h.lr j y haj (by omega) (by omega) hy
    · rw [go x (by omega) hxj]; exact h.r x y (by omega) hxy hy
  · intro x y hx hxj hjy hy
    rw [go x (by omega) (by omega)]
    by_cases hyj : y = j + 1
    · rw [hyj, gj1]; exact h.l x j hx hxj (by omega)
    · rw [go y (by omega) hyj]; exact h.lr x y hx (by omega) (by omega) hy
  · intro y hjy hy
    rw [gj]
    by_cases hyj : y = j + 1
    · rw [hyj, gj1]; exact .inl hl
    · rw [go y (by omega) hyj]; exact h.jr y (by omega) hy
  · intro x hx hxj
    rw [go x (by omega) (by omega), gj]; exact h.idx x hx (by omega)
theorem insInner_law (hlt : ∀ x y, lt x y = true ↔ W y < W x) (a t : Nat) : ∀ (j : Nat) (d : Array Nat), a ≤ j → j < t → t ≤ d.size → Inn W d a j t → Srt W (insInner lt a j d) a t ∧ Mv a t d (insInner lt a j d) := by
  intro j
  induction j with
  | zero =>
    intro d haj hjt ht h
    exact ⟨h.stop (.inl (by omega)) haj, Mv.refl _ _ _⟩
  | succ j ih =>
    intro d haj hjt ht h
    unfold insInner
    split
    · rename_i hc
      simp only [Bool.and_eq_true, decide_eq_true_eq, hlt] at hc
      have h2 := ih (swp d (j + 1) j) (by omega) (by omega) (by rw [size_swp']; exact ht) (h.go (by omega) hjt ht hc.2)
      exact ⟨h2.1, (Mv.swp d (by omega) (by omega) (by omega) (by omega) ht).trans h2.2⟩
    · rename_i hc
      refine ⟨h.stop ?_ haj, Mv.refl _ _ _⟩
      by_cases e : j + 1 = a
      · exact .inl e
      · right
        have hn : ¬ W d[j]! < W d[j + 1]! := fun q => hc (by simp only [Bool.and_eq_true, decide_eq_true_eq, hlt]; exact ⟨by omega, q⟩)
        have hi := h.idx j (by omega) (by omega)
        rw [Nat.add_sub_cancel]
        unfold Lt; omega
theorem insOuter_law (hlt : ∀ x y, lt x y = true ↔ W y < W x) (a b : Nat) : ∀ (k i : Nat) (d : Array Nat), b - i ≤ k → a ≤ i → b ≤ d.size → Srt W d a i → (∀ x y, a ≤ x → x < y → i ≤ y → y < b → d[x]! < d[y]!) →
    Srt W (insOuter lt a b i d) a b ∧ Mv a b d (insOuter lt a b i d) := by
  intro k
  induction k with
  | zero =>
    intro i d hk hai hb hs hx
    unfold insOuter
    rw [if_neg (by omega)]
    exact ⟨hs.narrow (Nat.le_refl _) (by omega), Mv.refl _ _ _⟩
  | succ k ih =>
    intro i d hk hai hb hs hx
    unfold insOuter
    split
    · rename_i hib
      have hI : Inn W d a i (i + 1) := ⟨hs, fun x y h1 h2 h3 => by omega, fun x y h1 h2 h3 h4 => by omega, fun y h1 h2 => by omega, fun x h1 h2 => hx x i h1 h2 (Nat.le_refl _) hib⟩
      have h1 := insInner_law hlt a (i + 1) i d hai (by omega) (by omega) hI
      have h2 := ih (i + 1) (insInner lt a i d) (by omega) (by omega) (by rw [h1.2.size]; exact hb) h1.1 (fun x y hax hxy hiy hyb => by
        rw [h1.2.out y (by omega)]
        by_cases hxi : x < i + 1
        · obtain ⟨x', q1, q2, q3⟩ := h1.2.mem x hax hxi
          rw [q3]; exact hx x' y q1 (by omega) (by omega) hyb
        · rw [h1.2.out x (by omega)]; exact hx x y hax hxy (by omega) hyb)
      exact ⟨h2.1, (h1.2.wide (Nat.le_refl _) (by omega)).trans h2.2⟩
    · exact ⟨hs.narrow (Nat.le_refl _) (by omega), Mv.refl _ _ _⟩
theorem insertion_law (hlt : ∀ x y, lt x y = true ↔ W y < W x) (d : Array Nat) (a b : Nat) (hb : b ≤ d.size) (hx : ∀ x y, a ≤ x → x < y → y < b → d[x]! < d[y]!) :
    Srt W (insertionSort lt d a b) a b ∧ Mv a b d (insertionSort lt d a b) := by
  unfold insertionSort
  exact insOuter_law hlt a b (b - (a + 1)) (a + 1) d (Nat.le_refl _) (by omega) hb (fun x y h1 h2 h3 => by omega) (fun x y h1 h2 _ h3 => hx x y h1 h2 h3)
end Go.Proofs.YtoadbogfbgediaaDoor
