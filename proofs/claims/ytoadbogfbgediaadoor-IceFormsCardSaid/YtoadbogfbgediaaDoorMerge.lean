/- The plain law of a stable sort by blocks that are merged (lemmas; no statement of the seat). -/
import Derived.Sort.Defs
namespace Go.Proofs.YtoadbogfbgediaaDoor
open Go.Sort

theorem get_swp (d : Array Nat) (i j k : Nat) (hi : i < d.size) (hj : j < d.size) : (swp d i j)[k]! = if k = j then d[i]! else if k = i then d[j]! else d[k]! := by
  unfold swp
  simp only [getElem!_def, Array.getElem?_setIfInBounds, Array.size_setIfInBounds, hi, hj, if_true]
  by_cases h1 : k = j
  · subst h1; simp
  · rw [if_neg (by omega), if_neg h1]
    by_cases h2 : k = i
    · subst h2; simp
    · rw [if_neg (by omega), if_neg h2]
theorem size_swp' (d : Array Nat) (i j : Nat) : (swp d i j).size = d.size := by simp [swp]

/-- d' is d moved about within [a, b). -/
structure Mv (a b : Nat) (d d' : Array Nat) : Prop where
  size : d'.size = d.size
  mv : ∃ t : Nat → Nat, (∀ k, k < a ∨ b ≤ k → t k = k) ∧ (∀ k, a ≤ k → k < b → a ≤ t k ∧ t k < b) ∧ (∀ i j, t i = t j → i = j) ∧ ∀ k, d'[k]! = d[t k]!
theorem Mv.refl (a b : Nat) (d : Array Nat) : Mv a b d d := ⟨rfl, id, fun _ _ => rfl, fun _ h1 h2 => ⟨h1, h2⟩, fun _ _ h => h, fun _ => rfl⟩
theorem Mv.wide {a b a' b' : Nat} {d d' : Array Nat} (h : Mv a b d d') (ha : a' ≤ a) (hb : b ≤ b') : Mv a' b' d d' := by
  obtain ⟨hs, t, h1, h2, h3, h4⟩ := h
  refine ⟨hs, t, fun k hk => h1 k (by omega), fun k hk hk' => ?_, h3, h4⟩
  by_cases hin : a ≤ k ∧ k < b
  · have := h2 k hin.1 hin.2; omega
  · rw [h1 k (by omega)]; omega
theorem Mv.trans {a b : Nat} {d d' d'' : Array Nat} (h : Mv a b d d') (h' : Mv a b d' d'') : Mv a b d d'' := by
  obtain ⟨hs, t, h1, h2, h3, h4⟩ := h
  obtain ⟨hs', t', h1', h2', h3', h4'⟩ := h'
  refine ⟨hs'.trans hs, fun k => t (t' k), fun k hk => ?_, fun k hk hk' => ?_, fun i j e => h3' _ _ (h3 _ _ e), fun k => by rw [h4', h4]⟩
  · dsimp only; rw [h1' k hk, h1 k hk]
  · have := h2' k hk hk'; exact h2 _ this.1 this.2
theorem Mv.swp {a b i j : Nat} (d : Array Nat) (hi : a ≤ i) (hi' : i < b) (hj : a ≤ j) (hj' : j < b) (hb : b ≤ d.size) : Mv a b d (swp d i j) := by
  refine ⟨size_swp' d i j, fun k => if k = j then i else if k = i then j else k, fun k hk => ?_, fun k hk hk' => ?_, fun x y e => ?_, fun k => ?_⟩
  · dsimp only; rw [if_neg (by omega), if_neg (by omega)]
  · dsimp only; split
    · omega
    · split <;> omega
  · dsimp only at e
    split at e
    · split at e
      · omega
      · split at e <;> omega
    · split at e
      · split at e
        · omega
        · split at e <;> omega
      · split at e
        · omega
        · split at e <;> omega
  · rw [get_swp d i j k (by omega) (by omega)]
    dsimp only
    split
    · rfl
    · split <;> rfl
theorem Mv.out {a b : Nat} {d d' : Array Nat} (h : Mv a b d d') (k : Nat) (hk : k < a ∨ b ≤ k) : d'[k]! = d[k]! := by
  obtain ⟨_, t, h1, _, _, h4⟩ := h
  rw [h4, h1 k hk]
theorem Mv.mem {a b : Nat} {d d' : Array Nat} (h : Mv a b d d') (k : Nat) (hk : a ≤ k) (hk' : k < b) : ∃ k', a ≤ k' ∧ k' < b ∧ d'[k]! = d[k']! := by
  obtain ⟨_, t, _, h2, _, h4⟩ := h
  exact ⟨t k, (h2 k hk hk').1, (h2 k hk hk').2, h4 k⟩

/-! ### the exchange of two ranges; the rotation -/
def swR (a b n k : Nat) : Nat := if a ≤ k ∧ k < a + n then k - a + b else if b ≤ k ∧ k < b + n then k - b + a else k
def rot (a m b k : Nat) : Nat := if a ≤ k ∧ k < a + (b - m) then k + (m - a) else if a + (b - m) ≤ k ∧ k < b then k - (b - m) else k

theorem swR_zero (a b k : Nat) : swR a b 0 k = k := by unfold swR; rw [if_neg (by omega), if_neg (by omega)]
theorem swR_step (d d0 : Array Nat) (a b n : Nat) (hab : a + n < b) (hs : b + n < d.size) (h : ∀ k, d[k]! = d0[swR a b n k]!) (k : Nat) : (swp d (a + n) (b + n))[k]! = d0[swR a b (n + 1) k]! := by
  rw [get_swp _ _ _ _ (by omega) hs]
  split
  · rename_i e; subst e
    rw [h]; congr 1; unfold swR
    rw [if_neg (by omega), if_neg (by omega), if_neg (by omega), if_pos (by omega)]; omega
  · split
    · rename_i e; subst e
      rw [h]; congr 1; unfold swR
      rw [if_neg (by omega), if_neg (by omega), if_pos (by omega)]; omega
    · rw [h]; congr 1; unfold swR
      split
      · rw [if_pos (by omega)]
      · split
        · rw [if_neg (by omega), if_pos (by omega)]
        · rw [if_neg (by omega), if_neg (by omega)]
theorem rot_left (m i j k : Nat) (hji : j < i) (hi : i ≤ m) (hj : 0 < j) : swR (m - i) m j (rot (m - (i - j)) m (m + j) k) = rot (m - i) m (m + j) k := by
  unfold rot
  split
  · rw [if_neg (by omega), if_pos (by omega)]
    unfold swR; rw [if_neg (by omega), if_pos (by omega)]; omega
  · split
    · rw [if_neg (by omega), if_pos (by omega)]
      unfold swR; rw [if_neg (by omega), if_neg (by omega)]
    · split
      · unfold swR; rw [if_pos (by omega)]; omega
      · rw [if_neg (by omega)]
        unfold swR; rw [if_neg (by omega), if_neg (by omega)]
theorem rot_right (m i j k : Nat) (hij : i < j) (hi : i ≤ m) (hi0 : 0 < i) : swR (m - i) (m + j - i) i (rot (m - i) m (m + (j - i)) k) = rot (m - i) m (m + j) k := by
  unfold rot
  split
  · unfold swR; split
    · omega
    · rw [if_neg (by omega), if_pos (by omega)]
  · split
    · unfold swR; rw [if_pos (by omega)]
      split
      · omega
      · rw [if_pos (by omega)]; omega
    · unfold swR; rw [if_neg (by omega)]
      split
      · split
        · omega
        · rw [if_pos (by omega)]; omega
      · rw [if_neg (by omega), if_neg (by omega)]
theorem rot_same (m i k : Nat) (hi : i ≤ m) : swR (m - i) m i k = rot (m - i) m (m + i) k := by
  unfold rot swR
  split
  · rw [if_pos (by omega)]; omega
  · split
    · rw [if_neg (by omega), if_pos (by omega)]; omega
    · rw [if_neg (by omega), if_neg (by omega)]
theorem rot_id (a m b k : Nat) (h : a = m ∨ m = b) (ha : a ≤ m) (hb : m ≤ b) : rot a m b k = k := by
  unfold rot
  split
  · omega
  · split <;> omega
theorem Mv.rot {a m b : Nat} {d d' : Array Nat} (hs : d'.size = d.size) (ha : a ≤ m) (hb : m ≤ b) (h : ∀ k, d'[k]! = d[rot a m b k]!) : Mv a b d d' := by
  refine ⟨hs, YtoadbogfbgediaaDoor.rot a m b, fun k hk => ?_, fun k hk hk' => ?_, fun i j e => ?_, h⟩
  · unfold YtoadbogfbgediaaDoor.rot; rw [if_neg (by omega), if_neg (by omega)]
  · unfold YtoadbogfbgediaaDoor.rot; split
    · omega
    · rw [if_pos (by omega)]; omega
  · unfold YtoadbogfbgediaaDoor.rot at e
    split at e
    · split at e
      · omega
      · split at e <;> omega
    · split at e
      · split at e
        · omega
        · split at e <;> omega
      · split at e
        · omega
        · split at e <;> omega

/-! ### the order: who is worth more comes first; of two alike who stood first -/
def Lt (W : Nat → Int) (x y : Nat) : Prop := W y < W x ∨ (W x = W y ∧ x < y)
theorem Lt.trans {W : Nat → Int} {x y z : Nat} (h : Lt W x y) (h' : Lt W y z) : Lt W x z := by
  unfold Lt at *; omega
theorem Lt.irrefl {W : Nat → Int} {x : Nat} (h : Lt W x x) : False := by unfold Lt at h; omega
def Srt (W : Nat → Int) (d : Array Nat) (a b : Nat) : Prop := ∀ i j, a ≤ i → i < j → j < b → Lt W d[i]! d[j]!
def Crs (d : Array Nat) (a m b : Nat) : Prop := ∀ i j, a ≤ i → i < m → m ≤ j → j < b → d[i]! < d[j]!
def Ahd (W : Nat → Int) (d : Array Nat) (a m b : Nat) : Prop := ∀ i j, a ≤ i → i < m → m ≤ j → j < b → Lt W d[i]! d[j]!
variable {W : Nat → Int}
theorem Srt.join {d : Array Nat} {a m b : Nat} (h : Srt W d a m) (h' : Srt W d m b) (hA : Ahd W d a m b) : Srt W d a b := by
  intro i j hi hij hj
  by_cases h1 : j < m
  · exact h i j hi hij h1
  · by_cases h2 : i < m
    · exact hA i j hi h2 (by omega) hj
    · exact h' i j (by omega) hij hj
/-- Two sorted rows side by side whose ends are in order. -/
theorem Srt.ends {d : Array Nat} {a m b : Nat} (h : Srt W d a m) (h' : Srt W d m b) (he : a = m ∨ m = b ∨ Lt W d[m - 1]! d[m]!) : Srt W d a b := by
  refine h.join h' ?_
  intro i j hi him hmj hj
  rcases he with e | e | e
  · omega
  · omega
  · have e1 : Lt W d[i]! d[m]! := by
      by_cases hh : i = m - 1
      · rw [hh]; exact e
      · exact (h i (m - 1) hi (by omega) (by omega)).trans e
    by_cases hh : j = m
    · rw [hh]; exact e1
    · exact e1.trans (h' m j (Nat.le_refl _) (by omega) hj)
theorem Srt.narrow {d : Array Nat} {a b a' b' : Nat} (h : Srt W d a b) (ha : a ≤ a') (hb : b' ≤ b) : Srt W d a' b' := fun i j hi hij hj => h i j (by omega) hij (by omega)
theorem Srt.out {d d' : Array Nat} {a b x y : Nat} (h : Srt W d a b) (hm : Mv x y d d') (hd : b ≤ x ∨ y ≤ a) : Srt W d' a b := by
  intro i j hi hij hj
  rw [hm.out i (by omega), hm.out j (by omega)]
  exact h i j hi hij hj
theorem Ahd.mv {d d' : Array Nat} {a m b : Nat} (h : Ahd W d a m b) (hm : Mv a m d d') : Ahd W d' a m b := by
  intro i j hi him hmj hj
  obtain ⟨k, k1, k2, e⟩ := hm.mem i hi him
  rw [e, hm.out j (by omega)]
  exact h k j k1 k2 hmj hj
theorem Ahd.mv' {d d' : Array Nat} {a m b : Nat} (h : Ahd W d a m b) (hm : Mv m b d d') : Ahd W d' a m b := by
  intro i j hi him hmj hj
  obtain ⟨k, k1, k2, e⟩ := hm.mem j hmj hj
  rw [e, hm.out i (by omega)]
  exact h i k hi him k1 k2

section
variable {d d' : Array Nat} {a s m e b : Nat}
theorem rot_at1 (h : ∀ k, d'[k]! = d[rot s m e k]!) (k : Nat) (hk : k < s ∨ e ≤ k) (hs : s ≤ m) (he : m ≤ e) : d'[k]! = d[k]! := by
  rw [h]; congr 1; unfold rot; rw [if_neg (by omega), if_neg (by omega)]
theorem rot_at2 (h : ∀ k, d'[k]! = d[rot s m e k]!) (k : Nat) (hk : s ≤ k) (hk' : k < s + (e - m)) : d'[k]! = d[k + (m - s)]! := by
  rw [h]; congr 1; unfold rot; rw [if_pos (by omega)]
theorem rot_at3 (h : ∀ k, d'[k]! = d[rot s m e k]!) (k : Nat) (hk : s + (e - m) ≤ k) (hk' : k < e) : d'[k]! = d[k - (e - m)]! := by
  rw [h]; congr 1; unfold rot; rw [if_neg (by omega), if_pos (by omega)]

/-- What the rotation in the middle gives. -/
structure Halves (W : Nat → Int) (d' : Array Nat) (a s c e b : Nat) : Prop where
  l1 : Srt W d' a s
  l2 : Srt W d' s c
  lc : Crs d' a s c
  r1 : Srt W d' c e
  r2 : Srt W d' e b
  rc : Crs d' c e b
  ahd : Ahd W d' a c b

theorem halves (has : a ≤ s) (hsm : s ≤ m) (hme : m ≤ e) (heb : e ≤ b) (h1 : Srt W d a m) (h2 : Srt W d m b) (hc : Crs d a m b)
    (hA : s = a ∨ e = b ∨ ¬ W d[s - 1]! < W d[e]!) (hB : e = m ∨ s = m ∨ W d[s]! < W d[e - 1]!) (h : ∀ k, d'[k]! = d[rot s m e k]!) : Halves W d' a s (s + (e - m)) e b := by
  have le1 : ∀ i j, a ≤ i → i ≤ j → j < m → W d[j]! ≤ W d[i]! := fun i j hi hij hj => by
    by_cases e : i = j
    · rw [e]; omega
    · have := h1 i j hi (by omega) hj; unfold Lt at this; omega
  have le2 : ∀ i j, m ≤ i → i ≤ j → j < b → W d[j]! ≤ W d[i]! := fun i j hi hij hj => by
    by_cases e : i = j
    · rw [e]; omega
    · have := h2 i j hi (by omega) hj; unfold Lt at this; omega
  refine ⟨?_, ?_, ?_, ?_, ?_, ?_, ?_⟩
  · intro i j hi hij hj
    rw [rot_at1 h i (by omega) hsm hme, rot_at1 h j (by omega) hsm hme]; exact h1 i j hi hij (by omega)
  · intro i j hi hij hj
    rw [rot_at2 h i (by omega) (by omega), rot_at2 h j (by omega) (by omega)]; exact h2 _ _ (by omega) (by omega) (by omega)
  · intro i j hi hij hj hj'
    rw [rot_at1 h i (by omega) hsm hme, rot_at2 h j (by omega) (by omega)]; exact hc _ _ hi (by omega) (by omega) (by omega)
  · intro i j hi hij hj
    rw [rot_at3 h i (by omega) (by omega), rot_at3 h j (by omega) (by omega)]; exact h1 _ _ (by omega) (by omega) (by omega)
  · intro i j hi hij hj
    rw [rot_at1 h i (by omega) hsm hme, rot_at1 h j (by omega) hsm hme]; exact h2 i j (by omega) hij hj
  · intro i j hi hij hj hj'
    rw [rot_at3 h i (by omega) (by omega), rot_at1 h j (by omega) hsm hme]; exact hc _ _ (by omega) (by omega) (by omega) (by omega)
  · intro i j hi hic hcj hj
    by_cases hi1 : i < s
    · rw [rot_at1 h i (by omega) hsm hme]
      by_cases hj1 : j < e
      · rw [rot_at3 h j (by omega) (by omega)]; exact h1 _ _ hi (by omega) (by omega)
      · rw [rot_at1 h j (by omega) hsm hme]
        have x1 := hc i j hi (by omega) (by omega) hj
        have x2 : W d[j]! ≤ W d[i]! := by
          rcases hA with q | q | q
          · omega
          · omega
          · have y1 := le1 i (s - 1) hi (by omega) (by omega)
            have y2 := le2 e j (by omega) (by omega) hj
            omega
        unfold Lt; omega
    · rw [rot_at2 h i (by omega) (by omega)]
      by_cases hj1 : j < e
      · rw [rot_at3 h j (by omega) (by omega)]
        have x2 : W d[j - (e - m)]! < W d[i + (m - s)]! := by
          rcases hB with q | q | q
          · omega
          · omega
          · have y1 := le1 s (j - (e - m)) (by omega) (by omega) (by omega)
            have y2 := le2 (i + (m - s)) (e - 1) (by omega) (by omega) (by omega)
            omega
        unfold Lt; omega
      · rw [rot_at1 h j (by omega) hsm hme]; exact h2 _ _ (by omega) (by omega) hj
end

section
variable {d d' : Array Nat} {a s m e b : Nat}
theorem symA_law (ham : a + 1 = m) (hme : m ≤ e) (heb : e ≤ b) (h1 : Srt W d a m) (h2 : Srt W d m b) (hc : Crs d a m b)
    (hq : (e = m ∨ W d[a]! < W d[e - 1]!) ∧ (e = b ∨ ¬ W d[a]! < W d[e]!)) (h : ∀ k, d'[k]! = d[rot a m e k]!) : Srt W d' a b := by
  have H := halves (W := W) (d := d) (d' := d') (Nat.le_refl a) (by omega) hme heb h1 h2 hc (.inl rfl) (by rcases hq.1 with q | q; exact .inl q; exact .inr (.inr q)) h
  have hr : Srt W d' (a + (e - m)) b := by
    refine H.r1.ends H.r2 ?_
    rcases hq.2 with q | q
    · exact .inr (.inl q)
    · by_cases hb : e = b
      · exact .inr (.inl hb)
      · right; right
        rw [rot_at3 h (e - 1) (by omega) (by omega), rot_at1 h e (by omega) (by omega) hme]
        have e1 : e - 1 - (e - m) = a := by omega
        rw [e1]
        have := hc a e (Nat.le_refl _) (by omega) hme (by omega)
        unfold Lt; omega
  exact H.l2.join hr H.ahd
theorem symB_law (hmb : m + 1 = b) (has : a ≤ s) (hsm : s ≤ m) (h1 : Srt W d a m) (h2 : Srt W d m b) (hc : Crs d a m b)
    (hq : (s = a ∨ ¬ W d[s - 1]! < W d[m]!) ∧ (s = m ∨ W d[s]! < W d[m]!)) (h : ∀ k, d'[k]! = d[rot s m (m + 1) k]!) : Srt W d' a b := by
  subst hmb
  have H := halves (W := W) (d := d) (d' := d') has hsm (by omega) (Nat.le_refl (m + 1)) h1 h2 hc (.inr (.inl rfl)) (by rcases hq.2 with q | q; exact .inr (.inl q); exact .inr (.inr q)) h
  have hl : Srt W d' a (s + (m + 1 - m)) := by
    refine H.l1.ends H.l2 ?_
    rcases hq.1 with q | q
    · exact .inl q.symm
    · by_cases hb : a = s
      · exact .inl hb
      · right; right
        rw [rot_at1 h (s - 1) (by omega) hsm (by omega), rot_at2 h s (by omega) (by omega)]
        have e1 : s + (m - s) = m := by omega
        rw [e1]
        have := hc (s - 1) m (by omega) (by omega) (Nat.le_refl _) (by omega)
        unfold Lt; omega
  exact hl.join H.r1 H.ahd
theorem rot_up {dk : Array Nat} (k : Nat) (hak : a ≤ k) (hs : k + 1 < dk.size) (h : ∀ x, dk[x]! = d[rot a (a + 1) (k + 1) x]!) (x : Nat) : (swp dk k (k + 1))[x]! = d[rot a (a + 1) (k + 1 + 1) x]! := by
  rw [get_swp _ _ _ _ (by omega) hs]
  split
  · rename_i q; subst q
    rw [h]; congr 1; unfold rot
    rw [if_neg (by omega), if_pos (by omega), if_neg (by omega), if_pos (by omega)]; omega
  · split
    · rename_i q; subst q
      rw [h]; congr 1; unfold rot
      rw [if_neg (by omega), if_neg (by omega), if_pos (by omega)]; omega
    · rw [h]; congr 1; unfold rot
      split
      · rw [if_pos (by omega)]
      · split
        · omega
        · rw [if_neg (by omega), if_neg (by omega)]
theorem rot_down {dk : Array Nat} (k : Nat) (hkm : k < m) (hs : m < dk.size) (h : ∀ x, dk[x]! = d[rot (k + 1) m (m + 1) x]!) (x : Nat) : (swp dk (k + 1) k)[x]! = d[rot k m (m + 1) x]! := by
  rw [get_swp _ _ _ _ (by omega) (by omega)]
  split
  · rename_i q; subst q
    rw [h]; congr 1; unfold rot
    rw [if_pos (by omega), if_pos (by omega)]; omega
  · split
    · rename_i q1 q; subst q
      rw [h]; congr 1; unfold rot
      rw [if_neg (by omega), if_neg (by omega), if_neg (by omega), if_pos (by omega)]; omega
    · rw [h]; congr 1; unfold rot
      split
      · omega
      · split
        · rw [if_neg (by omega), if_pos (by omega)]
        · rw [if_neg (by omega), if_neg (by omega)]
end
end Go.Proofs.YtoadbogfbgediaaDoor
