/- What the blocks of the stable sort hold, level by level (lemmas; no statement of the seat). -/
import Derived.Test.YtoadbogfbgediaaDoorInsLaw
namespace Go.Proofs.YtoadbogfbgediaaDoor
open Go.Sort
variable {W : Nat → Int} {N : Nat} {d dk dn : Array Nat}

/-- Blocks of bs, each sorted; each thing still in its own block. -/
structure Lvl (W : Nat → Int) (bs N : Nat) (d dk : Array Nat) : Prop where
  mv : Mv 0 N d dk
  cls : ∀ k, k < N → dk[k]! / bs = k / bs
  srt : ∀ s, Srt W dk (s * bs) (min (s * bs + bs) N)
/-- The first t pairs of blocks are merged. -/
structure Half (W : Nat → Int) (bs t N : Nat) (d dk : Array Nat) : Prop where
  mv : Mv 0 N d dk
  lo : ∀ k, k < N → dk[k]! / (bs * 2) = k / (bs * 2)
  hi : ∀ k, t * (bs * 2) ≤ k → k < N → dk[k]! / bs = k / bs
  s1 : ∀ s, s < t → Srt W dk (s * (bs * 2)) (s * (bs * 2) + bs * 2)
  s2 : ∀ s, t * (bs * 2) ≤ s * bs → Srt W dk (s * bs) (min (s * bs + bs) N)
/-- The first t blocks of twenty are sorted. -/
structure Fst (W : Nat → Int) (t N : Nat) (d dk : Array Nat) : Prop where
  mv : Mv 0 N d dk
  cls : ∀ k, k < N → dk[k]! / 20 = k / 20
  s1 : ∀ s, s < t → Srt W dk (s * 20) (s * 20 + 20)
  hi : ∀ k, t * 20 ≤ k → k < N → dk[k]! = k

theorem fst_start (hd : ∀ k, k < N → d[k]! = k) : Fst W 0 N d d :=
  ⟨Mv.refl _ _ _, fun k hk => by rw [hd k hk], fun s hs => by omega, fun k _ hk => hd k hk⟩
theorem Fst.inc {t : Nat} (h : Fst W t N d dk) (x y : Nat) (hx : t * 20 ≤ x) (hxy : x < y) (hy : y < N) : dk[x]! < dk[y]! := by
  rw [h.hi x hx (by omega), h.hi y (by omega) hy]; exact hxy
theorem Fst.step {t : Nat} (h : Fst W t N d dk) (hb : t * 20 + 20 ≤ N) (hm : Mv (t * 20) (t * 20 + 20) dk dn) (hs : Srt W dn (t * 20) (t * 20 + 20)) : Fst W (t + 1) N d dn := by
  refine ⟨h.mv.trans (hm.wide (Nat.zero_le _) hb), fun k hk => ?_, fun s hst => ?_, fun k hk hkN => ?_⟩
  · by_cases hin : t * 20 ≤ k ∧ k < t * 20 + 20
    · obtain ⟨k', q1, q2, q3⟩ := hm.mem k hin.1 hin.2
      rw [q3, h.cls k' (by omega)]; omega
    · rw [hm.out k (by omega)]; exact h.cls k hk
  · by_cases hst' : s = t
    · subst hst'; exact hs
    · exact (h.s1 s (by omega)).out hm (.inl (by omega))
  · rw [hm.out k (by omega)]; exact h.hi k (by omega) hkN
theorem Fst.fin {t : Nat} (h : Fst W t N d dk) (ht : t * 20 ≤ N) (hb : N < t * 20 + 20) (hm : Mv (t * 20) N dk dn) (hs : Srt W dn (t * 20) N) : Lvl W 20 N d dn := by
  refine ⟨h.mv.trans (hm.wide (Nat.zero_le _) (Nat.le_refl _)), fun k hk => ?_, fun s => ?_⟩
  · by_cases hin : t * 20 ≤ k
    · obtain ⟨k', q1, q2, q3⟩ := hm.mem k hin hk
      rw [q3, h.cls k' (by omega)]; omega
    · rw [hm.out k (by omega)]; exact h.cls k hk
  · by_cases h1 : s < t
    · exact ((h.s1 s h1).out hm (.inl (by omega))).narrow (Nat.le_refl _) (by omega)
    · by_cases h2 : s = t
      · subst h2; exact hs.narrow (Nat.le_refl _) (by omega)
      · exact fun i j hi hij hj => by omega

theorem div_block {bs k q : Nat} (h0 : 0 < bs) (h1 : q * bs ≤ k) (h2 : k < q * bs + bs) : k / bs = q := by
  have a1 : q ≤ k / bs := (Nat.le_div_iff_mul_le h0).2 h1
  have a2 : k / bs < q + 1 := (Nat.div_lt_iff_lt_mul h0).2 (by rw [Nat.add_mul, Nat.one_mul]; exact h2)
  omega
theorem Lvl.half {bs : Nat} (h : Lvl W bs N d dk) : Half W bs 0 N d dk :=
  ⟨h.mv, fun k hk => by rw [← Nat.div_div_eq_div_mul, ← Nat.div_div_eq_div_mul, h.cls k hk], fun k _ hk => h.cls k hk, fun s hs => by omega, fun s _ => h.srt s⟩
theorem two_blocks (t bs : Nat) : (t * 2) * bs = t * (bs * 2) ∧ (t * 2 + 1) * bs = t * (bs * 2) + bs ∧ (t + 1) * (bs * 2) = t * (bs * 2) + bs * 2 := by
  refine ⟨?_, ?_, ?_⟩
  · rw [Nat.mul_assoc, Nat.mul_comm 2 bs]
  · rw [Nat.add_mul, Nat.one_mul, Nat.mul_assoc, Nat.mul_comm 2 bs]
  · rw [Nat.add_mul, Nat.one_mul]
/-- What the merge of the pair number t is told. -/
theorem Half.pre {bs t e : Nat} (h : Half W bs t N d dk) (h0 : 0 < bs) (he : t * (bs * 2) + bs < e) (heN : e ≤ N) (he2 : e = t * (bs * 2) + bs * 2 ∨ (e = N ∧ N ≤ t * (bs * 2) + bs * 2)) :
    Srt W dk (t * (bs * 2)) (t * (bs * 2) + bs) ∧ Srt W dk (t * (bs * 2) + bs) e ∧ Crs dk (t * (bs * 2)) (t * (bs * 2) + bs) e := by
  obtain ⟨e1, e2, e3⟩ := two_blocks t bs
  refine ⟨?_, ?_, ?_⟩
  · have := h.s2 (t * 2) (by omega)
    rw [e1] at this
    exact this.narrow (Nat.le_refl _) (by omega)
  · have := h.s2 (t * 2 + 1) (by omega)
    rw [e2] at this
    exact this.narrow (Nat.le_refl _) (by omega)
  · intro i j hi him hmj hj
    have c1 := h.hi i hi (by omega)
    have c2 := h.hi j (by omega) (by omega)
    have d1 : i / bs = t * 2 := div_block h0 (by omega) (by omega)
    have d2 : t * 2 + 1 ≤ j / bs := (Nat.le_div_iff_mul_le h0).2 (by omega)
    have hlt : dk[i]! / bs < dk[j]! / bs := by rw [c1, c2, d1]; omega
    exact Nat.lt_of_div_lt_div hlt
theorem Half.low {bs t e : Nat} (h : Half W bs t N d dk) (h0 : 0 < bs) (heN : e ≤ N) (he2 : e ≤ t * (bs * 2) + bs * 2) (hm : Mv (t * (bs * 2)) e dk dn) (k : Nat) (hk : k < N) : dn[k]! / (bs * 2) = k / (bs * 2) := by
  by_cases hin : t * (bs * 2) ≤ k ∧ k < e
  · obtain ⟨k', q1, q2, q3⟩ := hm.mem k hin.1 hin.2
    rw [q3, h.lo k' (by omega), div_block (q := t) (by omega) q1 (by omega), div_block (q := t) (by omega) hin.1 (by omega)]
  · rw [hm.out k (by omega)]; exact h.lo k hk
theorem pair_le {s t bs : Nat} (h : s < t) : s * (bs * 2) + bs * 2 ≤ t * (bs * 2) := by
  have := Nat.mul_le_mul_right (bs * 2) (show s + 1 ≤ t from h)
  rw [Nat.add_mul, Nat.one_mul] at this
  exact this
theorem Half.step {bs t : Nat} (h : Half W bs t N d dk) (h0 : 0 < bs) (hb : t * (bs * 2) + bs * 2 ≤ N) (hm : Mv (t * (bs * 2)) (t * (bs * 2) + bs * 2) dk dn) (hs : Srt W dn (t * (bs * 2)) (t * (bs * 2) + bs * 2)) : Half W bs (t + 1) N d dn := by
  obtain ⟨e1, e2, e3⟩ := two_blocks t bs
  refine ⟨h.mv.trans (hm.wide (Nat.zero_le _) hb), fun k hk => h.low h0 hb (Nat.le_refl _) hm k hk, fun k hk hkN => ?_, fun s hst => ?_, fun s hst => ?_⟩
  · rw [hm.out k (by omega)]; exact h.hi k (by omega) hkN
  · by_cases hst' : s = t
    · subst hst'; exact hs
    · have := pair_le (bs := bs) (show s < t by omega)
      exact (h.s1 s (by omega)).out hm (.inl this)
  · exact (h.s2 s (by omega)).out hm (.inr (by omega))
theorem Half.fin {bs t : Nat} (h : Half W bs t N d dk) (h0 : 0 < bs) (ht : t * (bs * 2) + bs < N) (hb : N < t * (bs * 2) + bs * 2) (hm : Mv (t * (bs * 2)) N dk dn) (hs : Srt W dn (t * (bs * 2)) N) : Lvl W (bs * 2) N d dn := by
  refine ⟨h.mv.trans (hm.wide (Nat.zero_le _) (Nat.le_refl _)), fun k hk => h.low h0 (Nat.le_refl _) (by omega) hm k hk, fun s => ?_⟩
  by_cases h1 : s < t
  · have := pair_le (bs := bs) h1
    exact ((h.s1 s h1).out hm (.inl this)).narrow (Nat.le_refl _) (by omega)
  · by_cases h2 : s = t
    · subst h2; exact hs.narrow (Nat.le_refl _) (by omega)
    · have := pair_le (bs := bs) (show t < s by omega)
      exact fun i j hi hij hj => by omega
theorem Half.fin0 {bs t : Nat} (h : Half W bs t N d dk) (ht : N ≤ t * (bs * 2) + bs) : Lvl W (bs * 2) N d dk := by
  obtain ⟨e1, e2, e3⟩ := two_blocks t bs
  refine ⟨h.mv, fun k hk => h.lo k hk, fun s => ?_⟩
  by_cases h1 : s < t
  · exact (h.s1 s h1).narrow (Nat.le_refl _) (by omega)
  · by_cases h2 : s = t
    · subst h2
      have := h.s2 (s * 2) (by omega)
      rw [e1] at this
      exact this.narrow (Nat.le_refl _) (by omega)
    · have := pair_le (bs := bs) (show t < s by omega)
      exact fun i j hi hij hj => by omega
theorem Lvl.all {bs : Nat} (h : Lvl W bs N d dk) (hb : N ≤ bs) : Srt W dk 0 N := by
  have := h.srt 0
  rw [Nat.zero_mul] at this
  exact this.narrow (Nat.le_refl _) (by omega)
end Go.Proofs.YtoadbogfbgediaaDoor
