/- few's answer leaves no key out; Form both ways (no statement of the seat). -/
import Derived.Test.YtoadbogfbgediaaDoorFacts
namespace Go.Proofs.YtoadbogfbgediaaDoor
open Go.RowKit

theorem inj_onto : ∀ (n : Nat) (t : Nat → Nat), (∀ k, k < n → t k < n) → (∀ i j, i < n → j < n → t i = t j → i = j) → ∀ y, y < n → ∃ x, x < n ∧ t x = y := by
  intro n
  induction n with
  | zero => intro t _ _ y hy; omega
  | succ n ih =>
    intro t h1 h2 y hy
    have hb : ∀ k, k < n → (if t k = n then t n else t k) < n := fun k hk => by
      have hk1 := h1 k (by omega)
      have hn1 := h1 n (by omega)
      split
      · rename_i e
        by_cases hne : t n = n
        · have := h2 k n (by omega) (by omega) (by omega); omega
        · omega
      · omega
    have hi : ∀ i j, i < n → j < n → (if t i = n then t n else t i) = (if t j = n then t n else t j) → i = j := fun i j hi hj e => by
      split at e <;> split at e
      · exact h2 i j (by omega) (by omega) (by omega)
      · have := h2 n j (by omega) (by omega) e; omega
      · have := h2 i n (by omega) (by omega) e; omega
      · exact h2 i j (by omega) (by omega) e
    have key := ih (fun k => if t k = n then t n else t k) hb hi
    by_cases hyn : y = n
    · subst hyn
      apply Classical.byContradiction
      intro hno
      have hno' : ∀ x, x < y + 1 → t x ≠ y := fun x hx e => hno ⟨x, hx, e⟩
      obtain ⟨x, hx, e⟩ := key (t y) (by have := h1 y (by omega); have := hno' y (by omega); omega)
      rw [if_neg (hno' x (by omega))] at e
      have := h2 x y (by omega) (by omega) e
      omega
    · obtain ⟨x, hx, e⟩ := key y (by omega)
      split at e
      · exact ⟨n, by omega, e⟩
      · exact ⟨x, by omega, e⟩
theorem inj_le (M N : Nat) (u : Nat → Nat) (h1 : ∀ k, k < M → u k < N) (h2 : ∀ i j, i < M → j < M → u i = u j → i = j) : M ≤ N := by
  apply Classical.byContradiction
  intro hc
  obtain ⟨x, hx, e⟩ := inj_onto M u (fun k hk => by have := h1 k hk; omega) h2 N (by omega)
  have := h1 x hx
  omega
theorem first_of (ks : Nat → Ad × Ad) : ∀ k, ∃ k0, k0 ≤ k ∧ ks k0 = ks k ∧ dup ks k0 = false := by
  intro k
  induction k using Nat.strongRecOn with
  | _ k ih =>
    cases hd : dup ks k with
    | false => exact ⟨k, Nat.le_refl _, rfl, hd⟩
    | true =>
      unfold dup at hd
      obtain ⟨i, hi, e⟩ := (mem_keysOf ks (ks k) k).1 (of_decide_eq_true hd)
      obtain ⟨k0, h0, e0, hd0⟩ := ih i hi
      exact ⟨k0, by omega, e0.trans e, hd0⟩
theorem kept_has (ks : Nat → Ad × Ad) (n k : Nat) (hk : k < n) (hd : dup ks k = false) : ∃ x, x < (kept ks n).length ∧ (kept ks n).getD x 0 = k := by
  have : k ∈ kept ks n := by
    unfold kept
    exact List.mem_filter.2 ⟨List.mem_range.2 hk, by simp [hd]⟩
  obtain ⟨x, hx, e⟩ := List.getElem_of_mem this
  exact ⟨x, hx, by simp [List.getD, hx, e]⟩
theorem FewR.onto {G : Nat → Pr} {n : Nat} {d : Array Nat} (h : FewR G n d) (i : Nat) (hi : i < n) : ∃ k, k < n ∧ d[k]! = i := by
  obtain ⟨_, t, _, h2, h3, h4⟩ := h.mv
  obtain ⟨k, hk, e⟩ := inj_onto n t (fun k hk => (h2 k (Nat.zero_le _) hk).2) (fun i j _ _ e => h3 i j e) i hi
  exact ⟨k, hk, by rw [h4 k, e, range_at n i hi]⟩
theorem FewOut.whole {G : Nat → Pr} {b n cap most : Nat} {w w' : World} {e : Ending} (h : FewOut G b n cap most w e w') (hn : n ≤ most) :
    ∃ (m : Nat) (hh : Nat → Pr), e = .returned (.slice (some ⟨b, 0, none⟩) m cap) ∧ BlkP w' b m hh ∧ FewF G n most m hh ∧ ∀ i, i < n → ∃ x, x < m ∧ prK (hh x) = prK (G i) ∧ (G i).p ≤ (hh x).p := by
  obtain ⟨m1, h1, e1, hB1, hF1, _⟩ := h.facts
  obtain ⟨d, m, hh, e2, hR, hm, hB, hhh, hu⟩ := h
  have hmm : m1 = m := by rw [e1] at e2; simpa using e2
  subst hmm
  refine ⟨m1, hh, e2, hB, ⟨hF1.most_, ?_, ?_, ?_⟩, fun i hi => ?_⟩
  · intro x hx
    have hk := kept_in (fun x => prK (G d[x]!)) n x (by omega)
    exact ⟨_, hR.lt _ hk.1, hhh x hx⟩
  · intro x y hxy hy
    have h1 := kept_lt (fun x => prK (G d[x]!)) n x y hxy (by omega)
    have h2 := (kept_in (fun x => prK (G d[x]!)) n y (by omega)).1
    have := hR.srt _ _ (Nat.zero_le _) h1 h2
    rw [hhh x (by omega), hhh y hy]
    unfold Lt at this
    dsimp only at this
    omega
  · intro x y hxy hy
    have h1 := kept_lt (fun x => prK (G d[x]!)) n x y hxy (by omega)
    have h2 := (kept_in (fun x => prK (G d[x]!)) n y (by omega)).2
    rw [hhh x (by omega), hhh y hy]
    exact dup_no h2 _ h1
  · obtain ⟨k, hk, ek⟩ := hR.onto i hi
    obtain ⟨k0, hk0, e0, hd0⟩ := first_of (fun x => prK (G d[x]!)) k
    obtain ⟨x, hx, ex⟩ := kept_has (fun x => prK (G d[x]!)) n k0 (by omega) hd0
    have hkl := kept_le (fun x => prK (G d[x]!)) n
    refine ⟨x, by omega, ?_, ?_⟩
    · rw [hhh x (by omega), ex]
      rw [e0, ek]
    · rw [hhh x (by omega), ex]
      by_cases hkk : k0 = k
      · rw [hkk, ek]; exact Int.le_refl _
      · have := hR.srt k0 k (Nat.zero_le _) (by omega) hk
        unfold Lt at this
        dsimp only at this
        rw [ek] at this
        omega
theorem rowL_mem (a : Ca) (g : Nat → Ca) (ha : a.k ≠ 4) : ∀ n j, j < n → (g j).k ≠ 4 → pairOf a (g j) ∈ rowL a g n := by
  intro n
  induction n with
  | zero => intro j hj; omega
  | succ n ih =>
    intro j hj hk
    rw [rowL, List.mem_append]
    by_cases e : j = n
    · subst e
      right
      rw [if_neg (by intro q; rcases q with q | q; exact ha q; exact hk q)]
      simp
    · exact .inl (ih j (by omega) hk)
theorem formL_mem (f g : Nat → Ca) (m : Nat) : ∀ n i j, i < n → j < m → (f i).k ≠ 4 → (g j).k ≠ 4 → pairOf (f i) (g j) ∈ formL f g m n := by
  intro n
  induction n with
  | zero => intro i j hi; omega
  | succ n ih =>
    intro i j hi hj h1 h2
    rw [formL, List.mem_append]
    by_cases e : i = n
    · subst e
      exact .inr (rowL_mem (f i) g h1 m j hj h2)
    · exact .inl (ih i j (by omega) hj h1 h2)
/-- Form's answer of few pairs: no key is left out. -/
structure FormW (f g : Nat → Ca) (n m : Nat) (M : Nat) (hh : Nat → Pr) : Prop where
  form : FormF f g n m M hh
  whole : ∀ i j, i < n → j < m → (f i).k ≠ 4 → (g j).k ≠ 4 → ∃ x, x < M ∧ prK (hh x) = prK (pairOf (f i) (g j)) ∧ (pairOf (f i) (g j)).p ≤ (hh x).p
theorem form20_whole (A B : Option Addr) (n m ca cb : Nat) (f g : Nat → Ca) (w : World) (hA : SrcC w A n f) (hB : SrcC w B m g) (hn : n ≤ 3) (hm : m ≤ 3) :
    Calls Tryd.prog 20 #[.slice A n ca, .slice B m cb] w fun e w' => ∃ (R : Option Addr) (M cap : Nat) (hh : Nat → Pr), e = .returned (.slice R M cap) ∧ SrcP w' R M hh ∧ FormW f g n m M hh ∧ Upd (fun _ => False) w w' := by
  refine (form20_any A B n m ca cb f g w hA hB (by omega) (by omega)).mono ?_
  rintro e w' (⟨hz, rfl, hu⟩ | ⟨b, cap, w1, _, hF, hu⟩)
  · refine ⟨none, 0, 0, fun _ => default, rfl, ⟨by omega, fun i hi => by omega⟩, ⟨⟨by omega, fun x hx => by omega, fun x y _ hy => by omega, fun x y _ hy => by omega⟩, fun i j hi hj h1 h2 => ?_⟩, hu⟩
    have := formL_mem f g m n i j hi hj h1 h2
    rw [hz] at this
    simp at this
  · have hl : (formL f g m n).length ≤ 16 := by
      have := formL_len f g m n
      have : n * m ≤ 3 * 3 := Nat.mul_le_mul hn hm
      omega
    obtain ⟨M, hh, rfl, hB2, hf, hw⟩ := hF.whole hl
    refine ⟨_, M, cap, hh, rfl, ⟨by have := hf.most_; omega, fun i hi => ⟨b, rfl, hB2.lt, hB2.cell i 0 hi (by omega), hB2.cell i 1 hi (by omega), hB2.cell i 2 hi (by omega), hB2.cell i 3 hi (by omega), hB2.cell i 4 hi (by omega), hB2.cell i 5 hi (by omega)⟩⟩, ⟨⟨hf.most_, fun x hx => ?_, hf.fall, hf.apart⟩, fun i j hi hj h1 h2 => ?_⟩, hu⟩
    · obtain ⟨i, hi, e⟩ := hf.some_ x hx
      have eg : (formL f g m n).getD i default = (formL f g m n)[i] := by simp [List.getD, hi]
      have := mem_formL f g m ((formL f g m n)[i]) n (List.getElem_mem hi)
      rw [e, eg]; exact this
    · obtain ⟨q, hq, eq⟩ := List.getElem_of_mem (formL_mem f g m n i j hi hj h1 h2)
      obtain ⟨x, hx, e1, e2⟩ := hw q hq
      have eg : (formL f g m n).getD q default = pairOf (f i) (g j) := by simp [List.getD, hq, eq]
      rw [eg] at e1 e2
      exact ⟨x, hx, e1, e2⟩
theorem pairF_turn (a b : Int) : pairF a b / 2 = pairF b a / 2 := by
  unfold pairF
  split <;> split <;> omega
theorem prK_pairOf (a b : Ca) : prK (pairOf a b) = (a.b, b.a) := rfl
/-- Both ends tell the same pairs, turned. -/
theorem turned {f g : Nat → Ca} {n m M N : Nat} {hh kk : Nat → Pr} (hf : ∀ i, i < n → (f i).b = (f i).a) (hg : ∀ j, j < m → (g j).b = (g j).a) (H : FormW f g n m M hh) (K : FormW g f m n N kk) :
    ∀ x, x < M → ∃ y, y < N ∧ (hh x).f = (kk y).t ∧ (hh x).t = (kk y).f ∧ (hh x).p / 2 = (kk y).p / 2 := by
  intro x hx
  obtain ⟨i, j, hi, hj, h1, h2, e⟩ := H.form.some_ x hx
  obtain ⟨y, hy, ey, py⟩ := K.whole j i hj hi h2 h1
  obtain ⟨j', i', hj', hi', h2', h1', e'⟩ := K.form.some_ y hy
  obtain ⟨x', hx', ex', px'⟩ := H.whole i' j' hi' hj' h1' h2'
  rw [e', prK_pairOf, prK_pairOf, hg j hj, hg j' hj'] at ey
  simp only [Prod.mk.injEq] at ey
  have hxx : x' = x := by
    apply Classical.byContradiction
    intro hne
    have hk : prK (hh x') = prK (hh x) := by
      rw [ex', e, prK_pairOf, prK_pairOf, hf i hi, hf i' hi', ey.1, ey.2]
    rcases Nat.lt_or_gt_of_ne hne with h | h
    · exact H.form.apart x' x h hx hk
    · exact H.form.apart x x' h hx' hk.symm
  subst hxx
  refine ⟨y, hy, ?_, ?_, ?_⟩
  · rw [e, e']
    show (f i).b = (f i').a
    rw [hf i hi, ey.2]
  · rw [e, e']
    show (g j).a = (g j').b
    rw [hg j' hj', ey.1]
  · have t1 := pairF_turn (f i').p (g j').p
    have t2 := pairF_turn (f i).p (g j).p
    rw [e'] at py ⊢
    rw [e] at px' ⊢
    simp only [pairOf] at py px' ⊢
    omega
theorem turned_le {f g : Nat → Ca} {n m M N : Nat} {hh kk : Nat → Pr} (hf : ∀ i, i < n → (f i).b = (f i).a) (hg : ∀ j, j < m → (g j).b = (g j).a) (H : FormW f g n m M hh) (K : FormW g f m n N kk) : M ≤ N := by
  have hex := turned hf hg H K
  refine inj_le M N (fun x => if hx : x < M then Classical.choose (hex x hx) else 0) (fun k hk => ?_) (fun a b ha hb e => ?_)
  · rw [dif_pos hk]
    exact (Classical.choose_spec (hex k hk)).1
  · rw [dif_pos ha, dif_pos hb] at e
    have sa := Classical.choose_spec (hex a ha)
    have sb := Classical.choose_spec (hex b hb)
    rw [← e] at sb
    have hk : prK (hh a) = prK (hh b) := Prod.ext (sa.2.1.trans sb.2.1.symm) (sa.2.2.1.trans sb.2.2.1.symm)
    apply Classical.byContradiction
    intro hne
    rcases Nat.lt_or_gt_of_ne hne with h | h
    · exact H.form.apart a b h hb hk
    · exact H.form.apart b a h ha hk.symm
theorem turned_len {f g : Nat → Ca} {n m M N : Nat} {hh kk : Nat → Pr} (hf : ∀ i, i < n → (f i).b = (f i).a) (hg : ∀ j, j < m → (g j).b = (g j).a) (H : FormW f g n m M hh) (K : FormW g f m n N kk) : M = N :=
  Nat.le_antisymm (turned_le hf hg H K) (turned_le hg hf K H)
end Go.Proofs.YtoadbogfbgediaaDoor
