/- What Gather's answer is, in plain words; and of its answer again (no statement of the seat). -/
import Derived.Test.YtoadbogfbgediaaDoorGather
import Derived.Test.YtoadbogfbgediaaDoorFacts
namespace Go.Proofs.YtoadbogfbgediaaDoor
open Go.RowKit

theorem FewRC.lt {G : Nat → Ca} {n : Nat} {d : Array Nat} (h : FewRC G n d) (i : Nat) (hi : i < n) : d[i]! < n := by
  obtain ⟨_, t, _, h2, _, h4⟩ := h.mv
  rw [h4 i]
  have := (h2 i (Nat.zero_le _) hi).2
  rw [range_at n (t i) this]; exact this
/-- Gather's answer: a row of its own, and what stands in it. -/
structure GathF (f : Nat → Ca) (n m : Nat) (hh : Nat → Ca) : Prop where
  most_ : m ≤ 8
  some_ : ∀ x, x < m → ∃ j, j < n ∧ isK (f j).k = true ∧ hh x = placed (f j) j
  fall : ∀ x y, x < y → y < m → (hh y).p ≤ (hh x).p
  apart : ∀ x y, x < y → y < m → caK (hh x) ≠ caK (hh y)
theorem mem_gathL (f : Nat → Ca) (c : Ca) : ∀ n, c ∈ gathL f n → ∃ j, j < n ∧ isK (f j).k = true ∧ c = placed (f j) j := by
  intro n
  induction n with
  | zero => intro h; simp [gathL] at h
  | succ n ih =>
    intro h
    rw [gathL, List.mem_append] at h
    rcases h with h | h
    · obtain ⟨j, hj, r⟩ := ih h
      exact ⟨j, by omega, r⟩
    · split at h
      · rename_i hk
        simp at h
        exact ⟨n, by omega, hk, h⟩
      · simp at h
theorem inc_id (D : Nat → Nat) (n : Nat) (hlt : ∀ i, i < n → D i < n) (hin : ∀ i j, i < j → j < n → D i < D j) : ∀ i, i < n → D i = i := by
  have h1 : ∀ i, i < n → i ≤ D i := by
    intro i
    induction i with
    | zero => intro _; omega
    | succ i ih => intro h; have := ih (by omega); have := hin i (i + 1) (by omega) h; omega
  have h2 : ∀ k i, i + k + 1 = n → D i ≤ i := by
    intro k
    induction k with
    | zero => intro i h; have := hlt i (by omega); omega
    | succ k ih => intro i h; have := ih (i + 1) (by omega); have := hin i (i + 1) (by omega) (by omega); omega
  intro i hi
  have := h1 i hi
  have := h2 (n - 1 - i) i (by omega)
  omega
/-- Where the worths fall strictly the sort leaves all in place. -/
theorem FewRC.same {G : Nat → Ca} {n : Nat} {d : Array Nat} (h : FewRC G n d) (hs : ∀ i j, i < j → j < n → (G j).p < (G i).p) : ∀ i, i < n → d[i]! = i := by
  refine inc_id (fun i => d[i]!) n (fun i hi => h.lt i hi) (fun i j hij hj => ?_)
  have hl := h.srt i j (Nat.zero_le _) hij hj
  unfold Lt at hl
  dsimp only at hl ⊢
  by_cases hc : d[i]! < d[j]!
  · exact hc
  · exfalso
    by_cases he : d[i]! = d[j]!
    · rw [he] at hl; omega
    · have := hs d[j]! d[i]! (by omega) (h.lt i (by omega))
      omega
theorem gath_facts {f : Nat → Ca} {n b cp : Nat} {w w' : World} {e : Ending} (h : FewOutC (fun x => (gathL f n).getD x default) b (gathL f n).length cp 8 w e w') :
    ∃ (m : Nat) (hh : Nat → Ca), e = .returned (.slice (some ⟨b, 0, none⟩) m cp) ∧ BlkC w' b m hh ∧ GathF f n m hh ∧ m ≤ (gathL f n).length := by
  obtain ⟨d, m, hh, rfl, hR, hm, hB, hhh, _⟩ := h
  dsimp only at hm hhh
  have hk : ∀ x, x < m → (kept (fun x => caK ((gathL f n).getD d[x]! default)) (gathL f n).length).getD x 0 < (gathL f n).length ∧ dup (fun x => caK ((gathL f n).getD d[x]! default)) ((kept (fun x => caK ((gathL f n).getD d[x]! default)) (gathL f n).length).getD x 0) = false :=
    fun x hx => kept_in _ _ x (by omega)
  refine ⟨m, hh, rfl, hB, ⟨by omega, fun x hx => ?_, fun x y hxy hy => ?_, fun x y hxy hy => ?_⟩, by have := kept_le (fun x => caK ((gathL f n).getD d[x]! default)) (gathL f n).length; omega⟩
  · have h1 := hR.lt _ (hk x hx).1
    rw [hhh x hx]
    have eg : (gathL f n).getD d[(kept (fun x => caK ((gathL f n).getD d[x]! default)) (gathL f n).length).getD x 0]! default = (gathL f n)[d[(kept (fun x => caK ((gathL f n).getD d[x]! default)) (gathL f n).length).getD x 0]!] := by
      rw [List.getD_eq_getElem?_getD, List.getElem?_eq_getElem h1]; rfl
    have := mem_gathL f _ n (List.getElem_mem h1)
    rw [← eg] at this
    exact this
  · have h1 := kept_lt (fun x => caK ((gathL f n).getD d[x]! default)) (gathL f n).length x y hxy (by omega)
    have := hR.srt _ _ (Nat.zero_le _) h1 (hk y hy).1
    rw [hhh x (by omega), hhh y hy]
    unfold Lt at this
    dsimp only at this ⊢
    omega
  · have h1 := kept_lt (fun x => caK ((gathL f n).getD d[x]! default)) (gathL f n).length x y hxy (by omega)
    rw [hhh x (by omega), hhh y hy]
    exact dup_no (hk y hy).2 _ h1
theorem gathL_all (h : Nat → Ca) : ∀ m, (∀ x, x < m → isK (h x).k = true) → (gathL h m).length = m ∧ ∀ x, x < m → (gathL h m).getD x default = placed (h x) x := by
  intro m
  induction m with
  | zero => intro _; exact ⟨rfl, fun x hx => by omega⟩
  | succ m ih =>
    intro hk
    obtain ⟨h1, h2⟩ := ih (fun x hx => hk x (by omega))
    rw [gathL, if_pos (hk m (by omega))]
    refine ⟨by simp [h1], fun x hx => ?_⟩
    by_cases e : x = m
    · subst e
      simp [List.getD, h1]
    · have : x < (gathL h m).length := by omega
      rw [← h2 x (by omega)]
      simp [List.getD, List.getElem?_append_left this]
/-- Gather of what Gather told: the same, each with the priority of its place. -/
theorem gath_again {f : Nat → Ca} {n m : Nat} {h1 : Nat → Ca} (H : GathF f n m h1) (hn : n ≤ 1000) {b cp : Nat} {w w' : World} {e : Ending}
    (h : FewOutC (fun x => (gathL h1 m).getD x default) b (gathL h1 m).length cp 8 w e w') :
    ∃ h2 : Nat → Ca, e = .returned (.slice (some ⟨b, 0, none⟩) m cp) ∧ BlkC w' b m h2 ∧ ∀ x, x < m → h2 x = placed (h1 x) x := by
  have hisK : ∀ x, x < m → isK (h1 x).k = true := fun x hx => by
    obtain ⟨j, _, hk, e⟩ := H.some_ x hx
    rw [e]; exact hk
  obtain ⟨hl, hg⟩ := gathL_all h1 m hisK
  obtain ⟨d, m2, h2, rfl, hR, hm, hB, hhh, _⟩ := h
  rw [hl] at hR hm hhh
  have h8 := H.most_
  have hw : ∀ x y, x < y → y < m → worth (h1 y).k ≤ worth (h1 x).k := fun x y hxy hy => by
    obtain ⟨i, hi, ki, ei⟩ := H.some_ x (by omega)
    obtain ⟨j, hj, kj, ej⟩ := H.some_ y hy
    have hf := H.fall x y hxy hy
    rw [ei, ej] at hf ⊢
    simp only [placed] at hf ⊢
    unfold prioF at hf
    rw [if_pos ki, if_pos kj] at hf
    have c1 := clamp_in (65535 - (i : Int))
    have c2 := clamp_in (65535 - (j : Int))
    omega
  have hstrict : ∀ i j, i < j → j < m → ((gathL h1 m).getD j default).p < ((gathL h1 m).getD i default).p := fun i j hij hj => by
    rw [hg i (by omega), hg j hj]
    simp only [placed]
    unfold prioF
    rw [if_pos (hisK i (by omega)), if_pos (hisK j hj)]
    have c1 := (clamp_spec (65535 - (i : Int))).2.1 (by omega) (by omega)
    have c2 := (clamp_spec (65535 - (j : Int))).2.1 (by omega) (by omega)
    rw [c1, c2]
    have := hw i j hij hj
    omega
  have hid0 := hR.same hstrict
  have hkeys : ∀ x, x < m → caK ((gathL h1 m).getD d[x]! default) = caK (h1 x) := fun x hx => by
    rw [hid0 x hx, hg x hx]; rfl
  have hnodup : ∀ j, j < m → dup (fun x => caK ((gathL h1 m).getD d[x]! default)) j = false := fun j hj => by
    unfold dup
    rw [decide_eq_false_iff_not, mem_keysOf]
    rintro ⟨i, hi, e⟩
    dsimp only at e
    rw [hkeys i (by omega), hkeys j hj] at e
    exact H.apart i j hi hj e
  have hkept := kept_all (fun x => caK ((gathL h1 m).getD d[x]! default)) m hnodup
  rw [hkept] at hm hhh
  simp only [List.length_range] at hm
  obtain rfl : m2 = m := by omega
  refine ⟨h2, rfl, hB, fun x hx => ?_⟩
  have e1 : (List.range m2).getD x 0 = x := by simp [List.getD, hx]
  rw [hhh x hx, e1]
  dsimp only
  rw [hid0 x hx, hg x hx]
end Go.Proofs.YtoadbogfbgediaaDoor
