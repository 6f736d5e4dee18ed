/- What few's answer is, in plain words (no statement of the seat). -/
import Derived.Test.YtoadbogfbgediaaDoorForm
namespace Go.Proofs.YtoadbogfbgediaaDoor
open Go.RowKit

theorem kept_in (ks : Nat → Ad × Ad) (n x : Nat) (hx : x < (kept ks n).length) : (kept ks n).getD x 0 < n ∧ dup ks ((kept ks n).getD x 0) = false := by
  have hm : (kept ks n)[x] ∈ kept ks n := List.getElem_mem hx
  have e : (kept ks n).getD x 0 = (kept ks n)[x] := by simp [List.getD, hx]
  rw [e]
  obtain ⟨v, hv⟩ : ∃ v, (kept ks n)[x] = v := ⟨_, rfl⟩
  rw [hv] at hm ⊢
  unfold kept at hm
  have := List.mem_filter.1 hm
  exact ⟨List.mem_range.1 this.1, by simpa using this.2⟩
theorem kept_lt (ks : Nat → Ad × Ad) (n x y : Nat) (hxy : x < y) (hy : y < (kept ks n).length) : (kept ks n).getD x 0 < (kept ks n).getD y 0 := by
  have hp : (kept ks n).Pairwise (· < ·) := List.pairwise_lt_range.filter _
  have e1 : (kept ks n).getD x 0 = (kept ks n)[x] := by simp [List.getD, show x < (kept ks n).length by omega]
  have e2 : (kept ks n).getD y 0 = (kept ks n)[y] := by simp [List.getD, hy]
  rw [e1, e2]
  exact List.pairwise_iff_getElem.1 hp x y (by omega) hy hxy
theorem dup_no {ks : Nat → Ad × Ad} {j : Nat} (h : dup ks j = false) (i : Nat) (hi : i < j) : ks i ≠ ks j := by
  unfold dup at h
  intro e
  have := of_decide_eq_false h
  exact this ((mem_keysOf ks (ks j) j).2 ⟨i, hi, e⟩)
theorem FewR.lt {G : Nat → Pr} {n : Nat} {d : Array Nat} (h : FewR G n d) (i : Nat) (hi : i < n) : d[i]! < n := by
  obtain ⟨_, t, _, h2, _, h4⟩ := h.mv
  rw [h4 i]
  have := (h2 i (Nat.zero_le _) hi).2
  rw [range_at n (t i) this]; exact this
/-- few's answer, in plain words. -/
structure FewF (G : Nat → Pr) (n most m : Nat) (hh : Nat → Pr) : Prop where
  most_ : m ≤ most
  some_ : ∀ x, x < m → ∃ i, i < n ∧ hh x = G i
  fall : ∀ x y, x < y → y < m → (hh y).p ≤ (hh x).p
  apart : ∀ x y, x < y → y < m → prK (hh x) ≠ prK (hh y)
theorem FewOut.facts {G : Nat → Pr} {b n cap most : Nat} {w w' : World} {e : Ending} (h : FewOut G b n cap most w e w') :
    ∃ (m : Nat) (hh : Nat → Pr), e = .returned (.slice (some ⟨b, 0, none⟩) m cap) ∧ BlkP w' b m hh ∧ FewF G n most m hh ∧ Upd (fun k => k = b) w w' := by
  obtain ⟨d, m, hh, rfl, hR, hm, hB, hhh, hu⟩ := h
  refine ⟨m, hh, rfl, hB, ⟨by omega, fun x hx => ?_, fun x y hxy hy => ?_, fun x y hxy hy => ?_⟩, hu⟩
  · have hk := kept_in (fun x => prK (G d[x]!)) n x (by omega)
    exact ⟨_, hR.lt _ hk.1, hhh x hx⟩
  · have h1 := kept_lt (fun x => prK (G d[x]!)) n x y hxy (by omega)
    have h2 := (kept_in (fun x => prK (G d[x]!)) n y (by omega)).1
    have := hR.srt _ _ (Nat.zero_le _) h1 h2
    rw [hhh x (by omega), hhh y hy]
    unfold Lt at this
    dsimp only at this
    omega
  · have h1 := kept_lt (fun x => prK (G d[x]!)) n x y hxy (by omega)
    have h2 := (kept_in (fun x => prK (G d[x]!)) n y (by omega)).2
    rw [hhh x (by omega), hhh y hy]
    exact dup_no h2 _ h1

theorem mem_rowL (a : Ca) (g : Nat → Ca) (x : Pr) : ∀ n, x ∈ rowL a g n → ∃ j, j < n ∧ a.k ≠ 4 ∧ (g j).k ≠ 4 ∧ x = pairOf a (g j) := by
  intro n
  induction n with
  | zero => intro h; simp [rowL] at h
  | succ n ih =>
    intro h
    rw [rowL, List.mem_append] at h
    rcases h with h | h
    · obtain ⟨j, hj, r⟩ := ih h
      exact ⟨j, by omega, r⟩
    · split at h
      · simp at h
      · rename_i hk
        simp at h
        exact ⟨n, by omega, fun q => hk (.inl q), fun q => hk (.inr q), h⟩
theorem mem_formL (f g : Nat → Ca) (m : Nat) (x : Pr) : ∀ n, x ∈ formL f g m n → ∃ i j, i < n ∧ j < m ∧ (f i).k ≠ 4 ∧ (g j).k ≠ 4 ∧ x = pairOf (f i) (g j) := by
  intro n
  induction n with
  | zero => intro h; simp [formL] at h
  | succ n ih =>
    intro h
    rw [formL, List.mem_append] at h
    rcases h with h | h
    · obtain ⟨i, j, hi, r⟩ := ih h
      exact ⟨i, j, by omega, r⟩
    · obtain ⟨j, hj, r⟩ := mem_rowL (f n) g x m h
      exact ⟨n, j, by omega, hj, r⟩
/-- Form's answer: a row of its own, and what stands in it. -/
structure FormF (f g : Nat → Ca) (n m : Nat) (M : Nat) (hh : Nat → Pr) : Prop where
  most_ : M ≤ 16
  some_ : ∀ x, x < M → ∃ i j, i < n ∧ j < m ∧ (f i).k ≠ 4 ∧ (g j).k ≠ 4 ∧ hh x = pairOf (f i) (g j)
  fall : ∀ x y, x < y → y < M → (hh y).p ≤ (hh x).p
  apart : ∀ x y, x < y → y < M → prK (hh x) ≠ prK (hh y)
theorem form20_facts (A B : Option Addr) (n m ca cb : Nat) (f g : Nat → Ca) (w : World) (hA : SrcC w A n f) (hB : SrcC w B m g) (hn : n ≤ 1000) (hm : m ≤ 1000) :
    Calls Tryd.prog 20 #[.slice A n ca, .slice B m cb] w fun e w' => ∃ (R : Option Addr) (M cap : Nat) (hh : Nat → Pr), e = .returned (.slice R M cap) ∧ SrcP w' R M hh ∧ FormF f g n m M hh ∧ Upd (fun _ => False) w w' := by
  refine (form20_any A B n m ca cb f g w hA hB hn hm).mono ?_
  rintro e w' (⟨_, rfl, hu⟩ | ⟨b, cap, w1, _, hF, hu⟩)
  · exact ⟨none, 0, 0, fun _ => default, rfl, ⟨by omega, fun i hi => by omega⟩, ⟨by omega, fun x hx => by omega, fun x y _ hy => by omega, fun x y _ hy => by omega⟩, hu⟩
  · obtain ⟨M, hh, rfl, hB2, hf, _⟩ := hF.facts
    refine ⟨_, M, cap, hh, rfl, ⟨by have := hf.most_; omega, fun i hi => ⟨b, rfl, hB2.lt, hB2.cell i 0 hi (by omega), hB2.cell i 1 hi (by omega), hB2.cell i 2 hi (by omega), hB2.cell i 3 hi (by omega), hB2.cell i 4 hi (by omega), hB2.cell i 5 hi (by omega)⟩⟩, ⟨hf.most_, fun x hx => ?_, hf.fall, hf.apart⟩, hu⟩
    obtain ⟨i, hi, e⟩ := hf.some_ x hx
    have eg : (formL f g m n).getD i default = (formL f g m n)[i] := by simp [List.getD, hi]
    have := mem_formL f g m ((formL f g m n)[i]) n (List.getElem_mem hi)
    rw [e, eg]; exact this
end Go.Proofs.YtoadbogfbgediaaDoor
