/- The window over a list of the numbers that were taken: plain facts on natural numbers (no statement of the seat). -/
namespace Go.Proofs.Ytgfpmonfdplalaa

/-- May n be taken, if those of L were? -/
def freshB (L : List Nat) (n : Nat) : Bool := n != 18446744073709551615 && !(L.contains n) && L.all (fun m => decide (m < n + 64))
def takeL (L : List Nat) (n : Nat) : List Nat := if freshB L n = true then L ++ [n] else L
def topL (L : List Nat) : Nat := L.foldl max 0

/-- What the window's two words say. -/
structure Inv (top seen : Nat) (L : List Nat) : Prop where
  t : top < 18446744073709551616
  s : seen < 18446744073709551616
  bit : ∀ i, i < 64 → (seen.testBit i = true ↔ (i ≤ top ∧ top - i ∈ L))
  le : ∀ m, m ∈ L → m ≤ top
  nil : L = [] → top = 0 ∧ seen = 0
  mem : L ≠ [] → top ∈ L

theorem inv_nil : Inv 0 0 [] := ⟨by decide, by decide, by intro i _; simp, (by intro m h; cases h), fun _ => ⟨rfl, rfl⟩, fun h => absurd rfl h⟩

theorem Inv.seen_zero {top seen : Nat} {L : List Nat} (h : Inv top seen L) : seen = 0 ↔ L = [] := by
  constructor
  · intro h0
    by_cases hL : L = []
    · exact hL
    · have := (h.bit 0 (by decide)).2 ⟨Nat.zero_le _, by simpa using h.mem hL⟩
      rw [h0] at this; simp at this
  · intro h0; exact (h.nil h0).2

/-- What the code computes. -/
def freshC (top seen n : Nat) : Bool :=
  if n = 18446744073709551615 then false else if seen = 0 then true else if top < n then true else
    (decide (top - n < 64) && !(seen.testBit (top - n)))

theorem freshB_iff (L : List Nat) (n : Nat) : freshB L n = true ↔ (n ≠ 18446744073709551615 ∧ n ∉ L ∧ ∀ m, m ∈ L → m < n + 64) := by
  simp [freshB, and_assoc]

theorem freshC_eq {top seen : Nat} {L : List Nat} (h : Inv top seen L) (n : Nat) (_hn : n < 18446744073709551616) : freshC top seen n = freshB L n := by
  rw [Bool.eq_iff_iff, freshB_iff]
  unfold freshC
  by_cases h1 : n = 18446744073709551615
  · simp [h1]
  rw [if_neg h1]
  by_cases h2 : seen = 0
  · have hL := h.seen_zero.1 h2
    rw [if_pos h2]; subst hL; simp [h1]
  rw [if_neg h2]
  have hL : L ≠ [] := fun e => h2 (h.seen_zero.2 e)
  by_cases h3 : top < n
  · rw [if_pos h3]
    refine ⟨fun _ => ⟨h1, fun hm => ?_, fun m hm => ?_⟩, fun _ => rfl⟩
    · have := h.le n hm; omega
    · have := h.le m hm; omega
  · rw [if_neg h3]
    have ht := h.mem hL
    simp only [Bool.and_eq_true, decide_eq_true_eq, Bool.not_eq_true']
    constructor
    · rintro ⟨ha, hb⟩
      refine ⟨h1, fun hm => ?_, fun m hm => ?_⟩
      · have := (h.bit (top - n) ha).2 ⟨by omega, by rw [show top - (top - n) = n by omega]; exact hm⟩
        rw [hb] at this; cases this
      · have := h.le m hm; omega
    · rintro ⟨_, hm, hall⟩
      have h64 : top - n < 64 := by have := hall top ht; omega
      refine ⟨h64, ?_⟩
      cases hbit : seen.testBit (top - n) with
      | false => rfl
      | true =>
        have := ((h.bit _ h64).1 hbit).2
        rw [show top - (top - n) = n by omega] at this
        exact absurd this hm

/-- The two words behind a number that is taken. -/
def takeT (top seen n : Nat) : Nat := if seen = 0 then n else if top < n then n else top
def takeS (top seen n : Nat) : Nat :=
  if seen = 0 then 1 else if top < n then (seen <<< (n - top)) % 18446744073709551616 ||| 1 else seen ||| (1 <<< (top - n))

theorem shl_bit (seen k i : Nat) (hi : i < 64) : ((seen <<< k) % 18446744073709551616).testBit i = (decide (k ≤ i) && seen.testBit (i - k)) := by
  rw [show (18446744073709551616 : Nat) = 2 ^ 64 from rfl, Nat.testBit_mod_two_pow]
  simp [hi, Nat.testBit_shiftLeft]

theorem Inv.take {top seen : Nat} {L : List Nat} (h : Inv top seen L) {n : Nat} (hn : n < 18446744073709551616) (hf : freshB L n = true) :
    Inv (takeT top seen n) (takeS top seen n) (n :: L) := by
  obtain ⟨h1, hm, hall⟩ := (freshB_iff L n).1 hf
  by_cases h2 : seen = 0
  · have hL := h.seen_zero.1 h2
    subst hL
    have ht : takeT top seen n = n := by simp [takeT, h2]
    have hs : takeS top seen n = 1 := by simp [takeS, h2]
    rw [ht, hs]
    refine ⟨hn, by decide, fun i hi => ?_, fun m hm => ?_, fun e => by (cases e), fun _ => by simp⟩
    · have h1 : (1 : Nat).testBit i = decide (i = 0) := by
        cases i with
        | zero => rfl
        | succ j => simp [Nat.testBit_succ]
      rw [h1]
      simp only [decide_eq_true_eq, List.mem_cons, List.not_mem_nil, or_false]
      omega
    · simp at hm; omega
  · have hL : L ≠ [] := fun e => h2 (h.seen_zero.2 e)
    by_cases h3 : top < n
    · have ht : takeT top seen n = n := by simp [takeT, h2, h3]
      have hs : takeS top seen n = (seen <<< (n - top)) % 18446744073709551616 ||| 1 := by simp [takeS, h2, h3]
      rw [ht, hs]
      refine ⟨hn, ?_, fun i hi => ?_, fun m hm => ?_, fun e => by (cases e), fun _ => by simp⟩
      · exact Nat.or_lt_two_pow (n := 64) (Nat.mod_lt _ (by decide)) (by decide)
      · rw [Nat.testBit_or, shl_bit _ _ _ hi]
        cases i with
        | zero => simp
        | succ j =>
          have : (1 : Nat).testBit (j + 1) = false := by simp [Nat.testBit_succ]
          rw [this, Bool.or_false, Bool.and_eq_true, decide_eq_true_eq]
          constructor
          · rintro ⟨ha, hb⟩
            have := (h.bit (j + 1 - (n - top)) (by omega)).1 hb
            refine ⟨by omega, List.mem_cons_of_mem _ ?_⟩
            rw [show n - (j + 1) = top - (j + 1 - (n - top)) by omega]; exact this.2
          · rintro ⟨ha, hb⟩
            rcases List.mem_cons.1 hb with hb | hb
            · omega
            · have hle := h.le _ hb
              refine ⟨by omega, (h.bit _ (by omega)).2 ⟨by omega, ?_⟩⟩
              rw [show top - (j + 1 - (n - top)) = n - (j + 1) by omega]; exact hb
      · rcases List.mem_cons.1 hm with e | hm
        · omega
        · have := h.le m hm; omega
    · have ht : takeT top seen n = top := by simp [takeT, h2, h3]
      have hs : takeS top seen n = seen ||| (1 <<< (top - n)) := by simp [takeS, h2, h3]
      have h64 : top - n < 64 := by have := hall top (h.mem hL); omega
      rw [ht, hs]
      refine ⟨h.t, ?_, fun i hi => ?_, fun m hm => ?_, fun e => by (cases e), fun _ => List.mem_cons_of_mem _ (h.mem hL)⟩
      · refine Nat.or_lt_two_pow (n := 64) h.s ?_
        rw [Nat.one_shiftLeft]
        exact Nat.pow_lt_pow_right (by decide) h64
      · rw [Nat.testBit_or, Nat.one_shiftLeft, Nat.testBit_two_pow, Bool.or_eq_true, h.bit i hi, decide_eq_true_eq, List.mem_cons]
        constructor
        · rintro (⟨ha, hb⟩ | hb)
          · exact ⟨ha, .inr hb⟩
          · exact ⟨by omega, .inl (by omega)⟩
        · rintro ⟨ha, hb | hb⟩
          · exact .inr (by omega)
          · exact .inl ⟨ha, hb⟩
      · rcases List.mem_cons.1 hm with e | hm
        · omega
        · exact h.le m hm

theorem Inv.congr {top seen : Nat} {L L' : List Nat} (h : Inv top seen L) (he : ∀ m, m ∈ L ↔ m ∈ L') : Inv top seen L' := by
  have hn : L = [] ↔ L' = [] := by
    rw [List.eq_nil_iff_forall_not_mem, List.eq_nil_iff_forall_not_mem]
    exact ⟨fun h m hm => h m ((he m).2 hm), fun h m hm => h m ((he m).1 hm)⟩
  refine ⟨h.t, h.s, fun i hi => ?_, fun m hm => h.le m ((he m).2 hm), fun e => h.nil (hn.2 e), fun e => (he _).1 (h.mem (fun e' => e (hn.1 e')))⟩
  rw [h.bit i hi, he]
theorem Inv.take' {top seen : Nat} {L : List Nat} (h : Inv top seen L) {n : Nat} (hn : n < 18446744073709551616) (hf : freshB L n = true) :
    Inv (takeT top seen n) (takeS top seen n) (L ++ [n]) := (h.take hn hf).congr (by intro m; simp [or_comm])

theorem foldl_max (l : List Nat) (x t : Nat) (hl : ∀ m, m ∈ l → m ≤ t) (hx : x ≤ t) (hm : t = x ∨ t ∈ l) : l.foldl max x = t := by
  induction l generalizing x with
  | nil => simpa using hm.elim Eq.symm (fun h => by cases h)
  | cons a l ih =>
    rw [List.foldl_cons]
    have ha := hl a (by simp)
    refine ih (max x a) (fun m h => hl m (List.mem_cons_of_mem _ h)) (by omega) ?_
    rcases hm with hm | hm
    · exact .inl (by omega)
    · rcases List.mem_cons.1 hm with hm | hm
      · exact .inl (by omega)
      · exact .inr hm
theorem Inv.top {top seen : Nat} {L : List Nat} (h : Inv top seen L) : top = topL L := by
  unfold topL
  by_cases hL : L = []
  · rw [(h.nil hL).1, hL]; rfl
  · exact (foldl_max L 0 top h.le (Nat.zero_le _) (.inr (h.mem hL))).symm

theorem takeL_lt {L : List Nat} {n B : Nat} (h : ∀ m, m ∈ L → m < B) (hn : n < B) : ∀ m, m ∈ takeL L n → m < B := by
  intro m hm
  unfold takeL at hm
  split at hm
  · rcases List.mem_append.1 hm with hm | hm
    · exact h m hm
    · simp at hm; omega
  · exact h m hm

theorem takeL_no {L : List Nat} {n : Nat} (h : freshB L n = false) : takeL L n = L := by unfold takeL; rw [h]; rfl
theorem takeL_yes {L : List Nat} {n : Nat} (h : freshB L n = true) : takeL L n = L ++ [n] := by unfold takeL; rw [h]; rfl
theorem fresh_of {L : List Nat} {n : Nat} (h1 : n ≠ 18446744073709551615) (h2 : n ∉ L) (h3 : ∀ m, m ∈ L → m < n + 64) : freshB L n = true := (freshB_iff L n).2 ⟨h1, h2, h3⟩
theorem not_fresh {L : List Nat} {n : Nat} (h : n = 18446744073709551615 ∨ n ∈ L ∨ ∃ m, m ∈ L ∧ n + 64 ≤ m) : freshB L n = false := by
  cases hf : freshB L n with
  | false => rfl
  | true =>
    obtain ⟨h1, h2, h3⟩ := (freshB_iff L n).1 hf
    rcases h with h | h | ⟨m, hm, h⟩
    · exact absurd h h1
    · exact absurd h h2
    · have := h3 m hm; omega

end Go.Proofs.Ytgfpmonfdplalaa
