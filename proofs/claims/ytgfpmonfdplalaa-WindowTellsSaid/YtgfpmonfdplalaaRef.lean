/- The calls of the document's window (no statement of the seat). -/
import Derived.Test.YtgfpmonfdplalaaApp
import Derived.Test.YtgfpmonfdplalaaPlain
import Derived.Deep.QuietTactic
import Derived.BigQuiet
import Derived.WalkLawsBesides
namespace Go.Proofs.Ytgfpmonfdplalaa
open Go.RowKit

/-- The document's window at block g holds the list L; its row lies from block base on. -/
def RefW (g base : Nat) (L : List Nat) (w : World) : Prop :=
  ∃ v, w.heap[g]? = some (.cells #[v] 30 (0, 0)) ∧ w.ownsRow base 23 1 v L.length (words L)

theorem take_succ_getD (L : List Nat) (j : Nat) (h : j < L.length) : L.take (j + 1) = L.take j ++ [L.getD j 0] := by
  rw [List.take_succ_eq_append_getElem h, List.getD_eq_getElem?_getD, List.getElem?_eq_getElem h]; rfl
theorem topL_snoc (L : List Nat) (x : Nat) : topL (L ++ [x]) = max (topL L) x := by simp [topL]
theorem max_val (t x : Nat) : (if t < x then ((x : Nat) : Int) else ((t : Nat) : Int)) = ((max t x : Nat) : Int) := by
  by_cases h : t < x
  · rw [if_pos h]; omega
  · rw [if_neg h]; omega

def RTopRel (w : World) (L : List Nat) (out i : Value) (wr : World) : Prop :=
  ∃ (j : Nat), j ≤ L.length ∧ i = .int .i64 j ∧ out = .int .u64 ((topL (L.take j) : Nat) : Int) ∧ wr = w

set_option maxHeartbeats 2000000 in
theorem ref_top (g base : Nat) (L : List Nat) (w : World) (h : RefW g base L w) (hlen : L.length ≤ 1000000) (hL : ∀ m, m ∈ L → m < 18446744073709551616) :
    Calls Try.prog 12 #[.pointer (some ⟨g, 0, none⟩)] w fun e w' => e = .returned (.tuple #[.int .u64 (topL L), .bool (!L.isEmpty)]) ∧ ∃ k, w' = w.drewN k := by
  obtain ⟨v, hb, hr⟩ := h
  have c0 : w.cell? ⟨g, 0, none⟩ = some v := (blk_cell hb 0).trans rfl
  obtain ⟨A, cap, rfl, hcells⟩ := row_out hr
  have HC := hid hcells
  have HL := hid hL
  clear hb hr hcells hL
  go_enter Try.func12, Try.ntmps12
  go_wp2_with fail
  go_loopw [4, 5] (fun out i wr => RTopRel w L out i wr) (fun _ i _ => L.length - (intOf i).toNat)
  case atStart => exact ⟨0, Nat.zero_le _, rfl, rfl, rfl⟩
  case round =>
    obtain ⟨j, hj, rfl, rfl, rfl⟩ := hrel
    by_cases hjl : j < L.length
    · obtain ⟨gr, hA, hgr, hgl, hcell⟩ := HC.out j hjl
      subst hA
      obtain ⟨x, hx⟩ : ∃ x, L.getD j 0 = x := ⟨_, rfl⟩
      rw [hx] at hcell
      obtain ⟨t, ht⟩ : ∃ t, topL (L.take j) = t := ⟨_, rfl⟩
      rw [ht]
      have kj : decide (j < L.length) = true := decide_eq_true hjl
      have HX := hid hx
      have HT := hid ht
      clear hx ht
      go_wp2_with fail
      refine ⟨⟨j + 1, by omega, by go_num, ?_, rfl⟩, by simp [intOf]; omega⟩
      rw [take_succ_getD L j hjl, topL_snoc, HX.out, HT.out, max_val]
    · have kj : decide (j < L.length) = false := decide_eq_false hjl
      have ht : L.take j = L := List.take_of_length_le (by omega)
      rw [ht]
      obtain ⟨t, ht⟩ : ∃ t, topL L = t := ⟨_, rfl⟩
      rw [ht]
      have hE : decide (0 < L.length) = !L.isEmpty := by cases L <;> simp
      have HE := hid hE
      have HT := hid ht
      clear ht hE
      go_wp2_with fail
      go_quiet (fail)
      go_wp2_with fail
      go_ret2
      refine ⟨?_, _, rfl⟩
      rw [← HE.out, HT.out]
      rfl

theorem freshB_top (L : List Nat) (n : Nat) : (n != 18446744073709551615 && !(!L.isEmpty && decide (n < topL L) && decide (64 ≤ topL L - n)) && !(L.contains n)) = freshB L n := by
  rw [Bool.eq_iff_iff, freshB_iff]
  simp only [Bool.and_eq_true, Bool.not_eq_true', Bool.and_eq_false_iff, Bool.not_eq_false', decide_eq_false_iff_not, bne_iff_ne, ne_eq, List.isEmpty_iff]
  have hc : L.contains n = false ↔ n ∉ L := by simp
  rw [hc]
  have hle : ∀ m, m ∈ L → m ≤ topL L := fun m hm => by
    unfold topL
    have : ∀ (l : List Nat) (x : Nat), x ≤ l.foldl max x ∧ ∀ m, m ∈ l → m ≤ l.foldl max x := by
      intro l
      induction l with
      | nil => intro x; simp
      | cons a l ih =>
        intro x
        rw [List.foldl_cons]
        have := ih (max x a)
        refine ⟨by omega, fun m hm => ?_⟩
        rcases List.mem_cons.1 hm with e | h
        · have := this.1; omega
        · exact this.2 m h
    exact (this L 0).2 m hm
  have hmem : L ≠ [] → topL L ∈ L := by
    unfold topL
    have : ∀ (l : List Nat) (x : Nat), l.foldl max x = x ∨ l.foldl max x ∈ l := by
      intro l
      induction l with
      | nil => intro x; simp
      | cons a l ih =>
        intro x
        rw [List.foldl_cons]
        rcases ih (max x a) with h | h
        · rw [h]
          rcases Nat.le_total x a with h' | h'
          · rw [Nat.max_eq_right h']; exact .inr (by simp)
          · rw [Nat.max_eq_left h']; exact .inl rfl
        · exact .inr (List.mem_cons_of_mem _ h)
    intro hne
    rcases this L 0 with h | h
    · cases L with
      | nil => exact absurd rfl hne
      | cons a l =>
        have := hle a (by simp)
        unfold topL at this
        rw [h] at this ⊢
        have ha : a = 0 := by omega
        rw [ha]; simp
    · exact h
  constructor
  · rintro ⟨⟨h1, h2⟩, h3⟩
    refine ⟨h1, h3, fun m hm => ?_⟩
    have := hle m hm
    rcases h2 with (h2 | h2) | h2
    · subst h2; cases hm
    · omega
    · omega
  · rintro ⟨h1, h2, h3⟩
    refine ⟨⟨h1, ?_⟩, h2⟩
    by_cases hL : L = []
    · exact .inl (.inl hL)
    · have := h3 _ (hmem hL)
      exact .inr (by omega)

theorem contains_take_succ (L : List Nat) (j n : Nat) (h : j < L.length) : (L.take (j + 1)).contains n = ((L.take j).contains n || (L.getD j 0 == n)) := by
  rw [take_succ_getD L j h, Bool.eq_iff_iff, List.contains_iff_mem, Bool.or_eq_true, List.contains_iff_mem, beq_iff_eq, List.mem_append, List.mem_singleton]
  exact or_congr Iff.rfl eq_comm

def RFreshRel (w : World) (L : List Nat) (n : Nat) (i : Value) (wr : World) : Prop :=
  ∃ (j : Nat), j ≤ L.length ∧ i = .int .i64 j ∧ (L.take j).contains n = false ∧ wr = w

set_option maxHeartbeats 2000000 in
theorem ref_fresh (g base : Nat) (L : List Nat) (n : Nat) (w : World) (h : RefW g base L w) (hlen : L.length ≤ 1000000) (hL : ∀ m, m ∈ L → m < 18446744073709551616) (hn : n < 18446744073709551616) :
    Calls Try.prog 14 #[.pointer (some ⟨g, 0, none⟩), .int .u64 n] w fun e w' => e = .returned (.bool (freshB L n)) ∧ ∃ k, w' = w.drewN k := by
  have htop : topL L < 18446744073709551616 := by
    unfold topL
    have : ∀ (l : List Nat) (x : Nat), x < 18446744073709551616 → (∀ m, m ∈ l → m < 18446744073709551616) → l.foldl max x < 18446744073709551616 := by
      intro l
      induction l with
      | nil => intro x hx _; simpa using hx
      | cons a l ih => intro x hx h; exact ih _ (by have := h a (by simp); omega) (fun m hm => h m (List.mem_cons_of_mem _ hm))
    exact this L 0 (by decide) hL
  have HF := hid (freshB_top L n)
  obtain ⟨t, ht⟩ : ∃ t, topL L = t := ⟨_, rfl⟩
  rw [ht] at htop HF
  have HTP := hid (ref_top g base L w h hlen hL)
  rw [ht] at HTP
  clear ht
  obtain ⟨emp, hemp⟩ : ∃ b, (!L.isEmpty) = b := ⟨_, rfl⟩
  rw [hemp] at HF HTP
  clear hemp
  obtain ⟨v, hb, hr⟩ := h
  have c0 : w.cell? ⟨g, 0, none⟩ = some v := (blk_cell hb 0).trans rfl
  obtain ⟨A, cap, rfl, hcells⟩ := row_out hr
  have HC := hid hcells
  have HL := hid hL
  clear hb hr hcells hL
  by_cases h1 : n = 18446744073709551615
  · have k : (((n : Nat) : Int) == 18446744073709551615) = true := by simp [h1]
    have hres : freshB L n = false := by rw [← HF.out]; simp [h1]
    rw [hres]
    clear hres h1
    go_enter Try.func14, Try.ntmps14
    go_wp2_with fail
    refine HTP.out.mono ?_
    rintro e w' ⟨rfl, nd, rfl⟩
    go_wp2_with fail
    go_ret
    exact ⟨rfl, _, rfl⟩
  have k : (((n : Nat) : Int) == 18446744073709551615) = false := by simpa using (by omega : ¬ (n : Int) = 18446744073709551615)
  by_cases h2 : (emp && decide (n < t) && decide (64 ≤ t - n)) = true
  · have hres : freshB L n = false := by rw [← HF.out, h2]; simp
    rw [hres]
    simp only [Bool.and_eq_true, decide_eq_true_eq] at h2
    obtain ⟨⟨h3, h4⟩, h5⟩ := h2
    subst h3
    have k2 : decide (n < t) = true := decide_eq_true h4
    have hsub : IntKind.u64.wrap ((t : Int) - n) = ((t - n : Nat) : Int) := by rw [IntKind.wrap_u64]; omega
    have k3 : decide (64 ≤ ((t - n : Nat) : Int)) = true := decide_eq_true (by omega)
    have k4 : decide (64 ≤ t - n) = true := decide_eq_true h5
    clear hres h1
    go_enter Try.func14, Try.ntmps14
    go_wp2_with fail
    refine HTP.out.mono ?_
    rintro e w' ⟨rfl, nd, rfl⟩
    go_wp2_with fail
    go_ret
    exact ⟨rfl, _, rfl⟩
  have hres : freshB L n = !(L.contains n) := by
    rw [← HF.out]
    have : (emp && decide (n < t) && decide (64 ≤ t - n)) = false := by simpa using h2
    rw [this]
    simp [h1]
  have HRS := hid hres
  have h3 : emp = false ∨ (emp = true ∧ decide (n < t) = false ∧ t ≤ n) ∨
      (emp = true ∧ decide (n < t) = true ∧ n < t ∧ IntKind.u64.wrap ((t : Int) - n) = ((t - n : Nat) : Int) ∧ decide (64 ≤ ((t - n : Nat) : Int)) = false ∧ decide (64 ≤ t - n) = false) := by
    cases hemp : emp with
    | false => exact .inl rfl
    | true =>
      rcases Nat.lt_or_ge n t with h | h
      · refine .inr (.inr ⟨rfl, decide_eq_true h, h, by rw [IntKind.wrap_u64]; omega, ?_, ?_⟩)
        · rw [hemp] at h2; simp [h] at h2; exact decide_eq_false (by omega)
        · rw [hemp] at h2; simp [h] at h2; exact decide_eq_false (by omega)
      · exact .inr (.inl ⟨rfl, decide_eq_false (by omega), h⟩)
  clear hres h1 h2
  rcases h3 with rfl | ⟨rfl, k2, k3⟩ | ⟨rfl, k2, k3, k4, k5, k6⟩
  all_goals
    go_enter Try.func14, Try.ntmps14
    go_wp2_with fail
    refine HTP.out.mono ?_
    rintro e w' ⟨rfl, nd, rfl⟩
    go_wp2_with fail
    obtain ⟨w2, hw2⟩ : ∃ w2, w.drewN nd = w2 := ⟨_, rfl⟩
    have hnd : ∃ k, w2 = w.drewN k := ⟨nd, hw2.symm⟩
    have HND := hid hnd
    have c1 : w2.cell? ⟨g, 0, none⟩ = some (.slice A L.length cap) := by rw [← hw2]; exact c0
    have hcc : ∀ x, w2.cell? x = w.cell? x := by intro x; rw [← hw2]; rfl
    have HCC := hid hcc
    rw [hw2]
    clear hw2 hnd hcc c0
    go_loopw [7] (fun i wr => RFreshRel w2 L n i wr) (fun i _ => L.length - (intOf i).toNat)
    case atStart => exact ⟨0, Nat.zero_le _, rfl, by simp, rfl⟩
    case round =>
      obtain ⟨j, hj, rfl, hnot, rfl⟩ := hrel
      by_cases hjl : j < L.length
      · obtain ⟨gr, hA, hgr, hgl, hcell⟩ := HC.out j hjl
        subst hA
        have hsn := contains_take_succ L j n hjl
        obtain ⟨x, hx⟩ : ∃ x, L.getD j 0 = x := ⟨_, rfl⟩
        rw [hx] at hcell hsn
        have hcell2 := (HCC.out _).trans hcell
        have kj : decide (j < L.length) = true := decide_eq_true hjl
        by_cases hxn : x = n
        · have hres : freshB L n = false := by
            rw [HRS.out]
            have : L.contains n = true := by
              rw [List.contains_iff_mem, ← hxn, ← hx, List.getD_eq_getElem?_getD, List.getElem?_eq_getElem hjl]
              exact List.getElem_mem _
            rw [this]; rfl
          have HR := hid hres
          have kx : (((x : Nat) : Int) == ((n : Nat) : Int)) = true := by rw [hxn]; simp
          clear hres hx hsn hnot hxn hcell
          go_wp2_with fail
          go_ret
          exact ⟨by rw [HR.out]; rfl, HND.out⟩
        · have kx : (((x : Nat) : Int) == ((n : Nat) : Int)) = false := beq_eq_false_iff_ne.2 (fun e => hxn (by omega))
          have hnew : (L.take (j + 1)).contains n = false := by
            rw [hsn, hnot]; simp [hxn]
          have HN := hid hnew
          clear hx hsn hnot hxn hcell hnew
          go_wp2_with fail
          refine ⟨⟨j + 1, by omega, by go_num, HN.out, rfl⟩, by simp [intOf]; omega⟩
      · have kj : decide (j < L.length) = false := decide_eq_false hjl
        have ht : L.take j = L := List.take_of_length_le (by omega)
        rw [ht] at hnot
        have HR := hid hnot
        clear hnot ht
        go_wp2_with fail
        go_ret
        exact ⟨by rw [HRS.out, HR.out]; rfl, HND.out⟩
end Go.Proofs.Ytgfpmonfdplalaa
