/- Plain laws for NatFull, NatKeeps and NatBlind (no statement of the seat). -/
import Derived.Test.YtbcchdnbfblooaaMapsLaw
namespace Go.Proofs.Ytbcchdnbfblooaa

/-! ### NatFull -/
/-- The entries of the first m insiders. -/
def U (tt : Ad) (m : Nat) (f : Nat → Int) : List Ent := (List.range m).map (fun j : Nat => ⟨⟨5, (j : Int)⟩, 1024 + (j : Int), f j, [tt]⟩)
theorem U_len (tt : Ad) (m : Nat) (f : Nat → Int) : (U tt m f).length = m := by simp [U]
theorem U_alive {tt : Ad} {m : Nat} {f : Nat → Int} {t tmo : Int} (h : ∀ j, j < m → t - tmo < f j) : alive t tmo (U tt m f) = U tt m f := by
  apply alive_all
  intro e he
  obtain ⟨j, hj, rfl⟩ := List.mem_map.1 he
  exact h j (List.mem_range.1 hj)
theorem U_key (mm : Int) (tt : Ad) (j k : Nat) (x y : Int) : keyB mm ⟨5, (k : Int)⟩ tt ⟨⟨5, (j : Int)⟩, x, y, [tt]⟩ = decide (j = k) := by
  unfold keyB Ent.key Ent.head
  rw [decide_eq_decide]
  simp
  omega
theorem U_none {mm : Int} {tt : Ad} {m k : Nat} {f : Nat → Int} (h : m ≤ k) : (U tt m f).find? (keyB mm ⟨5, (k : Int)⟩ tt) = none := by
  rw [List.find?_eq_none]
  intro e he
  obtain ⟨j, hj, rfl⟩ := List.mem_map.1 he
  rw [U_key]
  have := List.mem_range.1 hj
  simp; omega
theorem U_some {mm : Int} {tt : Ad} {m k : Nat} {f : Nat → Int} (h : k < m) : (U tt m f).find? (keyB mm ⟨5, (k : Int)⟩ tt) = some ⟨⟨5, (k : Int)⟩, 1024 + (k : Int), f k, [tt]⟩ := by
  unfold U
  rw [List.find?_map]
  have hp : (List.range m).find? ((keyB mm ⟨5, (k : Int)⟩ tt) ∘ fun j : Nat => (⟨⟨5, (j : Int)⟩, 1024 + (j : Int), f j, [tt]⟩ : Ent)) = some k := by
    have e : ((keyB mm ⟨5, (k : Int)⟩ tt) ∘ fun j : Nat => (⟨⟨5, (j : Int)⟩, 1024 + (j : Int), f j, [tt]⟩ : Ent)) = fun j => decide (j = k) := by
      funext j; exact U_key mm tt j k _ _
    rw [e, List.find?_eq_some_iff_append]
    refine ⟨by simp, List.range k, (List.range (m - k - 1)).map (fun x => k + 1 + x), ?_, ?_⟩
    · have : m = k + (1 + (m - k - 1)) := by omega
      conv => lhs; rw [this]
      rw [List.range_add, List.range_add]
      simp [List.range_one, Nat.add_assoc, Function.comp_def]
    · intro a ha
      have := List.mem_range.1 ha
      simp; omega
  rw [hp]; rfl
theorem U_bump {mm : Int} {tt : Ad} {m k : Nat} {f : Nat → Int} {t : Int} : (U tt m f).map (bump mm ⟨5, (k : Int)⟩ tt t) = U tt m (fun j => if j = k then t else f j) := by
  unfold U
  rw [List.map_map]
  refine List.map_congr_left (fun j _ => ?_)
  show bump mm ⟨5, (k : Int)⟩ tt t ⟨⟨5, (j : Int)⟩, 1024 + (j : Int), f j, [tt]⟩ = _
  unfold bump
  rw [U_key]
  by_cases h : j = k
  · simp [h, sendTo]
  · simp [h]
theorem U_free {tt : Ad} {m : Nat} {f : Nat → Int} : freeP (U tt m f) = 1024 + m := by
  refine IsFree.unique (freeP_spec _).1 ⟨by omega, ?_, ?_⟩
  · intro h
    simp only [ports, U, List.map_map, List.mem_map, List.mem_range] at h
    obtain ⟨j, hj, e⟩ := h
    simp at e
    omega
  · intro k h1 h2
    simp only [ports, U, List.map_map, List.mem_map, List.mem_range]
    exact ⟨k - 1024, by omega, by simp; omega⟩
theorem U_snoc {tt : Ad} {m : Nat} {f : Nat → Int} {t : Int} : U tt m f ++ [⟨⟨5, (m : Int)⟩, 1024 + (m : Int), t, [tt]⟩] = U tt (m + 1) (fun j => if j = m then t else f j) := by
  unfold U
  rw [List.range_succ, List.map_append]
  congr 1
  · refine List.map_congr_left (fun j hj => ?_)
    have := List.mem_range.1 hj
    simp [Nat.ne_of_lt this]
  · simp

/-- Turn t, k insiders done of n: m entries, last used f. -/
structure FullI (n t k m : Nat) (f : Nat → Int) : Prop where
  k1 : k ≤ n
  m0 : m ≤ 64
  m1 : t = 0 → m = min k 64
  m2 : 0 < t → m = min n 64
  f0 : ∀ j, j < m → (9 * (t : Int) - 9 ≤ f j)
  f1 : ∀ j, j < m → j < k → f j = 9 * (t : Int)
theorem FullI.step {c : Cfg} {tt : Ad} {n t k m : Nat} {f : Nat → Int} (ht : t < 3) (h10 : 10 ≤ c.tmo) (h : FullI n t k m f) (hk : k < n) :
    ∃ m' f' a e, outL c (9 * (t : Int)) ⟨5, (k : Int)⟩ tt (U tt m f) = (U tt m' f', a, e) ∧ FullI n t (k + 1) m' f' ∧ (k < 64 → a = ⟨c.pub, 1024 + (k : Int)⟩ ∧ e = 0) ∧ (64 ≤ k → e = 8) := by
  have hc : cutT (9 * (t : Int)) = 9 * (t : Int) := by
    unfold cutT; rw [if_neg (by omega), if_neg (by omega)]
  have ha : alive (cutT (9 * (t : Int))) c.tmo (U tt m f) = U tt m f := U_alive (fun j hj => by have := h.f0 j hj; rw [hc]; omega)
  have h1 := h.m1
  have h2 := h.m2
  have hkn := h.k1
  by_cases hkm : k < m
  · refine ⟨m, fun j => if j = k then 9 * (t : Int) else f j, ⟨c.pub, 1024 + (k : Int)⟩, 0, ?_, ?_, fun _ => ⟨rfl, rfl⟩, fun hh => by have := h.m0; omega⟩
    · rw [out_known ha (U_some hkm), U_bump, hc]
    · refine ⟨by omega, h.m0, fun e => ?_, h2, fun j hj => ?_, fun j hj hjk => ?_⟩
      · have := h1 e; omega
      · split
        · omega
        · exact h.f0 j hj
      · split
        · rfl
        · exact h.f1 j hj (by omega)
  · have hkm' : m ≤ k := by omega
    by_cases h64 : k < 64
    · have ht0 : t = 0 := by
        cases Nat.eq_zero_or_pos t with
        | inl h => exact h
        | inr h => have := h2 h; omega
      have hmk : m = k := by have := h1 ht0; omega
      subst hmk
      refine ⟨m + 1, fun j => if j = m then 9 * (t : Int) else f j, ⟨c.pub, 1024 + (m : Int)⟩, 0, ?_, ?_, fun _ => ⟨rfl, rfl⟩, fun hh => by omega⟩
      · rw [out_fresh ha (U_none (Nat.le_refl _)) (by rw [U_len]; exact h64), U_free, hc]
        simp only [Int.natCast_add]
        rw [← U_snoc]; rfl
      · refine ⟨by omega, by omega, fun e => by omega, fun e => by omega, fun j hj => ?_, fun j hj hjk => ?_⟩
        · split
          · omega
          · exact h.f0 j (by omega)
        · split
          · rfl
          · exact h.f1 j (by omega) (by omega)
    · have hm : m = 64 := by
        cases Nat.eq_zero_or_pos t with
        | inl h => have := h1 h; omega
        | inr h => have := h2 h; omega
      refine ⟨m, f, ⟨0, 0⟩, 8, ?_, ?_, fun hh => by omega, fun _ => rfl⟩
      · rw [out_full ha (U_none hkm') (by rw [U_len]; omega)]
      · exact ⟨by omega, h.m0, fun e => by omega, h2, h.f0, fun j hj hjk => h.f1 j hj (by omega)⟩
theorem FullI.turn {n t m : Nat} {f : Nat → Int} (h : FullI n t n m f) : FullI n (t + 1) 0 m f := by
  have h0 := h.m0
  refine ⟨by omega, h.m0, fun e => by omega, fun _ => ?_, fun j hj => ?_, fun j _ hj => by omega⟩
  · cases Nat.eq_zero_or_pos t with
    | inl e => have := h.m1 e; omega
    | inr e => exact h.m2 e
  · have hm : m ≤ n := by
      cases Nat.eq_zero_or_pos t with
      | inl e => have := h.m1 e; omega
      | inr e => have := h.m2 e; omega
    rw [h.f1 j hj (by omega)]
    omega
theorem FullI.start (n : Nat) : FullI n 0 0 0 (fun _ => 0) := ⟨by omega, by omega, fun _ => by omega, fun e => by omega, fun j hj => by omega, fun j hj => by omega⟩

/-! ### NatKeeps -/
abbrev K0 : Ad := ⟨3, 3⟩
def KL (c : Cfg) (now : Int) : List Ent := if now < c.tmo then [⟨⟨1, 1⟩, 1024, now, [K0]⟩, ⟨⟨1, 2⟩, 1025, 0, [K0]⟩] else [⟨⟨1, 1⟩, 1024, now, [K0]⟩]
theorem KL_len (c : Cfg) (now : Int) : ((KL c now).length : Int) = if c.tmo ≤ now then 1 else 2 := by
  unfold KL
  by_cases h : now < c.tmo
  · rw [if_pos h, if_neg (by omega)]; rfl
  · rw [if_neg h, if_pos (by omega)]; rfl
theorem keep_first (c : Cfg) : outL c 0 ⟨1, 1⟩ K0 [] = ([⟨⟨1, 1⟩, 1024, 0, [K0]⟩], ⟨c.pub, 1024⟩, 0) := rfl
theorem keep_second (c : Cfg) (ht : 10 ≤ c.tmo) : outL c 0 ⟨1, 2⟩ K0 [⟨⟨1, 1⟩, 1024, 0, [K0]⟩] = (KL c 0, ⟨c.pub, 1025⟩, 0) := by
  have hc : cutT 0 = 0 := rfl
  have hf : freeP [⟨⟨1, 1⟩, 1024, 0, [K0]⟩] = 1025 := rfl
  rw [out_fresh (alive_all (by simp [hc]; omega)) (by simp [keyB, Ent.key, Ent.head]) (by simp), hf, hc]
  unfold KL
  rw [if_pos (by omega)]; rfl
theorem cutT_keep {n : Int} (h0 : 0 ≤ n) (h1 : n ≤ 1000000000) : cutT n = n := by
  unfold cutT; rw [if_neg (by omega), if_neg (by omega)]
theorem keep_alive (c : Cfg) (ht : 10 ≤ c.tmo) (now gap : Int) (h0 : 0 ≤ now) (hg : 0 ≤ gap) (hgt : gap < c.tmo) :
    alive (now + gap) c.tmo (KL c now) = if now + gap < c.tmo then [⟨⟨1, 1⟩, 1024, now, [K0]⟩, ⟨⟨1, 2⟩, 1025, 0, [K0]⟩] else [⟨⟨1, 1⟩, 1024, now, [K0]⟩] := by
  have a1 : decide (now + gap - c.tmo < now) = true := decide_eq_true (by omega)
  unfold KL
  by_cases h : now < c.tmo
  · rw [if_pos h]
    by_cases h2 : now + gap < c.tmo
    · rw [if_pos h2]
      have a2 : decide (now + gap - c.tmo < 0) = true := decide_eq_true (by omega)
      simp only [alive, List.filter_cons, a1, a2, if_true, List.filter_nil]
    · rw [if_neg h2]
      have a2 : decide (now + gap - c.tmo < 0) = false := decide_eq_false (by omega)
      simp only [alive, List.filter_cons, a1, a2, if_true, List.filter_nil]
      rfl
  · rw [if_neg h, if_neg (by omega)]
    simp only [alive, List.filter_cons, a1, if_true, List.filter_nil]
theorem keep_step (c : Cfg) (ht : 10 ≤ c.tmo) (now gap : Int) (h0 : 0 ≤ now) (h1 : now + gap ≤ 1000000000) (hg : 0 ≤ gap) (hgt : gap < c.tmo) :
    outL c (now + gap) ⟨1, 1⟩ K0 (KL c now) = (KL c (now + gap), ⟨c.pub, 1024⟩, 0) := by
  have hc := cutT_keep (n := now + gap) (by omega) h1
  have hk : keyB c.map ⟨1, 1⟩ K0 ⟨⟨1, 1⟩, 1024, now, [K0]⟩ = true := by simp [keyB, Ent.key, Ent.head]
  have hk2 : keyB c.map ⟨1, 1⟩ K0 ⟨⟨1, 2⟩, 1025, 0, [K0]⟩ = false := by simp [keyB, Ent.key, Ent.head]
  have hs : sendTo [K0] K0 = [K0] := by decide
  have ha := keep_alive c ht now gap h0 hg hgt
  by_cases h : now + gap < c.tmo
  · rw [if_pos h] at ha
    have ha' : alive (cutT _) c.tmo _ = _ := hc.symm ▸ ha
    rw [out_known (e := ⟨⟨1, 1⟩, 1024, now, [K0]⟩) ha' (by rw [List.find?_cons, hk]), hc]
    unfold KL
    rw [if_pos h]
    simp only [List.map_cons, List.map_nil, bump, hk, hk2, if_true, hs]
    rfl
  · rw [if_neg h] at ha
    have ha' : alive (cutT _) c.tmo _ = _ := hc.symm ▸ ha
    rw [out_known (e := ⟨⟨1, 1⟩, 1024, now, [K0]⟩) ha' (by rw [List.find?_cons, hk]), hc]
    unfold KL
    rw [if_neg h]
    simp only [List.map_cons, List.map_nil, bump, hk, if_true, hs]
theorem keep_last (c : Cfg) (ht : 10 ≤ c.tmo) (now : Int) (h0 : 0 ≤ now) (h1 : now ≤ 1000000000) :
    ∃ L', outL c now ⟨1, 3⟩ K0 (KL c now) = (L', ⟨c.pub, if c.tmo ≤ now then 1025 else 1026⟩, 0) := by
  have hc := cutT_keep h0 h1
  have ha := keep_alive c ht now 0 h0 (by omega) (by omega)
  rw [Int.add_zero] at ha
  by_cases h : now < c.tmo
  · rw [if_pos h] at ha
    have ha' : alive (cutT now) c.tmo (KL c now) = [⟨⟨1, 1⟩, 1024, now, [K0]⟩, ⟨⟨1, 2⟩, 1025, 0, [K0]⟩] := by rw [hc]; exact ha
    have hf : freeP [⟨⟨1, 1⟩, 1024, now, [K0]⟩, ⟨⟨1, 2⟩, 1025, 0, [K0]⟩] = 1026 := rfl
    rw [out_fresh ha' (by simp [keyB, Ent.key, Ent.head]) (by simp), hf, if_neg (by omega)]
    exact ⟨_, rfl⟩
  · rw [if_neg h] at ha
    have ha' : alive (cutT now) c.tmo (KL c now) = [⟨⟨1, 1⟩, 1024, now, [K0]⟩] := by rw [hc]; exact ha
    have hf : freeP [⟨⟨1, 1⟩, 1024, now, [K0]⟩] = 1025 := rfl
    rw [out_fresh ha' (by simp [keyB, Ent.key, Ent.head]) (by simp), hf, if_pos (by omega)]
    exact ⟨_, rfl⟩

/-! ### NatBlind -/
theorem in_list (c : Cfg) (now : Int) (fr tt : Ad) (L : List Ent) : (inL c now fr tt L).1 = alive (cutT now) c.tmo L := by
  unfold inL; dsimp only
  split
  · rfl
  · split
    · rfl
    · split <;> rfl
theorem out_alive (c : Cfg) (h : 1 ≤ c.tmo) (now : Int) (fr tt : Ad) (L : List Ent) : alive (cutT now) c.tmo (outL c now fr tt L).1 = (outL c now fr tt L).1 := by
  have hM : ∀ e, e ∈ alive (cutT now) c.tmo L → cutT now - c.tmo < e.used := fun e he => by
    have := (List.mem_filter.1 he).2
    simpa using this
  apply alive_all
  intro e he
  unfold outL at he
  dsimp only at he
  split at he
  · obtain ⟨x, hx, rfl⟩ := List.mem_map.1 he
    unfold bump
    split
    · dsimp only; omega
    · exact hM x hx
  · split at he
    · exact hM e he
    · rcases List.mem_append.1 he with h1 | h1
      · exact hM e h1
      · simp at h1; subst h1; dsimp only; omega
theorem blind_in (c : Cfg) (h : 1 ≤ c.tmo) (now : Int) (fr tt a b : Ad) (L : List Ent) : (inL c now a b (outL c now fr tt L).1).1 = (outL c now fr tt L).1 := by
  rw [in_list, out_alive c h]
theorem blind_out (c : Cfg) (x : Int) (now : Int) (fr tt : Ad) (L : List Ent) : outL { c with fil := x } now fr tt L = outL c now fr tt L := rfl

end Go.Proofs.Ytbcchdnbfblooaa
