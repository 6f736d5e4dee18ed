/- The document's In (no statement of the seat). -/
import Derived.Test.YtbcchdnbfblooaaRefC
import Derived.Test.YtbcchdnbfblooaaIn
namespace Go.Proofs.Ytbcchdnbfblooaa
open Go.RowKit
set_option linter.unusedSimpArgs false
set_option linter.unusedVariables false
theorem find_first {L : List Ent} {p : Ent → Bool} (k : Nat) (hk : k < L.length) (h1 : p (L.getD k default) = true) (h2 : ∀ j, j < k → p (L.getD j default) = false) : L.find? p = some (L.getD k default) := by
  rw [List.find?_eq_some_iff_append]
  have eg : L.getD k default = L[k] := by simp [List.getD, hk]
  refine ⟨h1, L.take k, L.drop (k + 1), ?_, fun a ha => ?_⟩
  · rw [eg, ← List.drop_eq_getElem_cons hk, List.take_append_drop]
  · obtain ⟨j, hj, rfl⟩ := List.getElem_of_mem ha
    rw [List.length_take] at hj
    have h3 := h2 j (by omega)
    have eg2 : L.getD j default = L[j]'(by omega) := by simp [List.getD, show j < L.length by omega]
    rw [List.getElem_take, ← eg2, h3]; rfl
theorem find_nothing {L : List Ent} {p : Ent → Bool} (h2 : ∀ j, j < L.length → p (L.getD j default) = false) : L.find? p = none := by
  rw [List.find?_eq_none]
  intro a ha
  obtain ⟨j, hj, rfl⟩ := List.getElem_of_mem ha
  have h3 := h2 j hj
  have eg2 : L.getD j default = L[j] := by simp [List.getD, hj]
  rw [← eg2, h3]; simp
theorem fst_getD (l : List RE) (k : Nat) (hk : k < l.length) : (l.map Prod.fst).getD k default = (l.getD k default).1 := by
  simp [List.getD, hk]
/-- What In's look through whom an entry has sent to tells. -/
theorem any_like (f : Int) (hf0 : 1 ≤ f) (hf1 : f ≤ 3) (l : List Ad) (hl : l ≠ []) (fr : Ad) : l.any (fun a => likeB f a fr) = true ↔ f = 1 ∨ ∃ j, j < l.length ∧ ((l.getD j ⟨0, 0⟩).h = fr.h ∧ (f = 2 ∨ (l.getD j ⟨0, 0⟩).p = fr.p)) := by
  rw [List.any_eq_true]
  have hlike : ∀ a : Ad, likeB f a fr = true ↔ f = 1 ∨ (a.h = fr.h ∧ (f = 2 ∨ a.p = fr.p)) := by
    intro a
    obtain ⟨ah, ap⟩ := a
    obtain ⟨bh, bp⟩ := fr
    unfold likeB
    by_cases h1 : f = 1
    · simp [h1]
    · by_cases h2 : f = 2
      · simp [h2]
      · simp [h1, h2]
  constructor
  · rintro ⟨a, ha, h⟩
    rcases (hlike a).1 h with h | h
    · exact .inl h
    · obtain ⟨j, hj, rfl⟩ := List.getElem_of_mem ha
      right
      refine ⟨j, hj, ?_⟩
      have eg : l.getD j ⟨0, 0⟩ = l[j] := by simp [List.getD, hj]
      rw [eg]; exact h
  · rintro (h | ⟨j, hj, h⟩)
    · cases l with
      | nil => exact absurd rfl hl
      | cons a r => exact ⟨a, by simp, (hlike a).2 (.inl h)⟩
    · have eg : l.getD j ⟨0, 0⟩ = l[j] := by simp [List.getD, hj]
      rw [eg] at h
      exact ⟨l[j], List.getElem_mem hj, (hlike _).2 (.inr h)⟩
def RefPost (r : Nat) (c : Cfg) (l : List RE) (res : List Ent × Ad × Int) (w : World) (e : Ending) (w' : World) : Prop :=
  e = .returned (.tuple #[res.2.1.v, .int .i64 res.2.2]) ∧ ∃ A cap l', RefAt r c A cap l' w' ∧ l'.map Prod.fst = res.1 ∧ (∀ g, A = some ⟨g, 0, none⟩ → w.heap.size ≤ g) ∧ (∀ z, z ∈ l' → (∃ y, y ∈ l ∧ y.2.row = z.2.row) ∨ w.heap.size ≤ z.2.row) ∧ Upd (fun q => q = r) w w'
theorem Try.res19 : Try.f19.results = #[ResultVar.cell 8 26, ResultVar.tmp 9] := by kernel_rfl
theorem ref_end {r : Nat} {c : Cfg} {g cap b B : Nat} {l M : List RE} {res : List Ent × Ad × Int} {w w2 wr W : World} (h : RefAt r c (some ⟨g, 0, none⟩) cap M w2) (hx : Upd (fun _ => False) w2 wr) (hu : Upd (fun q => q = b) wr W) (hu2 : Upd (fun q => q = r) w w2) (hB : w.heap.size = B)
    (h1 : r < B ∧ B ≤ b ∧ b < g) (hs : ∀ z, z ∈ M → z ∈ l ∧ z.2.row < B) (hm : M.map Prod.fst = res.1) : RefPost r c l res w (.returned (.tuple #[res.2.1.v, .int .i64 res.2.2])) W :=
  ⟨rfl, _, _, M, (h.still hx).upd hu (fun e => by have h3 := (show r = b from e); omega) (fun k hk e => by have h3 := ownBlk hk; have h4 := (show k = b from e); omega) (fun z hz e => by have h3 := (hs z hz).2; have h4 := (show z.2.row = b from e); omega), hm, fun g' hg' => by simp only [Option.some.injEq, Addr.mk.injEq, and_true] at hg'; omega, fun z hz => .inl ⟨z, (hs z hz).1, rfl⟩,
    (hu2.trans (hx.mono (fun _ _ h => h.elim))).then_ hu (fun q hq e => by have h4 := (show q = b from e); omega)⟩
theorem sub_upd {w w' : World} {r : Nat} (h : Upd (fun _ => False) w w') : Upd (fun q => q = r) w w' := h.mono (fun _ _ h => h.elim)
set_option maxRecDepth 100000 in
set_option maxHeartbeats 8000000 in
theorem rin19_any (r : Nat) (c : Cfg) (A : Option Addr) (cap : Nat) (l : List RE) (now : Int) (fr tt : Ad) (w : World) (h : RefAt r c A cap l w) (R : Right c) (G : Good c.map (l.map Prod.fst)) :
    Calls Try.prog 19 #[ptr r, .int .i64 now, fr.v, tt.v] w (RefPost r c l (inL c now fr tt (l.map Prod.fst)) w) := by
  obtain ⟨f1, f2⟩ := fr
  obtain ⟨t1, t2⟩ := tt
  have H := hid h
  have HR := hid R
  have HG := hid G
  have hrl := h.lt
  clear h R G
  go_enter Try.func19, Try.ntmps19
  go_wp2_with fail
  refine (cut30_any now _).mono ?_
  rintro e w1 ⟨rfl, rfl⟩
  obtain ⟨w1, hw1⟩ : ∃ w1, ((w.alloc (.cells #[.int .u32 f1, .int .i64 f2] 26)).alloc (.cells #[.int .u32 t1, .int .i64 t2] 26)).alloc (.cells #[.int .u32 0, .int .i64 0] 26) = w1 := ⟨_, rfl⟩
  have hu1 : Upd (fun _ => False) w w1 := hw1 ▸ (((Upd.refl _ w).alloc _).alloc _).alloc _
  have hA : w1.heap[w.heap.size]? = some (.cells #[.int .u32 f1, .int .i64 f2] 26 (0, 0)) := by
    rw [← hw1]; exact (((Upd.refl (fun _ => False) _).alloc _).alloc _).blk (heap_alloc_new w _) (fun h => h)
  have hB : w1.heap[w.heap.size + 1]? = some (.cells #[.int .u32 t1, .int .i64 t2] 26 (0, 0)) := by
    rw [← hw1]
    refine ((Upd.refl (fun _ => False) _).alloc _).blk ?_ (fun h => h)
    have := heap_alloc_new (w.alloc (.cells #[.int .u32 f1, .int .i64 f2] 26)) (.cells #[.int .u32 t1, .int .i64 t2] 26)
    simpa using this
  have hC : w1.heap[w.heap.size + 1 + 1]? = some (.cells #[.int .u32 0, .int .i64 0] 26 (0, 0)) := by
    rw [← hw1]
    have := heap_alloc_new ((w.alloc (.cells #[.int .u32 f1, .int .i64 f2] 26)).alloc (.cells #[.int .u32 t1, .int .i64 t2] 26)) (.cells #[.int .u32 0, .int .i64 0] 26)
    simpa using this
  rw [hw1]
  obtain ⟨B, hBB⟩ : ∃ B, w.heap.size = B := ⟨_, rfl⟩
  rw [hBB] at hA hB hC hrl ⊢
  have HBB := hid hBB
  have HU1 := hid hu1
  clear hw1 hu1 hBB
  go_wp2_with fail
  refine (late29_any r c A cap l (cutT now) w1 (H.out.still HU1.out) (cutT_in now) ⟨HR.out.tmo0, HR.out.tmo1⟩ (by have := HG.out.len; rw [List.length_map] at this; omega)).mono ?_
  rintro e w2 ⟨rfl, g, cap2, hR2, hg, hu2⟩
  have HH := hid hR2
  have HA := hid (hu2.blk hA (by omega))
  have HB := hid (hu2.blk hB (by omega))
  have HC := hid (hu2.blk hC (by omega))
  have HU2 : Hid (Upd (fun q => q = r) w w2) := hid ((sub_upd HU1.out).trans hu2)
  have hfst := aliveR_fst (cutT now) c.tmo l
  have hG2 := HG.out.alive (cutT now) c.tmo
  rw [← hfst] at hG2
  obtain ⟨M, hM⟩ : ∃ M, aliveR (cutT now) c.tmo l = M := ⟨_, rfl⟩
  rw [hM] at HH hfst hG2
  have HFS := hid hfst
  have HG2 := hid hG2
  have hm64 : M.length ≤ 64 := by have := hG2.len; rwa [List.length_map] at this
  have hmc : M.length ≤ cap2 := row_capE HH.out.row
  have HLT := hid (show ∀ z, z ∈ M → z ∈ l ∧ z.2.row < B from fun z hz => by
    rw [← hM] at hz
    have h1 := (List.mem_filter.1 hz).1
    have := (H.out.sent z h1).lt
    have := HBB.out
    exact ⟨h1, by omega⟩)
  have HGB := hid (show r < B ∧ B ≤ B + 1 + 1 ∧ B + 1 + 1 < g from by have := lt_of_block hC; omega)
  clear hR2 hu2 hA hB hC hfst hG2 hM H HG HU1 hg
  go_wp2_with fail
  go_loopw [10] (fun v wr => ∃ k : Nat, k ≤ M.length ∧ v = .int .i64 k ∧ Hid (t1 = c.pub → ∀ j, j < k → (M.getD j default).1.port ≠ t2) ∧ Hid (Upd (fun _ => False) w2 wr)) (fun v _ => M.length - (intOf v).toNat)
  case atStart => exact ⟨0, Nat.zero_le _, rfl, hid (fun _ j hj => by omega), hid (Upd.refl _ _)⟩
  case round =>
    obtain ⟨k, hk, rfl, HN, HX⟩ := hrel
    obtain ⟨b0, b1, b2, b4, b5⟩ := (HH.out.still HX.out).cells
    by_cases hkl : k < M.length
    · obtain ⟨gl, hgl, c0, c1, c2, c3, c4⟩ := (HH.out.still HX.out).at_ k hkl
      obtain ⟨⟨⟨⟨i1, i2⟩, po, us, se⟩, ⟨ro, rc⟩⟩, hz⟩ : ∃ q, M.getD k default = q := ⟨_, rfl⟩
      rw [hz] at c0 c1 c2 c3 c4
      dsimp only at c0 c1 c2 c3 c4
      simp only [Option.some.injEq, Addr.mk.injEq, and_true] at hgl
      subst hgl
      have HZ := hid hz
      have a0 : wr.cell? ⟨B, 0, none⟩ = some (.int .u32 f1) := HX.out.cell ((blk_cell HA.out 0).trans rfl) (fun h => h)
      have a1 : wr.cell? ⟨B, 1, none⟩ = some (.int .i64 f2) := HX.out.cell ((blk_cell HA.out 1).trans rfl) (fun h => h)
      have d0 : wr.cell? ⟨B + 1, 0, none⟩ = some (.int .u32 t1) := HX.out.cell ((blk_cell HB.out 0).trans rfl) (fun h => h)
      have d1 : wr.cell? ⟨B + 1, 1, none⟩ = some (.int .i64 t2) := HX.out.cell ((blk_cell HB.out 1).trans rfl) (fun h => h)
      clear hz
      go_upto_region 6 with (fail)
      obtain ⟨w3, hw3⟩ : ∃ w3, wr.alloc (.cells #[.int .u32 i1, .int .i64 i2, .int .i64 po, .int .i64 us, .slice (some ⟨ro, 0, none⟩) se.length rc] 73) = w3 := ⟨_, rfl⟩
      have hu3 : Upd (fun _ => False) wr w3 := hw3 ▸ (Upd.refl _ wr).alloc _
      have hx := heap_alloc_new wr (.cells #[.int .u32 i1, .int .i64 i2, .int .i64 po, .int .i64 us, .slice (some ⟨ro, 0, none⟩) se.length rc] 73)
      rw [hw3] at hx ⊢
      obtain ⟨nx, hnx⟩ : ∃ nx, wr.heap.size = nx := ⟨_, rfl⟩
      rw [hnx] at hx ⊢
      have HX3 := hid (HX.out.trans hu3)
      have HNX := hid hx
      have x0 : w3.cell? ⟨nx, 0, none⟩ = some (.int .u32 i1) := (blk_cell hx 0).trans rfl
      have x1 : w3.cell? ⟨nx, 1, none⟩ = some (.int .i64 i2) := (blk_cell hx 1).trans rfl
      have x2 : w3.cell? ⟨nx, 2, none⟩ = some (.int .i64 po) := (blk_cell hx 2).trans rfl
      have x4 : w3.cell? ⟨nx, 4, none⟩ = some (.slice (some ⟨ro, 0, none⟩) se.length rc) := (blk_cell hx 4).trans rfl
      replace b0 := hu3.cell b0 (fun h => h)
      replace b2 := hu3.cell b2 (fun h => h)
      replace a0 := hu3.cell a0 (fun h => h)
      replace a1 := hu3.cell a1 (fun h => h)
      replace d0 := hu3.cell d0 (fun h => h)
      replace d1 := hu3.cell d1 (fun h => h)
      clear hw3 hu3 hx hnx c0 c1 c2 c3 c4 b1 b4 b5
      by_cases ht : t1 = c.pub
      · by_cases hp : po = t2
        · have n1 : (t1 != c.pub) = false := by simp [ht]
          have n2 : (po != t2) = false := by simp [hp]
          have HT := hid ht
          have HP := hid hp
          clear ht hp
          go_quiet (fail)
          have HX4 := hid (HX3.out.drewN nq)
          have hd : ∀ {a : Addr} {v : Value}, w3.cell? a = some v → (w3.drewN nq).cell? a = some v := fun h => h
          replace b2 := hd b2
          replace a0 := hd a0
          replace a1 := hd a1
          replace x0 := hd x0
          replace x1 := hd x1
          replace x4 := hd x4
          have y0 : (w3.drewN nq).cell? ⟨B + 1 + 1, 0, none⟩ = some (.int .u32 0) := HX4.out.cell ((blk_cell HC.out 0).trans rfl) (fun h => h)
          have y1 : (w3.drewN nq).cell? ⟨B + 1 + 1, 1, none⟩ = some (.int .i64 0) := HX4.out.cell ((blk_cell HC.out 1).trans rfl) (fun h => h)
          have HNX4 : Hid ((w3.drewN nq).heap[nx]? = some (.cells #[.int .u32 i1, .int .i64 i2, .int .i64 po, .int .i64 us, .slice (some ⟨ro, 0, none⟩) se.length rc] 73 (0, 0))) := hid HNX.out
          obtain ⟨w4, hw4⟩ : ∃ w4, w3.drewN nq = w4 := ⟨_, rfl⟩
          rw [hw4] at HX4 HNX4 b2 a0 a1 x0 x1 x4 y0 y1 ⊢
          clear hw4 hd b0 d0 d1 x2 HX3 HNX HX
          obtain ⟨fl, hfl⟩ : ∃ fl, c.fil = fl := ⟨_, rfl⟩
          rw [hfl] at b2
          have HFL := hid hfl
          have hf0 : 1 ≤ fl := hfl ▸ HR.out.fil0
          have hf1 : fl ≤ 3 := hfl ▸ HR.out.fil1
          have hmem : (⟨⟨i1, i2⟩, po, us, se⟩, ⟨ro, rc⟩) ∈ M := by
            have eg : M.getD k default = M[k] := by simp [List.getD, hkl]
            rw [← HZ.out, eg]; exact List.getElem_mem _
          have HSE := hid (HH.out.sent _ hmem)
          have hse0 : se ≠ [] := HG2.out.sent0 _ (List.mem_map_of_mem (f := Prod.fst) hmem)
          have hse1 : se.length ≤ 32 := HG2.out.sent1 _ (List.mem_map_of_mem (f := Prod.fst) hmem)
          have hfind : (M.map Prod.fst).find? (fun e => decide (e.port = t2)) = some ⟨⟨i1, i2⟩, po, us, se⟩ := by
            have h1 := find_first (L := M.map Prod.fst) (p := fun e => decide (e.port = t2)) k (by rw [List.length_map]; exact hkl) (by rw [fst_getD M k hkl, HZ.out]; exact decide_eq_true HP.out) (fun j hj => by
              rw [fst_getD M j (by omega)]
              exact decide_eq_false (HN.out HT.out j hj))
            rw [h1, fst_getD M k hkl, HZ.out]
          rw [HFS.out] at hfind
          have HIN := hid (show inL c now ⟨f1, f2⟩ ⟨t1, t2⟩ (l.map Prod.fst) = _ from inL_some HT.out hfind)
          have HSE0 := hid hse0
          clear hfl hmem hse0 hfind
          go_wp2_with fail
          go_loopw [12, 13] (fun b v wy => ∃ (q : Nat) (β : Bool), q ≤ se.length ∧ v = .int .i64 q ∧ b = .bool β ∧ Hid (∀ γ, β = γ → (γ = true ↔ fl = 1 ∨ ∃ j, j < q ∧ ((se.getD j ⟨0, 0⟩).h = f1 ∧ (fl = 2 ∨ (se.getD j ⟨0, 0⟩).p = f2)))) ∧ Hid (Upd (fun _ => False) w4 wy)) (fun _ v _ => se.length - (intOf v).toNat)
          case atStart => exact ⟨0, fl == 1, Nat.zero_le _, rfl, rfl, hid (fun γ h => by subst h; simp), hid (Upd.refl _ _)⟩
          case round =>
            obtain ⟨q, β, hq, rfl, rfl, HB2, HY⟩ := hrel
            have HW4 := hid (HX4.out.trans HY.out)
            replace b2 := HY.out.cell b2 (fun h => h)
            replace a0 := HY.out.cell a0 (fun h => h)
            replace a1 := HY.out.cell a1 (fun h => h)
            replace x0 := HY.out.cell x0 (fun h => h)
            replace x1 := HY.out.cell x1 (fun h => h)
            replace x4 := HY.out.cell x4 (fun h => h)
            replace y0 := HY.out.cell y0 (fun h => h)
            replace y1 := HY.out.cell y1 (fun h => h)
            by_cases hql : q < se.length
            · obtain ⟨bs, hbs, hbl, s1, s2⟩ := (HSE.out.upd (S := fun _ => False) HW4.out (fun h => h)).src q hql
              simp only [Option.some.injEq, Addr.mk.injEq, and_true] at hbs
              subst hbs
              obtain ⟨⟨u1, u2⟩, hux⟩ : ∃ a, se.getD q ⟨0, 0⟩ = a := ⟨_, rfl⟩
              rw [hux] at s1 s2
              dsimp only at s1 s2
              have HST : Hid (∀ δ : Bool, (δ = true ↔ β = true ∨ (u1 = f1 ∧ (fl = 2 ∨ u2 = f2))) → Hid (∀ γ, δ = γ → (γ = true ↔ fl = 1 ∨ ∃ j, j < q + 1 ∧ ((se.getD j ⟨0, 0⟩).h = f1 ∧ (fl = 2 ∨ (se.getD j ⟨0, 0⟩).p = f2))))) := hid (fun δ h => hid (fun γ e => by
                subst e
                rw [h, HB2.out β rfl]
                constructor
                · rintro ((h1 | ⟨j, hj, h1⟩) | h1)
                  · exact .inl h1
                  · exact .inr ⟨j, by omega, h1⟩
                  · exact .inr ⟨q, by omega, by rw [hux]; exact h1⟩
                · rintro (h1 | ⟨j, hj, h1⟩)
                  · exact .inl (.inl h1)
                  · by_cases e : j = q
                    · subst e; rw [hux] at h1; exact .inr h1
                    · exact .inl (.inr ⟨j, by omega, h1⟩)))
              clear hux hbl x0 x1 y0 y1
              cases β with
              | true =>
                have HD := hid (HST.out true (by simp))
                go_wp2_with fail
                go_quiet (fail)
                go_wp2_with fail
                exact ⟨⟨q + 1, true, by omega, by go_num, rfl, HD.out, hid (HY.out.drewN _)⟩, by simp [intOf]; omega⟩
              | false =>
                by_cases g1 : u1 = f1
                · by_cases g2 : fl = 2
                  · have HD := hid (HST.out true (by simp [g1, g2]))
                    have n3 : (u1 == f1) = true := by simp [g1]
                    have n4 : (fl == 2) = true := by simp [g2]
                    clear g1 g2
                    go_wp2_with fail
                    go_quiet (fail)
                    go_wp2_with fail
                    exact ⟨⟨q + 1, true, by omega, by go_num, rfl, HD.out, hid (HY.out.drewN _)⟩, by simp [intOf]; omega⟩
                  · by_cases g3 : u2 = f2
                    · have HD := hid (HST.out true (by simp [g1, g3]))
                      have n3 : (u1 == f1) = true := by simp [g1]
                      have n4 : (fl == 2) = false := by simp [g2]
                      have n5 : (u2 == f2) = true := by simp [g3]
                      clear g1 g2 g3
                      go_wp2_with fail
                      go_quiet (fail)
                      go_wp2_with fail
                      exact ⟨⟨q + 1, true, by omega, by go_num, rfl, HD.out, hid (HY.out.drewN _)⟩, by simp [intOf]; omega⟩
                    · have HD := hid (HST.out false (by simp [g2, g3]))
                      have n3 : (u1 == f1) = true := by simp [g1]
                      have n4 : (fl == 2) = false := by simp [g2]
                      have n5 : (u2 == f2) = false := by simp [g3]
                      clear g1 g2 g3
                      go_wp2_with fail
                      go_quiet (fail)
                      go_wp2_with fail
                      exact ⟨⟨q + 1, false, by omega, by go_num, rfl, HD.out, hid (HY.out.drewN _)⟩, by simp [intOf]; omega⟩
                · have HD := hid (HST.out false (by simp [g1]))
                  have n3 : (u1 == f1) = false := by simp [g1]
                  clear g1
                  go_wp2_with fail
                  go_quiet (fail)
                  go_wp2_with fail
                  exact ⟨⟨q + 1, false, by omega, by go_num, rfl, HD.out, hid (HY.out.drewN _)⟩, by simp [intOf]; omega⟩
            · have hql' : q = se.length := by omega
              subst hql'
              have z0 : wr.frozen? ⟨B + 1 + 1, 0, none⟩ = false := blk_free (HW4.out.blk HC.out (fun h => h)) 0
              have z1 : wr.frozen? ⟨B + 1 + 1, 1, none⟩ = false := blk_free (HW4.out.blk HC.out (fun h => h)) 1
              have hany := any_like fl hf0 hf1 se HSE0.out ⟨f1, f2⟩
              have HAN := hid hany
              clear hany
              cases β with
              | true =>
                have ha : se.any (fun a => likeB fl a ⟨f1, f2⟩) = true := HAN.out.2 ((HB2.out true rfl).1 rfl)
                have hi := HIN.out
                rw [HFL.out, if_pos ha] at hi
                have HI := hid hi
                clear ha hi
                go_wp2_with fail
                refine bodyPost_ret (v := .tuple #[.agg #[.int .u32 i1, .int .i64 i2], .int .i64 0]) ?_ rfl ?_
                · simp [results, Try.res19, go_sem, y0, y1]
                · rw [HI.out]
                  have hfin := ref_end (res := (alive (cutT now) c.tmo (l.map Prod.fst), ⟨i1, i2⟩, 0)) (W := (wr.setCell ⟨B + 1 + 1, 0, none⟩ (.int .u32 i1)).setCell ⟨B + 1 + 1, 1, none⟩ (.int .i64 i2)) HH.out HW4.out
                    (Upd.setCell (Upd.setCell (Upd.refl (fun q => q = B + 1 + 1) wr) (p := ⟨B + 1 + 1, 0, none⟩) (fun _ => rfl) _) (p := ⟨B + 1 + 1, 1, none⟩) (fun _ => rfl) _) HU2.out HBB.out HGB.out HLT.out HFS.out
                  exact hfin
              | false =>
                have ha : ¬ se.any (fun a => likeB fl a ⟨f1, f2⟩) = true := fun h => by
                  have := (HB2.out false rfl).2 (HAN.out.1 h)
                  cases this
                have hi := HIN.out
                rw [HFL.out, if_neg ha] at hi
                have HI := hid hi
                clear ha hi
                go_wp2_with fail
                refine bodyPost_ret (v := .tuple #[.agg #[.int .u32 0, .int .i64 0], .int .i64 9]) ?_ rfl ?_
                · simp [results, Try.res19, go_sem, y0, y1]
                · rw [HI.out]
                  have hfin := ref_end (res := (alive (cutT now) c.tmo (l.map Prod.fst), ⟨0, 0⟩, 9)) (W := (wr.setCell ⟨B + 1 + 1, 0, none⟩ (.int .u32 0)).setCell ⟨B + 1 + 1, 1, none⟩ (.int .i64 0)) HH.out HW4.out
                    (Upd.setCell (Upd.setCell (Upd.refl (fun q => q = B + 1 + 1) wr) (p := ⟨B + 1 + 1, 0, none⟩) (fun _ => rfl) _) (p := ⟨B + 1 + 1, 1, none⟩) (fun _ => rfl) _) HU2.out HBB.out HGB.out HLT.out HFS.out
                  exact hfin
        · have n1 : (t1 != c.pub) = false := by simp [ht]
          have n2 : (po != t2) = true := by simp [hp]
          have HT := hid ht
          have HP := hid hp
          clear ht hp
          go_quiet (fail)
          go_wp2_with fail
          exact ⟨⟨k + 1, by omega, by go_num, hid (fun _ j hj => by
            by_cases e : j = k
            · subst e; rw [HZ.out]; exact HP.out
            · exact HN.out HT.out j (by omega)), hid (HX3.out.drewN _)⟩, by simp [intOf]; omega⟩
      · have n1 : (t1 != c.pub) = true := by simp [ht]
        have HT := hid ht
        clear ht
        go_quiet (fail)
        go_wp2_with fail
        exact ⟨⟨k + 1, by omega, by go_num, hid (fun h => absurd h HT.out), hid (HX3.out.drewN _)⟩, by simp [intOf]; omega⟩
    · have hkl' : k = M.length := by omega
      have y0 : wr.cell? ⟨B + 1 + 1, 0, none⟩ = some (.int .u32 0) := HX.out.cell ((blk_cell HC.out 0).trans rfl) (fun h => h)
      have y1 : wr.cell? ⟨B + 1 + 1, 1, none⟩ = some (.int .i64 0) := HX.out.cell ((blk_cell HC.out 1).trans rfl) (fun h => h)
      have z0 : wr.frozen? ⟨B + 1 + 1, 0, none⟩ = false := blk_free (HX.out.blk HC.out (fun h => h)) 0
      have z1 : wr.frozen? ⟨B + 1 + 1, 1, none⟩ = false := blk_free (HX.out.blk HC.out (fun h => h)) 1
      clear b0 b1 b2 b4
      go_wp2_with fail
      refine bodyPost_ret (v := .tuple #[.agg #[.int .u32 0, .int .i64 0], .int .i64 7]) ?_ rfl ?_
      · simp [results, Try.res19, go_sem, y0, y1]
      · have hi : inL c now ⟨f1, f2⟩ ⟨t1, t2⟩ (l.map Prod.fst) = (alive (cutT now) c.tmo (l.map Prod.fst), ⟨0, 0⟩, 7) := by
          by_cases ht : t1 = c.pub
          · refine inL_none ?_
            rw [← HFS.out]
            exact find_nothing (fun j hj => by
              rw [List.length_map] at hj
              rw [fst_getD M j hj]
              exact decide_eq_false (HN.out ht j (by omega)))
          · exact inL_host ht
        rw [hi]
        have hfin := ref_end (res := (alive (cutT now) c.tmo (l.map Prod.fst), ⟨0, 0⟩, 7)) (W := (wr.setCell ⟨B + 1 + 1, 0, none⟩ (.int .u32 0)).setCell ⟨B + 1 + 1, 1, none⟩ (.int .i64 0)) HH.out HX.out
          (Upd.setCell (Upd.setCell (Upd.refl (fun q => q = B + 1 + 1) wr) (p := ⟨B + 1 + 1, 0, none⟩) (fun _ => rfl) _) (p := ⟨B + 1 + 1, 1, none⟩) (fun _ => rfl) _) HU2.out HBB.out HGB.out HLT.out HFS.out
        exact hfin
end Go.Proofs.Ytbcchdnbfblooaa
