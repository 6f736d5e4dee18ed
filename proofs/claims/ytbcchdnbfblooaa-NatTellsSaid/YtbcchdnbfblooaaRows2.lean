/- Rows of addresses: the calls that look through them (no statement of the seat). -/
import Derived.Test.YtbcchdnbfblooaaBox
import Derived.StillTailTactics
import Derived.Deep.RegionHeld3
namespace Go.Proofs.Ytbcchdnbfblooaa
open Go.RowKit

/-- The addresses of a slice, one by one. -/
def SrcAd (w : World) (A : Option Addr) (l : List Ad) : Prop :=
  ∀ j, j < l.length → ∃ b, A = some ⟨b, 0, none⟩ ∧ b < w.heap.size ∧ w.cell? ⟨b, j * 2, none⟩ = some (.int .u32 (l.getD j ⟨0, 0⟩).h) ∧ w.cell? ⟨b, j * 2 + 1, none⟩ = some (.int .i64 (l.getD j ⟨0, 0⟩).p)
theorem SrcAd.upd {w w' : World} {A : Option Addr} {l : List Ad} {S : Nat → Prop} (h : SrcAd w A l) (hu : Upd S w w') (hn : ∀ b, A = some ⟨b, 0, none⟩ → ¬ S b) : SrcAd w' A l := by
  intro j hj
  obtain ⟨b, hA, hb, h1, h2⟩ := h j hj
  exact ⟨b, hA, Nat.lt_of_lt_of_le hb hu.size, hu.cell h1 (hn b hA), hu.cell h2 (hn b hA)⟩
theorem SrcAd.nil (w : World) (A : Option Addr) : SrcAd w A [] := fun j hj => by simp at hj
theorem adCells_get (l : List Ad) : ∀ j, j < l.length → (adCells l)[j * 2]? = some (.int .u32 (l.getD j ⟨0, 0⟩).h) ∧ (adCells l)[j * 2 + 1]? = some (.int .i64 (l.getD j ⟨0, 0⟩).p) := by
  unfold adCells
  induction l with
  | nil => intro j hj; simp at hj
  | cons a l ih =>
    intro j hj
    cases j with
    | zero => simp
    | succ j =>
      have := ih j (by simpa using hj)
      rw [show (j + 1) * 2 = j * 2 + 2 by omega, show j * 2 + 2 + 1 = j * 2 + 1 + 2 by omega]
      simpa [List.getElem?_append_right] using this
theorem SrcAd.of_row {w : World} {b cap n : Nat} {l : List Ad} (h : w.ownsRow 0 26 2 (.slice (some ⟨b, 0, none⟩) n cap) n (adCells l)) (hn : n = l.length) : SrcAd w (some ⟨b, 0, none⟩) l := by
  subst hn
  intro j hj
  have hlt := (World.ownsRow.lt h b rfl).2
  have := adCells_get l j hj
  refine ⟨b, rfl, hlt, ?_, ?_⟩
  · rw [World.ownsRow.cellAt h (j * 2) (by omega)]; exact this.1
  · rw [World.ownsRow.cellAt h (j * 2 + 1) (by omega)]; exact this.2

def IdxRel (w : World) (l : List Ad) (to : Ad) (i : Value) (wr : World) : Prop :=
  ∃ j : Nat, j ≤ l.length ∧ i = .int .i64 j ∧ to ∉ l.take j ∧ Upd (fun _ => False) w wr
theorem take_snoc_ad (l : List Ad) (j : Nat) (h : j < l.length) : l.take (j + 1) = l.take j ++ [l.getD j ⟨0, 0⟩] := by
  rw [List.take_succ_eq_append_getElem h, List.getD_eq_getElem?_getD, List.getElem?_eq_getElem h]; rfl
def IdxPost (l : List Ad) (to : Ad) (e : Ending) : Prop := ∃ n : Int, e = .returned (.int .i64 n) ∧ -1 ≤ n ∧ (0 ≤ n ↔ to ∈ l)

set_option maxHeartbeats 2000000 in
theorem index_any (A : Option Addr) (cap : Nat) (l : List Ad) (to : Ad) (w : World) (h : SrcAd w A l) (hl : l.length ≤ 1000) :
    Calls Try.prog 38 #[.slice A l.length cap, to.v] w fun e w' => IdxPost l to e ∧ Upd (fun _ => False) w w' := by
  obtain ⟨t1, t2⟩ := to
  have HS := hid h
  clear h
  go_enter Try.func38, Try.ntmps38
  go_wp2_with fail
  go_loopw [8] (fun i wr => IdxRel (w.alloc (.cells #[.int .u32 t1, .int .i64 t2] 26)) l ⟨t1, t2⟩ i wr) (fun i _ => l.length - (intOf i).toNat)
  case atStart => exact ⟨0, Nat.zero_le _, rfl, by simp, Upd.refl _ _⟩
  case round =>
    obtain ⟨j, hj, rfl, hnot, hu⟩ := hrel
    have hbx := hu.blk (heap_alloc_new w (.cells #[.int .u32 t1, .int .i64 t2] 26)) (fun h => h)
    have k1 : wr.cell? ⟨w.heap.size, 0, none⟩ = some (.int .u32 t1) := (blk_cell hbx 0).trans rfl
    have k2 : wr.cell? ⟨w.heap.size, 1, none⟩ = some (.int .i64 t2) := (blk_cell hbx 1).trans rfl
    have HN := hid hnot
    have HU := hid hu
    clear hbx hnot
    by_cases hjl : j < l.length
    · obtain ⟨b, hA, hb, c1, c2⟩ := (HS.out.upd (S := fun _ => False) ((Upd.refl _ w).alloc _) (fun _ _ h => h)).upd hu (fun _ _ h => h) j hjl
      subst hA
      obtain ⟨x, hx⟩ : ∃ x, l.getD j ⟨0, 0⟩ = x := ⟨_, rfl⟩
      rw [hx] at c1 c2
      obtain ⟨x1, x2⟩ := x
      have HX := hid hx
      have kj : decide (j < l.length) = true := decide_eq_true hjl
      clear hu hx
      by_cases e1 : t1 = x1
      · by_cases e2 : t2 = x2
        · subst e1; subst e2
          go_wp2_with fail
          go_quiet (fail)
          go_wp2_with fail
          go_ret
          refine ⟨⟨j, rfl, by omega, ?_⟩, (((Upd.refl (fun _ => False) w).alloc _).trans HU.out).drewN _⟩
          have hm : (⟨t1, t2⟩ : Ad) ∈ l := by
            rw [← HX.out, List.getD_eq_getElem?_getD, List.getElem?_eq_getElem hjl]; exact List.getElem_mem _
          exact ⟨fun _ => hm, fun _ => by omega⟩
        · have HN2 : Hid ((⟨t1, t2⟩ : Ad) ∉ l.take (j + 1)) := hid (by
            rw [take_snoc_ad l j hjl, HX.out]
            intro hm
            rcases List.mem_append.1 hm with hm | hm
            · exact HN.out hm
            · simp at hm; exact e2 hm.2)
          subst e1
          go_wp2_with fail
          go_quiet (fail)
          go_wp2_with fail
          refine ⟨⟨j + 1, by omega, by go_num, HN2.out, HU.out.drewN _⟩, by simp [intOf]; omega⟩
      · have HN2 : Hid ((⟨t1, t2⟩ : Ad) ∉ l.take (j + 1)) := hid (by
          rw [take_snoc_ad l j hjl, HX.out]
          intro hm
          rcases List.mem_append.1 hm with hm | hm
          · exact HN.out hm
          · simp at hm; exact e1 hm.1)
        go_wp2_with fail
        go_quiet (fail)
        go_wp2_with fail
        refine ⟨⟨j + 1, by omega, by go_num, HN2.out, HU.out.drewN _⟩, by simp [intOf]; omega⟩
    · have kj : decide (j < l.length) = false := decide_eq_false hjl
      have ht : l.take j = l := List.take_of_length_le (by omega)
      rw [ht] at HN
      clear ht hu
      go_wp2_with fail
      go_ret
      exact ⟨⟨-1, rfl, by omega, ⟨fun h => by omega, fun h => absurd h HN.out⟩⟩, ((Upd.refl (fun _ => False) w).alloc _).trans HU.out⟩

set_option maxHeartbeats 1000000 in
theorem contains_any (A : Option Addr) (cap : Nat) (l : List Ad) (to : Ad) (w : World) (h : SrcAd w A l) (hl : l.length ≤ 1000) :
    Calls Try.prog 24 #[.slice A l.length cap, to.v] w fun e w' => e = .returned (.bool (decide (to ∈ l))) ∧ Upd (fun _ => False) w w' := by
  obtain ⟨t1, t2⟩ := to
  have HS : Hid (∀ o, SrcAd (w.alloc o) A l) := hid (fun o => h.upd (S := fun _ => False) ((Upd.refl _ w).alloc o) (fun _ _ h => h))
  clear h
  go_enter Try.func24, Try.ntmps24
  go_wp2_with fail
  refine (index_any A cap l ⟨t1, t2⟩ _ (HS.out _) hl).mono ?_
  rintro e w' ⟨⟨n, rfl, hn, hiff⟩, hu⟩
  have HU := hid (((Upd.refl (fun _ => False) w).alloc _).trans hu)
  have hd : decide ((⟨t1, t2⟩ : Ad) ∈ l) = decide (0 ≤ n) := by
    rw [Bool.eq_iff_iff]; simp [hiff]
  have HD := hid hd
  clear hu hiff hd
  go_wp2_with fail
  go_ret
  exact ⟨by rw [HD.out]; rfl, HU.out⟩

/-- What In's closure captured. -/
structure EnvIn (w : World) (pb fb g : Nat) (fil : Int) (fr : Ad) : Prop where
  p : w.cell? ⟨pb, 0, none⟩ = some (ptr g)
  f1 : w.cell? ⟨fb, 0, none⟩ = some (.int .u32 fr.h)
  f2 : w.cell? ⟨fb, 1, none⟩ = some (.int .i64 fr.p)
  c : w.cell? ⟨g, 2, none⟩ = some (.int .i64 fil)
theorem EnvIn.upd {w w' : World} {pb fb g : Nat} {fil : Int} {fr : Ad} {S : Nat → Prop} (E : EnvIn w pb fb g fil fr) (hu : Upd S w w')
    (hn : ∀ k, k = pb ∨ k = fb ∨ k = g → ¬ S k) : EnvIn w' pb fb g fil fr :=
  ⟨hu.cell E.p (hn _ (by simp)), hu.cell E.f1 (hn _ (by simp)), hu.cell E.f2 (hn _ (by simp)), hu.cell E.c (hn _ (by simp))⟩

set_option maxHeartbeats 2000000 in
theorem in1_any (a : Ad) (pb fb g : Nat) (fil : Int) (fr : Ad) (w : World) (E : EnvIn w pb fb g fil fr) :
    Calls Try.prog 26 #[a.v, ptr pb, ptr fb] w fun e w' => e = .returned (.bool (likeB fil a fr)) ∧ Upd (fun _ => False) w w' := by
  obtain ⟨a1, a2⟩ := a
  obtain ⟨f1, f2⟩ := fr
  have hU : Upd (fun _ => False) w (w.alloc (.cells #[.int .u32 a1, .int .i64 a2] 26)) := (Upd.refl _ w).alloc _
  obtain ⟨e1, e2, e3, e4⟩ := E.upd hU (fun _ _ h => h)
  clear E
  have hx := heap_alloc_new w (.cells #[.int .u32 a1, .int .i64 a2] 26)
  have x1 : (w.alloc (.cells #[.int .u32 a1, .int .i64 a2] 26)).cell? ⟨w.heap.size, 0, none⟩ = some (.int .u32 a1) := (blk_cell hx 0).trans rfl
  have x2 : (w.alloc (.cells #[.int .u32 a1, .int .i64 a2] 26)).cell? ⟨w.heap.size, 1, none⟩ = some (.int .i64 a2) := (blk_cell hx 1).trans rfl
  have HU := hid hU
  clear hx hU
  go_enter Try.func26, Try.ntmps26
  go_wp2_with fail
  refine wp_region_still_tail 7 (by kernel_rfl) (by kernel_rfl) ?_
  simp only [List.take_succ_cons, List.take_zero, List.drop_succ_cons, List.drop_zero, World.drew_eq]
  repeat still_step
  refine wpStill_nil ?_
  go_wp2_with fail
  refine (alike_any fil ⟨a1, a2⟩ ⟨f1, f2⟩ _).mono ?_
  rintro e w' ⟨rfl, hu⟩
  have HU2 := hid ((HU.out.drew).trans hu)
  obtain ⟨r, hr⟩ : ∃ r, likeB fil ⟨a1, a2⟩ ⟨f1, f2⟩ = r := ⟨_, rfl⟩
  rw [hr]
  have HR := hid hr
  clear hu hr
  go_wp2_with fail
  go_ret
  exact ⟨by rw [HR.out]; rfl, HU2.out⟩

def FncRel (w : World) (l : List Ad) (p : Ad → Bool) (i : Value) (wr : World) : Prop :=
  ∃ j : Nat, j ≤ l.length ∧ i = .int .i64 j ∧ (l.take j).any p = false ∧ Upd (fun _ => False) w wr
def FncPost (l : List Ad) (p : Ad → Bool) (e : Ending) : Prop := ∃ n : Int, e = .returned (.int .i64 n) ∧ -1 ≤ n ∧ (0 ≤ n ↔ l.any p = true)

set_option maxHeartbeats 2000000 in
theorem indexFunc_any (A : Option Addr) (cap : Nat) (l : List Ad) (pb fb g : Nat) (fil : Int) (fr : Ad) (w : World) (h : SrcAd w A l) (hl : l.length ≤ 1000) (E : EnvIn w pb fb g fil fr) :
    Calls Try.prog 39 #[.slice A l.length cap, .func (.func 26) #[] #[ptr pb, ptr fb]] w fun e w' => FncPost l (fun a => likeB fil a fr) e ∧ Upd (fun _ => False) w w' := by
  have HS := hid h
  have HE := hid E
  clear h E
  go_enter Try.func39, Try.ntmps39
  go_wp2_with fail
  go_loopw [8] (fun i wr => FncRel w l (fun a => likeB fil a fr) i wr) (fun i _ => l.length - (intOf i).toNat)
  case atStart => exact ⟨0, Nat.zero_le _, rfl, by simp, Upd.refl _ _⟩
  case round =>
    obtain ⟨j, hj, rfl, hnot, hu⟩ := hrel
    have HN := hid hnot
    have HU := hid hu
    clear hnot
    by_cases hjl : j < l.length
    · obtain ⟨b, hA, hb, c1, c2⟩ := HS.out.upd hu (fun _ _ h => h) j hjl
      subst hA
      obtain ⟨x, hx⟩ : ∃ x, l.getD j ⟨0, 0⟩ = x := ⟨_, rfl⟩
      rw [hx] at c1 c2
      obtain ⟨x1, x2⟩ := x
      have HX := hid hx
      have kj : decide (j < l.length) = true := decide_eq_true hjl
      clear hu hx
      go_wp2_with fail
      refine (in1_any ⟨x1, x2⟩ pb fb g fil fr _ (HE.out.upd HU.out (fun _ _ h => h))).mono ?_
      rintro e w' ⟨rfl, hu'⟩
      have HU2 := hid (HU.out.trans hu')
      have hstep : (l.take (j + 1)).any (fun a => likeB fil a fr) = likeB fil ⟨x1, x2⟩ fr := by
        rw [take_snoc_ad l j hjl, HX.out, List.any_append, HN.out]; simp
      cases hr : likeB fil ⟨x1, x2⟩ fr with
      | true =>
        have HR := hid hr
        clear hu' hr hstep
        go_wp2_with fail
        go_ret
        refine ⟨⟨j, rfl, by omega, ⟨fun _ => ?_, fun _ => by omega⟩⟩, HU2.out⟩
        rw [List.any_eq_true]
        refine ⟨⟨x1, x2⟩, ?_, HR.out⟩
        rw [← HX.out, List.getD_eq_getElem?_getD, List.getElem?_eq_getElem hjl]; exact List.getElem_mem _
      | false =>
        rw [hr] at hstep
        have HST := hid hstep
        clear hu' hr hstep
        go_wp2_with fail
        refine ⟨⟨j + 1, by omega, by go_num, HST.out, HU2.out⟩, by simp [intOf]; omega⟩
    · have kj : decide (j < l.length) = false := decide_eq_false hjl
      have ht : l.take j = l := List.take_of_length_le (by omega)
      rw [ht] at HN
      clear ht hu
      go_wp2_with fail
      go_ret
      exact ⟨⟨-1, rfl, by omega, ⟨fun h => by omega, fun h => by rw [HN.out] at h; cases h⟩⟩, HU.out⟩

set_option maxHeartbeats 1000000 in
theorem containsFunc_any (A : Option Addr) (cap : Nat) (l : List Ad) (pb fb g : Nat) (fil : Int) (fr : Ad) (w : World) (h : SrcAd w A l) (hl : l.length ≤ 1000) (E : EnvIn w pb fb g fil fr) :
    Calls Try.prog 25 #[.slice A l.length cap, .func (.func 26) #[] #[ptr pb, ptr fb]] w fun e w' => e = .returned (.bool (l.any (fun a => likeB fil a fr))) ∧ Upd (fun _ => False) w w' := by
  have HS := hid h
  have HE := hid E
  clear h E
  go_enter Try.func25, Try.ntmps25
  go_wp2_with fail
  refine (indexFunc_any A cap l pb fb g fil fr _ HS.out hl HE.out).mono ?_
  rintro e w' ⟨⟨n, rfl, hn, hiff⟩, hu⟩
  have HU := hid hu
  have hd : l.any (fun a => likeB fil a fr) = decide (0 ≤ n) := by
    rw [Bool.eq_iff_iff]; simp only [decide_eq_true_eq]; exact hiff.symm
  have HD := hid hd
  clear hu hiff hd
  go_wp2_with fail
  go_ret
  exact ⟨by rw [HD.out]; rfl, HU.out⟩
end Go.Proofs.Ytbcchdnbfblooaa
