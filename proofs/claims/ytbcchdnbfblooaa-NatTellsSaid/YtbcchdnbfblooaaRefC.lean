/- The document's Right, port, has (no statement of the seat). -/
import Derived.Test.YtbcchdnbfblooaaRefB
import Derived.Test.YtbcchdnbfblooaaNew
namespace Go.Proofs.Ytbcchdnbfblooaa
open Go.RowKit
set_option linter.unusedSimpArgs false
set_option linter.unusedVariables false
set_option maxHeartbeats 4000000 in
theorem rright16_any (c : Cfg) (w : World) : Calls Try.prog 16 #[c.v] w fun e w' => e = .returned (.bool (rightB c)) ∧ Upd (fun _ => False) w w' := by
  obtain ⟨pub, map, fil, hair, tmo⟩ := c
  obtain ⟨β, hβ⟩ : ∃ β, rightB ⟨pub, map, fil, hair, tmo⟩ = β := ⟨_, rfl⟩
  rw [hβ]
  have HB := hid hβ
  have hfin : ∀ γ : Bool, (γ = true ↔ (pub ≠ 0 ∧ 1 ≤ map ∧ map ≤ 3 ∧ 1 ≤ fil ∧ fil ≤ 3 ∧ 1 ≤ tmo ∧ tmo ≤ 1000000)) → β = γ := fun γ h => by
    rw [← HB.out, Bool.eq_iff_iff, h, rightB_iff]
    exact ⟨fun ⟨a, b, d, e, f, g, i⟩ => ⟨a, b, d, e, f, g, i⟩, fun ⟨a, b, d, e, f, g, i⟩ => ⟨a, b, d, e, f, g, i⟩⟩
  have HFI := hid hfin
  clear hβ hfin HB
  by_cases h1 : pub = 0
  · have hb := HFI.out false (by simp [h1])
    subst h1 hb
    clear HFI
    go_enter Try.func16, Try.ntmps16
    go_wp2_with fail
    go_ret
    exact ⟨rfl, (Upd.refl _ _).alloc _⟩
  have k1 : (pub != 0) = true := bne_iff_ne.2 h1
  by_cases h2 : 1 ≤ map
  · by_cases h3 : map ≤ 3
    · by_cases h4 : 1 ≤ fil
      · by_cases h5 : fil ≤ 3
        · by_cases h6 : 1 ≤ tmo
          · by_cases h7 : tmo ≤ 1000000
            · have hb := HFI.out true (by simp only [true_iff]; exact ⟨h1, h2, h3, h4, h5, h6, h7⟩)
              subst hb
              clear HFI
              go_enter Try.func16, Try.ntmps16
              go_wp2_with fail
              go_ret
              exact ⟨rfl, (Upd.refl _ _).alloc _⟩
            · have hb := HFI.out false (by simp; intros; omega)
              subst hb
              clear HFI
              go_enter Try.func16, Try.ntmps16
              go_wp2_with fail
              go_ret
              exact ⟨rfl, (Upd.refl _ _).alloc _⟩
          · have hb := HFI.out false (by simp; intros; omega)
            subst hb
            clear HFI
            go_enter Try.func16, Try.ntmps16
            go_wp2_with fail
            go_ret
            exact ⟨rfl, (Upd.refl _ _).alloc _⟩
        · have hb := HFI.out false (by simp; intros; omega)
          subst hb
          clear HFI
          go_enter Try.func16, Try.ntmps16
          go_wp2_with fail
          go_ret
          exact ⟨rfl, (Upd.refl _ _).alloc _⟩
      · have hb := HFI.out false (by simp; intros; omega)
        subst hb
        clear HFI
        go_enter Try.func16, Try.ntmps16
        go_wp2_with fail
        go_ret
        exact ⟨rfl, (Upd.refl _ _).alloc _⟩
    · have hb := HFI.out false (by simp; intros; omega)
      subst hb
      clear HFI
      go_enter Try.func16, Try.ntmps16
      go_wp2_with fail
      go_ret
      exact ⟨rfl, (Upd.refl _ _).alloc _⟩
  · have hb := HFI.out false (by simp; intros; omega)
    subst hb
    clear HFI
    go_enter Try.func16, Try.ntmps16
    go_wp2_with fail
    go_ret
    exact ⟨rfl, (Upd.refl _ _).alloc _⟩

set_option maxHeartbeats 4000000 in
theorem has32_any (A : Option Addr) (cap : Nat) (l : List Ad) (tt : Ad) (w : World) (h : SrcAd w A l) (hl : l.length ≤ 1000) :
    Calls Try.prog 32 #[.slice A l.length cap, tt.v] w fun e w' => e = .returned (.bool (decide (tt ∈ l))) ∧ Upd (fun _ => False) w w' := by
  obtain ⟨t1, t2⟩ := tt
  have HS := hid h
  clear h
  go_enter Try.func32, Try.ntmps32
  go_wp2_with fail
  go_loopw [5] (fun i wr => IdxRel (w.alloc (.cells #[.int .u32 t1, .int .i64 t2] 26)) l ⟨t1, t2⟩ i wr) (fun i _ => l.length - (intOf i).toNat)
  case atStart => exact ⟨0, Nat.zero_le _, rfl, by simp, Upd.refl _ _⟩
  case round =>
    obtain ⟨j, hj, rfl, hnot, hu⟩ := hrel
    have hbx := hu.blk (heap_alloc_new w (.cells #[.int .u32 t1, .int .i64 t2] 26)) (fun h => h)
    have k1 : wr.cell? ⟨w.heap.size, 0, none⟩ = some (.int .u32 t1) := (blk_cell hbx 0).trans rfl
    have k2 : wr.cell? ⟨w.heap.size, 1, none⟩ = some (.int .i64 t2) := (blk_cell hbx 1).trans rfl
    have HN := hid hnot
    have HU := hid hu
    clear hbx hnot
    by_cases hjl : j < l.length
    · obtain ⟨b, hA, hb, c1, c2⟩ := (HS.out.upd (S := fun _ => False) ((Upd.refl _ w).alloc _) (fun _ _ h => h)).upd hu (fun _ _ h => h) j hjl
      subst hA
      obtain ⟨x, hx⟩ : ∃ x, l.getD j ⟨0, 0⟩ = x := ⟨_, rfl⟩
      rw [hx] at c1 c2
      obtain ⟨x1, x2⟩ := x
      have HX := hid hx
      have kj : decide (j < l.length) = true := decide_eq_true hjl
      clear hu hx
      by_cases e1 : x1 = t1
      · by_cases e2 : x2 = t2
        · subst e1; subst e2
          have hm : decide ((⟨x1, x2⟩ : Ad) ∈ l) = true := by
            rw [decide_eq_true_eq, ← HX.out, List.getD_eq_getElem?_getD, List.getElem?_eq_getElem hjl]; exact List.getElem_mem _
          have HM := hid hm
          clear hm
          go_wp2_with fail
          go_quiet (fail)
          go_wp2_with fail
          go_ret
          exact ⟨by rw [HM.out]; rfl, (((Upd.refl (fun _ => False) w).alloc _).trans HU.out).drewN _⟩
        · have HN2 : Hid ((⟨t1, t2⟩ : Ad) ∉ l.take (j + 1)) := hid (by
            rw [take_snoc_ad l j hjl, HX.out]
            intro hm
            rcases List.mem_append.1 hm with hm | hm
            · exact HN.out hm
            · simp at hm; exact e2 hm.2.symm)
          subst e1
          go_wp2_with fail
          go_quiet (fail)
          go_wp2_with fail
          refine ⟨⟨j + 1, by omega, by go_num, HN2.out, HU.out.drewN _⟩, by simp [intOf]; omega⟩
      · have HN2 : Hid ((⟨t1, t2⟩ : Ad) ∉ l.take (j + 1)) := hid (by
          rw [take_snoc_ad l j hjl, HX.out]
          intro hm
          rcases List.mem_append.1 hm with hm | hm
          · exact HN.out hm
          · simp at hm; exact e1 hm.1.symm)
        go_wp2_with fail
        go_quiet (fail)
        go_wp2_with fail
        refine ⟨⟨j + 1, by omega, by go_num, HN2.out, HU.out.drewN _⟩, by simp [intOf]; omega⟩
    · have kj : decide (j < l.length) = false := decide_eq_false hjl
      have ht : l.take j = l := List.take_of_length_le (by omega)
      rw [ht] at HN
      have hm : decide ((⟨t1, t2⟩ : Ad) ∈ l) = false := decide_eq_false HN.out
      have HM := hid hm
      clear ht hu hm
      go_wp2_with fail
      go_ret
      exact ⟨by rw [HM.out]; rfl, ((Upd.refl (fun _ => False) w).alloc _).trans HU.out⟩
set_option maxHeartbeats 4000000 in
theorem port31_any (r : Nat) (c : Cfg) (A : Option Addr) (cap : Nat) (l : List RE) (w : World) (h : RefAt r c A cap l w) (hl : l.length ≤ 64) :
    Calls Try.prog 31 #[ptr r] w fun e w' => e = .returned (.int .i64 (freeP (l.map Prod.fst))) ∧ w = w' := by
  have H := hid h
  have hfs := freeP_spec (l.map Prod.fst)
  rw [List.length_map] at hfs
  have HF := hid hfs.1
  have hf2 : freeP (l.map Prod.fst) ≤ 1088 := by omega
  obtain ⟨p, hp⟩ : ∃ p, freeP (l.map Prod.fst) = p := ⟨_, rfl⟩
  rw [hp] at HF hf2 ⊢
  obtain ⟨b0, b1, b2, b4, b5⟩ := h.cells
  have hpos : ∀ k, k < l.length → (l.getD k default).1.port ∈ ports (l.map Prod.fst) := fun k hk => by
    unfold ports
    rw [List.map_map]
    refine List.mem_map.2 ⟨l[k], List.getElem_mem hk, ?_⟩
    have eg : l.getD k default = l[k] := by simp [List.getD, hk]
    rw [eg]; rfl
  have HPO := hid hpos
  have hall : ∀ x, x ∈ ports (l.map Prod.fst) → ∃ k, k < l.length ∧ (l.getD k default).1.port = x := fun x hx => by
    unfold ports at hx
    rw [List.map_map] at hx
    obtain ⟨z, hz, rfl⟩ := List.mem_map.1 hx
    obtain ⟨k, hk, rfl⟩ := List.getElem_of_mem hz
    exact ⟨k, hk, by simp [List.getD, hk]⟩
  have HAL := hid hall
  clear h hp hfs hpos hall b0 b1 b2 b4
  go_enter Try.func31, Try.ntmps31
  go_wp2_with fail
  go_loopw [3] (fun v wr => ∃ n : Nat, v = .int .i64 n ∧ 1024 ≤ n ∧ n ≤ p ∧ wr = w ∧ Hid (∀ k : Nat, 1024 ≤ k → k < n → (k : Int) ∈ ports (l.map Prod.fst))) (fun v _ => p - (intOf v).toNat)
  case atStart => exact ⟨1024, rfl, Nat.le_refl _, HF.out.1, rfl, hid (fun k h1 h2 => by omega)⟩
  case round =>
    obtain ⟨n, rfl, hn0, hn1, rfl, HN⟩ := hrel
    go_wp2_with fail
    go_loopw [4, 5] (fun tk i wx => ∃ (k : Nat) (β : Bool), k ≤ l.length ∧ i = .int .i64 k ∧ tk = .bool β ∧ wx = wr ∧ Hid (∀ γ, β = γ → (γ = true ↔ ∃ j, j < k ∧ (l.getD j default).1.port = n))) (fun _ i _ => l.length - (intOf i).toNat)
    case atStart => exact ⟨0, false, Nat.zero_le _, rfl, rfl, rfl, hid (fun γ h => by subst h; simp)⟩
    case round =>
      obtain ⟨k, β, hk, rfl, rfl, rfl, HB⟩ := hrel
      by_cases hkl : k < l.length
      · obtain ⟨gl, rfl, c0, c1, c2, c3, c4⟩ := H.out.at_ k hkl
        have hlc : l.length ≤ cap := row_capE H.out.row
        obtain ⟨po, hpo⟩ : ∃ po, (l.getD k default).1.port = po := ⟨_, rfl⟩
        rw [hpo] at c2
        have HST : Hid (∀ δ : Bool, (δ = true ↔ β = true ∨ po = n) → Hid (∀ γ, δ = γ → (γ = true ↔ ∃ j, j < k + 1 ∧ (l.getD j default).1.port = n))) := hid (fun δ h => hid (fun γ e => by
          subst e
          rw [h, HB.out β rfl]
          constructor
          · rintro (⟨j, hj, e⟩ | e)
            · exact ⟨j, by omega, e⟩
            · exact ⟨k, by omega, by rw [hpo]; exact e⟩
          · rintro ⟨j, hj, e⟩
            by_cases hjk : j = k
            · subst hjk; right; rw [← hpo]; exact e
            · exact .inl ⟨j, by omega, e⟩))
        clear hpo c0 c1 c3 c4
        cases β with
        | true =>
          have HD := hid (HST.out true (by simp))
          go_wp2_with fail
          exact ⟨⟨k + 1, true, by omega, by go_num, rfl, trivial, HD.out⟩, by simp [intOf]; omega⟩
        | false =>
          by_cases he : po = n
          · have HD := hid (HST.out true (by simp [he]))
            subst he
            go_wp2_with fail
            exact ⟨⟨k + 1, true, by omega, by go_num, rfl, trivial, HD.out⟩, by simp [intOf]; omega⟩
          · have HD := hid (HST.out false (by simp [he]))
            have hb : (po == (n : Int)) = false := by rw [beq_eq_false_iff_ne]; exact he
            go_wp2_with fail
            exact ⟨⟨k + 1, false, by omega, by go_num, rfl, trivial, HD.out⟩, by simp [intOf]; omega⟩
      · have hkl' : k = l.length := by omega
        subst hkl'
        cases β with
        | true =>
          have hin : (n : Int) ∈ ports (l.map Prod.fst) := by
            obtain ⟨j, hj, e⟩ := (HB.out true rfl).1 rfl
            rw [← e]; exact HPO.out j hj
          have hne : n ≠ p := fun e => HF.out.2.1 (e ▸ hin)
          have HN2 : Hid (∀ k : Nat, 1024 ≤ k → k < n + 1 → (k : Int) ∈ ports (l.map Prod.fst)) := hid (fun k h1 h2 => by
            by_cases e : k = n
            · subst e; exact hin
            · exact HN.out k h1 (by omega))
          have hlt : n < p := by omega
          clear hin
          go_wp2_with fail
          exact ⟨⟨n + 1, by go_num, by omega, by omega, trivial, HN2⟩, by simp [intOf]; omega⟩
        | false =>
          have hno : (n : Int) ∉ ports (l.map Prod.fst) := fun hin => by
            obtain ⟨j, hj, e⟩ := HAL.out n hin
            have := (HB.out false rfl).2 ⟨j, hj, e⟩
            cases this
          have hnp : n = p := IsFree.unique ⟨hn0, hno, HN.out⟩ HF.out
          subst hnp
          clear hno
          go_wp2_with fail
          go_ret
          exact ⟨rfl, rfl⟩
end Go.Proofs.Ytbcchdnbfblooaa
