/- The listed map, as the program's text lays it, opened (no statement of the seat). -/
import Derived.Test.YtoadbogfbgediaaDoorShown
import Derived.ProofKit
import Derived.LaidMore
import Derived.OpenShut
import Derived.MakeChecks
import Derived.Maps.Keyed
namespace Go.Proofs.YtoadbogfbgediaaDoor
open Go.ChangeShapes Go.WideShapes Go.ChangeAt Go.WideMaps Go.WideElems Go.RowKit

theorem own : ownKnob Tryd.prog.godebug = none := by kernel_rfl
theorem laidOut : laidOutB Tryd.prog = true := by kernel_rfl
theorem gKinds : Tryd.prog.globalNamed "hatchway/ice.kinds" = some 0 := by kernel_rfl
theorem tKinds : (Tryd.prog.globals[0]?).map (·.type) = some 53 := by kernel_rfl
abbrev laidL {H : Type} : List (String × DataW H) := [("hatchway/ice.kinds", Rows.laid_hatchway_ice_kinds)]

theorem door_met (os : Os) (args : Array Value) : laidMetH Tryd.prog laidL ((World.doorLaid Tryd.prog 400 os).forCall (fun _ _ => 0) ⟨#[], args, []⟩).memory :=
  laidMetH_of_parts3 (fuel := 8) (laidMet_of_run' 8 (by kernel_rfl) (by kernel_rfl)) (by kernel_rfl) (by kernel_rfl)

theorem at_kinds {H : Type} (k : Int) (zd : DataW H) : (Rows.laid_hatchway_ice_kinds : DataW H).atKey (.int .i64 k) zd = if isK k = true then .lit (.int .u32 (worth k)) else zd := by
  by_cases h1 : k = 1
  · subst h1; rfl
  · by_cases h2 : k = 2
    · subst h2; rfl
    · by_cases h3 : k = 3
      · subst h3; rfl
      · by_cases h4 : k = 4
        · subst h4; rfl
        · have hk : isK k = false := by
            unfold isK
            by_cases h : 1 ≤ k
            · have : ¬ k ≤ 4 := by omega
              simp [this]
            · simp [h]
          rw [hk]
          simp [Rows.laid_hatchway_ice_kinds, DataW.atKey, Lit.sameKey, List.find?, Ne.symm h1, Ne.symm h2, Ne.symm h3, Ne.symm h4]

theorem worth_not {k : Int} (h : isK k = false) : worth k = 0 := by
  unfold worth
  by_cases h1 : k = 1
  · subst h1; cases h
  · by_cases h2 : k = 2
    · subst h2; cases h
    · by_cases h3 : k = 3
      · subst h3; cases h
      · simp [h1, h2, h3]
theorem wf_i64 {k : Int} (h : InR k) : (Lit.int .i64 k).wf = true := by
  have e1 : IntKind.i64.min = -9223372036854775808 := by decide
  have e2 : IntKind.i64.max = 9223372036854775807 := by decide
  simp only [Lit.wf, e1, e2, Bool.and_eq_true, decide_eq_true_eq]
  exact h
theorem kin_of_laid {W : World} (h : laidMetH Tryd.prog laidL W) : ∃ bm es clock, Kin bm es clock W := by
  rw [MakeChecks.laidMetH_plain _ _ _ (by kernel_rfl)] at h
  obtain ⟨ps, ⟨g0, t0, cs0, f0, p0, q0, hg0, ht0, hv0, hd0, _, _⟩, _, _⟩ := h
  obtain rfl := Option.some.inj (gKinds.symm.trans hg0)
  obtain rfl := Option.some.inj (tKinds.symm.trans ht0)
  rcases open_map Tryd.underlying53 hd0 with ⟨_, hx⟩ | ⟨bm, es, clock, m, rfl, hcs, hb, _, F, hx⟩
  · simp [Rows.laid_hatchway_ice_kinds] at hx
  simp only [Prod.mk.injEq] at hx
  have hcell : W.cell? ⟨0, 0, none⟩ = some (.map (some bm)) := by
    have := World.var?_cell hg0 hv0 0
    rw [Array.eq_one_of_toList hcs] at this
    simpa using this
  refine ⟨bm, es, clock, hcell, hb, fun W' hb' k hk => ?_⟩
  have hkey : keyOf Tryd.prog 3 (.int .i64 k) = some (.int .i64 k) := Maps.keyOf_int_mk Tryd.underlying3 (wf_i64 hk)
  have hat0 := at_kinds k (.nil : DataW Unit)
  rcases Maps.fit_look (w := W') true (Maps.int_keyed Tryd.underlying3) Tryd.underlying53 (show (zeroValue 22).run Tryd.prog W' = .ok (.int .u32 0) W' by kernel_rfl) hb' F hkey with ⟨hrun, _, hat⟩ | ⟨e0, y, _, _, hrun, hRv, hat, _⟩
  · have h0 := hat .nil
    rw [← hx.1, hat0] at h0
    cases hi : isK k with
    | false =>
      have hw : worth k = 0 := worth_not hi
      rw [hw]; exact hrun
    | true => rw [hi] at h0; simp at h0
  · obtain ⟨r, hr, rfl, _⟩ := elemAt_int Tryd.underlying22 hRv
    have h0 := hat .nil
    rw [← hx.1, hat0] at h0
    cases hi : isK k with
    | false => rw [hi] at h0; simp at h0
    | true =>
      rw [hi] at h0
      simp at h0
      rw [h0, ← hr]; exact hrun
end Go.Proofs.YtoadbogfbgediaaDoor
