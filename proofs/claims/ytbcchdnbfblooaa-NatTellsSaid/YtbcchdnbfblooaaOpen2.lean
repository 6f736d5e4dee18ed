/- Arguments that are slices, opened (no statement of the seat). -/
import Derived.Test.YtbcchdnbfblooaaOpen
import Derived.Test.YtbcchdnbfblooaaKeeps
import Derived.Deep.Slices
namespace Go.Proofs.Ytbcchdnbfblooaa
open Go.ChangeShapes Go.WideShapes Go.ChangeAt Go.RowKit Go.Joins

section
variable {H : Type} {enc : TypeId × Value → H} {w : World} {base : Nat} {spare : Nat → Bool} {held : Bool} {r : Reach} {b0 : Nat} {v : Value} {d : DataW H} {p : List MemPlace}
theorem open_is (hv : Value.okWide Try.prog w r b0 39 v) (h : DataW.Trod enc Try.prog w base spare held 39 v d p) : ∃ a len cap f, v = .slice a len cap ∧ SrcI w a len f := by
  obtain ⟨a, len, cap, rfl⟩ := okWide_slice Try.underlying39 hv
  refine ⟨a, len, cap, ?_⟩
  obtain ⟨fuel, hf⟩ := h
  rcases open_ints Try.underlying39 Try.underlying3 (by kernel_rfl) hf with ⟨hcs, _⟩ | ⟨x, l, c, zs, hcs, _, hl, hm, hz, _, hcell, hwz⟩
  · simp [Value.cells] at hcs
    obtain ⟨rfl, rfl, rfl⟩ := hcs
    exact ⟨fun _ => 0, rfl, by decide, fun i hi => by omega⟩
  · simp [Value.cells] at hcs
    obtain ⟨rfl, rfl, rfl⟩ := hcs
    have hmx : maxLen = 9223372036854775807 := rfl
    have hlz : len ≤ zs.length := by rw [hz]; split <;> omega
    refine ⟨fun i => zs.getD i 0, rfl, by omega, fun i hi => ?_⟩
    obtain ⟨b, off, spot⟩ := x
    have h0 := hcell 0 (by omega)
    have hsp : spot = none := by
      cases spot with
      | none => rfl
      | some s => simp only [Addr.add, World.cell?, if_true] at h0; split at h0 <;> simp at h0
    subst hsp
    have hc := hcell i (by omega)
    have ha : (⟨b, off, none⟩ : Addr).add i = ⟨b, off + i, none⟩ := by
      unfold Addr.add; split <;> simp_all
    rw [ha] at hc
    exact ⟨b, off, rfl, World.block_lt_of_cell? _ _ hc, hc⟩
end
end Go.Proofs.Ytbcchdnbfblooaa
