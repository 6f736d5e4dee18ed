/- A slice of whole numbers that came in, as a list of natural numbers (no statement of the seat). -/
import Derived.Test.YtgfpmonfdplalaaFrame
namespace Go.Proofs.Ytgfpmonfdplalaa
open Go.RowKit

/-- What the walk is told of a slice of integers that came in. -/
def IsRow (k : IntKind) (w : World) (a : Option Addr) (len cap : Nat) (zs : List Int) : Prop :=
  (a = none ∧ len = 0 ∧ cap = 0 ∧ zs = []) ∨
  ∃ x, a = some x ∧ len ≤ cap ∧ cap ≤ maxLen ∧ zs.length = cap ∧ (∀ i, i < zs.length → w.cell? (x.add i) = some (.int k (zs.getD i 0))) ∧ ∀ n ∈ zs, (Lit.int k n).wf = true

/-- The elements of a slice that came in, one by one (natural numbers, below `top`). -/
structure Src (k : IntKind) (top : Nat) (w : World) (a : Option Addr) (len : Nat) (f : Nat → Nat) : Prop where
  max : len ≤ 9223372036854775807
  lt : ∀ i, i < len → f i < top
  at_ : ∀ i, i < len → ∃ b off, a = some ⟨b, off, none⟩ ∧ b < w.heap.size ∧ w.cell? ⟨b, off + i, none⟩ = some (.int k (f i))

theorem Src.of_row {k : IntKind} {top : Nat} {w : World} {a : Option Addr} {len cap : Nat} {zs : List Int} (h : IsRow k w a len cap zs)
    (ht : ∀ n, (Lit.int k n).wf = true → 0 ≤ n ∧ n < (top : Int)) : Src k top w a len (fun i => (zs.getD i 0).toNat) := by
  rcases h with ⟨rfl, rfl, rfl, rfl⟩ | ⟨x, rfl, hl, hm, hz, hc, hw⟩
  · exact ⟨by decide, fun i hi => by omega, fun i hi => by omega⟩
  · have hmx : maxLen = 9223372036854775807 := rfl
    have hin : ∀ i, i < len → 0 ≤ zs.getD i 0 ∧ zs.getD i 0 < (top : Int) := by
      intro i hi
      refine ht _ (hw _ ?_)
      rw [List.getD_eq_getElem?_getD, List.getElem?_eq_getElem (by omega)]
      exact List.getElem_mem _
    refine ⟨by omega, fun i hi => by have := hin i hi; show (zs.getD i 0).toNat < top; omega, fun i hi => ?_⟩
    obtain ⟨b, off, spot⟩ := x
    have h0 := hc 0 (by omega)
    have hsp : spot = none := by
      cases spot with
      | none => rfl
      | some s => simp only [Addr.add, World.cell?, if_true] at h0; split at h0 <;> simp at h0
    subst hsp
    have hcell := hc i (by omega)
    have e : ((zs.getD i 0).toNat : Int) = zs.getD i 0 := Int.toNat_of_nonneg (hin i hi).1
    have ha : (⟨b, off, none⟩ : Addr).add i = ⟨b, off + i, none⟩ := by
      unfold Addr.add; split <;> simp_all
    rw [ha] at hcell
    refine ⟨b, off, rfl, World.block_lt_of_cell? _ _ hcell, ?_⟩
    rw [hcell]
    show some (Value.int k (zs.getD i 0)) = some (Value.int k ((zs.getD i 0).toNat : Int))
    rw [e]

theorem wf_u64 (n : Int) (h : (Lit.int .u64 n).wf = true) : 0 ≤ n ∧ n < ((18446744073709551616 : Nat) : Int) := by
  simp [Lit.wf, IntKind.min, IntKind.max, IntKind.bits, IntKind.signed] at h; omega
theorem wf_u8 (n : Int) (h : (Lit.int .u8 n).wf = true) : 0 ≤ n ∧ n < ((256 : Nat) : Int) := by
  simp [Lit.wf, IntKind.min, IntKind.max, IntKind.bits, IntKind.signed] at h; omega

theorem Src.upd {k : IntKind} {top : Nat} {w w' : World} {a : Option Addr} {len : Nat} {f : Nat → Nat} {S : Nat → Prop} (h : Src k top w a len f)
    (hu : Upd S w w') (hs : ∀ b, b < w.heap.size → ¬ S b) : Src k top w' a len f :=
  ⟨h.max, h.lt, fun i hi => by
    obtain ⟨b, off, ha, hb, hc⟩ := h.at_ i hi
    exact ⟨b, off, ha, Nat.lt_of_lt_of_le hb hu.size, hu.cell hc (hs b hb)⟩⟩
end Go.Proofs.Ytgfpmonfdplalaa
