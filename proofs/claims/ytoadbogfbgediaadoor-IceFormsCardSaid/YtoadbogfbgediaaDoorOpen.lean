/- Arguments opened: numbers, slices of numbers, slices of candidates (no statement of the seat). -/
import Derived.Test.YtoadbogfbgediaaDoorKinds
import Derived.Test.YtoadbogfbgediaaDoorTie
import Derived.WalkKit
import Derived.ShutString
import Derived.ChangeOld
import Derived.Below
import Derived.Lib.SmallJoins
import Derived.Deep.Slices
namespace Go.Proofs.YtoadbogfbgediaaDoor
open Go.ChangeShapes Go.WideShapes Go.ChangeAt Go.RowKit Go.Joins Go.Deep

theorem lit_i64 {k : Int} (h : (Lit.int .i64 k).wf = true) : InR k := by
  have e1 : IntKind.i64.min = -9223372036854775808 := by decide
  have e2 : IntKind.i64.max = 9223372036854775807 := by decide
  simp only [Lit.wf, e1, e2, Bool.and_eq_true, decide_eq_true_eq] at h
  exact h
def InU (k : Int) : Prop := 0 ≤ k ∧ k < 4294967296
theorem lit_u32 {k : Int} (h : (Lit.int .u32 k).wf = true) : InU k := by
  have e1 : IntKind.u32.min = 0 := by decide
  have e2 : IntKind.u32.max = 4294967295 := by decide
  simp only [Lit.wf, e1, e2, Bool.and_eq_true, decide_eq_true_eq] at h
  exact ⟨h.1, by omega⟩
/-- Numbers of a slice, one by one. -/
structure SrcI (w : World) (A : Option Addr) (n : Nat) (f : Nat → Int) : Prop where
  max : n ≤ 9223372036854775807
  at_ : ∀ i, i < n → ∃ b off, A = some ⟨b, off, none⟩ ∧ b < w.heap.size ∧ w.cell? ⟨b, off + i, none⟩ = some (.int .i64 (f i))
theorem SrcI.upd {w w' : World} {A : Option Addr} {n : Nat} {f : Nat → Int} (h : SrcI w A n f) (hu : Upd (fun _ => False) w w') : SrcI w' A n f :=
  ⟨h.max, fun i hi => by
    obtain ⟨b, off, ha, hb, h0⟩ := h.at_ i hi
    exact ⟨b, off, ha, Nat.lt_of_lt_of_le hb hu.size, hu.cell h0 (fun h => h)⟩⟩
/-- Candidates of a slice, one by one. -/
structure SrcC (w : World) (A : Option Addr) (n : Nat) (g : Nat → Ca) : Prop where
  max : n ≤ 9223372036854775807
  at_ : ∀ i, i < n → ∃ b off, A = some ⟨b, off, none⟩ ∧ b < w.heap.size ∧ ∀ j, j < 6 → w.cell? ⟨b, off + i * 6 + j, none⟩ = (caCells (g i))[j]?
  ok : ∀ i, i < n → InR (g i).k ∧ InU (g i).p
theorem SrcC.upd {w w' : World} {A : Option Addr} {n : Nat} {g : Nat → Ca} (h : SrcC w A n g) (hu : Upd (fun _ => False) w w') : SrcC w' A n g :=
  ⟨h.max, fun i hi => by
    obtain ⟨b, off, ha, hb, h0⟩ := h.at_ i hi
    refine ⟨b, off, ha, Nat.lt_of_lt_of_le hb hu.size, fun j hj => ?_⟩
    obtain ⟨v, hv⟩ := ca_some (g i) j hj
    rw [hv]; exact hu.cell ((h0 j hj).trans hv) (fun h => h), h.ok⟩

section
variable {H : Type} {enc : TypeId × Value → H} {w : World} {base : Nat} {spare : Nat → Bool} {held : Bool} {r : Reach} {b0 : Nat} {v : Value} {d : DataW H} {p : List MemPlace}
theorem open_i (hv : Value.okWide Tryd.prog w r b0 3 v) (h : DataW.Trod enc Tryd.prog w base spare held 3 v d p) : ∃ n : Int, v = .int .i64 n ∧ InR n := by
  obtain ⟨x, hx, _, _, hw⟩ := open_int Tryd.underlying3 hv h
  exact ⟨x, hx, lit_i64 hw⟩
theorem open_u (hv : Value.okWide Tryd.prog w r b0 22 v) (h : DataW.Trod enc Tryd.prog w base spare held 22 v d p) : ∃ n : Int, v = .int .u32 n ∧ InU n := by
  obtain ⟨x, hx, _, _, hw⟩ := open_int Tryd.underlying22 hv h
  exact ⟨x, hx, lit_u32 hw⟩
theorem open_is (hv : Value.okWide Tryd.prog w r b0 32 v) (h : DataW.Trod enc Tryd.prog w base spare held 32 v d p) : ∃ a len cap f, v = .slice a len cap ∧ SrcI w a len f := by
  obtain ⟨a, len, cap, rfl⟩ := okWide_slice Tryd.underlying32 hv
  refine ⟨a, len, cap, ?_⟩
  obtain ⟨fuel, hf⟩ := h
  rcases open_ints Tryd.underlying32 Tryd.underlying3 (by kernel_rfl) hf with ⟨hcs, _⟩ | ⟨x, l, c, zs, hcs, _, hl, hm, hz, _, hcell, hwz⟩
  · simp [Value.cells] at hcs
    obtain ⟨rfl, rfl, rfl⟩ := hcs
    exact ⟨fun _ => 0, rfl, by decide, fun i hi => by omega⟩
  · simp [Value.cells] at hcs
    obtain ⟨rfl, rfl, rfl⟩ := hcs
    have hmx : maxLen = 9223372036854775807 := rfl
    have hlz : len ≤ zs.length := by rw [hz]; split <;> omega
    refine ⟨fun i => zs.getD i 0, rfl, by omega, fun i hi => ?_⟩
    obtain ⟨b, off, spot⟩ := x
    have h0 := hcell 0 (by omega)
    have hsp : spot = none := by
      cases spot with
      | none => rfl
      | some s => simp only [Addr.add, World.cell?, if_true] at h0; split at h0 <;> simp at h0
    subst hsp
    have hc := hcell i (by omega)
    have ha : (⟨b, off, none⟩ : Addr).add i = ⟨b, off + i, none⟩ := by
      unfold Addr.add; split <;> simp_all
    rw [ha] at hc
    exact ⟨b, off, rfl, World.block_lt_of_cell? _ _ hc, hc⟩
theorem ad_cells {n : Nat} {c0 c1 : Value} {x : DataW H × List MemPlace} (h : DataW.trod enc Tryd.prog w base spare held n 39 [c0, c1] = some x) : ∃ a : Ad, c0 = .int .u32 a.h ∧ c1 = .int .i64 a.p := by
  obtain ⟨y0, y1, m, _, _, h0, h1⟩ := trod_struct2 Tryd.underlying39 h
  have k22 : Tryd.prog.cellsOf 22 = 1 := by kernel_rfl
  have k3 : Tryd.prog.cellsOf 3 = 1 := by kernel_rfl
  simp [k22, k3] at h0 h1
  obtain ⟨x0, e0, _, _⟩ := DataW.trod_int (by exact Tryd.underlying22) h0
  obtain ⟨x1, e1, _, _⟩ := DataW.trod_int (by exact Tryd.underlying3) h1
  simp at e0 e1
  exact ⟨⟨x0, x1⟩, e0, e1⟩
theorem list6 {α : Type} {l : List α} (h : l.length = 6) : ∃ a b c d e f, l = [a, b, c, d, e, f] := by
  match l, h with
  | [a, b, c, d, e, f], _ => exact ⟨a, b, c, d, e, f, rfl⟩
theorem ca_cells {n : Nat} {cs : List Value} {x : DataW H × List MemPlace} (h : DataW.trod enc Tryd.prog w base spare held n 47 cs = some x) :
    ∃ s : Ca, cs = (caCells s).toList ∧ InR s.k ∧ InU s.p := by
  obtain ⟨y0, y1, y2, y3, m, _, hl, h0, h1, h2, h3⟩ := trod_struct4 Tryd.underlying47 h
  have k47 : Tryd.prog.cellsOf 47 = 6 := by kernel_rfl
  have k39 : Tryd.prog.cellsOf 39 = 2 := by kernel_rfl
  have k3 : Tryd.prog.cellsOf 3 = 1 := by kernel_rfl
  have k22 : Tryd.prog.cellsOf 22 = 1 := by kernel_rfl
  rw [k47] at hl
  obtain ⟨a, b, c, d, e, f, rfl⟩ := list6 hl
  simp [k39, k3, k22] at h0 h1 h2 h3
  obtain ⟨x0, e0, _, w0⟩ := DataW.trod_int (by exact Tryd.underlying3) h0
  obtain ⟨a2, e2, e3⟩ := ad_cells h1
  obtain ⟨a4, e4, e5⟩ := ad_cells h2
  obtain ⟨x1, e1, _, w1⟩ := DataW.trod_int (by exact Tryd.underlying22) h3
  simp at e0 e1
  exact ⟨⟨x0, a2, a4, x1⟩, by rw [e0, e1, e2, e3, e4, e5], lit_i64 w0, lit_u32 w1⟩
instance : Inhabited Ca := ⟨⟨0, ⟨0, 0⟩, ⟨0, 0⟩, 0⟩⟩
theorem open_cs (hv : Value.okWide Tryd.prog w r b0 28 v) (h : DataW.Trod enc Tryd.prog w base spare held 28 v d p) : ∃ a len cap f, v = .slice a len cap ∧ len ≤ cap ∧ SrcC w a len f := by
  obtain ⟨a, len, cap, rfl⟩ := okWide_slice Tryd.underlying28 hv
  refine ⟨a, len, cap, ?_⟩
  obtain ⟨fuel, hf⟩ := h
  rcases open_slice Tryd.underlying28 hf with ⟨hcs, _⟩ | ⟨x, l, c, m, n, D, Pl, hcs, _, hl, hm, hmm, _, hel⟩
  · simp [Value.cells] at hcs
    obtain ⟨rfl, rfl, rfl⟩ := hcs
    exact ⟨fun _ => default, rfl, Nat.le_refl _, by decide, fun i hi => by omega, fun i hi => by omega⟩
  · simp [Value.cells] at hcs
    obtain ⟨rfl, rfl, rfl⟩ := hcs
    have k47 : Tryd.prog.cellsOf 47 = 6 := by kernel_rfl
    rw [k47] at hel
    have hmx : maxLen = 9223372036854775807 := rfl
    have hlm : len ≤ m := by rw [hmm]; split <;> omega
    have hall : ∀ i, i < len → ∃ s : Ca, (∀ j, j < 6 → w.cell? ((x.add (i * 6)).add j) = ((caCells s).toList)[j]?) ∧ InR s.k ∧ InU s.p := by
      intro i hi
      obtain ⟨cs, hcs, ht⟩ := hel i (by omega)
      obtain ⟨s, rfl, hr⟩ := ca_cells ht
      exact ⟨s, (World.cells?_some hcs).2.2, hr⟩
    obtain ⟨f, hf⟩ := choose_lt hall
    refine ⟨f, rfl, by omega, by omega, fun i hi => ?_, fun i hi => (hf i hi).2⟩
    obtain ⟨b, off, spot⟩ := x
    have h0 := (hf i hi).1
    have hlen0 : 0 < len := by omega
    have hsp : spot = none := by
      cases spot with
      | none => rfl
      | some s =>
        have h00 := (hf 0 hlen0).1 0 (by omega)
        simp only [Nat.zero_mul, Addr.add, World.cell?, if_true] at h00; split at h00 <;> simp at h00
    subst hsp
    have hadd : ∀ j, ((⟨b, off, none⟩ : Addr).add (i * 6)).add j = ⟨b, off + i * 6 + j, none⟩ := by
      intro j
      unfold Addr.add
      split <;> split <;> simp_all
    have h1 : ∀ j, j < 6 → w.cell? ⟨b, off + i * 6 + j, none⟩ = (caCells (f i))[j]? := fun j hj => by
      have := h0 j hj
      rw [hadd] at this
      rw [this]; simp
    exact ⟨b, off, rfl, World.block_lt_of_cell? _ _ ((h1 0 (by omega)).trans rfl), h1⟩
end
end Go.Proofs.YtoadbogfbgediaaDoor
