/- A slice of steps that came in, opened (no statement of the seat). -/
import Derived.Test.YtbcchdnbfblooaaOpen2
import Derived.Test.YtbcchdnbfblooaaBlind
namespace Go.Proofs.Ytbcchdnbfblooaa
open Go.ChangeShapes Go.WideShapes Go.ChangeAt Go.RowKit Go.Joins Go.Deep

section
variable {H : Type} {enc : TypeId × Value → H} {w : World} {base : Nat} {spare : Nat → Bool} {held : Bool} {r : Reach} {b0 : Nat} {v : Value} {d : DataW H} {p : List MemPlace}
theorem ad_cells {n : Nat} {c0 c1 : Value} {x : DataW H × List MemPlace} (h : DataW.trod enc Try.prog w base spare held n 26 [c0, c1] = some x) : ∃ a : Ad, c0 = .int .u32 a.h ∧ c1 = .int .i64 a.p := by
  obtain ⟨y0, y1, m, _, _, h0, h1⟩ := trod_struct2 Try.underlying26 h
  have k22 : Try.prog.cellsOf 22 = 1 := by kernel_rfl
  have k3 : Try.prog.cellsOf 3 = 1 := by kernel_rfl
  simp [k22, k3] at h0 h1
  obtain ⟨x0, e0, _, _⟩ := DataW.trod_int (by exact Try.underlying22) h0
  obtain ⟨x1, e1, _, _⟩ := DataW.trod_int (by exact Try.underlying3) h1
  simp at e0 e1
  exact ⟨⟨x0, x1⟩, e0, e1⟩
theorem list6 {α : Type} {l : List α} (h : l.length = 6) : ∃ a b c d e f, l = [a, b, c, d, e, f] := by
  match l, h with
  | [a, b, c, d, e, f], _ => exact ⟨a, b, c, d, e, f, rfl⟩
theorem step_cells {n : Nat} {cs : List Value} {x : DataW H × List MemPlace} (h : DataW.trod enc Try.prog w base spare held n 43 cs = some x) :
    ∃ s : St, cs = [.bool s.inn, .int .i64 s.later, .int .u32 s.fr.h, .int .i64 s.fr.p, .int .u32 s.tt.h, .int .i64 s.tt.p] := by
  obtain ⟨y0, y1, y2, y3, m, _, hl, h0, h1, h2, h3⟩ := trod_struct4 Try.underlying43 h
  have k43 : Try.prog.cellsOf 43 = 6 := by kernel_rfl
  have k26 : Try.prog.cellsOf 26 = 2 := by kernel_rfl
  have k3 : Try.prog.cellsOf 3 = 1 := by kernel_rfl
  have k4 : Try.prog.cellsOf 4 = 1 := by kernel_rfl
  rw [k43] at hl
  obtain ⟨a, b, c, d, e, f, rfl⟩ := list6 hl
  simp [k26, k3, k4] at h0 h1 h2 h3
  obtain ⟨x0, e0, _⟩ := DataW.trod_bool (by exact Try.underlying4) h0
  obtain ⟨x1, e1, _, _⟩ := DataW.trod_int (by exact Try.underlying3) h1
  obtain ⟨a2, e2, e3⟩ := ad_cells h2
  obtain ⟨a4, e4, e5⟩ := ad_cells h3
  simp at e0 e1
  exact ⟨⟨x0, x1, a2, a4⟩, by rw [e0, e1, e2, e3, e4, e5]⟩
instance : Inhabited St := ⟨⟨false, 0, ⟨0, 0⟩, ⟨0, 0⟩⟩⟩
theorem open_steps (hv : Value.okWide Try.prog w r b0 41 v) (h : DataW.Trod enc Try.prog w base spare held 41 v d p) : ∃ a len cap f, v = .slice a len cap ∧ SrcS w a len f := by
  obtain ⟨a, len, cap, rfl⟩ := okWide_slice Try.underlying41 hv
  refine ⟨a, len, cap, ?_⟩
  obtain ⟨fuel, hf⟩ := h
  rcases open_slice Try.underlying41 hf with ⟨hcs, _⟩ | ⟨x, l, c, m, n, D, Pl, hcs, _, hl, hm, hmm, _, hel⟩
  · simp [Value.cells] at hcs
    obtain ⟨rfl, rfl, rfl⟩ := hcs
    exact ⟨fun _ => default, rfl, by decide, fun i hi => by omega⟩
  · simp [Value.cells] at hcs
    obtain ⟨rfl, rfl, rfl⟩ := hcs
    have k43 : Try.prog.cellsOf 43 = 6 := by kernel_rfl
    rw [k43] at hel
    have hmx : maxLen = 9223372036854775807 := rfl
    have hlm : len ≤ m := by rw [hmm]; split <;> omega
    have hall : ∀ i, i < len → ∃ s : St, ∀ j, j < 6 → w.cell? ((x.add (i * 6)).add j) = ([.bool s.inn, .int .i64 s.later, .int .u32 s.fr.h, .int .i64 s.fr.p, .int .u32 s.tt.h, .int .i64 s.tt.p] : List Value)[j]? := by
      intro i hi
      obtain ⟨cs, hcs, ht⟩ := hel i (by omega)
      obtain ⟨s, rfl⟩ := step_cells ht
      exact ⟨s, (World.cells?_some hcs).2.2⟩
    obtain ⟨f, hf⟩ := choose_lt hall
    refine ⟨f, rfl, by omega, fun i hi => ?_⟩
    obtain ⟨b, off, spot⟩ := x
    have h0 := hf i hi
    have hlen0 : 0 < len := by omega
    have hsp : spot = none := by
      cases spot with
      | none => rfl
      | some s =>
        have h00 := hf 0 hlen0 0 (by omega)
        simp only [Nat.zero_mul, Addr.add, World.cell?, if_true] at h00; split at h00 <;> simp at h00
    subst hsp
    have hadd : ∀ j, ((⟨b, off, none⟩ : Addr).add (i * 6)).add j = ⟨b, off + i * 6 + j, none⟩ := by
      intro j
      unfold Addr.add
      split <;> split <;> simp_all
    have c0 := h0 0 (by omega)
    have c1 := h0 1 (by omega)
    have c2 := h0 2 (by omega)
    have c3 := h0 3 (by omega)
    have c4 := h0 4 (by omega)
    have c5 := h0 5 (by omega)
    rw [hadd] at c0 c1 c2 c3 c4 c5
    exact ⟨b, off, rfl, World.block_lt_of_cell? _ _ c1, c0, c1, c2, c3, c4, c5⟩
end
end Go.Proofs.Ytbcchdnbfblooaa
