/- Arguments that are structs by value, opened (no statement of the seat). -/
import Derived.Test.YtbcchdnbfblooaaShown
import Derived.Test.YtbcchdnbfblooaaRows
import Derived.WalkKit
import Derived.ProofKit
import Derived.OpenShut
import Derived.ShutString
import Derived.ChangeOld
import Derived.Below
import Derived.Lib.SmallJoins
namespace Go.Proofs.Ytbcchdnbfblooaa
open Go.ChangeShapes Go.WideShapes Go.ChangeAt Go.RowKit Go.Joins

section
variable {H : Type} {enc : TypeId × Value → H} {w : World} {base : Nat} {spare : Nat → Bool} {held : Bool} {r : Reach} {b0 : Nat} {v : Value} {d : DataW H} {p : List MemPlace}
theorem open_ad (hv : Value.okWide Try.prog w r b0 26 v) (h : DataW.Trod enc Try.prog w base spare held 26 v d p) : ∃ a : Ad, v = a.v := by
  obtain ⟨c0, c1, y0, y1, n, rfl, _, _, h0, h1⟩ := open_agg2 Try.underlying26 (by kernel_rfl) (by kernel_rfl) hv h
  obtain ⟨x0, e0, _, _⟩ := DataW.trod_int (by exact Try.underlying22) h0
  obtain ⟨x1, e1, _, _⟩ := DataW.trod_int (by exact Try.underlying3) h1
  simp at e0 e1
  exact ⟨⟨x0, x1⟩, by rw [e0, e1]⟩
theorem open_i (hv : Value.okWide Try.prog w r b0 3 v) (h : DataW.Trod enc Try.prog w base spare held 3 v d p) : ∃ n : Int, v = .int .i64 n := by
  obtain ⟨x, hx, _⟩ := open_int Try.underlying3 hv h
  exact ⟨x, hx⟩
theorem open_cfg (hv : Value.okWide Try.prog w r b0 24 v) (h : DataW.Trod enc Try.prog w base spare held 24 v d p) : ∃ c : Cfg, v = c.v := by
  have hs := Try.underlying24
  obtain ⟨cs, rfl, hsz⟩ := okWide_struct hs hv
  rw [show Try.prog.cellsOf 24 = 5 by kernel_rfl] at hsz
  obtain ⟨fuel, hf⟩ := h
  obtain ⟨xs, n, _, _, hl, hlen, hf⟩ := DataW.trod_struct hs hf
  have hcs : ∃ c0 c1 c2 c3 c4, cs = #[c0, c1, c2, c3, c4] := by
    obtain ⟨l⟩ := cs
    match l, hsz with
    | [a, b, c, d, e], _ => exact ⟨a, b, c, d, e, rfl⟩
  obtain ⟨c0, c1, c2, c3, c4, rfl⟩ := hcs
  have k22 : Try.prog.cellsOf 22 = 1 := by kernel_rfl
  have k3 : Try.prog.cellsOf 3 = 1 := by kernel_rfl
  have k4 : Try.prog.cellsOf 4 = 1 := by kernel_rfl
  match xs, hlen with
  | [y0, y1, y2, y3, y4], _ =>
    have h0 := hf 0 _ rfl
    have h1 := hf 1 _ rfl
    have h2 := hf 2 _ rfl
    have h3 := hf 3 _ rfl
    have h4 := hf 4 _ rfl
    simp [Value.cells, k22, k3, k4] at h0 h1 h2 h3 h4
    obtain ⟨x0, e0, _, _⟩ := DataW.trod_int (by exact Try.underlying22) h0
    obtain ⟨x1, e1, _, _⟩ := DataW.trod_int (by exact Try.underlying3) h1
    obtain ⟨x2, e2, _, _⟩ := DataW.trod_int (by exact Try.underlying3) h2
    obtain ⟨x3, e3, _⟩ := DataW.trod_bool (by exact Try.underlying4) h3
    obtain ⟨x4, e4, _, _⟩ := DataW.trod_int (by exact Try.underlying3) h4
    simp at e0 e1 e2 e3 e4
    exact ⟨⟨x0, x1, x2, x3, x4⟩, by rw [e0, e1, e2, e3, e4]⟩
end
end Go.Proofs.Ytbcchdnbfblooaa
