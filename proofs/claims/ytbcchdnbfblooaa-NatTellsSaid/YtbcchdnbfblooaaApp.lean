/- A row of addresses, and one more, at a step of a region that draws its order (no statement of the seat). -/
import Derived.Test.YtbcchdnbfblooaaFin
import Derived.Deep.AppendLies
import Derived.Deep.RegionLaw
namespace Go.Proofs.Ytbcchdnbfblooaa
open Go.RowKit

theorem Try.info26 : (Try.prog.info? 26).map (fun i => (i.zero, i.size, i.bytes)) = some (some (.agg #[.int .u32 0, .int .i64 0]), 2, 16) := by kernel_rfl
theorem adCells_snoc (l : List Ad) (t : Ad) : adCells (l ++ [t]) = adCells l ++ [.int .u32 t.h, .int .i64 t.p] := by simp [adCells]

theorem step_app_ad {ops : Array Oper} {o : Oper} {a : Act} {K : Act → World → Prop} {Q : Exit → Act → World → Prop} {E : Prop} {w W : World} (hgd : o.guard = none) (s x : Operand)
    (ho : o.op = .call { callee := .builtin .append, args := #[s, x], argTypes := #[63, 63] })
    (t : Ad) (hW : W = (w.alloc (.cells #[.int .u32 t.h, .int .i64 t.p] 26)).drew)
    (v : Value) (l : List Ad) (hs : a.eval s = v) (hown : w.ownsRow 0 26 2 v l.length (adCells l))
    (hx : a.eval x = .slice (some ⟨w.heap.size, 0, none⟩) 1 1) (hl : l.length ≤ 1000)
    (h : ∀ g cap w', w'.ownsRow 0 26 2 (.slice (some ⟨g, 0, none⟩) (l.length + 1) cap) (l.length + 1) (adCells (l ++ [t])) → Upd (fun k => v.ownBlock = some k) w w' → (v.ownBlock = some g ∨ w.heap.size ≤ g) → g < w'.heap.size →
      K (a.put o.dst (.slice (some ⟨g, 0, none⟩) (l.length + 1) cap)) w') :
    if Region.wanted o (yielded ops a.tmps) = true then Oper.wp Try.prog o a W K Q else E := by
  subst hW
  obtain ⟨i0, hi, hz0, hz1, hz2⟩ := info_parts Try.info26
  have hb := heap_alloc_new w (.cells #[.int .u32 t.h, .int .i64 t.p] 26)
  refine step_append_lies _ hgd s x 63 ho 0 26 i0 (.agg #[.int .u32 0, .int .i64 0]) 2 16 Try.underlying63 hi hz0 hz1 hz2 rfl (by decide) v l.length (adCells l) hs ?_ ⟨w.heap.size, 0, none⟩ 1 1 [.int .u32 t.h, .int .i64 t.p] hx rfl ?_ ?_ (by decide) ?_ ?_ (Nat.zero_le _) (w.heap.size + 1) (by simp) ?_
  · exact (hown.alloc _)
  · intro j u hj
    match j, hj with
    | 0, hj => simp at hj; subst hj; exact (blk_cell (w := (w.alloc (.cells #[.int .u32 t.h, .int .i64 t.p] 26)).drew) hb 0).trans rfl
    | 1, hj => simp at hj; subst hj; exact (blk_cell (w := (w.alloc (.cells #[.int .u32 t.h, .int .i64 t.p] 26)).drew) hb 1).trans rfl
    | j + 2, hj => simp at hj
  · intro u hu; simp at hu; rcases hu with rfl | rfl <;> rfl
  · unfold maxLen; omega
  · omega
  · intro g cap w' h1 h2 h3 h4
    refine h g cap w' ?_ (((Upd.refl _ w).alloc _).drew.grown h2 (fun k hk _ => hk)) ?_ h4
    · rw [adCells_snoc]; exact h1
    · rcases h3 with h3 | h3
      · exact .inl h3
      · exact .inr (by omega)
end Go.Proofs.Ytbcchdnbfblooaa
