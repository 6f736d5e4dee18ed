/- One more candidate, one more pair, at the end of a row (no statement of the seat). -/
import Derived.Test.YtoadbogfbgediaaDoorFind
import Derived.Deep.AppendLies
namespace Go.Proofs.YtoadbogfbgediaaDoor
open Go.RowKit

theorem Tryd.info47 : (Tryd.prog.info? 47).map (fun i => (i.zero, i.size, i.bytes)) = some (some (Ca.v ⟨0, ⟨0, 0⟩, ⟨0, 0⟩, 0⟩), 6, 48) := by kernel_rfl
theorem Tryd.info41 : (Tryd.prog.info? 41).map (fun i => (i.zero, i.size, i.bytes)) = some (some (Pr.v ⟨⟨0, 0⟩, ⟨0, 0⟩, 0, 0⟩), 6, 48) := by kernel_rfl
theorem info_parts' {P : Program} {t : TypeId} {z : Value} {s b : Nat} (h : (P.info? t).map (fun i => (i.zero, i.size, i.bytes)) = some (some z, s, b)) : ∃ i, P.info? t = some i ∧ i.zero = some z ∧ i.size = s ∧ i.bytes = b := by
  obtain ⟨i, hi, hz⟩ := Option.map_eq_some_iff.1 h
  simp only [Prod.mk.injEq] at hz
  exact ⟨i, hi, hz.1, hz.2.1, hz.2.2⟩
theorem Upd.grownBy {S : Nat → Prop} {w w' : World} {row : Option Nat} (h : w.grownBy w' row) (hs : ∀ k, row = some k → S k) : Upd S w w' := (Upd.refl S w).grown h (fun k hk _ => hs k hk)

section
variable {ops : Array Oper} {rest : List Oper} {o : Oper} {a : Act} {Q : Exit → Act → World → Prop} {w : World}
theorem app_ca (hgd : o.guard = none) (s x : Operand) (ho : o.op = .call { callee := .builtin .append, args := #[s, x], argTypes := #[28, 28] })
    (v : Value) (l : List Value) (n : Nat) (hs : a.eval s = v) (hown : w.ownsRow 0 47 6 v n l) (c : Ca) (hx : a.eval x = .slice (some ⟨w.heap.size, 0, none⟩) 1 1) (hn : n ≤ 1000000)
    (h : ∀ g cap w', w'.ownsRow 0 47 6 (.slice (some ⟨g, 0, none⟩) (n + 1) cap) (n + 1) (l ++ (caCells c).toList) → Upd (fun k => v.ownBlock = some k) w w' → (v.ownBlock = some g ∨ w.heap.size ≤ g) → g < w'.heap.size →
      wpList Tryd.prog ops Q rest (a.put o.dst (.slice (some ⟨g, 0, none⟩) (n + 1) cap)) w') :
    wpList Tryd.prog ops Q (o :: rest) a (w.alloc (.cells (caCells c) 47)) := by
  obtain ⟨i0, hi, hz0, hz1, hz2⟩ := info_parts' Tryd.info47
  refine wpList_append_lies _ hgd s x 28 ho 0 47 i0 _ 6 48 Tryd.underlying28 hi hz0 hz1 hz2 rfl (by decide) v n l hs (hown.alloc _) ⟨w.heap.size, 0, none⟩ 1 1 (caCells c).toList hx rfl (World.news_of_block (heap_alloc_new w _)) ?_ (by decide) ?_ ?_ (Nat.zero_le _) _ rfl ?_
  · intro u hu; simp at hu; rcases hu with rfl | rfl | rfl | rfl | rfl | rfl <;> rfl
  · unfold maxLen; omega
  · omega
  · intro g cap w' h1 h2 h3 h4
    refine h g cap w' h1 (((Upd.refl _ w).alloc _).grown h2 (fun k hk _ => hk)) ?_ h4
    rcases h3 with h3 | h3
    · exact .inl h3
    · right; rw [h3]; simp
theorem app_pr (hgd : o.guard = none) (s x : Operand) (ho : o.op = .call { callee := .builtin .append, args := #[s, x], argTypes := #[33, 33] })
    (v : Value) (l : List Value) (n : Nat) (hs : a.eval s = v) (hown : w.ownsRow 0 41 6 v n l) (c : Pr) (hx : a.eval x = .slice (some ⟨w.heap.size, 0, none⟩) 1 1) (hn : n ≤ 1000000)
    (h : ∀ g cap w', w'.ownsRow 0 41 6 (.slice (some ⟨g, 0, none⟩) (n + 1) cap) (n + 1) (l ++ (prCells c).toList) → Upd (fun k => v.ownBlock = some k) w w' → (v.ownBlock = some g ∨ w.heap.size ≤ g) → g < w'.heap.size →
      wpList Tryd.prog ops Q rest (a.put o.dst (.slice (some ⟨g, 0, none⟩) (n + 1) cap)) w') :
    wpList Tryd.prog ops Q (o :: rest) a (w.alloc (.cells (prCells c) 41)) := by
  obtain ⟨i0, hi, hz0, hz1, hz2⟩ := info_parts' Tryd.info41
  refine wpList_append_lies _ hgd s x 33 ho 0 41 i0 _ 6 48 Tryd.underlying33 hi hz0 hz1 hz2 rfl (by decide) v n l hs (hown.alloc _) ⟨w.heap.size, 0, none⟩ 1 1 (prCells c).toList hx rfl (World.news_of_block (heap_alloc_new w _)) ?_ (by decide) ?_ ?_ (Nat.zero_le _) _ rfl ?_
  · intro u hu; simp at hu; rcases hu with rfl | rfl | rfl | rfl | rfl | rfl <;> rfl
  · unfold maxLen; omega
  · omega
  · intro g cap w' h1 h2 h3 h4
    refine h g cap w' h1 (((Upd.refl _ w).alloc _).grown h2 (fun k hk _ => hk)) ?_ h4
    rcases h3 with h3 | h3
    · exact .inl h3
    · right; rw [h3]; simp
end
end Go.Proofs.YtoadbogfbgediaaDoor
