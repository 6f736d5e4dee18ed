/- Rows of whole numbers that the call itself made, and one number more (no statement of the seat). -/
import Derived.Test.YtgfpmonfdplalaaFrame
namespace Go.Proofs.Ytgfpmonfdplalaa
open Go.RowKit

def words (L : List Nat) : List Value := L.map (fun (m : Nat) => .int .u64 (m : Int))
theorem words_len (L : List Nat) : (words L).length = L.length := by simp [words]
theorem words_get (L : List Nat) (j : Nat) (h : j < L.length) : (words L)[j]? = some (.int .u64 ((L.getD j 0 : Nat) : Int)) := by
  simp [words, List.getD_eq_getElem?_getD, List.getElem?_eq_getElem h]

/-- A row that the call owns, as the walk wants it: the value written out, its cells one by one. -/
theorem row_out {w : World} {base : Nat} {v : Value} {L : List Nat} (h : w.ownsRow base 23 1 v L.length (words L)) :
    ∃ A cap, v = .slice A L.length cap ∧ ∀ j, j < L.length → ∃ g, A = some ⟨g, 0, none⟩ ∧ base ≤ g ∧ g < w.heap.size ∧ w.cell? ⟨g, j, none⟩ = some (.int .u64 ((L.getD j 0 : Nat) : Int)) := by
  obtain ⟨h1, h2⟩ := h
  rcases h2 with ⟨h2, h3⟩ | ⟨g, cap, cur, rfl, hg, hh, r⟩
  · subst h2
    rw [h3]
    exact ⟨none, 0, rfl, fun j hj => by omega⟩
  · refine ⟨some ⟨g, 0, none⟩, cap, rfl, fun j hj => ⟨g, rfl, hg, lt_of_block hh, ?_⟩⟩
    rw [World.ownsRow.cellAt (base := base) (e := 23) (size := 1) (cap := cap) (n := L.length) (xs := words L) ⟨h1, .inr ⟨g, cap, cur, rfl, hg, hh, r⟩⟩ j (by omega)]
    exact words_get L j hj

theorem row_out_cell {w : World} {base g n cap : Nat} {L : List Nat} (h : w.ownsRow base 23 1 (.slice (some ⟨g, 0, none⟩) n cap) L.length (words L)) (j : Nat) (hj : j < L.length) :
    w.cell? ⟨g, j, none⟩ = some (.int .u64 ((L.getD j 0 : Nat) : Int)) := by
  obtain ⟨A, c, he, hc⟩ := row_out h
  obtain ⟨g', hA, _, _, hcell⟩ := hc j hj
  simp only [Value.slice.injEq] at he
  obtain ⟨rfl, _, _⟩ := he
  simp only [Option.some.injEq, Addr.mk.injEq] at hA
  obtain ⟨rfl, _, _⟩ := hA
  exact hcell

theorem Try.info23 : (Try.prog.info? 23).map (fun i => (i.zero, i.size, i.bytes)) = some (some (.int .u64 0), 1, 8) := by kernel_rfl

/-- 'append(s, x)', x one word: what was laid for x stands at the world's end. -/
theorem wpList_app {ops : Array Oper} {rest : List Oper} {o : Oper} {a : Act} {Q : Exit → Act → World → Prop} {w : World} (hgd : o.guard = none) (s x : Operand)
    (ho : o.op = .call { callee := .builtin .append, args := #[s, x], argTypes := #[22, 22] })
    (base : Nat) (v : Value) (n : Nat) (xs : List Value) (hs : a.eval s = v) (hown : w.ownsRow base 23 1 v n xs)
    (u : Value) (hu : u.oneCell' = true) (hx : a.eval x = .slice (some ⟨w.heap.size, 0, none⟩) 1 1) (hn : n ≤ 1000000) (hbase : base ≤ w.heap.size)
    (h : ∀ g' c' w', w'.ownsRow base 23 1 (.slice (some ⟨g', 0, none⟩) (n + 1) c') (n + 1) (xs ++ [u]) → Upd (fun k => v.ownBlock = some k) w w' → wpList Try.prog ops Q rest (a.put o.dst (.slice (some ⟨g', 0, none⟩) (n + 1) c')) w') :
    wpList Try.prog ops Q (o :: rest) a (w.alloc (.cells #[u] 23)) := by
  obtain ⟨i0, hi, hz0, hz1, hz2⟩ := info_parts Try.info23
  refine wpList_append_own _ hgd s x 22 ho base 23 i0 (.int .u64 0) 1 8 Try.underlying22 hi hz0 hz1 hz2 rfl (by decide) v n xs hs (hown.alloc _) ⟨w.heap.size, 0, none⟩ 1 1 [u] hx rfl ?_ ?_ ?_ ?_ ?_ ?_
  · intro j u' hj
    cases j with
    | zero => simp at hj; subst hj; simp [Addr.add]
    | succ j => simp at hj
  · intro u' hu'; simp at hu'; subst hu'; exact hu
  · unfold maxLen; omega
  · omega
  · simp; omega
  · intro v' w' h1 h2 _
    obtain ⟨hA, hB⟩ := h1
    rcases hB with ⟨_, h0⟩ | ⟨g', c', cur, rfl, hr⟩
    · omega
    · exact h g' c' w' ⟨hA, .inr ⟨g', c', cur, rfl, hr⟩⟩ (((Upd.refl _ w).alloc _).grown h2 (fun k hk _ => hk))
end Go.Proofs.Ytgfpmonfdplalaa
