/- Rows of pairs, and of candidates, that a walk has made (no statement of the seat). -/
import Derived.Test.YtoadbogfbgediaaDoorOpen
namespace Go.Proofs.YtoadbogfbgediaaDoor
open Go.RowKit

theorem flat6 {α : Type} (f : α → List Value) (hf : ∀ x, (f x).length = 6) : ∀ (l : List α) (i j : Nat) (hi : i < l.length), j < 6 → (l.flatMap f)[i * 6 + j]? = (f l[i])[j]? := by
  intro l
  induction l with
  | nil => intro i j hi _; simp at hi
  | cons x r ih =>
    intro i j hi hj
    rw [List.flatMap_cons]
    cases i with
    | zero => rw [List.getElem?_append_left (by rw [hf]; omega)]; simp
    | succ i =>
      rw [List.getElem?_append_right (by rw [hf]; omega)]
      have e : (i + 1) * 6 + j - (f x).length = i * 6 + j := by rw [hf]; omega
      rw [e, ih i j (by simpa using hi) hj]; rfl

abbrev prL (l : List Pr) : List Value := l.flatMap (fun c => (prCells c).toList)
abbrev caL (l : List Ca) : List Value := l.flatMap (fun c => (caCells c).toList)
instance : Inhabited Pr := ⟨⟨⟨0, 0⟩, ⟨0, 0⟩, 0, 0⟩⟩

/-- A row of pairs, made since there were n0 blocks. -/
structure OwnP (l : List Pr) (n0 : Nat) (v : Value) (w : World) : Prop where
  row : w.ownsRow 0 41 6 v l.length (prL l)
  new : ∀ k, v.ownBlock = some k → n0 ≤ k
  form : (v = .slice none 0 0 ∧ l = []) ∨ ∃ g cap, v = .slice (some ⟨g, 0, none⟩) l.length cap ∧ l.length ≤ cap
structure OwnC (l : List Ca) (n0 : Nat) (v : Value) (w : World) : Prop where
  row : w.ownsRow 0 47 6 v l.length (caL l)
  new : ∀ k, v.ownBlock = some k → n0 ≤ k
  form : (v = .slice none 0 0 ∧ l = []) ∨ ∃ g cap, v = .slice (some ⟨g, 0, none⟩) l.length cap ∧ l.length ≤ cap
theorem ownBlock_slice {g n cap k : Nat} (h : (Value.slice (some ⟨g, 0, none⟩) n cap).ownBlock = some k) : k = g := by
  simp [Value.ownBlock] at h; exact h.symm
theorem OwnP.nil (n0 : Nat) (w : World) : OwnP [] n0 (.slice none 0 0) w := ⟨World.ownsRow_nil _ _ _ _, fun k h => by simp [Value.ownBlock] at h, .inl ⟨rfl, rfl⟩⟩
theorem OwnC.nil (n0 : Nat) (w : World) : OwnC [] n0 (.slice none 0 0) w := ⟨World.ownsRow_nil _ _ _ _, fun k h => by simp [Value.ownBlock] at h, .inl ⟨rfl, rfl⟩⟩
theorem OwnP.upd {l : List Pr} {n0 : Nat} {v : Value} {w w' : World} {S : Nat → Prop} (h : OwnP l n0 v w) (hu : Upd S w w') (hn : ∀ k, v.ownBlock = some k → ¬ S k) : OwnP l n0 v w' := ⟨hu.row h.row hn, h.new, h.form⟩
theorem OwnC.upd {l : List Ca} {n0 : Nat} {v : Value} {w w' : World} {S : Nat → Prop} (h : OwnC l n0 v w) (hu : Upd S w w') (hn : ∀ k, v.ownBlock = some k → ¬ S k) : OwnC l n0 v w' := ⟨hu.row h.row hn, h.new, h.form⟩
theorem row_cap {w : World} {e : TypeId} {g n cap : Nat} {l : List Value} (h : w.ownsRow 0 e 6 (.slice (some ⟨g, 0, none⟩) n cap) n l) : n ≤ cap := by
  rcases h.2 with ⟨h1, h2⟩ | ⟨_, _, _, hv, _, _, hc, _⟩
  · simp at h1
  · simp only [Value.slice.injEq] at hv
    omega
theorem OwnP.snoc {l : List Pr} {n0 : Nat} {g cap : Nat} {w : World} {c : Pr} (h : w.ownsRow 0 41 6 (.slice (some ⟨g, 0, none⟩) (l.length + 1) cap) (l.length + 1) (prL l ++ (prCells c).toList)) (hn : n0 ≤ g) :
    OwnP (l ++ [c]) n0 (.slice (some ⟨g, 0, none⟩) (l.length + 1) cap) w := by
  refine ⟨?_, fun k hk => ?_, .inr ⟨g, cap, ?_, ?_⟩⟩
  · have e1 : (l ++ [c]).length = l.length + 1 := by simp
    have e2 : prL (l ++ [c]) = prL l ++ (prCells c).toList := by simp [prL]
    rw [e1, e2]; exact h
  · rw [ownBlock_slice hk]; exact hn
  · simp
  · have := row_cap h; simpa using this
theorem OwnC.snoc {l : List Ca} {n0 : Nat} {g cap : Nat} {w : World} {c : Ca} (h : w.ownsRow 0 47 6 (.slice (some ⟨g, 0, none⟩) (l.length + 1) cap) (l.length + 1) (caL l ++ (caCells c).toList)) (hn : n0 ≤ g) :
    OwnC (l ++ [c]) n0 (.slice (some ⟨g, 0, none⟩) (l.length + 1) cap) w := by
  refine ⟨?_, fun k hk => ?_, .inr ⟨g, cap, ?_, ?_⟩⟩
  · have e1 : (l ++ [c]).length = l.length + 1 := by simp
    have e2 : caL (l ++ [c]) = caL l ++ (caCells c).toList := by simp [caL]
    rw [e1, e2]; exact h
  · rw [ownBlock_slice hk]; exact hn
  · simp
  · have := row_cap h; simpa using this
theorem OwnP.src {l : List Pr} {n0 : Nat} {v : Value} {w : World} (h : OwnP l n0 v w) (hm : l.length ≤ 1000000) : ∃ A cap, v = .slice A l.length cap ∧ SrcP w A l.length (fun i => l.getD i default) := by
  rcases h.form with ⟨rfl, rfl⟩ | ⟨g, cap, rfl, _⟩
  · exact ⟨none, 0, rfl, by simp, fun i hi => by simp at hi⟩
  · refine ⟨_, cap, rfl, by omega, fun i hi => ?_⟩
    have hc : ∀ j, j < 6 → w.cell? ⟨g, i * 6 + j, none⟩ = (prCells l[i])[j]? := fun j hj => by
      rw [World.ownsRow.cellAt h.row (i * 6 + j) (by omega), prL, flat6 _ (fun _ => rfl) l i j hi hj]; simp
    have eg : l.getD i default = l[i] := by simp [List.getD, hi]
    rw [eg]
    have h0 := hc 0 (by omega)
    exact ⟨g, rfl, World.block_lt_of_cell? _ _ (h0.trans rfl), h0, hc 1 (by omega), hc 2 (by omega), hc 3 (by omega), hc 4 (by omega), hc 5 (by omega)⟩
end Go.Proofs.YtoadbogfbgediaaDoor
