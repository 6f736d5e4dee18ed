/- DeleteFunc over a row of pairs, whole (no statement of the seat). -/
import Derived.Test.YtoadbogfbgediaaDoorDel
namespace Go.Proofs.YtoadbogfbgediaaDoor
open Go.RowKit

/-- Which of the first j things stay. -/
def kept (ks : Nat → Ad × Ad) (j : Nat) : List Nat := (List.range j).filter (fun x => !dup ks x)
theorem kept_le (ks : Nat → Ad × Ad) (j : Nat) : (kept ks j).length ≤ j := by
  have := List.length_filter_le (fun x => !dup ks x) (List.range j)
  simpa [kept] using this
theorem kept_succ (ks : Nat → Ad × Ad) (j : Nat) : kept ks (j + 1) = if dup ks j = true then kept ks j else kept ks j ++ [j] := by
  unfold kept
  rw [List.range_succ, List.filter_append]
  cases h : dup ks j <;> simp [h]
theorem kept_all (ks : Nat → Ad × Ad) : ∀ n, (∀ j, j < n → dup ks j = false) → kept ks n = List.range n := by
  intro n h
  unfold kept
  rw [List.filter_eq_self]
  intro x hx
  simp [h x (List.mem_range.1 hx)]
/-- What the row holds when j things were looked at. -/
structure Moved (g h : Nat → Pr) (ks : Nat → Ad × Ad) (n i j : Nat) : Prop where
  len : (kept ks j).length = i
  lo : ∀ x, x < i → h x = g ((kept ks j).getD x 0)
  hi : ∀ x, j ≤ x → x < n → h x = g x
theorem Moved.skip {g h : Nat → Pr} {ks : Nat → Ad × Ad} {n i j : Nat} (H : Moved g h ks n i j) (hd : dup ks j = true) : Moved g h ks n i (j + 1) := by
  have e := kept_succ ks j
  rw [if_pos hd] at e
  exact ⟨by rw [e]; exact H.len, fun x hx => by rw [e]; exact H.lo x hx, fun x hx hn => H.hi x (by omega) hn⟩
theorem Moved.keep {g h : Nat → Pr} {ks : Nat → Ad × Ad} {n i j : Nat} (H : Moved g h ks n i j) (hij : i ≤ j) (hd : dup ks j = false) : Moved g (fun x => if x = i then g j else h x) ks n (i + 1) (j + 1) := by
  have e := kept_succ ks j
  rw [if_neg (by simp [hd])] at e
  refine ⟨by rw [e, List.length_append, H.len]; rfl, fun x hx => ?_, fun x hx hn => ?_⟩
  · rw [e]
    by_cases hxi : x = i
    · subst hxi
      rw [if_pos rfl]
      have : (kept ks j ++ [j]).getD x 0 = j := by
        rw [List.getD_eq_getElem?_getD, List.getElem?_append_right (by rw [H.len]; omega), H.len]; simp
      rw [this]
    · rw [if_neg hxi, H.lo x (by omega)]
      congr 1
      rw [List.getD_eq_getElem?_getD, List.getD_eq_getElem?_getD, List.getElem?_append_left (by rw [H.len]; omega)]
  · rw [if_neg (by omega)]; exact H.hi x (by omega) hn
theorem moved_start (g : Nat → Pr) (ks : Nat → Ad × Ad) (n i : Nat) (hd : dup ks i = true) (hno : ∀ j, j < i → dup ks j = false) : Moved g g ks n i (i + 1) := by
  have e := kept_succ ks i
  rw [if_pos hd, kept_all ks i hno] at e
  refine ⟨by rw [e]; simp, fun x hx => ?_, fun _ _ _ => rfl⟩
  rw [e]
  congr 1
  simp [List.getD, hx]

theorem upd_setRow {S : Nat → Prop} (w : World) (b : Nat) (cs : Array Value) (hb : S b) : Upd S w (w.setRow b cs) := by
  refine ⟨rfl, rfl, rfl, by simp [World.setRow], fun k hk hn => ?_⟩
  have hne : b ≠ k := fun e => hn (e ▸ hb)
  simp [World.setRow, Array.getElem?_modify, hne]
theorem setRow_at (w : World) (b : Nat) (cs cs' : Array Value) (h : w.heap[b]? = some (.cells cs 41 (0, 0))) : (w.setRow b cs').heap[b]? = some (.cells cs' 41 (0, 0)) := by
  simp [World.setRow, Array.getElem?_modify, h]
/-- clear(s[i:]) of a row. -/
theorem clear_P {w : World} {b n : Nat} {g : Nat → Pr} (h : BlkP w b n g) (i cap : Nat) (hi : i < n) (ty : TypeId) :
    ∃ w', (Builtin.clear_ #[33] ty #[.slice (some ⟨b, i * 6, none⟩) (n - i) cap]).run Tryd.prog w = .ok (.tuple #[]) w' ∧ Upd (fun k => k = b) w w' ∧ BlkP w' b i g := by
  obtain ⟨cs, h1, h2, h3⟩ := h.blk
  have hz : (zeroValue 41).run Tryd.prog w = .ok (Pr.v ⟨⟨0, 0⟩, ⟨0, 0⟩, 0, 0⟩) w := by kernel_rfl
  have hzs : (Builtin.zeroCells (Pr.v ⟨⟨0, 0⟩, ⟨0, 0⟩, 0, 0⟩).cells (n - i)).size = (n - i) * 6 := by rw [size_zeroCells]; rfl
  have hone : ∀ v ∈ (Builtin.zeroCells (Pr.v ⟨⟨0, 0⟩, ⟨0, 0⟩, 0, 0⟩).cells (n - i)).toList, v.oneCell' = true := by
    intro v hv
    unfold Builtin.zeroCells at hv
    rw [Array.toList_map, List.mem_map] at hv
    obtain ⟨x, _, rfl⟩ := hv
    have h6 : x % 6 = 0 ∨ x % 6 = 1 ∨ x % 6 = 2 ∨ x % 6 = 3 ∨ x % 6 = 4 ∨ x % 6 = 5 := by omega
    show ((Pr.v ⟨⟨0, 0⟩, ⟨0, 0⟩, 0, 0⟩).cells[x % 6]!).oneCell' = true
    rcases h6 with q | q | q | q | q | q <;> (rw [q]; rfl)
  have hst := run_storeCells_at Tryd.prog b (i * 6) 41 (Builtin.zeroCells (Pr.v ⟨⟨0, 0⟩, ⟨0, 0⟩, 0, 0⟩).cells (n - i)).toList 0 cs w h1 (by simp [hzs]; omega) hone
  obtain ⟨zc, hzc⟩ : ∃ zc, (Builtin.zeroCells (Pr.v ⟨⟨0, 0⟩, ⟨0, 0⟩, 0, 0⟩).cells (n - i)).toList = zc := ⟨_, rfl⟩
  have hzl : zc.length = (n - i) * 6 := by rw [← hzc]; simpa using hzs
  obtain ⟨m, hm⟩ : ∃ m, n - i = m + 1 := ⟨n - i - 1, by omega⟩
  obtain ⟨cs2, hc2⟩ : ∃ c, (cs.toList.take (i * 6 + 0) ++ zc ++ cs.toList.drop (i * 6 + 0 + zc.length)).toArray = c := ⟨_, rfl⟩
  rw [hzc, hc2] at hst
  refine ⟨w.setRow b cs2, ?_, upd_setRow w b cs2 rfl, ⟨cs2, setRow_at w b cs cs2 h1, ?_, ?_⟩⟩
  · rw [← hzc, hm] at hst
    rw [hm]
    simp only [Builtin.clear_, List.getElem?_toArray, List.getElem?_cons_zero, Sem.run_bind, run_underlying Tryd.underlying33, Result.andThen_ok, hz, hst]
    rfl
  · rw [← hc2]; simp; omega
  · intro x hx j hj
    rw [← h3 x (by omega) j hj, ← hc2]
    simp only [Nat.add_zero]
    rw [List.getElem?_toArray, List.append_assoc, List.getElem?_append_left (by simp; omega), List.getElem?_take, if_pos (by omega)]
    simp
end Go.Proofs.YtoadbogfbgediaaDoor
