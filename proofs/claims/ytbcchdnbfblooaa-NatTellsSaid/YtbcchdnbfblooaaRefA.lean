/- The document's box in memory; rows of its entries (no statement of the seat). -/
import Derived.Test.YtbcchdnbfblooaaApp
import Derived.Deep.AppendSrc
import Derived.Deep.Upon
namespace Go.Proofs.Ytbcchdnbfblooaa
open Go.RowKit
set_option linter.unusedSimpArgs false
set_option linter.unusedVariables false

/-- Where the row of whom an entry has sent to lies. -/
structure RSlot where
  row : Nat
  cap : Nat
  deriving Inhabited
abbrev RE := Ent × RSlot
instance : Inhabited Ent := ⟨⟨⟨0, 0⟩, 0, 0, []⟩⟩
def rent (z : RE) : List Value := [.int .u32 z.1.ins.h, .int .i64 z.1.ins.p, .int .i64 z.1.port, .int .i64 z.1.used, .slice (some ⟨z.2.row, 0, none⟩) z.1.sent.length z.2.cap]
theorem rent_len (z : RE) : (rent z).length = 5 := rfl
theorem rent_one (z : RE) : ∀ u ∈ rent z, u.oneCell' = true := by
  intro u hu
  simp [rent] at hu
  rcases hu with rfl | rfl | rfl | rfl | rfl <;> rfl
theorem flat5 {α : Type} (f : α → List Value) (hf : ∀ x, (f x).length = 5) : ∀ (l : List α) (i j : Nat) (hi : i < l.length), j < 5 → (l.flatMap f)[i * 5 + j]? = (f l[i])[j]? := by
  intro l
  induction l with
  | nil => intro i j hi _; simp at hi
  | cons x r ih =>
    intro i j hi hj
    rw [List.flatMap_cons]
    cases i with
    | zero => rw [List.getElem?_append_left (by rw [hf]; omega)]; simp
    | succ i =>
      rw [List.getElem?_append_right (by rw [hf]; omega)]
      have e : (i + 1) * 5 + j - (f x).length = i * 5 + j := by rw [hf]; omega
      rw [e, ih i j (by simpa using hi) hj]; rfl
theorem flat_len5 : ∀ l : List RE, (l.flatMap rent).length = l.length * 5 := by
  intro l
  induction l with
  | nil => rfl
  | cons c r ih => rw [List.flatMap_cons, List.length_append, rent_len, ih, List.length_cons]; omega
/-- A row of addresses that is never written again. -/
structure SentAt (w : World) (l : List Ad) (s : RSlot) : Prop where
  blk : ∃ cs : Array Value, w.heap[s.row]? = some (.cells cs 26 (0, 0)) ∧ ∀ (j : Nat) (u : Value), (adCells l)[j]? = some u → cs[j]? = some u
theorem SentAt.upd {w w' : World} {l : List Ad} {s : RSlot} {S : Nat → Prop} (h : SentAt w l s) (hu : Upd S w w') (hn : ¬ S s.row) : SentAt w' l s := by
  obtain ⟨cs, h1, h2⟩ := h.blk
  exact ⟨cs, hu.blk h1 hn, h2⟩
theorem SentAt.lt {w : World} {l : List Ad} {s : RSlot} (h : SentAt w l s) : s.row < w.heap.size := by
  obtain ⟨cs, h1, _⟩ := h.blk
  exact lt_of_block h1
theorem SentAt.src {w : World} {l : List Ad} {s : RSlot} (h : SentAt w l s) : SrcAd w (some ⟨s.row, 0, none⟩) l := by
  obtain ⟨cs, h1, h2⟩ := h.blk
  intro j hj
  have h3 := adCells_get l j hj
  exact ⟨s.row, rfl, lt_of_block h1, (blk_cell h1 _).trans (h2 _ _ h3.1), (blk_cell h1 _).trans (h2 _ _ h3.2)⟩
theorem SentAt.ne {w : World} {l : List Ad} {s : RSlot} (h : SentAt w l s) {b : Nat} {cs : Array Value} {t : TypeId} (hb : w.heap[b]? = some (.cells cs t (0, 0))) (ht : t ≠ 26) : s.row ≠ b := by
  intro e
  obtain ⟨c, h1, _⟩ := h.blk
  rw [e, hb] at h1
  simp only [Option.some.injEq, Obj.cells.injEq] at h1
  exact ht h1.2.1

/-- A row of entries, made since there were n0 blocks, at block g. -/
structure OwnE (l : List RE) (n0 g cap : Nat) (w : World) : Prop where
  row : w.ownsRow 0 73 5 (.slice (some ⟨g, 0, none⟩) l.length cap) l.length (l.flatMap rent)
  new : n0 ≤ g
theorem ownBlk {g n cap k : Nat} (h : (Value.slice (some ⟨g, 0, none⟩) n cap).ownBlock = some k) : k = g := by
  simp [Value.ownBlock] at h; exact h.symm
theorem row_capE {w : World} {g n cap : Nat} {l : List Value} (h : w.ownsRow 0 73 5 (.slice (some ⟨g, 0, none⟩) n cap) n l) : n ≤ cap := by
  rcases h.2 with ⟨h1, h2⟩ | ⟨_, _, _, hv, _, _, hc, _⟩
  · simp at h1
  · simp only [Value.slice.injEq] at hv
    omega
section
variable {l ns : List RE} {n0 g cap : Nat} {w w' : World} {S : Nat → Prop}
theorem OwnE.upd (h : OwnE l n0 g cap w) (hu : Upd S w w') (hn : ¬ S g) : OwnE l n0 g cap w' :=
  ⟨hu.row h.row (fun k hk => by rw [ownBlk hk]; exact hn), h.new⟩
theorem OwnE.cap_ (h : OwnE l n0 g cap w) : l.length ≤ cap := row_capE h.row
theorem OwnE.nil {b : Nat} (hb : w.heap[b]? = some (.cells #[] 73 (0, 0))) (hn : n0 ≤ b) : OwnE [] n0 b 0 w :=
  ⟨⟨rfl, .inr ⟨b, 0, #[], rfl, Nat.zero_le _, hb, Nat.le_refl _, by decide, rfl, rfl⟩⟩, hn⟩
theorem OwnE.blk (h : OwnE l n0 g cap w) : ∃ cs, w.heap[g]? = some (.cells cs 73 (0, 0)) := by
  rcases h.row.2 with ⟨h1, _⟩ | ⟨g', _, cur, hv, _, hb, _⟩
  · simp at h1
  · simp only [Value.slice.injEq, Option.some.injEq, Addr.mk.injEq, and_true, true_and] at hv
    obtain ⟨rfl, rfl⟩ := hv
    exact ⟨cur, hb⟩
theorem OwnE.cell (h : OwnE l n0 g cap w) (i j : Nat) (hi : i < l.length) (hj : j < 5) : w.cell? ⟨g, i * 5 + j, none⟩ = (rent (l.getD i default))[j]? := by
  have eg : l.getD i default = l[i] := by simp [List.getD, hi]
  rw [World.ownsRow.cellAt h.row (i * 5 + j) (by omega), flat5 _ rent_len l i j hi hj, eg]
theorem Try.info73 : (Try.prog.info? 73).map (fun i => (i.zero, i.size, i.bytes)) = some (some (.agg #[.int .u32 0, .int .i64 0, .int .i64 0, .int .i64 0, .slice none 0 0]), 5, 56) := by kernel_rfl
theorem wp_appE {o : Oper} {a : Act} {K : Act → World → Prop} {Q : Exit → Act → World → Prop} (s x : Operand)
    (ho : o.op = .call { callee := .builtin .append, args := #[s, x], argTypes := #[47, 47] })
    (v : Value) (n c N : Nat) (z : RE) (b : Nat) (hs : a.eval s = v) (hl : l.length = n) (hO : w.ownsRow 0 73 5 v n (l.flatMap rent)) (hv : ∀ k, v.ownBlock = some k → n0 ≤ k) (hx : a.eval x = .slice (some ⟨b, 0, none⟩) 1 c) (hN : ∀ j u, (rent z)[j]? = some u → w.cell? ⟨b, j, none⟩ = some u)
    (hm : n + 1 = N) (hb : N ≤ 1000000) (hn0 : n0 ≤ w.heap.size)
    (h : ∀ g' cap' w', OwnE (l ++ [z]) n0 g' cap' w' → Upd (fun q => v.ownBlock = some q) w w' → (v.ownBlock = some g' ∨ w.heap.size ≤ g') → g' < w'.heap.size → K (a.put o.dst (.slice (some ⟨g', 0, none⟩) N cap')) w') : o.wp Try.prog a w K Q := by
  subst hl hm
  obtain ⟨i0, hi, hz0, hz1, hz2⟩ := info_parts Try.info73
  refine wp_append_lies w s x 47 ho 0 73 i0 _ 5 56 Try.underlying47 hi hz0 hz1 hz2 rfl (by decide) v l.length _ hs hO ⟨b, 0, none⟩ 1 c (rent z) hx rfl ?_ (rent_one z) (by omega) ?_ ?_ (Nat.zero_le _) _ rfl ?_
  · intro j u hj
    have e4 : (Addr.add ⟨b, 0, none⟩ j) = ⟨b, j, none⟩ := by
      unfold Addr.add
      split
      · rename_i hz; subst hz; rfl
      · simp
    rw [e4]; exact hN j u hj
  · unfold maxLen; omega
  · omega
  · intro g' cap' w' q1 q2 q3 q4
    refine h g' cap' w' ⟨?_, ?_⟩ ((Upd.refl _ w).grown q2 (fun k hk _ => hk)) ?_ q4
    · rw [List.length_append, List.flatMap_append]
      have e : ([z].flatMap rent) = rent z := by simp
      rw [e]; exact q1
    · rcases q3 with q3 | q3
      · exact hv _ q3
      · omega
    · rcases q3 with q3 | q3
      · exact .inl q3
      · right; omega
theorem list_appE {ops : Array Oper} {rest : List Oper} {o : Oper} {a : Act} {Q : Exit → Act → World → Prop} (hgd : o.guard = none) (s x : Operand)
    (ho : o.op = .call { callee := .builtin .append, args := #[s, x], argTypes := #[47, 47] })
    (v : Value) (n c N : Nat) (z : RE) (b : Nat) (hs : a.eval s = v) (hl : l.length = n) (hO : w.ownsRow 0 73 5 v n (l.flatMap rent)) (hv : ∀ k, v.ownBlock = some k → n0 ≤ k) (hx : a.eval x = .slice (some ⟨b, 0, none⟩) 1 c) (hN : ∀ j u, (rent z)[j]? = some u → w.cell? ⟨b, j, none⟩ = some u)
    (hm : n + 1 = N) (hb : N ≤ 1000000) (hn0 : n0 ≤ w.heap.size)
    (h : ∀ g' cap' w', OwnE (l ++ [z]) n0 g' cap' w' → Upd (fun q => v.ownBlock = some q) w w' → (v.ownBlock = some g' ∨ w.heap.size ≤ g') → g' < w'.heap.size → wpList Try.prog ops Q rest (a.put o.dst (.slice (some ⟨g', 0, none⟩) N cap')) w') : wpList Try.prog ops Q (o :: rest) a w :=
  wpList_plain hgd fun _ hK => wp_appE s x ho v n c N z b hs hl hO hv hx hN hm hb hn0 fun g' cap' w' q1 q2 q3 q4 => hK _ _ (h g' cap' w' q1 q2 q3 q4)
theorem blk_news {b : Nat} {t : TypeId} {z : RE} {cs : Array Value} (hb : w.heap[b]? = some (.cells cs t (0, 0))) (hc : cs.toList = rent z) : ∀ j u, (rent z)[j]? = some u → w.cell? ⟨b, j, none⟩ = some u := by
  intro j u hj
  rw [blk_cell hb, ← hj, ← hc]
  simp
end

/-- The document's box at r: its config, its row of entries, the rows of whom they have sent to. -/
structure RefAt (r : Nat) (c : Cfg) (A : Option Addr) (cap : Nat) (l : List RE) (w : World) : Prop where
  box : w.heap[r]? = some (.cells #[.int .u32 c.pub, .int .i64 c.map, .int .i64 c.fil, .bool c.hair, .int .i64 c.tmo, .slice A l.length cap] 49 (0, 0))
  row : w.ownsRow 0 73 5 (.slice A l.length cap) l.length (l.flatMap rent)
  form : l = [] ∨ ∃ g, A = some ⟨g, 0, none⟩
  sent : ∀ z, z ∈ l → SentAt w z.1.sent z.2
section
variable {r : Nat} {c : Cfg} {A : Option Addr} {cap : Nat} {l : List RE} {w w' : World} {S : Nat → Prop}
theorem RefAt.upd (h : RefAt r c A cap l w) (hu : Upd S w w') (h1 : ¬ S r) (h2 : ∀ k, (Value.slice A l.length cap).ownBlock = some k → ¬ S k) (h3 : ∀ z, z ∈ l → ¬ S z.2.row) : RefAt r c A cap l w' :=
  ⟨hu.blk h.box h1, hu.row h.row h2, h.form, fun z hz => (h.sent z hz).upd hu (h3 z hz)⟩
theorem RefAt.still (h : RefAt r c A cap l w) (hu : Upd (fun _ => False) w w') : RefAt r c A cap l w' := h.upd hu (fun h => h) (fun _ _ h => h) (fun _ _ h => h)
theorem RefAt.lt (h : RefAt r c A cap l w) : r < w.heap.size := lt_of_block h.box
theorem RefAt.cells (h : RefAt r c A cap l w) : w.cell? ⟨r, 0, none⟩ = some (.int .u32 c.pub) ∧ w.cell? ⟨r, 1, none⟩ = some (.int .i64 c.map) ∧ w.cell? ⟨r, 2, none⟩ = some (.int .i64 c.fil) ∧ w.cell? ⟨r, 4, none⟩ = some (.int .i64 c.tmo) ∧ w.cell? ⟨r, 5, none⟩ = some (.slice A l.length cap) :=
  ⟨(blk_cell h.box 0).trans rfl, (blk_cell h.box 1).trans rfl, (blk_cell h.box 2).trans rfl, (blk_cell h.box 4).trans rfl, (blk_cell h.box 5).trans rfl⟩
theorem RefAt.some_ (h : RefAt r c A cap l w) (hl : l ≠ []) : ∃ g, A = some ⟨g, 0, none⟩ ∧ OwnE l 0 g cap w := by
  rcases h.form with h1 | ⟨g, rfl⟩
  · exact absurd h1 hl
  · exact ⟨g, rfl, h.row, Nat.zero_le _⟩
theorem RefAt.at_ (h : RefAt r c A cap l w) (i : Nat) (hi : i < l.length) : ∃ g, A = some ⟨g, 0, none⟩ ∧ w.cell? ⟨g, i * 5, none⟩ = some (.int .u32 (l.getD i default).1.ins.h) ∧ w.cell? ⟨g, i * 5 + 1, none⟩ = some (.int .i64 (l.getD i default).1.ins.p) ∧
    w.cell? ⟨g, i * 5 + 2, none⟩ = some (.int .i64 (l.getD i default).1.port) ∧ w.cell? ⟨g, i * 5 + 3, none⟩ = some (.int .i64 (l.getD i default).1.used) ∧ w.cell? ⟨g, i * 5 + 4, none⟩ = some (.slice (some ⟨(l.getD i default).2.row, 0, none⟩) (l.getD i default).1.sent.length (l.getD i default).2.cap) := by
  obtain ⟨g, rfl, hO⟩ := h.some_ (fun e => by subst e; simp at hi)
  exact ⟨g, rfl, (hO.cell i 0 hi (by decide)).trans rfl, (hO.cell i 1 hi (by decide)).trans rfl, (hO.cell i 2 hi (by decide)).trans rfl, (hO.cell i 3 hi (by decide)).trans rfl, (hO.cell i 4 hi (by decide)).trans rfl⟩
end
set_option maxHeartbeats 1000000 in
theorem cut30_any (n : Int) (w : World) : Calls Try.prog 30 #[.int .i64 n] w fun e w' => e = .returned (.int .i64 (cutT n)) ∧ w = w' := by
  have hc : (n < 0 → cutT n = 0) ∧ (1000000000 < n → cutT n = 1000000000) ∧ (0 ≤ n → n ≤ 1000000000 → cutT n = n) := by
    unfold cutT
    refine ⟨fun h => ?_, fun h => ?_, fun h h' => ?_⟩
    · rw [if_pos h]
    · rw [if_neg (by omega), if_pos h]
    · rw [if_neg (by omega), if_neg (by omega)]
  have H := hid hc
  clear hc
  rcases Int.lt_or_le n 0 with h | h
  · have h1 := H.out.1 h
    rw [h1]
    clear h1
    go_enter Try.func30, Try.ntmps30
    go_wp2_with fail
    all_goals first
      | (exfalso; omega)
      | (go_ret; exact ⟨rfl, rfl⟩)
  · rcases Int.lt_or_le 1000000000 n with h2 | h2
    · have h1 := H.out.2.1 h2
      rw [h1]
      clear h1
      go_enter Try.func30, Try.ntmps30
      go_wp2_with fail
      all_goals first
        | (exfalso; omega)
        | (go_ret; exact ⟨rfl, rfl⟩)
    · have h1 := H.out.2.2 h h2
      rw [h1]
      clear h1
      go_enter Try.func30, Try.ntmps30
      go_wp2_with fail
      all_goals first
        | (exfalso; omega)
        | (go_ret; exact ⟨rfl, rfl⟩)
        | (go_ret; refine ⟨?_, rfl⟩; show Ending.returned (Value.int IntKind.i64 _) = _; congr 2; omega)
end Go.Proofs.Ytbcchdnbfblooaa
