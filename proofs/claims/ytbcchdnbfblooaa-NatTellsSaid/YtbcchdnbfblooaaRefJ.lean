/- What the document's Out leaves: plain laws, and rows that are written (no statement of the seat). -/
import Derived.Test.YtbcchdnbfblooaaRefI
import Derived.Test.YtbcchdnbfblooaaOut
namespace Go.Proofs.Ytbcchdnbfblooaa
open Go.RowKit
set_option linter.unusedSimpArgs false
set_option linter.unusedVariables false
theorem ref_found {c : Cfg} {L M : List Ent} {now : Int} {fr tt : Ad} (hM : alive (cutT now) c.tmo L = M) (G : Good c.map M) (k : Nat) (hk : k < M.length) (hkey : keyB c.map fr tt (M.getD k default) = true) :
    outL c now fr tt L = (M.set k ⟨fr, (M.getD k default).port, cutT now, sendTo (M.getD k default).sent tt⟩, ⟨c.pub, (M.getD k default).port⟩, 0) := by
  obtain ⟨z, hz⟩ : ∃ z, M.getD k default = z := ⟨_, rfl⟩
  rw [hz] at hkey ⊢
  have eg : M[k] = z := by rw [← hz]; simp [List.getD, hk]
  have hs : M = M.take k ++ z :: M.drop (k + 1) := by rw [← eg, ← List.drop_eq_getElem_cons hk, List.take_append_drop]
  obtain ⟨A, hA⟩ : ∃ A, M.take k = A := ⟨_, rfl⟩
  obtain ⟨B, hB⟩ : ∃ B, M.drop (k + 1) = B := ⟨_, rfl⟩
  rw [hA, hB] at hs
  have hAl : A.length = k := by rw [← hA, List.length_take]; omega
  have hkk : z.key c.map = (fr, red c.map tt) := by simpa [keyB] using hkey
  have hN := G.keysN
  rw [hs, List.map_append, List.map_cons, List.nodup_append] at hN
  obtain ⟨_, hBn, hAB⟩ := hN
  rw [List.nodup_cons] at hBn
  have hA' : (fr, red c.map tt) ∉ A.map (Ent.key c.map) := fun h => hAB _ h _ (List.mem_cons_self ..) hkk.symm
  have hB' : (fr, red c.map tt) ∉ B.map (Ent.key c.map) := fun h => hBn.1 (hkk ▸ h)
  have hf : M.find? (keyB c.map fr tt) = some z := by
    rw [hs, List.find?_append]
    have : A.find? (keyB c.map fr tt) = none := by
      rw [List.find?_eq_none]
      intro e he hk'
      simp only [keyB, decide_eq_true_eq] at hk'
      exact hA' (hk' ▸ List.mem_map_of_mem he)
    rw [this]
    simp [keyB, hkk]
  unfold outL
  dsimp only
  rw [hM, hf]
  dsimp only
  have hb : bump c.map fr tt (cutT now) z = ⟨fr, z.port, cutT now, sendTo z.sent tt⟩ := by
    unfold bump
    rw [if_pos hkey]
    have : z.ins = fr := congrArg Prod.fst hkk
    rw [this]
  have hset : M.set k ⟨fr, z.port, cutT now, sendTo z.sent tt⟩ = A ++ ⟨fr, z.port, cutT now, sendTo z.sent tt⟩ :: B := by
    rw [List.set_eq_take_append_cons_drop, if_pos hk, hA, hB]
  rw [hset]
  conv => lhs; rw [hs, List.map_append, List.map_cons, bump_other hA', bump_other hB', hb]
theorem ref_full {c : Cfg} {L M : List Ent} {now : Int} {fr tt : Ad} (hM : alive (cutT now) c.tmo L = M) (hf : M.find? (keyB c.map fr tt) = none) (hl : M.length = 64) : outL c now fr tt L = (M, ⟨0, 0⟩, 8) := by
  unfold outL
  dsimp only
  rw [hM, hf]
  dsimp only
  rw [if_pos (by omega)]
theorem ref_new {c : Cfg} {L M : List Ent} {now : Int} {fr tt : Ad} (hM : alive (cutT now) c.tmo L = M) (hf : M.find? (keyB c.map fr tt) = none) (hl : M.length < 64) : outL c now fr tt L = (M ++ [⟨fr, freeP M, cutT now, [tt]⟩], ⟨c.pub, freeP M⟩, 0) := by
  unfold outL
  dsimp only
  rw [hM, hf]
  dsimp only
  rw [if_neg (by omega)]
theorem keyB_iff (m : Int) (hm0 : 1 ≤ m) (hm1 : m ≤ 3) (fr tt : Ad) (e : Ent) : keyB m fr tt e = true ↔ (e.ins.h = fr.h ∧ e.ins.p = fr.p) ∧ (m = 1 ∨ (e.head.h = tt.h ∧ (m = 2 ∨ e.head.p = tt.p))) := by
  unfold keyB Ent.key
  rw [decide_eq_true_eq, Prod.mk.injEq]
  obtain ⟨⟨i1, i2⟩, po, us, se⟩ := e
  obtain ⟨f1, f2⟩ := fr
  obtain ⟨t1, t2⟩ := tt
  obtain ⟨h1, h2⟩ : ∃ q, Ent.head ⟨⟨i1, i2⟩, po, us, se⟩ = q := ⟨_, rfl⟩
  rw [h2]
  obtain ⟨x1, x2⟩ := h1
  unfold red
  by_cases c1 : m = 1
  · simp [c1]
  · by_cases c2 : m = 2
    · simp [c2]
    · simp [c1, c2]

/-! ### a cell of a row of entries is written -/
theorem flat5_set (l : List RE) (k j : Nat) (z : RE) (u : Value) (hk : k < l.length) (hj : j < 5) (hz : rent z = (rent (l.getD k default)).set j u) : (l.set k z).flatMap rent = (l.flatMap rent).set (k * 5 + j) u := by
  induction l generalizing k with
  | nil => simp at hk
  | cons x r ih =>
    cases k with
    | zero =>
      have e0 : (x :: r).getD 0 default = x := rfl
      rw [e0] at hz
      rw [List.set_cons_zero, List.flatMap_cons, List.flatMap_cons, hz, Nat.zero_mul, Nat.zero_add, List.set_append_left _ _ (by rw [rent_len]; exact hj)]
    | succ k =>
      have e0 : (x :: r).getD (k + 1) default = r.getD k default := by simp [List.getD]
      rw [e0] at hz
      rw [List.set_cons_succ, List.flatMap_cons, List.flatMap_cons, ih k (by simpa using hk) hz, List.set_append_right _ _ (by rw [rent_len]; omega)]
      have e : (k + 1) * 5 + j - (rent x).length = k * 5 + j := by rw [rent_len]; omega
      rw [e]
theorem mem_set_or {α : Type} {l : List α} {k : Nat} {z y : α} (h : y ∈ l.set k z) : y = z ∨ y ∈ l := by
  rcases List.mem_or_eq_of_mem_set h with h | h
  · exact .inr h
  · exact .inl h
theorem fst_set (l : List RE) (k : Nat) (z : RE) : (l.set k z).map Prod.fst = (l.map Prod.fst).set k z.1 := by
  rw [List.map_set]
section
variable {r : Nat} {c : Cfg} {g cap : Nat} {l : List RE} {w w' : World}
theorem RefAt.write (h : RefAt r c (some ⟨g, 0, none⟩) cap l w) (k j : Nat) (z : RE) (u : Value) (hk : k < l.length) (hj : j < 5) (hz : rent z = (rent (l.getD k default)).set j u) (hs : SentAt w z.1.sent z.2) (hrg : r ≠ g) :
    RefAt r c (some ⟨g, 0, none⟩) cap (l.set k z) (w.setCell ⟨g, k * 5 + j, none⟩ u) ∧ Upd (fun q => q = g) w (w.setCell ⟨g, k * 5 + j, none⟩ u) := by
  have hO : OwnE l 0 g cap w := ⟨h.row, Nat.zero_le _⟩
  obtain ⟨cs, hb⟩ := hO.blk
  have hu : Upd (fun q => q = g) w (w.setCell ⟨g, k * 5 + j, none⟩ u) := Upd.setCell (Upd.refl (fun q => q = g) w) (p := ⟨g, k * 5 + j, none⟩) (fun _ => rfl) _
  have hst := (World.ownsRow.stored h.row (k * 5 + j) u).1
  have hlen : (l.set k z).length = l.length := List.length_set
  refine ⟨⟨?_, ?_, .inr ⟨g, rfl⟩, fun y hy => ?_⟩, hu⟩
  · rw [hlen]; exact hu.blk h.box hrg
  · rw [hlen, flat5_set l k j z u hk hj hz]; exact hst
  · rcases mem_set_or hy with rfl | hy
    · exact hs.upd hu (hs.ne hb (by decide))
    · exact (h.sent y hy).upd hu ((h.sent y hy).ne hb (by decide))
theorem RefAt.free (h : RefAt r c (some ⟨g, 0, none⟩) cap l w) (j : Nat) : w.frozen? ⟨g, j, none⟩ = false := World.ownsRow.frozenAt h.row j
end

/-! ### rows of addresses -/
structure OwnD (l : List Ad) (n0 g cap : Nat) (w : World) : Prop where
  row : w.ownsRow 0 26 2 (.slice (some ⟨g, 0, none⟩) l.length cap) l.length (adCells l)
  new : n0 ≤ g
def NewsD (w : World) (A : Option Addr) (ns : List Ad) : Prop :=
  ns = [] ∨ ∃ b, A = some ⟨b, 0, none⟩ ∧ ∀ j u, (adCells ns)[j]? = some u → w.cell? ⟨b, j, none⟩ = some u
section
variable {l ns : List Ad} {n0 g cap : Nat} {w w' : World} {S : Nat → Prop}
theorem OwnD.upd (h : OwnD l n0 g cap w) (hu : Upd S w w') (hn : ¬ S g) : OwnD l n0 g cap w' :=
  ⟨hu.row h.row (fun k hk => by rw [ownBlk hk]; exact hn), h.new⟩
theorem OwnD.nil {b : Nat} (hb : w.heap[b]? = some (.cells #[] 26 (0, 0))) (hn : n0 ≤ b) : OwnD [] n0 b 0 w :=
  ⟨⟨rfl, .inr ⟨b, 0, #[], rfl, Nat.zero_le _, hb, Nat.le_refl _, by decide, rfl, rfl⟩⟩, hn⟩
theorem OwnD.cap_ (h : OwnD l n0 g cap w) : l.length ≤ cap := by
  rcases h.row.2 with ⟨h1, h2⟩ | ⟨_, _, _, hv, _, _, hc, _⟩
  · simp at h1
  · simp only [Value.slice.injEq] at hv
    omega
theorem adCells_len : ∀ l : List Ad, (adCells l).length = l.length * 2 := by
  intro l
  induction l with
  | nil => rfl
  | cons c r ih => unfold adCells at *; rw [List.flatMap_cons, List.length_append, ih, List.length_cons]; simp; omega
theorem adCells_app (a b : List Ad) : adCells (a ++ b) = adCells a ++ adCells b := by unfold adCells; rw [List.flatMap_append]
theorem OwnD.sent (h : OwnD l n0 g cap w) : SentAt w l ⟨g, cap⟩ := by
  rcases h.row.2 with ⟨h1, _⟩ | ⟨g', _, cur, hv, _, hb, _, _, hcs, htake⟩
  · simp at h1
  · simp only [Value.slice.injEq, Option.some.injEq, Addr.mk.injEq, and_true, true_and] at hv
    obtain ⟨rfl, rfl⟩ := hv
    refine ⟨cur, hb, fun j u hj => ?_⟩
    rw [← htake, List.getElem?_take] at hj
    split at hj
    · simpa using hj
    · simp at hj
theorem SentAt.news {s : RSlot} (h : SentAt w l s) : NewsD w (some ⟨s.row, 0, none⟩) l := by
  obtain ⟨cs, h1, h2⟩ := h.blk
  exact .inr ⟨s.row, rfl, fun j u hj => (blk_cell h1 j).trans (h2 j u hj)⟩
theorem newsD_one {b : Nat} {t : TypeId} {a : Ad} (hb : w.heap[b]? = some (.cells #[.int .u32 a.h, .int .i64 a.p] t (0, 0))) : NewsD w (some ⟨b, 0, none⟩) [a] := by
  refine .inr ⟨b, rfl, fun j u hj => ?_⟩
  rw [blk_cell hb, ← hj]
  simp [adCells]
theorem wp_appD {o : Oper} {a : Act} {K : Act → World → Prop} {Q : Exit → Act → World → Prop} (s x : Operand)
    (ho : o.op = .call { callee := .builtin .append, args := #[s, x], argTypes := #[63, 63] })
    (n k c N : Nat) (A : Option Addr) (hs : a.eval s = .slice (some ⟨g, 0, none⟩) n cap) (hl : l.length = n) (hO : OwnD l n0 g cap w) (hx : a.eval x = .slice A k c) (hk : ns.length = k) (hN : NewsD w A ns)
    (hm : n + k = N) (hb : N ≤ 1000000) (hn0 : n0 ≤ w.heap.size)
    (h : ∀ g' cap' w', OwnD (l ++ ns) n0 g' cap' w' → Upd (fun q => q = g) w w' → (g' = g ∨ w.heap.size ≤ g') → g' < w'.heap.size → K (a.put o.dst (.slice (some ⟨g', 0, none⟩) N cap')) w') : o.wp Try.prog a w K Q := by
  subst hl hk hm
  obtain ⟨i0, hi, hz0, hz1, hz2⟩ := info_parts Try.info26
  by_cases hk0 : ns.length = 0
  · have hns : ns = [] := List.length_eq_zero_iff.1 hk0
    subst hns
    have hsrc : Src Try.prog i0.size 63 (.slice A 0 c) 0 [] w := by
      cases A with
      | none => exact Src.ofNil _ Try.underlying63 c
      | some ad => exact Src.ofSlice _ Try.underlying63 ad 0 c [] (by simp) (fun j u hu => by simp at hu) (fun u hu => by cases hu)
    have hr := run_append_nothing w 63 63 o.type 26 i0 Try.underlying63 hi (some ⟨g, 0, none⟩) l.length cap hO.cap_ (.slice A 0 c) hsrc
    unfold Oper.wp execOp
    rw [List.length_nil] at hx
    simp only [ho, resolve, invoke, builtin, Sem.run_bind, Sem.run_pure, Result.andThen_ok, List.map_toArray, List.map_cons, List.map_nil, hs, hx, hr]
    exact h g cap w (by rw [List.append_nil]; exact hO) (Upd.refl _ _) (.inl rfl) (World.ownsRow.lt hO.row g rfl).2
  · rcases hN with hN | ⟨b, rfl, hN⟩
    · rw [hN] at hk0; exact absurd rfl hk0
    · refine wp_append_lies w s x 63 ho 0 26 i0 _ 2 16 Try.underlying63 hi hz0 hz1 hz2 rfl (by decide) _ l.length _ hs hO.row ⟨b, 0, none⟩ ns.length c (adCells ns) hx (adCells_len ns) ?_ ?_ (by omega) ?_ ?_ (Nat.zero_le _) _ rfl ?_
      · intro j u hj
        have e4 : (Addr.add ⟨b, 0, none⟩ j) = ⟨b, j, none⟩ := by
          unfold Addr.add
          split
          · rename_i hz; subst hz; rfl
          · simp
        rw [e4]; exact hN j u hj
      · intro u hu
        unfold adCells at hu
        rw [List.mem_flatMap] at hu
        obtain ⟨q, _, hq⟩ := hu
        simp at hq
        rcases hq with rfl | rfl <;> rfl
      · unfold maxLen; omega
      · omega
      · intro g' cap' w' q1 q2 q3 q4
        refine h g' cap' w' ⟨?_, ?_⟩ ((Upd.refl _ w).grown q2 (fun k hk _ => ownBlk hk)) ?_ q4
        · rw [List.length_append, adCells_app]; exact q1
        · rcases q3 with q3 | q3
          · rw [ownBlk q3]; exact hO.new
          · omega
        · rcases q3 with q3 | q3
          · exact .inl (ownBlk q3)
          · right; omega
/-- The same, at a step of a region that draws, at a row that is new since wc. -/
theorem step_newD {wc : World} {ops : Array Oper} {o : Oper} {a : Act} {K : Act → World → Prop} {Q : Exit → Act → World → Prop} {E : Prop} (hgd : o.guard = none) (s x : Operand)
    (ho : o.op = .call { callee := .builtin .append, args := #[s, x], argTypes := #[63, 63] })
    (l ns : List Ad) (n k c N : Nat) (A : Option Addr) (hs : a.eval s = .slice (some ⟨g, 0, none⟩) n cap) (hx : a.eval x = .slice A k c) (hU : Upd (fun _ => False) wc w) (hl : l.length = n) (hk : ns.length = k)
    (hm : n + k = N) (hb : N ≤ 1000000) (hO : OwnD l wc.heap.size g cap w) (hN : NewsD w A ns)
    (h : ∀ g' cap' w', OwnD (l ++ ns) wc.heap.size g' cap' w' → Upd (fun _ => False) wc w' → Upd (fun q => q = g) w w' → K (a.put o.dst (.slice (some ⟨g', 0, none⟩) N cap')) w') :
    if Region.wanted o (yielded ops a.tmps) = true then Oper.wp Try.prog o a w K Q else E := by
  have hw : Region.wanted o (yielded ops a.tmps) = true := by simp [Region.wanted, hgd]
  rw [if_pos hw]
  exact wp_appD s x ho n k c N A hs hl hO hx hk hN hm hb hU.size fun g' cap' w' q1 q2 _ _ => h g' cap' w' q1 (hU.then_ q2 (fun q hq e => by have := hO.new; omega)) q2
end
theorem heap_alloc_at (w : World) (cs : Array Value) (t : TypeId) (k : Nat) (h : k = w.heap.size) : (w.alloc (.cells cs t)).heap[k]? = some (.cells cs t (0, 0)) := by
  subst h; exact heap_alloc_new w _
def headId : Code → Option Nat
  | .region id _ _ => some id
  | .seq a _ => headId a
  | _ => Option.none
/-- The part of a text that begins with such a region and goes on to the end. -/
def findAt (k : Nat) : Code → Option Code
  | .seq a b => if headId a = some k then some (.seq a b) else match findAt k a with
    | some c => some c
    | Option.none => findAt k b
  | .block _ c => findAt k c
  | .scope c => findAt k c
  | _ => Option.none
end Go.Proofs.Ytbcchdnbfblooaa
