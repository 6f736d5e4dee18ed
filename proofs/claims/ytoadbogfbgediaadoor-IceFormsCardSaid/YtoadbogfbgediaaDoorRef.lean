/- Putting each in its place is the stable sort; rows made by append; the document's find, Next, Best; the laws' compares (no statement of the seat). -/
import Derived.Test.YtoadbogfbgediaaDoorWhole
import Derived.Test.YtoadbogfbgediaaDoorForm
import Derived.Deep.AppendSrc
import Derived.Deep.Upon
import Derived.Test.YtoadbogfbgediaaDoorOrder
namespace Go.Proofs.YtoadbogfbgediaaDoor
open Go.RowKit

section
variable {α : Type} [Inhabited α]
/-- Before whom of l the thing x is put: behind those that are worth as much. -/
structure InsAt (p : α → Int) (l : List α) (x : α) (k : Nat) : Prop where
  le : k ≤ l.length
  lo : ∀ i, i < k → p x ≤ p (l.getD i default)
  hi : k < l.length → p (l.getD k default) < p x
/-- l is what stands in L, by worth, then by place. -/
def Sorted (p : α → Int) (L l : List α) : Prop :=
  ∃ D : List Nat, l = D.map (fun i => L.getD i default) ∧ D.Pairwise (Lt (fun i => p (L.getD i default))) ∧ ∀ i, i ∈ D ↔ i < L.length
theorem Sorted.nil (p : α → Int) : Sorted p ([] : List α) [] := ⟨[], rfl, List.Pairwise.nil, by simp⟩
theorem getD_map (D : List Nat) (g : Nat → α) (k : Nat) (hk : k < D.length) : (D.map g).getD k default = g D[k] := by
  simp [List.getD, hk]
theorem getD_snoc (L : List α) (x : α) (i : Nat) (hi : i < L.length) : (L ++ [x]).getD i default = L.getD i default := by
  simp [List.getD, List.getElem?_append_left hi]
theorem getD_last (L : List α) (x : α) : (L ++ [x]).getD L.length default = x := by
  simp [List.getD]
theorem Sorted.put {p : α → Int} {L l : List α} (h : Sorted p L l) {x : α} {k : Nat} (hi : InsAt p l x k) : Sorted p (L ++ [x]) (l.take k ++ [x] ++ l.drop k) := by
  obtain ⟨D, rfl, hp, hm⟩ := h
  obtain ⟨h1, h2, h3⟩ := hi
  rw [List.length_map] at h1 h3
  have eD : ∀ i, i ∈ D → (L ++ [x]).getD i default = L.getD i default := fun i hi => getD_snoc L x i ((hm i).1 hi)
  refine ⟨D.take k ++ [L.length] ++ D.drop k, ?_, ?_, fun i => ?_⟩
  · rw [List.map_append, List.map_append, List.map_singleton, getD_last, ← List.map_take, ← List.map_drop]
    congr 1
    · congr 1
      exact List.map_congr_left (fun i hi => (eD i (List.mem_of_mem_take hi)).symm)
    · exact List.map_congr_left (fun i hi => (eD i (List.mem_of_mem_drop hi)).symm)
  · have hlt : ∀ a b, a ∈ D → b ∈ D → Lt (fun i => p (L.getD i default)) a b → Lt (fun i => p ((L ++ [x]).getD i default)) a b := fun a b ha hb h => by
      unfold Lt at *; dsimp only at *; rw [eD a ha, eD b hb]; exact h
    have hpt : ∀ D1 : List Nat, D1.Sublist D → D1.Pairwise (Lt (fun i => p ((L ++ [x]).getD i default))) := fun D1 hs =>
      (hp.sublist hs).imp_of_mem (fun {a b} ha hb h => hlt a b (hs.subset ha) (hs.subset hb) h)
    have hbig : ∀ b, b ∈ D.drop k → p (L.getD b default) < p x := by
      intro b hb
      obtain ⟨j, hj, e⟩ := List.getElem_of_mem hb
      rw [List.length_drop] at hj
      have hk : k < D.length := by omega
      have h4 := h3 hk
      rw [getD_map D _ k hk] at h4
      rw [List.getElem_drop] at e
      by_cases hj0 : j = 0
      · subst hj0
        rw [← e]; simpa using h4
      · have := List.pairwise_iff_getElem.1 hp k (k + j) hk (by omega) (by omega)
        unfold Lt at this
        dsimp only at this
        rw [e] at this
        omega
    rw [List.pairwise_append, List.pairwise_append]
    refine ⟨⟨hpt _ (List.take_sublist k D), List.pairwise_singleton _ _, ?_⟩, hpt _ (List.drop_sublist k D), ?_⟩
    · intro a ha b hb
      rw [List.mem_singleton] at hb
      subst hb
      have haD := List.mem_of_mem_take ha
      obtain ⟨j, hj, e⟩ := List.getElem_of_mem ha
      rw [List.length_take] at hj
      have h4 := h2 j (by omega)
      rw [getD_map D _ j (by omega)] at h4
      rw [List.getElem_take] at e
      rw [e] at h4
      have := (hm a).1 haD
      unfold Lt
      dsimp only
      rw [eD a haD, getD_last]
      omega
    · intro a ha b hb
      rw [List.mem_append, List.mem_singleton] at ha
      rcases ha with ha | rfl
      · have : (D.take k ++ D.drop k).Pairwise (Lt (fun i => p (L.getD i default))) := by rw [List.take_append_drop]; exact hp
        rw [List.pairwise_append] at this
        exact hlt a b (List.mem_of_mem_take ha) (List.mem_of_mem_drop hb) (this.2.2 a ha b hb)
      · have := hbig b hb
        unfold Lt
        dsimp only
        rw [getD_last, eD b (List.mem_of_mem_drop hb)]
        omega
  · rw [List.length_append, List.mem_append, List.mem_append, List.mem_singleton]
    have hm1 := hm i
    have : i ∈ D ↔ i ∈ D.take k ∨ i ∈ D.drop k := by rw [← List.mem_append, List.take_append_drop]
    have h5 : [x].length = 1 := rfl
    rw [h5]
    constructor
    · rintro ((h | h) | h)
      · have := hm1.1 (this.2 (.inl h)); omega
      · omega
      · have := hm1.1 (this.2 (.inr h)); omega
    · intro h
      by_cases e : i = L.length
      · exact .inl (.inr e)
      · rcases this.1 (hm1.2 (by omega)) with h' | h'
        · exact .inl (.inl h')
        · exact .inr h'
theorem sorted_one : ∀ (D E : List Nat) (W : Nat → Int), D.Pairwise (Lt W) → E.Pairwise (Lt W) → (∀ i, i ∈ D ↔ i ∈ E) → D = E := by
  intro D
  induction D with
  | nil =>
    intro E W _ _ h
    cases E with
    | nil => rfl
    | cons b r => exact absurd ((h b).2 (by simp)) (by simp)
  | cons a t ih =>
    intro E W hD hE h
    cases E with
    | nil => exact absurd ((h a).1 (by simp)) (by simp)
    | cons b r =>
      rw [List.pairwise_cons] at hD hE
      have hab : a = b := by
        have h1 := (h a).1 (by simp)
        have h2 := (h b).2 (by simp)
        rw [List.mem_cons] at h1 h2
        rcases h1 with h1 | h1
        · exact h1
        · rcases h2 with h2 | h2
          · exact h2.symm
          · exact (Lt.irrefl ((hD.1 b h2).trans (hE.1 a h1))).elim
      subst hab
      rw [ih r W hD.2 hE.2 (fun i => ?_)]
      have hi := h i
      rw [List.mem_cons, List.mem_cons] at hi
      constructor
      · intro hm
        rcases hi.1 (.inr hm) with e | e
        · subst e; exact (Lt.irrefl (hD.1 _ hm)).elim
        · exact e
      · intro hm
        rcases hi.2 (.inr hm) with e | e
        · subst e; exact (Lt.irrefl (hE.1 _ hm)).elim
        · exact e
/-- The one sort is the other. -/
theorem Sorted.same {p : α → Int} {L l : List α} (h : Sorted p L l) {d : Array Nat} (hs : d.size = L.length) (hm : Mv 0 L.length (Array.range L.length) d) (hsr : Srt (fun x => p (L.getD x default)) d 0 L.length) :
    l.length = L.length ∧ ∀ k, k < L.length → l.getD k default = L.getD d[k]! default := by
  obtain ⟨D, rfl, hp, hD⟩ := h
  have hE : D = (List.range L.length).map (fun k => d[k]!) := by
    refine sorted_one _ _ _ hp ?_ (fun i => ?_)
    · rw [List.pairwise_map]
      refine List.Pairwise.imp_of_mem ?_ List.pairwise_lt_range
      intro a b ha hb hab
      rw [List.mem_range] at ha hb
      exact hsr a b (Nat.zero_le _) hab hb
    · rw [hD i, List.mem_map]
      constructor
      · intro hi
        obtain ⟨_, t, _, h2, h3, h4⟩ := hm
        obtain ⟨k, hk, e⟩ := inj_onto L.length t (fun k hk => (h2 k (Nat.zero_le _) hk).2) (fun i j _ _ e => h3 i j e) i hi
        exact ⟨k, List.mem_range.2 hk, by rw [h4 k, e, range_at _ i hi]⟩
      · rintro ⟨k, hk, rfl⟩
        rw [List.mem_range] at hk
        obtain ⟨_, t, _, h2, h3, h4⟩ := hm
        have := h2 k (Nat.zero_le _) hk
        rw [h4 k, range_at _ _ this.2]
        exact this.2
  subst hE
  refine ⟨by simp, fun k hk => ?_⟩
  rw [List.map_map]
  simp [List.getD, hk]

/-- The first ones of l of each key, most at most. -/
def fewL (ks : Nat → Ad × Ad) (l : List α) (n : Nat) : List α := (kept ks n).map (fun x => l.getD x default)
theorem fewL_len (ks : Nat → Ad × Ad) (l : List α) (n : Nat) : (fewL ks l n).length = (kept ks n).length := by simp [fewL]
theorem fewL_succ (ks : Nat → Ad × Ad) (l : List α) (n : Nat) : fewL ks l (n + 1) = if dup ks n = true then fewL ks l n else fewL ks l n ++ [l.getD n default] := by
  unfold fewL
  rw [kept_succ]
  split
  · rfl
  · rw [List.map_append]; rfl
theorem fewL_get (ks : Nat → Ad × Ad) (l : List α) (n k : Nat) (hk : k < (kept ks n).length) : (fewL ks l n).getD k default = l.getD ((kept ks n).getD k 0) default := by
  unfold fewL
  generalize kept ks n = K at *
  simp [List.getD, hk]
/-- None of few has this one's key, just if none ahead has it. -/
theorem fewL_first (key : α → Ad × Ad) (l : List α) (i : Nat) : (∀ k, k < (fewL (fun x => key (l.getD x default)) l i).length → key ((fewL (fun x => key (l.getD x default)) l i).getD k default) ≠ key (l.getD i default)) ↔ dup (fun x => key (l.getD x default)) i = false := by
  constructor
  · intro h
    cases hd : dup (fun x => key (l.getD x default)) i with
    | false => rfl
    | true =>
      unfold dup at hd
      obtain ⟨j, hj, e⟩ := (mem_keysOf _ _ i).1 (of_decide_eq_true hd)
      obtain ⟨k0, h0, e0, hd0⟩ := first_of (fun x => key (l.getD x default)) j
      obtain ⟨x, hx, ex⟩ := kept_has (fun x => key (l.getD x default)) i k0 (by omega) hd0
      have h1 := h x (by rw [fewL_len]; exact hx)
      refine absurd ?_ h1
      have hg : (fewL (fun x => key (l.getD x default)) l i).getD x default = l.getD k0 default := by
        rw [← ex]; exact fewL_get _ l i x hx
      rw [hg]
      exact e0.trans e
  · intro hd k hk e
    rw [fewL_len] at hk
    have hg : (fewL (fun x => key (l.getD x default)) l i).getD k default = l.getD ((kept (fun x => key (l.getD x default)) i).getD k 0) default := fewL_get _ l i k hk
    rw [hg] at e
    exact dup_no hd _ (kept_in (fun x => key (l.getD x default)) i k hk).1 e
theorem fewL_more (ks : Nat → Ad × Ad) (l : List α) (i : Nat) : ∀ n, i ≤ n → ∃ r, fewL ks l n = fewL ks l i ++ r := by
  intro n
  induction n with
  | zero => intro h; exact ⟨[], by rw [show i = 0 by omega]; simp⟩
  | succ n ih =>
    intro h
    by_cases e : i = n + 1
    · exact ⟨[], by rw [e]; simp⟩
    · obtain ⟨r, hr⟩ := ih (by omega)
      rw [fewL_succ]
      split
      · exact ⟨r, hr⟩
      · exact ⟨r ++ [l.getD n default], by rw [hr, List.append_assoc]⟩
theorem few_stop (ks : Nat → Ad × Ad) (l : List α) (i n m : Nat) (hi : i ≤ n) (hm : (kept ks i).length ≤ m) (h : i = n ∨ (kept ks i).length = m) : fewL ks l i = (fewL ks l n).take m ∧ (kept ks i).length = min (kept ks n).length m := by
  rcases h with rfl | h
  · refine ⟨(List.take_of_length_le (by rw [fewL_len]; exact hm)).symm, by omega⟩
  · obtain ⟨r, hr⟩ := fewL_more ks l i n hi
    have h1 := fewL_len ks l i
    have h2 := fewL_len ks l n
    rw [hr, List.length_append] at h2
    refine ⟨?_, by omega⟩
    rw [hr, List.take_append_of_le_length (by omega), List.take_of_length_le (by omega)]
theorem keysOf_congr {ks ks' : Nat → Ad × Ad} : ∀ n, (∀ i, i < n → ks i = ks' i) → keysOf ks n = keysOf ks' n := by
  intro n
  have key : ∀ m, m ≤ n → (∀ i, i < n → ks i = ks' i) → keysOf ks m = keysOf ks' m := by
    intro m
    induction m with
    | zero => intro _ _; rfl
    | succ m ih =>
      intro hm h
      rw [keysOf, keysOf, ih (by omega) h, h m (by omega)]
  exact key n (Nat.le_refl _)
theorem kept_congr {ks ks' : Nat → Ad × Ad} : ∀ n, (∀ i, i < n → ks i = ks' i) → kept ks n = kept ks' n := by
  intro n h
  unfold kept
  refine List.filter_congr (fun x hx => ?_)
  rw [List.mem_range] at hx
  unfold dup
  rw [keysOf_congr x (fun i hi => h i (by omega)), h x hx]
end
end Go.Proofs.YtoadbogfbgediaaDoor

namespace Go.Proofs.YtoadbogfbgediaaDoor
open Go.RowKit
section
variable {α : Type} {e : TypeId} {enc : α → List Value} {l ns : List α} {n0 g cap : Nat} {w w' : World} {S : Nat → Prop}
/-- A row of things of six cells, made since there were n0 blocks, at block g. -/
structure OwnG (e : TypeId) (enc : α → List Value) (l : List α) (n0 g cap : Nat) (w : World) : Prop where
  row : w.ownsRow 0 e 6 (.slice (some ⟨g, 0, none⟩) l.length cap) l.length (l.flatMap enc)
  new : n0 ≤ g
theorem OwnG.upd (h : OwnG e enc l n0 g cap w) (hu : Upd S w w') (hn : ¬ S g) : OwnG e enc l n0 g cap w' :=
  ⟨hu.row h.row (fun k hk => by rw [ownBlock_slice hk]; exact hn), h.new⟩
theorem OwnG.cap_ (h : OwnG e enc l n0 g cap w) : l.length ≤ cap := row_cap h.row
theorem OwnG.cell [Inhabited α] (h : OwnG e enc l n0 g cap w) (hl : ∀ x, (enc x).length = 6) (i j : Nat) (hi : i < l.length) (hj : j < 6) : w.cell? ⟨g, i * 6 + j, none⟩ = (enc (l.getD i default))[j]? := by
  have eg : l.getD i default = l[i] := by simp [List.getD, hi]
  rw [World.ownsRow.cellAt h.row (i * 6 + j) (by omega), flat6 _ hl l i j hi hj, eg]
theorem OwnG.nil {b : Nat} (hb : w.heap[b]? = some (.cells #[] e (0, 0))) (hn : n0 ≤ b) : OwnG e enc [] n0 b 0 w :=
  ⟨⟨rfl, .inr ⟨b, 0, #[], rfl, Nat.zero_le _, hb, Nat.le_refl _, by decide, rfl, rfl⟩⟩, hn⟩
/-- The things ns lie at A. -/
def NewsAt (enc : α → List Value) (w : World) (A : Option Addr) (ns : List α) : Prop :=
  ns = [] ∨ ∃ b off, A = some ⟨b, off, none⟩ ∧ ∀ j u, (ns.flatMap enc)[j]? = some u → w.cell? ⟨b, off + j, none⟩ = some u
theorem NewsAt.upd {A : Option Addr} (h : NewsAt enc w A ns) (hu : Upd (fun _ => False) w w') : NewsAt enc w' A ns := by
  rcases h with h | ⟨b, off, h1, h2⟩
  · exact .inl h
  · exact .inr ⟨b, off, h1, fun j u hj => hu.cell (h2 j u hj) (fun h => h)⟩
theorem flat_len (hl : ∀ x, (enc x).length = 6) : ∀ l : List α, (l.flatMap enc).length = l.length * 6 := by
  intro l
  induction l with
  | nil => rfl
  | cons c r ih => rw [List.flatMap_cons, List.length_append, hl, ih, List.length_cons]; omega
theorem OwnG.part (h : OwnG e enc l n0 g cap w) (hl : ∀ x, (enc x).length = 6) (k : Nat) (hk : k ≤ l.length) (m : List α) (r : List α) (hm : l.drop k = m ++ r) : NewsAt enc w (some ⟨g, k * 6, none⟩) m := by
  refine .inr ⟨g, k * 6, rfl, fun j u hj => ?_⟩
  have hjm := (List.getElem?_eq_some_iff.1 hj).1
  have hjl : k * 6 + j < l.length * 6 := by
    rw [flat_len hl] at hjm
    have e1 : (l.drop k).length = m.length + r.length := by rw [hm, List.length_append]
    rw [List.length_drop] at e1
    omega
  rw [World.ownsRow.cellAt h.row (k * 6 + j) hjl]
  have e2 : l = l.take k ++ (m ++ r) := by rw [← hm, List.take_append_drop]
  have e3 : l.flatMap enc = (l.take k).flatMap enc ++ (m.flatMap enc ++ r.flatMap enc) := by
    conv => lhs; rw [e2]
    rw [List.flatMap_append, List.flatMap_append]
  rw [e3, List.getElem?_append_right (by rw [flat_len hl, List.length_take]; omega)]
  have e4 : k * 6 + j - ((l.take k).flatMap enc).length = j := by rw [flat_len hl, List.length_take]; omega
  rw [e4, List.getElem?_append_left hjm, hj]
theorem OwnG.take (h : OwnG e enc l n0 g cap w) (hl : ∀ x, (enc x).length = 6) (k : Nat) : NewsAt enc w (some ⟨g, 0, none⟩) (l.take k) := by
  have := h.part hl 0 (Nat.zero_le _) (l.take k) (l.drop k) (by rw [List.drop_zero, List.take_append_drop])
  rwa [Nat.zero_mul] at this
theorem OwnG.drop (h : OwnG e enc l n0 g cap w) (hl : ∀ x, (enc x).length = 6) (k : Nat) (hk : k ≤ l.length) : NewsAt enc w (some ⟨g, k * 6, none⟩) (l.drop k) :=
  h.part hl k hk (l.drop k) [] (by simp)
theorem news_one {b : Nat} {t : TypeId} {c : α} {cs : Array Value} (hb : w.heap[b]? = some (.cells cs t (0, 0))) (hc : cs.toList = enc c) : NewsAt enc w (some ⟨b, 0, none⟩) [c] := by
  refine .inr ⟨b, 0, rfl, fun j u hj => ?_⟩
  rw [List.flatMap_cons, List.flatMap_nil, List.append_nil, ← hc] at hj
  rw [blk_cell hb, Nat.zero_add, ← hj]
  simp
/-- What append asks of an element's type. -/
structure SixT (t e : TypeId) (enc : α → List Value) : Prop where
  under : Tryd.prog.underlying t = some (.slice e)
  info : ∃ i z, Tryd.prog.info? e = some i ∧ i.zero = some z ∧ i.size = 6 ∧ i.bytes = 48 ∧ z.cells.size = 6
  len : ∀ x, (enc x).length = 6
  one : ∀ x, ∀ u ∈ enc x, u.oneCell' = true
theorem wp_appG {t : TypeId} (T : SixT t e enc) {o : Oper} {a : Act} {K : Act → World → Prop} {Q : Exit → Act → World → Prop} (s x : Operand)
    (ho : o.op = .call { callee := .builtin .append, args := #[s, x], argTypes := #[t, t] })
    (n k c N : Nat) (A : Option Addr) (hs : a.eval s = .slice (some ⟨g, 0, none⟩) n cap) (hl : l.length = n) (hO : OwnG e enc l n0 g cap w) (hx : a.eval x = .slice A k c) (hk : ns.length = k) (hN : NewsAt enc w A ns)
    (hm : n + k = N) (hb : N ≤ 1000000) (hn0 : n0 ≤ w.heap.size)
    (h : ∀ g' cap' w', OwnG e enc (l ++ ns) n0 g' cap' w' → Upd (fun q => q = g) w w' → (g' = g ∨ w.heap.size ≤ g') → g' < w'.heap.size → K (a.put o.dst (.slice (some ⟨g', 0, none⟩) N cap')) w') : o.wp Tryd.prog a w K Q := by
  subst hl hk hm
  obtain ⟨i, z, h1, h2, h3, h4, h5⟩ := T.info
  by_cases hk0 : ns.length = 0
  · have hns : ns = [] := List.length_eq_zero_iff.1 hk0
    subst hns
    have hsrc : Src Tryd.prog i.size t (.slice A 0 c) 0 [] w := by
      cases A with
      | none => exact Src.ofNil _ T.under c
      | some ad => exact Src.ofSlice _ T.under ad 0 c [] (by simp) (fun j u hu => by simp at hu) (fun u hu => by cases hu)
    have hr := run_append_nothing w t t o.type e i T.under h1 (some ⟨g, 0, none⟩) l.length cap hO.cap_ (.slice A 0 c) hsrc
    unfold Oper.wp execOp
    rw [List.length_nil] at hx
    simp only [ho, resolve, invoke, builtin, Sem.run_bind, Sem.run_pure, Result.andThen_ok, List.map_toArray, List.map_cons, List.map_nil, hs, hx, hr]
    exact h g cap w (by rw [List.append_nil]; exact hO) (Upd.refl _ _) (.inl rfl) (World.ownsRow.lt hO.row g rfl).2
  · rcases hN with hN | ⟨b, off, rfl, hN⟩
    · rw [hN] at hk0; exact absurd rfl hk0
    · refine wp_append_lies w s x t ho 0 e i z 6 48 T.under h1 h2 h3 h4 h5 (by decide) _ l.length _ hs hO.row ⟨b, off, none⟩ ns.length c (ns.flatMap enc) hx (flat_len T.len ns) ?_ ?_ (by omega) ?_ ?_ (Nat.zero_le _) _ rfl ?_
      · intro j u hj
        have e4 : (Addr.add ⟨b, off, none⟩ j) = ⟨b, off + j, none⟩ := by
          unfold Addr.add
          split
          · rename_i hz; subst hz; rfl
          · rfl
        rw [e4]; exact hN j u hj
      · intro u hu
        rw [List.mem_flatMap] at hu
        obtain ⟨q, _, hq⟩ := hu
        exact T.one q u hq
      · unfold maxLen; omega
      · omega
      · intro g' cap' w' q1 q2 q3 q4
        refine h g' cap' w' ⟨?_, ?_⟩ ((Upd.refl _ w).grown q2 (fun k hk _ => ownBlock_slice hk)) ?_ q4
        · rw [List.length_append, List.flatMap_append]; exact q1
        · rcases q3 with q3 | q3
          · rw [ownBlock_slice q3]; exact hO.new
          · omega
        · rcases q3 with q3 | q3
          · exact .inl (ownBlock_slice q3)
          · right; omega
theorem step_appG {t : TypeId} (T : SixT t e enc) {ops : Array Oper} {o : Oper} {a : Act} {K : Act → World → Prop} {Q : Exit → Act → World → Prop} {E : Prop} (hgd : o.guard = none) (s x : Operand)
    (ho : o.op = .call { callee := .builtin .append, args := #[s, x], argTypes := #[t, t] })
    (n k c N : Nat) (A : Option Addr) (hs : a.eval s = .slice (some ⟨g, 0, none⟩) n cap) (hl : l.length = n) (hO : OwnG e enc l n0 g cap w) (hx : a.eval x = .slice A k c) (hk : ns.length = k) (hN : NewsAt enc w A ns)
    (hm : n + k = N) (hb : N ≤ 1000000) (hn0 : n0 ≤ w.heap.size)
    (h : ∀ g' cap' w', OwnG e enc (l ++ ns) n0 g' cap' w' → Upd (fun q => q = g) w w' → (g' = g ∨ w.heap.size ≤ g') → g' < w'.heap.size → K (a.put o.dst (.slice (some ⟨g', 0, none⟩) N cap')) w') :
    if Region.wanted o (yielded ops a.tmps) = true then Oper.wp Tryd.prog o a w K Q else E := by
  have hw : Region.wanted o (yielded ops a.tmps) = true := by simp [Region.wanted, hgd]
  rw [if_pos hw]
  exact wp_appG T s x ho n k c N A hs hl hO hx hk hN hm hb hn0 h
theorem list_appG {t : TypeId} (T : SixT t e enc) {ops : Array Oper} {rest : List Oper} {o : Oper} {a : Act} {Q : Exit → Act → World → Prop} (hgd : o.guard = none) (s x : Operand)
    (ho : o.op = .call { callee := .builtin .append, args := #[s, x], argTypes := #[t, t] })
    (n k c N : Nat) (A : Option Addr) (hs : a.eval s = .slice (some ⟨g, 0, none⟩) n cap) (hl : l.length = n) (hO : OwnG e enc l n0 g cap w) (hx : a.eval x = .slice A k c) (hk : ns.length = k) (hN : NewsAt enc w A ns)
    (hm : n + k = N) (hb : N ≤ 1000000) (hn0 : n0 ≤ w.heap.size)
    (h : ∀ g' cap' w', OwnG e enc (l ++ ns) n0 g' cap' w' → Upd (fun q => q = g) w w' → (g' = g ∨ w.heap.size ≤ g') → g' < w'.heap.size → wpList Tryd.prog ops Q rest (a.put o.dst (.slice (some ⟨g', 0, none⟩) N cap')) w') : wpList Tryd.prog ops Q (o :: rest) a w :=
  wpList_plain hgd fun _ hK => wp_appG T s x ho n k c N A hs hl hO hx hk hN hm hb hn0 fun g' cap' w' q1 q2 q3 q4 => hK _ _ (h g' cap' w' q1 q2 q3 q4)
theorem heap_alloc_at (w : World) (cs : Array Value) (t : TypeId) (k : Nat) (h : k = w.heap.size) : (w.alloc (.cells cs t)).heap[k]? = some (.cells cs t (0, 0)) := by
  subst h; exact heap_alloc_new w _
theorem OwnG.rest (h : OwnG e enc l n0 g cap w) (hl : ∀ x, (enc x).length = 6) (k : Nat) (hk : k ≤ l.length) : NewsAt enc w (if cap = k then some ⟨g, 0, none⟩ else some ⟨g, k * 6, none⟩) (l.drop k) := by
  split
  · have := h.cap_
    refine .inl (List.drop_eq_nil_of_le (by omega))
  · exact h.drop hl k hk
/-- The same, at a row that is new since wc. -/
theorem step_new {wc : World} {t : TypeId} (T : SixT t e enc) {ops : Array Oper} {o : Oper} {a : Act} {K : Act → World → Prop} {Q : Exit → Act → World → Prop} {E : Prop} (hgd : o.guard = none) (s x : Operand)
    (ho : o.op = .call { callee := .builtin .append, args := #[s, x], argTypes := #[t, t] })
    (l ns : List α) (n k c N : Nat) (A : Option Addr) (hs : a.eval s = .slice (some ⟨g, 0, none⟩) n cap) (hx : a.eval x = .slice A k c) (hU : Upd (fun _ => False) wc w) (hl : l.length = n) (hk : ns.length = k)
    (hm : n + k = N) (hb : N ≤ 1000000) (hO : OwnG e enc l wc.heap.size g cap w) (hN : NewsAt enc w A ns)
    (h : ∀ g' cap' w', OwnG e enc (l ++ ns) wc.heap.size g' cap' w' → Upd (fun _ => False) wc w' → Upd (fun q => q = g) w w' → K (a.put o.dst (.slice (some ⟨g', 0, none⟩) N cap')) w') :
    if Region.wanted o (yielded ops a.tmps) = true then Oper.wp Tryd.prog o a w K Q else E :=
  step_appG T hgd s x ho n k c N A hs hl hO hx hk hN hm hb hU.size fun g' cap' w' q1 q2 _ _ => h g' cap' w' q1 (hU.then_ q2 (fun q hq e => by have := hO.new; omega)) q2
end
theorem ca_keep {wc W : World} {na : Nat} {ck a1 a2 b1 b2 pr : Int} (hb : wc.heap[na]? = some (.cells (caCells ⟨ck, ⟨a1, a2⟩, ⟨b1, b2⟩, pr⟩) 47 (0, 0))) (hu : Upd (fun _ => False) wc W) :
    W.cell? ⟨na, 0, none⟩ = some (.int .i64 ck) ∧ W.cell? ⟨na, 1, none⟩ = some (.int .u32 a1) ∧ W.cell? ⟨na, 2, none⟩ = some (.int .i64 a2) ∧ W.cell? ⟨na, 3, none⟩ = some (.int .u32 b1) ∧ W.cell? ⟨na, 4, none⟩ = some (.int .i64 b2) ∧ W.cell? ⟨na, 5, none⟩ = some (.int .u32 pr) ∧ Hid (Upd (fun _ => False) wc W) :=
  have hB := hu.blk hb (fun h => h)
  ⟨(blk_cell hB 0).trans rfl, (blk_cell hB 1).trans rfl, (blk_cell hB 2).trans rfl, (blk_cell hB 3).trans rfl, (blk_cell hB 4).trans rfl, (blk_cell hB 5).trans rfl, hid hu⟩
theorem pr_keep {wc W : World} {na : Nat} {a1 a2 b1 b2 p s : Int} (hb : wc.heap[na]? = some (.cells (prCells ⟨⟨a1, a2⟩, ⟨b1, b2⟩, p, s⟩) 42 (0, 0))) (hu : Upd (fun _ => False) wc W) :
    W.cell? ⟨na, 0, none⟩ = some (.int .u32 a1) ∧ W.cell? ⟨na, 1, none⟩ = some (.int .i64 a2) ∧ W.cell? ⟨na, 2, none⟩ = some (.int .u32 b1) ∧ W.cell? ⟨na, 3, none⟩ = some (.int .i64 b2) ∧ W.cell? ⟨na, 4, none⟩ = some (.int .u64 p) ∧ W.cell? ⟨na, 5, none⟩ = some (.int .i64 s) ∧ Hid (Upd (fun _ => False) wc W) :=
  have hB := hu.blk hb (fun h => h)
  ⟨(blk_cell hB 0).trans rfl, (blk_cell hB 1).trans rfl, (blk_cell hB 2).trans rfl, (blk_cell hB 3).trans rfl, (blk_cell hB 4).trans rfl, (blk_cell hB 5).trans rfl, hid hu⟩
def encCa (c : Ca) : List Value := (caCells c).toList
def encPr (c : Pr) : List Value := (prCells c).toList
theorem Tryd.info42 : (Tryd.prog.info? 42).map (fun i => (i.zero, i.size, i.bytes)) = some (some (Pr.v ⟨⟨0, 0⟩, ⟨0, 0⟩, 0, 0⟩), 6, 48) := by kernel_rfl
theorem sixC : SixT 28 47 encCa where
  under := Tryd.underlying28
  info := by
    obtain ⟨i, h1, h2, h3, h4⟩ := info_parts' Tryd.info47
    exact ⟨i, _, h1, h2, h3, h4, rfl⟩
  len := fun _ => rfl
  one := by
    intro x u hu
    simp [encCa] at hu
    rcases hu with rfl | rfl | rfl | rfl | rfl | rfl <;> rfl
theorem sixR : SixT 35 42 encPr where
  under := Tryd.underlying35
  info := by
    obtain ⟨i, h1, h2, h3, h4⟩ := info_parts' Tryd.info42
    exact ⟨i, _, h1, h2, h3, h4, rfl⟩
  len := fun _ => rfl
  one := by
    intro x u hu
    simp [encPr] at hu
    rcases hu with rfl | rfl | rfl | rfl | rfl | rfl <;> rfl
end Go.Proofs.YtoadbogfbgediaaDoor

namespace Go.Proofs.YtoadbogfbgediaaDoor
open Go.RowKit
set_option maxHeartbeats 2000000 in
theorem find34_any (A : Option Addr) (n cap : Nat) (g : Nat → Pr) (st : Int) (w : World) (h : SrcP w A n g) :
    Calls Tryd.prog 34 #[.slice A n cap, .int .i64 st] w fun e w' => ∃ r : Int, e = .returned (.int .i64 r) ∧ FindR g n st r ∧ Upd (fun _ => False) w w' := by
  have HS := hid h
  have hmax := h.max
  clear h
  go_enter Tryd.func34, Tryd.ntmps34
  go_wp2_with fail
  go_loopw [5] (fun i wr => ∃ k : Nat, k ≤ n ∧ i = .int .i64 k ∧ (∀ j, j < k → (g j).s ≠ st) ∧ Upd (fun _ => False) w wr) (fun i _ => n - (intOf i).toNat)
  case atStart => exact ⟨0, Nat.zero_le _, rfl, by simp, Upd.refl _ _⟩
  case round =>
    obtain ⟨k, hk, rfl, hno, hu⟩ := hrel
    have HU := hid hu
    have HN := hid hno
    clear hu hno
    by_cases hkn : k < n
    · obtain ⟨b, ha, hb, h0, h1, h2, h3, h4, h5⟩ := (HS.out.upd HU.out).at_ k hkn
      subst ha
      clear h0 h1 h2 h3 h4
      obtain ⟨s, hs⟩ : ∃ s, (g k).s = s := ⟨_, rfl⟩
      have HG := hid hs
      rw [hs] at h5
      clear hs
      by_cases hst : s = st
      · have HST := hid hst
        have kst : (s == st) = true := by simp [hst]
        clear hst
        go_wp2_with fail
        go_ret
        exact ⟨k, rfl, .inl ⟨k, hkn, rfl, by rw [HG.out]; exact HST.out, HN.out⟩, HU.out⟩
      · have HST := hid hst
        have kst : (s == st) = false := by simp [hst]
        clear hst
        go_wp2_with fail
        refine ⟨⟨k + 1, by omega, by go_num, fun j hj => ?_, HU.out⟩, by simp [intOf]; omega⟩
        by_cases hjk : j = k
        · subst hjk; rw [HG.out]; exact HST.out
        · exact HN.out j (by omega)
    · have hkn' : k = n := by omega
      subst hkn'
      go_wp2_with fail
      go_ret
      exact ⟨-1, rfl, .inr ⟨rfl, HN.out⟩, HU.out⟩
theorem next24_any (A : Option Addr) (n cap : Nat) (g : Nat → Pr) (w : World) (h : SrcP w A n g) :
    Calls Tryd.prog 24 #[.slice A n cap] w fun e w' => ∃ r : Int, e = .returned (.int .i64 r) ∧ NextR g n r ∧ Upd (fun _ => False) w w' := by
  have HS := hid h
  clear h
  go_enter Tryd.func24, Tryd.ntmps24
  go_wp2_with fail
  refine (find34_any A n cap g 1 _ HS.out).mono ?_
  rintro e w1 ⟨r, rfl, hr, hu⟩
  have HR := hid hr
  have HU := hid hu
  clear hr hu
  rcases Int.lt_or_le r 0 with h0 | h0
  · go_wp2_with fail
    refine (find34_any A n cap g 4 _ (HS.out.upd HU.out)).mono ?_
    rintro e w2 ⟨r2, rfl, hr2, hu2⟩
    have HR2 := hid hr2
    have HU2 := hid (HU.out.trans hu2)
    clear hr2 hu2
    go_wp2_with fail
    go_ret
    exact ⟨r2, rfl, ⟨r, HR.out, .inr ⟨h0, HR2.out⟩⟩, HU2.out⟩
  · go_wp2_with fail
    go_ret
    exact ⟨r, rfl, ⟨r, HR.out, .inl ⟨h0, rfl⟩⟩, HU.out⟩
theorem best26_any (A : Option Addr) (n cap : Nat) (g : Nat → Pr) (w : World) (h : SrcP w A n g) :
    Calls Tryd.prog 26 #[.slice A n cap] w fun e w' => ∃ r : Int, e = .returned (.int .i64 r) ∧ FindR g n 3 r ∧ Upd (fun _ => False) w w' := by
  have HS := hid h
  clear h
  go_enter Tryd.func26, Tryd.ntmps26
  go_wp2_with fail
  refine (find34_any A n cap g 3 _ HS.out).mono ?_
  rintro e w1 ⟨r, rfl, hr, hu⟩
  have HR := hid hr
  have HU := hid hu
  clear hr hu
  go_wp2_with fail
  go_ret
  exact ⟨r, rfl, HR.out, HU.out⟩
theorem neq_adr (a b c d : Int) (w : World) : Sem.run Tryd.prog (binOp .neq 39 (.agg #[.int .u32 a, .int .i64 b]) (.agg #[.int .u32 c, .int .i64 d])) w = .ok (.bool (!decide (a = c ∧ b = d))) w := by
  rw [run_neq_struct, show (10000 : Nat) = 9999 + 1 from rfl, run_equalIn_struct w 9999 39 _ _ (by kernel_rfl) (by kernel_rfl)]
  simp [go_sem]
  by_cases h1 : a = c
  · by_cases h2 : b = d <;> simp [h1, h2]
  · simp [h1]
theorem neq_ca_self (k a b c d p : Int) (w : World) : Sem.run Tryd.prog (binOp .neq 47 (.agg #[.int .i64 k, .int .u32 a, .int .i64 b, .int .u32 c, .int .i64 d, .int .u32 p]) (.agg #[.int .i64 k, .int .u32 a, .int .i64 b, .int .u32 c, .int .i64 d, .int .u32 p])) w = .ok (.bool false) w := by
  rw [run_neq_struct, show (10000 : Nat) = 9998 + 1 + 1 from rfl, run_equalIn_struct w _ 47 _ _ (by kernel_rfl) (by kernel_rfl)]
  simp [go_sem]
theorem neq_pr_self (a b c d p s : Int) (w : World) : Sem.run Tryd.prog (binOp .neq 42 (.agg #[.int .u32 a, .int .i64 b, .int .u32 c, .int .i64 d, .int .u64 p, .int .i64 s]) (.agg #[.int .u32 a, .int .i64 b, .int .u32 c, .int .i64 d, .int .u64 p, .int .i64 s])) w = .ok (.bool false) w := by
  rw [run_neq_struct, show (10000 : Nat) = 9998 + 1 + 1 from rfl, run_equalIn_struct w _ 42 _ _ (by kernel_rfl) (by kernel_rfl)]
  simp [go_sem]
set_option maxHeartbeats 2000000 in
theorem cands17_any (A B : Option Addr) (n ca cb : Nat) (f : Nat → Ca) (w : World) (hA : SrcC w A n f) (hB : SrcC w B n f) :
    Calls Tryd.prog 17 #[.slice A n ca, .slice B n cb] w fun e w' => e = .returned (.bool true) ∧ Upd (fun _ => False) w w' := by
  have HA := hid hA
  have HB := hid hB
  have hmax := hA.max
  clear hA hB
  go_enter Tryd.func17, Tryd.ntmps17
  go_wp2_with fail
  go_loopw [5] (fun i wr => ∃ k : Nat, k ≤ n ∧ i = .int .i64 k ∧ Upd (fun _ => False) w wr) (fun i _ => n - (intOf i).toNat)
  case atStart => exact ⟨0, Nat.zero_le _, rfl, Upd.refl _ _⟩
  case round =>
    obtain ⟨k, hk, rfl, hu⟩ := hrel
    have HU := hid hu
    clear hu
    by_cases hkn : k < n
    · obtain ⟨ba, oa, ha, c0, c1, c2, c3, c4, c5⟩ := (HA.out.upd HU.out).at6 k hkn
      obtain ⟨bb, ob, hb, d0, d1, d2, d3, d4, d5⟩ := (HB.out.upd HU.out).at6 k hkn
      obtain ⟨⟨ck, ⟨a1, a2⟩, ⟨b1, b2⟩, cp⟩, hfk⟩ : ∃ q, f k = q := ⟨_, rfl⟩
      rw [hfk] at c0 c1 c2 c3 c4 c5 d0 d1 d2 d3 d4 d5
      dsimp only at c0 c1 c2 c3 c4 c5 d0 d1 d2 d3 d4 d5
      subst ha hb
      have e1 := neq_ca_self ck a1 a2 b1 b2 cp
      clear hfk
      go_upto_region 6 with (fail)
      go_quiet (fail)
      go_wp2_with fail
      refine ⟨⟨k + 1, by omega, by go_num, HU.out.drewN _⟩, by simp [intOf]; omega⟩
    · go_wp2_with fail
      go_ret
      exact ⟨rfl, HU.out⟩
set_option maxHeartbeats 2000000 in
theorem pairs22_any (A B : Option Addr) (n ca cb : Nat) (f : Nat → Pr) (w : World) (hA : SrcP w A n f) (hB : SrcP w B n f) :
    Calls Tryd.prog 22 #[.slice A n ca, .slice B n cb] w fun e w' => e = .returned (.bool true) ∧ Upd (fun _ => False) w w' := by
  have HA := hid hA
  have HB := hid hB
  have hmax := hA.max
  clear hA hB
  go_enter Tryd.func22, Tryd.ntmps22
  go_wp2_with fail
  go_loopw [5] (fun i wr => ∃ k : Nat, k ≤ n ∧ i = .int .i64 k ∧ Upd (fun _ => False) w wr) (fun i _ => n - (intOf i).toNat)
  case atStart => exact ⟨0, Nat.zero_le _, rfl, Upd.refl _ _⟩
  case round =>
    obtain ⟨k, hk, rfl, hu⟩ := hrel
    have HU := hid hu
    clear hu
    by_cases hkn : k < n
    · obtain ⟨ba, ha, _, c0, c1, c2, c3, c4, c5⟩ := (HA.out.upd HU.out).at_ k hkn
      obtain ⟨bb, hb, _, d0, d1, d2, d3, d4, d5⟩ := (HB.out.upd HU.out).at_ k hkn
      obtain ⟨⟨⟨a1, a2⟩, ⟨b1, b2⟩, p, s⟩, hfk⟩ : ∃ q, f k = q := ⟨_, rfl⟩
      rw [hfk] at c0 c1 c2 c3 c4 c5 d0 d1 d2 d3 d4 d5
      dsimp only at c0 c1 c2 c3 c4 c5 d0 d1 d2 d3 d4 d5
      subst ha hb
      have e1 := neq_pr_self a1 a2 b1 b2 p s
      clear hfk
      go_upto_region 6 with (fail)
      go_quiet (fail)
      go_wp2_with fail
      refine ⟨⟨k + 1, by omega, by go_num, HU.out.drewN _⟩, by simp [intOf]; omega⟩
    · go_wp2_with fail
      go_ret
      exact ⟨rfl, HU.out⟩
end Go.Proofs.YtoadbogfbgediaaDoor
