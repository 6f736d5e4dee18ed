/- Maps of a box, entry by entry (no statement of the seat). -/
import Derived.Test.YtbcchdnbfblooaaSmall
import Derived.Maps.Own
namespace Go.Proofs.Ytbcchdnbfblooaa
open Go.RowKit
open Go.ChangeMaps (setBlock)

abbrev ownV (k : Ad × Ad) : Value := .agg #[.int .u32 k.1.h, .int .i64 k.1.p, .int .u32 k.2.h, .int .i64 k.2.p]

theorem eq_own (k l : Ad × Ad) (w : World) : (Op.equal 60 (ownV k) (ownV l)).run Try.prog w = .ok (decide (k = l)) w := by
  obtain ⟨⟨a1, a2⟩, b1, b2⟩ := k
  obtain ⟨⟨c1, c2⟩, d1, d2⟩ := l
  unfold Op.equal
  rw [show Op.maxDepth = 9999 + 1 from rfl, run_equalIn_struct w 9999 60 _ _ (by kernel_rfl) (by kernel_rfl)]
  simp [go_sem]
  by_cases h1 : a1 = c1
  · by_cases h2 : a2 = c2
    · by_cases h3 : b1 = d1
      · by_cases h4 : b2 = d2 <;> simp [h1, h2, h3, h4]
      · simp [h1, h2, h3]
    · simp [h1, h2]
  · simp [h1]

/-- The type of a key, and how a key lies. -/
structure KeyT (kt : TypeId) (α : Type) [DecidableEq α] (V : α → Value) : Prop where
  find : ∀ (k : α) (es : List (α × MapEntry)) (w : World), (∀ x, x ∈ es → x.2.key = V x.1) →
    (Instr.findKey kt (V k) (es.map Prod.snd)).run Try.prog w = .ok ((es.findIdx? (fun x => decide (x.1 = k))).map (fun i => (i, ((es.map Prod.snd).getD i default).val))) w
  check : ∀ (k : α) (em : Bool) (w : World), (Instr.checkKey em 10000 kt (V k)).run Try.prog w = .ok () w

theorem find_own : ∀ (k : Ad × Ad) (es : List ((Ad × Ad) × MapEntry)) (i : Nat) (w : World), (∀ x, x ∈ es → x.2.key = ownV x.1) →
    (Instr.findAsking 60 (ownV k) (es.map Prod.snd) i).run Try.prog w = .ok ((es.findIdx? (fun x => decide (x.1 = k))).map (fun j => (i + j, ((es.map Prod.snd).getD j default).val))) w := by
  intro k es
  induction es with
  | nil => intro i w _; simp [Instr.findAsking]
  | cons x es ih =>
    intro i w h
    have hx := h x (by simp)
    simp only [List.map_cons, Instr.findAsking, Sem.run_bind, hx, eq_own, Result.andThen_ok, Sem.run_ite, decide_eq_true_eq]
    by_cases e : k = x.1
    · rw [if_pos e]
      simp [List.findIdx?_cons, e]
    · rw [if_neg e, ih (i + 1) w (fun y hy => h y (List.mem_cons_of_mem _ hy))]
      have e' : ¬ (x.1 = k) := fun h => e h.symm
      simp only [List.findIdx?_cons, e', decide_false, Bool.false_eq_true, if_false, Option.map_map]
      congr 2
      funext j
      simp only [Function.comp_apply, List.getD_cons_succ, Prod.mk.injEq, and_true]
      omega
theorem keyOwn : KeyT 60 (Ad × Ad) ownV where
  check k em w := by
    obtain ⟨⟨a1, a2⟩, b1, b2⟩ := k
    kernel_rfl
  find k es w h := by
    cases es with
    | nil =>
      have : Instr.findNow (TypeDesc.struct #[]) (ownV k) [] 0 = some none := rfl
      simp [Instr.findKey, run_underlying Try.underlying60, Instr.findNow, go_sem]
    | cons x es =>
      have hf := find_own k (x :: es) 0 w h
      have hx := h x (by simp)
      simp only [Nat.zero_add] at hf
      rw [← hf]
      simp only [Instr.findKey, Sem.run_bind, run_underlying Try.underlying60, Result.andThen_ok, List.map_cons, Instr.findNow, Instr.sameNow]

theorem keyInt : KeyT 3 Int (fun n => .int .i64 n) where
  check k em w := by kernel_rfl
  find k es w h := by
    have key : ∀ (es : List (Int × MapEntry)) (i : Nat), (∀ x, x ∈ es → x.2.key = .int .i64 x.1) →
        Instr.findNow (.int .i64) (.int .i64 k) (es.map Prod.snd) i = some ((es.findIdx? (fun x => decide (x.1 = k))).map (fun j => (i + j, ((es.map Prod.snd).getD j default).val))) := by
      intro es
      induction es with
      | nil => intro i _; simp [Instr.findNow]
      | cons x es ih =>
        intro i h
        have hx := h x (by simp)
        simp only [List.map_cons, Instr.findNow, hx, Instr.sameNow, if_true]
        by_cases e : k = x.1
        · have : (k == x.1) = true := by simp [e]
          rw [this]
          simp [List.findIdx?_cons, e]
        · have : (k == x.1) = false := by simp [e]
          have e' : ¬ (x.1 = k) := fun h => e h.symm
          rw [this]
          simp only [List.findIdx?_cons, e', decide_false, Bool.false_eq_true, if_false, Option.map_map]
          rw [ih (i + 1) (fun y hy => h y (List.mem_cons_of_mem _ hy))]
          congr 2
          funext j
          simp only [Function.comp_apply, List.getD_cons_succ, Prod.mk.injEq, and_true]
          omega
    have := key es 0 h
    simp only [Nat.zero_add] at this
    simp [Instr.findKey, run_underlying Try.underlying3, this, go_sem]

/-- The entries of a map, with what their keys are. -/
structure Ents {α : Type} (V : α → Value) (es : List (α × MapEntry)) (clock : Nat) : Prop where
  key : ∀ x, x ∈ es → x.2.key = V x.1
  born : (es.map (fun x => x.2.born)).Nodup
  lt : ∀ x, x ∈ es → x.2.born < clock
abbrev arr {α : Type} (es : List (α × MapEntry)) : Array MapEntry := (es.map Prod.snd).toArray
theorem Ents.nil {α : Type} (V : α → Value) : Ents V [] 0 := ⟨by simp, by simp, by simp⟩

section
variable {kt : TypeId} {α : Type} {V : α → Value} {es : List (α × MapEntry)} {clock : Nat} {w : World} {b : Nat} {t e : TypeId} {z : Value}

theorem run_lookup_at [DecidableEq α] (K : KeyT kt α V) (ht : Try.prog.underlying t = some (.map kt e)) (hz : (zeroValue e).run Try.prog w = .ok z w)
    (hb : w.heap[b]? = some (.map (arr es) clock)) (E : Ents V es clock) (k : α) :
    (Instr.lookup t (.map (some b)) (V k) false).run Try.prog w = .ok (((es.find? (fun x => decide (x.1 = k))).map (fun x => x.2.val)).getD z) w := by
  have hg : (getObj b).run Try.prog w = .ok (.map (arr es) clock) w := by simp [getObj, Sem.run, hb]
  have hf := K.find k es w E.key
  simp only [Instr.lookup, Sem.run_bind, run_underlying ht, Result.andThen_ok, hg, Sem.run_pure, K.check]
  rw [hf]
  cases hfi : es.findIdx? (fun x => decide (x.1 = k)) with
  | none =>
    have : es.find? (fun x => decide (x.1 = k)) = none := by
      rw [List.findIdx?_eq_none_iff] at hfi
      rw [List.find?_eq_none]
      intro x hx; have := hfi x hx; simpa using this
    rw [this]
    simp [hz, go_sem]
  | some i =>
    obtain ⟨hi, hp⟩ := List.findIdx?_eq_some_iff_getElem.1 hfi
    have : es.find? (fun x => decide (x.1 = k)) = some es[i] := by
      rw [List.find?_eq_some_iff_getElem]
      exact ⟨by simpa using hp.1, i, hi, rfl, fun j hj => by simpa using hp.2 j hj⟩
    rw [this]
    simp [List.getElem?_eq_getElem hi, go_sem]

theorem run_mapEntry_new [DecidableEq α] (K : KeyT kt α V) (ht : Try.prog.underlying t = some (.map kt e)) (hz : (zeroValue e).run Try.prog w = .ok z w)
    (hb : w.heap[b]? = some (.map (arr es) clock)) (E : Ents V es clock) (k : α) (hk : ∀ x, x ∈ es → x.1 ≠ k) :
    (Instr.mapEntry t (.map (some b)) (V k)).run Try.prog w = .ok (.tuple #[z, .int .i64 clock]) (setBlock w b (.map (arr (es ++ [(k, ⟨V k, z, clock⟩)])) (clock + 1))) := by
  have hg : (getObj b).run Try.prog w = .ok (.map (arr es) clock) w := by simp [getObj, Sem.run, hb]
  have hf := K.find k es w E.key
  have hn : es.findIdx? (fun x => decide (x.1 = k)) = none := by
    rw [List.findIdx?_eq_none_iff]; intro x hx; simpa using hk x hx
  rw [hn] at hf
  simp only [Instr.mapEntry, Sem.run_bind, run_underlying ht, Result.andThen_ok, hg, Sem.run_pure, K.check]
  rw [hf]
  simp [hz, go_sem, setObj, Sem.run, hb, setBlock, arr, goInt]

theorem Ents.snoc (E : Ents V es clock) (k : α) (v : Value) : Ents V (es ++ [(k, ⟨V k, v, clock⟩)]) (clock + 1) := by
  refine ⟨fun x hx => ?_, ?_, fun x hx => ?_⟩
  · rcases List.mem_append.1 hx with hx | hx
    · exact E.key x hx
    · simp at hx; subst hx; rfl
  · rw [List.map_append, List.nodup_append]
    refine ⟨E.born, by simp, fun a ha c hc => ?_⟩
    obtain ⟨x, hx, rfl⟩ := List.mem_map.1 ha
    simp at hc; subst hc
    exact Nat.ne_of_lt (E.lt x hx)
  · rcases List.mem_append.1 hx with hx | hx
    · exact Nat.lt_succ_of_lt (E.lt x hx)
    · simp at hx; subst hx; exact Nat.lt_succ_self _

theorem run_entryStore_new (k : α) (v : Value) (E : Ents V es clock) (hb : w.heap[b]? = some (.map (arr (es ++ [(k, ⟨V k, z, clock⟩)])) (clock + 1))) :
    (Instr.entryStore t (.map (some b)) (.int .i64 clock) v).run Try.prog w = .ok () (setBlock w b (.map (arr (es ++ [(k, ⟨V k, v, clock⟩)])) (clock + 1))) := by
  have hg : (getObj b).run Try.prog w = .ok (.map (arr (es ++ [(k, ⟨V k, z, clock⟩)])) (clock + 1)) w := by simp [getObj, Sem.run, hb]
  have hi : (arr (es ++ [(k, (⟨V k, z, clock⟩ : MapEntry))])).findIdx? (fun e => (e.born : Int) == (clock : Int)) = some es.length := by
    unfold arr
    rw [List.findIdx?_toArray, List.map_append, List.findIdx?_append]
    have h0 : (es.map Prod.snd).findIdx? (fun e => (e.born : Int) == (clock : Int)) = none := by
      rw [List.findIdx?_eq_none_iff]
      intro x hx
      obtain ⟨y, hy, rfl⟩ := List.mem_map.1 hx
      have := E.lt y hy
      simp only [beq_eq_false_iff_ne, ne_eq]
      omega
    rw [h0]
    simp
  have hm : (arr (es ++ [(k, (⟨V k, z, clock⟩ : MapEntry))])).modify es.length (fun e => { e with val := v }) = arr (es ++ [(k, ⟨V k, v, clock⟩)]) := by
    unfold arr
    apply Array.ext
    · simp
    · intro i h1 h2
      rw [Array.getElem_modify]
      by_cases e : es.length = i
      · subst e; simp
      · have h3 : i < es.length := by simp at h2; omega
        simp [e, List.getElem_append_left, h3]
  unfold Instr.entryStore
  simp only [Sem.run_bind, hg, Result.andThen_ok]
  have ha : (asInt (.int .i64 (clock : Int))).run Try.prog w = .ok (clock : Int) w := by simp [asInt, asIntOf, Sem.run, Result.andThen]
  rw [ha]
  simp only [Result.andThen_ok, hi, hm]
  simp [setObj, Sem.run, hb, setBlock]

theorem Ents.filter (E : Ents V es clock) (p : α × MapEntry → Bool) : Ents V (es.filter p) clock :=
  ⟨fun x hx => E.key x (List.mem_filter.1 hx).1, E.born.sublist (List.filter_sublist.map _), fun x hx => E.lt x (List.mem_filter.1 hx).1⟩

theorem erase_filter [DecidableEq α] (k : α) : ∀ (es : List (α × MapEntry)), (es.map Prod.fst).Nodup → ∀ i, es.findIdx? (fun x => decide (x.1 = k)) = some i →
    es.eraseIdx i = es.filter (fun x => decide (x.1 ≠ k)) := by
  intro es
  induction es with
  | nil => intro _ i h; simp at h
  | cons x es ih =>
    intro hn i h
    rw [List.map_cons, List.nodup_cons] at hn
    rw [List.findIdx?_cons] at h
    by_cases e : x.1 = k
    · simp [e] at h
      subst h
      rw [List.eraseIdx_cons_zero, List.filter_cons, if_neg (by simp [e])]
      symm
      rw [List.filter_eq_self]
      intro y hy
      have : y.1 ≠ k := fun e' => hn.1 (by rw [e, ← e']; exact List.mem_map_of_mem hy)
      simpa using this
    · simp [e] at h
      obtain ⟨j, hj, rfl⟩ := h
      rw [List.eraseIdx_cons_succ, List.filter_cons, if_pos (by simp [e]), ih hn.2 j hj]

theorem run_delete_at [DecidableEq α] (K : KeyT kt α V) (ht : Try.prog.underlying t = some (.map kt e)) (ty : TypeId)
    (hb : w.heap[b]? = some (.map (arr es) clock)) (E : Ents V es clock) (hn : (es.map Prod.fst).Nodup) (k : α) :
    (Builtin.delete_ #[t, kt] ty #[.map (some b), V k]).run Try.prog w = .ok (.tuple #[]) (setBlock w b (.map (arr (es.filter (fun x => decide (x.1 ≠ k)))) clock)) := by
  have hg : (getObj b).run Try.prog w = .ok (.map (arr es) clock) w := by simp [getObj, Sem.run, hb]
  have hf := K.find k es w E.key
  unfold Builtin.delete_
  simp only [List.getElem?_toArray, List.getElem?_cons_zero, List.getElem?_cons_succ, Sem.run_bind, run_underlying ht, Result.andThen_ok, hg, K.check]
  rw [hf]
  cases hfi : es.findIdx? (fun x => decide (x.1 = k)) with
  | none =>
    have : es.filter (fun x => decide (x.1 ≠ k)) = es := by
      rw [List.filter_eq_self]
      rw [List.findIdx?_eq_none_iff] at hfi
      intro x hx; have := hfi x hx; simpa using this
    rw [this]
    simp [setObj, Sem.run, hb, setBlock, Result.andThen]
  | some i =>
    rw [← erase_filter k es hn i hfi]
    have he : (arr es).eraseIdxIfInBounds i = arr (es.eraseIdx i) := by
      unfold arr
      apply Array.ext'
      have hi : i < es.length := by
        obtain ⟨h, _⟩ := List.findIdx?_eq_some_iff_getElem.1 hfi
        exact h
      simp [Array.eraseIdxIfInBounds, hi, Go.ChangeMaps.map_eraseIdx]
    simp [setObj, Sem.run, hb, setBlock, Result.andThen, he]

theorem run_range_at (ht : Try.prog.underlying t = some (.map kt e)) (hb : w.heap[b]? = some (.map (arr es) clock)) :
    (Instr.range t (.map (some b))).run Try.prog w = .ok (.pointer (some ⟨w.heap.size, 0, none⟩)) (w.alloc (.mapIter (some b) clock #[] clock)) := by
  have hg : (getObj b).run Try.prog w = .ok (.map (arr es) clock) w := by simp [getObj, Sem.run, hb]
  simp only [Instr.range, Sem.run_bind, run_underlying ht, Result.andThen_ok, hg]
  simp [newObj, Sem.run, Result.andThen]

theorem find_born : ∀ (es : List (α × MapEntry)), (es.map (fun x => x.2.born)).Nodup → ∀ x, x ∈ es → (es.map Prod.snd).find? (fun e => e.born == x.2.born) = some x.2 := by
  intro es
  induction es with
  | nil => intro _ x hx; cases hx
  | cons y es ih =>
    intro hn x hx
    rw [List.map_cons, List.nodup_cons] at hn
    rw [List.map_cons, List.find?_cons]
    rcases List.mem_cons.1 hx with rfl | hx
    · simp
    · have : (y.2.born == x.2.born) = false := by
        rw [beq_eq_false_iff_ne]
        intro e'
        exact hn.1 (e' ▸ List.mem_map_of_mem (f := fun x : α × MapEntry => x.2.born) hx)
      rw [this]
      exact ih hn.2 x hx
theorem run_entry_at {i since : Nat} {seen : Array Nat} (x : α × MapEntry) (hi : w.heap[i]? = some (.mapIter (some b) since (seen.push x.2.born) clock))
    (hb : w.heap[b]? = some (.map (arr es) clock)) (E : Ents V es clock) (hx : x ∈ es) :
    (Instr.entry (.pointer (some ⟨i, 0, none⟩))).run Try.prog w = .ok (.tuple #[V x.1, x.2.val]) w := by
  have hg : (getObj b).run Try.prog w = .ok (.map (arr es) clock) w := by simp [getObj, Sem.run, hb]
  have hg2 : (getObj i).run Try.prog w = .ok (.mapIter (some b) since (seen.push x.2.born) clock) w := by simp [getObj, Sem.run, hi]
  have hf : (arr es).find? (fun e => e.born == x.2.born) = some x.2 := by
    unfold arr
    rw [List.find?_toArray]
    exact find_born es E.born x hx
  simp only [Instr.entry, Sem.run_bind, Result.andThen_ok, hg, hg2]
  simp [Result.andThen, hg, hf, E.key x hx]

/-- What is left to be told. -/
def leftOf (es : List (α × MapEntry)) (seen : Array Nat) : List (α × MapEntry) := es.filter (fun x => !seen.contains x.2.born)

theorem run_choose_next (n : Nat) (hn : 0 < n) (w : World) : ∃ r k, r < n ∧ (choose (.mapNext n)).run Try.prog w = .ok r (w.drewN k) := by
  by_cases h : n ≤ 1
  · exact ⟨0, 0, hn, by simp [choose, Sem.run, Question.forced, h, World.drewN]⟩
  · exact ⟨w.tape w.drawn (.mapNext n) % n, 1, Nat.mod_lt _ hn, by simp [choose, Sem.run, Question.forced, h, Question.cut]; rfl⟩

theorem run_next_at {i : Nat} {seen : Array Nat} (hi : w.heap[i]? = some (.mapIter (some b) clock seen clock))
    (hb : w.heap[b]? = some (.map (arr es) clock)) (E : Ents V es clock) (ty : TypeId) :
    (leftOf es seen = [] ∧ ∃ n, (Instr.next (.pointer (some ⟨i, 0, none⟩)) false ty).run Try.prog w = .ok (.tuple #[.bool false]) (w.drewN n)) ∨
    (∃ x n, x ∈ leftOf es seen ∧ (Instr.next (.pointer (some ⟨i, 0, none⟩)) false ty).run Try.prog w =
      .ok (.tuple #[.bool true, V x.1, x.2.val]) ((setBlock w i (.mapIter (some b) clock (seen.push x.2.born) clock)).drewN n)) := by
  have hg : ∀ n, (getObj b).run Try.prog (w.drewN n) = .ok (.map (arr es) clock) (w.drewN n) := by intro n; simp [getObj, Sem.run, hb, World.drewN]
  have hg0 : (getObj b).run Try.prog w = .ok (.map (arr es) clock) w := hg 0
  have hg2 : (getObj i).run Try.prog w = .ok (.mapIter (some b) clock seen clock) w := by simp [getObj, Sem.run, hi]
  have hall : (!seen.isEmpty && !(arr es).isEmpty && (arr es).all (fun e => decide (e.born ≥ clock))) = false := by
    cases es with
    | nil => simp [arr]
    | cons x es =>
      have := E.lt x (by simp)
      have : decide (x.2.born ≥ clock) = false := decide_eq_false (by omega)
      simp [arr, this]
  have hold : ((arr es).filter (fun e => !seen.contains e.born)).filter (fun e => decide (e.born < clock)) = arr (leftOf es seen) := by
    unfold arr leftOf
    rw [List.filter_toArray, List.filter_toArray, List.filter_filter, List.filter_map]
    congr 2
    apply List.filter_congr
    intro x hx
    simp [E.lt x hx]
  have hnew : ((arr es).filter (fun e => !seen.contains e.born)).filter (fun e => decide (e.born ≥ clock)) = #[] := by
    unfold arr
    rw [List.filter_toArray, List.filter_toArray, List.filter_filter]
    have : (es.map Prod.snd).filter (fun a => decide (a.born ≥ clock) && !seen.contains a.born) = [] := by
      rw [List.filter_eq_nil_iff]
      intro a ha
      obtain ⟨x, hx, rfl⟩ := List.mem_map.1 ha
      have := E.lt x hx
      simp; omega
    rw [this]
  simp only [Instr.next, Sem.run_bind, Result.andThen_ok, hg2, hg0]
  rw [hall]
  simp only [Bool.false_eq_true, if_false]
  rw [hold, hnew]
  cases hl : leftOf es seen with
  | nil =>
    left
    refine ⟨rfl, ?_⟩
    simp only [arr, List.map_nil]
    obtain ⟨r, k, hr, hc⟩ := run_choose_next 1 (by decide) w
    obtain rfl : r = 0 := by omega
    refine ⟨k, ?_⟩
    rw [Sem.run_bind]
    have e : ((if (#[] : Array MapEntry).isEmpty = true then #[none] else #[]) ++ Array.map some ((#[] : Array MapEntry) ++ #[])) = #[(none : Option MapEntry)] := by simp
    rw [e]
    simp only [List.size_toArray, List.length_cons, List.length_nil, Nat.zero_add, hc, Result.andThen_ok]
    simp
  | cons y l =>
    right
    have e : ((if (arr (y :: l)).isEmpty = true then #[none] else #[]) ++ Array.map some (arr (y :: l) ++ #[])) = ((y :: l).map (fun x => some x.2)).toArray := by
      simp [arr]
    rw [e]
    obtain ⟨r, k, hr, hc⟩ := run_choose_next ((y :: l).map (fun x => some x.2)).toArray.size (by simp) w
    have hr' : r < (y :: l).length := by simpa using hr
    have hmem : (y :: l)[r] ∈ leftOf es seen := by rw [hl]; exact List.getElem_mem _
    refine ⟨(y :: l)[r], k, List.getElem_mem _, ?_⟩
    have hes : (y :: l)[r] ∈ es := (List.mem_filter.1 hmem).1
    rw [Sem.run_bind, hc]
    simp only [Result.andThen_ok]
    have hget : ((y :: l).map (fun x => some x.2)).toArray[r]? = some (some (y :: l)[r].2) := by
      rw [List.getElem?_toArray, List.getElem?_map, List.getElem?_eq_getElem hr']; rfl
    rw [hget]
    simp only [Sem.run_bind]
    have hset : (setObj i (.mapIter (some b) clock (seen.push (y :: l)[r].2.born) clock)).run Try.prog (w.drewN k) =
        .ok () ((setBlock w i (.mapIter (some b) clock (seen.push (y :: l)[r].2.born) clock)).drewN k) := by
      simp [setObj, Sem.run, World.drewN, hi, setBlock]
    rw [hset]
    simp [Result.andThen, E.key _ hes]
end
end Go.Proofs.Ytbcchdnbfblooaa
