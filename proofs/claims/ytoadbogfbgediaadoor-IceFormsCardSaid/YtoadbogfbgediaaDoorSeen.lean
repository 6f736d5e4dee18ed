/- What 'seen' tells of a thing that may have come before (no statement of the seat). -/
import Derived.Test.YtoadbogfbgediaaDoorOne
namespace Go.Proofs.YtoadbogfbgediaaDoor
open Go.RowKit
open Go.ChangeMaps (setBlock)

theorem stays_own (k : Ad × Ad) (w : World) : (Instr.keyThatStays (ownV k) (ownV k)).run Tryd.prog w = .ok (ownV k) w := by
  obtain ⟨⟨a1, a2⟩, ⟨b1, b2⟩⟩ := k
  have h : Instr.sameBits 10000 (ownV (⟨a1, a2⟩, ⟨b1, b2⟩)) (ownV (⟨a1, a2⟩, ⟨b1, b2⟩)) = true := by
    show Instr.sameBits (9999 + 1) _ _ = true
    simp [Instr.sameBits]
  unfold Instr.keyThatStays
  rw [h]
  simp [go_sem]
section
variable {es : List ((Ad × Ad) × MapEntry)} {clock : Nat} {w : World} {b : Nat} {t e : TypeId}
theorem run_mapEntry_old (ht : Tryd.prog.underlying t = some (.map 55 e)) (hb : w.heap[b]? = some (.map (arr es) clock)) (E : Ents ownV es clock) (k : Ad × Ad) (i : Nat) (hi : i < es.length) (hk : es[i].1 = k)
    (hf : es.findIdx? (fun x => decide (x.1 = k)) = some i) :
    (Instr.mapEntry t (.map (some b)) (ownV k)).run Tryd.prog w = .ok (.tuple #[es[i].2.val, .int .i64 es[i].2.born]) (setBlock w b (.map (arr es) clock)) := by
  have hg : (getObj b).run Tryd.prog w = .ok (.map (arr es) clock) w := by simp [getObj, Sem.run, hb]
  have hff := keyOwn.find k es w E.key
  rw [hf] at hff
  have hke : es[i].2.key = ownV k := by rw [E.key es[i] (List.getElem_mem hi), hk]
  simp only [Instr.mapEntry, Sem.run_bind, run_underlying ht, Result.andThen_ok, hg, Sem.run_pure, keyOwn.check]
  rw [hff]
  have hgi : (arr es)[i]? = some es[i].2 := by simp [arr, hi]
  simp only [Option.map_some, Result.andThen_ok, Sem.run_bind, hgi, Option.getD_some, hke, stays_own]
  have hm : (arr es).modify i (fun e => { e with key := ownV k }) = arr es := by
    unfold arr
    apply Array.ext
    · simp
    · intro j h1 h2
      rw [Array.getElem_modify]
      by_cases ej : i = j
      · subst ej
        have hq : ∀ m : MapEntry, m.key = ownV k → ({ m with key := ownV k } : MapEntry) = m := by rintro ⟨a, b, c⟩ rfl; rfl
        simp
        exact hq _ hke
      · simp [ej]
  rw [hm]
  have hv : ((es.map Prod.snd).getD i default).val = es[i].2.val := by simp [List.getD, hi]
  rw [hv]
  simp [go_sem, setObj, Sem.run, hb, setBlock, goInt]
theorem run_entryStore_old (k : Ad × Ad) (v : Value) (E : Ents ownV es clock) (i : Nat) (hi : i < es.length) (hk : es[i].1 = k) (hb : w.heap[b]? = some (.map (arr es) clock)) :
    (Instr.entryStore t (.map (some b)) (.int .i64 es[i].2.born) v).run Tryd.prog w = .ok () (setBlock w b (.map (arr (es.set i (k, (⟨es[i].2.key, v, es[i].2.born⟩ : MapEntry)))) clock)) := by
  have hg : (getObj b).run Tryd.prog w = .ok (.map (arr es) clock) w := by simp [getObj, Sem.run, hb]
  have hidx : (arr es).findIdx? (fun e => (e.born : Int) == (es[i].2.born : Int)) = some i := by
    unfold arr
    rw [List.findIdx?_toArray, List.findIdx?_eq_some_iff_getElem]
    refine ⟨by simpa using hi, by simp, fun j hj => ?_⟩
    have hjl : j < es.length := by omega
    have hne : es[j].2.born ≠ es[i].2.born := by
      have hn := List.pairwise_iff_getElem.1 E.born j i (by simpa using hjl) (by simpa using hi) hj
      simpa using hn
    simp; omega
  have hm : (arr es).modify i (fun e => (⟨e.key, v, e.born⟩ : MapEntry)) = arr (es.set i (k, (⟨es[i].2.key, v, es[i].2.born⟩ : MapEntry))) := by
    unfold arr
    apply Array.ext
    · simp
    · intro j h1 h2
      rw [Array.getElem_modify]
      by_cases ej : i = j
      · subst ej; simp
      · simp [ej, List.getElem_set]
  unfold Instr.entryStore
  simp only [Sem.run_bind, hg, Result.andThen_ok]
  have ha : (asInt (.int .i64 (es[i].2.born : Int))).run Tryd.prog w = .ok (es[i].2.born : Int) w := by simp [asInt, asIntOf, Sem.run, Result.andThen]
  rw [ha]
  simp only [Result.andThen_ok, hidx, hm]
  simp [setObj, Sem.run, hb, setBlock]
theorem Ents.set (E : Ents ownV es clock) (k : Ad × Ad) (v : Value) (i : Nat) (hi : i < es.length) (hk : es[i].1 = k) : Ents ownV (es.set i (k, (⟨es[i].2.key, v, es[i].2.born⟩ : MapEntry))) clock := by
  have hborn : (es.set i (k, (⟨es[i].2.key, v, es[i].2.born⟩ : MapEntry))).map (fun x => x.2.born) = es.map (fun x => x.2.born) := by
    apply List.ext_getElem
    · simp
    · intro j h1 h2
      simp only [List.getElem_map, List.getElem_set]
      by_cases ej : i = j
      · subst ej; simp
      · simp [ej]
  refine ⟨fun x hx => ?_, by rw [hborn]; exact E.born, fun x hx => ?_⟩
  · rcases List.mem_or_eq_of_mem_set hx with h | h
    · exact E.key x h
    · subst h
      have := E.key es[i] (List.getElem_mem hi)
      rw [hk] at this; exact this
  · rcases List.mem_or_eq_of_mem_set hx with h | h
    · exact E.lt x h
    · subst h
      exact E.lt es[i] (List.getElem_mem hi)
theorem set_keys (k : Ad × Ad) (v : MapEntry) (i : Nat) (hi : i < es.length) (hk : es[i].1 = k) : (es.set i (k, v)).map Prod.fst = es.map Prod.fst := by
  apply List.ext_getElem
  · simp
  · intro j h1 h2
    simp only [List.getElem_map, List.getElem_set]
    by_cases ej : i = j
    · subst ej; simp [hk]
    · simp [ej]
end
/-- What the map of the seen holds: the keys, in the order in which they came; each with how often. -/
def Seen (mb : Nat) (K : List (Ad × Ad)) (lim : Nat) (w : World) : Prop :=
  ∃ es clock, w.heap[mb]? = some (.map (arr es) clock) ∧ Ents ownV es clock ∧ es.map Prod.fst = K ∧ K.Nodup ∧ ∀ x, x ∈ es → ∃ n : Nat, x.2.val = .int .i64 n ∧ 1 ≤ n ∧ n ≤ lim
theorem Seen.nil {mb : Nat} {w : World} (h : w.heap[mb]? = some (.map (arr ([] : List ((Ad × Ad) × MapEntry))) 0)) : Seen mb [] 0 w := ⟨[], 0, h, Ents.nil _, rfl, List.nodup_nil, by simp⟩
theorem Seen.upd {mb lim : Nat} {K : List (Ad × Ad)} {w w' : World} {S : Nat → Prop} (h : Seen mb K lim w) (hu : Upd S w w') (hn : ¬ S mb) : Seen mb K lim w' := by
  obtain ⟨es, clock, h1, h2⟩ := h
  exact ⟨es, clock, hu.blk h1 hn, h2⟩
def seenNext (K : List (Ad × Ad)) (k : Ad × Ad) : List (Ad × Ad) := if k ∈ K then K else K ++ [k]
end Go.Proofs.YtoadbogfbgediaaDoor
