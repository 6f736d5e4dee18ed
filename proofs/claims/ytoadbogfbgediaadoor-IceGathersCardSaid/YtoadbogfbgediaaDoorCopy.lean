/- append([]Candidate{}, l...): a copy of a row (no statement of the seat). -/
import Derived.Test.YtoadbogfbgediaaDoorGather
import Derived.Deep.AppendSrc
import Derived.Deep.Upon
namespace Go.Proofs.YtoadbogfbgediaaDoor
open Go.RowKit
section
variable {ops : Array Oper} {rest : List Oper} {o : Oper} {a : Act} {Q : Exit → Act → World → Prop} {W : World}
theorem app_copy (hgd : o.guard = none) (s x : Operand) (ho : o.op = .call { callee := .builtin .append, args := #[s, x], argTypes := #[28, 28] })
    (A : Option Addr) (k ca : Nat) (f : Nat → Ca) (hs : a.eval s = .slice (some ⟨W.heap.size, 0, none⟩) 0 0) (hx : a.eval x = .slice A k ca) (hk : k ≤ 1000) (hA : SrcC W A k f)
    (h : ∀ g cap w', BlkC w' g k f → Upd (fun _ => False) W w' → W.heap.size ≤ g →
      wpList Tryd.prog ops Q rest (a.put o.dst (.slice (some ⟨g, 0, none⟩) k cap)) w') :
    wpList Tryd.prog ops Q (o :: rest) a (W.alloc (.cells #[] 47)) := by
  obtain ⟨i0, hi, hz0, hz1, hz2⟩ := info_parts' Tryd.info47
  have hu0 : Upd (fun _ => False) W (W.alloc (.cells #[] 47)) := (Upd.refl _ W).alloc _
  have hb0 := heap_alloc_new W (.cells #[] 47)
  by_cases hk0 : k = 0
  · subst hk0
    have hsrc : Src Tryd.prog i0.size 28 (.slice A 0 ca) 0 [] (W.alloc (.cells #[] 47)) := by
      cases A with
      | none => exact Src.ofNil _ Tryd.underlying28 ca
      | some ad => exact Src.ofSlice _ Tryd.underlying28 ad 0 ca [] (by simp) (fun j u hu => by simp at hu) (fun u hu => by cases hu)
    have hr := run_append_nothing (W.alloc (.cells #[] 47)) 28 28 o.type 47 i0 Tryd.underlying28 hi (some ⟨W.heap.size, 0, none⟩) 0 0 (Nat.le_refl _) (.slice A 0 ca) hsrc
    refine wpList_plain hgd fun _ hK => ?_
    unfold Oper.wp execOp
    simp only [ho, resolve, invoke, builtin, Sem.run_bind, Sem.run_pure, Result.andThen_ok, List.map_toArray, List.map_cons, List.map_nil, hs, hx, hr]
    exact hK _ _ (h W.heap.size 0 _ ⟨#[], hb0, by simp, fun i hi => by omega⟩ hu0 (Nat.le_refl _))
  · obtain ⟨b, off, rfl, hbl, _⟩ := hA.at_ 0 (by omega)
    have hc : ∀ i, i < k → ∀ j, j < 6 → W.cell? ⟨b, off + i * 6 + j, none⟩ = (caCells (f i))[j]? := fun i hi j hj => by
      obtain ⟨b', off', e, _, hc⟩ := hA.at_ i hi
      simp only [Option.some.injEq, Addr.mk.injEq, and_true] at e
      obtain ⟨rfl, rfl⟩ := e
      exact hc j hj
    have hlen : ((List.range k).map f).length = k := by simp
    have hcl : (caL ((List.range k).map f)).length = k * 6 := by
      have : ∀ l : List Ca, (caL l).length = l.length * 6 := fun l => by
        induction l with
        | nil => rfl
        | cons c r ih =>
          have e1 : (caL (c :: r)).length = 6 + (caL r).length := by rw [caL, List.flatMap_cons, List.length_append]; rfl
          have e2 : (c :: r).length = r.length + 1 := rfl
          rw [e1, ih, e2]; omega
      rw [this, hlen]
    refine wpList_append_lies _ hgd s x 28 ho 0 47 i0 _ 6 48 Tryd.underlying28 hi hz0 hz1 hz2 rfl (by decide) (.slice (some ⟨W.heap.size, 0, none⟩) 0 0) 0 [] hs
      ⟨rfl, .inr ⟨W.heap.size, 0, #[], rfl, Nat.zero_le _, hb0, Nat.le_refl _, by decide, rfl, rfl⟩⟩
      ⟨b, off, none⟩ k ca (caL ((List.range k).map f)) hx hcl ?_ ?_ (by omega) ?_ ?_ (Nat.zero_le _) _ rfl ?_
    · intro q u hq
      have hql : q < k * 6 := by rw [← hcl]; exact (List.getElem?_eq_some_iff.1 hq).1
      have hqe : q = q / 6 * 6 + q % 6 := by omega
      have hid : q / 6 < ((List.range k).map f).length := by rw [hlen]; omega
      rw [hqe, caL, flat6 _ (fun _ => rfl) ((List.range k).map f) (q / 6) (q % 6) hid (by omega)] at hq
      have e2 : ((List.range k).map f)[q / 6] = f (q / 6) := by simp
      rw [e2] at hq
      have h3 := hc (q / 6) (by omega) (q % 6) (by omega)
      have e4 : (Addr.add ⟨b, off, none⟩ q) = ⟨b, off + q / 6 * 6 + q % 6, none⟩ := by
        have e5 : off + q / 6 * 6 + q % 6 = off + q := by omega
        rw [e5]
        unfold Addr.add
        split
        · rename_i hz; subst hz; rfl
        · rfl
      rw [e4]
      refine hu0.cell ?_ (fun h => h)
      rw [h3, ← hq]; simp
    · intro u hu
      rw [caL, List.mem_flatMap] at hu
      obtain ⟨c, _, hc⟩ := hu
      simp at hc
      rcases hc with rfl | rfl | rfl | rfl | rfl | rfl <;> rfl
    · unfold maxLen; omega
    · omega
    · intro g cap w' h1 h2 h3 h4
      rw [Nat.zero_add] at h1 ⊢
      rw [List.nil_append] at h1
      have hge : W.heap.size ≤ g := by
        rcases h3 with h3 | h3
        · simp [Value.ownBlock] at h3; omega
        · rw [h3]; simp
      have hO : OwnC ((List.range k).map f) 0 (.slice (some ⟨g, 0, none⟩) ((List.range k).map f).length cap) w' := by
        rw [hlen]
        refine ⟨by rw [hlen]; exact h1, fun q _ => Nat.zero_le _, .inr ⟨g, cap, by rw [hlen], by rw [hlen]; exact row_cap h1⟩⟩
      have hB := hO.blk
      rw [hlen] at hB
      refine h g cap w' (hB.congr fun i hi => by simp [List.getD, hi]) ?_ hge
      refine (Upd.refl (fun _ => False) W).then_ (((Upd.refl (fun k => (Value.slice (some ⟨W.heap.size, 0, none⟩) 0 0).ownBlock = some k) W).alloc _).grown h2 (fun k hk _ => hk)) (fun q hq hlt => ?_)
      have := ownBlock_slice hlt
      omega
end
end Go.Proofs.YtoadbogfbgediaaDoor
