/- The small calls of a box: key, free, Len, Config, New, Right (no statement of the seat). -/
import Derived.Test.YtbcchdnbfblooaaRows2
namespace Go.Proofs.Ytbcchdnbfblooaa
open Go.RowKit
open Go.ChangeMaps (setBlock)

set_option maxHeartbeats 1000000 in
theorem key_any (g : Nat) (m : Int) (fr to : Ad) (w : World) (hc : w.cell? ⟨g, 1, none⟩ = some (.int .i64 m)) :
    Calls Try.prog 22 #[ptr g, fr.v, to.v] w fun e w' => e = .returned (ownV (fr, red m to)) ∧ Upd (fun _ => False) w w' := by
  obtain ⟨f1, f2⟩ := fr
  obtain ⟨t1, t2⟩ := to
  have hgl := World.block_lt_of_cell? _ _ hc
  have c1 : ∀ a b d, (((w.alloc a).alloc b).alloc d).cell? ⟨g, 1, none⟩ = some (.int .i64 m) := fun a b d => ((((Upd.refl (fun _ => False) w).alloc a).alloc b).alloc d).cell hc (fun h => h)
  clear hc
  by_cases h1 : m = 1
  · subst h1
    go_enter Try.func22, Try.ntmps22
    go_wp2_with fail
    exact bodyPost_ret (v := .agg #[.int .u32 f1, .int .i64 f2, .int .u32 0, .int .i64 0]) (by simp [results, Try.results22, go_sem]) rfl ⟨rfl, (((Upd.refl _ _).alloc _).alloc _).alloc _⟩
  have k1 : (m == 1) = false := beq_eq_false_iff_ne.2 h1
  by_cases h2 : m = 2
  · subst h2
    clear h1 k1
    go_enter Try.func22, Try.ntmps22
    go_wp2_with fail
    exact bodyPost_ret (v := .agg #[.int .u32 f1, .int .i64 f2, .int .u32 t1, .int .i64 0]) (by simp [results, Try.results22, go_sem]) rfl ⟨rfl, (((Upd.refl _ _).alloc _).alloc _).alloc _⟩
  have k2 : (m == 2) = false := beq_eq_false_iff_ne.2 h2
  have hr : red m ⟨t1, t2⟩ = ⟨t1, t2⟩ := by simp [red, h1, h2]
  rw [hr]
  clear h1 h2 hr
  go_enter Try.func22, Try.ntmps22
  go_wp2_with fail
  exact bodyPost_ret (v := .agg #[.int .u32 f1, .int .i64 f2, .int .u32 t1, .int .i64 t2]) (by simp [results, Try.results22, go_sem]) rfl ⟨rfl, (((Upd.refl _ _).alloc _).alloc _).alloc _⟩

section
variable {g mo mp co cp : Nat} {c : Cfg} {Z : List (Ent × Slot)} {EO : List ((Ad × Ad) × MapEntry)} {EP : List (Int × MapEntry)} {w : World}
theorem find_eo (h : BoxAt g mo mp co cp c Z EO EP w) (k : Ad × Ad) : ((EO.find? (fun x => decide (x.1 = k))).map (fun x => x.2.val)) = (Z.find? (fun z => decide (z.1.key c.map = k))).map (fun z => ptr z.2.blk) := by
  have e1 : (EO.find? (fun x => decide (x.1 = k))).map (fun x => (x.1, x.2.val)) = (EO.map (fun x => (x.1, x.2.val))).find? (fun y => decide (y.1 = k)) := by rw [List.find?_map]; rfl
  have e2 : (Z.find? (fun z => decide (z.1.key c.map = k))).map (fun z => (z.1.key c.map, ptr z.2.blk)) = (Z.map (fun z => (z.1.key c.map, ptr z.2.blk))).find? (fun y => decide (y.1 = k)) := by rw [List.find?_map]; rfl
  rw [h.zo, ← e2] at e1
  have := congrArg (Option.map Prod.snd) e1
  simpa [Option.map_map, Function.comp_def] using this
theorem find_ep (h : BoxAt g mo mp co cp c Z EO EP w) (k : Int) : ((EP.find? (fun x => decide (x.1 = k))).map (fun x => x.2.val)) = (Z.find? (fun z => decide (z.1.port = k))).map (fun z => ptr z.2.blk) := by
  have e1 : (EP.find? (fun x => decide (x.1 = k))).map (fun x => (x.1, x.2.val)) = (EP.map (fun x => (x.1, x.2.val))).find? (fun y => decide (y.1 = k)) := by rw [List.find?_map]; rfl
  have e2 : (Z.find? (fun z => decide (z.1.port = k))).map (fun z => (z.1.port, ptr z.2.blk)) = (Z.map (fun z => (z.1.port, ptr z.2.blk))).find? (fun y => decide (y.1 = k)) := by rw [List.find?_map]; rfl
  rw [h.zp, ← e2] at e1
  have := congrArg (Option.map Prod.snd) e1
  simpa [Option.map_map, Function.comp_def] using this
theorem zero62 (w : World) : (zeroValue 62).run Try.prog w = .ok (.pointer none) w := by kernel_rfl
theorem run_own (h : BoxAt g mo mp co cp c Z EO EP w) (k : Ad × Ad) :
    (Instr.lookup 54 (.map (some mo)) (ownV k) false).run Try.prog w = .ok (((Z.find? (fun z => decide (z.1.key c.map = k))).map (fun z => ptr z.2.blk)).getD (.pointer none)) w := by
  rw [← find_eo h]
  exact run_lookup_at keyOwn Try.underlying54 (zero62 w) h.bo h.eo k
theorem run_port (h : BoxAt g mo mp co cp c Z EO EP w) (k : Int) :
    (Instr.lookup 55 (.map (some mp)) (.int .i64 k) false).run Try.prog w = .ok (((Z.find? (fun z => decide (z.1.port = k))).map (fun z => ptr z.2.blk)).getD (.pointer none)) w := by
  rw [← find_ep h]
  exact run_lookup_at keyInt Try.underlying55 (zero62 w) h.bp h.ep k
theorem len_ep (h : BoxAt g mo mp co cp c Z EO EP w) : EP.length = Z.length := by
  have := congrArg List.length h.zp
  simpa using this
end

def FreeRel (w : World) (L : List Ent) (n : Value) (wr : World) : Prop :=
  ∃ k : Nat, 1024 ≤ k ∧ k ≤ freeP L ∧ n = .int .i64 k ∧ wr = w

set_option maxHeartbeats 2000000 in
theorem free_any (g : Nat) (c : Cfg) (L : List Ent) (F : Nat → Prop) (w : World) (h : BoxIs g c L F w) (G : Good c.map L) :
    Calls Try.prog 23 #[ptr g] w fun e w' => e = .returned (.int .i64 (freeP L)) ∧ w = w' := by
  obtain ⟨mo, mp, co, cp, Z, EO, EP, hb, rfl, hF, hlt⟩ := h
  have hfp := freeP_spec (Z.map Prod.fst)
  have hlen := G.len
  have c6 : w.cell? ⟨g, 6, none⟩ = some (.map (some mp)) := (blk_cell hb.box 6).trans rfl
  have HB := hid hb
  have HFP := hid hfp
  have hf1 : 1024 ≤ freeP (Z.map Prod.fst) := hfp.1.1
  have hf2 : freeP (Z.map Prod.fst) ≤ 1088 := by have := hfp.2; omega
  obtain ⟨N, hN⟩ : ∃ N, freeP (Z.map Prod.fst) = N := ⟨_, rfl⟩
  rw [hN] at HFP hf1 hf2 ⊢
  have HN := hid hN
  clear hb hfp hF hlt G hN hlen
  go_enter Try.func23, Try.ntmps23
  go_wp2_with fail
  go_loopw [3] (fun n wr => FreeRel w (Z.map Prod.fst) n wr) (fun n _ => 1088 - (intOf n).toNat)
  case atStart => exact ⟨1024, Nat.le_refl _, by rw [HN.out]; exact hf1, rfl, rfl⟩
  case round =>
    obtain ⟨k, hk0, hk1, rfl, rfl⟩ := hrel
    rw [HN.out] at hk1
    have hrun := run_port HB.out ((k : Nat) : Int)
    by_cases hkN : k = N
    · have hnone : Z.find? (fun z => decide (z.1.port = ((k : Nat) : Int))) = none := by
        rw [List.find?_eq_none]
        intro z hz e
        have e' : z.1.port = ((k : Nat) : Int) := by simpa using e
        refine HFP.out.1.2.1 ?_
        rw [← hkN, ← e']
        exact List.mem_map_of_mem (List.mem_map_of_mem hz)
      rw [hnone] at hrun
      have hrun' : (Instr.lookup 55 (.map (some mp)) (.int .i64 ((k : Nat) : Int)) false).run Try.prog wr = .ok (.pointer none) wr := hrun
      have HK := hid hkN
      clear hrun hnone hkN
      go_wp2_with fail
      go_ret
      exact ⟨by rw [← HK.out]; rfl, rfl⟩
    · have hin := HFP.out.1.2.2 k hk0 (by omega)
      unfold ports at hin
      rw [List.map_map] at hin
      obtain ⟨z, hz, e⟩ := List.mem_map.1 hin
      cases hfi : Z.find? (fun z => decide (z.1.port = ((k : Nat) : Int))) with
      | none =>
        rw [List.find?_eq_none] at hfi
        have := hfi z hz
        simp at this; exact absurd e this
      | some y =>
        rw [hfi] at hrun
        have hrun' : (Instr.lookup 55 (.map (some mp)) (.int .i64 ((k : Nat) : Int)) false).run Try.prog wr = .ok (.pointer (some ⟨y.2.blk, 0, none⟩)) wr := hrun
        clear hrun hfi hin e hz
        go_wp2_with fail
        refine ⟨⟨k + 1, by omega, by rw [HN.out]; omega, by go_num, rfl⟩, by simp [intOf]; omega⟩
end Go.Proofs.Ytbcchdnbfblooaa
