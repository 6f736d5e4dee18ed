/- Gather of any row, in plain words; Gather of its answer (no statement of the seat). -/
import Derived.Test.YtoadbogfbgediaaDoorFactsC
import Derived.Test.YtoadbogfbgediaaDoorOrder
namespace Go.Proofs.YtoadbogfbgediaaDoor
open Go.RowKit

theorem BlkC.src {w : World} {b n : Nat} {g : Nat → Ca} (h : BlkC w b n g) (hn : n ≤ 1000) (ok : ∀ i, i < n → InR (g i).k ∧ InU (g i).p) : SrcC w (some ⟨b, 0, none⟩) n g :=
  ⟨by omega, fun i hi => ⟨b, 0, rfl, h.lt, fun j hj => by rw [Nat.zero_add]; exact h.cell i j hi hj⟩, ok⟩
theorem placed_ok (c : Ca) (i : Nat) (h : InR c.k) : InR (placed c i).k ∧ InU (placed c i).p := ⟨h, prio_in c.k _⟩
theorem gather18_facts (bm : Nat) (es : Array MapEntry) (clock : Nat) (A : Option Addr) (n cap : Nat) (f : Nat → Ca) (w : World) (hK : Kin bm es clock w) (hA : SrcC w A n f) (hn : n ≤ 1000) :
    Calls Tryd.prog 18 #[.slice A n cap] w fun e w' => ∃ (R : Option Addr) (m cp : Nat) (hh : Nat → Ca), e = .returned (.slice R m cp) ∧ SrcC w' R m hh ∧ GathF f n m hh ∧ Upd (fun _ => False) w w' := by
  refine (gather18_any bm es clock A n cap f w hK hA hn).mono ?_
  rintro e w' (⟨_, rfl, hu⟩ | ⟨b, cp, w1, _, hF, hu⟩)
  · exact ⟨none, 0, 0, fun _ => default, rfl, ⟨by omega, fun i hi => by omega, fun i hi => by omega⟩, ⟨by omega, fun x hx => by omega, fun x y _ hy => by omega, fun x y _ hy => by omega⟩, hu⟩
  · obtain ⟨m, hh, rfl, hB, hG, _⟩ := gath_facts hF
    have h8 := hG.most_
    refine ⟨_, m, cp, hh, rfl, hB.src (by omega) (fun x hx => ?_), hG, hu⟩
    obtain ⟨j, hj, _, e⟩ := hG.some_ x hx
    rw [e]; exact placed_ok _ _ (hA.ok j hj).1
theorem gather18_again (bm : Nat) (es : Array MapEntry) (clock : Nat) (A : Option Addr) (n m cap : Nat) (f h1 : Nat → Ca) (w : World) (hK : Kin bm es clock w) (hA : SrcC w A m h1) (H : GathF f n m h1) (hn : n ≤ 1000) :
    Calls Tryd.prog 18 #[.slice A m cap] w fun e w' => ∃ (R : Option Addr) (cp : Nat) (h2 : Nat → Ca), e = .returned (.slice R m cp) ∧ SrcC w' R m h2 ∧ (∀ x, x < m → h2 x = placed (h1 x) x) ∧ Upd (fun _ => False) w w' := by
  have h8 := H.most_
  refine (gather18_any bm es clock A m cap h1 w hK hA (by omega)).mono ?_
  rintro e w' (⟨hz, rfl, hu⟩ | ⟨b, cp, w1, _, hF, hu⟩)
  · have hl := (gathL_all h1 m (fun x hx => by
      obtain ⟨j, _, hk, e⟩ := H.some_ x hx
      rw [e]; exact hk)).1
    rw [hz] at hl
    have : m = 0 := by simpa using hl.symm
    subst this
    exact ⟨none, 0, fun _ => default, rfl, ⟨by omega, fun i hi => by omega, fun i hi => by omega⟩, fun x hx => by omega, hu⟩
  · obtain ⟨h2, rfl, hB, he⟩ := gath_again H hn hF
    refine ⟨_, cp, h2, rfl, hB.src (by omega) (fun x hx => ?_), he, hu⟩
    rw [he x hx]; exact placed_ok _ _ (hA.ok x hx).1
theorem neq_ad (a b c d : Int) (w : World) : Sem.run Tryd.prog (binOp .neq 39 (.agg #[.int .u32 a, .int .i64 b]) (.agg #[.int .u32 c, .int .i64 d])) w = .ok (.bool (!decide (a = c ∧ b = d))) w := by
  rw [run_neq_struct, show (10000 : Nat) = 9999 + 1 from rfl, run_equalIn_struct w 9999 39 _ _ (by kernel_rfl) (by kernel_rfl)]
  simp [go_sem]
  by_cases h1 : a = c
  · by_cases h2 : b = d <;> simp [h1, h2]
  · simp [h1]
theorem neq_ad_self (a b : Int) (w : World) : Sem.run Tryd.prog (binOp .neq 39 (.agg #[.int .u32 a, .int .i64 b]) (.agg #[.int .u32 a, .int .i64 b])) w = .ok (.bool false) w := by
  rw [neq_ad]; simp
theorem min_cut20 (n cap : Nat) (h : n ≤ cap) : (min (n : Int) 20).toNat = min n 20 ∧ ((min (n : Int) 20) ≤ (cap : Int)) ∧ (0 ≤ min (n : Int) 20) := by omega
end Go.Proofs.YtoadbogfbgediaaDoor
