/- few: a right config, of any (no statement of the seat). -/
import Derived.Test.YtbcchdnbfblooaaOut
namespace Go.Proofs.Ytbcchdnbfblooaa
open Go.RowKit

theorem or_one (x : Int) : bits .or .u32 x 1 ≠ 0 := by
  have h1 : (BitVec.ofInt 32 1).toNat = 1 := by decide
  show IntKind.u32.wrap ((BitVec.ofInt 32 x ||| BitVec.ofInt 32 1).toNat : Int) ≠ 0
  have hlt := (BitVec.ofInt 32 x ||| BitVec.ofInt 32 1).isLt
  have hge : 1 ≤ (BitVec.ofInt 32 x ||| BitVec.ofInt 32 1).toNat := by
    rw [BitVec.toNat_or, h1]; exact Nat.right_le_or
  rw [IntKind.wrap_u32]
  omega
theorem and_low (x : Int) : 0 ≤ bits .and .i64 x 65535 ∧ bits .and .i64 x 65535 ≤ 65535 := by
  have h1 : (BitVec.ofInt 64 65535).toNat = 65535 := by decide
  have hb : bits .and .i64 x 65535 = IntKind.i64.wrap ((BitVec.ofInt 64 x &&& BitVec.ofInt 64 65535).toNat : Int) := rfl
  have hle : (BitVec.ofInt 64 x &&& BitVec.ofInt 64 65535).toNat ≤ 65535 := by
    rw [BitVec.toNat_and, h1]; exact Nat.and_le_right
  rw [hb, IntKind.wrap_i64]
  omega
/-- The low sixteen bits, cut to 0 .. n - 1. -/
def low (x n : Int) : Int := (bits .and .i64 x 65535).tmod n
theorem low_in (x : Int) (n : Nat) (h : 0 < n) : 0 ≤ low x n ∧ low x n < n := by
  have := and_low x
  unfold low
  rw [Int.tmod_eq_emod_of_nonneg this.1]
  have h1 := Int.emod_nonneg (bits .and .i64 x 65535) (b := (n : Int)) (by omega)
  have h2 := Int.emod_lt_of_pos (bits .and .i64 x 65535) (b := (n : Int)) (by omega)
  exact ⟨h1, h2⟩
def few (c : Cfg) : Cfg := ⟨bits .or .u32 c.pub 1, 1 + low c.map 3, 1 + low c.fil 3, c.hair, 10 + low c.tmo 100⟩
theorem few_right (c : Cfg) : Right (few c) := by
  have h1 := low_in c.map 3 (by decide)
  have h2 := low_in c.fil 3 (by decide)
  have h3 := low_in c.tmo 100 (by decide)
  have h0 := or_one c.pub
  simp at h1 h2 h3
  refine ⟨h0, ?_, ?_, ?_, ?_, ?_, ?_⟩ <;> simp [few] <;> omega
theorem few_tmo (c : Cfg) : 10 ≤ (few c).tmo ∧ (few c).tmo ≤ 109 := by
  have h3 := low_in c.tmo 100 (by decide)
  simp at h3
  simp [few]; omega

set_option maxHeartbeats 1000000 in
theorem few_any (c : Cfg) (w : World) : Calls Try.prog 11 #[c.v] w fun e w' => e = .returned (few c).v ∧ Upd (fun _ => False) w w' := by
  obtain ⟨pub, map, fil, hair, tmo⟩ := c
  have h1 := low_in map 3 (by decide)
  have h2 := low_in fil 3 (by decide)
  have h3 := low_in tmo 100 (by decide)
  simp at h1 h2 h3
  have e1 := hid (show low map 3 = (bits .and .i64 map 65535).tmod 3 from rfl)
  have e2 := hid (show low fil 3 = (bits .and .i64 fil 65535).tmod 3 from rfl)
  have e3 := hid (show low tmo 100 = (bits .and .i64 tmo 65535).tmod 100 from rfl)
  have ee : few ⟨pub, map, fil, hair, tmo⟩ = ⟨bits .or .u32 pub 1, 1 + low map 3, 1 + low fil 3, hair, 10 + low tmo 100⟩ := rfl
  rw [ee]
  go_enter Try.func11, Try.ntmps11
  go_wp2_with fail
  have w1 : wrap64 (1 + (bits .and .i64 map 65535).tmod 3) = 1 + low map 3 := by unfold wrap64; rw [← e1.out]; omega
  have w2 : wrap64 (1 + (bits .and .i64 fil 65535).tmod 3) = 1 + low fil 3 := by unfold wrap64; rw [← e2.out]; omega
  have w3 : wrap64 (10 + (bits .and .i64 tmo 65535).tmod 100) = 10 + low tmo 100 := by unfold wrap64; rw [← e3.out]; omega
  rw [w1, w2, w3]
  refine bodyPost_ret (v := Cfg.v ⟨bits .or .u32 pub 1, 1 + low map 3, 1 + low fil 3, hair, 10 + low tmo 100⟩) (by simp [results, Try.results11, go_sem]) rfl ⟨rfl, ((Upd.refl _ _).alloc _).alloc _⟩
end Go.Proofs.Ytbcchdnbfblooaa
