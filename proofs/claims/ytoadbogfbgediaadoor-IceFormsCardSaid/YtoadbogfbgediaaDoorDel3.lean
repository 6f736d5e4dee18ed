/- DeleteFunc over a row of pairs: the walk (no statement of the seat). -/
import Derived.Test.YtoadbogfbgediaaDoorDel2
namespace Go.Proofs.YtoadbogfbgediaaDoor
open Go.RowKit

set_option maxHeartbeats 4000000 in
theorem del42_any (b n cap kb sb mb : Nat) (g : Nat → Pr) (w : World) (hn : n ≤ 1000000) (hncap : n ≤ cap) (hB : BlkP w b n g) (hH : Hand 32 kb sb mb w) (hS : Seen mb [] 0 w) (hbm : b ≠ mb) (hbk : b ≠ kb) (hbs : b ≠ sb) :
    Calls Tryd.prog 42 #[.slice (some ⟨b, 0, none⟩) n cap, delP kb sb] w fun e w' =>
      ∃ h : Nat → Pr, e = .returned (.slice (some ⟨b, 0, none⟩) (kept (fun x => prK (g x)) n).length cap) ∧ BlkP w' b (kept (fun x => prK (g x)) n).length h ∧
        (∀ x, x < (kept (fun x => prK (g x)) n).length → h x = g ((kept (fun x => prK (g x)) n).getD x 0)) ∧ Upd (fun k => k = mb ∨ k = b) w w' := by
  have HB := hid hB
  have HH := hid hH
  have HS := hid hS
  have HX := hid (⟨hbm, hbk, hbs⟩ : b ≠ mb ∧ b ≠ kb ∧ b ≠ sb)
  clear hB hH hS hbm hbk hbs
  go_enter Tryd.func42, Tryd.ntmps42
  go_wp2_with fail
  refine (idx44_del b n cap kb sb mb g _ hn HB.out HH.out HS.out HX.out.1).mono ?_
  rintro e w1 ⟨r, rfl, hr, hu⟩
  have HU := hid hu
  clear hu
  rcases hr with ⟨i0, rfl, hi0, hd0, hno, hs⟩ | ⟨rfl, hno⟩
  · have M0 := hid (moved_start g (fun x => prK (g x)) n i0 hd0 hno)
    have HS1 := hid hs
    clear hd0 hno hs
    go_wp2_with fail
    go_loopw [5, 6] (fun s5 s6 wr => ∃ (i j : Nat) (h : Nat → Pr), s5 = .int .i64 i ∧ s6 = .int .i64 j ∧ i < j ∧ j ≤ n ∧ Hid (Moved g h (fun x => prK (g x)) n i j) ∧ Hid (BlkP wr b n h) ∧ Hid (Seen mb (keysOf (fun x => prK (g x)) j) j wr) ∧ Hid (Upd (fun k => k = mb ∨ k = b) w wr)) (fun _ s6 _ => n - (intOf s6).toNat)
    case atStart => exact ⟨i0, i0 + 1, g, by first | rfl | go_num, by go_num, by omega, by omega, M0, hid (HB.out.upd HU.out HX.out.1), HS1, hid (HU.out.mono (fun k _ h => .inl h))⟩
    case round =>
      clear M0 HS1
      obtain ⟨i, j, h, rfl, rfl, hij, hjn, M, HBr, HSr, HUr⟩ := hrel
      by_cases hlt : j < n
      · obtain ⟨⟨⟨a1, a2⟩, ⟨b1, b2⟩, p, s⟩, hg⟩ : ∃ q, h j = q := ⟨_, rfl⟩
        have hgj : g j = ⟨⟨a1, a2⟩, ⟨b1, b2⟩, p, s⟩ := by rw [← hg]; exact (M.out.hi j (Nat.le_refl _) hlt).symm
        have c0 := HBr.out.cell j 0 hlt (by omega)
        have c1 := HBr.out.cell j 1 hlt (by omega)
        have c2 := HBr.out.cell j 2 hlt (by omega)
        have c3 := HBr.out.cell j 3 hlt (by omega)
        have c4 := HBr.out.cell j 4 hlt (by omega)
        have c5 := HBr.out.cell j 5 hlt (by omega)
        rw [hg] at c0 c1 c2 c3 c4 c5
        replace c0 : wr.cell? ⟨b, j * 6, none⟩ = some (.int .u32 a1) := c0
        replace c1 : wr.cell? ⟨b, j * 6 + 1, none⟩ = some (.int .i64 a2) := c1
        replace c2 : wr.cell? ⟨b, j * 6 + 2, none⟩ = some (.int .u32 b1) := c2
        replace c3 : wr.cell? ⟨b, j * 6 + 3, none⟩ = some (.int .i64 b2) := c3
        replace c4 : wr.cell? ⟨b, j * 6 + 4, none⟩ = some (.int .u64 p) := c4
        replace c5 : wr.cell? ⟨b, j * 6 + 5, none⟩ = some (.int .i64 s) := c5
        have HG := hid hgj
        clear hg hgj
        go_wp2_with fail
        have hva := heap_alloc_new wr (.cells (prCells ⟨⟨a1, a2⟩, ⟨b1, b2⟩, p, s⟩) 41)
        have hua : Upd (fun _ => False) wr (wr.alloc (.cells (prCells ⟨⟨a1, a2⟩, ⟨b1, b2⟩, p, s⟩) 41)) := (Upd.refl _ wr).alloc _
        have hmlt : mb < wr.heap.size := by obtain ⟨_, _, q, _⟩ := HSr.out; exact lt_of_block q
        have hblt := HBr.out.lt
        have hHa := (HH.out.upd HUr.out (fun q => q.elim HH.out.nk (fun e => HX.out.2.1 e.symm)) (fun q => q.elim HH.out.ne (fun e => HX.out.2.2 e.symm))).upd hua (fun q => q) (fun q => q)
        refine (seenP_any ⟨⟨a1, a2⟩, ⟨b1, b2⟩, p, s⟩ kb sb mb j _ _ hHa.k hHa.s (HSr.out.upd hua (fun q => q)) (by omega) (by omega) HH.out.ne).mono ?_
        rintro e w2 ⟨rfl, hs2, hu2⟩
        have hdup : dup (fun x => prK (g x)) j = decide (((⟨a1, a2⟩, ⟨b1, b2⟩) : Ad × Ad) ∈ keysOf (fun x => prK (g x)) j) := by
          unfold dup; simp only [HG.out]
        have HS2 : Hid (Seen mb (keysOf (fun x => prK (g x)) (j + 1)) (j + 1) w2) := by
          have : prK (g j) = (⟨a1, a2⟩, ⟨b1, b2⟩) := by rw [HG.out]
          refine hid ?_
          rw [keysOf, this]; exact hs2
        have HUA := hid ((hua.mono (S1 := fun k => k = mb) (fun _ _ h => h.elim)).trans hu2)
        have HB2 := hid (HBr.out.upd HUA.out HX.out.1)
        have hvb := hu2.blk hva (fun e => by omega)
        obtain ⟨vb, hvbe⟩ : ∃ vb, wr.heap.size = vb := ⟨_, rfl⟩
        rw [hvbe] at hvb ⊢
        have HVB := hid hvb
        have HVE := hid hvbe
        have HLT := hid (⟨hmlt, hblt⟩ : mb < wr.heap.size ∧ b < wr.heap.size)
        dsimp only
        rw [← hdup]
        clear hs2 hu2 c0 c1 c2 c3 c4 c5 hdup hva hua hHa hvb hvbe hmlt hblt
        cases hd : dup (fun x => prK (g x)) j with
        | true =>
          have HD := hid hd
          clear hd
          go_wp2_with fail
          refine ⟨⟨i, j + 1, h, rfl, by go_num, by omega, by omega, hid (M.out.skip HD.out), HB2, HS2, hid (HUr.out.trans (HUA.out.mono (fun k _ q => .inl q)))⟩, by simp [intOf]; omega⟩
        | false =>
          have HD := hid hd
          clear hd
          have v0 : w2.cell? ⟨vb, 0, none⟩ = some (.int .u32 a1) := (blk_cell HVB.out 0).trans rfl
          have v1 : w2.cell? ⟨vb, 1, none⟩ = some (.int .i64 a2) := (blk_cell HVB.out 1).trans rfl
          have v2 : w2.cell? ⟨vb, 2, none⟩ = some (.int .u32 b1) := (blk_cell HVB.out 2).trans rfl
          have v3 : w2.cell? ⟨vb, 3, none⟩ = some (.int .i64 b2) := (blk_cell HVB.out 3).trans rfl
          have v4 : w2.cell? ⟨vb, 4, none⟩ = some (.int .u64 p) := (blk_cell HVB.out 4).trans rfl
          have v5 : w2.cell? ⟨vb, 5, none⟩ = some (.int .i64 s) := (blk_cell HVB.out 5).trans rfl
          have hin : i < n := by omega
          obtain ⟨⟨⟨q1, q2⟩, ⟨q3, q4⟩, q5, q6⟩, hq⟩ : ∃ q, h i = q := ⟨_, rfl⟩
          have d0 := HB2.out.cell i 0 hin (by omega)
          have d1 := HB2.out.cell i 1 hin (by omega)
          have d2 := HB2.out.cell i 2 hin (by omega)
          have d3 := HB2.out.cell i 3 hin (by omega)
          have d4 := HB2.out.cell i 4 hin (by omega)
          have d5 := HB2.out.cell i 5 hin (by omega)
          rw [hq] at d0 d1 d2 d3 d4 d5
          replace d0 : w2.cell? ⟨b, i * 6, none⟩ = some (.int .u32 q1) := d0
          replace d1 : w2.cell? ⟨b, i * 6 + 1, none⟩ = some (.int .i64 q2) := d1
          replace d2 : w2.cell? ⟨b, i * 6 + 2, none⟩ = some (.int .u32 q3) := d2
          replace d3 : w2.cell? ⟨b, i * 6 + 3, none⟩ = some (.int .i64 q4) := d3
          replace d4 : w2.cell? ⟨b, i * 6 + 4, none⟩ = some (.int .u64 q5) := d4
          replace d5 : w2.cell? ⟨b, i * 6 + 5, none⟩ = some (.int .i64 q6) := d5
          have e0 := HB2.out.free (i * 6)
          have e1 := HB2.out.free (i * 6 + 1)
          have e2 := HB2.out.free (i * 6 + 2)
          have e3 := HB2.out.free (i * 6 + 3)
          have e4 := HB2.out.free (i * 6 + 4)
          have e5 := HB2.out.free (i * 6 + 5)
          clear hq
          go_wp2_with fail
          refine ⟨⟨i + 1, j + 1, fun x => if x = i then g j else h x, by go_num, by go_num, by omega, by omega, hid (M.out.keep (by omega) HD.out), ?_, ?_, ?_⟩, by simp [intOf]; omega⟩
          · have := HB2.out.put i hin (g j)
            rw [HG.out] at this ⊢
            exact hid this
          · have := put6_upd (S := fun k => k = b) w2 b i ⟨⟨a1, a2⟩, ⟨b1, b2⟩, p, s⟩ rfl
            exact hid (HS2.out.upd this (fun q => HX.out.1 q.symm))
          · have := put6_upd (S := fun k => k = b) w2 b i ⟨⟨a1, a2⟩, ⟨b1, b2⟩, p, s⟩ rfl
            exact hid ((HUr.out.trans (HUA.out.mono (fun k _ q => .inl q))).trans (this.mono (fun k _ q => .inr q)))
      · obtain rfl : j = n := by omega
        obtain ⟨w3, hcl, hu3, hB3⟩ : ∃ w3, (∀ ty, (Builtin.clear_ #[33] ty #[.slice (some ⟨b, i * 6, none⟩) (j - i) (cap - i)]).run Tryd.prog wr = .ok (.tuple #[]) w3) ∧ Upd (fun k => k = b) wr w3 ∧ BlkP w3 b i h := by
          obtain ⟨w3, q1, q2, q3⟩ := clear_P HBr.out i (cap - i) hij 0
          exact ⟨w3, fun ty => q1, q2, q3⟩
        have HU3 := hid hu3
        have HB3 := hid hB3
        have hilt : (i : Int) ≤ (j : Int) := by omega
        have hic : i ≤ cap := by omega
        clear hu3 hB3
        go_wp2_with fail
        go_ret
        rw [M.out.len]
        exact ⟨h, rfl, HB3.out, M.out.lo, HUr.out.trans (HU3.out.mono (fun k _ q => .inr q))⟩
  · have hk := kept_all (fun x => prK (g x)) n hno
    have hlen : (kept (fun x => prK (g x)) n).length = n := by rw [hk]; simp
    have HL := hid hlen
    have HK := hid hk
    clear hk hlen hno
    go_wp2_with fail
    go_ret
    rw [HL.out]
    exact ⟨g, rfl, HB.out.upd HU.out HX.out.1, fun x hx => by rw [HK.out]; congr 1; simp [List.getD, hx], HU.out.mono (fun k _ h => .inl h)⟩
end Go.Proofs.YtoadbogfbgediaaDoor
