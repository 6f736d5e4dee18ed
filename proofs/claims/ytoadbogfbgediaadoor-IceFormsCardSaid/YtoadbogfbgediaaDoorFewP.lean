/- few over a row of pairs (no statement of the seat). -/
import Derived.Test.YtoadbogfbgediaaDoorDel3
import Derived.Test.YtoadbogfbgediaaDoorStab
import Derived.Test.YtoadbogfbgediaaDoorCmp
namespace Go.Proofs.YtoadbogfbgediaaDoor
open Go.RowKit Go.Lib Go.Sort Go.Shelf

theorem swk_upd {enc : Nat → List Value} {z blk off : Nat} {w0 W : World} {dk : Array Nat} (h : SWK enc z w0 blk off dk W) : Upd (fun k => k = blk) w0 W := by
  obtain ⟨n, os, rfl⟩ := h
  refine ⟨rfl, rfl, rfl, ?_, fun k hk hn => ?_⟩
  · unfold sortWorldK; rw [size_grow, size_putRowK]; exact Nat.le_add_right _ _
  · have hne : blk ≠ k := fun e => hn e.symm
    have hs : k < (putRowK enc z (Sort.ahead w0 n) blk off dk).heap.size := by rw [size_putRowK]; exact hk
    unfold sortWorldK
    rw [heap_grow_old _ _ hs]
    simp [putRowK, putRow, mapBlock, Sort.ahead, Array.getElem?_modify, hne]
theorem swk_type {enc : Nat → List Value} {z blk off : Nat} {w0 W : World} {dk : Array Nat} {cs : Array Value} {t : TypeId} (h : SWK enc z w0 blk off dk W) (hb : w0.heap[blk]? = some (.cells cs t (0, 0))) : ∃ cs', W.heap[blk]? = some (.cells cs' t (0, 0)) := by
  obtain ⟨n, os, rfl⟩ := h
  have hs : blk < (putRowK enc z (Sort.ahead w0 n) blk off dk).heap.size := by rw [size_putRowK]; exact lt_of_block hb
  unfold sortWorldK
  rw [heap_grow_old _ _ hs]
  refine ⟨putCells id off (flatK enc z dk) cs, ?_⟩
  simp [putRowK, putRow, mapBlock, Sort.ahead, Array.getElem?_modify, hb, onCells]
def encP (G : Nat → Pr) (i : Nat) : List Value := (prCells (G i)).toList
theorem encP_len (G : Nat → Pr) (i : Nat) : (encP G i).length = 6 := rfl
theorem encP_one (G : Nat → Pr) (i : Nat) : ∀ v ∈ encP G i, v.oneCell' = true := by
  intro v hv
  simp [encP] at hv
  rcases hv with rfl | rfl | rfl | rfl | rfl | rfl <;> rfl
theorem encP_get (G : Nat → Pr) (i c : Nat) (hc : c < 6) : some ((encP G i)[c]!) = (prCells (G i))[c]? := by
  have h : c = 0 ∨ c = 1 ∨ c = 2 ∨ c = 3 ∨ c = 4 ∨ c = 5 := by omega
  rcases h with rfl | rfl | rfl | rfl | rfl | rfl <;> rfl
theorem holdsP {w : World} {b n : Nat} {G : Nat → Pr} {d : Array Nat} (h : BlkP w b n G) (hd : d.size = n) (hid0 : ∀ k, k < n → d[k]! = k) : HoldsK (encP G) 6 w b 0 d := by
  intro j hj
  rw [size_flatK, hd] at hj
  have h1 := h.cell (j / 6) (j % 6) (by omega) (by omega)
  have e : j / 6 * 6 + j % 6 = j := by omega
  rw [e] at h1
  refine ⟨?_, by rw [Nat.zero_add]; exact h.free j⟩
  rw [Nat.zero_add, get_flatK (encP G) 6 d j (by rw [hd]; exact hj), hid0 _ (by omega), h1]
  exact (encP_get G _ _ (by omega)).symm
theorem swk_blkP {w0 W : World} {b n : Nat} {G : Nat → Pr} {d0 d : Array Nat} (h0 : BlkP w0 b n G) (hH : HoldsK (encP G) 6 w0 b 0 d0) (hs0 : d0.size = n) (hs : d.size = n) (h : SWK (encP G) 6 w0 b 0 d W) : BlkP W b n (fun x => G d[x]!) := by
  obtain ⟨cs, hc, _⟩ := h0.blk
  obtain ⟨cs', hc'⟩ := swk_type h hc
  have hHW := h.holds h0.lt hH (by omega)
  have hcell : ∀ i, i < n → ∀ j, j < 6 → cs'[i * 6 + j]? = (prCells (G d[i]!))[j]? := fun i hi j hj => by
    have := (hHW (i * 6 + j) (by rw [size_flatK, hs]; omega)).1
    rw [Nat.zero_add, blk_cell hc', get_flatK (encP G) 6 d _ (by rw [hs]; omega)] at this
    rw [this, ← encP_get G d[i]! j hj]
    have e1 : (i * 6 + j) / 6 = i := by omega
    have e2 : (i * 6 + j) % 6 = j := by omega
    rw [e1, e2]; rfl
  refine ⟨cs', hc', ?_, hcell⟩
  by_cases hn : n = 0
  · omega
  · have := hcell (n - 1) (by omega) 5 (by omega)
    obtain ⟨v, hv⟩ := pr_some (G d[n - 1]!) 5 (by omega)
    rw [hv] at this
    have h5 := (Array.getElem?_eq_some_iff.1 this).1
    omega

theorem enters41 : ∀ args w, (callFunc 41 args).run Tryd.prog w = .ok (.enter 41 args) w := enters_of Tryd.func41 (by kernel_rfl) rfl
theorem range_at (n k : Nat) (hk : k < n) : (Array.range n)[k]! = k := by simp [hk]
/-- What few's sort asks, of a row of pairs and the box of 'worth'. -/
theorem syP {w : World} {b n wb : Nat} {G : Nat → Pr} (hB : BlkP w b n G) (hn : n ≤ 1000000) (hw : w.cell? ⟨wb, 0, none⟩ = some (fnv 31 #[])) (hne : wb ≠ b) :
    Sy Tryd.prog 6 (encP G) (fun x y => cmpF (G y).p (G x).p) (fun x => (G x).p) 41 #[.pointer (some ⟨wb, 0, none⟩)] b 0 n (Array.range n) w where
  eg := enters41
  hC := by
    intro m os dk hs x y
    have hu := swk_upd (W := sortWorldK (encP G) 6 w b 0 m dk os) ⟨m, os, rfl⟩
    exact cmp41 (G x) (G y) wb _ (hu.cell hw hne)
  R := ⟨fun x => rfl, encP_one G, holdsP hB (by simp) (fun k hk => range_at n k hk), hB.lt⟩
  h0 := by simp
  hN := hn
  hcf := fun x y => by
    unfold cmpF
    split
    · rename_i h; exact ⟨fun _ => h, fun _ => by omega⟩
    · rename_i h
      split
      · exact ⟨fun q => by omega, fun q => absurd q h⟩
      · exact ⟨fun q => by omega, fun q => absurd q h⟩
/-- What few leaves of n pairs: sorted, those that came before struck out, cut. -/
structure FewR (G : Nat → Pr) (n : Nat) (d : Array Nat) : Prop where
  size : d.size = n
  mv : Mv 0 n (Array.range n) d
  srt : Srt (fun x => (G x).p) d 0 n

/-- How few ends. -/
def FewOut (G : Nat → Pr) (b n cap most : Nat) (w : World) (e : Ending) (w' : World) : Prop :=
  ∃ (d : Array Nat) (m : Nat) (h : Nat → Pr), e = .returned (.slice (some ⟨b, 0, none⟩) m cap) ∧ FewR G n d ∧ m = min (kept (fun x => prK (G d[x]!)) n).length most ∧ BlkP w' b m h ∧
    (∀ x, x < m → h x = G d[(kept (fun x => prK (G d[x]!)) n).getD x 0]!) ∧ Upd (fun k => k = b) w w'

set_option maxHeartbeats 4000000 in
theorem few30_any (G : Nat → Pr) (b n cap : Nat) (w : World) (hn : n ≤ 1000000) (hncap : n ≤ cap) (hB : BlkP w b n G) :
    Calls Tryd.prog 30 #[.slice (some ⟨b, 0, none⟩) n cap, fnv 31 #[], fnv 32 #[], .int .i64 16] w (FewOut G b n cap 16 w) := by
  have HB := hid hB
  have hlt := hB.lt
  have hmm := @run_makeMap Tryd.prog
  clear hB
  go_enter Tryd.func30, Tryd.ntmps30
  go_wp2_with fail
  have hu1 : Upd (fun _ => False) w ((w.alloc (.cells #[fnv 31 #[]] 59)).alloc (.cells #[fnv 32 #[]] 60)) := ((Upd.refl _ w).alloc _).alloc _
  have hwb : ((w.alloc (.cells #[fnv 31 #[]] 59)).alloc (.cells #[fnv 32 #[]] 60)).cell? ⟨w.heap.size, 0, none⟩ = some (fnv 31 #[]) := ((Upd.refl (fun _ => False) _).alloc _).cell ((blk_cell (heap_alloc_new w (.cells #[fnv 31 #[]] 59)) 0).trans rfl) (fun h => h)
  have hkb : ((w.alloc (.cells #[fnv 31 #[]] 59)).alloc (.cells #[fnv 32 #[]] 60)).cell? ⟨w.heap.size + 1, 0, none⟩ = some (fnv 32 #[]) := by
    have := heap_alloc_new (w.alloc (.cells #[fnv 31 #[]] 59)) (.cells #[fnv 32 #[]] 60)
    simp only [World.size_alloc] at this
    exact (blk_cell this 0).trans rfl
  have hsz1 : ((w.alloc (.cells #[fnv 31 #[]] 59)).alloc (.cells #[fnv 32 #[]] 60)).heap.size = w.heap.size + 1 + 1 := by simp
  obtain ⟨w1, hw1⟩ : ∃ w1, ((w.alloc (.cells #[fnv 31 #[]] 59)).alloc (.cells #[fnv 32 #[]] 60)) = w1 := ⟨_, rfl⟩
  rw [hw1] at hu1 hwb hkb hsz1 ⊢
  have hB1 := HB.out.upd hu1 (fun h => h)
  have Y := syP hB1 hn hwb (by omega)
  refine (sort40 cap Y (Array.range n) w1 (by simp) (SWK.start Y.R.hH) (fun k hk => range_at n k hk)).mono ?_
  rintro e w2 ⟨rfl, d, hds, hmv, hsr, S2⟩
  have HF : Hid (FewR G n d) := hid ⟨hds, hmv, hsr⟩
  have HB2 := hid (swk_blkP hB1 Y.R.hH (by simp) hds S2)
  have hu2 := swk_upd S2
  have HU2 := hid ((hu1.mono (S1 := fun k => k = b) (fun _ _ h => h.elim)).trans hu2)
  have HKB := hid (hu2.cell hkb (by show ¬ (w.heap.size + 1 = b); omega))
  have HSZ := hid (show w.heap.size + 1 + 1 ≤ w2.heap.size by have := hu2.size; omega)
  clear hu1 hwb hkb hsz1 hw1 hB1 Y hmv hsr S2 hu2 hds
  go_wp2_with fail
  have hmb := heap_alloc_new w2 (.map #[] 0)
  have hmb2 := ((Upd.refl (fun _ => False) _).alloc (.cells #[.map (some w2.heap.size)] 66)).blk hmb (fun h => h)
  have hsb := heap_alloc_new (w2.alloc (.map #[] 0)) (.cells #[.map (some w2.heap.size)] 66)
  have hu3 : Upd (fun _ => False) w2 ((w2.alloc (.map #[] 0)).alloc (.cells #[.map (some w2.heap.size)] 66)) := ((Upd.refl _ w2).alloc _).alloc _
  simp only [World.size_alloc] at hsb
  obtain ⟨w3, hw3⟩ : ∃ w3, ((w2.alloc (.map #[] 0)).alloc (.cells #[.map (some w2.heap.size)] 66)) = w3 := ⟨_, rfl⟩
  rw [hw3] at hmb2 hsb hu3 ⊢
  have hH : Hand 32 (w.heap.size + 1) (w2.heap.size + 1) w2.heap.size w3 := ⟨hu3.cell HKB.out (fun h => h), (blk_cell hsb 0).trans rfl, by omega, by have := HSZ.out; omega⟩
  refine (del42_any b n cap (w.heap.size + 1) (w2.heap.size + 1) w2.heap.size (fun x => G d[x]!) w3 hn hncap (HB2.out.upd hu3 (fun h => h)) hH (Seen.nil hmb2) (by have := HSZ.out; omega) (by omega) (by have := HSZ.out; omega)).mono ?_
  rintro e w4 ⟨h, rfl, hB4, hh, hu4⟩
  have HU4 := hid ((HU2.out.trans (hu3.mono (S1 := fun k => k = b) (fun _ _ h => h.elim))).then_ hu4 (fun k hk q => q.elim (fun e => by have := HSZ.out; omega) (fun e => e)))
  have HB4 := hid hB4
  have HH4 := hid hh
  have hle := kept_le (fun x => prK (G d[x]!)) n
  obtain ⟨L, hL⟩ : ∃ L, (kept (fun x => prK (G d[x]!)) n).length = L := ⟨_, rfl⟩
  dsimp only at HB4 HH4 ⊢
  rw [hL] at hle ⊢
  have HL := hid hL
  have hLc : L ≤ cap := by omega
  clear hmb hmb2 hsb hu3 hw3 hH hB4 hh hu4 hL
  have e1 := hid (show (min (L : Int) 16).toNat = min L 16 by omega)
  have hz : ((min (L : Int) 16).toNat : Int) ≤ (cap : Int) := by omega
  have hfin : FewOut G b n cap 16 w (.returned (.slice (some ⟨b, 0, none⟩) (min (L : Int) 16).toNat cap)) w4 := by
    rw [e1.out]
    exact ⟨d, min L 16, h, rfl, HF.out, by rw [HL.out], by have := HB4.out; rw [HL.out] at this; exact this.less (by omega), fun x hx => HH4.out x (by rw [HL.out]; omega), HU4.out⟩
  have HFIN := hid hfin
  clear hfin
  by_cases h16 : L ≤ 16
  · have hz : (L : Int) ≤ 16 := by omega
    go_wp2_with fail
    go_ret
    exact HFIN.out
  · have hz : ¬ (L : Int) ≤ 16 := by omega
    have hc16 : 16 ≤ cap := by omega
    go_wp2_with fail
    go_ret
    exact HFIN.out
end Go.Proofs.YtoadbogfbgediaaDoor
