/- What is too old goes: the calls behind (*Box).at (no statement of the seat). -/
import Derived.Test.YtbcchdnbfblooaaMaps
namespace Go.Proofs.Ytbcchdnbfblooaa
open Go.RowKit
open Go.ChangeMaps (setBlock)

/-- What the closure 'old' captured. -/
structure Env (w : World) (ob nb pb g : Nat) (now tmo : Int) : Prop where
  o : w.cell? ⟨ob, 0, none⟩ = some (.func (.func 33) #[] #[.pointer (some ⟨nb, 0, none⟩), .pointer (some ⟨pb, 0, none⟩)])
  n : w.cell? ⟨nb, 0, none⟩ = some (.int .i64 now)
  p : w.cell? ⟨pb, 0, none⟩ = some (.pointer (some ⟨g, 0, none⟩))
  c : w.cell? ⟨g, 4, none⟩ = some (.int .i64 tmo)
  n0 : 0 ≤ now
  n1 : now ≤ 1000000000
  t0 : 1 ≤ tmo
  t1 : tmo ≤ 1000000

theorem Env.upd {w w' : World} {ob nb pb g : Nat} {now tmo : Int} {S : Nat → Prop} (E : Env w ob nb pb g now tmo) (hu : Upd S w w')
    (hn : ∀ k, k = ob ∨ k = nb ∨ k = pb ∨ k = g → ¬ S k) : Env w' ob nb pb g now tmo :=
  ⟨hu.cell E.o (hn _ (by simp)), hu.cell E.n (hn _ (by simp)), hu.cell E.p (hn _ (by simp)), hu.cell E.c (hn _ (by simp)), E.n0, E.n1, E.t0, E.t1⟩

set_option maxHeartbeats 1000000 in
theorem at1_any (eb ob nb pb g : Nat) (now tmo used : Int) (w : World) (E : Env w ob nb pb g now tmo) (hu : w.cell? ⟨eb, 5, none⟩ = some (.int .i64 used)) :
    Calls Try.prog 33 #[.pointer (some ⟨eb, 0, none⟩), .pointer (some ⟨nb, 0, none⟩), .pointer (some ⟨pb, 0, none⟩)] w fun e w' =>
      e = .returned (.bool (decide (used ≤ now - tmo))) ∧ ∃ n, w' = w.drewN n := by
  obtain ⟨h1, h2, h3, h4, n0, n1, t0, t1⟩ := E
  clear h1
  go_enter Try.func33, Try.ntmps33
  go_wp2
  go_quiet (fail)
  go_wp2
  go_ret
  exact ⟨rfl, _, rfl⟩

set_option maxHeartbeats 1000000 in
theorem at2_any (k : Ad × Ad) (eb ob nb pb g : Nat) (now tmo used : Int) (w : World) (E : Env w ob nb pb g now tmo) (hu : w.cell? ⟨eb, 5, none⟩ = some (.int .i64 used)) :
    Calls Try.prog 35 #[ownV k, .pointer (some ⟨eb, 0, none⟩), .pointer (some ⟨ob, 0, none⟩)] w fun e w' =>
      e = .returned (.bool (decide (used ≤ now - tmo))) ∧ Upd (fun _ => False) w w' := by
  have hU : ∀ o, Upd (fun _ => False) w (w.alloc o) := fun o => (Upd.refl _ w).alloc o
  have ho : ∀ o, (w.alloc o).cell? ⟨ob, 0, none⟩ = some (.func (.func 33) #[] #[.pointer (some ⟨nb, 0, none⟩), .pointer (some ⟨pb, 0, none⟩)]) := fun o => (hU o).cell E.o (fun h => h)
  have HE : Hid (∀ o, Env (w.alloc o) ob nb pb g now tmo) := hid (fun o => E.upd (hU o) (fun _ _ h => h))
  have HU : Hid (∀ o, (w.alloc o).cell? ⟨eb, 5, none⟩ = some (.int .i64 used)) := hid (fun o => (hU o).cell hu (fun h => h))
  clear E hu hU
  go_enter Try.func35, Try.ntmps35
  go_wp2_with fail
  refine (at1_any eb ob nb pb g now tmo used _ (HE.out _) (HU.out _)).mono ?_
  rintro e w' ⟨rfl, n, rfl⟩
  go_wp2_with fail
  go_ret
  exact ⟨rfl, ((Upd.refl _ w).alloc _).drewN n⟩
set_option maxHeartbeats 1000000 in
theorem at3_any (k : Int) (eb ob nb pb g : Nat) (now tmo used : Int) (w : World) (E : Env w ob nb pb g now tmo) (hu : w.cell? ⟨eb, 5, none⟩ = some (.int .i64 used)) :
    Calls Try.prog 37 #[.int .i64 k, .pointer (some ⟨eb, 0, none⟩), .pointer (some ⟨ob, 0, none⟩)] w fun e w' =>
      e = .returned (.bool (decide (used ≤ now - tmo))) ∧ Upd (fun _ => False) w w' := by
  have ho := E.o
  have HE := hid E
  have HU := hid hu
  clear E hu
  go_enter Try.func37, Try.ntmps37
  go_wp2_with fail
  refine (at1_any eb ob nb pb g now tmo used _ HE.out HU.out).mono ?_
  rintro e w' ⟨rfl, n, rfl⟩
  go_wp2_with fail
  go_ret
  exact ⟨rfl, (Upd.refl _ w).drewN n⟩

/-! ### maps.DeleteFunc -/
section
variable {α : Type}
def liveL (es : List (α × MapEntry)) (seen : Array Nat) (dead : α × MapEntry → Bool) : List (α × MapEntry) := es.filter (fun x => !(seen.contains x.2.born && dead x))
theorem liveL_start (es : List (α × MapEntry)) (dead : α × MapEntry → Bool) : liveL es #[] dead = es := by
  unfold liveL; rw [List.filter_eq_self]; intro x _; simp
theorem leftOf_live (es : List (α × MapEntry)) (seen : Array Nat) (dead : α × MapEntry → Bool) : leftOf (liveL es seen dead) seen = leftOf es seen := by
  unfold leftOf liveL
  rw [List.filter_filter]
  apply List.filter_congr
  intro x _
  cases seen.contains x.2.born <;> simp
theorem liveL_end (es : List (α × MapEntry)) (seen : Array Nat) (dead : α × MapEntry → Bool) (h : leftOf es seen = []) : liveL es seen dead = es.filter (fun x => !dead x) := by
  unfold liveL
  apply List.filter_congr
  intro x hx
  unfold leftOf at h
  rw [List.filter_eq_nil_iff] at h
  have := h x hx
  have hc : seen.contains x.2.born = true := by cases hh : seen.contains x.2.born <;> simp_all
  rw [hc, Bool.true_and]
theorem nodup_inj {β γ : Type} (f : β → γ) : ∀ (l : List β), (l.map f).Nodup → ∀ x y, x ∈ l → y ∈ l → f x = f y → x = y
  | [], _, x, _, hx, _, _ => by cases hx
  | z :: l, hn, x, y, hx, hy, h => by
    rw [List.map_cons, List.nodup_cons] at hn
    rcases List.mem_cons.1 hx with e1 | h1
    · rcases List.mem_cons.1 hy with e2 | h2
      · rw [e1, e2]
      · subst e1; exact absurd (h ▸ List.mem_map_of_mem h2) hn.1
    · rcases List.mem_cons.1 hy with e2 | h2
      · subst e2; exact absurd (h ▸ List.mem_map_of_mem h1) hn.1
      · exact nodup_inj f l hn.2 x y h1 h2 h
theorem born_eq {es : List (α × MapEntry)} (hn : (es.map (fun x => x.2.born)).Nodup) {x y : α × MapEntry} (hx : x ∈ es) (hy : y ∈ es) (h : x.2.born = y.2.born) : x = y :=
  nodup_inj _ es hn x y hx hy h
theorem liveL_stays {es : List (α × MapEntry)} (seen : Array Nat) (dead : α × MapEntry → Bool) (hn : (es.map (fun x => x.2.born)).Nodup) {x : α × MapEntry} (hx : x ∈ es) (hd : dead x = false) :
    liveL es (seen.push x.2.born) dead = liveL es seen dead := by
  unfold liveL
  apply List.filter_congr
  intro y hy
  by_cases e : y.2.born = x.2.born
  · have := born_eq hn hy hx e
    subst this
    simp [hd]
  · have : (seen.push x.2.born).contains y.2.born = seen.contains y.2.born := by
      rw [Bool.eq_iff_iff]; simp [e]
    rw [this]
theorem liveL_goes [DecidableEq α] {es : List (α × MapEntry)} (seen : Array Nat) (dead : α × MapEntry → Bool) (hn : (es.map (fun x => x.2.born)).Nodup) (hk : (es.map Prod.fst).Nodup) {x : α × MapEntry} (hx : x ∈ es) (hd : dead x = true) :
    (liveL es seen dead).filter (fun y => decide (y.1 ≠ x.1)) = liveL es (seen.push x.2.born) dead := by
  unfold liveL
  rw [List.filter_filter]
  apply List.filter_congr
  intro y hy
  by_cases e : y.2.born = x.2.born
  · have := born_eq hn hy hx e
    subst this
    simp [hd]
  · have : (seen.push x.2.born).contains y.2.born = seen.contains y.2.born := by
      rw [Bool.eq_iff_iff]; simp [e]
    rw [this]
    have hne : y.1 ≠ x.1 := by
      intro e'
      exact e (by rw [nodup_inj Prod.fst es hk y x hy hx e'])
    simp [hne]
theorem leftOf_push {es : List (α × MapEntry)} {seen : Array Nat} {x : α × MapEntry} (hx : x ∈ leftOf es seen) : (leftOf es (seen.push x.2.born)).length < (leftOf es seen).length := by
  unfold leftOf at hx ⊢
  have hsub : es.filter (fun y => !(seen.push x.2.born).contains y.2.born) = (es.filter (fun y => !seen.contains y.2.born)).filter (fun y => decide (y.2.born ≠ x.2.born)) := by
    rw [List.filter_filter]
    apply List.filter_congr
    intro y _
    rw [Bool.eq_iff_iff]
    simp
    constructor
    · rintro ⟨h1, h2⟩; exact ⟨h2, h1⟩
    · rintro ⟨h1, h2⟩; exact ⟨h2, h1⟩
  rw [hsub]
  have := List.length_filter_lt_length_iff_exists (p := fun y : α × MapEntry => decide (y.2.born ≠ x.2.born)) (l := es.filter (fun y => !seen.contains y.2.born))
  exact this.2 ⟨x, hx, by simp⟩
end

/-- The round's relation: what was told of es is seen; what of it is dead is gone. -/
def DelRel {α : Type} (w : World) (b it clock : Nat) (es : List (α × MapEntry)) (dead : α × MapEntry → Bool) (wr : World) : Prop :=
  ∃ seen : Array Nat, wr.heap[it]? = some (.mapIter (some b) clock seen clock) ∧ wr.heap[b]? = some (.map (arr (liveL es seen dead)) clock) ∧ Upd (fun k => k = b) w wr
def delLeft {α : Type} (it : Nat) (es : List (α × MapEntry)) (wr : World) : Nat :=
  match wr.heap[it]? with
  | some (.mapIter _ _ seen _) => (leftOf es seen).length
  | _ => 0
theorem delLeft_eq {α : Type} {it b clock : Nat} {seen : Array Nat} {wr : World} (es : List (α × MapEntry)) (h : wr.heap[it]? = some (.mapIter (some b) clock seen clock)) : delLeft it es wr = (leftOf es seen).length := by
  simp [delLeft, h]

abbrev portV (n : Int) : Value := .int .i64 n

set_option maxHeartbeats 2000000 in
theorem del_owners (b ob clock : Nat) (es : List ((Ad × Ad) × MapEntry)) (dead : (Ad × Ad) × MapEntry → Bool) (w : World)
    (hb : w.heap[b]? = some (.map (arr es) clock)) (E : Ents ownV es clock) (hk : (es.map Prod.fst).Nodup)
    (hcl : ∀ (W : World) (x : (Ad × Ad) × MapEntry), Upd (fun k => k = b) w W → x ∈ es →
      Calls Try.prog 35 #[ownV x.1, x.2.val, .pointer (some ⟨ob, 0, none⟩)] W fun e w' => e = .returned (.bool (dead x)) ∧ Upd (fun _ => False) W w') :
    Calls Try.prog 34 #[.map (some b), .func (.func 35) #[] #[.pointer (some ⟨ob, 0, none⟩)]] w fun e w' =>
      e = .returned (.tuple #[]) ∧ w'.heap[b]? = some (.map (arr (es.filter (fun x => !dead x))) clock) ∧ Upd (fun k => k = b) w w' := by
  have hrg := run_range_at (t := 54) (kt := 60) (e := 62) Try.underlying54 hb
  have hlt := lt_of_block hb
  have HB := hid hb
  have HCL := hid hcl
  clear hb hcl
  go_enter Try.func34, Try.ntmps34
  go_wp2_with fail
  clear hrg
  go_loopw [8] (fun _ wr => DelRel w b w.heap.size clock es dead wr) (fun _ wr => delLeft w.heap.size es wr)
  case atStart =>
    exact ⟨#[], by simpa using heap_alloc_new w (.mapIter (some b) clock #[] clock), by rw [liveL_start]; exact ((Upd.refl (fun _ => False) w).alloc _).blk HB.out (fun h => h), (Upd.refl _ w).alloc _⟩
  case round =>
    obtain ⟨seen, hit, hmp, hu⟩ := hrel
    have HIT := hid hit
    have HMP := hid hmp
    have HU := hid hu
    have HE : Ents ownV (liveL es seen dead) clock := E.filter _
    rcases run_next_at hit hmp HE 0 with ⟨hl, n, hrun⟩ | ⟨x, n, hx, hrun⟩
    · have hr : ∀ ty, (Instr.next (.pointer (some ⟨w.heap.size, 0, none⟩)) false ty).run Try.prog wr = .ok (.tuple #[.bool false]) (wr.drewN n) := fun _ => hrun
      have HL := hid hl
      clear hit hmp hu hrun hl
      go_wp2_with fail
      go_end0
      refine ⟨rfl, ?_, HU.out.drewN n⟩
      have := HMP.out
      have HL := leftOf_live es seen dead ▸ HL.out
      rw [liveL_end es seen dead HL] at this
      exact this
    · have hr : ∀ ty, (Instr.next (.pointer (some ⟨w.heap.size, 0, none⟩)) false ty).run Try.prog wr =
          .ok (.tuple #[.bool true, ownV x.1, x.2.val]) ((setBlock wr w.heap.size (.mapIter (some b) clock (seen.push x.2.born) clock)).drewN n) := fun _ => hrun
      have hx2 : x ∈ leftOf es seen := by rw [leftOf_live] at hx; exact hx
      have hxes : x ∈ es := (List.mem_filter.1 hx2).1
      have hxlive : x ∈ liveL es seen dead := (List.mem_filter.1 hx).1
      obtain ⟨W1, hW1⟩ : ∃ W1, (setBlock wr w.heap.size (.mapIter (some b) clock (seen.push x.2.born) clock)).drewN n = W1 := ⟨_, rfl⟩
      rw [hW1] at hr
      have hit1 : W1.heap[w.heap.size]? = some (.mapIter (some b) clock (seen.push x.2.born) clock) := by
        rw [← hW1]; exact (Go.MapKept.heap_set hit).1
      have hmp1 : W1.heap[b]? = some (.map (arr (liveL es seen dead)) clock) := by
        rw [← hW1]; exact ((Go.MapKept.heap_set hit).2 b (by omega)).trans hmp
      have hu1 : Upd (fun k => k = b) w W1 := by
        rw [← hW1]
        refine (hu.then_ (S1 := fun k => k = w.heap.size) (w2 := setBlock wr w.heap.size (.mapIter (some b) clock (seen.push x.2.born) clock)) ⟨rfl, rfl, rfl, by simp [setBlock], fun k _ hn => (Go.MapKept.heap_set hit).2 k hn⟩ (fun k hk e => by omega)).drewN n
      have hent := run_entry_at x hit1 hmp1 HE hxlive
      have hclo : ∀ o, Calls Try.prog 35 #[ownV x.1, x.2.val, .pointer (some ⟨ob, 0, none⟩)] (W1.alloc o) fun e w' => e = .returned (.bool (dead x)) ∧ Upd (fun _ => False) (W1.alloc o) w' :=
        fun o => HCL.out _ x (hu1.alloc o) hxes
      have HCLO := hid hclo
      have HM1 := hid hmp1
      have HI1 := hid hit1
      have HU1 := hid hu1
      have hms : ∀ W', W'.heap[w.heap.size]? = some (.mapIter (some b) clock (seen.push x.2.born) clock) → delLeft w.heap.size es W' < delLeft w.heap.size es wr := by
        intro W' h
        rw [delLeft_eq es h, delLeft_eq es HIT.out]
        exact leftOf_push hx2
      have HMS := hid hms
      have hltI : w.heap.size < W1.heap.size := lt_of_block hit1
      have hltB : b < W1.heap.size := lt_of_block hmp1
      obtain ⟨xk, xe⟩ := x
      obtain ⟨⟨a1, a2⟩, b1, b2⟩ := xk
      obtain ⟨xkey, xval, xborn⟩ := xe
      clear hit hmp hu hrun hx hxlive hW1 hit1 hmp1 hu1 hclo hms
      go_wp2_with fail
      refine (HCLO.out _).mono ?_
      rintro e W2 ⟨rfl, hu2⟩
      cases hd : dead ((⟨a1, a2⟩, ⟨b1, b2⟩), ⟨xkey, xval, xborn⟩) with
      | false =>
        have HI2 := hid (hu2.blk (((Upd.refl (fun _ => False) W1).alloc _).blk HI1.out (fun h => h)) (fun h => h))
        have HM2 := hid (hu2.blk (((Upd.refl (fun _ => False) W1).alloc _).blk HM1.out (fun h => h)) (fun h => h))
        have HU2 := hid ((HU1.out.alloc _).then_ hu2 (fun _ _ h => h.elim))
        have HD := hid hd
        clear hu2 hd
        go_wp2_with fail
        go_roundw
        case rel => exact ⟨_, HI2.out, by rw [liveL_stays seen dead E.born hxes HD.out]; exact HM2.out, HU2.out⟩
        case measure => exact HMS.out _ HI2.out
      | true =>
        have HI2 := hid (hu2.blk (((Upd.refl (fun _ => False) W1).alloc _).blk HI1.out (fun h => h)) (fun h => h))
        have HM2 := hid (hu2.blk (((Upd.refl (fun _ => False) W1).alloc _).blk HM1.out (fun h => h)) (fun h => h))
        have HU2 := hid ((HU1.out.alloc _).then_ hu2 (fun _ _ h => h.elim))
        have HD := hid hd
        have hkc := hu2.blk (heap_alloc_new W1 (.cells #[.int .u32 a1, .int .i64 a2, .int .u32 b1, .int .i64 b2] 60)) (fun h => h)
        have k0 : W2.cell? ⟨W1.heap.size, 0, none⟩ = some (.int .u32 a1) := (blk_cell hkc 0).trans rfl
        have k1 : W2.cell? ⟨W1.heap.size, 1, none⟩ = some (.int .i64 a2) := (blk_cell hkc 1).trans rfl
        have k2 : W2.cell? ⟨W1.heap.size, 2, none⟩ = some (.int .u32 b1) := (blk_cell hkc 2).trans rfl
        have k3 : W2.cell? ⟨W1.heap.size, 3, none⟩ = some (.int .i64 b2) := (blk_cell hkc 3).trans rfl
        have hdel : ∀ ty, (Builtin.delete_ #[54, 60] ty #[.map (some b), .agg #[.int .u32 a1, .int .i64 a2, .int .u32 b1, .int .i64 b2]]).run Try.prog W2 = _ :=
          fun ty => run_delete_at keyOwn Try.underlying54 ty HM2.out HE (hk.sublist (List.filter_sublist.map _)) ((⟨a1, a2⟩, ⟨b1, b2⟩) : Ad × Ad)
        rw [show (liveL es seen dead).filter (fun x => decide (x.1 ≠ ((⟨a1, a2⟩, ⟨b1, b2⟩) : Ad × Ad))) = liveL es (seen.push xborn) dead from liveL_goes seen dead E.born hk hxes hd] at hdel
        have HI3 := hid (((Go.MapKept.heap_set (o' := .map (arr (liveL es (seen.push xborn) dead)) clock) HM2.out).2 w.heap.size (by omega)).trans HI2.out)
        have HM3 := hid (Go.MapKept.heap_set (o' := .map (arr (liveL es (seen.push xborn) dead)) clock) HM2.out).1
        have HU3 : Hid (Upd (fun k => k = b) w (setBlock W2 b (.map (arr (liveL es (seen.push xborn) dead)) clock))) :=
          hid (HU2.out.then_ (S1 := fun k => k = b) ⟨rfl, rfl, rfl, by simp [setBlock], fun k _ hn => (Go.MapKept.heap_set HM2.out).2 k hn⟩ (fun _ _ e => e))
        clear hu2 hd hkc
        go_wp2_with fail
        go_roundw
        case rel => exact ⟨_, HI3.out, HM3.out, HU3.out⟩
        case measure => exact HMS.out _ HI3.out
set_option maxHeartbeats 2000000 in
theorem del_ports (b ob clock : Nat) (es : List (Int × MapEntry)) (dead : Int × MapEntry → Bool) (w : World)
    (hb : w.heap[b]? = some (.map (arr es) clock)) (E : Ents portV es clock) (hk : (es.map Prod.fst).Nodup)
    (hcl : ∀ (W : World) (x : Int × MapEntry), Upd (fun k => k = b) w W → x ∈ es →
      Calls Try.prog 37 #[portV x.1, x.2.val, .pointer (some ⟨ob, 0, none⟩)] W fun e w' => e = .returned (.bool (dead x)) ∧ Upd (fun _ => False) W w') :
    Calls Try.prog 36 #[.map (some b), .func (.func 37) #[] #[.pointer (some ⟨ob, 0, none⟩)]] w fun e w' =>
      e = .returned (.tuple #[]) ∧ w'.heap[b]? = some (.map (arr (es.filter (fun x => !dead x))) clock) ∧ Upd (fun k => k = b) w w' := by
  have hrg := run_range_at (t := 55) (kt := 3) (e := 62) Try.underlying55 hb
  have hlt := lt_of_block hb
  have HB := hid hb
  have HCL := hid hcl
  clear hb hcl
  go_enter Try.func36, Try.ntmps36
  go_wp2_with fail
  clear hrg
  go_loopw [8] (fun _ wr => DelRel w b w.heap.size clock es dead wr) (fun _ wr => delLeft w.heap.size es wr)
  case atStart =>
    exact ⟨#[], by simpa using heap_alloc_new w (.mapIter (some b) clock #[] clock), by rw [liveL_start]; exact ((Upd.refl (fun _ => False) w).alloc _).blk HB.out (fun h => h), (Upd.refl _ w).alloc _⟩
  case round =>
    obtain ⟨seen, hit, hmp, hu⟩ := hrel
    have HIT := hid hit
    have HMP := hid hmp
    have HU := hid hu
    have HE : Ents portV (liveL es seen dead) clock := E.filter _
    rcases run_next_at hit hmp HE 0 with ⟨hl, n, hrun⟩ | ⟨x, n, hx, hrun⟩
    · have hr : ∀ ty, (Instr.next (.pointer (some ⟨w.heap.size, 0, none⟩)) false ty).run Try.prog wr = .ok (.tuple #[.bool false]) (wr.drewN n) := fun _ => hrun
      have HL := hid hl
      clear hit hmp hu hrun hl
      go_wp2_with fail
      go_end0
      refine ⟨rfl, ?_, HU.out.drewN n⟩
      have := HMP.out
      have HL := leftOf_live es seen dead ▸ HL.out
      rw [liveL_end es seen dead HL] at this
      exact this
    · have hr : ∀ ty, (Instr.next (.pointer (some ⟨w.heap.size, 0, none⟩)) false ty).run Try.prog wr =
          .ok (.tuple #[.bool true, portV x.1, x.2.val]) ((setBlock wr w.heap.size (.mapIter (some b) clock (seen.push x.2.born) clock)).drewN n) := fun _ => hrun
      have hx2 : x ∈ leftOf es seen := by rw [leftOf_live] at hx; exact hx
      have hxes : x ∈ es := (List.mem_filter.1 hx2).1
      have hxlive : x ∈ liveL es seen dead := (List.mem_filter.1 hx).1
      obtain ⟨W1, hW1⟩ : ∃ W1, (setBlock wr w.heap.size (.mapIter (some b) clock (seen.push x.2.born) clock)).drewN n = W1 := ⟨_, rfl⟩
      rw [hW1] at hr
      have hit1 : W1.heap[w.heap.size]? = some (.mapIter (some b) clock (seen.push x.2.born) clock) := by
        rw [← hW1]; exact (Go.MapKept.heap_set hit).1
      have hmp1 : W1.heap[b]? = some (.map (arr (liveL es seen dead)) clock) := by
        rw [← hW1]; exact ((Go.MapKept.heap_set hit).2 b (by omega)).trans hmp
      have hu1 : Upd (fun k => k = b) w W1 := by
        rw [← hW1]
        refine (hu.then_ (S1 := fun k => k = w.heap.size) (w2 := setBlock wr w.heap.size (.mapIter (some b) clock (seen.push x.2.born) clock)) ⟨rfl, rfl, rfl, by simp [setBlock], fun k _ hn => (Go.MapKept.heap_set hit).2 k hn⟩ (fun k hk e => by omega)).drewN n
      have hent := run_entry_at x hit1 hmp1 HE hxlive
      have hclo : Calls Try.prog 37 #[portV x.1, x.2.val, .pointer (some ⟨ob, 0, none⟩)] W1 fun e w' => e = .returned (.bool (dead x)) ∧ Upd (fun _ => False) W1 w' :=
        HCL.out _ x hu1 hxes
      have HCLO := hid hclo
      have HM1 := hid hmp1
      have HI1 := hid hit1
      have HU1 := hid hu1
      have hms : ∀ W', W'.heap[w.heap.size]? = some (.mapIter (some b) clock (seen.push x.2.born) clock) → delLeft w.heap.size es W' < delLeft w.heap.size es wr := by
        intro W' h
        rw [delLeft_eq es h, delLeft_eq es HIT.out]
        exact leftOf_push hx2
      have HMS := hid hms
      have hltI : w.heap.size < W1.heap.size := lt_of_block hit1
      have hltB : b < W1.heap.size := lt_of_block hmp1
      obtain ⟨xk, xe⟩ := x
      obtain ⟨xkey, xval, xborn⟩ := xe
      clear hit hmp hu hrun hx hxlive hW1 hit1 hmp1 hu1 hclo hms
      go_wp2_with fail
      refine HCLO.out.mono ?_
      rintro e W2 ⟨rfl, hu2⟩
      cases hd : dead (xk, ⟨xkey, xval, xborn⟩) with
      | false =>
        have HI2 := hid (hu2.blk HI1.out (fun h => h))
        have HM2 := hid (hu2.blk HM1.out (fun h => h))
        have HU2 := hid (HU1.out.then_ hu2 (fun _ _ h => h.elim))
        have HD := hid hd
        clear hu2 hd
        go_wp2_with fail
        go_roundw
        case rel => exact ⟨_, HI2.out, by rw [liveL_stays seen dead E.born hxes HD.out]; exact HM2.out, HU2.out⟩
        case measure => exact HMS.out _ HI2.out
      | true =>
        have HI2 := hid (hu2.blk HI1.out (fun h => h))
        have HM2 := hid (hu2.blk HM1.out (fun h => h))
        have HU2 := hid (HU1.out.then_ hu2 (fun _ _ h => h.elim))
        have HD := hid hd
        have hdel : ∀ ty, (Builtin.delete_ #[55, 3] ty #[.map (some b), .int .i64 xk]).run Try.prog W2 = _ :=
          fun ty => run_delete_at keyInt Try.underlying55 ty HM2.out HE (hk.sublist (List.filter_sublist.map _)) xk
        rw [show (liveL es seen dead).filter (fun x => decide (x.1 ≠ xk)) = liveL es (seen.push xborn) dead from liveL_goes seen dead E.born hk hxes hd] at hdel
        have HI3 := hid (((Go.MapKept.heap_set (o' := .map (arr (liveL es (seen.push xborn) dead)) clock) HM2.out).2 w.heap.size (by omega)).trans HI2.out)
        have HM3 := hid (Go.MapKept.heap_set (o' := .map (arr (liveL es (seen.push xborn) dead)) clock) HM2.out).1
        have HU3 : Hid (Upd (fun k => k = b) w (setBlock W2 b (.map (arr (liveL es (seen.push xborn) dead)) clock))) :=
          hid (HU2.out.then_ (S1 := fun k => k = b) ⟨rfl, rfl, rfl, by simp [setBlock], fun k _ hn => (Go.MapKept.heap_set HM2.out).2 k hn⟩ (fun _ _ e => e))
        clear hu2 hd
        go_wp2_with fail
        go_roundw
        case rel => exact ⟨_, HI3.out, HM3.out, HU3.out⟩
        case measure => exact HMS.out _ HI3.out
end Go.Proofs.Ytbcchdnbfblooaa
