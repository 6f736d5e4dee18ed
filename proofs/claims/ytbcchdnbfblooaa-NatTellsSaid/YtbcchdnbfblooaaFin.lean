/- A box behind Out: the entry that was used is put back (no statement of the seat). -/
import Derived.Test.YtbcchdnbfblooaaIn
namespace Go.Proofs.Ytbcchdnbfblooaa
open Go.RowKit

def rowOf (sv : Option Addr) : List Nat := match sv with | some a => [a.block] | none => []

/-- What lies where the entry is at hand, ahead of its being used. -/
structure MidAt (g mo mp co cp : Nat) (c : Cfg) (A B : List (Ent × Slot)) (EO : List ((Ad × Ad) × MapEntry)) (EP : List (Int × MapEntry)) (fr tt : Ad) (eb : Nat) (port used : Int) (sv : Option Addr) (cap : Nat) (sent : List Ad) (w : World) : Prop where
  box : w.heap[g]? = some (.cells (boxCells c mo mp) 57 (0, 0))
  bo : w.heap[mo]? = some (.map (arr EO) co)
  bp : w.heap[mp]? = some (.map (arr EP) cp)
  eo : Ents ownV EO co
  ep : Ents portV EP cp
  zo : EO.map (fun x => (x.1, x.2.val)) = A.map (fun z => (z.1.key c.map, ptr z.2.blk)) ++ ((fr, red c.map tt), ptr eb) :: B.map (fun z => (z.1.key c.map, ptr z.2.blk))
  zp : EP.map (fun x => (x.1, x.2.val)) = A.map (fun z => (z.1.port, ptr z.2.blk)) ++ (port, ptr eb) :: B.map (fun z => (z.1.port, ptr z.2.blk))
  entsA : ∀ z, z ∈ A → EntAt w c.map z.1 z.2
  entsB : ∀ z, z ∈ B → EntAt w c.map z.1 z.2
  blk : w.heap[eb]? = some (.cells #[.int .u32 fr.h, .int .i64 fr.p, .int .u32 (red c.map tt).h, .int .i64 (red c.map tt).p, .int .i64 port, .int .i64 used, .slice sv sent.length cap] 65 (0, 0))
  src : SrcAd w sv sent
  row : w.ownsRow 0 26 2 (.slice sv sent.length cap) sent.length (adCells sent)
  nodup : (g :: mo :: mp :: (foot A ++ (eb :: rowOf sv) ++ foot B)).Nodup
  len : sent.length ≤ 32
  head : sent ≠ [] → red c.map (sent.headD ⟨0, 0⟩) = red c.map tt
  portR : 1024 ≤ port ∧ port ≤ 1088

theorem foot_mid (A B : List (Ent × Slot)) (z : Ent × Slot) : foot (A ++ z :: B) = foot A ++ (z.2.blk :: [z.2.row]) ++ foot B := by
  unfold foot; simp
theorem mem_mid {g mo mp eb : Nat} {A B : List (Ent × Slot)} {l : List Nat} {k : Nat} : k ∈ g :: mo :: mp :: (foot A ++ (eb :: l) ++ foot B) ↔ k = g ∨ k = mo ∨ k = mp ∨ k ∈ foot A ∨ k = eb ∨ k ∈ l ∨ k ∈ foot B := by
  simp only [List.mem_cons, List.mem_append, or_assoc]
theorem send_head {m : Int} {sent : List Ad} {tt : Ad} (h : sent ≠ [] → red m (sent.headD ⟨0, 0⟩) = red m tt) : red m ((sendTo sent tt).headD ⟨0, 0⟩) = red m tt := by
  cases sent with
  | nil => rfl
  | cons a l => rw [sendTo_head tt ⟨0, 0⟩ (by simp)]; exact h (by simp)

theorem nodup_swap {g mo mp eb : Nat} {A B : List (Ent × Slot)} {l : List Nat} {r : Nat} (h : (g :: mo :: mp :: (foot A ++ (eb :: l) ++ foot B)).Nodup) (hr : r ∉ g :: mo :: mp :: (foot A ++ (eb :: l) ++ foot B)) :
    (g :: mo :: mp :: (foot A ++ (eb :: [r]) ++ foot B)).Nodup := by
  have hsub : (g :: mo :: mp :: (foot A ++ (eb :: []) ++ foot B)).Sublist (g :: mo :: mp :: (foot A ++ (eb :: l) ++ foot B)) := by
    refine ((((List.Sublist.refl _).append ?_).append (List.Sublist.refl _)).cons_cons _).cons_cons _ |>.cons_cons _
    exact (List.nil_sublist _).cons_cons _
  have h1 := h.sublist hsub
  have hr1 : r ∉ g :: mo :: mp :: (foot A ++ (eb :: []) ++ foot B) := fun e => hr (hsub.subset e)
  have hp : (g :: mo :: mp :: (foot A ++ (eb :: [r]) ++ foot B)).Perm (r :: g :: mo :: mp :: (foot A ++ (eb :: []) ++ foot B)) := by
    have e1 : foot A ++ (eb :: [r]) ++ foot B = (foot A ++ [eb]) ++ r :: foot B := by simp
    have e2 : foot A ++ (eb :: []) ++ foot B = (foot A ++ [eb]) ++ foot B := by simp
    rw [e1, e2]
    have : (g :: mo :: mp :: ((foot A ++ [eb]) ++ r :: foot B)) = (g :: mo :: mp :: (foot A ++ [eb])) ++ r :: foot B := by simp
    rw [this]
    have : (r :: g :: mo :: mp :: ((foot A ++ [eb]) ++ foot B)) = r :: ((g :: mo :: mp :: (foot A ++ [eb])) ++ foot B) := by simp
    rw [this]
    exact List.perm_middle
  exact (hp.nodup_iff).2 (List.nodup_cons.2 ⟨hr1, h1⟩)

theorem box_final {g mo mp co cp : Nat} {c : Cfg} {A B : List (Ent × Slot)} {EO : List ((Ad × Ad) × MapEntry)} {EP : List (Int × MapEntry)} {fr tt : Ad} {eb : Nat} {port used t : Int} {sv : Option Addr} {cap : Nat} {sent : List Ad}
    {F : Nat → Prop} {w w0 wc W : World} {row' cap' : Nat}
    (hM : MidAt g mo mp co cp c A B EO EP fr tt eb port used sv cap sent wc)
    (hF : ∀ k, k ∈ g :: mo :: mp :: (foot A ++ (eb :: rowOf sv) ++ foot B) → grow F w0 wc k) (hlt : ∀ k, F k → k < w.heap.size) (h0 : w0.heap.size = w.heap.size + 3) (hU : Upd F w wc)
    (hblk : W.heap[eb]? = some (.cells #[.int .u32 fr.h, .int .i64 fr.p, .int .u32 (red c.map tt).h, .int .i64 (red c.map tt).p, .int .i64 port, .int .i64 t, .slice (some ⟨row', 0, none⟩) (sendTo sent tt).length cap'] 65 (0, 0)))
    (hrow : W.ownsRow 0 26 2 (.slice (some ⟨row', 0, none⟩) (sendTo sent tt).length cap') (sendTo sent tt).length (adCells (sendTo sent tt)))
    (hu : Upd (fun k => k = eb ∨ k ∈ rowOf sv ∨ k = w.heap.size + 1 + 1) wc W) (hr : rowOf sv = [row'] ∨ wc.heap.size ≤ row') (hrl : row' < W.heap.size) :
    BoxIs g c (A.map Prod.fst ++ ⟨fr, port, t, sendTo sent tt⟩ :: B.map Prod.fst) (grow F w W) W ∧ Upd F w W := by
  have hC : ∀ k, k ∈ g :: mo :: mp :: (foot A ++ (eb :: rowOf sv) ++ foot B) → k ≠ w.heap.size + 1 + 1 := by
    intro k hk e
    rcases hF k hk with h | h
    · have := hlt k h; omega
    · omega
  have hlt' : ∀ k, k ∈ g :: mo :: mp :: (foot A ++ (eb :: rowOf sv) ++ foot B) → k < wc.heap.size := by
    intro k hk
    rcases hF k hk with h | h
    · exact Nat.lt_of_lt_of_le (hlt k h) hU.size
    · exact h.2
  have hUW : Upd F w W := by
    refine hU.then_ hu ?_
    rintro k hk (e | e | e)
    · have := hF k (mem_mid.2 (by simp [e]))
      rcases this with h | h
      · exact h
      · omega
    · have := hF k (mem_mid.2 (by simp [e]))
      rcases this with h | h
      · exact h
      · omega
    · omega
  have hN := hM.nodup
  have hN2 : (g :: mo :: mp :: (foot A ++ (eb :: [row']) ++ foot B)).Nodup := by
    rcases hr with hr | hr
    · rw [hr] at hN; exact hN
    · refine nodup_swap hN (fun hk => ?_)
      have := hlt' _ hk
      omega
  -- what is not the entry is as it was
  have hnot : ∀ k, (k = g ∨ k = mo ∨ k = mp ∨ k ∈ foot A ∨ k ∈ foot B) → ¬ (k = eb ∨ k ∈ rowOf sv ∨ k = w.heap.size + 1 + 1) := by
    intro k hk
    have hmem : k ∈ g :: mo :: mp :: (foot A ++ (eb :: rowOf sv) ++ foot B) := mem_mid.2 (by
      rcases hk with h | h | h | h | h
      · exact .inl h
      · exact .inr (.inl h)
      · exact .inr (.inr (.inl h))
      · exact .inr (.inr (.inr (.inl h)))
      · exact .inr (.inr (.inr (.inr (.inr (.inr h))))))
    have hsplit : ∀ x, x ∈ eb :: rowOf sv → x ≠ k := by
      intro x hx e
      subst e
      rw [List.nodup_cons, List.nodup_cons, List.nodup_cons] at hN
      obtain ⟨n1, n2, n3, n4⟩ := hN
      have hin : x ∈ foot A ++ (eb :: rowOf sv) ++ foot B := by simp only [List.mem_append]; exact .inl (.inr hx)
      rcases hk with h | h | h | h | h
      · exact n1 (by subst h; exact List.mem_cons_of_mem _ (List.mem_cons_of_mem _ hin))
      · exact n2 (by subst h; exact List.mem_cons_of_mem _ hin)
      · exact n3 (by subst h; exact hin)
      · rw [List.append_assoc, List.nodup_append] at n4
        exact n4.2.2 x h x (List.mem_append.2 (.inl hx)) rfl
      · rw [List.nodup_append] at n4
        exact n4.2.2 x (List.mem_append.2 (.inr hx)) x h rfl
    rintro (e | e | e)
    · exact hsplit eb (by simp) e.symm
    · exact hsplit k (List.mem_cons_of_mem _ e) rfl
    · exact hC k hmem e
  have hhead := send_head hM.head
  refine ⟨⟨mo, mp, co, cp, A ++ (⟨fr, port, t, sendTo sent tt⟩, ⟨eb, row', cap'⟩) :: B, EO, EP, ⟨hu.blk hM.box (hnot _ (.inl rfl)), hu.blk hM.bo (hnot _ (.inr (.inl rfl))), hu.blk hM.bp (hnot _ (.inr (.inr (.inl rfl)))), hM.eo, hM.ep, ?_, ?_, ?_, ?_⟩, by simp, ?_, ?_⟩, hUW⟩
  · rw [hM.zo]
    simp [Ent.key, Ent.head]
    simpa using hhead.symm
  · rw [hM.zp]; simp
  · intro z hz
    rcases List.mem_append.1 hz with hz | hz
    · have := mem_foot hz
      exact (hM.entsA z hz).upd hu (hnot _ (.inr (.inr (.inr (.inl this.1))))) (hnot _ (.inr (.inr (.inr (.inl this.2)))))
    · rcases List.mem_cons.1 hz with hz | hz
      · subst hz
        refine ⟨?_, hrow⟩
        rw [hblk]
        have e : red c.map (Ent.head ⟨fr, port, t, sendTo sent tt⟩) = red c.map tt := hhead
        rw [entCells, e]
      · have := mem_foot hz
        exact (hM.entsB z hz).upd hu (hnot _ (.inr (.inr (.inr (.inr this.1))))) (hnot _ (.inr (.inr (.inr (.inr this.2)))))
  · rw [foot_mid]; exact hN2
  · intro k hk
    rw [foot_mid] at hk
    have h9 := hu.size
    rcases mem_mid.1 hk with h | h | h | h | h | h | h
    all_goals first
      | (have h1 := hF k (mem_mid.2 (by simp [h]))
         rcases h1 with h1 | h1
         · exact .inl h1
         · exact .inr ⟨by omega, by omega⟩)
      | skip
    have hk' : k = row' := by simpa using h
    subst hk'
    rcases hr with hr | hr
    · have h1 := hF k (mem_mid.2 (by simp [hr]))
      rcases h1 with h1 | h1
      · exact .inl h1
      · exact .inr ⟨by omega, by omega⟩
    · have := hU.size
      exact .inr ⟨by omega, hrl⟩
  · intro k hk
    rcases hk with hk | hk
    · exact Nat.lt_of_lt_of_le (hlt k hk) hUW.size
    · exact hk.2

/-- What lies where the entry has been used, ahead of the answer. -/
structure Fin7 (c : Cfg) (fr tt : Ad) (eb : Nat) (port t : Int) (sv : Option Addr) (sent : List Ad) (w wc w7 : World) (row' cap' : Nat) : Prop where
  blk : w7.heap[eb]? = some (.cells #[.int .u32 fr.h, .int .i64 fr.p, .int .u32 (red c.map tt).h, .int .i64 (red c.map tt).p, .int .i64 port, .int .i64 t, .slice (some ⟨row', 0, none⟩) (sendTo sent tt).length cap'] 65 (0, 0))
  row : w7.ownsRow 0 26 2 (.slice (some ⟨row', 0, none⟩) (sendTo sent tt).length cap') (sendTo sent tt).length (adCells (sendTo sent tt))
  upd : Upd (fun k => k = eb ∨ k ∈ rowOf sv) wc w7
  isrow : rowOf sv = [row'] ∨ wc.heap.size ≤ row'
  lt : row' < w7.heap.size

theorem mid_ne {g mo mp eb : Nat} {A B : List (Ent × Slot)} {l : List Nat} (hN : (g :: mo :: mp :: (foot A ++ (eb :: l) ++ foot B)).Nodup) : g ≠ eb ∧ g ∉ l ∧ eb ∉ l := by
  rw [List.nodup_cons, List.nodup_cons, List.nodup_cons] at hN
  obtain ⟨n1, _, _, n4⟩ := hN
  have hin : ∀ x, x ∈ eb :: l → x ∈ mo :: mp :: (foot A ++ (eb :: l) ++ foot B) := fun x hx => by simp only [List.mem_cons, List.mem_append]; simp only [List.mem_cons] at hx; exact .inr (.inr (.inl (.inr hx)))
  rw [List.append_assoc, List.nodup_append] at n4
  have n5 := n4.2.1
  rw [List.nodup_append] at n5
  have n6 := n5.1
  rw [List.nodup_cons] at n6
  exact ⟨fun e => n1 (hin g (by simp [e])), fun h => n1 (hin g (List.mem_cons_of_mem _ h)), n6.1⟩

section
variable {g mo mp co cp : Nat} {c : Cfg} {A B : List (Ent × Slot)} {EO : List ((Ad × Ad) × MapEntry)} {EP : List (Int × MapEntry)} {fr tt : Ad} {eb : Nat} {port used t : Int} {sv : Option Addr} {cap : Nat} {sent : List Ad}
  {F : Nat → Prop} {w w0 wc w5 w7 : World} {row' cap' : Nat}
theorem fin_still (hM : MidAt g mo mp co cp c A B EO EP fr tt eb port used sv cap sent wc) (hu : Upd (fun _ => False) wc w5) (hs : sendTo sent tt = sent) (hsv : sv = some ⟨row', 0, none⟩) :
    Fin7 c fr tt eb port t sv sent w wc (w5.setCell ⟨eb, 5, none⟩ (.int .i64 t)) row' cap := by
  subst hsv
  have hb5 := hu.blk hM.blk (fun h => h)
  have hr5 := hu.row hM.row (fun _ _ h => h)
  have hne := (mid_ne hM.nodup).2.2
  refine ⟨?_, ?_, (hu.mono (fun _ _ h => h.elim)).setCell (p := ⟨eb, 5, none⟩) (fun _ => .inl rfl) _, .inl rfl, ?_⟩
  · rw [hs]; exact (blk_set hb5 5 _).trans rfl
  · rw [hs]
    refine ((Upd.refl (fun k => k = eb) w5).setCell (p := ⟨eb, 5, none⟩) (fun _ => rfl) _).row hr5 ?_
    intro k hk e
    simp only [Value.ownBlock, Option.some.injEq] at hk
    subst hk
    exact hne (by simp [rowOf, e])
  · have := (World.ownsRow.lt hr5 row' rfl).2
    simpa [World.setCell] using this
/-- Where one more was appended: w4 is the world behind the append. -/
theorem fin_app {w4 : World} {g4 c4 : Nat} (hM : MidAt g mo mp co cp c A B EO EP fr tt eb port used sv cap sent wc) (hu : Upd (fun _ => False) wc w5) (hs : sendTo sent tt = sent ++ [tt])
    (hrow : w4.ownsRow 0 26 2 (.slice (some ⟨g4, 0, none⟩) (sent.length + 1) c4) (sent.length + 1) (adCells (sent ++ [tt])))
    (hu4 : Upd (fun k => (Value.slice sv sent.length cap).ownBlock = some k) w5 w4) (hg4 : (Value.slice sv sent.length cap).ownBlock = some g4 ∨ w5.heap.size ≤ g4) (hlt : g4 < w4.heap.size) :
    Fin7 c fr tt eb port t sv sent w wc ((w4.setCell ⟨eb, 6, none⟩ (.slice (some ⟨g4, 0, none⟩) (sent.length + 1) c4)).setCell ⟨eb, 5, none⟩ (.int .i64 t)) g4 c4 := by
  have hne := (mid_ne hM.nodup).2.2
  have hown : ∀ k, (Value.slice sv sent.length cap).ownBlock = some k → k ∈ rowOf sv := by
    intro k hk
    cases sv with
    | none => simp [Value.ownBlock] at hk
    | some a => simp only [Value.ownBlock, Option.some.injEq] at hk; simp [rowOf, hk]
  have hrowOf : ∀ k, (Value.slice sv sent.length cap).ownBlock = some k → rowOf sv = [k] := by
    intro k hk
    cases sv with
    | none => simp [Value.ownBlock] at hk
    | some a => simp only [Value.ownBlock, Option.some.injEq] at hk; simp [rowOf, hk]
  have hb5 := hu.blk hM.blk (fun h => h)
  have hb4 := hu4.blk hb5 (fun e => hne (hown _ e))
  have hg4e : g4 ≠ eb := by
    rcases hg4 with h | h
    · intro e; subst e; exact hne (hown _ h)
    · have := lt_of_block hb5; omega
  have hl : (sendTo sent tt).length = sent.length + 1 := by rw [hs]; simp
  refine ⟨?_, ?_, ?_, ?_, by simpa [World.setCell] using hlt⟩
  · rw [hl]; exact (blk_set (blk_set hb4 6 _) 5 _).trans rfl
  · rw [hl, hs]
    refine (((Upd.refl (fun k => k = eb) w4).setCell (p := ⟨eb, 6, none⟩) (fun _ => rfl) _).setCell (p := ⟨eb, 5, none⟩) (fun _ => rfl) _).row hrow ?_
    intro k hk e
    simp only [Value.ownBlock, Option.some.injEq] at hk
    exact hg4e (hk.trans e)
  · refine (((hu.mono (S1 := fun k => k = eb ∨ k ∈ rowOf sv) (fun _ _ h => h.elim)).then_ hu4 (fun k _ h => .inr (hown k h))).setCell (p := ⟨eb, 6, none⟩) (fun _ => .inl rfl) _).setCell (p := ⟨eb, 5, none⟩) (fun _ => .inl rfl) _
  · rcases hg4 with h | h
    · exact .inl (hrowOf _ h)
    · exact .inr (Nat.le_trans hu.size h)

theorem fin_g (hM : MidAt g mo mp co cp c A B EO EP fr tt eb port used sv cap sent wc) : ¬ (g = eb ∨ g ∈ rowOf sv) := by
  have := mid_ne hM.nodup
  rintro (e | e)
  · exact this.1 e
  · exact this.2.1 e
theorem fin_c (h7 : Fin7 c fr tt eb port t sv sent w wc w7 row' cap')
    (hF : ∀ k, k ∈ g :: mo :: mp :: (foot A ++ (eb :: rowOf sv) ++ foot B) → grow F w0 wc k) (hlt : ∀ k, F k → k < w.heap.size) (h0 : w0.heap.size = w.heap.size + 3) {o : Obj}
    (hC : wc.heap[w.heap.size + 1 + 1]? = some o) : w7.heap[w.heap.size + 1 + 1]? = some o := by
  refine h7.upd.blk hC ?_
  have key : w.heap.size + 1 + 1 ∉ g :: mo :: mp :: (foot A ++ (eb :: rowOf sv) ++ foot B) := by
    intro hk
    rcases hF _ hk with h | h
    · have := hlt _ h; omega
    · omega
  rintro (e | e)
  · exact key (mem_mid.2 (by simp [e]))
  · exact key (mem_mid.2 (by simp [e]))
theorem fin_close (hM : MidAt g mo mp co cp c A B EO EP fr tt eb port used sv cap sent wc) (h7 : Fin7 c fr tt eb port t sv sent w wc w7 row' cap')
    (hF : ∀ k, k ∈ g :: mo :: mp :: (foot A ++ (eb :: rowOf sv) ++ foot B) → grow F w0 wc k) (hlt : ∀ k, F k → k < w.heap.size) (h0 : w0.heap.size = w.heap.size + 3) (hU : Upd F w wc) (hCl : w.heap.size + 1 + 1 < wc.heap.size) (a b : Value) :
    BoxIs g c (A.map Prod.fst ++ ⟨fr, port, t, sendTo sent tt⟩ :: B.map Prod.fst) (grow F w ((w7.setCell ⟨w.heap.size + 1 + 1, 0, none⟩ a).setCell ⟨w.heap.size + 1 + 1, 1, none⟩ b).drew)
      ((w7.setCell ⟨w.heap.size + 1 + 1, 0, none⟩ a).setCell ⟨w.heap.size + 1 + 1, 1, none⟩ b).drew ∧ Upd F w ((w7.setCell ⟨w.heap.size + 1 + 1, 0, none⟩ a).setCell ⟨w.heap.size + 1 + 1, 1, none⟩ b).drew := by
  have hC : ∀ k, k ∈ g :: mo :: mp :: (foot A ++ (eb :: rowOf sv) ++ foot B) → k ≠ w.heap.size + 1 + 1 := by
    intro k hk e
    rcases hF k hk with h | h
    · have := hlt k h; omega
    · omega
  have hu : Upd (fun k => k = w.heap.size + 1 + 1) w7 ((w7.setCell ⟨w.heap.size + 1 + 1, 0, none⟩ a).setCell ⟨w.heap.size + 1 + 1, 1, none⟩ b).drew :=
    (((Upd.refl (fun k => k = w.heap.size + 1 + 1) w7).setCell (p := ⟨w.heap.size + 1 + 1, 0, none⟩) (fun _ => rfl) _).setCell (p := ⟨w.heap.size + 1 + 1, 1, none⟩) (fun _ => rfl) _).drew
  have heC := hC eb (mem_mid.2 (by simp))
  have hrC : row' ≠ w.heap.size + 1 + 1 := by
    rcases h7.isrow with h | h
    · exact hC row' (mem_mid.2 (by simp [h]))
    · omega
  exact box_final hM hF hlt h0 hU (hu.blk h7.blk heC) (hu.row h7.row (fun k hk => by simp only [Value.ownBlock, Option.some.injEq] at hk; exact hk ▸ hrC)) ((h7.upd.mono (S1 := fun k => k = eb ∨ k ∈ rowOf sv ∨ k = w.heap.size + 1 + 1) (fun _ _ h => h.elim .inl (fun h => .inr (.inl h)))).then_ hu (fun k _ h => .inr (.inr h))) h7.isrow (by simpa [World.setCell] using h7.lt)
end
end Go.Proofs.Ytbcchdnbfblooaa
