/- A box over a list of its entries: plain facts (no statement of the seat). -/
namespace Go.Proofs.Ytbcchdnbfblooaa

structure Ad where
  h : Int
  p : Int
  deriving DecidableEq
structure Cfg where
  pub : Int
  map : Int
  fil : Int
  hair : Bool
  tmo : Int
  deriving DecidableEq
/-- An entry: somebody inside, its port, when it was last used, whom it has sent to. -/
structure Ent where
  ins : Ad
  port : Int
  used : Int
  sent : List Ad
  deriving DecidableEq

/-- What a way of mapping looks at. -/
def red (m : Int) (a : Ad) : Ad := if m = 1 then ⟨0, 0⟩ else if m = 2 then ⟨a.h, 0⟩ else a
def likeB (way : Int) (a b : Ad) : Bool := if way = 1 then true else if way = 2 then a.h == b.h else a == b
def Ent.head (e : Ent) : Ad := e.sent.headD ⟨0, 0⟩
def Ent.key (m : Int) (e : Ent) : Ad × Ad := (e.ins, red m e.head)
def keyB (m : Int) (fr to : Ad) (e : Ent) : Bool := decide (e.key m = (fr, red m to))
def cutT (now : Int) : Int := if now < 0 then 0 else if now > 1000000000 then 1000000000 else now
def alive (t tmo : Int) (L : List Ent) : List Ent := L.filter (fun e => decide (t - tmo < e.used))
def ports (L : List Ent) : List Int := L.map Ent.port
/-- The least number from 1024 on that no entry has. -/
def IsFree (L : List Ent) (n : Nat) : Prop := 1024 ≤ n ∧ (n : Int) ∉ ports L ∧ ∀ k : Nat, 1024 ≤ k → k < n → (k : Int) ∈ ports L
def freeP (L : List Ent) : Nat := 1024 + (((List.range (L.length + 1)).find? (fun k => decide (((1024 + k : Nat) : Int) ∉ ports L))).getD 0)
def sendTo (sent : List Ad) (to : Ad) : List Ad := if sent.length < 32 ∧ to ∉ sent then sent ++ [to] else sent
def bump (m : Int) (fr to : Ad) (t : Int) (e : Ent) : Ent := if keyB m fr to e = true then { e with sent := sendTo e.sent to, used := t } else e

def outL (c : Cfg) (now : Int) (fr to : Ad) (L : List Ent) : List Ent × Ad × Int :=
  let t := cutT now
  let M := alive t c.tmo L
  match M.find? (keyB c.map fr to) with
  | some e => (M.map (bump c.map fr to t), ⟨c.pub, e.port⟩, 0)
  | none => if 64 ≤ M.length then (M, ⟨0, 0⟩, 8) else (M ++ [⟨fr, freeP M, t, [to]⟩], ⟨c.pub, freeP M⟩, 0)

def inL (c : Cfg) (now : Int) (fr to : Ad) (L : List Ent) : List Ent × Ad × Int :=
  let M := alive (cutT now) c.tmo L
  if to.h ≠ c.pub then (M, ⟨0, 0⟩, 7) else
  match M.find? (fun e => decide (e.port = to.p)) with
  | none => (M, ⟨0, 0⟩, 7)
  | some e => if e.sent.any (fun a => likeB c.fil a fr) = true then (M, e.ins, 0) else (M, ⟨0, 0⟩, 9)

/-- A right config. -/
structure Right (c : Cfg) : Prop where
  pub : c.pub ≠ 0
  map0 : 1 ≤ c.map
  map1 : c.map ≤ 3
  fil0 : 1 ≤ c.fil
  fil1 : c.fil ≤ 3
  tmo0 : 1 ≤ c.tmo
  tmo1 : c.tmo ≤ 1000000

/-- What holds of the entries of a box. -/
structure Good (m : Int) (L : List Ent) : Prop where
  len : L.length ≤ 64
  portsN : (ports L).Nodup
  keysN : (L.map (Ent.key m)).Nodup
  portR : ∀ e, e ∈ L → 1024 ≤ e.port ∧ e.port ≤ 1088
  used : ∀ e, e ∈ L → 0 ≤ e.used ∧ e.used ≤ 1000000000
  sent0 : ∀ e, e ∈ L → e.sent ≠ []
  sent1 : ∀ e, e ∈ L → e.sent.length ≤ 32

theorem cutT_in (now : Int) : 0 ≤ cutT now ∧ cutT now ≤ 1000000000 := by
  unfold cutT; split
  · omega
  · split <;> omega

theorem nodup_sub {α : Type} [DecidableEq α] : ∀ (l l' : List α), l.Nodup → (∀ x, x ∈ l → x ∈ l') → l.length ≤ l'.length
  | [], _, _, _ => by simp
  | x :: l, l', hn, hs => by
    have hx := hs x (by simp)
    obtain ⟨hxl, hn'⟩ := List.nodup_cons.1 hn
    have : l.length ≤ (l'.erase x).length := nodup_sub l (l'.erase x) hn' (fun y hy => by
      have hne : y ≠ x := fun e => hxl (e ▸ hy)
      exact (List.mem_erase_of_ne hne).2 (hs y (List.mem_cons_of_mem _ hy)))
    rw [List.length_erase_of_mem hx] at this
    have hpos : 0 < l'.length := List.length_pos_of_mem hx
    simp only [List.length_cons]; omega

theorem freeP_spec (L : List Ent) : IsFree L (freeP L) ∧ freeP L ≤ 1024 + L.length := by
  unfold freeP
  cases hf : (List.range (L.length + 1)).find? (fun k => decide (((1024 + k : Nat) : Int) ∉ ports L)) with
  | none =>
    exfalso
    rw [List.find?_eq_none] at hf
    have h1 : ∀ k, k ∈ List.range (L.length + 1) → ((1024 + k : Nat) : Int) ∈ ports L := fun k hk => by simpa using hf k hk
    have h2 := nodup_sub ((List.range (L.length + 1)).map (fun k => ((1024 + k : Nat) : Int))) (ports L) (by
      rw [List.Nodup, List.pairwise_map]
      refine List.Pairwise.imp ?_ List.nodup_range
      intro a b hab h; omega) (by
      intro x hx
      obtain ⟨k, hk, rfl⟩ := List.mem_map.1 hx
      exact h1 k hk)
    simp [ports] at h2
    omega
  | some k =>
    have h1 := List.find?_some hf
    have h2 := List.mem_of_find?_eq_some hf
    rw [List.mem_range] at h2
    simp only [Option.getD_some]
    refine ⟨⟨by omega, by simpa using h1, fun j hj hjk => ?_⟩, by omega⟩
    have h3 : ∀ i, i < k → ((1024 + i : Nat) : Int) ∈ ports L := by
      intro i hi
      rw [List.find?_eq_some_iff_append] at hf
      obtain ⟨_, as, bs, hab, has⟩ := hf
      have hlen : as.length = k := by
        have hg : (List.range (L.length + 1))[as.length]? = some k := by rw [hab]; simp
        rw [List.getElem?_eq_some_iff] at hg
        obtain ⟨hlt, hg⟩ := hg
        simpa using hg
      have hmem : i ∈ as := by
        have hg : (List.range (L.length + 1))[i]? = as[i]? := by rw [hab, List.getElem?_append_left (by omega)]
        rw [List.getElem?_range (by omega)] at hg
        exact List.mem_of_getElem? hg.symm
      have := has i hmem
      simpa using this
    have := h3 (j - 1024) (by omega)
    rw [show 1024 + (j - 1024) = j by omega] at this
    exact this

theorem IsFree.unique {L : List Ent} {a b : Nat} (ha : IsFree L a) (hb : IsFree L b) : a = b := by
  rcases Nat.lt_trichotomy a b with h | h | h
  · exact absurd (hb.2.2 a ha.1 h) ha.2.1
  · exact h
  · exact absurd (ha.2.2 b hb.1 h) hb.2.1

/-! ### Good stays -/
theorem Good.nil (m : Int) : Good m [] := ⟨by simp, by simp [ports], by simp, by simp, by simp, by simp, by simp⟩

theorem Good.filter {m : Int} {L : List Ent} (h : Good m L) (p : Ent → Bool) : Good m (L.filter p) := by
  refine ⟨Nat.le_trans (List.length_filter_le _ _) h.len, ?_, ?_, fun e he => h.portR e (List.mem_filter.1 he).1, fun e he => h.used e (List.mem_filter.1 he).1,
    fun e he => h.sent0 e (List.mem_filter.1 he).1, fun e he => h.sent1 e (List.mem_filter.1 he).1⟩
  · exact h.portsN.sublist (List.filter_sublist.map _)
  · exact h.keysN.sublist (List.filter_sublist.map _)
theorem Good.alive {m : Int} {L : List Ent} (h : Good m L) (t tmo : Int) : Good m (alive t tmo L) := h.filter _

theorem sendTo_ne {sent : List Ad} (to : Ad) (h : sent ≠ []) : sendTo sent to ≠ [] := by
  unfold sendTo; split
  · simp
  · exact h
theorem sendTo_head {sent : List Ad} (to d : Ad) (h : sent ≠ []) : (sendTo sent to).headD d = sent.headD d := by
  unfold sendTo; split
  · cases sent with
    | nil => exact absurd rfl h
    | cons a l => rfl
  · rfl
theorem sendTo_len {sent : List Ad} (to : Ad) (h : sent.length ≤ 32) : (sendTo sent to).length ≤ 32 := by
  unfold sendTo; split
  · rw [List.length_append]; simp; omega
  · exact h

theorem bump_port (m : Int) (fr to : Ad) (t : Int) (e : Ent) : (bump m fr to t e).port = e.port := by unfold bump; split <;> rfl
theorem bump_ins (m : Int) (fr to : Ad) (t : Int) (e : Ent) : (bump m fr to t e).ins = e.ins := by unfold bump; split <;> rfl
theorem bump_key (m : Int) (fr to : Ad) (t : Int) (e : Ent) (h : e.sent ≠ []) : (bump m fr to t e).key m = e.key m := by
  unfold bump; split
  · show (e.ins, red m ((sendTo e.sent to).headD ⟨0, 0⟩)) = (e.ins, red m (e.sent.headD ⟨0, 0⟩))
    rw [sendTo_head to ⟨0, 0⟩ h]
  · rfl
theorem ports_bump (m : Int) (fr to : Ad) (t : Int) (L : List Ent) : ports (L.map (bump m fr to t)) = ports L := by
  unfold ports; rw [List.map_map]; exact List.map_congr_left (fun e _ => bump_port m fr to t e)

theorem Good.bump {m : Int} {L : List Ent} (h : Good m L) (fr to : Ad) {t : Int} (h0 : 0 ≤ t) (h1 : t ≤ 1000000000) : Good m (L.map (bump m fr to t)) := by
  refine ⟨by simpa using h.len, by rw [ports_bump]; exact h.portsN, ?_, ?_, ?_, ?_, ?_⟩
  · rw [List.map_map]
    have : L.map (Ent.key m ∘ Ytbcchdnbfblooaa.bump m fr to t) = L.map (Ent.key m) := List.map_congr_left (fun e he => bump_key m fr to t e (h.sent0 e he))
    rw [this]; exact h.keysN
  · intro e he
    obtain ⟨x, hx, rfl⟩ := List.mem_map.1 he
    rw [bump_port]; exact h.portR x hx
  · intro e he
    obtain ⟨x, hx, rfl⟩ := List.mem_map.1 he
    unfold Ytbcchdnbfblooaa.bump; split
    · exact ⟨h0, h1⟩
    · exact h.used x hx
  · intro e he
    obtain ⟨x, hx, rfl⟩ := List.mem_map.1 he
    unfold Ytbcchdnbfblooaa.bump; split
    · exact sendTo_ne to (h.sent0 x hx)
    · exact h.sent0 x hx
  · intro e he
    obtain ⟨x, hx, rfl⟩ := List.mem_map.1 he
    unfold Ytbcchdnbfblooaa.bump; split
    · exact sendTo_len to (h.sent1 x hx)
    · exact h.sent1 x hx

theorem find_none_key {m : Int} {fr to : Ad} {L : List Ent} (h : L.find? (keyB m fr to) = none) : (fr, red m to) ∉ L.map (Ent.key m) := by
  rw [List.find?_eq_none] at h
  intro hm
  obtain ⟨e, he, hk⟩ := List.mem_map.1 hm
  have := h e he
  simp [keyB, hk] at this

theorem Good.snoc {m : Int} {L : List Ent} (h : Good m L) {fr to : Ad} {t : Int} (h0 : 0 ≤ t) (h1 : t ≤ 1000000000) (hl : L.length < 64) (hf : L.find? (keyB m fr to) = none) :
    Good m (L ++ [⟨fr, freeP L, t, [to]⟩]) := by
  have hfp := freeP_spec L
  have hp : ∀ x, x ∈ ports L → x ≠ (freeP L : Int) := fun x hx e => hfp.1.2.1 (e ▸ hx)
  refine ⟨by simp; omega, ?_, ?_, ?_, ?_, ?_, ?_⟩
  · unfold ports
    rw [List.map_append, List.nodup_append]
    refine ⟨h.portsN, by simp, fun a ha b hb => ?_⟩
    simp at hb; subst hb
    exact hp a ha
  · rw [List.map_append, List.nodup_append]
    refine ⟨h.keysN, by simp, fun a ha b hb => ?_⟩
    simp [Ent.key, Ent.head] at hb; subst hb
    intro e; subst e
    exact find_none_key hf ha
  · intro e he
    rcases List.mem_append.1 he with he | he
    · exact h.portR e he
    · simp at he; subst he
      have := hfp.1.1; have := hfp.2
      constructor <;> simp <;> omega
  · intro e he
    rcases List.mem_append.1 he with he | he
    · exact h.used e he
    · simp at he; subst he; exact ⟨h0, h1⟩
  · intro e he
    rcases List.mem_append.1 he with he | he
    · exact h.sent0 e he
    · simp at he; subst he; simp
  · intro e he
    rcases List.mem_append.1 he with he | he
    · exact h.sent1 e he
    · simp at he; subst he; simp

theorem Good.out {c : Cfg} {L : List Ent} (h : Good c.map L) (now : Int) (fr to : Ad) : Good c.map (outL c now fr to L).1 := by
  unfold outL
  have ht := cutT_in now
  have hM := h.alive (cutT now) c.tmo
  dsimp only
  split
  · exact hM.bump fr to ht.1 ht.2
  · split
    · exact hM
    · exact hM.snoc ht.1 ht.2 (by omega) (by assumption)
theorem Good.in_ {c : Cfg} {L : List Ent} (h : Good c.map L) (now : Int) (fr to : Ad) : Good c.map (inL c now fr to L).1 := by
  unfold inL
  have hM := h.alive (cutT now) c.tmo
  dsimp only
  split
  · exact hM
  · split
    · exact hM
    · split <;> exact hM
end Go.Proofs.Ytbcchdnbfblooaa
