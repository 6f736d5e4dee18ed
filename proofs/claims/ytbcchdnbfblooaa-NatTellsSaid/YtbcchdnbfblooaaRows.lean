/-
  No cell of these rows narrows 'for every input' (looked for: loops, veiled, ifaces, maps, wideKeys, modest, calm, conditions, laid).
  DERIVED. THE GIVEN ROWS OF THIS SEAT. 7 by the template 'for every input the law returns true; each argument reads behind the call as it read before'; 0 by the template 'total and deterministic' (their statements: YtbcchdnbfblooaaTotals.lean).
  GIVEN WITH THE SEED: the statements are not yours to turn. If you find one false, say at which input.
  Laid BY PROGRAM, IN A SANDBOX (cutbox-rows.mjs): the forced cells as the released guide's own fill.sh prints them over the translation afe6074af409b154… (all of the seat's roots in one cut). By AI agents, Wed Nov 11 2026. No macro, syntax, notation, axiom, sorry.
-/
import Derived.Test.YtbcchdnbfblooaaChecked
import GoSem.Claim
import GoSem.ClaimJoined
import GoSem.ClaimMapViews
import Derived.JoinedTies
import Derived.KernelRfl
namespace Go.Proofs.Ytbcchdnbfblooaa
/- THE CELL 'sum', in the pinned program and in every row, IS THE sha256 OF THE DUMP (.gsa) THAT YtbcchdnbfblooaaProg.lean LOADS. Nothing in Lean hashes anything: it is a label: what it is worth is what the hold of that sum in a sandbox is worth. -/
noncomputable def Try.pinned : Pinned := { name := "ytbcchdnbfblooaa", sum := "afe6074af409b154d5a8b9b313d034bb8284a850424b2565e83c31bacc771f4d", checked := Try.checked }
namespace Rows
def none {H : Type} : Left H := { results := [], args := [] }

/-- 'hatchwaylaw14.NatAnswers': WHATEVER THE INPUT: true; the input reads as it did. -/
def natAnswersSpec : ChangeSpec := { name := "natAnswers", fn := fun _ => fun
  | [d1, d2, d3, d4] => { results := [.lit (.bool true)], args := [d1, d2, d3, d4] }
  | _ => none }
def natAnswersRow : OpenClaim := { program := "ytbcchdnbfblooaa", sum := "afe6074af409b154d5a8b9b313d034bb8284a850424b2565e83c31bacc771f4d", func := "hatchway/hatchwaylaw14.NatAnswers", spec := "natAnswers", unfollowed := true, recurses := true, plainKeys := false, apart := false }
def NatAnswersSaid : Prop := natAnswersRow.holds Try.pinned (OpenSpec.ofChange natAnswersSpec)

/-- ITS FALSE NEIGHBOUR: 'it returns false'. Refute it at one input. -/
def natAnswersWrong : ChangeSpec := { name := "natAnswers", fn := fun _ => fun
  | [d1, d2, d3, d4] => { results := [.lit (.bool false)], args := [d1, d2, d3, d4] }
  | _ => none }
def NatAnswersWrongFalsely : Prop := natAnswersRow.holds Try.pinned (OpenSpec.ofChange natAnswersWrong)

/-- 'hatchwaylaw14.NatMaps': WHATEVER THE INPUT: true; the input reads as it did. -/
def natMapsSpec : ChangeSpec := { name := "natMaps", fn := fun _ => fun
  | [d1, d2, d3, d4] => { results := [.lit (.bool true)], args := [d1, d2, d3, d4] }
  | _ => none }
def natMapsRow : OpenClaim := { program := "ytbcchdnbfblooaa", sum := "afe6074af409b154d5a8b9b313d034bb8284a850424b2565e83c31bacc771f4d", func := "hatchway/hatchwaylaw14.NatMaps", spec := "natMaps", unfollowed := true, recurses := true, plainKeys := false, apart := false }
def NatMapsSaid : Prop := natMapsRow.holds Try.pinned (OpenSpec.ofChange natMapsSpec)

/-- ITS FALSE NEIGHBOUR: 'it returns false'. Refute it at one input. -/
def natMapsWrong : ChangeSpec := { name := "natMaps", fn := fun _ => fun
  | [d1, d2, d3, d4] => { results := [.lit (.bool false)], args := [d1, d2, d3, d4] }
  | _ => none }
def NatMapsWrongFalsely : Prop := natMapsRow.holds Try.pinned (OpenSpec.ofChange natMapsWrong)

/-- 'hatchwaylaw14.NatFilters': WHATEVER THE INPUT: true; the input reads as it did. -/
def natFiltersSpec : ChangeSpec := { name := "natFilters", fn := fun _ => fun
  | [d1, d2, d3, d4] => { results := [.lit (.bool true)], args := [d1, d2, d3, d4] }
  | _ => none }
def natFiltersRow : OpenClaim := { program := "ytbcchdnbfblooaa", sum := "afe6074af409b154d5a8b9b313d034bb8284a850424b2565e83c31bacc771f4d", func := "hatchway/hatchwaylaw14.NatFilters", spec := "natFilters", unfollowed := true, recurses := true, plainKeys := false, apart := false }
def NatFiltersSaid : Prop := natFiltersRow.holds Try.pinned (OpenSpec.ofChange natFiltersSpec)

/-- ITS FALSE NEIGHBOUR: 'it returns false'. Refute it at one input. -/
def natFiltersWrong : ChangeSpec := { name := "natFilters", fn := fun _ => fun
  | [d1, d2, d3, d4] => { results := [.lit (.bool false)], args := [d1, d2, d3, d4] }
  | _ => none }
def NatFiltersWrongFalsely : Prop := natFiltersRow.holds Try.pinned (OpenSpec.ofChange natFiltersWrong)

/-- 'hatchwaylaw14.NatFull': WHATEVER THE INPUT: true; the input reads as it did. -/
def natFullSpec : ChangeSpec := { name := "natFull", fn := fun _ => fun
  | [d1, d2, d3] => { results := [.lit (.bool true)], args := [d1, d2, d3] }
  | _ => none }
def natFullRow : OpenClaim := { program := "ytbcchdnbfblooaa", sum := "afe6074af409b154d5a8b9b313d034bb8284a850424b2565e83c31bacc771f4d", func := "hatchway/hatchwaylaw14.NatFull", spec := "natFull", unfollowed := true, recurses := true, plainKeys := false, apart := false }
def NatFullSaid : Prop := natFullRow.holds Try.pinned (OpenSpec.ofChange natFullSpec)

/-- ITS FALSE NEIGHBOUR: 'it returns false'. Refute it at one input. -/
def natFullWrong : ChangeSpec := { name := "natFull", fn := fun _ => fun
  | [d1, d2, d3] => { results := [.lit (.bool false)], args := [d1, d2, d3] }
  | _ => none }
def NatFullWrongFalsely : Prop := natFullRow.holds Try.pinned (OpenSpec.ofChange natFullWrong)

/-- 'hatchwaylaw14.NatKeeps': WHATEVER THE INPUT: true; the input reads as it did. -/
def natKeepsSpec : ChangeSpec := { name := "natKeeps", fn := fun _ => fun
  | [d1, d2] => { results := [.lit (.bool true)], args := [d1, d2] }
  | _ => none }
def natKeepsRow : OpenClaim := { program := "ytbcchdnbfblooaa", sum := "afe6074af409b154d5a8b9b313d034bb8284a850424b2565e83c31bacc771f4d", func := "hatchway/hatchwaylaw14.NatKeeps", spec := "natKeeps", unfollowed := true, recurses := true, plainKeys := false, apart := false }
def NatKeepsSaid : Prop := natKeepsRow.holds Try.pinned (OpenSpec.ofChange natKeepsSpec)

/-- ITS FALSE NEIGHBOUR: 'it returns false'. Refute it at one input. -/
def natKeepsWrong : ChangeSpec := { name := "natKeeps", fn := fun _ => fun
  | [d1, d2] => { results := [.lit (.bool false)], args := [d1, d2] }
  | _ => none }
def NatKeepsWrongFalsely : Prop := natKeepsRow.holds Try.pinned (OpenSpec.ofChange natKeepsWrong)

/-- 'hatchwaylaw14.NatBlind': WHATEVER THE INPUT: true; the input reads as it did. -/
def natBlindSpec : ChangeSpec := { name := "natBlind", fn := fun _ => fun
  | [d1, d2, d3] => { results := [.lit (.bool true)], args := [d1, d2, d3] }
  | _ => none }
def natBlindRow : OpenClaim := { program := "ytbcchdnbfblooaa", sum := "afe6074af409b154d5a8b9b313d034bb8284a850424b2565e83c31bacc771f4d", func := "hatchway/hatchwaylaw14.NatBlind", spec := "natBlind", unfollowed := true, recurses := true, plainKeys := false, apart := false }
def NatBlindSaid : Prop := natBlindRow.holds Try.pinned (OpenSpec.ofChange natBlindSpec)

/-- ITS FALSE NEIGHBOUR: 'it returns false'. Refute it at one input. -/
def natBlindWrong : ChangeSpec := { name := "natBlind", fn := fun _ => fun
  | [d1, d2, d3] => { results := [.lit (.bool false)], args := [d1, d2, d3] }
  | _ => none }
def NatBlindWrongFalsely : Prop := natBlindRow.holds Try.pinned (OpenSpec.ofChange natBlindWrong)

/-- 'hatchwaylaw14.NatTells': WHATEVER THE INPUT: true; the input reads as it did. -/
def natTellsSpec : ChangeSpec := { name := "natTells", fn := fun _ => fun
  | [d1, d2] => { results := [.lit (.bool true)], args := [d1, d2] }
  | _ => none }
def natTellsRow : OpenClaim := { program := "ytbcchdnbfblooaa", sum := "afe6074af409b154d5a8b9b313d034bb8284a850424b2565e83c31bacc771f4d", func := "hatchway/hatchwaylaw14.NatTells", spec := "natTells", unfollowed := true, recurses := true, plainKeys := false, apart := false }
def NatTellsSaid : Prop := natTellsRow.holds Try.pinned (OpenSpec.ofChange natTellsSpec)

/-- ITS FALSE NEIGHBOUR: 'it returns false'. Refute it at one input. -/
def natTellsWrong : ChangeSpec := { name := "natTells", fn := fun _ => fun
  | [d1, d2] => { results := [.lit (.bool false)], args := [d1, d2] }
  | _ => none }
def NatTellsWrongFalsely : Prop := natTellsRow.holds Try.pinned (OpenSpec.ofChange natTellsWrong)

/- THE SECOND FORM. 'bulk': how many values and letters a reading holds, each counted each time it is reached (what is shared counts as often as it is met; a slice's spare places count too). A statement '..UptoSaid' is the law's where the arguments, and the package variables that the reading takes, are together of bulk at most 1048576: NARROWER than '..Said'. Prove '..Said' where nothing that the law and all that it calls make is longer than what came in: it says more and counts as full. Else prove '..UptoSaid'. A law counts once. -/
mutual
def uptoBulk {H : Type} : DataW H → Nat
  | .lit (.string bytes) => bytes.length + 1
  | .lit _ => 1
  | .nil => 1
  | .ptr d => uptoBulk d + 1
  | .slice elems spare => uptoBulkAll elems + uptoBulkAll spare + 1
  | .agg parts => uptoBulkAll parts + 1
  | .iface _ d => uptoBulk d + 1
  | .map entries => uptoBulkEntries entries + 1
  | .held _ => 1
def uptoBulkAll {H : Type} : List (DataW H) → Nat
  | [] => 0
  | d :: r => uptoBulk d + uptoBulkAll r
def uptoBulkEntries {H : Type} : List (Lit × DataW H) → Nat
  | [] => 0
  | x :: r => uptoBulkEntry x + uptoBulkEntries r
def uptoBulkEntry {H : Type} : Lit × DataW H → Nat
  | (.string bytes, d) => bytes.length + uptoBulk d + 1
  | (_, d) => uptoBulk d + 1
 end
def uptoSmall : (H : Type) → List (DataW H) → Bool := fun _ ds => decide (uptoBulkAll ds ≤ 1048576)
def OpenSpec.upto (s : _root_.Go.ChangeSpec) : _root_.Go.OpenSpec := { _root_.Go.OpenSpec.ofChange s with cond := some uptoSmall }

/-- 'hatchwaylaw14.NatAnswers', WHERE WHAT IT READS IS OF BULK AT MOST 1048576: true; the input reads as it did. -/
def natAnswersUptoRow : OpenClaim := { program := "ytbcchdnbfblooaa", sum := "afe6074af409b154d5a8b9b313d034bb8284a850424b2565e83c31bacc771f4d", func := "hatchway/hatchwaylaw14.NatAnswers", spec := "natAnswers", unfollowed := true, recurses := true, plainKeys := false, apart := false, narrowed := true }
def NatAnswersUptoSaid : Prop := natAnswersUptoRow.holds Try.pinned (OpenSpec.upto natAnswersSpec)

/-- 'hatchwaylaw14.NatMaps', WHERE WHAT IT READS IS OF BULK AT MOST 1048576: true; the input reads as it did. -/
def natMapsUptoRow : OpenClaim := { program := "ytbcchdnbfblooaa", sum := "afe6074af409b154d5a8b9b313d034bb8284a850424b2565e83c31bacc771f4d", func := "hatchway/hatchwaylaw14.NatMaps", spec := "natMaps", unfollowed := true, recurses := true, plainKeys := false, apart := false, narrowed := true }
def NatMapsUptoSaid : Prop := natMapsUptoRow.holds Try.pinned (OpenSpec.upto natMapsSpec)

/-- 'hatchwaylaw14.NatFilters', WHERE WHAT IT READS IS OF BULK AT MOST 1048576: true; the input reads as it did. -/
def natFiltersUptoRow : OpenClaim := { program := "ytbcchdnbfblooaa", sum := "afe6074af409b154d5a8b9b313d034bb8284a850424b2565e83c31bacc771f4d", func := "hatchway/hatchwaylaw14.NatFilters", spec := "natFilters", unfollowed := true, recurses := true, plainKeys := false, apart := false, narrowed := true }
def NatFiltersUptoSaid : Prop := natFiltersUptoRow.holds Try.pinned (OpenSpec.upto natFiltersSpec)

/-- 'hatchwaylaw14.NatFull', WHERE WHAT IT READS IS OF BULK AT MOST 1048576: true; the input reads as it did. -/
def natFullUptoRow : OpenClaim := { program := "ytbcchdnbfblooaa", sum := "afe6074af409b154d5a8b9b313d034bb8284a850424b2565e83c31bacc771f4d", func := "hatchway/hatchwaylaw14.NatFull", spec := "natFull", unfollowed := true, recurses := true, plainKeys := false, apart := false, narrowed := true }
def NatFullUptoSaid : Prop := natFullUptoRow.holds Try.pinned (OpenSpec.upto natFullSpec)

/-- 'hatchwaylaw14.NatKeeps', WHERE WHAT IT READS IS OF BULK AT MOST 1048576: true; the input reads as it did. -/
def natKeepsUptoRow : OpenClaim := { program := "ytbcchdnbfblooaa", sum := "afe6074af409b154d5a8b9b313d034bb8284a850424b2565e83c31bacc771f4d", func := "hatchway/hatchwaylaw14.NatKeeps", spec := "natKeeps", unfollowed := true, recurses := true, plainKeys := false, apart := false, narrowed := true }
def NatKeepsUptoSaid : Prop := natKeepsUptoRow.holds Try.pinned (OpenSpec.upto natKeepsSpec)

/-- 'hatchwaylaw14.NatBlind', WHERE WHAT IT READS IS OF BULK AT MOST 1048576: true; the input reads as it did. -/
def natBlindUptoRow : OpenClaim := { program := "ytbcchdnbfblooaa", sum := "afe6074af409b154d5a8b9b313d034bb8284a850424b2565e83c31bacc771f4d", func := "hatchway/hatchwaylaw14.NatBlind", spec := "natBlind", unfollowed := true, recurses := true, plainKeys := false, apart := false, narrowed := true }
def NatBlindUptoSaid : Prop := natBlindUptoRow.holds Try.pinned (OpenSpec.upto natBlindSpec)

/-- 'hatchwaylaw14.NatTells', WHERE WHAT IT READS IS OF BULK AT MOST 1048576: true; the input reads as it did. -/
def natTellsUptoRow : OpenClaim := { program := "ytbcchdnbfblooaa", sum := "afe6074af409b154d5a8b9b313d034bb8284a850424b2565e83c31bacc771f4d", func := "hatchway/hatchwaylaw14.NatTells", spec := "natTells", unfollowed := true, recurses := true, plainKeys := false, apart := false, narrowed := true }
def NatTellsUptoSaid : Prop := natTellsUptoRow.holds Try.pinned (OpenSpec.upto natTellsSpec)

end Rows
end Go.Proofs.Ytbcchdnbfblooaa
