/-
  NARROWER THAN 'FOR EVERY INPUT', by the rows' own cells (each row's printed sentence says how): IcePriorities: laid · IceGathers: laid · IceForms: laid · IceTurned: laid · IceOrder: laid · IceKinds: laid · IcePairs: laid · IceCuts: laid · IceTries: laid.
  DERIVED. THE GIVEN ROWS OF THIS SEAT. 9 by the template 'for every input the law returns true; each argument reads behind the call as it read before'; 0 by the template 'total and deterministic' (their statements: YtoadbogfbgediaaDoorTotals.lean).
  GIVEN WITH THE SEED: the statements are not yours to turn. If you find one false, say at which input.
  Laid BY PROGRAM, IN A SANDBOX (cutbox-rows.mjs): the forced cells as the released guide's own fill.sh prints them over the translation d2ec419cc0d0307a… (all of the seat's roots in one cut). By AI agents, Wed Nov 11 2026. No macro, syntax, notation, axiom, sorry.
-/
import Derived.Test.YtoadbogfbgediaaDoorChecked
import GoSem.Claim
import GoSem.ClaimJoined
import GoSem.ClaimMapViews
import Derived.JoinedTies
import Derived.KernelRfl
namespace Go.Proofs.YtoadbogfbgediaaDoor
/- THE CELL 'sum', in the pinned program and in every row, IS THE sha256 OF THE DUMP (.gsa) THAT YtoadbogfbgediaaDoorProg.lean LOADS. Nothing in Lean hashes anything: it is a label: what it is worth is what the hold of that sum in a sandbox is worth. -/
noncomputable def Tryd.pinned : Pinned := { name := "ytoadbogfbgediaadoor", sum := "d2ec419cc0d0307a8564a2d75b26efc001ce33adbc7eaaef7a1224e3f440467f", checked := Tryd.checked }
namespace Rows
def none {H : Type} : Left H := { results := [], args := [] }

/- WHAT THE LISTED PACKAGE-LEVEL VARIABLES READ AS WHEN THE CALL BEGINS. Each datum BY PROGRAM (the guide's laid-datum.mjs) off the statement by which the dump's own 'gosem.cut.vars' lays the variable. In a bare row this is a premise. The card (YtoadbogfbgediaaDoorCards.lean) ties it to the program's text. -/
def laid_hatchway_ice_kinds {H : Type} : DataW H := .map [(.int .i64 1, .lit (.int .u32 126)), (.int .i64 2, .lit (.int .u32 110)), (.int .i64 3, .lit (.int .u32 100)), (.int .i64 4, .lit (.int .u32 0))]

/-- 'hatchwaylaw16.IcePriorities': WHATEVER THE INPUT: true; the input reads as it did. -/
def icePrioritiesSpec : ChangeSpec := { name := "icePriorities", fn := fun _ => fun
  | [d1, d2, d3, d4] => { results := [.lit (.bool true)], args := [d1, d2, d3, d4] }
  | _ => none }
def icePrioritiesRow : OpenClaim := { program := "ytoadbogfbgediaadoor", sum := "d2ec419cc0d0307a8564a2d75b26efc001ce33adbc7eaaef7a1224e3f440467f", func := "hatchway/hatchwaylaw16.IcePriorities", spec := "icePriorities", unfollowed := true, recurses := true, named := ["hatchway/ice.kinds"], plainKeys := false, apart := false, laid := [("hatchway/ice.kinds", laid_hatchway_ice_kinds)] }
def IcePrioritiesSaid : Prop := icePrioritiesRow.holds Tryd.pinned (OpenSpec.ofChange icePrioritiesSpec)

/-- ITS FALSE NEIGHBOUR: 'it returns false'. Refute it at one input. -/
def icePrioritiesWrong : ChangeSpec := { name := "icePriorities", fn := fun _ => fun
  | [d1, d2, d3, d4] => { results := [.lit (.bool false)], args := [d1, d2, d3, d4] }
  | _ => none }
def IcePrioritiesWrongFalsely : Prop := icePrioritiesRow.holds Tryd.pinned (OpenSpec.ofChange icePrioritiesWrong)

/-- 'hatchwaylaw16.IceGathers': WHATEVER THE INPUT: true; the input reads as it did. -/
def iceGathersSpec : ChangeSpec := { name := "iceGathers", fn := fun _ => fun
  | [d] => { results := [.lit (.bool true)], args := [d] }
  | _ => none }
def iceGathersRow : OpenClaim := { program := "ytoadbogfbgediaadoor", sum := "d2ec419cc0d0307a8564a2d75b26efc001ce33adbc7eaaef7a1224e3f440467f", func := "hatchway/hatchwaylaw16.IceGathers", spec := "iceGathers", unfollowed := true, recurses := true, named := ["hatchway/ice.kinds"], plainKeys := false, apart := false, laid := [("hatchway/ice.kinds", laid_hatchway_ice_kinds)] }
def IceGathersSaid : Prop := iceGathersRow.holds Tryd.pinned (OpenSpec.ofChange iceGathersSpec)

/-- ITS FALSE NEIGHBOUR: 'it returns false'. Refute it at one input. -/
def iceGathersWrong : ChangeSpec := { name := "iceGathers", fn := fun _ => fun
  | [d] => { results := [.lit (.bool false)], args := [d] }
  | _ => none }
def IceGathersWrongFalsely : Prop := iceGathersRow.holds Tryd.pinned (OpenSpec.ofChange iceGathersWrong)

/-- 'hatchwaylaw16.IceForms': WHATEVER THE INPUT: true; the input reads as it did. -/
def iceFormsSpec : ChangeSpec := { name := "iceForms", fn := fun _ => fun
  | [d1, d2, d3] => { results := [.lit (.bool true)], args := [d1, d2, d3] }
  | _ => none }
def iceFormsRow : OpenClaim := { program := "ytoadbogfbgediaadoor", sum := "d2ec419cc0d0307a8564a2d75b26efc001ce33adbc7eaaef7a1224e3f440467f", func := "hatchway/hatchwaylaw16.IceForms", spec := "iceForms", unfollowed := true, recurses := true, named := ["hatchway/ice.kinds"], plainKeys := false, apart := false, laid := [("hatchway/ice.kinds", laid_hatchway_ice_kinds)] }
def IceFormsSaid : Prop := iceFormsRow.holds Tryd.pinned (OpenSpec.ofChange iceFormsSpec)

/-- ITS FALSE NEIGHBOUR: 'it returns false'. Refute it at one input. -/
def iceFormsWrong : ChangeSpec := { name := "iceForms", fn := fun _ => fun
  | [d1, d2, d3] => { results := [.lit (.bool false)], args := [d1, d2, d3] }
  | _ => none }
def IceFormsWrongFalsely : Prop := iceFormsRow.holds Tryd.pinned (OpenSpec.ofChange iceFormsWrong)

/-- 'hatchwaylaw16.IceTurned': WHATEVER THE INPUT: true; the input reads as it did. -/
def iceTurnedSpec : ChangeSpec := { name := "iceTurned", fn := fun _ => fun
  | [d1, d2] => { results := [.lit (.bool true)], args := [d1, d2] }
  | _ => none }
def iceTurnedRow : OpenClaim := { program := "ytoadbogfbgediaadoor", sum := "d2ec419cc0d0307a8564a2d75b26efc001ce33adbc7eaaef7a1224e3f440467f", func := "hatchway/hatchwaylaw16.IceTurned", spec := "iceTurned", unfollowed := true, recurses := true, named := ["hatchway/ice.kinds"], plainKeys := false, apart := false, laid := [("hatchway/ice.kinds", laid_hatchway_ice_kinds)] }
def IceTurnedSaid : Prop := iceTurnedRow.holds Tryd.pinned (OpenSpec.ofChange iceTurnedSpec)

/-- ITS FALSE NEIGHBOUR: 'it returns false'. Refute it at one input. -/
def iceTurnedWrong : ChangeSpec := { name := "iceTurned", fn := fun _ => fun
  | [d1, d2] => { results := [.lit (.bool false)], args := [d1, d2] }
  | _ => none }
def IceTurnedWrongFalsely : Prop := iceTurnedRow.holds Tryd.pinned (OpenSpec.ofChange iceTurnedWrong)

/-- 'hatchwaylaw16.IceOrder': WHATEVER THE INPUT: true; the input reads as it did. -/
def iceOrderSpec : ChangeSpec := { name := "iceOrder", fn := fun _ => fun
  | [d1, d2] => { results := [.lit (.bool true)], args := [d1, d2] }
  | _ => none }
def iceOrderRow : OpenClaim := { program := "ytoadbogfbgediaadoor", sum := "d2ec419cc0d0307a8564a2d75b26efc001ce33adbc7eaaef7a1224e3f440467f", func := "hatchway/hatchwaylaw16.IceOrder", spec := "iceOrder", unfollowed := true, recurses := true, named := ["hatchway/ice.kinds"], plainKeys := false, apart := false, laid := [("hatchway/ice.kinds", laid_hatchway_ice_kinds)] }
def IceOrderSaid : Prop := iceOrderRow.holds Tryd.pinned (OpenSpec.ofChange iceOrderSpec)

/-- ITS FALSE NEIGHBOUR: 'it returns false'. Refute it at one input. -/
def iceOrderWrong : ChangeSpec := { name := "iceOrder", fn := fun _ => fun
  | [d1, d2] => { results := [.lit (.bool false)], args := [d1, d2] }
  | _ => none }
def IceOrderWrongFalsely : Prop := iceOrderRow.holds Tryd.pinned (OpenSpec.ofChange iceOrderWrong)

/-- 'hatchwaylaw16.IceKinds': WHATEVER THE INPUT: true; the input reads as it did. -/
def iceKindsSpec : ChangeSpec := { name := "iceKinds", fn := fun _ => fun
  | [d1, d2, d3, d4] => { results := [.lit (.bool true)], args := [d1, d2, d3, d4] }
  | _ => none }
def iceKindsRow : OpenClaim := { program := "ytoadbogfbgediaadoor", sum := "d2ec419cc0d0307a8564a2d75b26efc001ce33adbc7eaaef7a1224e3f440467f", func := "hatchway/hatchwaylaw16.IceKinds", spec := "iceKinds", unfollowed := true, recurses := true, named := ["hatchway/ice.kinds"], plainKeys := false, apart := false, laid := [("hatchway/ice.kinds", laid_hatchway_ice_kinds)] }
def IceKindsSaid : Prop := iceKindsRow.holds Tryd.pinned (OpenSpec.ofChange iceKindsSpec)

/-- ITS FALSE NEIGHBOUR: 'it returns false'. Refute it at one input. -/
def iceKindsWrong : ChangeSpec := { name := "iceKinds", fn := fun _ => fun
  | [d1, d2, d3, d4] => { results := [.lit (.bool false)], args := [d1, d2, d3, d4] }
  | _ => none }
def IceKindsWrongFalsely : Prop := iceKindsRow.holds Tryd.pinned (OpenSpec.ofChange iceKindsWrong)

/-- 'hatchwaylaw16.IcePairs': WHATEVER THE INPUT: true; the input reads as it did. -/
def icePairsSpec : ChangeSpec := { name := "icePairs", fn := fun _ => fun
  | [d1, d2, d3, d4] => { results := [.lit (.bool true)], args := [d1, d2, d3, d4] }
  | _ => none }
def icePairsRow : OpenClaim := { program := "ytoadbogfbgediaadoor", sum := "d2ec419cc0d0307a8564a2d75b26efc001ce33adbc7eaaef7a1224e3f440467f", func := "hatchway/hatchwaylaw16.IcePairs", spec := "icePairs", unfollowed := true, recurses := true, named := ["hatchway/ice.kinds"], plainKeys := false, apart := false, laid := [("hatchway/ice.kinds", laid_hatchway_ice_kinds)] }
def IcePairsSaid : Prop := icePairsRow.holds Tryd.pinned (OpenSpec.ofChange icePairsSpec)

/-- ITS FALSE NEIGHBOUR: 'it returns false'. Refute it at one input. -/
def icePairsWrong : ChangeSpec := { name := "icePairs", fn := fun _ => fun
  | [d1, d2, d3, d4] => { results := [.lit (.bool false)], args := [d1, d2, d3, d4] }
  | _ => none }
def IcePairsWrongFalsely : Prop := icePairsRow.holds Tryd.pinned (OpenSpec.ofChange icePairsWrong)

/-- 'hatchwaylaw16.IceCuts': WHATEVER THE INPUT: true; the input reads as it did. -/
def iceCutsSpec : ChangeSpec := { name := "iceCuts", fn := fun _ => fun
  | [d] => { results := [.lit (.bool true)], args := [d] }
  | _ => none }
def iceCutsRow : OpenClaim := { program := "ytoadbogfbgediaadoor", sum := "d2ec419cc0d0307a8564a2d75b26efc001ce33adbc7eaaef7a1224e3f440467f", func := "hatchway/hatchwaylaw16.IceCuts", spec := "iceCuts", unfollowed := true, recurses := true, named := ["hatchway/ice.kinds"], plainKeys := false, apart := false, laid := [("hatchway/ice.kinds", laid_hatchway_ice_kinds)] }
def IceCutsSaid : Prop := iceCutsRow.holds Tryd.pinned (OpenSpec.ofChange iceCutsSpec)

/-- ITS FALSE NEIGHBOUR: 'it returns false'. Refute it at one input. -/
def iceCutsWrong : ChangeSpec := { name := "iceCuts", fn := fun _ => fun
  | [d] => { results := [.lit (.bool false)], args := [d] }
  | _ => none }
def IceCutsWrongFalsely : Prop := iceCutsRow.holds Tryd.pinned (OpenSpec.ofChange iceCutsWrong)

/-- 'hatchwaylaw16.IceTries': WHATEVER THE INPUT: true; the input reads as it did. -/
def iceTriesSpec : ChangeSpec := { name := "iceTries", fn := fun _ => fun
  | [d] => { results := [.lit (.bool true)], args := [d] }
  | _ => none }
def iceTriesRow : OpenClaim := { program := "ytoadbogfbgediaadoor", sum := "d2ec419cc0d0307a8564a2d75b26efc001ce33adbc7eaaef7a1224e3f440467f", func := "hatchway/hatchwaylaw16.IceTries", spec := "iceTries", unfollowed := true, recurses := true, named := ["hatchway/ice.kinds"], plainKeys := false, apart := false, laid := [("hatchway/ice.kinds", laid_hatchway_ice_kinds)] }
def IceTriesSaid : Prop := iceTriesRow.holds Tryd.pinned (OpenSpec.ofChange iceTriesSpec)

/-- ITS FALSE NEIGHBOUR: 'it returns false'. Refute it at one input. -/
def iceTriesWrong : ChangeSpec := { name := "iceTries", fn := fun _ => fun
  | [d] => { results := [.lit (.bool false)], args := [d] }
  | _ => none }
def IceTriesWrongFalsely : Prop := iceTriesRow.holds Tryd.pinned (OpenSpec.ofChange iceTriesWrong)

/- THE SECOND FORM. 'bulk': how many values and letters a reading holds, each counted each time it is reached (what is shared counts as often as it is met; a slice's spare places count too). A statement '..UptoSaid' is the law's where the arguments, and the package variables that the reading takes, are together of bulk at most 1048576: NARROWER than '..Said'. Prove '..Said' where nothing that the law and all that it calls make is longer than what came in: it says more and counts as full. Else prove '..UptoSaid'. A law counts once. -/
mutual
def uptoBulk {H : Type} : DataW H → Nat
  | .lit (.string bytes) => bytes.length + 1
  | .lit _ => 1
  | .nil => 1
  | .ptr d => uptoBulk d + 1
  | .slice elems spare => uptoBulkAll elems + uptoBulkAll spare + 1
  | .agg parts => uptoBulkAll parts + 1
  | .iface _ d => uptoBulk d + 1
  | .map entries => uptoBulkEntries entries + 1
  | .held _ => 1
def uptoBulkAll {H : Type} : List (DataW H) → Nat
  | [] => 0
  | d :: r => uptoBulk d + uptoBulkAll r
def uptoBulkEntries {H : Type} : List (Lit × DataW H) → Nat
  | [] => 0
  | x :: r => uptoBulkEntry x + uptoBulkEntries r
def uptoBulkEntry {H : Type} : Lit × DataW H → Nat
  | (.string bytes, d) => bytes.length + uptoBulk d + 1
  | (_, d) => uptoBulk d + 1
 end
def uptoSmall : (H : Type) → List (DataW H) → Bool := fun _ ds => decide (uptoBulkAll ds ≤ 1048576)
def OpenSpec.upto (s : _root_.Go.ChangeSpec) : _root_.Go.OpenSpec := { _root_.Go.OpenSpec.ofChange s with cond := some uptoSmall }

/-- 'hatchwaylaw16.IcePriorities', WHERE WHAT IT READS IS OF BULK AT MOST 1048576: true; the input reads as it did. -/
def icePrioritiesUptoRow : OpenClaim := { program := "ytoadbogfbgediaadoor", sum := "d2ec419cc0d0307a8564a2d75b26efc001ce33adbc7eaaef7a1224e3f440467f", func := "hatchway/hatchwaylaw16.IcePriorities", spec := "icePriorities", unfollowed := true, recurses := true, named := ["hatchway/ice.kinds"], plainKeys := false, apart := false, laid := [("hatchway/ice.kinds", laid_hatchway_ice_kinds)], narrowed := true }
def IcePrioritiesUptoSaid : Prop := icePrioritiesUptoRow.holds Tryd.pinned (OpenSpec.upto icePrioritiesSpec)

/-- 'hatchwaylaw16.IceGathers', WHERE WHAT IT READS IS OF BULK AT MOST 1048576: true; the input reads as it did. -/
def iceGathersUptoRow : OpenClaim := { program := "ytoadbogfbgediaadoor", sum := "d2ec419cc0d0307a8564a2d75b26efc001ce33adbc7eaaef7a1224e3f440467f", func := "hatchway/hatchwaylaw16.IceGathers", spec := "iceGathers", unfollowed := true, recurses := true, named := ["hatchway/ice.kinds"], plainKeys := false, apart := false, laid := [("hatchway/ice.kinds", laid_hatchway_ice_kinds)], narrowed := true }
def IceGathersUptoSaid : Prop := iceGathersUptoRow.holds Tryd.pinned (OpenSpec.upto iceGathersSpec)

/-- 'hatchwaylaw16.IceForms', WHERE WHAT IT READS IS OF BULK AT MOST 1048576: true; the input reads as it did. -/
def iceFormsUptoRow : OpenClaim := { program := "ytoadbogfbgediaadoor", sum := "d2ec419cc0d0307a8564a2d75b26efc001ce33adbc7eaaef7a1224e3f440467f", func := "hatchway/hatchwaylaw16.IceForms", spec := "iceForms", unfollowed := true, recurses := true, named := ["hatchway/ice.kinds"], plainKeys := false, apart := false, laid := [("hatchway/ice.kinds", laid_hatchway_ice_kinds)], narrowed := true }
def IceFormsUptoSaid : Prop := iceFormsUptoRow.holds Tryd.pinned (OpenSpec.upto iceFormsSpec)

/-- 'hatchwaylaw16.IceTurned', WHERE WHAT IT READS IS OF BULK AT MOST 1048576: true; the input reads as it did. -/
def iceTurnedUptoRow : OpenClaim := { program := "ytoadbogfbgediaadoor", sum := "d2ec419cc0d0307a8564a2d75b26efc001ce33adbc7eaaef7a1224e3f440467f", func := "hatchway/hatchwaylaw16.IceTurned", spec := "iceTurned", unfollowed := true, recurses := true, named := ["hatchway/ice.kinds"], plainKeys := false, apart := false, laid := [("hatchway/ice.kinds", laid_hatchway_ice_kinds)], narrowed := true }
def IceTurnedUptoSaid : Prop := iceTurnedUptoRow.holds Tryd.pinned (OpenSpec.upto iceTurnedSpec)

/-- 'hatchwaylaw16.IceOrder', WHERE WHAT IT READS IS OF BULK AT MOST 1048576: true; the input reads as it did. -/
def iceOrderUptoRow : OpenClaim := { program := "ytoadbogfbgediaadoor", sum := "d2ec419cc0d0307a8564a2d75b26efc001ce33adbc7eaaef7a1224e3f440467f", func := "hatchway/hatchwaylaw16.IceOrder", spec := "iceOrder", unfollowed := true, recurses := true, named := ["hatchway/ice.kinds"], plainKeys := false, apart := false, laid := [("hatchway/ice.kinds", laid_hatchway_ice_kinds)], narrowed := true }
def IceOrderUptoSaid : Prop := iceOrderUptoRow.holds Tryd.pinned (OpenSpec.upto iceOrderSpec)

/-- 'hatchwaylaw16.IceKinds', WHERE WHAT IT READS IS OF BULK AT MOST 1048576: true; the input reads as it did. -/
def iceKindsUptoRow : OpenClaim := { program := "ytoadbogfbgediaadoor", sum := "d2ec419cc0d0307a8564a2d75b26efc001ce33adbc7eaaef7a1224e3f440467f", func := "hatchway/hatchwaylaw16.IceKinds", spec := "iceKinds", unfollowed := true, recurses := true, named := ["hatchway/ice.kinds"], plainKeys := false, apart := false, laid := [("hatchway/ice.kinds", laid_hatchway_ice_kinds)], narrowed := true }
def IceKindsUptoSaid : Prop := iceKindsUptoRow.holds Tryd.pinned (OpenSpec.upto iceKindsSpec)

/-- 'hatchwaylaw16.IcePairs', WHERE WHAT IT READS IS OF BULK AT MOST 1048576: true; the input reads as it did. -/
def icePairsUptoRow : OpenClaim := { program := "ytoadbogfbgediaadoor", sum := "d2ec419cc0d0307a8564a2d75b26efc001ce33adbc7eaaef7a1224e3f440467f", func := "hatchway/hatchwaylaw16.IcePairs", spec := "icePairs", unfollowed := true, recurses := true, named := ["hatchway/ice.kinds"], plainKeys := false, apart := false, laid := [("hatchway/ice.kinds", laid_hatchway_ice_kinds)], narrowed := true }
def IcePairsUptoSaid : Prop := icePairsUptoRow.holds Tryd.pinned (OpenSpec.upto icePairsSpec)

/-- 'hatchwaylaw16.IceCuts', WHERE WHAT IT READS IS OF BULK AT MOST 1048576: true; the input reads as it did. -/
def iceCutsUptoRow : OpenClaim := { program := "ytoadbogfbgediaadoor", sum := "d2ec419cc0d0307a8564a2d75b26efc001ce33adbc7eaaef7a1224e3f440467f", func := "hatchway/hatchwaylaw16.IceCuts", spec := "iceCuts", unfollowed := true, recurses := true, named := ["hatchway/ice.kinds"], plainKeys := false, apart := false, laid := [("hatchway/ice.kinds", laid_hatchway_ice_kinds)], narrowed := true }
def IceCutsUptoSaid : Prop := iceCutsUptoRow.holds Tryd.pinned (OpenSpec.upto iceCutsSpec)

/-- 'hatchwaylaw16.IceTries', WHERE WHAT IT READS IS OF BULK AT MOST 1048576: true; the input reads as it did. -/
def iceTriesUptoRow : OpenClaim := { program := "ytoadbogfbgediaadoor", sum := "d2ec419cc0d0307a8564a2d75b26efc001ce33adbc7eaaef7a1224e3f440467f", func := "hatchway/hatchwaylaw16.IceTries", spec := "iceTries", unfollowed := true, recurses := true, named := ["hatchway/ice.kinds"], plainKeys := false, apart := false, laid := [("hatchway/ice.kinds", laid_hatchway_ice_kinds)], narrowed := true }
def IceTriesUptoSaid : Prop := iceTriesUptoRow.holds Tryd.pinned (OpenSpec.upto iceTriesSpec)

end Rows
end Go.Proofs.YtoadbogfbgediaaDoor
