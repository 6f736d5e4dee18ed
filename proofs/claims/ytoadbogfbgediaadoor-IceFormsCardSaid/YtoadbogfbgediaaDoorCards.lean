/-
  DERIVED. GIVEN WITH THE SEED: THE CARDS: each row of YtoadbogfbgediaaDoorRows.lean that lists a variable, with what it lists TIED to the program's text (the seventh form; the later family's looks); each row that meets fmt, with fmt's text TOLD by the authors' own Lean function (tested against real Go, not proved from fmt's source: count such statements apart). THE CARD IS WHAT COUNTS. Prove the row's statement (the work); the ties are given (YtoadbogfbgediaaDoorTie.lean); close each card by the builder's one call (the guide's Derived/Test/ToyasCard.lean, 'card_holds'). Laid BY PROGRAM, IN A SANDBOX (cutbox-door.mjs). By AI agents, Wed Nov 11 2026. No macro, syntax, notation, axiom, sorry.
-/
import Derived.Test.YtoadbogfbgediaaDoorRows
import GoSem.ClaimSeven
namespace Go.Proofs.YtoadbogfbgediaaDoor
namespace Rows

/-- THE TIED CARD OF 'hatchwaylaw16.IcePriorities'. -/
def icePrioritiesCard : Claim7 := { stood := { row := icePrioritiesRow, standIns := [], harness := (true, "06edf2fcab31c51c63bd59a48005af19c29fb288dbe7d774de9c6592395e74d6"), looks := false }, kinds := [], alts := [], laidByText := true, laidKinds := [.mapped], laidTests := true, laidLooks := .later }
def IcePrioritiesCardSaid : Prop := Claim7.holds Tryd.pinned (.plain (OpenSpec.ofChange icePrioritiesSpec)) icePrioritiesCard

/-- THE TIED CARD OF 'hatchwaylaw16.IceGathers'. -/
def iceGathersCard : Claim7 := { stood := { row := iceGathersRow, standIns := [], harness := (true, "06edf2fcab31c51c63bd59a48005af19c29fb288dbe7d774de9c6592395e74d6"), looks := false }, kinds := [], alts := [], laidByText := true, laidKinds := [.mapped], laidTests := true, laidLooks := .later }
def IceGathersCardSaid : Prop := Claim7.holds Tryd.pinned (.plain (OpenSpec.ofChange iceGathersSpec)) iceGathersCard

/-- THE TIED CARD OF 'hatchwaylaw16.IceForms'. -/
def iceFormsCard : Claim7 := { stood := { row := iceFormsRow, standIns := [], harness := (true, "06edf2fcab31c51c63bd59a48005af19c29fb288dbe7d774de9c6592395e74d6"), looks := false }, kinds := [], alts := [], laidByText := true, laidKinds := [.mapped], laidTests := true, laidLooks := .later }
def IceFormsCardSaid : Prop := Claim7.holds Tryd.pinned (.plain (OpenSpec.ofChange iceFormsSpec)) iceFormsCard

/-- THE TIED CARD OF 'hatchwaylaw16.IceTurned'. -/
def iceTurnedCard : Claim7 := { stood := { row := iceTurnedRow, standIns := [], harness := (true, "06edf2fcab31c51c63bd59a48005af19c29fb288dbe7d774de9c6592395e74d6"), looks := false }, kinds := [], alts := [], laidByText := true, laidKinds := [.mapped], laidTests := true, laidLooks := .later }
def IceTurnedCardSaid : Prop := Claim7.holds Tryd.pinned (.plain (OpenSpec.ofChange iceTurnedSpec)) iceTurnedCard

/-- THE TIED CARD OF 'hatchwaylaw16.IceOrder'. -/
def iceOrderCard : Claim7 := { stood := { row := iceOrderRow, standIns := [], harness := (true, "06edf2fcab31c51c63bd59a48005af19c29fb288dbe7d774de9c6592395e74d6"), looks := false }, kinds := [], alts := [], laidByText := true, laidKinds := [.mapped], laidTests := true, laidLooks := .later }
def IceOrderCardSaid : Prop := Claim7.holds Tryd.pinned (.plain (OpenSpec.ofChange iceOrderSpec)) iceOrderCard

/-- THE TIED CARD OF 'hatchwaylaw16.IceKinds'. -/
def iceKindsCard : Claim7 := { stood := { row := iceKindsRow, standIns := [], harness := (true, "06edf2fcab31c51c63bd59a48005af19c29fb288dbe7d774de9c6592395e74d6"), looks := false }, kinds := [], alts := [], laidByText := true, laidKinds := [.mapped], laidTests := true, laidLooks := .later }
def IceKindsCardSaid : Prop := Claim7.holds Tryd.pinned (.plain (OpenSpec.ofChange iceKindsSpec)) iceKindsCard

/-- THE TIED CARD OF 'hatchwaylaw16.IcePairs'. -/
def icePairsCard : Claim7 := { stood := { row := icePairsRow, standIns := [], harness := (true, "06edf2fcab31c51c63bd59a48005af19c29fb288dbe7d774de9c6592395e74d6"), looks := false }, kinds := [], alts := [], laidByText := true, laidKinds := [.mapped], laidTests := true, laidLooks := .later }
def IcePairsCardSaid : Prop := Claim7.holds Tryd.pinned (.plain (OpenSpec.ofChange icePairsSpec)) icePairsCard

/-- THE TIED CARD OF 'hatchwaylaw16.IceCuts'. -/
def iceCutsCard : Claim7 := { stood := { row := iceCutsRow, standIns := [], harness := (true, "06edf2fcab31c51c63bd59a48005af19c29fb288dbe7d774de9c6592395e74d6"), looks := false }, kinds := [], alts := [], laidByText := true, laidKinds := [.mapped], laidTests := true, laidLooks := .later }
def IceCutsCardSaid : Prop := Claim7.holds Tryd.pinned (.plain (OpenSpec.ofChange iceCutsSpec)) iceCutsCard

/-- THE TIED CARD OF 'hatchwaylaw16.IceTries'. -/
def iceTriesCard : Claim7 := { stood := { row := iceTriesRow, standIns := [], harness := (true, "06edf2fcab31c51c63bd59a48005af19c29fb288dbe7d774de9c6592395e74d6"), looks := false }, kinds := [], alts := [], laidByText := true, laidKinds := [.mapped], laidTests := true, laidLooks := .later }
def IceTriesCardSaid : Prop := Claim7.holds Tryd.pinned (.plain (OpenSpec.ofChange iceTriesSpec)) iceTriesCard

/-- THE SECOND FORM's CARD OF 'hatchwaylaw16.IcePriorities'. -/
def icePrioritiesUptoCard : Claim7 := { stood := { row := icePrioritiesUptoRow, standIns := [], harness := (true, "06edf2fcab31c51c63bd59a48005af19c29fb288dbe7d774de9c6592395e74d6"), looks := false }, kinds := [], alts := [], laidByText := true, laidKinds := [.mapped], laidTests := true, laidLooks := .later }
def IcePrioritiesUptoCardSaid : Prop := Claim7.holds Tryd.pinned (.plain (OpenSpec.upto icePrioritiesSpec)) icePrioritiesUptoCard

/-- THE SECOND FORM's CARD OF 'hatchwaylaw16.IceGathers'. -/
def iceGathersUptoCard : Claim7 := { stood := { row := iceGathersUptoRow, standIns := [], harness := (true, "06edf2fcab31c51c63bd59a48005af19c29fb288dbe7d774de9c6592395e74d6"), looks := false }, kinds := [], alts := [], laidByText := true, laidKinds := [.mapped], laidTests := true, laidLooks := .later }
def IceGathersUptoCardSaid : Prop := Claim7.holds Tryd.pinned (.plain (OpenSpec.upto iceGathersSpec)) iceGathersUptoCard

/-- THE SECOND FORM's CARD OF 'hatchwaylaw16.IceForms'. -/
def iceFormsUptoCard : Claim7 := { stood := { row := iceFormsUptoRow, standIns := [], harness := (true, "06edf2fcab31c51c63bd59a48005af19c29fb288dbe7d774de9c6592395e74d6"), looks := false }, kinds := [], alts := [], laidByText := true, laidKinds := [.mapped], laidTests := true, laidLooks := .later }
def IceFormsUptoCardSaid : Prop := Claim7.holds Tryd.pinned (.plain (OpenSpec.upto iceFormsSpec)) iceFormsUptoCard

/-- THE SECOND FORM's CARD OF 'hatchwaylaw16.IceTurned'. -/
def iceTurnedUptoCard : Claim7 := { stood := { row := iceTurnedUptoRow, standIns := [], harness := (true, "06edf2fcab31c51c63bd59a48005af19c29fb288dbe7d774de9c6592395e74d6"), looks := false }, kinds := [], alts := [], laidByText := true, laidKinds := [.mapped], laidTests := true, laidLooks := .later }
def IceTurnedUptoCardSaid : Prop := Claim7.holds Tryd.pinned (.plain (OpenSpec.upto iceTurnedSpec)) iceTurnedUptoCard

/-- THE SECOND FORM's CARD OF 'hatchwaylaw16.IceOrder'. -/
def iceOrderUptoCard : Claim7 := { stood := { row := iceOrderUptoRow, standIns := [], harness := (true, "06edf2fcab31c51c63bd59a48005af19c29fb288dbe7d774de9c6592395e74d6"), looks := false }, kinds := [], alts := [], laidByText := true, laidKinds := [.mapped], laidTests := true, laidLooks := .later }
def IceOrderUptoCardSaid : Prop := Claim7.holds Tryd.pinned (.plain (OpenSpec.upto iceOrderSpec)) iceOrderUptoCard

/-- THE SECOND FORM's CARD OF 'hatchwaylaw16.IceKinds'. -/
def iceKindsUptoCard : Claim7 := { stood := { row := iceKindsUptoRow, standIns := [], harness := (true, "06edf2fcab31c51c63bd59a48005af19c29fb288dbe7d774de9c6592395e74d6"), looks := false }, kinds := [], alts := [], laidByText := true, laidKinds := [.mapped], laidTests := true, laidLooks := .later }
def IceKindsUptoCardSaid : Prop := Claim7.holds Tryd.pinned (.plain (OpenSpec.upto iceKindsSpec)) iceKindsUptoCard

/-- THE SECOND FORM's CARD OF 'hatchwaylaw16.IcePairs'. -/
def icePairsUptoCard : Claim7 := { stood := { row := icePairsUptoRow, standIns := [], harness := (true, "06edf2fcab31c51c63bd59a48005af19c29fb288dbe7d774de9c6592395e74d6"), looks := false }, kinds := [], alts := [], laidByText := true, laidKinds := [.mapped], laidTests := true, laidLooks := .later }
def IcePairsUptoCardSaid : Prop := Claim7.holds Tryd.pinned (.plain (OpenSpec.upto icePairsSpec)) icePairsUptoCard

/-- THE SECOND FORM's CARD OF 'hatchwaylaw16.IceCuts'. -/
def iceCutsUptoCard : Claim7 := { stood := { row := iceCutsUptoRow, standIns := [], harness := (true, "06edf2fcab31c51c63bd59a48005af19c29fb288dbe7d774de9c6592395e74d6"), looks := false }, kinds := [], alts := [], laidByText := true, laidKinds := [.mapped], laidTests := true, laidLooks := .later }
def IceCutsUptoCardSaid : Prop := Claim7.holds Tryd.pinned (.plain (OpenSpec.upto iceCutsSpec)) iceCutsUptoCard

/-- THE SECOND FORM's CARD OF 'hatchwaylaw16.IceTries'. -/
def iceTriesUptoCard : Claim7 := { stood := { row := iceTriesUptoRow, standIns := [], harness := (true, "06edf2fcab31c51c63bd59a48005af19c29fb288dbe7d774de9c6592395e74d6"), looks := false }, kinds := [], alts := [], laidByText := true, laidKinds := [.mapped], laidTests := true, laidLooks := .later }
def IceTriesUptoCardSaid : Prop := Claim7.holds Tryd.pinned (.plain (OpenSpec.upto iceTriesSpec)) iceTriesUptoCard
end Rows
end Go.Proofs.YtoadbogfbgediaaDoor
