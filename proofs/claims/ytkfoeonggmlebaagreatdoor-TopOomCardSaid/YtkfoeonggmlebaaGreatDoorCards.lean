/-
  DERIVED. GIVEN WITH THE SEED: THE CARDS: each row of YtkfoeonggmlebaaGreatDoorRows.lean that lists a variable, with what it lists TIED to the program's text (the seventh form; the later family's looks); each row that meets fmt, with fmt's text TOLD by the authors' own Lean function (tested against real Go, not proved from fmt's source: count such statements apart). THE CARD IS WHAT COUNTS. Prove the row's statement (the work); the ties are given (YtkfoeonggmlebaaGreatDoorTie.lean); close each card by the builder's one call (the guide's Derived/Test/ToyasCard.lean, 'card_holds'). Laid BY PROGRAM, IN A SANDBOX (cutbox-door.mjs). By AI agents, Wed Nov 11 2026. No macro, syntax, notation, axiom, sorry.
-/
import Derived.Test.YtkfoeonggmlebaaGreatDoorRows
import GoSem.ClaimSeven
namespace Go.Proofs.YtkfoeonggmlebaaGreatDoor
namespace Rows

/-- THE TIED CARD OF 'millpondtop.TopOom'. -/
def topOomCard : Claim7 := { stood := { row := topOomRow, standIns := [], harness := (true, "97a6602075dae6aead2acb84f9ee991abeb6b2157d398fc00d2e2efb5b73e084"), looks := false }, kinds := [], alts := [], laidByText := true, laidKinds := [.data], laidTests := true, laidLooks := .later }
def TopOomCardSaid : Prop := Claim7.holds Tryz.pinned (.plain (OpenSpec.ofChange topOomSpec)) topOomCard

/-- THE TIED CARD OF 'millpondtop.TopFork'. -/
def topForkCard : Claim7 := { stood := { row := topForkRow, standIns := [], harness := (true, "97a6602075dae6aead2acb84f9ee991abeb6b2157d398fc00d2e2efb5b73e084"), looks := false }, kinds := [], alts := [], laidByText := true, laidKinds := [.data], laidTests := true, laidLooks := .later }
def TopForkCardSaid : Prop := Claim7.holds Tryz.pinned (.plain (OpenSpec.ofChange topForkSpec)) topForkCard

/-- THE TIED CARD OF 'millpondtop.TopFiles'. -/
def topFilesCard : Claim7 := { stood := { row := topFilesRow, standIns := [], harness := (true, "97a6602075dae6aead2acb84f9ee991abeb6b2157d398fc00d2e2efb5b73e084"), looks := false }, kinds := [], alts := [], laidByText := true, laidKinds := [.data], laidTests := true, laidLooks := .later }
def TopFilesCardSaid : Prop := Claim7.holds Tryz.pinned (.plain (OpenSpec.ofChange topFilesSpec)) topFilesCard

/-- THE TIED CARD OF 'millpondtop.TopTicks'. -/
def topTicksCard : Claim7 := { stood := { row := topTicksRow, standIns := [], harness := (true, "97a6602075dae6aead2acb84f9ee991abeb6b2157d398fc00d2e2efb5b73e084"), looks := false }, kinds := [], alts := [], laidByText := true, laidKinds := [.data], laidTests := true, laidLooks := .later }
def TopTicksCardSaid : Prop := Claim7.holds Tryz.pinned (.plain (OpenSpec.ofChange topTicksSpec)) topTicksCard

/-- THE TIED CARD OF 'millpondtop.TopReplays'. -/
def topReplaysCard : Claim7 := { stood := { row := topReplaysRow, standIns := [], harness := (true, "97a6602075dae6aead2acb84f9ee991abeb6b2157d398fc00d2e2efb5b73e084"), looks := false }, kinds := [], alts := [], laidByText := true, laidKinds := [.data], laidTests := true, laidLooks := .later }
def TopReplaysCardSaid : Prop := Claim7.holds Tryz.pinned (.plain (OpenSpec.ofChange topReplaysSpec)) topReplaysCard

/-- THE TIED CARD OF 'millpondtop.TopGlobal'. -/
def topGlobalCard : Claim7 := { stood := { row := topGlobalRow, standIns := [], harness := (true, "97a6602075dae6aead2acb84f9ee991abeb6b2157d398fc00d2e2efb5b73e084"), looks := false }, kinds := [], alts := [], laidByText := true, laidKinds := [.data], laidTests := true, laidLooks := .later }
def TopGlobalCardSaid : Prop := Claim7.holds Tryz.pinned (.plain (OpenSpec.ofChange topGlobalSpec)) topGlobalCard

/-- THE TIED CARD OF 'millpondtop.TopFilesOnly'. -/
def topFilesOnlyCard : Claim7 := { stood := { row := topFilesOnlyRow, standIns := [], harness := (true, "97a6602075dae6aead2acb84f9ee991abeb6b2157d398fc00d2e2efb5b73e084"), looks := false }, kinds := [], alts := [], laidByText := true, laidKinds := [.data], laidTests := true, laidLooks := .later }
def TopFilesOnlyCardSaid : Prop := Claim7.holds Tryz.pinned (.plain (OpenSpec.ofChange topFilesOnlySpec)) topFilesOnlyCard

/-- THE SECOND FORM's CARD OF 'millpondtop.TopOom'. -/
def topOomUptoCard : Claim7 := { stood := { row := topOomUptoRow, standIns := [], harness := (true, "97a6602075dae6aead2acb84f9ee991abeb6b2157d398fc00d2e2efb5b73e084"), looks := false }, kinds := [], alts := [], laidByText := true, laidKinds := [.data], laidTests := true, laidLooks := .later }
def TopOomUptoCardSaid : Prop := Claim7.holds Tryz.pinned (.plain (OpenSpec.upto topOomSpec)) topOomUptoCard

/-- THE SECOND FORM's CARD OF 'millpondtop.TopFork'. -/
def topForkUptoCard : Claim7 := { stood := { row := topForkUptoRow, standIns := [], harness := (true, "97a6602075dae6aead2acb84f9ee991abeb6b2157d398fc00d2e2efb5b73e084"), looks := false }, kinds := [], alts := [], laidByText := true, laidKinds := [.data], laidTests := true, laidLooks := .later }
def TopForkUptoCardSaid : Prop := Claim7.holds Tryz.pinned (.plain (OpenSpec.upto topForkSpec)) topForkUptoCard

/-- THE SECOND FORM's CARD OF 'millpondtop.TopFiles'. -/
def topFilesUptoCard : Claim7 := { stood := { row := topFilesUptoRow, standIns := [], harness := (true, "97a6602075dae6aead2acb84f9ee991abeb6b2157d398fc00d2e2efb5b73e084"), looks := false }, kinds := [], alts := [], laidByText := true, laidKinds := [.data], laidTests := true, laidLooks := .later }
def TopFilesUptoCardSaid : Prop := Claim7.holds Tryz.pinned (.plain (OpenSpec.upto topFilesSpec)) topFilesUptoCard

/-- THE SECOND FORM's CARD OF 'millpondtop.TopTicks'. -/
def topTicksUptoCard : Claim7 := { stood := { row := topTicksUptoRow, standIns := [], harness := (true, "97a6602075dae6aead2acb84f9ee991abeb6b2157d398fc00d2e2efb5b73e084"), looks := false }, kinds := [], alts := [], laidByText := true, laidKinds := [.data], laidTests := true, laidLooks := .later }
def TopTicksUptoCardSaid : Prop := Claim7.holds Tryz.pinned (.plain (OpenSpec.upto topTicksSpec)) topTicksUptoCard

/-- THE SECOND FORM's CARD OF 'millpondtop.TopReplays'. -/
def topReplaysUptoCard : Claim7 := { stood := { row := topReplaysUptoRow, standIns := [], harness := (true, "97a6602075dae6aead2acb84f9ee991abeb6b2157d398fc00d2e2efb5b73e084"), looks := false }, kinds := [], alts := [], laidByText := true, laidKinds := [.data], laidTests := true, laidLooks := .later }
def TopReplaysUptoCardSaid : Prop := Claim7.holds Tryz.pinned (.plain (OpenSpec.upto topReplaysSpec)) topReplaysUptoCard

/-- THE SECOND FORM's CARD OF 'millpondtop.TopGlobal'. -/
def topGlobalUptoCard : Claim7 := { stood := { row := topGlobalUptoRow, standIns := [], harness := (true, "97a6602075dae6aead2acb84f9ee991abeb6b2157d398fc00d2e2efb5b73e084"), looks := false }, kinds := [], alts := [], laidByText := true, laidKinds := [.data], laidTests := true, laidLooks := .later }
def TopGlobalUptoCardSaid : Prop := Claim7.holds Tryz.pinned (.plain (OpenSpec.upto topGlobalSpec)) topGlobalUptoCard

/-- THE SECOND FORM's CARD OF 'millpondtop.TopFilesOnly'. -/
def topFilesOnlyUptoCard : Claim7 := { stood := { row := topFilesOnlyUptoRow, standIns := [], harness := (true, "97a6602075dae6aead2acb84f9ee991abeb6b2157d398fc00d2e2efb5b73e084"), looks := false }, kinds := [], alts := [], laidByText := true, laidKinds := [.data], laidTests := true, laidLooks := .later }
def TopFilesOnlyUptoCardSaid : Prop := Claim7.holds Tryz.pinned (.plain (OpenSpec.upto topFilesOnlySpec)) topFilesOnlyUptoCard
end Rows
end Go.Proofs.YtkfoeonggmlebaaGreatDoor
