/-
  DERIVED. GIVEN WITH THE SEED: THE CARDS: each row of YtcbngkmmmfaaoaaGreatDoorRows.lean that lists a variable, with what it lists TIED to the program's text (the seventh form; the later family's looks); each row that meets fmt, with fmt's text TOLD by the authors' own Lean function (tested against real Go, not proved from fmt's source: count such statements apart). THE CARD IS WHAT COUNTS. Prove the row's statement (the work); the ties are given (YtcbngkmmmfaaoaaGreatDoorTie.lean); close each card by the builder's one call (the guide's Derived/Test/ToyasCard.lean, 'card_holds'). Laid BY PROGRAM, IN A SANDBOX (cutbox-door.mjs). By AI agents, Wed Nov 11 2026. No macro, syntax, notation, axiom, sorry.
-/
import Derived.Test.YtcbngkmmmfaaoaaGreatDoorRows
import GoSem.ClaimSeven
namespace Go.Proofs.YtcbngkmmmfaaoaaGreatDoor
namespace Rows

/-- THE TIED CARD OF 'rhizomelaw09.SchemaChecks'. -/
def schemaChecksCard : Claim7 := { stood := { row := schemaChecksRow, standIns := [], harness := (true, "d75b2029fe71630c117693cb8b79fb99aacd693dd79c7c5a3f643836dde1afa3"), looks := true }, kinds := [], alts := [], laidByText := true, laidKinds := [.data, .data, .data, .data, .sentinel, .sentinel, .pinned], laidTests := true, laidLooks := .later }
def SchemaChecksCardSaid : Prop := Claim7.holds Tryz.pinned (.plain (OpenSpec.ofChange schemaChecksSpec)) schemaChecksCard

/-- THE TIED CARD OF 'rhizomelaw09.SchemaFinds'. -/
def schemaFindsCard : Claim7 := { stood := { row := schemaFindsRow, standIns := [], harness := (true, "d75b2029fe71630c117693cb8b79fb99aacd693dd79c7c5a3f643836dde1afa3"), looks := true }, kinds := [], alts := [], laidByText := true, laidKinds := [.data, .data, .data, .data, .sentinel, .sentinel, .pinned], laidTests := true, laidLooks := .later }
def SchemaFindsCardSaid : Prop := Claim7.holds Tryz.pinned (.plain (OpenSpec.ofChange schemaFindsSpec)) schemaFindsCard

/-- THE TIED CARD OF 'rhizomelaw09.SchemaBack'. -/
def schemaBackCard : Claim7 := { stood := { row := schemaBackRow, standIns := [], harness := (true, "d75b2029fe71630c117693cb8b79fb99aacd693dd79c7c5a3f643836dde1afa3"), looks := true }, kinds := [], alts := [], laidByText := true, laidKinds := [.data, .data, .data, .data, .sentinel, .sentinel, .pinned], laidTests := true, laidLooks := .later }
def SchemaBackCardSaid : Prop := Claim7.holds Tryz.pinned (.plain (OpenSpec.ofChange schemaBackSpec)) schemaBackCard

/-- THE TIED CARD OF 'rhizomelaw09.SchemaMore'. -/
def schemaMoreCard : Claim7 := { stood := { row := schemaMoreRow, standIns := [], harness := (true, "d75b2029fe71630c117693cb8b79fb99aacd693dd79c7c5a3f643836dde1afa3"), looks := true }, kinds := [], alts := [], laidByText := true, laidKinds := [.data, .data, .data, .data, .sentinel, .sentinel, .pinned], laidTests := true, laidLooks := .later }
def SchemaMoreCardSaid : Prop := Claim7.holds Tryz.pinned (.plain (OpenSpec.ofChange schemaMoreSpec)) schemaMoreCard

/-- THE TIED CARD OF 'rhizomelaw09.SchemaOrder'. -/
def schemaOrderCard : Claim7 := { stood := { row := schemaOrderRow, standIns := [], harness := (true, "d75b2029fe71630c117693cb8b79fb99aacd693dd79c7c5a3f643836dde1afa3"), looks := true }, kinds := [], alts := [], laidByText := true, laidKinds := [.data, .data, .data, .data, .sentinel, .sentinel, .pinned], laidTests := true, laidLooks := .later }
def SchemaOrderCardSaid : Prop := Claim7.holds Tryz.pinned (.plain (OpenSpec.ofChange schemaOrderSpec)) schemaOrderCard

/-- THE TIED CARD OF 'rhizomelaw09.SchemaLess'. -/
def schemaLessCard : Claim7 := { stood := { row := schemaLessRow, standIns := [], harness := (true, "d75b2029fe71630c117693cb8b79fb99aacd693dd79c7c5a3f643836dde1afa3"), looks := true }, kinds := [], alts := [], laidByText := true, laidKinds := [.data, .data, .data, .data, .sentinel, .sentinel, .pinned], laidTests := true, laidLooks := .later }
def SchemaLessCardSaid : Prop := Claim7.holds Tryz.pinned (.plain (OpenSpec.ofChange schemaLessSpec)) schemaLessCard

/-- THE TIED CARD OF 'rhizomelaw10.GenTells'. -/
def genTellsCard : Claim7 := { stood := { row := genTellsRow, standIns := [], harness := (true, "d75b2029fe71630c117693cb8b79fb99aacd693dd79c7c5a3f643836dde1afa3"), looks := true }, kinds := [], alts := [], laidByText := true, laidKinds := [.data, .data, .data, .data, .sentinel, .sentinel, .pinned], laidTests := true, laidLooks := .later }
def GenTellsCardSaid : Prop := Claim7.holds Tryz.pinned (.plain (OpenSpec.ofChange genTellsSpec)) genTellsCard

/-- THE TIED CARD OF 'rhizomelaw10.GenFinds'. -/
def genFindsCard : Claim7 := { stood := { row := genFindsRow, standIns := [], harness := (true, "d75b2029fe71630c117693cb8b79fb99aacd693dd79c7c5a3f643836dde1afa3"), looks := true }, kinds := [], alts := [], laidByText := true, laidKinds := [.data, .data, .data, .data, .sentinel, .sentinel, .pinned], laidTests := true, laidLooks := .later }
def GenFindsCardSaid : Prop := Claim7.holds Tryz.pinned (.plain (OpenSpec.ofChange genFindsSpec)) genFindsCard

/-- THE TIED CARD OF 'rhizomelaw10.GenClosed'. -/
def genClosedCard : Claim7 := { stood := { row := genClosedRow, standIns := [], harness := (true, "d75b2029fe71630c117693cb8b79fb99aacd693dd79c7c5a3f643836dde1afa3"), looks := true }, kinds := [], alts := [], laidByText := true, laidKinds := [.data, .data, .data, .data, .sentinel, .sentinel, .pinned], laidTests := true, laidLooks := .later }
def GenClosedCardSaid : Prop := Claim7.holds Tryz.pinned (.plain (OpenSpec.ofChange genClosedSpec)) genClosedCard

/-- THE TIED CARD OF 'rhizomelaw10.GenRoots'. -/
def genRootsCard : Claim7 := { stood := { row := genRootsRow, standIns := [], harness := (true, "d75b2029fe71630c117693cb8b79fb99aacd693dd79c7c5a3f643836dde1afa3"), looks := true }, kinds := [], alts := [], laidByText := true, laidKinds := [.data, .data, .data, .data, .sentinel, .sentinel, .pinned], laidTests := true, laidLooks := .later }
def GenRootsCardSaid : Prop := Claim7.holds Tryz.pinned (.plain (OpenSpec.ofChange genRootsSpec)) genRootsCard

/-- THE TIED CARD OF 'rhizomelaw10.GenMore'. -/
def genMoreCard : Claim7 := { stood := { row := genMoreRow, standIns := [], harness := (true, "d75b2029fe71630c117693cb8b79fb99aacd693dd79c7c5a3f643836dde1afa3"), looks := true }, kinds := [], alts := [], laidByText := true, laidKinds := [.data, .data, .data, .data, .sentinel, .sentinel, .pinned], laidTests := true, laidLooks := .later }
def GenMoreCardSaid : Prop := Claim7.holds Tryz.pinned (.plain (OpenSpec.ofChange genMoreSpec)) genMoreCard

/-- THE SECOND FORM's CARD OF 'rhizomelaw09.SchemaChecks'. -/
def schemaChecksUptoCard : Claim7 := { stood := { row := schemaChecksUptoRow, standIns := [], harness := (true, "d75b2029fe71630c117693cb8b79fb99aacd693dd79c7c5a3f643836dde1afa3"), looks := true }, kinds := [], alts := [], laidByText := true, laidKinds := [.data, .data, .data, .data, .sentinel, .sentinel, .pinned], laidTests := true, laidLooks := .later }
def SchemaChecksUptoCardSaid : Prop := Claim7.holds Tryz.pinned (.plain (OpenSpec.upto schemaChecksSpec)) schemaChecksUptoCard

/-- THE SECOND FORM's CARD OF 'rhizomelaw09.SchemaFinds'. -/
def schemaFindsUptoCard : Claim7 := { stood := { row := schemaFindsUptoRow, standIns := [], harness := (true, "d75b2029fe71630c117693cb8b79fb99aacd693dd79c7c5a3f643836dde1afa3"), looks := true }, kinds := [], alts := [], laidByText := true, laidKinds := [.data, .data, .data, .data, .sentinel, .sentinel, .pinned], laidTests := true, laidLooks := .later }
def SchemaFindsUptoCardSaid : Prop := Claim7.holds Tryz.pinned (.plain (OpenSpec.upto schemaFindsSpec)) schemaFindsUptoCard

/-- THE SECOND FORM's CARD OF 'rhizomelaw09.SchemaBack'. -/
def schemaBackUptoCard : Claim7 := { stood := { row := schemaBackUptoRow, standIns := [], harness := (true, "d75b2029fe71630c117693cb8b79fb99aacd693dd79c7c5a3f643836dde1afa3"), looks := true }, kinds := [], alts := [], laidByText := true, laidKinds := [.data, .data, .data, .data, .sentinel, .sentinel, .pinned], laidTests := true, laidLooks := .later }
def SchemaBackUptoCardSaid : Prop := Claim7.holds Tryz.pinned (.plain (OpenSpec.upto schemaBackSpec)) schemaBackUptoCard

/-- THE SECOND FORM's CARD OF 'rhizomelaw09.SchemaMore'. -/
def schemaMoreUptoCard : Claim7 := { stood := { row := schemaMoreUptoRow, standIns := [], harness := (true, "d75b2029fe71630c117693cb8b79fb99aacd693dd79c7c5a3f643836dde1afa3"), looks := true }, kinds := [], alts := [], laidByText := true, laidKinds := [.data, .data, .data, .data, .sentinel, .sentinel, .pinned], laidTests := true, laidLooks := .later }
def SchemaMoreUptoCardSaid : Prop := Claim7.holds Tryz.pinned (.plain (OpenSpec.upto schemaMoreSpec)) schemaMoreUptoCard

/-- THE SECOND FORM's CARD OF 'rhizomelaw09.SchemaOrder'. -/
def schemaOrderUptoCard : Claim7 := { stood := { row := schemaOrderUptoRow, standIns := [], harness := (true, "d75b2029fe71630c117693cb8b79fb99aacd693dd79c7c5a3f643836dde1afa3"), looks := true }, kinds := [], alts := [], laidByText := true, laidKinds := [.data, .data, .data, .data, .sentinel, .sentinel, .pinned], laidTests := true, laidLooks := .later }
def SchemaOrderUptoCardSaid : Prop := Claim7.holds Tryz.pinned (.plain (OpenSpec.upto schemaOrderSpec)) schemaOrderUptoCard

/-- THE SECOND FORM's CARD OF 'rhizomelaw09.SchemaLess'. -/
def schemaLessUptoCard : Claim7 := { stood := { row := schemaLessUptoRow, standIns := [], harness := (true, "d75b2029fe71630c117693cb8b79fb99aacd693dd79c7c5a3f643836dde1afa3"), looks := true }, kinds := [], alts := [], laidByText := true, laidKinds := [.data, .data, .data, .data, .sentinel, .sentinel, .pinned], laidTests := true, laidLooks := .later }
def SchemaLessUptoCardSaid : Prop := Claim7.holds Tryz.pinned (.plain (OpenSpec.upto schemaLessSpec)) schemaLessUptoCard

/-- THE SECOND FORM's CARD OF 'rhizomelaw10.GenTells'. -/
def genTellsUptoCard : Claim7 := { stood := { row := genTellsUptoRow, standIns := [], harness := (true, "d75b2029fe71630c117693cb8b79fb99aacd693dd79c7c5a3f643836dde1afa3"), looks := true }, kinds := [], alts := [], laidByText := true, laidKinds := [.data, .data, .data, .data, .sentinel, .sentinel, .pinned], laidTests := true, laidLooks := .later }
def GenTellsUptoCardSaid : Prop := Claim7.holds Tryz.pinned (.plain (OpenSpec.upto genTellsSpec)) genTellsUptoCard

/-- THE SECOND FORM's CARD OF 'rhizomelaw10.GenFinds'. -/
def genFindsUptoCard : Claim7 := { stood := { row := genFindsUptoRow, standIns := [], harness := (true, "d75b2029fe71630c117693cb8b79fb99aacd693dd79c7c5a3f643836dde1afa3"), looks := true }, kinds := [], alts := [], laidByText := true, laidKinds := [.data, .data, .data, .data, .sentinel, .sentinel, .pinned], laidTests := true, laidLooks := .later }
def GenFindsUptoCardSaid : Prop := Claim7.holds Tryz.pinned (.plain (OpenSpec.upto genFindsSpec)) genFindsUptoCard

/-- THE SECOND FORM's CARD OF 'rhizomelaw10.GenClosed'. -/
def genClosedUptoCard : Claim7 := { stood := { row := genClosedUptoRow, standIns := [], harness := (true, "d75b2029fe71630c117693cb8b79fb99aacd693dd79c7c5a3f643836dde1afa3"), looks := true }, kinds := [], alts := [], laidByText := true, laidKinds := [.data, .data, .data, .data, .sentinel, .sentinel, .pinned], laidTests := true, laidLooks := .later }
def GenClosedUptoCardSaid : Prop := Claim7.holds Tryz.pinned (.plain (OpenSpec.upto genClosedSpec)) genClosedUptoCard

/-- THE SECOND FORM's CARD OF 'rhizomelaw10.GenRoots'. -/
def genRootsUptoCard : Claim7 := { stood := { row := genRootsUptoRow, standIns := [], harness := (true, "d75b2029fe71630c117693cb8b79fb99aacd693dd79c7c5a3f643836dde1afa3"), looks := true }, kinds := [], alts := [], laidByText := true, laidKinds := [.data, .data, .data, .data, .sentinel, .sentinel, .pinned], laidTests := true, laidLooks := .later }
def GenRootsUptoCardSaid : Prop := Claim7.holds Tryz.pinned (.plain (OpenSpec.upto genRootsSpec)) genRootsUptoCard

/-- THE SECOND FORM's CARD OF 'rhizomelaw10.GenMore'. -/
def genMoreUptoCard : Claim7 := { stood := { row := genMoreUptoRow, standIns := [], harness := (true, "d75b2029fe71630c117693cb8b79fb99aacd693dd79c7c5a3f643836dde1afa3"), looks := true }, kinds := [], alts := [], laidByText := true, laidKinds := [.data, .data, .data, .data, .sentinel, .sentinel, .pinned], laidTests := true, laidLooks := .later }
def GenMoreUptoCardSaid : Prop := Claim7.holds Tryz.pinned (.plain (OpenSpec.upto genMoreSpec)) genMoreUptoCard
end Rows
end Go.Proofs.YtcbngkmmmfaaoaaGreatDoor
