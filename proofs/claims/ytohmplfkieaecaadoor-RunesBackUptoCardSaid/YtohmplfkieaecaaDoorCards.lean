/-
  DERIVED. GIVEN WITH THE SEED: THE CARDS: each row of YtohmplfkieaecaaDoorRows.lean that lists a variable, with what it lists TIED to the program's text (the seventh form; the later family's looks); each row that meets fmt, with fmt's text TOLD by the authors' own Lean function (tested against real Go, not proved from fmt's source: count such statements apart). THE CARD IS WHAT COUNTS. Prove the row's statement (the work); the ties are given (YtohmplfkieaecaaDoorTie.lean); close each card by the builder's one call (the guide's Derived/Test/ToyasCard.lean, 'card_holds'). Laid BY PROGRAM, IN A SANDBOX (cutbox-door.mjs). By AI agents, Wed Nov 11 2026. No macro, syntax, notation, axiom, sorry.
-/
import Derived.Test.YtohmplfkieaecaaDoorRows
import GoSem.ClaimSeven
namespace Go.Proofs.YtohmplfkieaecaaDoor
namespace Rows

/-- THE TIED CARD OF 'rhizomelaw01.RunesReads'. -/
def runesReadsCard : Claim7 := { stood := { row := runesReadsRow, standIns := [], harness := (true, "bb36ae82fb1e28b031dce3da4e6f67895b01a48ad77db2f715615b31ed97a6b2"), looks := false }, kinds := [], alts := [], laidByText := true, laidKinds := [.data, .pinned], laidTests := true, laidLooks := .later }
def RunesReadsCardSaid : Prop := Claim7.holds Tryd.pinned (.plain (OpenSpec.ofChange runesReadsSpec)) runesReadsCard

/-- THE TIED CARD OF 'rhizomelaw01.RunesPuts'. -/
def runesPutsCard : Claim7 := { stood := { row := runesPutsRow, standIns := [], harness := (true, "bb36ae82fb1e28b031dce3da4e6f67895b01a48ad77db2f715615b31ed97a6b2"), looks := false }, kinds := [], alts := [], laidByText := true, laidKinds := [.data, .pinned], laidTests := true, laidLooks := .later }
def RunesPutsCardSaid : Prop := Claim7.holds Tryd.pinned (.plain (OpenSpec.ofChange runesPutsSpec)) runesPutsCard

/-- THE TIED CARD OF 'rhizomelaw01.RunesSource'. -/
def runesSourceCard : Claim7 := { stood := { row := runesSourceRow, standIns := [], harness := (true, "bb36ae82fb1e28b031dce3da4e6f67895b01a48ad77db2f715615b31ed97a6b2"), looks := false }, kinds := [], alts := [], laidByText := true, laidKinds := [.data, .pinned], laidTests := true, laidLooks := .later }
def RunesSourceCardSaid : Prop := Claim7.holds Tryd.pinned (.plain (OpenSpec.ofChange runesSourceSpec)) runesSourceCard

/-- THE TIED CARD OF 'rhizomelaw01.RunesPlaces'. -/
def runesPlacesCard : Claim7 := { stood := { row := runesPlacesRow, standIns := [], harness := (true, "bb36ae82fb1e28b031dce3da4e6f67895b01a48ad77db2f715615b31ed97a6b2"), looks := false }, kinds := [], alts := [], laidByText := true, laidKinds := [.data, .pinned], laidTests := true, laidLooks := .later }
def RunesPlacesCardSaid : Prop := Claim7.holds Tryd.pinned (.plain (OpenSpec.ofChange runesPlacesSpec)) runesPlacesCard

/-- THE TIED CARD OF 'rhizomelaw01.RunesBack'. -/
def runesBackCard : Claim7 := { stood := { row := runesBackRow, standIns := [], harness := (true, "bb36ae82fb1e28b031dce3da4e6f67895b01a48ad77db2f715615b31ed97a6b2"), looks := false }, kinds := [], alts := [], laidByText := true, laidKinds := [.data, .pinned], laidTests := true, laidLooks := .later }
def RunesBackCardSaid : Prop := Claim7.holds Tryd.pinned (.plain (OpenSpec.ofChange runesBackSpec)) runesBackCard

/-- THE TIED CARD OF 'rhizomelaw01.RunesJoin'. -/
def runesJoinCard : Claim7 := { stood := { row := runesJoinRow, standIns := [], harness := (true, "bb36ae82fb1e28b031dce3da4e6f67895b01a48ad77db2f715615b31ed97a6b2"), looks := false }, kinds := [], alts := [], laidByText := true, laidKinds := [.data, .pinned], laidTests := true, laidLooks := .later }
def RunesJoinCardSaid : Prop := Claim7.holds Tryd.pinned (.plain (OpenSpec.ofChange runesJoinSpec)) runesJoinCard

/-- THE TIED CARD OF 'rhizomelaw01.RunesLines'. -/
def runesLinesCard : Claim7 := { stood := { row := runesLinesRow, standIns := [], harness := (true, "bb36ae82fb1e28b031dce3da4e6f67895b01a48ad77db2f715615b31ed97a6b2"), looks := false }, kinds := [], alts := [], laidByText := true, laidKinds := [.data, .pinned], laidTests := true, laidLooks := .later }
def RunesLinesCardSaid : Prop := Claim7.holds Tryd.pinned (.plain (OpenSpec.ofChange runesLinesSpec)) runesLinesCard

/-- THE TIED CARD OF 'rhizomelaw01.RunesSteps'. -/
def runesStepsCard : Claim7 := { stood := { row := runesStepsRow, standIns := [], harness := (true, "bb36ae82fb1e28b031dce3da4e6f67895b01a48ad77db2f715615b31ed97a6b2"), looks := false }, kinds := [], alts := [], laidByText := true, laidKinds := [.data, .pinned], laidTests := true, laidLooks := .later }
def RunesStepsCardSaid : Prop := Claim7.holds Tryd.pinned (.plain (OpenSpec.ofChange runesStepsSpec)) runesStepsCard

/-- THE TIED CARD OF 'rhizomelaw01.RunesAhead'. -/
def runesAheadCard : Claim7 := { stood := { row := runesAheadRow, standIns := [], harness := (true, "bb36ae82fb1e28b031dce3da4e6f67895b01a48ad77db2f715615b31ed97a6b2"), looks := false }, kinds := [], alts := [], laidByText := true, laidKinds := [.data, .pinned], laidTests := true, laidLooks := .later }
def RunesAheadCardSaid : Prop := Claim7.holds Tryd.pinned (.plain (OpenSpec.ofChange runesAheadSpec)) runesAheadCard

/-- THE SECOND FORM's CARD OF 'rhizomelaw01.RunesReads'. -/
def runesReadsUptoCard : Claim7 := { stood := { row := runesReadsUptoRow, standIns := [], harness := (true, "bb36ae82fb1e28b031dce3da4e6f67895b01a48ad77db2f715615b31ed97a6b2"), looks := false }, kinds := [], alts := [], laidByText := true, laidKinds := [.data, .pinned], laidTests := true, laidLooks := .later }
def RunesReadsUptoCardSaid : Prop := Claim7.holds Tryd.pinned (.plain (OpenSpec.upto runesReadsSpec)) runesReadsUptoCard

/-- THE SECOND FORM's CARD OF 'rhizomelaw01.RunesPuts'. -/
def runesPutsUptoCard : Claim7 := { stood := { row := runesPutsUptoRow, standIns := [], harness := (true, "bb36ae82fb1e28b031dce3da4e6f67895b01a48ad77db2f715615b31ed97a6b2"), looks := false }, kinds := [], alts := [], laidByText := true, laidKinds := [.data, .pinned], laidTests := true, laidLooks := .later }
def RunesPutsUptoCardSaid : Prop := Claim7.holds Tryd.pinned (.plain (OpenSpec.upto runesPutsSpec)) runesPutsUptoCard

/-- THE SECOND FORM's CARD OF 'rhizomelaw01.RunesSource'. -/
def runesSourceUptoCard : Claim7 := { stood := { row := runesSourceUptoRow, standIns := [], harness := (true, "bb36ae82fb1e28b031dce3da4e6f67895b01a48ad77db2f715615b31ed97a6b2"), looks := false }, kinds := [], alts := [], laidByText := true, laidKinds := [.data, .pinned], laidTests := true, laidLooks := .later }
def RunesSourceUptoCardSaid : Prop := Claim7.holds Tryd.pinned (.plain (OpenSpec.upto runesSourceSpec)) runesSourceUptoCard

/-- THE SECOND FORM's CARD OF 'rhizomelaw01.RunesPlaces'. -/
def runesPlacesUptoCard : Claim7 := { stood := { row := runesPlacesUptoRow, standIns := [], harness := (true, "bb36ae82fb1e28b031dce3da4e6f67895b01a48ad77db2f715615b31ed97a6b2"), looks := false }, kinds := [], alts := [], laidByText := true, laidKinds := [.data, .pinned], laidTests := true, laidLooks := .later }
def RunesPlacesUptoCardSaid : Prop := Claim7.holds Tryd.pinned (.plain (OpenSpec.upto runesPlacesSpec)) runesPlacesUptoCard

/-- THE SECOND FORM's CARD OF 'rhizomelaw01.RunesBack'. -/
def runesBackUptoCard : Claim7 := { stood := { row := runesBackUptoRow, standIns := [], harness := (true, "bb36ae82fb1e28b031dce3da4e6f67895b01a48ad77db2f715615b31ed97a6b2"), looks := false }, kinds := [], alts := [], laidByText := true, laidKinds := [.data, .pinned], laidTests := true, laidLooks := .later }
def RunesBackUptoCardSaid : Prop := Claim7.holds Tryd.pinned (.plain (OpenSpec.upto runesBackSpec)) runesBackUptoCard

/-- THE SECOND FORM's CARD OF 'rhizomelaw01.RunesJoin'. -/
def runesJoinUptoCard : Claim7 := { stood := { row := runesJoinUptoRow, standIns := [], harness := (true, "bb36ae82fb1e28b031dce3da4e6f67895b01a48ad77db2f715615b31ed97a6b2"), looks := false }, kinds := [], alts := [], laidByText := true, laidKinds := [.data, .pinned], laidTests := true, laidLooks := .later }
def RunesJoinUptoCardSaid : Prop := Claim7.holds Tryd.pinned (.plain (OpenSpec.upto runesJoinSpec)) runesJoinUptoCard

/-- THE SECOND FORM's CARD OF 'rhizomelaw01.RunesLines'. -/
def runesLinesUptoCard : Claim7 := { stood := { row := runesLinesUptoRow, standIns := [], harness := (true, "bb36ae82fb1e28b031dce3da4e6f67895b01a48ad77db2f715615b31ed97a6b2"), looks := false }, kinds := [], alts := [], laidByText := true, laidKinds := [.data, .pinned], laidTests := true, laidLooks := .later }
def RunesLinesUptoCardSaid : Prop := Claim7.holds Tryd.pinned (.plain (OpenSpec.upto runesLinesSpec)) runesLinesUptoCard

/-- THE SECOND FORM's CARD OF 'rhizomelaw01.RunesSteps'. -/
def runesStepsUptoCard : Claim7 := { stood := { row := runesStepsUptoRow, standIns := [], harness := (true, "bb36ae82fb1e28b031dce3da4e6f67895b01a48ad77db2f715615b31ed97a6b2"), looks := false }, kinds := [], alts := [], laidByText := true, laidKinds := [.data, .pinned], laidTests := true, laidLooks := .later }
def RunesStepsUptoCardSaid : Prop := Claim7.holds Tryd.pinned (.plain (OpenSpec.upto runesStepsSpec)) runesStepsUptoCard

/-- THE SECOND FORM's CARD OF 'rhizomelaw01.RunesAhead'. -/
def runesAheadUptoCard : Claim7 := { stood := { row := runesAheadUptoRow, standIns := [], harness := (true, "bb36ae82fb1e28b031dce3da4e6f67895b01a48ad77db2f715615b31ed97a6b2"), looks := false }, kinds := [], alts := [], laidByText := true, laidKinds := [.data, .pinned], laidTests := true, laidLooks := .later }
def RunesAheadUptoCardSaid : Prop := Claim7.holds Tryd.pinned (.plain (OpenSpec.upto runesAheadSpec)) runesAheadUptoCard
end Rows
end Go.Proofs.YtohmplfkieaecaaDoor
