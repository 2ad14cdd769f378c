/-
  NARROWER THAN 'FOR EVERY INPUT', by the rows' own cells (each row's printed sentence says how): RunesReads: laid · RunesPuts: laid · RunesSource: laid · RunesPlaces: laid · RunesBack: laid · RunesJoin: laid · RunesLines: laid · RunesSteps: laid · RunesAhead: laid.
  DERIVED. THE GIVEN ROWS OF THIS SEAT. 9 by the template 'for every input the law returns true; each argument reads behind the call as it read before'; 0 by the template 'total and deterministic' (their statements: YtohmplfkieaecaaDoorTotals.lean).
  GIVEN WITH THE SEED: the statements are not yours to turn. If you find one false, say at which input.
  Laid BY PROGRAM, IN A SANDBOX (cutbox-rows.mjs): the forced cells as the released guide's own fill.sh prints them over the translation dd8daeec8be1d468… (all of the seat's roots in one cut). By AI agents, Wed Nov 11 2026. No macro, syntax, notation, axiom, sorry.
-/
import Derived.Test.YtohmplfkieaecaaDoorChecked
import GoSem.PinnedTables
import GoSem.Claim
import GoSem.ClaimJoined
import GoSem.ClaimMapViews
import Derived.JoinedTies
import Derived.KernelRfl
namespace Go.Proofs.YtohmplfkieaecaaDoor
/- THE CELL 'sum', in the pinned program and in every row, IS THE sha256 OF THE DUMP (.gsa) THAT YtohmplfkieaecaaDoorProg.lean LOADS. Nothing in Lean hashes anything: it is a label: what it is worth is what the hold of that sum in a sandbox is worth. -/
noncomputable def Tryd.pinned : Pinned := { name := "ytohmplfkieaecaadoor", sum := "dd8daeec8be1d4689c89fb090e46c98778ee1f2734e25375d0f355893c1abc78", checked := Tryd.checked }
namespace Rows
def none {H : Type} : Left H := { results := [], args := [] }

/- WHAT THE LISTED PACKAGE-LEVEL VARIABLES READ AS WHEN THE CALL BEGINS. Each datum BY PROGRAM (the guide's laid-datum.mjs) off the statement by which the dump's own 'gosem.cut.vars' lays the variable. In a bare row this is a premise. The card (YtohmplfkieaecaaDoorCards.lean) ties it to the program's text. -/
def laid_unicode_utf8_acceptRanges {H : Type} : DataW H := .agg [.agg [.lit (.int .u8 128), .lit (.int .u8 191)], .agg [.lit (.int .u8 160), .lit (.int .u8 191)], .agg [.lit (.int .u8 128), .lit (.int .u8 159)], .agg [.lit (.int .u8 144), .lit (.int .u8 191)], .agg [.lit (.int .u8 128), .lit (.int .u8 143)], .agg [.lit (.int .u8 0), .lit (.int .u8 0)], .agg [.lit (.int .u8 0), .lit (.int .u8 0)], .agg [.lit (.int .u8 0), .lit (.int .u8 0)], .agg [.lit (.int .u8 0), .lit (.int .u8 0)], .agg [.lit (.int .u8 0), .lit (.int .u8 0)], .agg [.lit (.int .u8 0), .lit (.int .u8 0)], .agg [.lit (.int .u8 0), .lit (.int .u8 0)], .agg [.lit (.int .u8 0), .lit (.int .u8 0)], .agg [.lit (.int .u8 0), .lit (.int .u8 0)], .agg [.lit (.int .u8 0), .lit (.int .u8 0)], .agg [.lit (.int .u8 0), .lit (.int .u8 0)]]
/-- One of Go's own tables, pinned by name: the form's constant. -/
def laid_unicode_utf8_first : DataW Unit := Go.Pinned.utf8First

/-- 'rhizomelaw01.RunesReads': WHATEVER THE INPUT: true; the input reads as it did. -/
def runesReadsSpec : ChangeSpec := { name := "runesReads", fn := fun _ => fun
  | [d1, d2] => { results := [.lit (.bool true)], args := [d1, d2] }
  | _ => none }
def runesReadsRow : OpenClaim := { program := "ytohmplfkieaecaadoor", sum := "dd8daeec8be1d4689c89fb090e46c98778ee1f2734e25375d0f355893c1abc78", func := "rhizome/rhizomelaw01.RunesReads", spec := "runesReads", unfollowed := true, recurses := true, named := ["unicode/utf8.first", "unicode/utf8.acceptRanges"], apart := false, laid := [("unicode/utf8.acceptRanges", laid_unicode_utf8_acceptRanges), ("unicode/utf8.first", laid_unicode_utf8_first)] }
def RunesReadsSaid : Prop := runesReadsRow.holds Tryd.pinned (OpenSpec.ofChange runesReadsSpec)

/-- ITS FALSE NEIGHBOUR: 'it returns false'. Refute it at one input. -/
def runesReadsWrong : ChangeSpec := { name := "runesReads", fn := fun _ => fun
  | [d1, d2] => { results := [.lit (.bool false)], args := [d1, d2] }
  | _ => none }
def RunesReadsWrongFalsely : Prop := runesReadsRow.holds Tryd.pinned (OpenSpec.ofChange runesReadsWrong)

/-- 'rhizomelaw01.RunesPuts': WHATEVER THE INPUT: true; the input reads as it did. -/
def runesPutsSpec : ChangeSpec := { name := "runesPuts", fn := fun _ => fun
  | [d] => { results := [.lit (.bool true)], args := [d] }
  | _ => none }
def runesPutsRow : OpenClaim := { program := "ytohmplfkieaecaadoor", sum := "dd8daeec8be1d4689c89fb090e46c98778ee1f2734e25375d0f355893c1abc78", func := "rhizome/rhizomelaw01.RunesPuts", spec := "runesPuts", unfollowed := true, recurses := true, named := ["unicode/utf8.first", "unicode/utf8.acceptRanges"], apart := false, laid := [("unicode/utf8.acceptRanges", laid_unicode_utf8_acceptRanges), ("unicode/utf8.first", laid_unicode_utf8_first)] }
def RunesPutsSaid : Prop := runesPutsRow.holds Tryd.pinned (OpenSpec.ofChange runesPutsSpec)

/-- ITS FALSE NEIGHBOUR: 'it returns false'. Refute it at one input. -/
def runesPutsWrong : ChangeSpec := { name := "runesPuts", fn := fun _ => fun
  | [d] => { results := [.lit (.bool false)], args := [d] }
  | _ => none }
def RunesPutsWrongFalsely : Prop := runesPutsRow.holds Tryd.pinned (OpenSpec.ofChange runesPutsWrong)

/-- 'rhizomelaw01.RunesSource': WHATEVER THE INPUT: true; the input reads as it did. -/
def runesSourceSpec : ChangeSpec := { name := "runesSource", fn := fun _ => fun
  | [d] => { results := [.lit (.bool true)], args := [d] }
  | _ => none }
def runesSourceRow : OpenClaim := { program := "ytohmplfkieaecaadoor", sum := "dd8daeec8be1d4689c89fb090e46c98778ee1f2734e25375d0f355893c1abc78", func := "rhizome/rhizomelaw01.RunesSource", spec := "runesSource", unfollowed := true, recurses := true, named := ["unicode/utf8.first", "unicode/utf8.acceptRanges"], apart := false, laid := [("unicode/utf8.acceptRanges", laid_unicode_utf8_acceptRanges), ("unicode/utf8.first", laid_unicode_utf8_first)] }
def RunesSourceSaid : Prop := runesSourceRow.holds Tryd.pinned (OpenSpec.ofChange runesSourceSpec)

/-- ITS FALSE NEIGHBOUR: 'it returns false'. Refute it at one input. -/
def runesSourceWrong : ChangeSpec := { name := "runesSource", fn := fun _ => fun
  | [d] => { results := [.lit (.bool false)], args := [d] }
  | _ => none }
def RunesSourceWrongFalsely : Prop := runesSourceRow.holds Tryd.pinned (OpenSpec.ofChange runesSourceWrong)

/-- 'rhizomelaw01.RunesPlaces': WHATEVER THE INPUT: true; the input reads as it did. -/
def runesPlacesSpec : ChangeSpec := { name := "runesPlaces", fn := fun _ => fun
  | [d1, d2] => { results := [.lit (.bool true)], args := [d1, d2] }
  | _ => none }
def runesPlacesRow : OpenClaim := { program := "ytohmplfkieaecaadoor", sum := "dd8daeec8be1d4689c89fb090e46c98778ee1f2734e25375d0f355893c1abc78", func := "rhizome/rhizomelaw01.RunesPlaces", spec := "runesPlaces", unfollowed := true, recurses := true, named := ["unicode/utf8.first", "unicode/utf8.acceptRanges"], apart := false, laid := [("unicode/utf8.acceptRanges", laid_unicode_utf8_acceptRanges), ("unicode/utf8.first", laid_unicode_utf8_first)] }
def RunesPlacesSaid : Prop := runesPlacesRow.holds Tryd.pinned (OpenSpec.ofChange runesPlacesSpec)

/-- ITS FALSE NEIGHBOUR: 'it returns false'. Refute it at one input. -/
def runesPlacesWrong : ChangeSpec := { name := "runesPlaces", fn := fun _ => fun
  | [d1, d2] => { results := [.lit (.bool false)], args := [d1, d2] }
  | _ => none }
def RunesPlacesWrongFalsely : Prop := runesPlacesRow.holds Tryd.pinned (OpenSpec.ofChange runesPlacesWrong)

/-- 'rhizomelaw01.RunesBack': WHATEVER THE INPUT: true; the input reads as it did. -/
def runesBackSpec : ChangeSpec := { name := "runesBack", fn := fun _ => fun
  | [d] => { results := [.lit (.bool true)], args := [d] }
  | _ => none }
def runesBackRow : OpenClaim := { program := "ytohmplfkieaecaadoor", sum := "dd8daeec8be1d4689c89fb090e46c98778ee1f2734e25375d0f355893c1abc78", func := "rhizome/rhizomelaw01.RunesBack", spec := "runesBack", unfollowed := true, recurses := true, named := ["unicode/utf8.first", "unicode/utf8.acceptRanges"], apart := false, laid := [("unicode/utf8.acceptRanges", laid_unicode_utf8_acceptRanges), ("unicode/utf8.first", laid_unicode_utf8_first)] }
def RunesBackSaid : Prop := runesBackRow.holds Tryd.pinned (OpenSpec.ofChange runesBackSpec)

/-- ITS FALSE NEIGHBOUR: 'it returns false'. Refute it at one input. -/
def runesBackWrong : ChangeSpec := { name := "runesBack", fn := fun _ => fun
  | [d] => { results := [.lit (.bool false)], args := [d] }
  | _ => none }
def RunesBackWrongFalsely : Prop := runesBackRow.holds Tryd.pinned (OpenSpec.ofChange runesBackWrong)

/-- 'rhizomelaw01.RunesJoin': WHATEVER THE INPUT: true; the input reads as it did. -/
def runesJoinSpec : ChangeSpec := { name := "runesJoin", fn := fun _ => fun
  | [d1, d2, d3] => { results := [.lit (.bool true)], args := [d1, d2, d3] }
  | _ => none }
def runesJoinRow : OpenClaim := { program := "ytohmplfkieaecaadoor", sum := "dd8daeec8be1d4689c89fb090e46c98778ee1f2734e25375d0f355893c1abc78", func := "rhizome/rhizomelaw01.RunesJoin", spec := "runesJoin", unfollowed := true, recurses := true, named := ["unicode/utf8.first", "unicode/utf8.acceptRanges"], apart := false, laid := [("unicode/utf8.acceptRanges", laid_unicode_utf8_acceptRanges), ("unicode/utf8.first", laid_unicode_utf8_first)] }
def RunesJoinSaid : Prop := runesJoinRow.holds Tryd.pinned (OpenSpec.ofChange runesJoinSpec)

/-- ITS FALSE NEIGHBOUR: 'it returns false'. Refute it at one input. -/
def runesJoinWrong : ChangeSpec := { name := "runesJoin", fn := fun _ => fun
  | [d1, d2, d3] => { results := [.lit (.bool false)], args := [d1, d2, d3] }
  | _ => none }
def RunesJoinWrongFalsely : Prop := runesJoinRow.holds Tryd.pinned (OpenSpec.ofChange runesJoinWrong)

/-- 'rhizomelaw01.RunesLines': WHATEVER THE INPUT: true; the input reads as it did. -/
def runesLinesSpec : ChangeSpec := { name := "runesLines", fn := fun _ => fun
  | [d] => { results := [.lit (.bool true)], args := [d] }
  | _ => none }
def runesLinesRow : OpenClaim := { program := "ytohmplfkieaecaadoor", sum := "dd8daeec8be1d4689c89fb090e46c98778ee1f2734e25375d0f355893c1abc78", func := "rhizome/rhizomelaw01.RunesLines", spec := "runesLines", unfollowed := true, recurses := true, named := ["unicode/utf8.first", "unicode/utf8.acceptRanges"], apart := false, laid := [("unicode/utf8.acceptRanges", laid_unicode_utf8_acceptRanges), ("unicode/utf8.first", laid_unicode_utf8_first)] }
def RunesLinesSaid : Prop := runesLinesRow.holds Tryd.pinned (OpenSpec.ofChange runesLinesSpec)

/-- ITS FALSE NEIGHBOUR: 'it returns false'. Refute it at one input. -/
def runesLinesWrong : ChangeSpec := { name := "runesLines", fn := fun _ => fun
  | [d] => { results := [.lit (.bool false)], args := [d] }
  | _ => none }
def RunesLinesWrongFalsely : Prop := runesLinesRow.holds Tryd.pinned (OpenSpec.ofChange runesLinesWrong)

/-- 'rhizomelaw01.RunesSteps': WHATEVER THE INPUT: true; the input reads as it did. -/
def runesStepsSpec : ChangeSpec := { name := "runesSteps", fn := fun _ => fun
  | [d] => { results := [.lit (.bool true)], args := [d] }
  | _ => none }
def runesStepsRow : OpenClaim := { program := "ytohmplfkieaecaadoor", sum := "dd8daeec8be1d4689c89fb090e46c98778ee1f2734e25375d0f355893c1abc78", func := "rhizome/rhizomelaw01.RunesSteps", spec := "runesSteps", unfollowed := true, recurses := true, named := ["unicode/utf8.first", "unicode/utf8.acceptRanges"], apart := false, laid := [("unicode/utf8.acceptRanges", laid_unicode_utf8_acceptRanges), ("unicode/utf8.first", laid_unicode_utf8_first)] }
def RunesStepsSaid : Prop := runesStepsRow.holds Tryd.pinned (OpenSpec.ofChange runesStepsSpec)

/-- ITS FALSE NEIGHBOUR: 'it returns false'. Refute it at one input. -/
def runesStepsWrong : ChangeSpec := { name := "runesSteps", fn := fun _ => fun
  | [d] => { results := [.lit (.bool false)], args := [d] }
  | _ => none }
def RunesStepsWrongFalsely : Prop := runesStepsRow.holds Tryd.pinned (OpenSpec.ofChange runesStepsWrong)

/-- 'rhizomelaw01.RunesAhead': WHATEVER THE INPUT: true; the input reads as it did. -/
def runesAheadSpec : ChangeSpec := { name := "runesAhead", fn := fun _ => fun
  | [d] => { results := [.lit (.bool true)], args := [d] }
  | _ => none }
def runesAheadRow : OpenClaim := { program := "ytohmplfkieaecaadoor", sum := "dd8daeec8be1d4689c89fb090e46c98778ee1f2734e25375d0f355893c1abc78", func := "rhizome/rhizomelaw01.RunesAhead", spec := "runesAhead", unfollowed := true, recurses := true, named := ["unicode/utf8.first", "unicode/utf8.acceptRanges"], apart := false, laid := [("unicode/utf8.acceptRanges", laid_unicode_utf8_acceptRanges), ("unicode/utf8.first", laid_unicode_utf8_first)] }
def RunesAheadSaid : Prop := runesAheadRow.holds Tryd.pinned (OpenSpec.ofChange runesAheadSpec)

/-- ITS FALSE NEIGHBOUR: 'it returns false'. Refute it at one input. -/
def runesAheadWrong : ChangeSpec := { name := "runesAhead", fn := fun _ => fun
  | [d] => { results := [.lit (.bool false)], args := [d] }
  | _ => none }
def RunesAheadWrongFalsely : Prop := runesAheadRow.holds Tryd.pinned (OpenSpec.ofChange runesAheadWrong)

/- THE SECOND FORM. 'bulk': how many values and letters a reading holds, each counted each time it is reached (what is shared counts as often as it is met; a slice's spare places count too). A statement '..UptoSaid' is the law's where the arguments, and the package variables that the reading takes, are together of bulk at most 1048576: NARROWER than '..Said'. Prove '..Said' where nothing that the law and all that it calls make is longer than what came in: it says more and counts as full. Else prove '..UptoSaid'. A law counts once. -/
mutual
def uptoBulk {H : Type} : DataW H → Nat
  | .lit (.string bytes) => bytes.length + 1
  | .lit _ => 1
  | .nil => 1
  | .ptr d => uptoBulk d + 1
  | .slice elems spare => uptoBulkAll elems + uptoBulkAll spare + 1
  | .agg parts => uptoBulkAll parts + 1
  | .iface _ d => uptoBulk d + 1
  | .map entries => uptoBulkEntries entries + 1
  | .held _ => 1
def uptoBulkAll {H : Type} : List (DataW H) → Nat
  | [] => 0
  | d :: r => uptoBulk d + uptoBulkAll r
def uptoBulkEntries {H : Type} : List (Lit × DataW H) → Nat
  | [] => 0
  | x :: r => uptoBulkEntry x + uptoBulkEntries r
def uptoBulkEntry {H : Type} : Lit × DataW H → Nat
  | (.string bytes, d) => bytes.length + uptoBulk d + 1
  | (_, d) => uptoBulk d + 1
 end
def uptoSmall : (H : Type) → List (DataW H) → Bool := fun _ ds => decide (uptoBulkAll ds ≤ 1048576)
def OpenSpec.upto (s : _root_.Go.ChangeSpec) : _root_.Go.OpenSpec := { _root_.Go.OpenSpec.ofChange s with cond := some uptoSmall }

/-- 'rhizomelaw01.RunesReads', WHERE WHAT IT READS IS OF BULK AT MOST 1048576: true; the input reads as it did. -/
def runesReadsUptoRow : OpenClaim := { program := "ytohmplfkieaecaadoor", sum := "dd8daeec8be1d4689c89fb090e46c98778ee1f2734e25375d0f355893c1abc78", func := "rhizome/rhizomelaw01.RunesReads", spec := "runesReads", unfollowed := true, recurses := true, named := ["unicode/utf8.first", "unicode/utf8.acceptRanges"], apart := false, laid := [("unicode/utf8.acceptRanges", laid_unicode_utf8_acceptRanges), ("unicode/utf8.first", laid_unicode_utf8_first)], narrowed := true }
def RunesReadsUptoSaid : Prop := runesReadsUptoRow.holds Tryd.pinned (OpenSpec.upto runesReadsSpec)

/-- 'rhizomelaw01.RunesPuts', WHERE WHAT IT READS IS OF BULK AT MOST 1048576: true; the input reads as it did. -/
def runesPutsUptoRow : OpenClaim := { program := "ytohmplfkieaecaadoor", sum := "dd8daeec8be1d4689c89fb090e46c98778ee1f2734e25375d0f355893c1abc78", func := "rhizome/rhizomelaw01.RunesPuts", spec := "runesPuts", unfollowed := true, recurses := true, named := ["unicode/utf8.first", "unicode/utf8.acceptRanges"], apart := false, laid := [("unicode/utf8.acceptRanges", laid_unicode_utf8_acceptRanges), ("unicode/utf8.first", laid_unicode_utf8_first)], narrowed := true }
def RunesPutsUptoSaid : Prop := runesPutsUptoRow.holds Tryd.pinned (OpenSpec.upto runesPutsSpec)

/-- 'rhizomelaw01.RunesSource', WHERE WHAT IT READS IS OF BULK AT MOST 1048576: true; the input reads as it did. -/
def runesSourceUptoRow : OpenClaim := { program := "ytohmplfkieaecaadoor", sum := "dd8daeec8be1d4689c89fb090e46c98778ee1f2734e25375d0f355893c1abc78", func := "rhizome/rhizomelaw01.RunesSource", spec := "runesSource", unfollowed := true, recurses := true, named := ["unicode/utf8.first", "unicode/utf8.acceptRanges"], apart := false, laid := [("unicode/utf8.acceptRanges", laid_unicode_utf8_acceptRanges), ("unicode/utf8.first", laid_unicode_utf8_first)], narrowed := true }
def RunesSourceUptoSaid : Prop := runesSourceUptoRow.holds Tryd.pinned (OpenSpec.upto runesSourceSpec)

/-- 'rhizomelaw01.RunesPlaces', WHERE WHAT IT READS IS OF BULK AT MOST 1048576: true; the input reads as it did. -/
def runesPlacesUptoRow : OpenClaim := { program := "ytohmplfkieaecaadoor", sum := "dd8daeec8be1d4689c89fb090e46c98778ee1f2734e25375d0f355893c1abc78", func := "rhizome/rhizomelaw01.RunesPlaces", spec := "runesPlaces", unfollowed := true, recurses := true, named := ["unicode/utf8.first", "unicode/utf8.acceptRanges"], apart := false, laid := [("unicode/utf8.acceptRanges", laid_unicode_utf8_acceptRanges), ("unicode/utf8.first", laid_unicode_utf8_first)], narrowed := true }
def RunesPlacesUptoSaid : Prop := runesPlacesUptoRow.holds Tryd.pinned (OpenSpec.upto runesPlacesSpec)

/-- 'rhizomelaw01.RunesBack', WHERE WHAT IT READS IS OF BULK AT MOST 1048576: true; the input reads as it did. -/
def runesBackUptoRow : OpenClaim := { program := "ytohmplfkieaecaadoor", sum := "dd8daeec8be1d4689c89fb090e46c98778ee1f2734e25375d0f355893c1abc78", func := "rhizome/rhizomelaw01.RunesBack", spec := "runesBack", unfollowed := true, recurses := true, named := ["unicode/utf8.first", "unicode/utf8.acceptRanges"], apart := false, laid := [("unicode/utf8.acceptRanges", laid_unicode_utf8_acceptRanges), ("unicode/utf8.first", laid_unicode_utf8_first)], narrowed := true }
def RunesBackUptoSaid : Prop := runesBackUptoRow.holds Tryd.pinned (OpenSpec.upto runesBackSpec)

/-- 'rhizomelaw01.RunesJoin', WHERE WHAT IT READS IS OF BULK AT MOST 1048576: true; the input reads as it did. -/
def runesJoinUptoRow : OpenClaim := { program := "ytohmplfkieaecaadoor", sum := "dd8daeec8be1d4689c89fb090e46c98778ee1f2734e25375d0f355893c1abc78", func := "rhizome/rhizomelaw01.RunesJoin", spec := "runesJoin", unfollowed := true, recurses := true, named := ["unicode/utf8.first", "unicode/utf8.acceptRanges"], apart := false, laid := [("unicode/utf8.acceptRanges", laid_unicode_utf8_acceptRanges), ("unicode/utf8.first", laid_unicode_utf8_first)], narrowed := true }
def RunesJoinUptoSaid : Prop := runesJoinUptoRow.holds Tryd.pinned (OpenSpec.upto runesJoinSpec)

/-- 'rhizomelaw01.RunesLines', WHERE WHAT IT READS IS OF BULK AT MOST 1048576: true; the input reads as it did. -/
def runesLinesUptoRow : OpenClaim := { program := "ytohmplfkieaecaadoor", sum := "dd8daeec8be1d4689c89fb090e46c98778ee1f2734e25375d0f355893c1abc78", func := "rhizome/rhizomelaw01.RunesLines", spec := "runesLines", unfollowed := true, recurses := true, named := ["unicode/utf8.first", "unicode/utf8.acceptRanges"], apart := false, laid := [("unicode/utf8.acceptRanges", laid_unicode_utf8_acceptRanges), ("unicode/utf8.first", laid_unicode_utf8_first)], narrowed := true }
def RunesLinesUptoSaid : Prop := runesLinesUptoRow.holds Tryd.pinned (OpenSpec.upto runesLinesSpec)

/-- 'rhizomelaw01.RunesSteps', WHERE WHAT IT READS IS OF BULK AT MOST 1048576: true; the input reads as it did. -/
def runesStepsUptoRow : OpenClaim := { program := "ytohmplfkieaecaadoor", sum := "dd8daeec8be1d4689c89fb090e46c98778ee1f2734e25375d0f355893c1abc78", func := "rhizome/rhizomelaw01.RunesSteps", spec := "runesSteps", unfollowed := true, recurses := true, named := ["unicode/utf8.first", "unicode/utf8.acceptRanges"], apart := false, laid := [("unicode/utf8.acceptRanges", laid_unicode_utf8_acceptRanges), ("unicode/utf8.first", laid_unicode_utf8_first)], narrowed := true }
def RunesStepsUptoSaid : Prop := runesStepsUptoRow.holds Tryd.pinned (OpenSpec.upto runesStepsSpec)

/-- 'rhizomelaw01.RunesAhead', WHERE WHAT IT READS IS OF BULK AT MOST 1048576: true; the input reads as it did. -/
def runesAheadUptoRow : OpenClaim := { program := "ytohmplfkieaecaadoor", sum := "dd8daeec8be1d4689c89fb090e46c98778ee1f2734e25375d0f355893c1abc78", func := "rhizome/rhizomelaw01.RunesAhead", spec := "runesAhead", unfollowed := true, recurses := true, named := ["unicode/utf8.first", "unicode/utf8.acceptRanges"], apart := false, laid := [("unicode/utf8.acceptRanges", laid_unicode_utf8_acceptRanges), ("unicode/utf8.first", laid_unicode_utf8_first)], narrowed := true }
def RunesAheadUptoSaid : Prop := runesAheadUptoRow.holds Tryd.pinned (OpenSpec.upto runesAheadSpec)

end Rows
end Go.Proofs.YtohmplfkieaecaaDoor
