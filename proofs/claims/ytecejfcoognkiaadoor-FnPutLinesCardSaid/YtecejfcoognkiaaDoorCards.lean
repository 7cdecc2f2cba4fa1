/-
  DERIVED. GIVEN WITH THE SEED: THE CARDS: each row of YtecejfcoognkiaaDoorRows.lean that lists a variable, with what it lists TIED to the program's text (the seventh form; the later family's looks); each row that meets fmt, with fmt's text TOLD by the authors' own Lean function (tested against real Go, not proved from fmt's source: count such statements apart). THE CARD IS WHAT COUNTS. Prove the row's statement (the work); the ties are given (YtecejfcoognkiaaDoorTie.lean); close each card by the builder's one call (the guide's Derived/Test/ToyasCard.lean, 'card_holds'). Laid BY PROGRAM, IN A SANDBOX (cutbox-door.mjs). By AI agents, Wed Nov 11 2026. No macro, syntax, notation, axiom, sorry.
-/
import Derived.Test.YtecejfcoognkiaaDoorRows
import GoSem.ClaimSeven
namespace Go.Proofs.YtecejfcoognkiaaDoor
namespace Rows

/-- THE TIED CARD OF 'laws.FnLinesOf'. -/
def fnLinesOfCard : Claim7 := { stood := { row := fnLinesOfRow, standIns := [], harness := (true, "5ade065a4eaeed7b86f839d36af79ba0cb2cb21964be7862375d421941d4b12b"), looks := false }, kinds := [], alts := [], laidByText := true, laidKinds := [.data, .pinned], laidTests := true, laidLooks := .later }
def FnLinesOfCardSaid : Prop := Claim7.holds Tryd.pinned (.plain (OpenSpec.ofChange fnLinesOfSpec)) fnLinesOfCard

/-- THE TIED CARD OF 'laws.FnPutLines'. -/
def fnPutLinesCard : Claim7 := { stood := { row := fnPutLinesRow, standIns := [], harness := (true, "5ade065a4eaeed7b86f839d36af79ba0cb2cb21964be7862375d421941d4b12b"), looks := false }, kinds := [], alts := [], laidByText := true, laidKinds := [.data, .pinned], laidTests := true, laidLooks := .later }
def FnPutLinesCardSaid : Prop := Claim7.holds Tryd.pinned (.plain (OpenSpec.ofChange fnPutLinesSpec)) fnPutLinesCard

/-- THE TIED CARD OF 'laws.FnLinesJoin'. -/
def fnLinesJoinCard : Claim7 := { stood := { row := fnLinesJoinRow, standIns := [], harness := (true, "5ade065a4eaeed7b86f839d36af79ba0cb2cb21964be7862375d421941d4b12b"), looks := false }, kinds := [], alts := [], laidByText := true, laidKinds := [.data, .pinned], laidTests := true, laidLooks := .later }
def FnLinesJoinCardSaid : Prop := Claim7.holds Tryd.pinned (.plain (OpenSpec.ofChange fnLinesJoinSpec)) fnLinesJoinCard

/-- THE TIED CARD OF 'laws.FnCutLines'. -/
def fnCutLinesCard : Claim7 := { stood := { row := fnCutLinesRow, standIns := [], harness := (true, "5ade065a4eaeed7b86f839d36af79ba0cb2cb21964be7862375d421941d4b12b"), looks := false }, kinds := [], alts := [], laidByText := true, laidKinds := [.data, .pinned], laidTests := true, laidLooks := .later }
def FnCutLinesCardSaid : Prop := Claim7.holds Tryd.pinned (.plain (OpenSpec.ofChange fnCutLinesSpec)) fnCutLinesCard

/-- THE TIED CARD OF 'laws.FnLinesText'. -/
def fnLinesTextCard : Claim7 := { stood := { row := fnLinesTextRow, standIns := [], harness := (true, "5ade065a4eaeed7b86f839d36af79ba0cb2cb21964be7862375d421941d4b12b"), looks := false }, kinds := [], alts := [], laidByText := true, laidKinds := [.data, .pinned], laidTests := true, laidLooks := .later }
def FnLinesTextCardSaid : Prop := Claim7.holds Tryd.pinned (.plain (OpenSpec.ofChange fnLinesTextSpec)) fnLinesTextCard

/-- THE SECOND FORM's CARD OF 'laws.FnLinesOf'. -/
def fnLinesOfUptoCard : Claim7 := { stood := { row := fnLinesOfUptoRow, standIns := [], harness := (true, "5ade065a4eaeed7b86f839d36af79ba0cb2cb21964be7862375d421941d4b12b"), looks := false }, kinds := [], alts := [], laidByText := true, laidKinds := [.data, .pinned], laidTests := true, laidLooks := .later }
def FnLinesOfUptoCardSaid : Prop := Claim7.holds Tryd.pinned (.plain (OpenSpec.upto fnLinesOfSpec)) fnLinesOfUptoCard

/-- THE SECOND FORM's CARD OF 'laws.FnPutLines'. -/
def fnPutLinesUptoCard : Claim7 := { stood := { row := fnPutLinesUptoRow, standIns := [], harness := (true, "5ade065a4eaeed7b86f839d36af79ba0cb2cb21964be7862375d421941d4b12b"), looks := false }, kinds := [], alts := [], laidByText := true, laidKinds := [.data, .pinned], laidTests := true, laidLooks := .later }
def FnPutLinesUptoCardSaid : Prop := Claim7.holds Tryd.pinned (.plain (OpenSpec.upto fnPutLinesSpec)) fnPutLinesUptoCard

/-- THE SECOND FORM's CARD OF 'laws.FnLinesJoin'. -/
def fnLinesJoinUptoCard : Claim7 := { stood := { row := fnLinesJoinUptoRow, standIns := [], harness := (true, "5ade065a4eaeed7b86f839d36af79ba0cb2cb21964be7862375d421941d4b12b"), looks := false }, kinds := [], alts := [], laidByText := true, laidKinds := [.data, .pinned], laidTests := true, laidLooks := .later }
def FnLinesJoinUptoCardSaid : Prop := Claim7.holds Tryd.pinned (.plain (OpenSpec.upto fnLinesJoinSpec)) fnLinesJoinUptoCard

/-- THE SECOND FORM's CARD OF 'laws.FnCutLines'. -/
def fnCutLinesUptoCard : Claim7 := { stood := { row := fnCutLinesUptoRow, standIns := [], harness := (true, "5ade065a4eaeed7b86f839d36af79ba0cb2cb21964be7862375d421941d4b12b"), looks := false }, kinds := [], alts := [], laidByText := true, laidKinds := [.data, .pinned], laidTests := true, laidLooks := .later }
def FnCutLinesUptoCardSaid : Prop := Claim7.holds Tryd.pinned (.plain (OpenSpec.upto fnCutLinesSpec)) fnCutLinesUptoCard

/-- THE SECOND FORM's CARD OF 'laws.FnLinesText'. -/
def fnLinesTextUptoCard : Claim7 := { stood := { row := fnLinesTextUptoRow, standIns := [], harness := (true, "5ade065a4eaeed7b86f839d36af79ba0cb2cb21964be7862375d421941d4b12b"), looks := false }, kinds := [], alts := [], laidByText := true, laidKinds := [.data, .pinned], laidTests := true, laidLooks := .later }
def FnLinesTextUptoCardSaid : Prop := Claim7.holds Tryd.pinned (.plain (OpenSpec.upto fnLinesTextSpec)) fnLinesTextUptoCard
end Rows
end Go.Proofs.YtecejfcoognkiaaDoor
