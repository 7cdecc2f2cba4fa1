/-
  DERIVED. GIVEN WITH THE SEED: THE CARDS: each row of YtckhhdhkchcljaaDoorRows.lean that lists a variable, with what it lists TIED to the program's text (the seventh form; the later family's looks); each row that meets fmt, with fmt's text TOLD by the authors' own Lean function (tested against real Go, not proved from fmt's source: count such statements apart). THE CARD IS WHAT COUNTS. Prove the row's statement (the work); the ties are given (YtckhhdhkchcljaaDoorTie.lean); close each card by the builder's one call (the guide's Derived/Test/ToyasCard.lean, 'card_holds'). Laid BY PROGRAM, IN A SANDBOX (cutbox-door.mjs). By AI agents, Wed Nov 11 2026. No macro, syntax, notation, axiom, sorry.
-/
import Derived.Test.YtckhhdhkchcljaaDoorRows
import GoSem.ClaimSeven
namespace Go.Proofs.YtckhhdhkchcljaaDoor
namespace Rows

/-- THE TIED CARD OF 'laws.FnLineMany'. -/
def fnLineManyCard : Claim7 := { stood := { row := fnLineManyRow, standIns := [], harness := (true, "3c5ee781e5d086cbed7413825464c7bd37e6ad46a506ea7639df6338fc54c643"), looks := false }, kinds := [], alts := [], laidByText := true, laidKinds := [.data, .pinned], laidTests := true, laidLooks := .later }
def FnLineManyCardSaid : Prop := Claim7.holds Tryd.pinned (.plain (OpenSpec.ofChange fnLineManySpec)) fnLineManyCard

/-- THE SECOND FORM's CARD OF 'laws.FnLineMany'. -/
def fnLineManyUptoCard : Claim7 := { stood := { row := fnLineManyUptoRow, standIns := [], harness := (true, "3c5ee781e5d086cbed7413825464c7bd37e6ad46a506ea7639df6338fc54c643"), looks := false }, kinds := [], alts := [], laidByText := true, laidKinds := [.data, .pinned], laidTests := true, laidLooks := .later }
def FnLineManyUptoCardSaid : Prop := Claim7.holds Tryd.pinned (.plain (OpenSpec.upto fnLineManySpec)) fnLineManyUptoCard
end Rows
end Go.Proofs.YtckhhdhkchcljaaDoor
