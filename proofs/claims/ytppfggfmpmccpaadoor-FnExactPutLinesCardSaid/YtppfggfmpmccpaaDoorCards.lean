/-
  DERIVED. GIVEN WITH THE SEED: THE CARDS: each row of YtppfggfmpmccpaaDoorRows.lean that lists a variable, with what it lists TIED to the program's text (the seventh form; the later family's looks); each row that meets fmt, with fmt's text TOLD by the authors' own Lean function (tested against real Go, not proved from fmt's source: count such statements apart). THE CARD IS WHAT COUNTS. Prove the row's statement (the work); the ties are given (YtppfggfmpmccpaaDoorTie.lean); close each card by the builder's one call (the guide's Derived/Test/ToyasCard.lean, 'card_holds'). Laid BY PROGRAM, IN A SANDBOX (cutbox-door.mjs). By AI agents, Wed Nov 11 2026. No macro, syntax, notation, axiom, sorry.
-/
import Derived.Test.YtppfggfmpmccpaaDoorRows
import GoSem.ClaimSeven
namespace Go.Proofs.YtppfggfmpmccpaaDoor
namespace Rows

/-- THE TIED CARD OF 'laws.FnExactPutLines'. -/
def fnExactPutLinesCard : Claim7 := { stood := { row := fnExactPutLinesRow, standIns := [], harness := (true, "9b8faf7688af86e8fd31bf396afb882b39e65d60f60ad7422a6835fca98918a2"), looks := false }, kinds := [], alts := [], laidByText := true, laidKinds := [.data, .pinned], laidTests := true, laidLooks := .later }
def FnExactPutLinesCardSaid : Prop := Claim7.holds Tryd.pinned (.plain (OpenSpec.ofChange fnExactPutLinesSpec)) fnExactPutLinesCard

/-- THE TIED CARD OF 'laws.FnExactLinesOf'. -/
def fnExactLinesOfCard : Claim7 := { stood := { row := fnExactLinesOfRow, standIns := [], harness := (true, "9b8faf7688af86e8fd31bf396afb882b39e65d60f60ad7422a6835fca98918a2"), looks := false }, kinds := [], alts := [], laidByText := true, laidKinds := [.data, .pinned], laidTests := true, laidLooks := .later }
def FnExactLinesOfCardSaid : Prop := Claim7.holds Tryd.pinned (.plain (OpenSpec.ofChange fnExactLinesOfSpec)) fnExactLinesOfCard

/-- THE TIED CARD OF 'laws.FnExactCutLines'. -/
def fnExactCutLinesCard : Claim7 := { stood := { row := fnExactCutLinesRow, standIns := [], harness := (true, "9b8faf7688af86e8fd31bf396afb882b39e65d60f60ad7422a6835fca98918a2"), looks := false }, kinds := [], alts := [], laidByText := true, laidKinds := [.data, .pinned], laidTests := true, laidLooks := .later }
def FnExactCutLinesCardSaid : Prop := Claim7.holds Tryd.pinned (.plain (OpenSpec.ofChange fnExactCutLinesSpec)) fnExactCutLinesCard

/-- THE SECOND FORM's CARD OF 'laws.FnExactPutLines'. -/
def fnExactPutLinesUptoCard : Claim7 := { stood := { row := fnExactPutLinesUptoRow, standIns := [], harness := (true, "9b8faf7688af86e8fd31bf396afb882b39e65d60f60ad7422a6835fca98918a2"), looks := false }, kinds := [], alts := [], laidByText := true, laidKinds := [.data, .pinned], laidTests := true, laidLooks := .later }
def FnExactPutLinesUptoCardSaid : Prop := Claim7.holds Tryd.pinned (.plain (OpenSpec.upto fnExactPutLinesSpec)) fnExactPutLinesUptoCard

/-- THE SECOND FORM's CARD OF 'laws.FnExactLinesOf'. -/
def fnExactLinesOfUptoCard : Claim7 := { stood := { row := fnExactLinesOfUptoRow, standIns := [], harness := (true, "9b8faf7688af86e8fd31bf396afb882b39e65d60f60ad7422a6835fca98918a2"), looks := false }, kinds := [], alts := [], laidByText := true, laidKinds := [.data, .pinned], laidTests := true, laidLooks := .later }
def FnExactLinesOfUptoCardSaid : Prop := Claim7.holds Tryd.pinned (.plain (OpenSpec.upto fnExactLinesOfSpec)) fnExactLinesOfUptoCard

/-- THE SECOND FORM's CARD OF 'laws.FnExactCutLines'. -/
def fnExactCutLinesUptoCard : Claim7 := { stood := { row := fnExactCutLinesUptoRow, standIns := [], harness := (true, "9b8faf7688af86e8fd31bf396afb882b39e65d60f60ad7422a6835fca98918a2"), looks := false }, kinds := [], alts := [], laidByText := true, laidKinds := [.data, .pinned], laidTests := true, laidLooks := .later }
def FnExactCutLinesUptoCardSaid : Prop := Claim7.holds Tryd.pinned (.plain (OpenSpec.upto fnExactCutLinesSpec)) fnExactCutLinesUptoCard
end Rows
end Go.Proofs.YtppfggfmpmccpaaDoor
