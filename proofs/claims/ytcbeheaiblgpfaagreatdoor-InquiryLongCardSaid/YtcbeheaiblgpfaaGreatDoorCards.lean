/-
  DERIVED. GIVEN WITH THE SEED: THE CARDS: each row of YtcbeheaiblgpfaaGreatDoorRows.lean that lists a variable, with what it lists TIED to the program's text (the seventh form; the later family's looks); each row that meets fmt, with fmt's text TOLD by the authors' own Lean function (tested against real Go, not proved from fmt's source: count such statements apart). THE CARD IS WHAT COUNTS. Prove the row's statement (the work); the ties are given (YtcbeheaiblgpfaaGreatDoorTie.lean); close each card by the builder's one call (the guide's Derived/Test/ToyasCard.lean, 'card_holds'). Laid BY PROGRAM, IN A SANDBOX (cutbox-door.mjs). By AI agents, Wed Nov 11 2026. No macro, syntax, notation, axiom, sorry.
-/
import Derived.Test.YtcbeheaiblgpfaaGreatDoorRows
import GoSem.ClaimSeven
namespace Go.Proofs.YtcbeheaiblgpfaaGreatDoor
namespace Rows

/-- THE TIED CARD OF 'laganlaw09.InquiryLong'. -/
def inquiryLongCard : Claim7 := { stood := { row := inquiryLongRow, standIns := [], harness := (true, "5fe4f2994bcfcb18a573ba9b76c2139879dc70faabe354a7a6f3c4e0ac6ce8ec"), looks := true }, kinds := [], alts := [], laidByText := true, laidKinds := [.data, .data, .data, .data, .sentinel, .sentinel, .pinned], laidTests := true, laidLooks := .later }
def InquiryLongCardSaid : Prop := Claim7.holds Tryz.pinned (.plain (OpenSpec.ofChange inquiryLongSpec)) inquiryLongCard

/-- THE SECOND FORM's CARD OF 'laganlaw09.InquiryLong'. -/
def inquiryLongUptoCard : Claim7 := { stood := { row := inquiryLongUptoRow, standIns := [], harness := (true, "5fe4f2994bcfcb18a573ba9b76c2139879dc70faabe354a7a6f3c4e0ac6ce8ec"), looks := true }, kinds := [], alts := [], laidByText := true, laidKinds := [.data, .data, .data, .data, .sentinel, .sentinel, .pinned], laidTests := true, laidLooks := .later }
def InquiryLongUptoCardSaid : Prop := Claim7.holds Tryz.pinned (.plain (OpenSpec.upto inquiryLongSpec)) inquiryLongUptoCard
end Rows
end Go.Proofs.YtcbeheaiblgpfaaGreatDoor
