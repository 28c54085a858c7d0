/-
  DERIVED. GIVEN WITH THE SEED: THE CARDS: each row of YtejhjlfakfaegaaDoorRows.lean that lists a variable, with what it lists TIED to the program's text (the seventh form; the later family's looks); each row that meets fmt, with fmt's text TOLD by the authors' own Lean function (tested against real Go, not proved from fmt's source: count such statements apart). THE CARD IS WHAT COUNTS. Prove the row's statement (the work); the ties are given (YtejhjlfakfaegaaDoorTie.lean); close each card by the builder's one call (the guide's Derived/Test/ToyasCard.lean, 'card_holds'). Laid BY PROGRAM, IN A SANDBOX (cutbox-door.mjs). By AI agents, Wed Nov 11 2026. No macro, syntax, notation, axiom, sorry.
-/
import Derived.Test.YtejhjlfakfaegaaDoorRows
import GoSem.ClaimSeven
namespace Go.Proofs.YtejhjlfakfaegaaDoor
namespace Rows

/-- THE TIED CARD OF 'compeerlaw06.SealOpens'. -/
def sealOpensCard : Claim7 := { stood := { row := sealOpensRow, standIns := [], harness := (true, "c28766f5de742b0c505b000e33fe27913fd7e63de1812c0721c91e4fe31c7d87"), looks := false }, kinds := [], alts := [], laidByText := true, laidKinds := [.data, .data, .data], laidTests := true, laidLooks := .later }
def SealOpensCardSaid : Prop := Claim7.holds Tryd.pinned (.plain (OpenSpec.ofChange sealOpensSpec)) sealOpensCard

/-- THE TIED CARD OF 'compeerlaw06.SealApart'. -/
def sealApartCard : Claim7 := { stood := { row := sealApartRow, standIns := [], harness := (true, "c28766f5de742b0c505b000e33fe27913fd7e63de1812c0721c91e4fe31c7d87"), looks := false }, kinds := [], alts := [], laidByText := true, laidKinds := [.data, .data, .data], laidTests := true, laidLooks := .later }
def SealApartCardSaid : Prop := Claim7.holds Tryd.pinned (.plain (OpenSpec.ofChange sealApartSpec)) sealApartCard

/-- THE SECOND FORM's CARD OF 'compeerlaw06.SealOpens'. -/
def sealOpensUptoCard : Claim7 := { stood := { row := sealOpensUptoRow, standIns := [], harness := (true, "c28766f5de742b0c505b000e33fe27913fd7e63de1812c0721c91e4fe31c7d87"), looks := false }, kinds := [], alts := [], laidByText := true, laidKinds := [.data, .data, .data], laidTests := true, laidLooks := .later }
def SealOpensUptoCardSaid : Prop := Claim7.holds Tryd.pinned (.plain (OpenSpec.upto sealOpensSpec)) sealOpensUptoCard

/-- THE SECOND FORM's CARD OF 'compeerlaw06.SealApart'. -/
def sealApartUptoCard : Claim7 := { stood := { row := sealApartUptoRow, standIns := [], harness := (true, "c28766f5de742b0c505b000e33fe27913fd7e63de1812c0721c91e4fe31c7d87"), looks := false }, kinds := [], alts := [], laidByText := true, laidKinds := [.data, .data, .data], laidTests := true, laidLooks := .later }
def SealApartUptoCardSaid : Prop := Claim7.holds Tryd.pinned (.plain (OpenSpec.upto sealApartSpec)) sealApartUptoCard
end Rows
end Go.Proofs.YtejhjlfakfaegaaDoor
