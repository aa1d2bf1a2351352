/-
  DERIVED. GIVEN WITH THE SEED: THE CARDS: each row of YtcodmeljjphoeaaDoorRows.lean that lists a variable, with what it lists TIED to the program's text (the seventh form; the later family's looks); each row that meets fmt, with fmt's text TOLD by the authors' own Lean function (tested against real Go, not proved from fmt's source: count such statements apart). THE CARD IS WHAT COUNTS. Prove the row's statement (the work); the ties are given (YtcodmeljjphoeaaDoorTie.lean); close each card by the builder's one call (the guide's Derived/Test/ToyasCard.lean, 'card_holds'). Laid BY PROGRAM, IN A SANDBOX (cutbox-door.mjs). By AI agents, Wed Nov 11 2026. No macro, syntax, notation, axiom, sorry.
-/
import Derived.Test.YtcodmeljjphoeaaDoorRows
import GoSem.ClaimSeven
namespace Go.Proofs.YtcodmeljjphoeaaDoor
namespace Rows

/-- THE TIED CARD OF 'radicandlaw15.SrtDivides'. -/
def srtDividesCard : Claim7 := { stood := { row := srtDividesRow, standIns := [], harness := (true, "3e99c42790b836898fde4b8c37d6e5e63d47bdf8389b5c4cfb3ee20f31068c85"), looks := false }, kinds := [], alts := [], laidByText := true, laidKinds := [.data], laidTests := true, laidLooks := .later }
def SrtDividesCardSaid : Prop := Claim7.holds Tryd.pinned (.plain (OpenSpec.ofChange srtDividesSpec)) srtDividesCard

/-- THE TIED CARD OF 'radicandlaw15.SrtDigits'. -/
def srtDigitsCard : Claim7 := { stood := { row := srtDigitsRow, standIns := [], harness := (true, "3e99c42790b836898fde4b8c37d6e5e63d47bdf8389b5c4cfb3ee20f31068c85"), looks := false }, kinds := [], alts := [], laidByText := true, laidKinds := [.data], laidTests := true, laidLooks := .later }
def SrtDigitsCardSaid : Prop := Claim7.holds Tryd.pinned (.plain (OpenSpec.ofChange srtDigitsSpec)) srtDigitsCard

/-- THE TIED CARD OF 'radicandlaw15.SrtLeft'. -/
def srtLeftCard : Claim7 := { stood := { row := srtLeftRow, standIns := [], harness := (true, "3e99c42790b836898fde4b8c37d6e5e63d47bdf8389b5c4cfb3ee20f31068c85"), looks := false }, kinds := [], alts := [], laidByText := true, laidKinds := [.data], laidTests := true, laidLooks := .later }
def SrtLeftCardSaid : Prop := Claim7.holds Tryd.pinned (.plain (OpenSpec.ofChange srtLeftSpec)) srtLeftCard

/-- THE TIED CARD OF 'radicandlaw15.SrtKeeps'. -/
def srtKeepsCard : Claim7 := { stood := { row := srtKeepsRow, standIns := [], harness := (true, "3e99c42790b836898fde4b8c37d6e5e63d47bdf8389b5c4cfb3ee20f31068c85"), looks := false }, kinds := [], alts := [], laidByText := true, laidKinds := [.data], laidTests := true, laidLooks := .later }
def SrtKeepsCardSaid : Prop := Claim7.holds Tryd.pinned (.plain (OpenSpec.ofChange srtKeepsSpec)) srtKeepsCard

/-- THE SECOND FORM's CARD OF 'radicandlaw15.SrtDivides'. -/
def srtDividesUptoCard : Claim7 := { stood := { row := srtDividesUptoRow, standIns := [], harness := (true, "3e99c42790b836898fde4b8c37d6e5e63d47bdf8389b5c4cfb3ee20f31068c85"), looks := false }, kinds := [], alts := [], laidByText := true, laidKinds := [.data], laidTests := true, laidLooks := .later }
def SrtDividesUptoCardSaid : Prop := Claim7.holds Tryd.pinned (.plain (OpenSpec.upto srtDividesSpec)) srtDividesUptoCard

/-- THE SECOND FORM's CARD OF 'radicandlaw15.SrtDigits'. -/
def srtDigitsUptoCard : Claim7 := { stood := { row := srtDigitsUptoRow, standIns := [], harness := (true, "3e99c42790b836898fde4b8c37d6e5e63d47bdf8389b5c4cfb3ee20f31068c85"), looks := false }, kinds := [], alts := [], laidByText := true, laidKinds := [.data], laidTests := true, laidLooks := .later }
def SrtDigitsUptoCardSaid : Prop := Claim7.holds Tryd.pinned (.plain (OpenSpec.upto srtDigitsSpec)) srtDigitsUptoCard

/-- THE SECOND FORM's CARD OF 'radicandlaw15.SrtLeft'. -/
def srtLeftUptoCard : Claim7 := { stood := { row := srtLeftUptoRow, standIns := [], harness := (true, "3e99c42790b836898fde4b8c37d6e5e63d47bdf8389b5c4cfb3ee20f31068c85"), looks := false }, kinds := [], alts := [], laidByText := true, laidKinds := [.data], laidTests := true, laidLooks := .later }
def SrtLeftUptoCardSaid : Prop := Claim7.holds Tryd.pinned (.plain (OpenSpec.upto srtLeftSpec)) srtLeftUptoCard

/-- THE SECOND FORM's CARD OF 'radicandlaw15.SrtKeeps'. -/
def srtKeepsUptoCard : Claim7 := { stood := { row := srtKeepsUptoRow, standIns := [], harness := (true, "3e99c42790b836898fde4b8c37d6e5e63d47bdf8389b5c4cfb3ee20f31068c85"), looks := false }, kinds := [], alts := [], laidByText := true, laidKinds := [.data], laidTests := true, laidLooks := .later }
def SrtKeepsUptoCardSaid : Prop := Claim7.holds Tryd.pinned (.plain (OpenSpec.upto srtKeepsSpec)) srtKeepsUptoCard
end Rows
end Go.Proofs.YtcodmeljjphoeaaDoor
