/-
  DERIVED. GIVEN WITH THE SEED: THE CARDS: each row of YticaocadeeolkaaDoorRows.lean that lists a variable, with what it lists TIED to the program's text (the seventh form; the later family's looks); each row that meets fmt, with fmt's text TOLD by the authors' own Lean function (tested against real Go, not proved from fmt's source: count such statements apart). THE CARD IS WHAT COUNTS. Prove the row's statement (the work); the ties are given (YticaocadeeolkaaDoorTie.lean); close each card by the builder's one call (the guide's Derived/Test/ToyasCard.lean, 'card_holds'). Laid BY PROGRAM, IN A SANDBOX (cutbox-door.mjs). By AI agents, Wed Nov 11 2026. No macro, syntax, notation, axiom, sorry.
-/
import Derived.Test.YticaocadeeolkaaDoorRows
import GoSem.ClaimSeven
namespace Go.Proofs.YticaocadeeolkaaDoor
namespace Rows

/-- THE TIED CARD OF 'sorrellaw03.BoxOpens'. -/
def boxOpensCard : Claim7 := { stood := { row := boxOpensRow, standIns := [], harness := (true, "cf7fbc690de33e67582ef9fca4f574bef2d695ec88f4ba7cb6cf64c07e4c0d28"), looks := true }, kinds := [], alts := [], laidByText := true, laidKinds := [.data, .data], laidTests := true, laidLooks := .later }
def BoxOpensCardSaid : Prop := Claim7.holds Tryd.pinned (.plain (OpenSpec.ofChange boxOpensSpec)) boxOpensCard

/-- THE TIED CARD OF 'sorrellaw03.BoxBack'. -/
def boxBackCard : Claim7 := { stood := { row := boxBackRow, standIns := [], harness := (true, "cf7fbc690de33e67582ef9fca4f574bef2d695ec88f4ba7cb6cf64c07e4c0d28"), looks := true }, kinds := [], alts := [], laidByText := true, laidKinds := [.data, .data], laidTests := true, laidLooks := .later }
def BoxBackCardSaid : Prop := Claim7.holds Tryd.pinned (.plain (OpenSpec.ofChange boxBackSpec)) boxBackCard

/-- THE TIED CARD OF 'sorrellaw03.BoxKeeps'. -/
def boxKeepsCard : Claim7 := { stood := { row := boxKeepsRow, standIns := [], harness := (true, "cf7fbc690de33e67582ef9fca4f574bef2d695ec88f4ba7cb6cf64c07e4c0d28"), looks := true }, kinds := [], alts := [], laidByText := true, laidKinds := [.data, .data], laidTests := true, laidLooks := .later }
def BoxKeepsCardSaid : Prop := Claim7.holds Tryd.pinned (.plain (OpenSpec.ofChange boxKeepsSpec)) boxKeepsCard

/-- THE TIED CARD OF 'sorrellaw03.BoxAll'. -/
def boxAllCard : Claim7 := { stood := { row := boxAllRow, standIns := [], harness := (true, "cf7fbc690de33e67582ef9fca4f574bef2d695ec88f4ba7cb6cf64c07e4c0d28"), looks := true }, kinds := [], alts := [], laidByText := true, laidKinds := [.data, .data], laidTests := true, laidLooks := .later }
def BoxAllCardSaid : Prop := Claim7.holds Tryd.pinned (.plain (OpenSpec.ofChange boxAllSpec)) boxAllCard

/-- THE TIED CARD OF 'sorrellaw15.MachineCompiles'. -/
def machineCompilesCard : Claim7 := { stood := { row := machineCompilesRow, standIns := [], harness := (true, "cf7fbc690de33e67582ef9fca4f574bef2d695ec88f4ba7cb6cf64c07e4c0d28"), looks := true }, kinds := [], alts := [], laidByText := true, laidKinds := [.data, .data], laidTests := true, laidLooks := .later }
def MachineCompilesCardSaid : Prop := Claim7.holds Tryd.pinned (.plain (OpenSpec.ofChange machineCompilesSpec)) machineCompilesCard

/-- THE TIED CARD OF 'sorrellaw15.MachinePrefix'. -/
def machinePrefixCard : Claim7 := { stood := { row := machinePrefixRow, standIns := [], harness := (true, "cf7fbc690de33e67582ef9fca4f574bef2d695ec88f4ba7cb6cf64c07e4c0d28"), looks := true }, kinds := [], alts := [], laidByText := true, laidKinds := [.data, .data], laidTests := true, laidLooks := .later }
def MachinePrefixCardSaid : Prop := Claim7.holds Tryd.pinned (.plain (OpenSpec.ofChange machinePrefixSpec)) machinePrefixCard

/-- THE SECOND FORM's CARD OF 'sorrellaw03.BoxOpens'. -/
def boxOpensUptoCard : Claim7 := { stood := { row := boxOpensUptoRow, standIns := [], harness := (true, "cf7fbc690de33e67582ef9fca4f574bef2d695ec88f4ba7cb6cf64c07e4c0d28"), looks := true }, kinds := [], alts := [], laidByText := true, laidKinds := [.data, .data], laidTests := true, laidLooks := .later }
def BoxOpensUptoCardSaid : Prop := Claim7.holds Tryd.pinned (.plain (OpenSpec.upto boxOpensSpec)) boxOpensUptoCard

/-- THE SECOND FORM's CARD OF 'sorrellaw03.BoxBack'. -/
def boxBackUptoCard : Claim7 := { stood := { row := boxBackUptoRow, standIns := [], harness := (true, "cf7fbc690de33e67582ef9fca4f574bef2d695ec88f4ba7cb6cf64c07e4c0d28"), looks := true }, kinds := [], alts := [], laidByText := true, laidKinds := [.data, .data], laidTests := true, laidLooks := .later }
def BoxBackUptoCardSaid : Prop := Claim7.holds Tryd.pinned (.plain (OpenSpec.upto boxBackSpec)) boxBackUptoCard

/-- THE SECOND FORM's CARD OF 'sorrellaw03.BoxKeeps'. -/
def boxKeepsUptoCard : Claim7 := { stood := { row := boxKeepsUptoRow, standIns := [], harness := (true, "cf7fbc690de33e67582ef9fca4f574bef2d695ec88f4ba7cb6cf64c07e4c0d28"), looks := true }, kinds := [], alts := [], laidByText := true, laidKinds := [.data, .data], laidTests := true, laidLooks := .later }
def BoxKeepsUptoCardSaid : Prop := Claim7.holds Tryd.pinned (.plain (OpenSpec.upto boxKeepsSpec)) boxKeepsUptoCard

/-- THE SECOND FORM's CARD OF 'sorrellaw03.BoxAll'. -/
def boxAllUptoCard : Claim7 := { stood := { row := boxAllUptoRow, standIns := [], harness := (true, "cf7fbc690de33e67582ef9fca4f574bef2d695ec88f4ba7cb6cf64c07e4c0d28"), looks := true }, kinds := [], alts := [], laidByText := true, laidKinds := [.data, .data], laidTests := true, laidLooks := .later }
def BoxAllUptoCardSaid : Prop := Claim7.holds Tryd.pinned (.plain (OpenSpec.upto boxAllSpec)) boxAllUptoCard

/-- THE SECOND FORM's CARD OF 'sorrellaw15.MachineCompiles'. -/
def machineCompilesUptoCard : Claim7 := { stood := { row := machineCompilesUptoRow, standIns := [], harness := (true, "cf7fbc690de33e67582ef9fca4f574bef2d695ec88f4ba7cb6cf64c07e4c0d28"), looks := true }, kinds := [], alts := [], laidByText := true, laidKinds := [.data, .data], laidTests := true, laidLooks := .later }
def MachineCompilesUptoCardSaid : Prop := Claim7.holds Tryd.pinned (.plain (OpenSpec.upto machineCompilesSpec)) machineCompilesUptoCard

/-- THE SECOND FORM's CARD OF 'sorrellaw15.MachinePrefix'. -/
def machinePrefixUptoCard : Claim7 := { stood := { row := machinePrefixUptoRow, standIns := [], harness := (true, "cf7fbc690de33e67582ef9fca4f574bef2d695ec88f4ba7cb6cf64c07e4c0d28"), looks := true }, kinds := [], alts := [], laidByText := true, laidKinds := [.data, .data], laidTests := true, laidLooks := .later }
def MachinePrefixUptoCardSaid : Prop := Claim7.holds Tryd.pinned (.plain (OpenSpec.upto machinePrefixSpec)) machinePrefixUptoCard
end Rows
end Go.Proofs.YticaocadeeolkaaDoor
