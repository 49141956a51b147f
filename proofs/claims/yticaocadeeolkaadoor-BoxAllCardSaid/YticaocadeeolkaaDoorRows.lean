/-
  NARROWER THAN 'FOR EVERY INPUT', by the rows' own cells (each row's printed sentence says how): BoxOpens: laid · BoxBack: laid · BoxKeeps: laid · BoxAll: laid · MachineCompiles: laid · MachinePrefix: laid.
  DERIVED. THE GIVEN ROWS OF THIS SEAT. 6 by the template 'for every input the law returns true; each argument reads behind the call as it read before'; 0 by the template 'total and deterministic' (their statements: YticaocadeeolkaaDoorTotals.lean).
  GIVEN WITH THE SEED: the statements are not yours to turn. If you find one false, say at which input.
  Laid BY PROGRAM, IN A SANDBOX (cutbox-rows.mjs): the forced cells as the released guide's own fill.sh prints them over the translation 6b086bbaf0e18470… (all of the seat's roots in one cut). By AI agents, Wed Nov 11 2026. No macro, syntax, notation, axiom, sorry.
-/
import Derived.Test.YticaocadeeolkaaDoorChecked
import GoSem.Claim
import GoSem.ClaimJoined
import GoSem.ClaimMapViews
import Derived.JoinedTies
import Derived.KernelRfl
namespace Go.Proofs.YticaocadeeolkaaDoor
/- THE CELL 'sum', in the pinned program and in every row, IS THE sha256 OF THE DUMP (.gsa) THAT YticaocadeeolkaaDoorProg.lean LOADS. Nothing in Lean hashes anything: it is a label: what it is worth is what the hold of that sum in a sandbox is worth. -/
noncomputable def Tryd.pinned : Pinned := { name := "yticaocadeeolkaadoor", sum := "6b086bbaf0e18470dd9a0b0e7f854c5c44604fca9c613db399c672e0add97fa7", checked := Tryd.checked }
namespace Rows
def none {H : Type} : Left H := { results := [], args := [] }

/- WHAT THE LISTED PACKAGE-LEVEL VARIABLES READ AS WHEN THE CALL BEGINS. Each datum BY PROGRAM (the guide's laid-datum.mjs) off the statement by which the dump's own 'gosem.cut.vars' lays the variable. In a bare row this is a premise. The card (YticaocadeeolkaaDoorCards.lean) ties it to the program's text. -/
def laid_sorrel_runes_letters {H : Type} : DataW H := .agg [.agg [.lit (.int .i32 97), .lit (.int .i32 122)], .agg [.lit (.int .i32 65), .lit (.int .i32 90)], .agg [.lit (.int .i32 95), .lit (.int .i32 95)], .agg [.lit (.int .i32 192), .lit (.int .i32 214)], .agg [.lit (.int .i32 216), .lit (.int .i32 246)], .agg [.lit (.int .i32 248), .lit (.int .i32 591)], .agg [.lit (.int .i32 880), .lit (.int .i32 893)], .agg [.lit (.int .i32 895), .lit (.int .i32 902)], .agg [.lit (.int .i32 904), .lit (.int .i32 1023)], .agg [.lit (.int .i32 1024), .lit (.int .i32 1153)], .agg [.lit (.int .i32 1162), .lit (.int .i32 1327)], .agg [.lit (.int .i32 19968), .lit (.int .i32 40959)], .agg [.lit (.int .i32 66560), .lit (.int .i32 66639)]]
def laid_sorrel_runes_zeros {H : Type} : DataW H := .agg [.lit (.int .i32 48), .lit (.int .i32 1632), .lit (.int .i32 65296)]

/-- 'sorrellaw03.BoxOpens': WHATEVER THE INPUT: true; the input reads as it did. -/
def boxOpensSpec : ChangeSpec := { name := "boxOpens", fn := fun _ => fun
  | [d] => { results := [.lit (.bool true)], args := [d] }
  | _ => none }
def boxOpensRow : OpenClaim := { program := "yticaocadeeolkaadoor", sum := "6b086bbaf0e18470dd9a0b0e7f854c5c44604fca9c613db399c672e0add97fa7", func := "sorrel/sorrellaw03.BoxOpens", spec := "boxOpens", unfollowed := true, recurses := true, named := ["sorrel/runes.letters", "sorrel/runes.zeros"], apart := false, laid := [("sorrel/runes.letters", laid_sorrel_runes_letters), ("sorrel/runes.zeros", laid_sorrel_runes_zeros)] }
def BoxOpensSaid : Prop := boxOpensRow.holds Tryd.pinned (OpenSpec.ofChange boxOpensSpec)

/-- ITS FALSE NEIGHBOUR: 'it returns false'. Refute it at one input. -/
def boxOpensWrong : ChangeSpec := { name := "boxOpens", fn := fun _ => fun
  | [d] => { results := [.lit (.bool false)], args := [d] }
  | _ => none }
def BoxOpensWrongFalsely : Prop := boxOpensRow.holds Tryd.pinned (OpenSpec.ofChange boxOpensWrong)

/-- 'sorrellaw03.BoxBack': WHATEVER THE INPUT: true; the input reads as it did. -/
def boxBackSpec : ChangeSpec := { name := "boxBack", fn := fun _ => fun
  | [d] => { results := [.lit (.bool true)], args := [d] }
  | _ => none }
def boxBackRow : OpenClaim := { program := "yticaocadeeolkaadoor", sum := "6b086bbaf0e18470dd9a0b0e7f854c5c44604fca9c613db399c672e0add97fa7", func := "sorrel/sorrellaw03.BoxBack", spec := "boxBack", recurses := true, named := ["sorrel/runes.letters", "sorrel/runes.zeros"], apart := false, laid := [("sorrel/runes.letters", laid_sorrel_runes_letters), ("sorrel/runes.zeros", laid_sorrel_runes_zeros)] }
def BoxBackSaid : Prop := boxBackRow.holds Tryd.pinned (OpenSpec.ofChange boxBackSpec)

/-- ITS FALSE NEIGHBOUR: 'it returns false'. Refute it at one input. -/
def boxBackWrong : ChangeSpec := { name := "boxBack", fn := fun _ => fun
  | [d] => { results := [.lit (.bool false)], args := [d] }
  | _ => none }
def BoxBackWrongFalsely : Prop := boxBackRow.holds Tryd.pinned (OpenSpec.ofChange boxBackWrong)

/-- 'sorrellaw03.BoxKeeps': WHATEVER THE INPUT: true; the input reads as it did. -/
def boxKeepsSpec : ChangeSpec := { name := "boxKeeps", fn := fun _ => fun
  | [d] => { results := [.lit (.bool true)], args := [d] }
  | _ => none }
def boxKeepsRow : OpenClaim := { program := "yticaocadeeolkaadoor", sum := "6b086bbaf0e18470dd9a0b0e7f854c5c44604fca9c613db399c672e0add97fa7", func := "sorrel/sorrellaw03.BoxKeeps", spec := "boxKeeps", recurses := true, named := ["sorrel/runes.letters", "sorrel/runes.zeros"], apart := false, laid := [("sorrel/runes.letters", laid_sorrel_runes_letters), ("sorrel/runes.zeros", laid_sorrel_runes_zeros)] }
def BoxKeepsSaid : Prop := boxKeepsRow.holds Tryd.pinned (OpenSpec.ofChange boxKeepsSpec)

/-- ITS FALSE NEIGHBOUR: 'it returns false'. Refute it at one input. -/
def boxKeepsWrong : ChangeSpec := { name := "boxKeeps", fn := fun _ => fun
  | [d] => { results := [.lit (.bool false)], args := [d] }
  | _ => none }
def BoxKeepsWrongFalsely : Prop := boxKeepsRow.holds Tryd.pinned (OpenSpec.ofChange boxKeepsWrong)

/-- 'sorrellaw03.BoxAll': WHATEVER THE INPUT: true; the input reads as it did. -/
def boxAllSpec : ChangeSpec := { name := "boxAll", fn := fun _ => fun
  | [d1, d2, d3] => { results := [.lit (.bool true)], args := [d1, d2, d3] }
  | _ => none }
def boxAllRow : OpenClaim := { program := "yticaocadeeolkaadoor", sum := "6b086bbaf0e18470dd9a0b0e7f854c5c44604fca9c613db399c672e0add97fa7", func := "sorrel/sorrellaw03.BoxAll", spec := "boxAll", unfollowed := true, recurses := true, named := ["sorrel/runes.letters", "sorrel/runes.zeros"], apart := false, laid := [("sorrel/runes.letters", laid_sorrel_runes_letters), ("sorrel/runes.zeros", laid_sorrel_runes_zeros)] }
def BoxAllSaid : Prop := boxAllRow.holds Tryd.pinned (OpenSpec.ofChange boxAllSpec)

/-- ITS FALSE NEIGHBOUR: 'it returns false'. Refute it at one input. -/
def boxAllWrong : ChangeSpec := { name := "boxAll", fn := fun _ => fun
  | [d1, d2, d3] => { results := [.lit (.bool false)], args := [d1, d2, d3] }
  | _ => none }
def BoxAllWrongFalsely : Prop := boxAllRow.holds Tryd.pinned (OpenSpec.ofChange boxAllWrong)

/-- 'sorrellaw15.MachineCompiles': WHATEVER THE INPUT: true; the input reads as it did. -/
def machineCompilesSpec : ChangeSpec := { name := "machineCompiles", fn := fun _ => fun
  | [d] => { results := [.lit (.bool true)], args := [d] }
  | _ => none }
def machineCompilesRow : OpenClaim := { program := "yticaocadeeolkaadoor", sum := "6b086bbaf0e18470dd9a0b0e7f854c5c44604fca9c613db399c672e0add97fa7", func := "sorrel/sorrellaw15.MachineCompiles", spec := "machineCompiles", recurses := true, named := ["sorrel/runes.letters", "sorrel/runes.zeros"], apart := false, laid := [("sorrel/runes.letters", laid_sorrel_runes_letters), ("sorrel/runes.zeros", laid_sorrel_runes_zeros)] }
def MachineCompilesSaid : Prop := machineCompilesRow.holds Tryd.pinned (OpenSpec.ofChange machineCompilesSpec)

/-- ITS FALSE NEIGHBOUR: 'it returns false'. Refute it at one input. -/
def machineCompilesWrong : ChangeSpec := { name := "machineCompiles", fn := fun _ => fun
  | [d] => { results := [.lit (.bool false)], args := [d] }
  | _ => none }
def MachineCompilesWrongFalsely : Prop := machineCompilesRow.holds Tryd.pinned (OpenSpec.ofChange machineCompilesWrong)

/-- 'sorrellaw15.MachinePrefix': WHATEVER THE INPUT: true; the input reads as it did. -/
def machinePrefixSpec : ChangeSpec := { name := "machinePrefix", fn := fun _ => fun
  | [d] => { results := [.lit (.bool true)], args := [d] }
  | _ => none }
def machinePrefixRow : OpenClaim := { program := "yticaocadeeolkaadoor", sum := "6b086bbaf0e18470dd9a0b0e7f854c5c44604fca9c613db399c672e0add97fa7", func := "sorrel/sorrellaw15.MachinePrefix", spec := "machinePrefix", recurses := true, named := ["sorrel/runes.letters", "sorrel/runes.zeros"], apart := false, laid := [("sorrel/runes.letters", laid_sorrel_runes_letters), ("sorrel/runes.zeros", laid_sorrel_runes_zeros)] }
def MachinePrefixSaid : Prop := machinePrefixRow.holds Tryd.pinned (OpenSpec.ofChange machinePrefixSpec)

/-- ITS FALSE NEIGHBOUR: 'it returns false'. Refute it at one input. -/
def machinePrefixWrong : ChangeSpec := { name := "machinePrefix", fn := fun _ => fun
  | [d] => { results := [.lit (.bool false)], args := [d] }
  | _ => none }
def MachinePrefixWrongFalsely : Prop := machinePrefixRow.holds Tryd.pinned (OpenSpec.ofChange machinePrefixWrong)

/- THE SECOND FORM. 'bulk': how many values and letters a reading holds, each counted each time it is reached (what is shared counts as often as it is met; a slice's spare places count too). A statement '..UptoSaid' is the law's where the arguments, and the package variables that the reading takes, are together of bulk at most 1048576: NARROWER than '..Said'. Prove '..Said' where nothing that the law and all that it calls make is longer than what came in: it says more and counts as full. Else prove '..UptoSaid'. A law counts once. -/
mutual
def uptoBulk {H : Type} : DataW H → Nat
  | .lit (.string bytes) => bytes.length + 1
  | .lit _ => 1
  | .nil => 1
  | .ptr d => uptoBulk d + 1
  | .slice elems spare => uptoBulkAll elems + uptoBulkAll spare + 1
  | .agg parts => uptoBulkAll parts + 1
  | .iface _ d => uptoBulk d + 1
  | .map entries => uptoBulkEntries entries + 1
  | .held _ => 1
def uptoBulkAll {H : Type} : List (DataW H) → Nat
  | [] => 0
  | d :: r => uptoBulk d + uptoBulkAll r
def uptoBulkEntries {H : Type} : List (Lit × DataW H) → Nat
  | [] => 0
  | x :: r => uptoBulkEntry x + uptoBulkEntries r
def uptoBulkEntry {H : Type} : Lit × DataW H → Nat
  | (.string bytes, d) => bytes.length + uptoBulk d + 1
  | (_, d) => uptoBulk d + 1
 end
def uptoSmall : (H : Type) → List (DataW H) → Bool := fun _ ds => decide (uptoBulkAll ds ≤ 1048576)
def OpenSpec.upto (s : _root_.Go.ChangeSpec) : _root_.Go.OpenSpec := { _root_.Go.OpenSpec.ofChange s with cond := some uptoSmall }

/-- 'sorrellaw03.BoxOpens', WHERE WHAT IT READS IS OF BULK AT MOST 1048576: true; the input reads as it did. -/
def boxOpensUptoRow : OpenClaim := { program := "yticaocadeeolkaadoor", sum := "6b086bbaf0e18470dd9a0b0e7f854c5c44604fca9c613db399c672e0add97fa7", func := "sorrel/sorrellaw03.BoxOpens", spec := "boxOpens", unfollowed := true, recurses := true, named := ["sorrel/runes.letters", "sorrel/runes.zeros"], apart := false, laid := [("sorrel/runes.letters", laid_sorrel_runes_letters), ("sorrel/runes.zeros", laid_sorrel_runes_zeros)], narrowed := true }
def BoxOpensUptoSaid : Prop := boxOpensUptoRow.holds Tryd.pinned (OpenSpec.upto boxOpensSpec)

/-- 'sorrellaw03.BoxBack', WHERE WHAT IT READS IS OF BULK AT MOST 1048576: true; the input reads as it did. -/
def boxBackUptoRow : OpenClaim := { program := "yticaocadeeolkaadoor", sum := "6b086bbaf0e18470dd9a0b0e7f854c5c44604fca9c613db399c672e0add97fa7", func := "sorrel/sorrellaw03.BoxBack", spec := "boxBack", recurses := true, named := ["sorrel/runes.letters", "sorrel/runes.zeros"], apart := false, laid := [("sorrel/runes.letters", laid_sorrel_runes_letters), ("sorrel/runes.zeros", laid_sorrel_runes_zeros)], narrowed := true }
def BoxBackUptoSaid : Prop := boxBackUptoRow.holds Tryd.pinned (OpenSpec.upto boxBackSpec)

/-- 'sorrellaw03.BoxKeeps', WHERE WHAT IT READS IS OF BULK AT MOST 1048576: true; the input reads as it did. -/
def boxKeepsUptoRow : OpenClaim := { program := "yticaocadeeolkaadoor", sum := "6b086bbaf0e18470dd9a0b0e7f854c5c44604fca9c613db399c672e0add97fa7", func := "sorrel/sorrellaw03.BoxKeeps", spec := "boxKeeps", recurses := true, named := ["sorrel/runes.letters", "sorrel/runes.zeros"], apart := false, laid := [("sorrel/runes.letters", laid_sorrel_runes_letters), ("sorrel/runes.zeros", laid_sorrel_runes_zeros)], narrowed := true }
def BoxKeepsUptoSaid : Prop := boxKeepsUptoRow.holds Tryd.pinned (OpenSpec.upto boxKeepsSpec)

/-- 'sorrellaw03.BoxAll', WHERE WHAT IT READS IS OF BULK AT MOST 1048576: true; the input reads as it did. -/
def boxAllUptoRow : OpenClaim := { program := "yticaocadeeolkaadoor", sum := "6b086bbaf0e18470dd9a0b0e7f854c5c44604fca9c613db399c672e0add97fa7", func := "sorrel/sorrellaw03.BoxAll", spec := "boxAll", unfollowed := true, recurses := true, named := ["sorrel/runes.letters", "sorrel/runes.zeros"], apart := false, laid := [("sorrel/runes.letters", laid_sorrel_runes_letters), ("sorrel/runes.zeros", laid_sorrel_runes_zeros)], narrowed := true }
def BoxAllUptoSaid : Prop := boxAllUptoRow.holds Tryd.pinned (OpenSpec.upto boxAllSpec)

/-- 'sorrellaw15.MachineCompiles', WHERE WHAT IT READS IS OF BULK AT MOST 1048576: true; the input reads as it did. -/
def machineCompilesUptoRow : OpenClaim := { program := "yticaocadeeolkaadoor", sum := "6b086bbaf0e18470dd9a0b0e7f854c5c44604fca9c613db399c672e0add97fa7", func := "sorrel/sorrellaw15.MachineCompiles", spec := "machineCompiles", recurses := true, named := ["sorrel/runes.letters", "sorrel/runes.zeros"], apart := false, laid := [("sorrel/runes.letters", laid_sorrel_runes_letters), ("sorrel/runes.zeros", laid_sorrel_runes_zeros)], narrowed := true }
def MachineCompilesUptoSaid : Prop := machineCompilesUptoRow.holds Tryd.pinned (OpenSpec.upto machineCompilesSpec)

/-- 'sorrellaw15.MachinePrefix', WHERE WHAT IT READS IS OF BULK AT MOST 1048576: true; the input reads as it did. -/
def machinePrefixUptoRow : OpenClaim := { program := "yticaocadeeolkaadoor", sum := "6b086bbaf0e18470dd9a0b0e7f854c5c44604fca9c613db399c672e0add97fa7", func := "sorrel/sorrellaw15.MachinePrefix", spec := "machinePrefix", recurses := true, named := ["sorrel/runes.letters", "sorrel/runes.zeros"], apart := false, laid := [("sorrel/runes.letters", laid_sorrel_runes_letters), ("sorrel/runes.zeros", laid_sorrel_runes_zeros)], narrowed := true }
def MachinePrefixUptoSaid : Prop := machinePrefixUptoRow.holds Tryd.pinned (OpenSpec.upto machinePrefixSpec)

end Rows
end Go.Proofs.YticaocadeeolkaaDoor
