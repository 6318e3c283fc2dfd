/-
  NARROWER THAN 'FOR EVERY INPUT', by the rows' own cells (each row's printed sentence says how): CheckMay: laid · CheckRows: laid · CheckMerges: laid · CheckParts: laid.
  DERIVED. THE GIVEN ROWS OF THIS SEAT. 4 by the template 'for every input the law returns true; each argument reads behind the call as it read before'; 0 by the template 'total and deterministic' (their statements: YtojoikbgdjcfdaaDoorTotals.lean).
  GIVEN WITH THE SEED: the statements are not yours to turn. If you find one false, say at which input.
  Laid BY PROGRAM, IN A SANDBOX (cutbox-rows.mjs): the forced cells as the released guide's own fill.sh prints them over the translation 366ba01d9544b755… (all of the seat's roots in one cut). By AI agents, Wed Nov 11 2026. No macro, syntax, notation, axiom, sorry.
-/
import Derived.Test.YtojoikbgdjcfdaaDoorChecked
import GoSem.Claim
import GoSem.ClaimJoined
import GoSem.ClaimMapViews
import Derived.JoinedTies
import Derived.KernelRfl
namespace Go.Proofs.YtojoikbgdjcfdaaDoor
/- THE CELL 'sum', in the pinned program and in every row, IS THE sha256 OF THE DUMP (.gsa) THAT YtojoikbgdjcfdaaDoorProg.lean LOADS. Nothing in Lean hashes anything: it is a label: what it is worth is what the hold of that sum in a sandbox is worth. -/
noncomputable def Tryd.pinned : Pinned := { name := "ytojoikbgdjcfdaadoor", sum := "366ba01d9544b755d6d106d9242e074a56f2a7fb3c302a30d21e34fc92f9cedf", checked := Tryd.checked }
namespace Rows
def none {H : Type} : Left H := { results := [], args := [] }

/- WHAT THE LISTED PACKAGE-LEVEL VARIABLES READ AS WHEN THE CALL BEGINS. Each datum BY PROGRAM (the guide's laid-datum.mjs) off the statement by which the dump's own 'gosem.cut.vars' lays the variable. In a bare row this is a premise. The card (YtojoikbgdjcfdaaDoorCards.lean) ties it to the program's text. -/
def laid_errors_errorType {H : Type} : DataW H := .iface "internal/reflectlite.rtype" (.agg [.ptr (.lit (.string [101, 114, 114, 111, 114]))])

/-- 'levellinglaw20.CheckMay': WHATEVER THE INPUT: true; the input reads as it did. -/
def checkMaySpec : ChangeSpec := { name := "checkMay", fn := fun _ => fun
  | [d1, d2] => { results := [.lit (.bool true)], args := [d1, d2] }
  | _ => none }
def checkMayRow : OpenClaim := { program := "ytojoikbgdjcfdaadoor", sum := "366ba01d9544b755d6d106d9242e074a56f2a7fb3c302a30d21e34fc92f9cedf", func := "levelling/levellinglaw20.CheckMay", spec := "checkMay", inPlace := ["math.Float64bits", "math.Float64frombits", "internal/reflectlite.ValueOf", "(internal/reflectlite.Value).Type", "(internal/reflectlite.Value).IsNil", "internal/reflectlite.TypeOf", "(internal/reflectlite.Value).Elem", "(internal/reflectlite.Value).Set"], unfollowed := true, recurses := true, named := ["errors.errorType"], apart := false, laid := [("errors.errorType", laid_errors_errorType)] }
def CheckMaySaid : Prop := checkMayRow.holds Tryd.pinned (OpenSpec.ofChange checkMaySpec)

/-- ITS FALSE NEIGHBOUR: 'it returns false'. Refute it at one input. -/
def checkMayWrong : ChangeSpec := { name := "checkMay", fn := fun _ => fun
  | [d1, d2] => { results := [.lit (.bool false)], args := [d1, d2] }
  | _ => none }
def CheckMayWrongFalsely : Prop := checkMayRow.holds Tryd.pinned (OpenSpec.ofChange checkMayWrong)

/-- 'levellinglaw20.CheckRows': WHATEVER THE INPUT: true; the input reads as it did. -/
def checkRowsSpec : ChangeSpec := { name := "checkRows", fn := fun _ => fun
  | [d1, d2, d3] => { results := [.lit (.bool true)], args := [d1, d2, d3] }
  | _ => none }
def checkRowsRow : OpenClaim := { program := "ytojoikbgdjcfdaadoor", sum := "366ba01d9544b755d6d106d9242e074a56f2a7fb3c302a30d21e34fc92f9cedf", func := "levelling/levellinglaw20.CheckRows", spec := "checkRows", inPlace := ["math.Float64bits", "math.Float64frombits", "internal/reflectlite.ValueOf", "(internal/reflectlite.Value).Type", "(internal/reflectlite.Value).IsNil", "internal/reflectlite.TypeOf", "(internal/reflectlite.Value).Elem", "(internal/reflectlite.Value).Set"], unfollowed := true, recurses := true, named := ["errors.errorType"], apart := false, laid := [("errors.errorType", laid_errors_errorType)] }
def CheckRowsSaid : Prop := checkRowsRow.holds Tryd.pinned (OpenSpec.ofChange checkRowsSpec)

/-- ITS FALSE NEIGHBOUR: 'it returns false'. Refute it at one input. -/
def checkRowsWrong : ChangeSpec := { name := "checkRows", fn := fun _ => fun
  | [d1, d2, d3] => { results := [.lit (.bool false)], args := [d1, d2, d3] }
  | _ => none }
def CheckRowsWrongFalsely : Prop := checkRowsRow.holds Tryd.pinned (OpenSpec.ofChange checkRowsWrong)

/-- 'levellinglaw20.CheckMerges': WHATEVER THE INPUT: true; the input reads as it did. -/
def checkMergesSpec : ChangeSpec := { name := "checkMerges", fn := fun _ => fun
  | [d1, d2, d3] => { results := [.lit (.bool true)], args := [d1, d2, d3] }
  | _ => none }
def checkMergesRow : OpenClaim := { program := "ytojoikbgdjcfdaadoor", sum := "366ba01d9544b755d6d106d9242e074a56f2a7fb3c302a30d21e34fc92f9cedf", func := "levelling/levellinglaw20.CheckMerges", spec := "checkMerges", inPlace := ["math.Float64bits", "math.Float64frombits", "internal/reflectlite.ValueOf", "(internal/reflectlite.Value).Type", "(internal/reflectlite.Value).IsNil", "internal/reflectlite.TypeOf", "(internal/reflectlite.Value).Elem", "(internal/reflectlite.Value).Set"], unfollowed := true, recurses := true, named := ["errors.errorType"], apart := false, laid := [("errors.errorType", laid_errors_errorType)] }
def CheckMergesSaid : Prop := checkMergesRow.holds Tryd.pinned (OpenSpec.ofChange checkMergesSpec)

/-- ITS FALSE NEIGHBOUR: 'it returns false'. Refute it at one input. -/
def checkMergesWrong : ChangeSpec := { name := "checkMerges", fn := fun _ => fun
  | [d1, d2, d3] => { results := [.lit (.bool false)], args := [d1, d2, d3] }
  | _ => none }
def CheckMergesWrongFalsely : Prop := checkMergesRow.holds Tryd.pinned (OpenSpec.ofChange checkMergesWrong)

/-- 'levellinglaw20.CheckParts': WHATEVER THE INPUT: true; the input reads as it did. -/
def checkPartsSpec : ChangeSpec := { name := "checkParts", fn := fun _ => fun
  | [d1, d2, d3] => { results := [.lit (.bool true)], args := [d1, d2, d3] }
  | _ => none }
def checkPartsRow : OpenClaim := { program := "ytojoikbgdjcfdaadoor", sum := "366ba01d9544b755d6d106d9242e074a56f2a7fb3c302a30d21e34fc92f9cedf", func := "levelling/levellinglaw20.CheckParts", spec := "checkParts", inPlace := ["math.Float64bits", "math.Float64frombits", "internal/reflectlite.ValueOf", "(internal/reflectlite.Value).Type", "(internal/reflectlite.Value).IsNil", "internal/reflectlite.TypeOf", "(internal/reflectlite.Value).Elem", "(internal/reflectlite.Value).Set"], unfollowed := true, recurses := true, named := ["errors.errorType"], apart := false, laid := [("errors.errorType", laid_errors_errorType)] }
def CheckPartsSaid : Prop := checkPartsRow.holds Tryd.pinned (OpenSpec.ofChange checkPartsSpec)

/-- ITS FALSE NEIGHBOUR: 'it returns false'. Refute it at one input. -/
def checkPartsWrong : ChangeSpec := { name := "checkParts", fn := fun _ => fun
  | [d1, d2, d3] => { results := [.lit (.bool false)], args := [d1, d2, d3] }
  | _ => none }
def CheckPartsWrongFalsely : Prop := checkPartsRow.holds Tryd.pinned (OpenSpec.ofChange checkPartsWrong)

/- THE SECOND FORM. 'bulk': how many values and letters a reading holds, each counted each time it is reached (what is shared counts as often as it is met; a slice's spare places count too). A statement '..UptoSaid' is the law's where the arguments, and the package variables that the reading takes, are together of bulk at most 1048576: NARROWER than '..Said'. Prove '..Said' where nothing that the law and all that it calls make is longer than what came in: it says more and counts as full. Else prove '..UptoSaid'. A law counts once. -/
mutual
def uptoBulk {H : Type} : DataW H → Nat
  | .lit (.string bytes) => bytes.length + 1
  | .lit _ => 1
  | .nil => 1
  | .ptr d => uptoBulk d + 1
  | .slice elems spare => uptoBulkAll elems + uptoBulkAll spare + 1
  | .agg parts => uptoBulkAll parts + 1
  | .iface _ d => uptoBulk d + 1
  | .map entries => uptoBulkEntries entries + 1
  | .held _ => 1
def uptoBulkAll {H : Type} : List (DataW H) → Nat
  | [] => 0
  | d :: r => uptoBulk d + uptoBulkAll r
def uptoBulkEntries {H : Type} : List (Lit × DataW H) → Nat
  | [] => 0
  | x :: r => uptoBulkEntry x + uptoBulkEntries r
def uptoBulkEntry {H : Type} : Lit × DataW H → Nat
  | (.string bytes, d) => bytes.length + uptoBulk d + 1
  | (_, d) => uptoBulk d + 1
 end
def uptoSmall : (H : Type) → List (DataW H) → Bool := fun _ ds => decide (uptoBulkAll ds ≤ 1048576)
def OpenSpec.upto (s : _root_.Go.ChangeSpec) : _root_.Go.OpenSpec := { _root_.Go.OpenSpec.ofChange s with cond := some uptoSmall }

/-- 'levellinglaw20.CheckMay', WHERE WHAT IT READS IS OF BULK AT MOST 1048576: true; the input reads as it did. -/
def checkMayUptoRow : OpenClaim := { program := "ytojoikbgdjcfdaadoor", sum := "366ba01d9544b755d6d106d9242e074a56f2a7fb3c302a30d21e34fc92f9cedf", func := "levelling/levellinglaw20.CheckMay", spec := "checkMay", inPlace := ["math.Float64bits", "math.Float64frombits", "internal/reflectlite.ValueOf", "(internal/reflectlite.Value).Type", "(internal/reflectlite.Value).IsNil", "internal/reflectlite.TypeOf", "(internal/reflectlite.Value).Elem", "(internal/reflectlite.Value).Set"], unfollowed := true, recurses := true, named := ["errors.errorType"], apart := false, laid := [("errors.errorType", laid_errors_errorType)], narrowed := true }
def CheckMayUptoSaid : Prop := checkMayUptoRow.holds Tryd.pinned (OpenSpec.upto checkMaySpec)

/-- 'levellinglaw20.CheckRows', WHERE WHAT IT READS IS OF BULK AT MOST 1048576: true; the input reads as it did. -/
def checkRowsUptoRow : OpenClaim := { program := "ytojoikbgdjcfdaadoor", sum := "366ba01d9544b755d6d106d9242e074a56f2a7fb3c302a30d21e34fc92f9cedf", func := "levelling/levellinglaw20.CheckRows", spec := "checkRows", inPlace := ["math.Float64bits", "math.Float64frombits", "internal/reflectlite.ValueOf", "(internal/reflectlite.Value).Type", "(internal/reflectlite.Value).IsNil", "internal/reflectlite.TypeOf", "(internal/reflectlite.Value).Elem", "(internal/reflectlite.Value).Set"], unfollowed := true, recurses := true, named := ["errors.errorType"], apart := false, laid := [("errors.errorType", laid_errors_errorType)], narrowed := true }
def CheckRowsUptoSaid : Prop := checkRowsUptoRow.holds Tryd.pinned (OpenSpec.upto checkRowsSpec)

/-- 'levellinglaw20.CheckMerges', WHERE WHAT IT READS IS OF BULK AT MOST 1048576: true; the input reads as it did. -/
def checkMergesUptoRow : OpenClaim := { program := "ytojoikbgdjcfdaadoor", sum := "366ba01d9544b755d6d106d9242e074a56f2a7fb3c302a30d21e34fc92f9cedf", func := "levelling/levellinglaw20.CheckMerges", spec := "checkMerges", inPlace := ["math.Float64bits", "math.Float64frombits", "internal/reflectlite.ValueOf", "(internal/reflectlite.Value).Type", "(internal/reflectlite.Value).IsNil", "internal/reflectlite.TypeOf", "(internal/reflectlite.Value).Elem", "(internal/reflectlite.Value).Set"], unfollowed := true, recurses := true, named := ["errors.errorType"], apart := false, laid := [("errors.errorType", laid_errors_errorType)], narrowed := true }
def CheckMergesUptoSaid : Prop := checkMergesUptoRow.holds Tryd.pinned (OpenSpec.upto checkMergesSpec)

/-- 'levellinglaw20.CheckParts', WHERE WHAT IT READS IS OF BULK AT MOST 1048576: true; the input reads as it did. -/
def checkPartsUptoRow : OpenClaim := { program := "ytojoikbgdjcfdaadoor", sum := "366ba01d9544b755d6d106d9242e074a56f2a7fb3c302a30d21e34fc92f9cedf", func := "levelling/levellinglaw20.CheckParts", spec := "checkParts", inPlace := ["math.Float64bits", "math.Float64frombits", "internal/reflectlite.ValueOf", "(internal/reflectlite.Value).Type", "(internal/reflectlite.Value).IsNil", "internal/reflectlite.TypeOf", "(internal/reflectlite.Value).Elem", "(internal/reflectlite.Value).Set"], unfollowed := true, recurses := true, named := ["errors.errorType"], apart := false, laid := [("errors.errorType", laid_errors_errorType)], narrowed := true }
def CheckPartsUptoSaid : Prop := checkPartsUptoRow.holds Tryd.pinned (OpenSpec.upto checkPartsSpec)

end Rows
end Go.Proofs.YtojoikbgdjcfdaaDoor
