/-
  No cell of these rows narrows 'for every input' (looked for: loops, veiled, ifaces, maps, wideKeys, modest, calm, conditions, laid).
  DERIVED. THE GIVEN ROWS OF THIS SEAT. 4 by the template 'for every input the law returns true; each argument reads behind the call as it read before'; 0 by the template 'total and deterministic' (their statements: YtojoikbgdjcfdaaTotals.lean).
  GIVEN WITH THE SEED: the statements are not yours to turn. If you find one false, say at which input.
  Laid BY PROGRAM, IN A SANDBOX (cutbox-rows.mjs): the forced cells as the released guide's own fill.sh prints them over the translation 125f6005634fe9b1… (all of the seat's roots in one cut). By AI agents, Wed Nov 11 2026. No macro, syntax, notation, axiom, sorry.
-/
import Derived.Test.YtojoikbgdjcfdaaChecked
import GoSem.Claim
import GoSem.ClaimJoined
import GoSem.ClaimMapViews
import Derived.JoinedTies
import Derived.KernelRfl
namespace Go.Proofs.Ytojoikbgdjcfdaa
/- THE CELL 'sum', in the pinned program and in every row, IS THE sha256 OF THE DUMP (.gsa) THAT YtojoikbgdjcfdaaProg.lean LOADS. Nothing in Lean hashes anything: it is a label: what it is worth is what the hold of that sum in a sandbox is worth. -/
noncomputable def Try.pinned : Pinned := { name := "ytojoikbgdjcfdaa", sum := "125f6005634fe9b18e210e5ba8575ba00cb397d2ab22bd7d7e38bdb30999c4c2", checked := Try.checked }
namespace Rows
def none {H : Type} : Left H := { results := [], args := [] }

/-- 'levellinglaw08.GramSquares': WHATEVER THE INPUT: true; the input reads as it did. -/
def gramSquaresSpec : ChangeSpec := { name := "gramSquares", fn := fun _ => fun
  | [d1, d2] => { results := [.lit (.bool true)], args := [d1, d2] }
  | _ => none }
def gramSquaresRow : OpenClaim := { program := "ytojoikbgdjcfdaa", sum := "125f6005634fe9b18e210e5ba8575ba00cb397d2ab22bd7d7e38bdb30999c4c2", func := "levelling/levellinglaw08.GramSquares", spec := "gramSquares", inPlace := ["math.Float64bits", "math.Float64frombits", "slices.overlaps[uint32]"], unfollowed := true, recurses := true, apart := false }
def GramSquaresSaid : Prop := gramSquaresRow.holds Try.pinned (OpenSpec.ofChange gramSquaresSpec)

/-- ITS FALSE NEIGHBOUR: 'it returns false'. Refute it at one input. -/
def gramSquaresWrong : ChangeSpec := { name := "gramSquares", fn := fun _ => fun
  | [d1, d2] => { results := [.lit (.bool false)], args := [d1, d2] }
  | _ => none }
def GramSquaresWrongFalsely : Prop := gramSquaresRow.holds Try.pinned (OpenSpec.ofChange gramSquaresWrong)

/-- 'levellinglaw08.GramLines': WHATEVER THE INPUT: true; the input reads as it did. -/
def gramLinesSpec : ChangeSpec := { name := "gramLines", fn := fun _ => fun
  | [d] => { results := [.lit (.bool true)], args := [d] }
  | _ => none }
def gramLinesRow : OpenClaim := { program := "ytojoikbgdjcfdaa", sum := "125f6005634fe9b18e210e5ba8575ba00cb397d2ab22bd7d7e38bdb30999c4c2", func := "levelling/levellinglaw08.GramLines", spec := "gramLines", inPlace := ["math.Float64bits", "math.Float64frombits", "slices.overlaps[uint32]"], unfollowed := true, recurses := true, apart := false }
def GramLinesSaid : Prop := gramLinesRow.holds Try.pinned (OpenSpec.ofChange gramLinesSpec)

/-- ITS FALSE NEIGHBOUR: 'it returns false'. Refute it at one input. -/
def gramLinesWrong : ChangeSpec := { name := "gramLines", fn := fun _ => fun
  | [d] => { results := [.lit (.bool false)], args := [d] }
  | _ => none }
def GramLinesWrongFalsely : Prop := gramLinesRow.holds Try.pinned (OpenSpec.ofChange gramLinesWrong)

/-- 'levellinglaw08.GramOrders': WHATEVER THE INPUT: true; the input reads as it did. -/
def gramOrdersSpec : ChangeSpec := { name := "gramOrders", fn := fun _ => fun
  | [d1, d2, d3] => { results := [.lit (.bool true)], args := [d1, d2, d3] }
  | _ => none }
def gramOrdersRow : OpenClaim := { program := "ytojoikbgdjcfdaa", sum := "125f6005634fe9b18e210e5ba8575ba00cb397d2ab22bd7d7e38bdb30999c4c2", func := "levelling/levellinglaw08.GramOrders", spec := "gramOrders", inPlace := ["math.Float64bits", "math.Float64frombits", "slices.overlaps[uint32]"], unfollowed := true, recurses := true, apart := false }
def GramOrdersSaid : Prop := gramOrdersRow.holds Try.pinned (OpenSpec.ofChange gramOrdersSpec)

/-- ITS FALSE NEIGHBOUR: 'it returns false'. Refute it at one input. -/
def gramOrdersWrong : ChangeSpec := { name := "gramOrders", fn := fun _ => fun
  | [d1, d2, d3] => { results := [.lit (.bool false)], args := [d1, d2, d3] }
  | _ => none }
def GramOrdersWrongFalsely : Prop := gramOrdersRow.holds Try.pinned (OpenSpec.ofChange gramOrdersWrong)

/-- 'levellinglaw08.GramFades': WHATEVER THE INPUT: true; the input reads as it did. -/
def gramFadesSpec : ChangeSpec := { name := "gramFades", fn := fun _ => fun
  | [d1, d2] => { results := [.lit (.bool true)], args := [d1, d2] }
  | _ => none }
def gramFadesRow : OpenClaim := { program := "ytojoikbgdjcfdaa", sum := "125f6005634fe9b18e210e5ba8575ba00cb397d2ab22bd7d7e38bdb30999c4c2", func := "levelling/levellinglaw08.GramFades", spec := "gramFades", inPlace := ["math.Float64bits", "math.Float64frombits", "slices.overlaps[uint32]"], unfollowed := true, recurses := true, apart := false }
def GramFadesSaid : Prop := gramFadesRow.holds Try.pinned (OpenSpec.ofChange gramFadesSpec)

/-- ITS FALSE NEIGHBOUR: 'it returns false'. Refute it at one input. -/
def gramFadesWrong : ChangeSpec := { name := "gramFades", fn := fun _ => fun
  | [d1, d2] => { results := [.lit (.bool false)], args := [d1, d2] }
  | _ => none }
def GramFadesWrongFalsely : Prop := gramFadesRow.holds Try.pinned (OpenSpec.ofChange gramFadesWrong)

/- THE SECOND FORM. 'bulk': how many values and letters a reading holds, each counted each time it is reached (what is shared counts as often as it is met; a slice's spare places count too). A statement '..UptoSaid' is the law's where the arguments, and the package variables that the reading takes, are together of bulk at most 1048576: NARROWER than '..Said'. Prove '..Said' where nothing that the law and all that it calls make is longer than what came in: it says more and counts as full. Else prove '..UptoSaid'. A law counts once. -/
mutual
def uptoBulk {H : Type} : DataW H → Nat
  | .lit (.string bytes) => bytes.length + 1
  | .lit _ => 1
  | .nil => 1
  | .ptr d => uptoBulk d + 1
  | .slice elems spare => uptoBulkAll elems + uptoBulkAll spare + 1
  | .agg parts => uptoBulkAll parts + 1
  | .iface _ d => uptoBulk d + 1
  | .map entries => uptoBulkEntries entries + 1
  | .held _ => 1
def uptoBulkAll {H : Type} : List (DataW H) → Nat
  | [] => 0
  | d :: r => uptoBulk d + uptoBulkAll r
def uptoBulkEntries {H : Type} : List (Lit × DataW H) → Nat
  | [] => 0
  | x :: r => uptoBulkEntry x + uptoBulkEntries r
def uptoBulkEntry {H : Type} : Lit × DataW H → Nat
  | (.string bytes, d) => bytes.length + uptoBulk d + 1
  | (_, d) => uptoBulk d + 1
 end
def uptoSmall : (H : Type) → List (DataW H) → Bool := fun _ ds => decide (uptoBulkAll ds ≤ 1048576)
def OpenSpec.upto (s : _root_.Go.ChangeSpec) : _root_.Go.OpenSpec := { _root_.Go.OpenSpec.ofChange s with cond := some uptoSmall }

/-- 'levellinglaw08.GramSquares', WHERE WHAT IT READS IS OF BULK AT MOST 1048576: true; the input reads as it did. -/
def gramSquaresUptoRow : OpenClaim := { program := "ytojoikbgdjcfdaa", sum := "125f6005634fe9b18e210e5ba8575ba00cb397d2ab22bd7d7e38bdb30999c4c2", func := "levelling/levellinglaw08.GramSquares", spec := "gramSquares", inPlace := ["math.Float64bits", "math.Float64frombits", "slices.overlaps[uint32]"], unfollowed := true, recurses := true, apart := false, narrowed := true }
def GramSquaresUptoSaid : Prop := gramSquaresUptoRow.holds Try.pinned (OpenSpec.upto gramSquaresSpec)

/-- 'levellinglaw08.GramLines', WHERE WHAT IT READS IS OF BULK AT MOST 1048576: true; the input reads as it did. -/
def gramLinesUptoRow : OpenClaim := { program := "ytojoikbgdjcfdaa", sum := "125f6005634fe9b18e210e5ba8575ba00cb397d2ab22bd7d7e38bdb30999c4c2", func := "levelling/levellinglaw08.GramLines", spec := "gramLines", inPlace := ["math.Float64bits", "math.Float64frombits", "slices.overlaps[uint32]"], unfollowed := true, recurses := true, apart := false, narrowed := true }
def GramLinesUptoSaid : Prop := gramLinesUptoRow.holds Try.pinned (OpenSpec.upto gramLinesSpec)

/-- 'levellinglaw08.GramOrders', WHERE WHAT IT READS IS OF BULK AT MOST 1048576: true; the input reads as it did. -/
def gramOrdersUptoRow : OpenClaim := { program := "ytojoikbgdjcfdaa", sum := "125f6005634fe9b18e210e5ba8575ba00cb397d2ab22bd7d7e38bdb30999c4c2", func := "levelling/levellinglaw08.GramOrders", spec := "gramOrders", inPlace := ["math.Float64bits", "math.Float64frombits", "slices.overlaps[uint32]"], unfollowed := true, recurses := true, apart := false, narrowed := true }
def GramOrdersUptoSaid : Prop := gramOrdersUptoRow.holds Try.pinned (OpenSpec.upto gramOrdersSpec)

/-- 'levellinglaw08.GramFades', WHERE WHAT IT READS IS OF BULK AT MOST 1048576: true; the input reads as it did. -/
def gramFadesUptoRow : OpenClaim := { program := "ytojoikbgdjcfdaa", sum := "125f6005634fe9b18e210e5ba8575ba00cb397d2ab22bd7d7e38bdb30999c4c2", func := "levelling/levellinglaw08.GramFades", spec := "gramFades", inPlace := ["math.Float64bits", "math.Float64frombits", "slices.overlaps[uint32]"], unfollowed := true, recurses := true, apart := false, narrowed := true }
def GramFadesUptoSaid : Prop := gramFadesUptoRow.holds Try.pinned (OpenSpec.upto gramFadesSpec)

end Rows
end Go.Proofs.Ytojoikbgdjcfdaa
