/-
  No cell of these rows narrows 'for every input' (looked for: loops, veiled, ifaces, maps, wideKeys, modest, calm, conditions, laid).
  DERIVED. THE GIVEN ROWS OF THIS SEAT. 1 by the template 'for every input the law returns true; each argument reads behind the call as it read before'; 0 by the template 'total and deterministic' (their statements: YtnhhlamecljhhaaGreatTotals.lean).
  GIVEN WITH THE SEED: the statements are not yours to turn. If you find one false, say at which input.
  Laid BY PROGRAM, IN A SANDBOX (cutbox-rows.mjs): the forced cells as the released guide's own fill.sh prints them over the translation 14ae6b8f69ceee72… (all of the seat's roots in one cut). By AI agents, Wed Nov 11 2026. No macro, syntax, notation, axiom, sorry.
-/
import Derived.Test.YtnhhlamecljhhaaGreatChecked
import GoSem.Claim
import GoSem.ClaimJoined
import GoSem.ClaimMapViews
import Derived.JoinedTies
import Derived.KernelRfl
namespace Go.Proofs.YtnhhlamecljhhaaGreat
/- THE CELL 'sum', in the pinned program and in every row, IS THE sha256 OF THE DUMP (.gsa) THAT YtnhhlamecljhhaaGreatProg.lean LOADS. Nothing in Lean hashes anything: it is a label: what it is worth is what the hold of that sum in a sandbox is worth. -/
noncomputable def Tryz.pinned : Pinned := { name := "ytnhhlamecljhhaagreat", sum := "14ae6b8f69ceee724984d58b84dd2333060759ff669f8d191f306b1932b3419c", checked := Tryz.checked }
namespace Rows
def none {H : Type} : Left H := { results := [], args := [] }

/-- 'levellinglaw19.LedgerJoins': WHATEVER THE INPUT: true; the input reads as it did. -/
def ledgerJoinsSpec : ChangeSpec := { name := "ledgerJoins", fn := fun _ => fun
  | [d1, d2, d3] => { results := [.lit (.bool true)], args := [d1, d2, d3] }
  | _ => none }
def ledgerJoinsRow : OpenClaim := { program := "ytnhhlamecljhhaagreat", sum := "14ae6b8f69ceee724984d58b84dd2333060759ff669f8d191f306b1932b3419c", func := "levelling/levellinglaw19.LedgerJoins", spec := "ledgerJoins", inPlace := ["math.Float64bits", "math.Float64frombits", "slices.overlaps[uint32]", "math.sqrt"], unfollowed := true, recurses := true, apart := false }
def LedgerJoinsSaid : Prop := ledgerJoinsRow.holds Tryz.pinned (OpenSpec.ofChange ledgerJoinsSpec)

/-- ITS FALSE NEIGHBOUR: 'it returns false'. Refute it at one input. -/
def ledgerJoinsWrong : ChangeSpec := { name := "ledgerJoins", fn := fun _ => fun
  | [d1, d2, d3] => { results := [.lit (.bool false)], args := [d1, d2, d3] }
  | _ => none }
def LedgerJoinsWrongFalsely : Prop := ledgerJoinsRow.holds Tryz.pinned (OpenSpec.ofChange ledgerJoinsWrong)

/- THE SECOND FORM. 'bulk': how many values and letters a reading holds, each counted each time it is reached (what is shared counts as often as it is met; a slice's spare places count too). A statement '..UptoSaid' is the law's where the arguments, and the package variables that the reading takes, are together of bulk at most 1048576: NARROWER than '..Said'. Prove '..Said' where nothing that the law and all that it calls make is longer than what came in: it says more and counts as full. Else prove '..UptoSaid'. A law counts once. -/
mutual
def uptoBulk {H : Type} : DataW H → Nat
  | .lit (.string bytes) => bytes.length + 1
  | .lit _ => 1
  | .nil => 1
  | .ptr d => uptoBulk d + 1
  | .slice elems spare => uptoBulkAll elems + uptoBulkAll spare + 1
  | .agg parts => uptoBulkAll parts + 1
  | .iface _ d => uptoBulk d + 1
  | .map entries => uptoBulkEntries entries + 1
  | .held _ => 1
def uptoBulkAll {H : Type} : List (DataW H) → Nat
  | [] => 0
  | d :: r => uptoBulk d + uptoBulkAll r
def uptoBulkEntries {H : Type} : List (Lit × DataW H) → Nat
  | [] => 0
  | x :: r => uptoBulkEntry x + uptoBulkEntries r
def uptoBulkEntry {H : Type} : Lit × DataW H → Nat
  | (.string bytes, d) => bytes.length + uptoBulk d + 1
  | (_, d) => uptoBulk d + 1
 end
def uptoSmall : (H : Type) → List (DataW H) → Bool := fun _ ds => decide (uptoBulkAll ds ≤ 1048576)
def OpenSpec.upto (s : _root_.Go.ChangeSpec) : _root_.Go.OpenSpec := { _root_.Go.OpenSpec.ofChange s with cond := some uptoSmall }

/-- 'levellinglaw19.LedgerJoins', WHERE WHAT IT READS IS OF BULK AT MOST 1048576: true; the input reads as it did. -/
def ledgerJoinsUptoRow : OpenClaim := { program := "ytnhhlamecljhhaagreat", sum := "14ae6b8f69ceee724984d58b84dd2333060759ff669f8d191f306b1932b3419c", func := "levelling/levellinglaw19.LedgerJoins", spec := "ledgerJoins", inPlace := ["math.Float64bits", "math.Float64frombits", "slices.overlaps[uint32]", "math.sqrt"], unfollowed := true, recurses := true, apart := false, narrowed := true }
def LedgerJoinsUptoSaid : Prop := ledgerJoinsUptoRow.holds Tryz.pinned (OpenSpec.upto ledgerJoinsSpec)

end Rows
end Go.Proofs.YtnhhlamecljhhaaGreat
