/-
  No cell of these rows narrows 'for every input' (looked for: loops, veiled, ifaces, maps, wideKeys, modest, calm, conditions, laid).
  DERIVED. THE GIVEN ROWS OF THIS SEAT. 4 by the template 'for every input the law returns true; each argument reads behind the call as it read before'; 0 by the template 'total and deterministic' (their statements: YtkmodieicfaohaaGreatTotals.lean).
  GIVEN WITH THE SEED: the statements are not yours to turn. If you find one false, say at which input.
  Laid BY PROGRAM, IN A SANDBOX (cutbox-rows.mjs): the forced cells as the released guide's own fill.sh prints them over the translation 84bcf318c3539d4b… (all of the seat's roots in one cut). By AI agents, Wed Nov 11 2026. No macro, syntax, notation, axiom, sorry.
-/
import Derived.Test.YtkmodieicfaohaaGreatChecked
import GoSem.Claim
import GoSem.ClaimJoined
import GoSem.ClaimMapViews
import Derived.JoinedTies
import Derived.KernelRfl
namespace Go.Proofs.YtkmodieicfaohaaGreat
/- THE CELL 'sum', in the pinned program and in every row, IS THE sha256 OF THE DUMP (.gsa) THAT YtkmodieicfaohaaGreatProg.lean LOADS. Nothing in Lean hashes anything: it is a label: what it is worth is what the hold of that sum in a sandbox is worth. -/
noncomputable def Tryz.pinned : Pinned := { name := "ytkmodieicfaohaagreat", sum := "84bcf318c3539d4b8b15ee9f9d3ace708c83c1b49b289c652177d09a1e38574e", checked := Tryz.checked }
namespace Rows
def none {H : Type} : Left H := { results := [], args := [] }

/-- 'levellinglaw19.LedgerTells': WHATEVER THE INPUT: true; the input reads as it did. -/
def ledgerTellsSpec : ChangeSpec := { name := "ledgerTells", fn := fun _ => fun
  | [d1, d2, d3] => { results := [.lit (.bool true)], args := [d1, d2, d3] }
  | _ => none }
def ledgerTellsRow : OpenClaim := { program := "ytkmodieicfaohaagreat", sum := "84bcf318c3539d4b8b15ee9f9d3ace708c83c1b49b289c652177d09a1e38574e", func := "levelling/levellinglaw19.LedgerTells", spec := "ledgerTells", inPlace := ["math.Float64bits", "math.Float64frombits", "slices.overlaps[uint32]"], unfollowed := true, recurses := true, apart := false }
def LedgerTellsSaid : Prop := ledgerTellsRow.holds Tryz.pinned (OpenSpec.ofChange ledgerTellsSpec)

/-- ITS FALSE NEIGHBOUR: 'it returns false'. Refute it at one input. -/
def ledgerTellsWrong : ChangeSpec := { name := "ledgerTells", fn := fun _ => fun
  | [d1, d2, d3] => { results := [.lit (.bool false)], args := [d1, d2, d3] }
  | _ => none }
def LedgerTellsWrongFalsely : Prop := ledgerTellsRow.holds Tryz.pinned (OpenSpec.ofChange ledgerTellsWrong)

/-- 'levellinglaw19.LedgerMoves': WHATEVER THE INPUT: true; the input reads as it did. -/
def ledgerMovesSpec : ChangeSpec := { name := "ledgerMoves", fn := fun _ => fun
  | [d1, d2, d3] => { results := [.lit (.bool true)], args := [d1, d2, d3] }
  | _ => none }
def ledgerMovesRow : OpenClaim := { program := "ytkmodieicfaohaagreat", sum := "84bcf318c3539d4b8b15ee9f9d3ace708c83c1b49b289c652177d09a1e38574e", func := "levelling/levellinglaw19.LedgerMoves", spec := "ledgerMoves", inPlace := ["math.Float64bits", "math.Float64frombits", "slices.overlaps[uint32]"], unfollowed := true, recurses := true, apart := false }
def LedgerMovesSaid : Prop := ledgerMovesRow.holds Tryz.pinned (OpenSpec.ofChange ledgerMovesSpec)

/-- ITS FALSE NEIGHBOUR: 'it returns false'. Refute it at one input. -/
def ledgerMovesWrong : ChangeSpec := { name := "ledgerMoves", fn := fun _ => fun
  | [d1, d2, d3] => { results := [.lit (.bool false)], args := [d1, d2, d3] }
  | _ => none }
def LedgerMovesWrongFalsely : Prop := ledgerMovesRow.holds Tryz.pinned (OpenSpec.ofChange ledgerMovesWrong)

/-- 'levellinglaw19.LedgerNear': WHATEVER THE INPUT: true; the input reads as it did. -/
def ledgerNearSpec : ChangeSpec := { name := "ledgerNear", fn := fun _ => fun
  | [d1, d2] => { results := [.lit (.bool true)], args := [d1, d2] }
  | _ => none }
def ledgerNearRow : OpenClaim := { program := "ytkmodieicfaohaagreat", sum := "84bcf318c3539d4b8b15ee9f9d3ace708c83c1b49b289c652177d09a1e38574e", func := "levelling/levellinglaw19.LedgerNear", spec := "ledgerNear", inPlace := ["math.Float64bits", "math.Float64frombits", "slices.overlaps[uint32]"], unfollowed := true, recurses := true, apart := false }
def LedgerNearSaid : Prop := ledgerNearRow.holds Tryz.pinned (OpenSpec.ofChange ledgerNearSpec)

/-- ITS FALSE NEIGHBOUR: 'it returns false'. Refute it at one input. -/
def ledgerNearWrong : ChangeSpec := { name := "ledgerNear", fn := fun _ => fun
  | [d1, d2] => { results := [.lit (.bool false)], args := [d1, d2] }
  | _ => none }
def LedgerNearWrongFalsely : Prop := ledgerNearRow.holds Tryz.pinned (OpenSpec.ofChange ledgerNearWrong)

/-- 'levellinglaw19.LedgerMay': WHATEVER THE INPUT: true; the input reads as it did. -/
def ledgerMaySpec : ChangeSpec := { name := "ledgerMay", fn := fun _ => fun
  | [d1, d2] => { results := [.lit (.bool true)], args := [d1, d2] }
  | _ => none }
def ledgerMayRow : OpenClaim := { program := "ytkmodieicfaohaagreat", sum := "84bcf318c3539d4b8b15ee9f9d3ace708c83c1b49b289c652177d09a1e38574e", func := "levelling/levellinglaw19.LedgerMay", spec := "ledgerMay", inPlace := ["math.Float64bits", "math.Float64frombits", "slices.overlaps[uint32]"], unfollowed := true, recurses := true, apart := false }
def LedgerMaySaid : Prop := ledgerMayRow.holds Tryz.pinned (OpenSpec.ofChange ledgerMaySpec)

/-- ITS FALSE NEIGHBOUR: 'it returns false'. Refute it at one input. -/
def ledgerMayWrong : ChangeSpec := { name := "ledgerMay", fn := fun _ => fun
  | [d1, d2] => { results := [.lit (.bool false)], args := [d1, d2] }
  | _ => none }
def LedgerMayWrongFalsely : Prop := ledgerMayRow.holds Tryz.pinned (OpenSpec.ofChange ledgerMayWrong)

/- THE SECOND FORM. 'bulk': how many values and letters a reading holds, each counted each time it is reached (what is shared counts as often as it is met; a slice's spare places count too). A statement '..UptoSaid' is the law's where the arguments, and the package variables that the reading takes, are together of bulk at most 1048576: NARROWER than '..Said'. Prove '..Said' where nothing that the law and all that it calls make is longer than what came in: it says more and counts as full. Else prove '..UptoSaid'. A law counts once. -/
mutual
def uptoBulk {H : Type} : DataW H → Nat
  | .lit (.string bytes) => bytes.length + 1
  | .lit _ => 1
  | .nil => 1
  | .ptr d => uptoBulk d + 1
  | .slice elems spare => uptoBulkAll elems + uptoBulkAll spare + 1
  | .agg parts => uptoBulkAll parts + 1
  | .iface _ d => uptoBulk d + 1
  | .map entries => uptoBulkEntries entries + 1
  | .held _ => 1
def uptoBulkAll {H : Type} : List (DataW H) → Nat
  | [] => 0
  | d :: r => uptoBulk d + uptoBulkAll r
def uptoBulkEntries {H : Type} : List (Lit × DataW H) → Nat
  | [] => 0
  | x :: r => uptoBulkEntry x + uptoBulkEntries r
def uptoBulkEntry {H : Type} : Lit × DataW H → Nat
  | (.string bytes, d) => bytes.length + uptoBulk d + 1
  | (_, d) => uptoBulk d + 1
 end
def uptoSmall : (H : Type) → List (DataW H) → Bool := fun _ ds => decide (uptoBulkAll ds ≤ 1048576)
def OpenSpec.upto (s : _root_.Go.ChangeSpec) : _root_.Go.OpenSpec := { _root_.Go.OpenSpec.ofChange s with cond := some uptoSmall }

/-- 'levellinglaw19.LedgerTells', WHERE WHAT IT READS IS OF BULK AT MOST 1048576: true; the input reads as it did. -/
def ledgerTellsUptoRow : OpenClaim := { program := "ytkmodieicfaohaagreat", sum := "84bcf318c3539d4b8b15ee9f9d3ace708c83c1b49b289c652177d09a1e38574e", func := "levelling/levellinglaw19.LedgerTells", spec := "ledgerTells", inPlace := ["math.Float64bits", "math.Float64frombits", "slices.overlaps[uint32]"], unfollowed := true, recurses := true, apart := false, narrowed := true }
def LedgerTellsUptoSaid : Prop := ledgerTellsUptoRow.holds Tryz.pinned (OpenSpec.upto ledgerTellsSpec)

/-- 'levellinglaw19.LedgerMoves', WHERE WHAT IT READS IS OF BULK AT MOST 1048576: true; the input reads as it did. -/
def ledgerMovesUptoRow : OpenClaim := { program := "ytkmodieicfaohaagreat", sum := "84bcf318c3539d4b8b15ee9f9d3ace708c83c1b49b289c652177d09a1e38574e", func := "levelling/levellinglaw19.LedgerMoves", spec := "ledgerMoves", inPlace := ["math.Float64bits", "math.Float64frombits", "slices.overlaps[uint32]"], unfollowed := true, recurses := true, apart := false, narrowed := true }
def LedgerMovesUptoSaid : Prop := ledgerMovesUptoRow.holds Tryz.pinned (OpenSpec.upto ledgerMovesSpec)

/-- 'levellinglaw19.LedgerNear', WHERE WHAT IT READS IS OF BULK AT MOST 1048576: true; the input reads as it did. -/
def ledgerNearUptoRow : OpenClaim := { program := "ytkmodieicfaohaagreat", sum := "84bcf318c3539d4b8b15ee9f9d3ace708c83c1b49b289c652177d09a1e38574e", func := "levelling/levellinglaw19.LedgerNear", spec := "ledgerNear", inPlace := ["math.Float64bits", "math.Float64frombits", "slices.overlaps[uint32]"], unfollowed := true, recurses := true, apart := false, narrowed := true }
def LedgerNearUptoSaid : Prop := ledgerNearUptoRow.holds Tryz.pinned (OpenSpec.upto ledgerNearSpec)

/-- 'levellinglaw19.LedgerMay', WHERE WHAT IT READS IS OF BULK AT MOST 1048576: true; the input reads as it did. -/
def ledgerMayUptoRow : OpenClaim := { program := "ytkmodieicfaohaagreat", sum := "84bcf318c3539d4b8b15ee9f9d3ace708c83c1b49b289c652177d09a1e38574e", func := "levelling/levellinglaw19.LedgerMay", spec := "ledgerMay", inPlace := ["math.Float64bits", "math.Float64frombits", "slices.overlaps[uint32]"], unfollowed := true, recurses := true, apart := false, narrowed := true }
def LedgerMayUptoSaid : Prop := ledgerMayUptoRow.holds Tryz.pinned (OpenSpec.upto ledgerMaySpec)

end Rows
end Go.Proofs.YtkmodieicfaohaaGreat
