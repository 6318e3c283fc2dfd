/-
  No cell of these rows narrows 'for every input' (looked for: loops, veiled, ifaces, maps, wideKeys, modest, calm, conditions, laid).
  DERIVED. THE GIVEN ROWS OF THIS SEAT. 7 by the template 'for every input the law returns true; each argument reads behind the call as it read before'; 0 by the template 'total and deterministic' (their statements: YtadmmamhhphkoaaGreatTotals.lean).
  GIVEN WITH THE SEED: the statements are not yours to turn. If you find one false, say at which input.
  Laid BY PROGRAM, IN A SANDBOX (cutbox-rows.mjs): the forced cells as the released guide's own fill.sh prints them over the translation 59ea47549e547487… (all of the seat's roots in one cut). By AI agents, Wed Nov 11 2026. No macro, syntax, notation, axiom, sorry.
-/
import Derived.Test.YtadmmamhhphkoaaGreatChecked
import GoSem.Claim
import GoSem.ClaimJoined
import GoSem.ClaimMapViews
import Derived.JoinedTies
import Derived.KernelRfl
namespace Go.Proofs.YtadmmamhhphkoaaGreat
/- THE CELL 'sum', in the pinned program and in every row, IS THE sha256 OF THE DUMP (.gsa) THAT YtadmmamhhphkoaaGreatProg.lean LOADS. Nothing in Lean hashes anything: it is a label: what it is worth is what the hold of that sum in a sandbox is worth. -/
noncomputable def Tryz.pinned : Pinned := { name := "ytadmmamhhphkoaagreat", sum := "59ea47549e5474879bcf4041e691d69b7bf703bd4fae59d69f3cd1429ea43be0", checked := Tryz.checked }
namespace Rows
def none {H : Type} : Left H := { results := [], args := [] }

/-- 'levellinglaw09.NearTells': WHATEVER THE INPUT: true; the input reads as it did. -/
def nearTellsSpec : ChangeSpec := { name := "nearTells", fn := fun _ => fun
  | [d1, d2, d3] => { results := [.lit (.bool true)], args := [d1, d2, d3] }
  | _ => none }
def nearTellsRow : OpenClaim := { program := "ytadmmamhhphkoaagreat", sum := "59ea47549e5474879bcf4041e691d69b7bf703bd4fae59d69f3cd1429ea43be0", func := "levelling/levellinglaw09.NearTells", spec := "nearTells", inPlace := ["slices.overlaps[uint32]", "math.Float64bits", "math.Float64frombits"], unfollowed := true, recurses := true, apart := false }
def NearTellsSaid : Prop := nearTellsRow.holds Tryz.pinned (OpenSpec.ofChange nearTellsSpec)

/-- ITS FALSE NEIGHBOUR: 'it returns false'. Refute it at one input. -/
def nearTellsWrong : ChangeSpec := { name := "nearTells", fn := fun _ => fun
  | [d1, d2, d3] => { results := [.lit (.bool false)], args := [d1, d2, d3] }
  | _ => none }
def NearTellsWrongFalsely : Prop := nearTellsRow.holds Tryz.pinned (OpenSpec.ofChange nearTellsWrong)

/-- 'levellinglaw09.NearChecks': WHATEVER THE INPUT: true; the input reads as it did. -/
def nearChecksSpec : ChangeSpec := { name := "nearChecks", fn := fun _ => fun
  | [d1, d2, d3] => { results := [.lit (.bool true)], args := [d1, d2, d3] }
  | _ => none }
def nearChecksRow : OpenClaim := { program := "ytadmmamhhphkoaagreat", sum := "59ea47549e5474879bcf4041e691d69b7bf703bd4fae59d69f3cd1429ea43be0", func := "levelling/levellinglaw09.NearChecks", spec := "nearChecks", inPlace := ["slices.overlaps[uint32]", "math.Float64bits", "math.Float64frombits"], unfollowed := true, recurses := true, apart := false }
def NearChecksSaid : Prop := nearChecksRow.holds Tryz.pinned (OpenSpec.ofChange nearChecksSpec)

/-- ITS FALSE NEIGHBOUR: 'it returns false'. Refute it at one input. -/
def nearChecksWrong : ChangeSpec := { name := "nearChecks", fn := fun _ => fun
  | [d1, d2, d3] => { results := [.lit (.bool false)], args := [d1, d2, d3] }
  | _ => none }
def NearChecksWrongFalsely : Prop := nearChecksRow.holds Tryz.pinned (OpenSpec.ofChange nearChecksWrong)

/-- 'levellinglaw09.NearNormal': WHATEVER THE INPUT: true; the input reads as it did. -/
def nearNormalSpec : ChangeSpec := { name := "nearNormal", fn := fun _ => fun
  | [d1, d2, d3] => { results := [.lit (.bool true)], args := [d1, d2, d3] }
  | _ => none }
def nearNormalRow : OpenClaim := { program := "ytadmmamhhphkoaagreat", sum := "59ea47549e5474879bcf4041e691d69b7bf703bd4fae59d69f3cd1429ea43be0", func := "levelling/levellinglaw09.NearNormal", spec := "nearNormal", inPlace := ["slices.overlaps[uint32]", "math.Float64bits", "math.Float64frombits"], unfollowed := true, recurses := true, apart := false }
def NearNormalSaid : Prop := nearNormalRow.holds Tryz.pinned (OpenSpec.ofChange nearNormalSpec)

/-- ITS FALSE NEIGHBOUR: 'it returns false'. Refute it at one input. -/
def nearNormalWrong : ChangeSpec := { name := "nearNormal", fn := fun _ => fun
  | [d1, d2, d3] => { results := [.lit (.bool false)], args := [d1, d2, d3] }
  | _ => none }
def NearNormalWrongFalsely : Prop := nearNormalRow.holds Tryz.pinned (OpenSpec.ofChange nearNormalWrong)

/-- 'levellinglaw09.NearUp': WHATEVER THE INPUT: true; the input reads as it did. -/
def nearUpSpec : ChangeSpec := { name := "nearUp", fn := fun _ => fun
  | [d] => { results := [.lit (.bool true)], args := [d] }
  | _ => none }
def nearUpRow : OpenClaim := { program := "ytadmmamhhphkoaagreat", sum := "59ea47549e5474879bcf4041e691d69b7bf703bd4fae59d69f3cd1429ea43be0", func := "levelling/levellinglaw09.NearUp", spec := "nearUp", inPlace := ["slices.overlaps[uint32]", "math.Float64bits", "math.Float64frombits"], unfollowed := true, recurses := true, apart := false }
def NearUpSaid : Prop := nearUpRow.holds Tryz.pinned (OpenSpec.ofChange nearUpSpec)

/-- ITS FALSE NEIGHBOUR: 'it returns false'. Refute it at one input. -/
def nearUpWrong : ChangeSpec := { name := "nearUp", fn := fun _ => fun
  | [d] => { results := [.lit (.bool false)], args := [d] }
  | _ => none }
def NearUpWrongFalsely : Prop := nearUpRow.holds Tryz.pinned (OpenSpec.ofChange nearUpWrong)

/-- 'levellinglaw09.NearBounds': WHATEVER THE INPUT: true; the input reads as it did. -/
def nearBoundsSpec : ChangeSpec := { name := "nearBounds", fn := fun _ => fun
  | [d1, d2, d3] => { results := [.lit (.bool true)], args := [d1, d2, d3] }
  | _ => none }
def nearBoundsRow : OpenClaim := { program := "ytadmmamhhphkoaagreat", sum := "59ea47549e5474879bcf4041e691d69b7bf703bd4fae59d69f3cd1429ea43be0", func := "levelling/levellinglaw09.NearBounds", spec := "nearBounds", inPlace := ["slices.overlaps[uint32]", "math.Float64bits", "math.Float64frombits"], unfollowed := true, recurses := true, apart := false }
def NearBoundsSaid : Prop := nearBoundsRow.holds Tryz.pinned (OpenSpec.ofChange nearBoundsSpec)

/-- ITS FALSE NEIGHBOUR: 'it returns false'. Refute it at one input. -/
def nearBoundsWrong : ChangeSpec := { name := "nearBounds", fn := fun _ => fun
  | [d1, d2, d3] => { results := [.lit (.bool false)], args := [d1, d2, d3] }
  | _ => none }
def NearBoundsWrongFalsely : Prop := nearBoundsRow.holds Tryz.pinned (OpenSpec.ofChange nearBoundsWrong)

/-- 'levellinglaw09.NearMore': WHATEVER THE INPUT: true; the input reads as it did. -/
def nearMoreSpec : ChangeSpec := { name := "nearMore", fn := fun _ => fun
  | [d1, d2, d3] => { results := [.lit (.bool true)], args := [d1, d2, d3] }
  | _ => none }
def nearMoreRow : OpenClaim := { program := "ytadmmamhhphkoaagreat", sum := "59ea47549e5474879bcf4041e691d69b7bf703bd4fae59d69f3cd1429ea43be0", func := "levelling/levellinglaw09.NearMore", spec := "nearMore", inPlace := ["slices.overlaps[uint32]", "math.Float64bits", "math.Float64frombits"], unfollowed := true, recurses := true, apart := false }
def NearMoreSaid : Prop := nearMoreRow.holds Tryz.pinned (OpenSpec.ofChange nearMoreSpec)

/-- ITS FALSE NEIGHBOUR: 'it returns false'. Refute it at one input. -/
def nearMoreWrong : ChangeSpec := { name := "nearMore", fn := fun _ => fun
  | [d1, d2, d3] => { results := [.lit (.bool false)], args := [d1, d2, d3] }
  | _ => none }
def NearMoreWrongFalsely : Prop := nearMoreRow.holds Tryz.pinned (OpenSpec.ofChange nearMoreWrong)

/-- 'levellinglaw04.RoundTells': WHATEVER THE INPUT: true; the input reads as it did. -/
def roundTellsSpec : ChangeSpec := { name := "roundTells", fn := fun _ => fun
  | [d1, d2, d3] => { results := [.lit (.bool true)], args := [d1, d2, d3] }
  | _ => none }
def roundTellsRow : OpenClaim := { program := "ytadmmamhhphkoaagreat", sum := "59ea47549e5474879bcf4041e691d69b7bf703bd4fae59d69f3cd1429ea43be0", func := "levelling/levellinglaw04.RoundTells", spec := "roundTells", inPlace := ["math.Float64bits", "math.Float64frombits", "slices.overlaps[uint32]"], unfollowed := true, recurses := true, apart := false }
def RoundTellsSaid : Prop := roundTellsRow.holds Tryz.pinned (OpenSpec.ofChange roundTellsSpec)

/-- ITS FALSE NEIGHBOUR: 'it returns false'. Refute it at one input. -/
def roundTellsWrong : ChangeSpec := { name := "roundTells", fn := fun _ => fun
  | [d1, d2, d3] => { results := [.lit (.bool false)], args := [d1, d2, d3] }
  | _ => none }
def RoundTellsWrongFalsely : Prop := roundTellsRow.holds Tryz.pinned (OpenSpec.ofChange roundTellsWrong)

/- THE SECOND FORM. 'bulk': how many values and letters a reading holds, each counted each time it is reached (what is shared counts as often as it is met; a slice's spare places count too). A statement '..UptoSaid' is the law's where the arguments, and the package variables that the reading takes, are together of bulk at most 1048576: NARROWER than '..Said'. Prove '..Said' where nothing that the law and all that it calls make is longer than what came in: it says more and counts as full. Else prove '..UptoSaid'. A law counts once. -/
mutual
def uptoBulk {H : Type} : DataW H → Nat
  | .lit (.string bytes) => bytes.length + 1
  | .lit _ => 1
  | .nil => 1
  | .ptr d => uptoBulk d + 1
  | .slice elems spare => uptoBulkAll elems + uptoBulkAll spare + 1
  | .agg parts => uptoBulkAll parts + 1
  | .iface _ d => uptoBulk d + 1
  | .map entries => uptoBulkEntries entries + 1
  | .held _ => 1
def uptoBulkAll {H : Type} : List (DataW H) → Nat
  | [] => 0
  | d :: r => uptoBulk d + uptoBulkAll r
def uptoBulkEntries {H : Type} : List (Lit × DataW H) → Nat
  | [] => 0
  | x :: r => uptoBulkEntry x + uptoBulkEntries r
def uptoBulkEntry {H : Type} : Lit × DataW H → Nat
  | (.string bytes, d) => bytes.length + uptoBulk d + 1
  | (_, d) => uptoBulk d + 1
 end
def uptoSmall : (H : Type) → List (DataW H) → Bool := fun _ ds => decide (uptoBulkAll ds ≤ 1048576)
def OpenSpec.upto (s : _root_.Go.ChangeSpec) : _root_.Go.OpenSpec := { _root_.Go.OpenSpec.ofChange s with cond := some uptoSmall }

/-- 'levellinglaw09.NearTells', WHERE WHAT IT READS IS OF BULK AT MOST 1048576: true; the input reads as it did. -/
def nearTellsUptoRow : OpenClaim := { program := "ytadmmamhhphkoaagreat", sum := "59ea47549e5474879bcf4041e691d69b7bf703bd4fae59d69f3cd1429ea43be0", func := "levelling/levellinglaw09.NearTells", spec := "nearTells", inPlace := ["slices.overlaps[uint32]", "math.Float64bits", "math.Float64frombits"], unfollowed := true, recurses := true, apart := false, narrowed := true }
def NearTellsUptoSaid : Prop := nearTellsUptoRow.holds Tryz.pinned (OpenSpec.upto nearTellsSpec)

/-- 'levellinglaw09.NearChecks', WHERE WHAT IT READS IS OF BULK AT MOST 1048576: true; the input reads as it did. -/
def nearChecksUptoRow : OpenClaim := { program := "ytadmmamhhphkoaagreat", sum := "59ea47549e5474879bcf4041e691d69b7bf703bd4fae59d69f3cd1429ea43be0", func := "levelling/levellinglaw09.NearChecks", spec := "nearChecks", inPlace := ["slices.overlaps[uint32]", "math.Float64bits", "math.Float64frombits"], unfollowed := true, recurses := true, apart := false, narrowed := true }
def NearChecksUptoSaid : Prop := nearChecksUptoRow.holds Tryz.pinned (OpenSpec.upto nearChecksSpec)

/-- 'levellinglaw09.NearNormal', WHERE WHAT IT READS IS OF BULK AT MOST 1048576: true; the input reads as it did. -/
def nearNormalUptoRow : OpenClaim := { program := "ytadmmamhhphkoaagreat", sum := "59ea47549e5474879bcf4041e691d69b7bf703bd4fae59d69f3cd1429ea43be0", func := "levelling/levellinglaw09.NearNormal", spec := "nearNormal", inPlace := ["slices.overlaps[uint32]", "math.Float64bits", "math.Float64frombits"], unfollowed := true, recurses := true, apart := false, narrowed := true }
def NearNormalUptoSaid : Prop := nearNormalUptoRow.holds Tryz.pinned (OpenSpec.upto nearNormalSpec)

/-- 'levellinglaw09.NearUp', WHERE WHAT IT READS IS OF BULK AT MOST 1048576: true; the input reads as it did. -/
def nearUpUptoRow : OpenClaim := { program := "ytadmmamhhphkoaagreat", sum := "59ea47549e5474879bcf4041e691d69b7bf703bd4fae59d69f3cd1429ea43be0", func := "levelling/levellinglaw09.NearUp", spec := "nearUp", inPlace := ["slices.overlaps[uint32]", "math.Float64bits", "math.Float64frombits"], unfollowed := true, recurses := true, apart := false, narrowed := true }
def NearUpUptoSaid : Prop := nearUpUptoRow.holds Tryz.pinned (OpenSpec.upto nearUpSpec)

/-- 'levellinglaw09.NearBounds', WHERE WHAT IT READS IS OF BULK AT MOST 1048576: true; the input reads as it did. -/
def nearBoundsUptoRow : OpenClaim := { program := "ytadmmamhhphkoaagreat", sum := "59ea47549e5474879bcf4041e691d69b7bf703bd4fae59d69f3cd1429ea43be0", func := "levelling/levellinglaw09.NearBounds", spec := "nearBounds", inPlace := ["slices.overlaps[uint32]", "math.Float64bits", "math.Float64frombits"], unfollowed := true, recurses := true, apart := false, narrowed := true }
def NearBoundsUptoSaid : Prop := nearBoundsUptoRow.holds Tryz.pinned (OpenSpec.upto nearBoundsSpec)

/-- 'levellinglaw09.NearMore', WHERE WHAT IT READS IS OF BULK AT MOST 1048576: true; the input reads as it did. -/
def nearMoreUptoRow : OpenClaim := { program := "ytadmmamhhphkoaagreat", sum := "59ea47549e5474879bcf4041e691d69b7bf703bd4fae59d69f3cd1429ea43be0", func := "levelling/levellinglaw09.NearMore", spec := "nearMore", inPlace := ["slices.overlaps[uint32]", "math.Float64bits", "math.Float64frombits"], unfollowed := true, recurses := true, apart := false, narrowed := true }
def NearMoreUptoSaid : Prop := nearMoreUptoRow.holds Tryz.pinned (OpenSpec.upto nearMoreSpec)

/-- 'levellinglaw04.RoundTells', WHERE WHAT IT READS IS OF BULK AT MOST 1048576: true; the input reads as it did. -/
def roundTellsUptoRow : OpenClaim := { program := "ytadmmamhhphkoaagreat", sum := "59ea47549e5474879bcf4041e691d69b7bf703bd4fae59d69f3cd1429ea43be0", func := "levelling/levellinglaw04.RoundTells", spec := "roundTells", inPlace := ["math.Float64bits", "math.Float64frombits", "slices.overlaps[uint32]"], unfollowed := true, recurses := true, apart := false, narrowed := true }
def RoundTellsUptoSaid : Prop := roundTellsUptoRow.holds Tryz.pinned (OpenSpec.upto roundTellsSpec)

end Rows
end Go.Proofs.YtadmmamhhphkoaaGreat
