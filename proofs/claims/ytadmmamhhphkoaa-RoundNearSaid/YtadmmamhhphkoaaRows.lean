/-
  No cell of these rows narrows 'for every input' (looked for: loops, veiled, ifaces, maps, wideKeys, modest, calm, conditions, laid).
  DERIVED. THE GIVEN ROWS OF THIS SEAT. 5 by the template 'for every input the law returns true; each argument reads behind the call as it read before'; 0 by the template 'total and deterministic' (their statements: YtadmmamhhphkoaaTotals.lean).
  GIVEN WITH THE SEED: the statements are not yours to turn. If you find one false, say at which input.
  Laid BY PROGRAM, IN A SANDBOX (cutbox-rows.mjs): the forced cells as the released guide's own fill.sh prints them over the translation 11ee1b12928a1f01… (all of the seat's roots in one cut). By AI agents, Wed Nov 11 2026. No macro, syntax, notation, axiom, sorry.
-/
import Derived.Test.YtadmmamhhphkoaaChecked
import GoSem.Claim
import GoSem.ClaimJoined
import GoSem.ClaimMapViews
import Derived.JoinedTies
import Derived.KernelRfl
namespace Go.Proofs.Ytadmmamhhphkoaa
/- THE CELL 'sum', in the pinned program and in every row, IS THE sha256 OF THE DUMP (.gsa) THAT YtadmmamhhphkoaaProg.lean LOADS. Nothing in Lean hashes anything: it is a label: what it is worth is what the hold of that sum in a sandbox is worth. -/
noncomputable def Try.pinned : Pinned := { name := "ytadmmamhhphkoaa", sum := "11ee1b12928a1f01c7b3b6029a76cdef8e9c12687e3da41c20f9974c83108c81", checked := Try.checked }
namespace Rows
def none {H : Type} : Left H := { results := [], args := [] }

/-- 'levellinglaw04.RoundParts': WHATEVER THE INPUT: true; the input reads as it did. -/
def roundPartsSpec : ChangeSpec := { name := "roundParts", fn := fun _ => fun
  | [d1, d2] => { results := [.lit (.bool true)], args := [d1, d2] }
  | _ => none }
def roundPartsRow : OpenClaim := { program := "ytadmmamhhphkoaa", sum := "11ee1b12928a1f01c7b3b6029a76cdef8e9c12687e3da41c20f9974c83108c81", func := "levelling/levellinglaw04.RoundParts", spec := "roundParts", inPlace := ["math.Float64bits", "math.Float64frombits", "slices.overlaps[uint32]"], unfollowed := true, recurses := true, apart := false }
def RoundPartsSaid : Prop := roundPartsRow.holds Try.pinned (OpenSpec.ofChange roundPartsSpec)

/-- ITS FALSE NEIGHBOUR: 'it returns false'. Refute it at one input. -/
def roundPartsWrong : ChangeSpec := { name := "roundParts", fn := fun _ => fun
  | [d1, d2] => { results := [.lit (.bool false)], args := [d1, d2] }
  | _ => none }
def RoundPartsWrongFalsely : Prop := roundPartsRow.holds Try.pinned (OpenSpec.ofChange roundPartsWrong)

/-- 'levellinglaw04.RoundAdds': WHATEVER THE INPUT: true; the input reads as it did. -/
def roundAddsSpec : ChangeSpec := { name := "roundAdds", fn := fun _ => fun
  | [d1, d2] => { results := [.lit (.bool true)], args := [d1, d2] }
  | _ => none }
def roundAddsRow : OpenClaim := { program := "ytadmmamhhphkoaa", sum := "11ee1b12928a1f01c7b3b6029a76cdef8e9c12687e3da41c20f9974c83108c81", func := "levelling/levellinglaw04.RoundAdds", spec := "roundAdds", inPlace := ["math.Float64bits", "math.Float64frombits", "slices.overlaps[uint32]"], unfollowed := true, recurses := true, apart := false }
def RoundAddsSaid : Prop := roundAddsRow.holds Try.pinned (OpenSpec.ofChange roundAddsSpec)

/-- ITS FALSE NEIGHBOUR: 'it returns false'. Refute it at one input. -/
def roundAddsWrong : ChangeSpec := { name := "roundAdds", fn := fun _ => fun
  | [d1, d2] => { results := [.lit (.bool false)], args := [d1, d2] }
  | _ => none }
def RoundAddsWrongFalsely : Prop := roundAddsRow.holds Try.pinned (OpenSpec.ofChange roundAddsWrong)

/-- 'levellinglaw04.RoundStays': WHATEVER THE INPUT: true; the input reads as it did. -/
def roundStaysSpec : ChangeSpec := { name := "roundStays", fn := fun _ => fun
  | [d] => { results := [.lit (.bool true)], args := [d] }
  | _ => none }
def roundStaysRow : OpenClaim := { program := "ytadmmamhhphkoaa", sum := "11ee1b12928a1f01c7b3b6029a76cdef8e9c12687e3da41c20f9974c83108c81", func := "levelling/levellinglaw04.RoundStays", spec := "roundStays", inPlace := ["math.Float64bits", "math.Float64frombits", "slices.overlaps[uint32]"], unfollowed := true, recurses := true, apart := false }
def RoundStaysSaid : Prop := roundStaysRow.holds Try.pinned (OpenSpec.ofChange roundStaysSpec)

/-- ITS FALSE NEIGHBOUR: 'it returns false'. Refute it at one input. -/
def roundStaysWrong : ChangeSpec := { name := "roundStays", fn := fun _ => fun
  | [d] => { results := [.lit (.bool false)], args := [d] }
  | _ => none }
def RoundStaysWrongFalsely : Prop := roundStaysRow.holds Try.pinned (OpenSpec.ofChange roundStaysWrong)

/-- 'levellinglaw04.RoundNear': WHATEVER THE INPUT: true; the input reads as it did. -/
def roundNearSpec : ChangeSpec := { name := "roundNear", fn := fun _ => fun
  | [d1, d2] => { results := [.lit (.bool true)], args := [d1, d2] }
  | _ => none }
def roundNearRow : OpenClaim := { program := "ytadmmamhhphkoaa", sum := "11ee1b12928a1f01c7b3b6029a76cdef8e9c12687e3da41c20f9974c83108c81", func := "levelling/levellinglaw04.RoundNear", spec := "roundNear", inPlace := ["math.Float64bits", "math.Float64frombits", "slices.overlaps[uint32]"], unfollowed := true, recurses := true, apart := false }
def RoundNearSaid : Prop := roundNearRow.holds Try.pinned (OpenSpec.ofChange roundNearSpec)

/-- ITS FALSE NEIGHBOUR: 'it returns false'. Refute it at one input. -/
def roundNearWrong : ChangeSpec := { name := "roundNear", fn := fun _ => fun
  | [d1, d2] => { results := [.lit (.bool false)], args := [d1, d2] }
  | _ => none }
def RoundNearWrongFalsely : Prop := roundNearRow.holds Try.pinned (OpenSpec.ofChange roundNearWrong)

/-- 'levellinglaw04.RoundQuos': WHATEVER THE INPUT: true; the input reads as it did. -/
def roundQuosSpec : ChangeSpec := { name := "roundQuos", fn := fun _ => fun
  | [d1, d2] => { results := [.lit (.bool true)], args := [d1, d2] }
  | _ => none }
def roundQuosRow : OpenClaim := { program := "ytadmmamhhphkoaa", sum := "11ee1b12928a1f01c7b3b6029a76cdef8e9c12687e3da41c20f9974c83108c81", func := "levelling/levellinglaw04.RoundQuos", spec := "roundQuos", inPlace := ["math.Float64bits", "math.Float64frombits", "slices.overlaps[uint32]", "math.sqrt"], unfollowed := true, recurses := true, apart := false }
def RoundQuosSaid : Prop := roundQuosRow.holds Try.pinned (OpenSpec.ofChange roundQuosSpec)

/-- ITS FALSE NEIGHBOUR: 'it returns false'. Refute it at one input. -/
def roundQuosWrong : ChangeSpec := { name := "roundQuos", fn := fun _ => fun
  | [d1, d2] => { results := [.lit (.bool false)], args := [d1, d2] }
  | _ => none }
def RoundQuosWrongFalsely : Prop := roundQuosRow.holds Try.pinned (OpenSpec.ofChange roundQuosWrong)

/- THE SECOND FORM. 'bulk': how many values and letters a reading holds, each counted each time it is reached (what is shared counts as often as it is met; a slice's spare places count too). A statement '..UptoSaid' is the law's where the arguments, and the package variables that the reading takes, are together of bulk at most 1048576: NARROWER than '..Said'. Prove '..Said' where nothing that the law and all that it calls make is longer than what came in: it says more and counts as full. Else prove '..UptoSaid'. A law counts once. -/
mutual
def uptoBulk {H : Type} : DataW H → Nat
  | .lit (.string bytes) => bytes.length + 1
  | .lit _ => 1
  | .nil => 1
  | .ptr d => uptoBulk d + 1
  | .slice elems spare => uptoBulkAll elems + uptoBulkAll spare + 1
  | .agg parts => uptoBulkAll parts + 1
  | .iface _ d => uptoBulk d + 1
  | .map entries => uptoBulkEntries entries + 1
  | .held _ => 1
def uptoBulkAll {H : Type} : List (DataW H) → Nat
  | [] => 0
  | d :: r => uptoBulk d + uptoBulkAll r
def uptoBulkEntries {H : Type} : List (Lit × DataW H) → Nat
  | [] => 0
  | x :: r => uptoBulkEntry x + uptoBulkEntries r
def uptoBulkEntry {H : Type} : Lit × DataW H → Nat
  | (.string bytes, d) => bytes.length + uptoBulk d + 1
  | (_, d) => uptoBulk d + 1
 end
def uptoSmall : (H : Type) → List (DataW H) → Bool := fun _ ds => decide (uptoBulkAll ds ≤ 1048576)
def OpenSpec.upto (s : _root_.Go.ChangeSpec) : _root_.Go.OpenSpec := { _root_.Go.OpenSpec.ofChange s with cond := some uptoSmall }

/-- 'levellinglaw04.RoundParts', WHERE WHAT IT READS IS OF BULK AT MOST 1048576: true; the input reads as it did. -/
def roundPartsUptoRow : OpenClaim := { program := "ytadmmamhhphkoaa", sum := "11ee1b12928a1f01c7b3b6029a76cdef8e9c12687e3da41c20f9974c83108c81", func := "levelling/levellinglaw04.RoundParts", spec := "roundParts", inPlace := ["math.Float64bits", "math.Float64frombits", "slices.overlaps[uint32]"], unfollowed := true, recurses := true, apart := false, narrowed := true }
def RoundPartsUptoSaid : Prop := roundPartsUptoRow.holds Try.pinned (OpenSpec.upto roundPartsSpec)

/-- 'levellinglaw04.RoundAdds', WHERE WHAT IT READS IS OF BULK AT MOST 1048576: true; the input reads as it did. -/
def roundAddsUptoRow : OpenClaim := { program := "ytadmmamhhphkoaa", sum := "11ee1b12928a1f01c7b3b6029a76cdef8e9c12687e3da41c20f9974c83108c81", func := "levelling/levellinglaw04.RoundAdds", spec := "roundAdds", inPlace := ["math.Float64bits", "math.Float64frombits", "slices.overlaps[uint32]"], unfollowed := true, recurses := true, apart := false, narrowed := true }
def RoundAddsUptoSaid : Prop := roundAddsUptoRow.holds Try.pinned (OpenSpec.upto roundAddsSpec)

/-- 'levellinglaw04.RoundStays', WHERE WHAT IT READS IS OF BULK AT MOST 1048576: true; the input reads as it did. -/
def roundStaysUptoRow : OpenClaim := { program := "ytadmmamhhphkoaa", sum := "11ee1b12928a1f01c7b3b6029a76cdef8e9c12687e3da41c20f9974c83108c81", func := "levelling/levellinglaw04.RoundStays", spec := "roundStays", inPlace := ["math.Float64bits", "math.Float64frombits", "slices.overlaps[uint32]"], unfollowed := true, recurses := true, apart := false, narrowed := true }
def RoundStaysUptoSaid : Prop := roundStaysUptoRow.holds Try.pinned (OpenSpec.upto roundStaysSpec)

/-- 'levellinglaw04.RoundNear', WHERE WHAT IT READS IS OF BULK AT MOST 1048576: true; the input reads as it did. -/
def roundNearUptoRow : OpenClaim := { program := "ytadmmamhhphkoaa", sum := "11ee1b12928a1f01c7b3b6029a76cdef8e9c12687e3da41c20f9974c83108c81", func := "levelling/levellinglaw04.RoundNear", spec := "roundNear", inPlace := ["math.Float64bits", "math.Float64frombits", "slices.overlaps[uint32]"], unfollowed := true, recurses := true, apart := false, narrowed := true }
def RoundNearUptoSaid : Prop := roundNearUptoRow.holds Try.pinned (OpenSpec.upto roundNearSpec)

/-- 'levellinglaw04.RoundQuos', WHERE WHAT IT READS IS OF BULK AT MOST 1048576: true; the input reads as it did. -/
def roundQuosUptoRow : OpenClaim := { program := "ytadmmamhhphkoaa", sum := "11ee1b12928a1f01c7b3b6029a76cdef8e9c12687e3da41c20f9974c83108c81", func := "levelling/levellinglaw04.RoundQuos", spec := "roundQuos", inPlace := ["math.Float64bits", "math.Float64frombits", "slices.overlaps[uint32]", "math.sqrt"], unfollowed := true, recurses := true, apart := false, narrowed := true }
def RoundQuosUptoSaid : Prop := roundQuosUptoRow.holds Try.pinned (OpenSpec.upto roundQuosSpec)

end Rows
end Go.Proofs.Ytadmmamhhphkoaa
