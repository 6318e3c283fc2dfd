/-
  No cell of these rows narrows 'for every input' (looked for: loops, veiled, ifaces, maps, wideKeys, modest, calm, conditions, laid).
  DERIVED. THE GIVEN ROWS OF THIS SEAT. 10 by the template 'for every input the law returns true; each argument reads behind the call as it read before'; 0 by the template 'total and deterministic' (their statements: YtmfnjmcgmogncaaTotals.lean).
  GIVEN WITH THE SEED: the statements are not yours to turn. If you find one false, say at which input.
  Laid BY PROGRAM, IN A SANDBOX (cutbox-rows.mjs): the forced cells as the released guide's own fill.sh prints them over the translation a7343ab169b5d9a9… (all of the seat's roots in one cut). By AI agents, Wed Nov 11 2026. No macro, syntax, notation, axiom, sorry.
-/
import Derived.Test.YtmfnjmcgmogncaaChecked
import GoSem.Claim
import GoSem.ClaimJoined
import GoSem.ClaimMapViews
import Derived.JoinedTies
import Derived.KernelRfl
namespace Go.Proofs.Ytmfnjmcgmogncaa
/- THE CELL 'sum', in the pinned program and in every row, IS THE sha256 OF THE DUMP (.gsa) THAT YtmfnjmcgmogncaaProg.lean LOADS. Nothing in Lean hashes anything: it is a label: what it is worth is what the hold of that sum in a sandbox is worth. -/
noncomputable def Try.pinned : Pinned := { name := "ytmfnjmcgmogncaa", sum := "a7343ab169b5d9a9b80c15311e75e5f21c6a4db4278ce4cfb8808ef825cd21d1", checked := Try.checked }
namespace Rows
def none {H : Type} : Left H := { results := [], args := [] }

/-- 'levellinglaw02.NatTells': WHATEVER THE INPUT: true; the input reads as it did. -/
def natTellsSpec : ChangeSpec := { name := "natTells", fn := fun _ => fun
  | [d1, d2, d3] => { results := [.lit (.bool true)], args := [d1, d2, d3] }
  | _ => none }
def natTellsRow : OpenClaim := { program := "ytmfnjmcgmogncaa", sum := "a7343ab169b5d9a9b80c15311e75e5f21c6a4db4278ce4cfb8808ef825cd21d1", func := "levelling/levellinglaw02.NatTells", spec := "natTells", inPlace := ["slices.overlaps[uint32]"], unfollowed := true, recurses := true, apart := false }
def NatTellsSaid : Prop := natTellsRow.holds Try.pinned (OpenSpec.ofChange natTellsSpec)

/-- ITS FALSE NEIGHBOUR: 'it returns false'. Refute it at one input. -/
def natTellsWrong : ChangeSpec := { name := "natTells", fn := fun _ => fun
  | [d1, d2, d3] => { results := [.lit (.bool false)], args := [d1, d2, d3] }
  | _ => none }
def NatTellsWrongFalsely : Prop := natTellsRow.holds Try.pinned (OpenSpec.ofChange natTellsWrong)

/-- 'levellinglaw02.NatCounts': WHATEVER THE INPUT: true; the input reads as it did. -/
def natCountsSpec : ChangeSpec := { name := "natCounts", fn := fun _ => fun
  | [d1, d2, d3] => { results := [.lit (.bool true)], args := [d1, d2, d3] }
  | _ => none }
def natCountsRow : OpenClaim := { program := "ytmfnjmcgmogncaa", sum := "a7343ab169b5d9a9b80c15311e75e5f21c6a4db4278ce4cfb8808ef825cd21d1", func := "levelling/levellinglaw02.NatCounts", spec := "natCounts", inPlace := ["slices.overlaps[uint32]"], unfollowed := true, recurses := true, apart := false }
def NatCountsSaid : Prop := natCountsRow.holds Try.pinned (OpenSpec.ofChange natCountsSpec)

/-- ITS FALSE NEIGHBOUR: 'it returns false'. Refute it at one input. -/
def natCountsWrong : ChangeSpec := { name := "natCounts", fn := fun _ => fun
  | [d1, d2, d3] => { results := [.lit (.bool false)], args := [d1, d2, d3] }
  | _ => none }
def NatCountsWrongFalsely : Prop := natCountsRow.holds Try.pinned (OpenSpec.ofChange natCountsWrong)

/-- 'levellinglaw02.NatDivides': WHATEVER THE INPUT: true; the input reads as it did. -/
def natDividesSpec : ChangeSpec := { name := "natDivides", fn := fun _ => fun
  | [d1, d2] => { results := [.lit (.bool true)], args := [d1, d2] }
  | _ => none }
def natDividesRow : OpenClaim := { program := "ytmfnjmcgmogncaa", sum := "a7343ab169b5d9a9b80c15311e75e5f21c6a4db4278ce4cfb8808ef825cd21d1", func := "levelling/levellinglaw02.NatDivides", spec := "natDivides", inPlace := ["slices.overlaps[uint32]"], unfollowed := true, recurses := true, apart := false }
def NatDividesSaid : Prop := natDividesRow.holds Try.pinned (OpenSpec.ofChange natDividesSpec)

/-- ITS FALSE NEIGHBOUR: 'it returns false'. Refute it at one input. -/
def natDividesWrong : ChangeSpec := { name := "natDivides", fn := fun _ => fun
  | [d1, d2] => { results := [.lit (.bool false)], args := [d1, d2] }
  | _ => none }
def NatDividesWrongFalsely : Prop := natDividesRow.holds Try.pinned (OpenSpec.ofChange natDividesWrong)

/-- 'levellinglaw02.NatRules': WHATEVER THE INPUT: true; the input reads as it did. -/
def natRulesSpec : ChangeSpec := { name := "natRules", fn := fun _ => fun
  | [d1, d2, d3] => { results := [.lit (.bool true)], args := [d1, d2, d3] }
  | _ => none }
def natRulesRow : OpenClaim := { program := "ytmfnjmcgmogncaa", sum := "a7343ab169b5d9a9b80c15311e75e5f21c6a4db4278ce4cfb8808ef825cd21d1", func := "levelling/levellinglaw02.NatRules", spec := "natRules", inPlace := ["slices.overlaps[uint32]"], unfollowed := true, recurses := true, apart := false }
def NatRulesSaid : Prop := natRulesRow.holds Try.pinned (OpenSpec.ofChange natRulesSpec)

/-- ITS FALSE NEIGHBOUR: 'it returns false'. Refute it at one input. -/
def natRulesWrong : ChangeSpec := { name := "natRules", fn := fun _ => fun
  | [d1, d2, d3] => { results := [.lit (.bool false)], args := [d1, d2, d3] }
  | _ => none }
def NatRulesWrongFalsely : Prop := natRulesRow.holds Try.pinned (OpenSpec.ofChange natRulesWrong)

/-- 'levellinglaw02.NatBack': WHATEVER THE INPUT: true; the input reads as it did. -/
def natBackSpec : ChangeSpec := { name := "natBack", fn := fun _ => fun
  | [d1, d2] => { results := [.lit (.bool true)], args := [d1, d2] }
  | _ => none }
def natBackRow : OpenClaim := { program := "ytmfnjmcgmogncaa", sum := "a7343ab169b5d9a9b80c15311e75e5f21c6a4db4278ce4cfb8808ef825cd21d1", func := "levelling/levellinglaw02.NatBack", spec := "natBack", inPlace := ["slices.overlaps[uint32]"], unfollowed := true, recurses := true, apart := false }
def NatBackSaid : Prop := natBackRow.holds Try.pinned (OpenSpec.ofChange natBackSpec)

/-- ITS FALSE NEIGHBOUR: 'it returns false'. Refute it at one input. -/
def natBackWrong : ChangeSpec := { name := "natBack", fn := fun _ => fun
  | [d1, d2] => { results := [.lit (.bool false)], args := [d1, d2] }
  | _ => none }
def NatBackWrongFalsely : Prop := natBackRow.holds Try.pinned (OpenSpec.ofChange natBackWrong)

/-- 'levellinglaw03.DyadTells': WHATEVER THE INPUT: true; the input reads as it did. -/
def dyadTellsSpec : ChangeSpec := { name := "dyadTells", fn := fun _ => fun
  | [d1, d2, d3] => { results := [.lit (.bool true)], args := [d1, d2, d3] }
  | _ => none }
def dyadTellsRow : OpenClaim := { program := "ytmfnjmcgmogncaa", sum := "a7343ab169b5d9a9b80c15311e75e5f21c6a4db4278ce4cfb8808ef825cd21d1", func := "levelling/levellinglaw03.DyadTells", spec := "dyadTells", inPlace := ["math.Float64bits", "math.Float64frombits", "slices.overlaps[uint32]"], unfollowed := true, recurses := true, apart := false }
def DyadTellsSaid : Prop := dyadTellsRow.holds Try.pinned (OpenSpec.ofChange dyadTellsSpec)

/-- ITS FALSE NEIGHBOUR: 'it returns false'. Refute it at one input. -/
def dyadTellsWrong : ChangeSpec := { name := "dyadTells", fn := fun _ => fun
  | [d1, d2, d3] => { results := [.lit (.bool false)], args := [d1, d2, d3] }
  | _ => none }
def DyadTellsWrongFalsely : Prop := dyadTellsRow.holds Try.pinned (OpenSpec.ofChange dyadTellsWrong)

/-- 'levellinglaw03.DyadCounts': WHATEVER THE INPUT: true; the input reads as it did. -/
def dyadCountsSpec : ChangeSpec := { name := "dyadCounts", fn := fun _ => fun
  | [d1, d2] => { results := [.lit (.bool true)], args := [d1, d2] }
  | _ => none }
def dyadCountsRow : OpenClaim := { program := "ytmfnjmcgmogncaa", sum := "a7343ab169b5d9a9b80c15311e75e5f21c6a4db4278ce4cfb8808ef825cd21d1", func := "levelling/levellinglaw03.DyadCounts", spec := "dyadCounts", inPlace := ["math.Float64bits", "math.Float64frombits", "slices.overlaps[uint32]"], unfollowed := true, recurses := true, apart := false }
def DyadCountsSaid : Prop := dyadCountsRow.holds Try.pinned (OpenSpec.ofChange dyadCountsSpec)

/-- ITS FALSE NEIGHBOUR: 'it returns false'. Refute it at one input. -/
def dyadCountsWrong : ChangeSpec := { name := "dyadCounts", fn := fun _ => fun
  | [d1, d2] => { results := [.lit (.bool false)], args := [d1, d2] }
  | _ => none }
def DyadCountsWrongFalsely : Prop := dyadCountsRow.holds Try.pinned (OpenSpec.ofChange dyadCountsWrong)

/-- 'levellinglaw03.DyadSums': WHATEVER THE INPUT: true; the input reads as it did. -/
def dyadSumsSpec : ChangeSpec := { name := "dyadSums", fn := fun _ => fun
  | [d1, d2] => { results := [.lit (.bool true)], args := [d1, d2] }
  | _ => none }
def dyadSumsRow : OpenClaim := { program := "ytmfnjmcgmogncaa", sum := "a7343ab169b5d9a9b80c15311e75e5f21c6a4db4278ce4cfb8808ef825cd21d1", func := "levelling/levellinglaw03.DyadSums", spec := "dyadSums", inPlace := ["math.Float64bits", "math.Float64frombits", "slices.overlaps[uint32]"], unfollowed := true, recurses := true, apart := false }
def DyadSumsSaid : Prop := dyadSumsRow.holds Try.pinned (OpenSpec.ofChange dyadSumsSpec)

/-- ITS FALSE NEIGHBOUR: 'it returns false'. Refute it at one input. -/
def dyadSumsWrong : ChangeSpec := { name := "dyadSums", fn := fun _ => fun
  | [d1, d2] => { results := [.lit (.bool false)], args := [d1, d2] }
  | _ => none }
def DyadSumsWrongFalsely : Prop := dyadSumsRow.holds Try.pinned (OpenSpec.ofChange dyadSumsWrong)

/-- 'levellinglaw03.DyadRules': WHATEVER THE INPUT: true; the input reads as it did. -/
def dyadRulesSpec : ChangeSpec := { name := "dyadRules", fn := fun _ => fun
  | [d1, d2, d3] => { results := [.lit (.bool true)], args := [d1, d2, d3] }
  | _ => none }
def dyadRulesRow : OpenClaim := { program := "ytmfnjmcgmogncaa", sum := "a7343ab169b5d9a9b80c15311e75e5f21c6a4db4278ce4cfb8808ef825cd21d1", func := "levelling/levellinglaw03.DyadRules", spec := "dyadRules", inPlace := ["math.Float64bits", "math.Float64frombits", "slices.overlaps[uint32]"], unfollowed := true, recurses := true, apart := false }
def DyadRulesSaid : Prop := dyadRulesRow.holds Try.pinned (OpenSpec.ofChange dyadRulesSpec)

/-- ITS FALSE NEIGHBOUR: 'it returns false'. Refute it at one input. -/
def dyadRulesWrong : ChangeSpec := { name := "dyadRules", fn := fun _ => fun
  | [d1, d2, d3] => { results := [.lit (.bool false)], args := [d1, d2, d3] }
  | _ => none }
def DyadRulesWrongFalsely : Prop := dyadRulesRow.holds Try.pinned (OpenSpec.ofChange dyadRulesWrong)

/-- 'levellinglaw03.DyadFloats': WHATEVER THE INPUT: true; the input reads as it did. -/
def dyadFloatsSpec : ChangeSpec := { name := "dyadFloats", fn := fun _ => fun
  | [d1, d2] => { results := [.lit (.bool true)], args := [d1, d2] }
  | _ => none }
def dyadFloatsRow : OpenClaim := { program := "ytmfnjmcgmogncaa", sum := "a7343ab169b5d9a9b80c15311e75e5f21c6a4db4278ce4cfb8808ef825cd21d1", func := "levelling/levellinglaw03.DyadFloats", spec := "dyadFloats", inPlace := ["math.Float64bits", "math.Float64frombits", "slices.overlaps[uint32]"], unfollowed := true, recurses := true, apart := false }
def DyadFloatsSaid : Prop := dyadFloatsRow.holds Try.pinned (OpenSpec.ofChange dyadFloatsSpec)

/-- ITS FALSE NEIGHBOUR: 'it returns false'. Refute it at one input. -/
def dyadFloatsWrong : ChangeSpec := { name := "dyadFloats", fn := fun _ => fun
  | [d1, d2] => { results := [.lit (.bool false)], args := [d1, d2] }
  | _ => none }
def DyadFloatsWrongFalsely : Prop := dyadFloatsRow.holds Try.pinned (OpenSpec.ofChange dyadFloatsWrong)

/- THE SECOND FORM. 'bulk': how many values and letters a reading holds, each counted each time it is reached (what is shared counts as often as it is met; a slice's spare places count too). A statement '..UptoSaid' is the law's where the arguments, and the package variables that the reading takes, are together of bulk at most 1048576: NARROWER than '..Said'. Prove '..Said' where nothing that the law and all that it calls make is longer than what came in: it says more and counts as full. Else prove '..UptoSaid'. A law counts once. -/
mutual
def uptoBulk {H : Type} : DataW H → Nat
  | .lit (.string bytes) => bytes.length + 1
  | .lit _ => 1
  | .nil => 1
  | .ptr d => uptoBulk d + 1
  | .slice elems spare => uptoBulkAll elems + uptoBulkAll spare + 1
  | .agg parts => uptoBulkAll parts + 1
  | .iface _ d => uptoBulk d + 1
  | .map entries => uptoBulkEntries entries + 1
  | .held _ => 1
def uptoBulkAll {H : Type} : List (DataW H) → Nat
  | [] => 0
  | d :: r => uptoBulk d + uptoBulkAll r
def uptoBulkEntries {H : Type} : List (Lit × DataW H) → Nat
  | [] => 0
  | x :: r => uptoBulkEntry x + uptoBulkEntries r
def uptoBulkEntry {H : Type} : Lit × DataW H → Nat
  | (.string bytes, d) => bytes.length + uptoBulk d + 1
  | (_, d) => uptoBulk d + 1
 end
def uptoSmall : (H : Type) → List (DataW H) → Bool := fun _ ds => decide (uptoBulkAll ds ≤ 1048576)
def OpenSpec.upto (s : _root_.Go.ChangeSpec) : _root_.Go.OpenSpec := { _root_.Go.OpenSpec.ofChange s with cond := some uptoSmall }

/-- 'levellinglaw02.NatTells', WHERE WHAT IT READS IS OF BULK AT MOST 1048576: true; the input reads as it did. -/
def natTellsUptoRow : OpenClaim := { program := "ytmfnjmcgmogncaa", sum := "a7343ab169b5d9a9b80c15311e75e5f21c6a4db4278ce4cfb8808ef825cd21d1", func := "levelling/levellinglaw02.NatTells", spec := "natTells", inPlace := ["slices.overlaps[uint32]"], unfollowed := true, recurses := true, apart := false, narrowed := true }
def NatTellsUptoSaid : Prop := natTellsUptoRow.holds Try.pinned (OpenSpec.upto natTellsSpec)

/-- 'levellinglaw02.NatCounts', WHERE WHAT IT READS IS OF BULK AT MOST 1048576: true; the input reads as it did. -/
def natCountsUptoRow : OpenClaim := { program := "ytmfnjmcgmogncaa", sum := "a7343ab169b5d9a9b80c15311e75e5f21c6a4db4278ce4cfb8808ef825cd21d1", func := "levelling/levellinglaw02.NatCounts", spec := "natCounts", inPlace := ["slices.overlaps[uint32]"], unfollowed := true, recurses := true, apart := false, narrowed := true }
def NatCountsUptoSaid : Prop := natCountsUptoRow.holds Try.pinned (OpenSpec.upto natCountsSpec)

/-- 'levellinglaw02.NatDivides', WHERE WHAT IT READS IS OF BULK AT MOST 1048576: true; the input reads as it did. -/
def natDividesUptoRow : OpenClaim := { program := "ytmfnjmcgmogncaa", sum := "a7343ab169b5d9a9b80c15311e75e5f21c6a4db4278ce4cfb8808ef825cd21d1", func := "levelling/levellinglaw02.NatDivides", spec := "natDivides", inPlace := ["slices.overlaps[uint32]"], unfollowed := true, recurses := true, apart := false, narrowed := true }
def NatDividesUptoSaid : Prop := natDividesUptoRow.holds Try.pinned (OpenSpec.upto natDividesSpec)

/-- 'levellinglaw02.NatRules', WHERE WHAT IT READS IS OF BULK AT MOST 1048576: true; the input reads as it did. -/
def natRulesUptoRow : OpenClaim := { program := "ytmfnjmcgmogncaa", sum := "a7343ab169b5d9a9b80c15311e75e5f21c6a4db4278ce4cfb8808ef825cd21d1", func := "levelling/levellinglaw02.NatRules", spec := "natRules", inPlace := ["slices.overlaps[uint32]"], unfollowed := true, recurses := true, apart := false, narrowed := true }
def NatRulesUptoSaid : Prop := natRulesUptoRow.holds Try.pinned (OpenSpec.upto natRulesSpec)

/-- 'levellinglaw02.NatBack', WHERE WHAT IT READS IS OF BULK AT MOST 1048576: true; the input reads as it did. -/
def natBackUptoRow : OpenClaim := { program := "ytmfnjmcgmogncaa", sum := "a7343ab169b5d9a9b80c15311e75e5f21c6a4db4278ce4cfb8808ef825cd21d1", func := "levelling/levellinglaw02.NatBack", spec := "natBack", inPlace := ["slices.overlaps[uint32]"], unfollowed := true, recurses := true, apart := false, narrowed := true }
def NatBackUptoSaid : Prop := natBackUptoRow.holds Try.pinned (OpenSpec.upto natBackSpec)

/-- 'levellinglaw03.DyadTells', WHERE WHAT IT READS IS OF BULK AT MOST 1048576: true; the input reads as it did. -/
def dyadTellsUptoRow : OpenClaim := { program := "ytmfnjmcgmogncaa", sum := "a7343ab169b5d9a9b80c15311e75e5f21c6a4db4278ce4cfb8808ef825cd21d1", func := "levelling/levellinglaw03.DyadTells", spec := "dyadTells", inPlace := ["math.Float64bits", "math.Float64frombits", "slices.overlaps[uint32]"], unfollowed := true, recurses := true, apart := false, narrowed := true }
def DyadTellsUptoSaid : Prop := dyadTellsUptoRow.holds Try.pinned (OpenSpec.upto dyadTellsSpec)

/-- 'levellinglaw03.DyadCounts', WHERE WHAT IT READS IS OF BULK AT MOST 1048576: true; the input reads as it did. -/
def dyadCountsUptoRow : OpenClaim := { program := "ytmfnjmcgmogncaa", sum := "a7343ab169b5d9a9b80c15311e75e5f21c6a4db4278ce4cfb8808ef825cd21d1", func := "levelling/levellinglaw03.DyadCounts", spec := "dyadCounts", inPlace := ["math.Float64bits", "math.Float64frombits", "slices.overlaps[uint32]"], unfollowed := true, recurses := true, apart := false, narrowed := true }
def DyadCountsUptoSaid : Prop := dyadCountsUptoRow.holds Try.pinned (OpenSpec.upto dyadCountsSpec)

/-- 'levellinglaw03.DyadSums', WHERE WHAT IT READS IS OF BULK AT MOST 1048576: true; the input reads as it did. -/
def dyadSumsUptoRow : OpenClaim := { program := "ytmfnjmcgmogncaa", sum := "a7343ab169b5d9a9b80c15311e75e5f21c6a4db4278ce4cfb8808ef825cd21d1", func := "levelling/levellinglaw03.DyadSums", spec := "dyadSums", inPlace := ["math.Float64bits", "math.Float64frombits", "slices.overlaps[uint32]"], unfollowed := true, recurses := true, apart := false, narrowed := true }
def DyadSumsUptoSaid : Prop := dyadSumsUptoRow.holds Try.pinned (OpenSpec.upto dyadSumsSpec)

/-- 'levellinglaw03.DyadRules', WHERE WHAT IT READS IS OF BULK AT MOST 1048576: true; the input reads as it did. -/
def dyadRulesUptoRow : OpenClaim := { program := "ytmfnjmcgmogncaa", sum := "a7343ab169b5d9a9b80c15311e75e5f21c6a4db4278ce4cfb8808ef825cd21d1", func := "levelling/levellinglaw03.DyadRules", spec := "dyadRules", inPlace := ["math.Float64bits", "math.Float64frombits", "slices.overlaps[uint32]"], unfollowed := true, recurses := true, apart := false, narrowed := true }
def DyadRulesUptoSaid : Prop := dyadRulesUptoRow.holds Try.pinned (OpenSpec.upto dyadRulesSpec)

/-- 'levellinglaw03.DyadFloats', WHERE WHAT IT READS IS OF BULK AT MOST 1048576: true; the input reads as it did. -/
def dyadFloatsUptoRow : OpenClaim := { program := "ytmfnjmcgmogncaa", sum := "a7343ab169b5d9a9b80c15311e75e5f21c6a4db4278ce4cfb8808ef825cd21d1", func := "levelling/levellinglaw03.DyadFloats", spec := "dyadFloats", inPlace := ["math.Float64bits", "math.Float64frombits", "slices.overlaps[uint32]"], unfollowed := true, recurses := true, apart := false, narrowed := true }
def DyadFloatsUptoSaid : Prop := dyadFloatsUptoRow.holds Try.pinned (OpenSpec.upto dyadFloatsSpec)

end Rows
end Go.Proofs.Ytmfnjmcgmogncaa
