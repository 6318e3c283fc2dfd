import Derived.Test.YtnhhlamecljhhaaGreatWa
import Derived.Test.YtnhhlamecljhhaaGreatWb
import Derived.Test.YtnhhlamecljhhaaGreatWc
import Derived.WalkKit
import Derived.ProofKit
import Derived.OpenShut
import Derived.ShutString
import Derived.ChangeOld
import Derived.Below
/- From a row's arguments to contracts. -/
set_option linter.unusedVariables false
set_option maxRecDepth 20000
set_option linter.unusedSimpArgs false
namespace Go.Proofs.Nt
open Go Go.Proofs Go.Proofs.Va Go.RowKit

theorem glob_none {fz : Nat → Prop} {w : World} (h : GL = [] := by rfl) : Glob fz w := by intro p hp; rw [h] at hp; cases hp
theorem ctr_calls {P : Program} {g : FuncId} {fn : Func} {c : Code} (hf : P.funcs[g]? = some fn) (hb : fn.body = some c) (hname : (fn.name == "runtime.NumGoroutine") = false) {args : List AV} (h : Ctr P g args (fun r => r = bo true)) {w : World} {vs : Array Value}
    (hr : RpL (fun k => k < w.heap.size) w args vs) (hg : Glob (fun k => k < w.heap.size) w := by exact glob_none) : Calls P g vs w fun e w' => e = .returned (.bool true) ∧ Below w.heap.size w w' := by
  have hname' : ¬ fn.name = "runtime.NumGoroutine" := by simpa using hname
  rcases h _ w vs ⟨fun _ h => h, hg⟩ hr with ⟨_, h1⟩ | ⟨v, w', r, fz', h1, _⟩
  · refine h1.mono ?_
    rintro e w' ⟨v, r, fz', rfl, rfl, hv, hb, _⟩
    cases hv
    exact ⟨rfl, hb⟩
  · simp [callFunc, hf, hname', hb] at h1

theorem rpl_three {fz : Nat → Prop} {w : World} {x y z : AV} {v1 v2 v3 : Value} (h1 : Rp fz w x v1) (h2 : Rp fz w y v2) (h3 : Rp fz w z v3) : RpL fz w [x, y, z] #[v1, v2, v3] := by
  refine ⟨rfl, fun j hj => ?_⟩
  have : j = 0 ∨ j = 1 ∨ j = 2 := by simp at hj; omega
  rcases this with rfl | rfl | rfl
  · exact h1
  · exact h2
  · exact h3

end Go.Proofs.Nt
/- The laws of the naturals: NatRules, NatBack. -/
set_option linter.unusedVariables false
set_option maxRecDepth 20000
set_option linter.unusedSimpArgs false
namespace Go.Proofs.Nt
open Go Go.Proofs Go.Proofs.Va Go.RowKit

theorem ofN_mul {m n j k : Nat} (h1 : (ofN m).length ≤ j) (h2 : (ofN n).length ≤ k) : (ofN (m * n)).length ≤ j + k := by
  rw [len_ofN] at *
  rw [Nat.pow_add]
  exact Nat.mul_lt_mul'' h1 h2
theorem check_ofN (n : Nat) : (trimL (ofN n) == ofN n) = true := by simp [trim_ofN (dig_ofN n), val_ofN]

end Go.Proofs.Nt
/- The naturals: the document's Root; the law NatDivides. -/
set_option linter.unusedVariables false
set_option maxRecDepth 20000
set_option linter.unusedSimpArgs false
namespace Go.Proofs.Nt
open Go Go.Proofs Go.Proofs.Va Go.RowKit

end Go.Proofs.Nt
