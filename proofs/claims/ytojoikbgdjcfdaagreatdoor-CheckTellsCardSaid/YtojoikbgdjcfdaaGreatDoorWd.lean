import Derived.Test.YtojoikbgdjcfdaaGreatDoorWa
import Derived.Test.YtojoikbgdjcfdaaGreatDoorWb
import Derived.Test.YtojoikbgdjcfdaaGreatDoorWc
import Derived.WalkKit
import Derived.ProofKit
import Derived.OpenShut
import Derived.ShutString
import Derived.ChangeOld
import Derived.Below
/- From a row's arguments to contracts. -/
set_option linter.unusedVariables false
set_option maxRecDepth 20000
set_option linter.unusedSimpArgs false
namespace Go.Proofs.Nt
open Go Go.Proofs Go.Proofs.Va Go.RowKit

/-- A slice of whole numbers that came in: nil, or a row of cells. -/
def IsRow (k : IntKind) (w : World) (a : Option Addr) (len cap : Nat) (zs : List Int) : Prop :=
  (a = none ∧ len = 0 ∧ cap = 0 ∧ zs = []) ∨
  ∃ x, a = some x ∧ len ≤ cap ∧ cap ≤ maxLen ∧ zs.length = cap ∧ (∀ i, i < zs.length → w.cell? (x.add i) = some (.int k (zs.getD i 0))) ∧ ∀ n ∈ zs, (Lit.int k n).wf = true

theorem nat_of {k : Nat} (n : Int) (h : (Lit.int .u64 n).wf = true) : ∃ m : Nat, n = m ∧ m < 18446744073709551616 := by
  simp [Lit.wf, IntKind.min, IntKind.max, IntKind.signed, IntKind.bits] at h
  exact ⟨n.toNat, by omega, by omega⟩

theorem row_rp {w : World} {a : Option Addr} {len cap : Nat} {zs : List Int} (h : IsRow .u32 w a len cap zs) :
    ∃ nl l, Dig l ∧ Rp (fun k => k < w.heap.size) w (sl nl l none) (.slice a len cap) := by
  rcases h with ⟨rfl, rfl, rfl, rfl⟩ | ⟨x, rfl, hl, hm, rfl, hc, hw⟩
  · exact ⟨true, [], dig_nil, .pl _ _ _ _ _ _ 0 0 (fun _ => undef) rfl (by simp) (by simp) (by simp) (by simp) (by simp) (by simp) (by simp) (by simp) (by simp)⟩
  · refine ⟨false, (zs.take len).map Int.toNat, ?_, ?_⟩
    · intro y hy
      obtain ⟨z, hz, rfl⟩ := List.mem_map.1 hy
      have := Go.bounds_u32 (hw z (List.mem_of_mem_take hz))
      omega
    · rcases Nat.eq_zero_or_pos len with h0 | h0
      · subst h0
        exact .pl _ _ _ _ _ _ 0 0 (fun _ => undef) rfl (by simp) (by simp) (by simp) (by simp) (by simp) (by simp) (by simp) (by simp) (by simp)
      · obtain ⟨b, off, rfl, hc2⟩ := ints_at hc (by omega)
        have hlen : ((zs.take len).map Int.toNat).length = len := by simp; omega
        have hlt : b < w.heap.size := by
          have h1 := hc2 0 (by omega)
          rcases Nat.lt_or_ge b w.heap.size with h2 | h2
          · exact h2
          · simp [World.cell?, Array.getElem?_eq_none h2] at h1
        rw [sl, hlen]
        refine .pl _ _ _ _ _ _ b off (fun j => .int .u32 (zs.getD j 0)) rfl (by simp) hl (by simp) (fun _ => rfl) (fun _ => hlt) ?_ ?_ ?_ (by simp)
        · intro j hj
          exact hc2 j (by simp at hj; omega)
        · intro j hj; rfl
        · intro j hj
          have hj' : j < zs.length := by simp at hj; omega
          have e := Go.bounds_u32 (hw zs[j] (List.getElem_mem hj'))
          have e2 : zs.getD j 0 = ((zs[j].toNat : Nat) : Int) := by simp [hj']; omega
          rw [e2]
          simp
          exact .v _

theorem glob_none {fz : Nat → Prop} {w : World} (h : GL = [] := by rfl) : Glob fz w := by intro p hp; rw [h] at hp; cases hp
theorem ctr_calls {P : Program} {g : FuncId} {fn : Func} {c : Code} (hf : P.funcs[g]? = some fn) (hb : fn.body = some c) (hname : (fn.name == "runtime.NumGoroutine") = false) {args : List AV} (h : Ctr P g args (fun r => r = bo true)) {w : World} {vs : Array Value}
    (hr : RpL (fun k => k < w.heap.size) w args vs) (hg : Glob (fun k => k < w.heap.size) w := by exact glob_none) : Calls P g vs w fun e w' => e = .returned (.bool true) ∧ Below w.heap.size w w' := by
  have hname' : ¬ fn.name = "runtime.NumGoroutine" := by simpa using hname
  rcases h _ w vs ⟨fun _ h => h, hg⟩ hr with ⟨_, h1⟩ | ⟨v, w', r, fz', h1, _⟩
  · refine h1.mono ?_
    rintro e w' ⟨v, r, fz', rfl, rfl, hv, hb, _⟩
    cases hv
    exact ⟨rfl, hb⟩
  · simp [callFunc, hf, hname', hb] at h1

theorem rpl_two {fz : Nat → Prop} {w : World} {x y : AV} {v1 v2 : Value} (h1 : Rp fz w x v1) (h2 : Rp fz w y v2) : RpL fz w [x, y] #[v1, v2] := by
  refine ⟨rfl, fun j hj => ?_⟩
  have : j = 0 ∨ j = 1 := by simp at hj; omega
  rcases this with rfl | rfl
  · exact h1
  · exact h2
theorem rpl_three {fz : Nat → Prop} {w : World} {x y z : AV} {v1 v2 v3 : Value} (h1 : Rp fz w x v1) (h2 : Rp fz w y v2) (h3 : Rp fz w z v3) : RpL fz w [x, y, z] #[v1, v2, v3] := by
  refine ⟨rfl, fun j hj => ?_⟩
  have : j = 0 ∨ j = 1 ∨ j = 2 := by simp at hj; omega
  rcases this with rfl | rfl | rfl
  · exact h1
  · exact h2
  · exact h3

end Go.Proofs.Nt
/- The laws of the naturals: NatRules, NatBack. -/
set_option linter.unusedVariables false
set_option maxRecDepth 20000
set_option linter.unusedSimpArgs false
namespace Go.Proofs.Nt
open Go Go.Proofs Go.Proofs.Va Go.RowKit

theorem cmp0 {m n : Nat} (h : m = n) : cmp3 (m : Int) (n : Int) = 0 := by
  subst h; rw [cmp3_nat, if_neg (by omega), if_neg (by omega)]
theorem cmp_le {m n : Nat} (h : m ≤ n) : ∃ z : Int, cmp3 (m : Int) (n : Int) = z ∧ z ≤ 0 := by
  refine ⟨_, rfl, ?_⟩
  rw [cmp3_nat]; split
  · omega
  · rw [if_neg (by omega)]; omega
theorem cmp_gt {m n : Nat} (h : n < m) : cmp3 (m : Int) (n : Int) = 1 := by rw [cmp3_nat, if_neg (by omega), if_pos h]
theorem cmp_lt {m n : Nat} (h : m < n) : cmp3 (m : Int) (n : Int) = -1 := by rw [cmp3_nat, if_pos h]
theorem cmp_neg (m n : Nat) : cmp3 (m : Int) (n : Int) = -cmp3 (n : Int) (m : Int) := by
  rcases Nat.lt_trichotomy m n with h | h | h
  · rw [cmp_lt h, cmp_gt h]
  · rw [cmp0 h, cmp0 h.symm]; rfl
  · rw [cmp_lt h, cmp_gt h]; rfl
theorem cmp_wrap (m n : Nat) : IntKind.i64.wrap (-cmp3 (n : Int) (m : Int)) = cmp3 (m : Int) (n : Int) := by
  rcases Nat.lt_trichotomy m n with h | h | h
  · rw [cmp_lt h, cmp_gt h]; decide
  · rw [cmp0 h, cmp0 h.symm]; decide
  · rw [cmp_lt h, cmp_gt h]; decide
theorem ofN_mul {m n j k : Nat} (h1 : (ofN m).length ≤ j) (h2 : (ofN n).length ≤ k) : (ofN (m * n)).length ≤ j + k := by
  rw [len_ofN] at *
  rw [Nat.pow_add]
  exact Nat.mul_lt_mul'' h1 h2
theorem check_ofN (n : Nat) : (trimL (ofN n) == ofN n) = true := by simp [trim_ofN (dig_ofN n), val_ofN]

end Go.Proofs.Nt
/- The naturals: the document's Root; the law NatDivides. -/
set_option linter.unusedVariables false
set_option maxRecDepth 20000
set_option linter.unusedSimpArgs false
namespace Go.Proofs.Nt
open Go Go.Proofs Go.Proofs.Va Go.RowKit

theorem div_form {m n : Nat} {r : AV} (h : divPost m n r) : ∃ n1 c1 n2 c2, r = .tup [sl n1 (ofN (if n = 0 then 0 else m / n)) c1, sl n2 (ofN (if n = 0 then 0 else m % n)) c2, bo (!decide (n = 0))] := by
  rw [divPost] at h
  split at h
  · rename_i h1
    exact ⟨true, some 0, true, some 0, by rw [h, if_pos h1, if_pos h1, ofN_zero, decide_eq_true h1]; simp [sl]⟩
  · rename_i h1
    obtain ⟨n1, c1, n2, c2, h⟩ := h
    exact ⟨n1, c1, n2, c2, by rw [h, if_neg h1, if_neg h1, decide_eq_false h1]; rfl⟩

end Go.Proofs.Nt
