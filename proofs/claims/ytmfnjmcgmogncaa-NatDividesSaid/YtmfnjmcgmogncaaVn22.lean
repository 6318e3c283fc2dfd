/- From a row's arguments to contracts. -/
import Derived.Test.YtmfnjmcgmogncaaVn21
import Derived.WalkKit
import Derived.ProofKit
import Derived.OpenShut
import Derived.ShutString
import Derived.ChangeOld
import Derived.Below
set_option linter.unusedVariables false
set_option maxRecDepth 20000
set_option linter.unusedSimpArgs false
namespace Go.Proofs.Nt
open Go Go.Proofs Go.Proofs.Va Go.RowKit

/-- A slice of whole numbers that came in: nil, or a row of cells. -/
def IsRow (k : IntKind) (w : World) (a : Option Addr) (len cap : Nat) (zs : List Int) : Prop :=
  (a = none ∧ len = 0 ∧ cap = 0 ∧ zs = []) ∨
  ∃ x, a = some x ∧ len ≤ cap ∧ cap ≤ maxLen ∧ zs.length = cap ∧ (∀ i, i < zs.length → w.cell? (x.add i) = some (.int k (zs.getD i 0))) ∧ ∀ n ∈ zs, (Lit.int k n).wf = true

theorem nat_of {k : Nat} (n : Int) (h : (Lit.int .u64 n).wf = true) : ∃ m : Nat, n = m ∧ m < 18446744073709551616 := by
  simp [Lit.wf, IntKind.min, IntKind.max, IntKind.signed, IntKind.bits] at h
  exact ⟨n.toNat, by omega, by omega⟩

theorem row_rp {w : World} {a : Option Addr} {len cap : Nat} {zs : List Int} (h : IsRow .u32 w a len cap zs) :
    ∃ nl l, Dig l ∧ Rp (fun k => k < w.heap.size) w (sl nl l none) (.slice a len cap) := by
  rcases h with ⟨rfl, rfl, rfl, rfl⟩ | ⟨x, rfl, hl, hm, rfl, hc, hw⟩
  · exact ⟨true, [], dig_nil, .pl _ _ _ _ _ _ 0 0 (fun _ => undef) rfl (by simp) (by simp) (by simp) (by simp) (by simp) (by simp) (by simp) (by simp) (by simp)⟩
  · refine ⟨false, (zs.take len).map Int.toNat, ?_, ?_⟩
    · intro y hy
      obtain ⟨z, hz, rfl⟩ := List.mem_map.1 hy
      have := Go.bounds_u32 (hw z (List.mem_of_mem_take hz))
      omega
    · rcases Nat.eq_zero_or_pos len with h0 | h0
      · subst h0
        exact .pl _ _ _ _ _ _ 0 0 (fun _ => undef) rfl (by simp) (by simp) (by simp) (by simp) (by simp) (by simp) (by simp) (by simp) (by simp)
      · obtain ⟨b, off, rfl, hc2⟩ := ints_at hc (by omega)
        have hlen : ((zs.take len).map Int.toNat).length = len := by simp; omega
        have hlt : b < w.heap.size := by
          have h1 := hc2 0 (by omega)
          rcases Nat.lt_or_ge b w.heap.size with h2 | h2
          · exact h2
          · simp [World.cell?, Array.getElem?_eq_none h2] at h1
        rw [sl, hlen]
        refine .pl _ _ _ _ _ _ b off (fun j => .int .u32 (zs.getD j 0)) rfl (by simp) hl (by simp) (fun _ => rfl) (fun _ => hlt) ?_ ?_ ?_ (by simp)
        · intro j hj
          exact hc2 j (by simp at hj; omega)
        · intro j hj; rfl
        · intro j hj
          have hj' : j < zs.length := by simp at hj; omega
          have e := Go.bounds_u32 (hw zs[j] (List.getElem_mem hj'))
          have e2 : zs.getD j 0 = ((zs[j].toNat : Nat) : Int) := by simp [hj']; omega
          rw [e2]
          simp
          exact .v _

theorem ctr_calls {P : Program} {g : FuncId} {fn : Func} {c : Code} (hf : P.funcs[g]? = some fn) (hb : fn.body = some c) (hname : (fn.name == "runtime.NumGoroutine") = false) {args : List AV} (h : Ctr P g args (fun r => r = bo true)) {w : World} {vs : Array Value}
    (hr : RpL (fun k => k < w.heap.size) w args vs) : Calls P g vs w fun e w' => e = .returned (.bool true) ∧ Below w.heap.size w w' := by
  have hname' : ¬ fn.name = "runtime.NumGoroutine" := by simpa using hname
  rcases h _ w vs (fun _ h => h) hr with ⟨_, h1⟩ | ⟨v, w', r, fz', h1, _⟩
  · refine h1.mono ?_
    rintro e w' ⟨v, r, fz', rfl, rfl, hv, hb, _⟩
    cases hv
    exact ⟨rfl, hb⟩
  · simp [callFunc, hf, hname', hb] at h1

theorem rpl_two {fz : Nat → Prop} {w : World} {x y : AV} {v1 v2 : Value} (h1 : Rp fz w x v1) (h2 : Rp fz w y v2) : RpL fz w [x, y] #[v1, v2] := by
  refine ⟨rfl, fun j hj => ?_⟩
  have : j = 0 ∨ j = 1 := by simp at hj; omega
  rcases this with rfl | rfl
  · exact h1
  · exact h2
theorem rpl_three {fz : Nat → Prop} {w : World} {x y z : AV} {v1 v2 v3 : Value} (h1 : Rp fz w x v1) (h2 : Rp fz w y v2) (h3 : Rp fz w z v3) : RpL fz w [x, y, z] #[v1, v2, v3] := by
  refine ⟨rfl, fun j hj => ?_⟩
  have : j = 0 ∨ j = 1 ∨ j = 2 := by simp at hj; omega
  rcases this with rfl | rfl | rfl
  · exact h1
  · exact h2
  · exact h3

theorem tells_walk (a0 : Option Addr) (len0 cap0 : Nat) (z0 : List Int) (a1 : Option Addr) (len1 cap1 : Nat) (z1 : List Int) (a2 : Int) (w : World) (w0 : IsRow .u32 w a0 len0 cap0 z0) (w1 : IsRow .u32 w a1 len1 cap1 z1) (w2 : (Lit.int .u64 a2).wf = true) :
    Calls Try.prog 3 #[.slice a0 len0 cap0, .slice a1 len1 cap1, .int .u64 a2] w fun e w' => e = .returned (.bool true) ∧ Below w.heap.size w w' := by
  obtain ⟨n0, l0, hd0, hr0⟩ := row_rp w0
  obtain ⟨n1, l1, hd1, hr1⟩ := row_rp w1
  obtain ⟨x, rfl, hx⟩ := nat_of (k := 0) a2 w2
  exact ctr_calls Try.func3 rfl (by kernel_rfl) (tells_ctr n0 n1 l0 l1 none none x hd0 hd1 hx) (rpl_three hr0 hr1 (.v _))

theorem counts_walk (a0 : Option Addr) (len0 cap0 : Nat) (z0 : List Int) (a1 : Option Addr) (len1 cap1 : Nat) (z1 : List Int) (a2 : Int) (w : World) (w0 : IsRow .u32 w a0 len0 cap0 z0) (w1 : IsRow .u32 w a1 len1 cap1 z1) (w2 : (Lit.int .i64 a2).wf = true) :
    Calls Try.prog 4 #[.slice a0 len0 cap0, .slice a1 len1 cap1, .int .i64 a2] w fun e w' => e = .returned (.bool true) ∧ Below w.heap.size w w' := by
  obtain ⟨n0, l0, hd0, hr0⟩ := row_rp w0
  obtain ⟨n1, l1, hd1, hr1⟩ := row_rp w1
  exact ctr_calls Try.func4 rfl (by kernel_rfl) (counts_ctr n0 n1 l0 l1 none none a2 hd0 hd1) (rpl_three hr0 hr1 (.v _))
end Go.Proofs.Nt
