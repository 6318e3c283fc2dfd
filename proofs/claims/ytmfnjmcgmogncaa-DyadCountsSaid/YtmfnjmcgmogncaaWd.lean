import Derived.Test.YtmfnjmcgmogncaaWa
import Derived.Test.YtmfnjmcgmogncaaWb
import Derived.Test.YtmfnjmcgmogncaaWc
import Derived.WalkKit
import Derived.ProofKit
import Derived.OpenShut
import Derived.ShutString
import Derived.ChangeOld
import Derived.Below
/- From a row's arguments to contracts. -/
set_option linter.unusedVariables false
set_option maxRecDepth 20000
set_option linter.unusedSimpArgs false
namespace Go.Proofs.Nt
open Go Go.Proofs Go.Proofs.Va Go.RowKit

/-- A slice of whole numbers that came in: nil, or a row of cells. -/
def IsRow (k : IntKind) (w : World) (a : Option Addr) (len cap : Nat) (zs : List Int) : Prop :=
  (a = none ∧ len = 0 ∧ cap = 0 ∧ zs = []) ∨
  ∃ x, a = some x ∧ len ≤ cap ∧ cap ≤ maxLen ∧ zs.length = cap ∧ (∀ i, i < zs.length → w.cell? (x.add i) = some (.int k (zs.getD i 0))) ∧ ∀ n ∈ zs, (Lit.int k n).wf = true

theorem nat_of {k : Nat} (n : Int) (h : (Lit.int .u64 n).wf = true) : ∃ m : Nat, n = m ∧ m < 18446744073709551616 := by
  simp [Lit.wf, IntKind.min, IntKind.max, IntKind.signed, IntKind.bits] at h
  exact ⟨n.toNat, by omega, by omega⟩

theorem row_rp {w : World} {a : Option Addr} {len cap : Nat} {zs : List Int} (h : IsRow .u32 w a len cap zs) :
    ∃ nl l, Dig l ∧ Rp (fun k => k < w.heap.size) w (sl nl l none) (.slice a len cap) := by
  rcases h with ⟨rfl, rfl, rfl, rfl⟩ | ⟨x, rfl, hl, hm, rfl, hc, hw⟩
  · exact ⟨true, [], dig_nil, .pl _ _ _ _ _ _ 0 0 (fun _ => undef) rfl (by simp) (by simp) (by simp) (by simp) (by simp) (by simp) (by simp) (by simp) (by simp)⟩
  · refine ⟨false, (zs.take len).map Int.toNat, ?_, ?_⟩
    · intro y hy
      obtain ⟨z, hz, rfl⟩ := List.mem_map.1 hy
      have := Go.bounds_u32 (hw z (List.mem_of_mem_take hz))
      omega
    · rcases Nat.eq_zero_or_pos len with h0 | h0
      · subst h0
        exact .pl _ _ _ _ _ _ 0 0 (fun _ => undef) rfl (by simp) (by simp) (by simp) (by simp) (by simp) (by simp) (by simp) (by simp) (by simp)
      · obtain ⟨b, off, rfl, hc2⟩ := ints_at hc (by omega)
        have hlen : ((zs.take len).map Int.toNat).length = len := by simp; omega
        have hlt : b < w.heap.size := by
          have h1 := hc2 0 (by omega)
          rcases Nat.lt_or_ge b w.heap.size with h2 | h2
          · exact h2
          · simp [World.cell?, Array.getElem?_eq_none h2] at h1
        rw [sl, hlen]
        refine .pl _ _ _ _ _ _ b off (fun j => .int .u32 (zs.getD j 0)) rfl (by simp) hl (by simp) (fun _ => rfl) (fun _ => hlt) ?_ ?_ ?_ (by simp)
        · intro j hj
          exact hc2 j (by simp at hj; omega)
        · intro j hj; rfl
        · intro j hj
          have hj' : j < zs.length := by simp at hj; omega
          have e := Go.bounds_u32 (hw zs[j] (List.getElem_mem hj'))
          have e2 : zs.getD j 0 = ((zs[j].toNat : Nat) : Int) := by simp [hj']; omega
          rw [e2]
          simp
          exact .v _

theorem ctr_calls {P : Program} {g : FuncId} {fn : Func} {c : Code} (hf : P.funcs[g]? = some fn) (hb : fn.body = some c) (hname : (fn.name == "runtime.NumGoroutine") = false) {args : List AV} (h : Ctr P g args (fun r => r = bo true)) {w : World} {vs : Array Value}
    (hr : RpL (fun k => k < w.heap.size) w args vs) : Calls P g vs w fun e w' => e = .returned (.bool true) ∧ Below w.heap.size w w' := by
  have hname' : ¬ fn.name = "runtime.NumGoroutine" := by simpa using hname
  rcases h _ w vs (fun _ h => h) hr with ⟨_, h1⟩ | ⟨v, w', r, fz', h1, _⟩
  · refine h1.mono ?_
    rintro e w' ⟨v, r, fz', rfl, rfl, hv, hb, _⟩
    cases hv
    exact ⟨rfl, hb⟩
  · simp [callFunc, hf, hname', hb] at h1

theorem rpl_two {fz : Nat → Prop} {w : World} {x y : AV} {v1 v2 : Value} (h1 : Rp fz w x v1) (h2 : Rp fz w y v2) : RpL fz w [x, y] #[v1, v2] := by
  refine ⟨rfl, fun j hj => ?_⟩
  have : j = 0 ∨ j = 1 := by simp at hj; omega
  rcases this with rfl | rfl
  · exact h1
  · exact h2
theorem rpl_three {fz : Nat → Prop} {w : World} {x y z : AV} {v1 v2 v3 : Value} (h1 : Rp fz w x v1) (h2 : Rp fz w y v2) (h3 : Rp fz w z v3) : RpL fz w [x, y, z] #[v1, v2, v3] := by
  refine ⟨rfl, fun j hj => ?_⟩
  have : j = 0 ∨ j = 1 ∨ j = 2 := by simp at hj; omega
  rcases this with rfl | rfl | rfl
  · exact h1
  · exact h2
  · exact h3

theorem tells_walk (a0 : Option Addr) (len0 cap0 : Nat) (z0 : List Int) (a1 : Option Addr) (len1 cap1 : Nat) (z1 : List Int) (a2 : Int) (w : World) (w0 : IsRow .u32 w a0 len0 cap0 z0) (w1 : IsRow .u32 w a1 len1 cap1 z1) (w2 : (Lit.int .u64 a2).wf = true) :
    Calls Try.prog 3 #[.slice a0 len0 cap0, .slice a1 len1 cap1, .int .u64 a2] w fun e w' => e = .returned (.bool true) ∧ Below w.heap.size w w' := by
  obtain ⟨n0, l0, hd0, hr0⟩ := row_rp w0
  obtain ⟨n1, l1, hd1, hr1⟩ := row_rp w1
  obtain ⟨x, rfl, hx⟩ := nat_of (k := 0) a2 w2
  exact ctr_calls Try.func3 rfl (by kernel_rfl) (tells_ctr n0 n1 l0 l1 none none x hd0 hd1 hx) (rpl_three hr0 hr1 (.v _))

theorem counts_walk (a0 : Option Addr) (len0 cap0 : Nat) (z0 : List Int) (a1 : Option Addr) (len1 cap1 : Nat) (z1 : List Int) (a2 : Int) (w : World) (w0 : IsRow .u32 w a0 len0 cap0 z0) (w1 : IsRow .u32 w a1 len1 cap1 z1) (w2 : (Lit.int .i64 a2).wf = true) :
    Calls Try.prog 4 #[.slice a0 len0 cap0, .slice a1 len1 cap1, .int .i64 a2] w fun e w' => e = .returned (.bool true) ∧ Below w.heap.size w w' := by
  obtain ⟨n0, l0, hd0, hr0⟩ := row_rp w0
  obtain ⟨n1, l1, hd1, hr1⟩ := row_rp w1
  exact ctr_calls Try.func4 rfl (by kernel_rfl) (counts_ctr n0 n1 l0 l1 none none a2 hd0 hd1) (rpl_three hr0 hr1 (.v _))
end Go.Proofs.Nt
/- The laws of the naturals: NatRules, NatBack. -/
set_option linter.unusedVariables false
set_option maxRecDepth 20000
set_option linter.unusedSimpArgs false
namespace Go.Proofs.Nt
open Go Go.Proofs Go.Proofs.Va Go.RowKit

theorem cmp0 {m n : Nat} (h : m = n) : cmp3 (m : Int) (n : Int) = 0 := by
  subst h; rw [cmp3_nat, if_neg (by omega), if_neg (by omega)]
theorem cmp_le {m n : Nat} (h : m ≤ n) : ∃ z : Int, cmp3 (m : Int) (n : Int) = z ∧ z ≤ 0 := by
  refine ⟨_, rfl, ?_⟩
  rw [cmp3_nat]; split
  · omega
  · rw [if_neg (by omega)]; omega
theorem cmp_gt {m n : Nat} (h : n < m) : cmp3 (m : Int) (n : Int) = 1 := by rw [cmp3_nat, if_neg (by omega), if_pos h]
theorem cmp_lt {m n : Nat} (h : m < n) : cmp3 (m : Int) (n : Int) = -1 := by rw [cmp3_nat, if_pos h]
theorem cmp_neg (m n : Nat) : cmp3 (m : Int) (n : Int) = -cmp3 (n : Int) (m : Int) := by
  rcases Nat.lt_trichotomy m n with h | h | h
  · rw [cmp_lt h, cmp_gt h]
  · rw [cmp0 h, cmp0 h.symm]; rfl
  · rw [cmp_lt h, cmp_gt h]; rfl
theorem cmp_wrap (m n : Nat) : IntKind.i64.wrap (-cmp3 (n : Int) (m : Int)) = cmp3 (m : Int) (n : Int) := by
  rcases Nat.lt_trichotomy m n with h | h | h
  · rw [cmp_lt h, cmp_gt h]; decide
  · rw [cmp0 h, cmp0 h.symm]; decide
  · rw [cmp_lt h, cmp_gt h]; decide
theorem ofN_mul {m n j k : Nat} (h1 : (ofN m).length ≤ j) (h2 : (ofN n).length ≤ k) : (ofN (m * n)).length ≤ j + k := by
  rw [len_ofN] at *
  rw [Nat.pow_add]
  exact Nat.mul_lt_mul'' h1 h2
theorem check_ofN (n : Nat) : (trimL (ofN n) == ofN n) = true := by simp [trim_ofN (dig_ofN n), val_ofN]

theorem rules_ctr (nl nl' nl'' : Bool) (a b c : List Nat) (cap cap' cap'' : Option Nat) (ha : Dig a) (hb : Dig b) (hc : Dig c) : Ctr Try.prog 6 [sl nl a cap, sl nl' b cap', sl nl'' c cap''] (fun r => r = bo true) := by
  refine ctr_in Try.func6 rfl (by kernel_rfl) rfl fun K hK => ?_
  simp only [Try.f6, List.append_eq, List.cons_append, List.nil_append]
  have stop : ∀ σ, K (bo true) σ := fun σ => hK _ _ _ (.same _ (by simp)) rfl
  by_cases h1 : (30 : Int) < a.length
  · simp [aLen_sl, h1]
    refine acall_by live_ctr (by simp) ?_
    rintro _ rfl
    simp
    exact stop _
  by_cases h2 : (30 : Int) < b.length
  · simp [aLen_sl, h1, h2]
    refine acall_by live_ctr (by simp) ?_
    rintro _ rfl
    simp
    exact stop _
  by_cases h3 : (30 : Int) < c.length
  · simp [aLen_sl, h1, h2, h3]
    refine acall_by live_ctr (by simp) ?_
    rintro _ rfl
    simp
    exact stop _
  have hla : a.length ≤ 30 := by omega
  have hlb : b.length ≤ 30 := by omega
  have hlc : c.length ≤ 30 := by omega
  have oa := ofN_val_le ha hla
  have ob := ofN_val_le hb hlb
  have oc := ofN_val_le hc hlc
  simp [aLen_sl, h1, h2, h3]
  refine acall_by (add_ctr nl nl' a b cap cap' ha hb (by omega) (by omega)) (by simp [sl]) ?_
  rintro _ ⟨n1, c1, rfl⟩
  have os := ofN_add oa ob
  simp
  refine acall_by (sub_ctr n1 nl _ a c1 cap (dig_ofN (val a + val b)) ha (by omega) (by omega)) (by simp [sl]) ?_
  intro y hy
  rw [val_ofN] at hy
  obtain ⟨n2, c2, rfl⟩ := sub_form hy
  rw [Nat.add_sub_cancel_left, decide_eq_true (by omega)]
  simp
  refine acall_by (add_ctr nl' nl b a cap' cap hb ha (by omega) (by omega)) (by simp [sl]) ?_
  rintro _ ⟨n3, c3, rfl⟩
  have os' := ofN_add ob oa
  simp
  refine acall_by (cmp_ctr n1 n3 _ _ c1 c3 (dig_ofN (val a + val b)) (dig_ofN (val b + val a)) (by omega) (by omega)) (by simp [sl]) ?_
  rintro _ rfl
  rw [val_ofN, val_ofN, cmp0 (Nat.add_comm _ _)]
  simp
  refine acall_by (mul_ctr nl nl' a b cap cap' ha hb (by omega) (by omega)) (by simp [sl]) ?_
  rintro _ ⟨n4, c4, rfl⟩
  simp
  refine acall_by (mul_ctr nl' nl b a cap' cap hb ha (by omega) (by omega)) (by simp [sl]) ?_
  rintro _ ⟨n5, c5, rfl⟩
  have om := ofN_mul oa ob
  have om' := ofN_mul ob oa
  simp
  refine acall_by (cmp_ctr n4 n5 _ _ c4 c5 (dig_ofN (val a * val b)) (dig_ofN (val b * val a)) (by omega) (by omega)) (by simp [sl]) ?_
  rintro _ rfl
  rw [val_ofN, val_ofN, cmp0 (Nat.mul_comm _ _)]
  simp
  refine acall_by (cmp_ctr n2 nl' _ b c2 cap' (dig_ofN (val b)) hb (by omega) (by omega)) (by simp [sl]) ?_
  rintro _ rfl
  rw [val_ofN, cmp0 rfl]
  simp
  refine acall_by (add_ctr n1 nl'' _ c c1 cap'' (dig_ofN (val a + val b)) hc (by omega) (by omega)) (by simp [sl]) ?_
  rintro _ ⟨n6, c6, rfl⟩
  rw [val_ofN]
  have os1 := ofN_add (k := 31) os (Nat.le_trans oc (by decide))
  simp
  refine acall_by (add_ctr nl' nl'' b c cap' cap'' hb hc (by omega) (by omega)) (by simp [sl]) ?_
  rintro _ ⟨n7, c7, rfl⟩
  have os2 := ofN_add ob oc
  simp
  refine acall_by (add_ctr nl n7 a _ cap c7 ha (dig_ofN (val b + val c)) (by omega) (by omega)) (by simp [sl]) ?_
  rintro _ ⟨n8, c8, rfl⟩
  rw [val_ofN]
  have os3 := ofN_add (k := 31) (Nat.le_trans oa (by decide)) os2
  simp
  refine acall_by (cmp_ctr n6 n8 _ _ c6 c8 (dig_ofN (val a + val b + val c)) (dig_ofN (val a + (val b + val c))) (by omega) (by omega)) (by simp [sl]) ?_
  rintro _ rfl
  rw [val_ofN, val_ofN, cmp0 (Nat.add_assoc _ _ _)]
  simp
  refine acall_by (mul_ctr n1 nl'' _ c c1 cap'' (dig_ofN (val a + val b)) hc (by omega) (by omega)) (by simp [sl]) ?_
  rintro _ ⟨n9, c9, rfl⟩
  rw [val_ofN]
  have om1 := ofN_mul os oc
  simp
  refine acall_by (mul_ctr nl nl'' a c cap cap'' ha hc (by omega) (by omega)) (by simp [sl]) ?_
  rintro _ ⟨n10, c10, rfl⟩
  have om2 := ofN_mul oa oc
  simp
  refine acall_by (mul_ctr nl' nl'' b c cap' cap'' hb hc (by omega) (by omega)) (by simp [sl]) ?_
  rintro _ ⟨n11, c11, rfl⟩
  have om3 := ofN_mul ob oc
  simp
  refine acall_by (add_ctr n10 n11 _ _ c10 c11 (dig_ofN (val a * val c)) (dig_ofN (val b * val c)) (by omega) (by omega)) (by simp [sl]) ?_
  rintro _ ⟨n12, c12, rfl⟩
  rw [val_ofN, val_ofN]
  have om4 := ofN_add om2 om3
  simp
  refine acall_by (cmp_ctr n9 n12 _ _ c9 c12 (dig_ofN ((val a + val b) * val c)) (dig_ofN (val a * val c + val b * val c)) (by omega) (by omega)) (by simp [sl]) ?_
  rintro _ rfl
  rw [val_ofN, val_ofN, cmp0 (Nat.add_mul _ _ _)]
  simp
  refine acall_by (check_ctr n1 (ofN (val a + val b)) c1 (by omega)) (by simp [sl]) ?_
  rintro _ rfl
  rw [check_ofN]
  simp
  refine acall_by (cmp_ctr nl nl' a b cap cap' ha hb (by omega) (by omega)) (by simp [sl]) ?_
  rintro _ rfl
  simp
  refine acall_by (cmp_ctr nl' nl b a cap' cap hb ha (by omega) (by omega)) (by simp [sl]) ?_
  rintro _ rfl
  simp [cmp_wrap]
  refine acall_by live_ctr (by simp) ?_
  rintro _ rfl
  simp
  exact stop _

theorem back_ctr (nl nl' : Bool) (a b : List Nat) (cap cap' : Option Nat) (ha : Dig a) (hb : Dig b) : Ctr Try.prog 7 [sl nl a cap, sl nl' b cap'] (fun r => r = bo true) := by
  refine ctr_in Try.func7 rfl (by kernel_rfl) rfl fun K hK => ?_
  simp only [Try.f7, List.append_eq, List.cons_append, List.nil_append]
  have stop : ∀ σ, K (bo true) σ := fun σ => hK _ _ _ (.same _ (by simp)) rfl
  by_cases h1 : (12 : Int) < a.length
  · simp [aLen_sl, h1]
    refine acall_by live_ctr (by simp) ?_
    rintro _ rfl
    simp
    exact stop _
  by_cases h2 : (12 : Int) < b.length
  · simp [aLen_sl, h1, h2]
    refine acall_by live_ctr (by simp) ?_
    rintro _ rfl
    simp
    exact stop _
  have hla : a.length ≤ 12 := by omega
  have hlb : b.length ≤ 12 := by omega
  have oa := ofN_val_le ha hla
  have ob := ofN_val_le hb hlb
  simp [aLen_sl, h1, h2]
  refine acall_by (root_ctr nl a cap ha (by omega)) (by simp [sl]) ?_
  rintro _ ⟨s, ⟨hs1, hs2⟩, n1, c1, rfl⟩
  have os : (ofN s).length ≤ 12 := ofN_low (Nat.le_trans (Nat.le_mul_self s) hs1) oa
  simp
  refine acall_by (from_ctr 1 (by decide)) (by simp) ?_
  rintro _ ⟨n2, c2, rfl⟩
  have o1 : (ofN 1).length ≤ 12 := lz _ (by decide) _ (by decide)
  simp
  refine acall_by (add_ctr n1 n2 _ _ c1 c2 (dig_ofN s) (dig_ofN 1) (by omega) (by omega)) (by simp [sl]) ?_
  rintro _ ⟨n3, c3, rfl⟩
  rw [val_ofN, val_ofN]
  have os1 := ofN_add os o1
  simp
  refine acall_by (mul_ctr n1 n1 _ _ c1 c1 (dig_ofN s) (dig_ofN s) (by omega) (by omega)) (by simp [sl]) ?_
  rintro _ ⟨n4, c4, rfl⟩
  rw [val_ofN]
  have om := ofN_mul os os
  simp
  refine acall_by (cmp_ctr n4 nl _ a c4 cap (dig_ofN (s * s)) ha (by omega) (by omega)) (by simp [sl]) ?_
  rintro _ rfl
  obtain ⟨z, hz, hz0⟩ := cmp_le hs1
  rw [val_ofN, hz]
  have hz1 : ¬ 0 < z := by omega
  simp [hz1]
  refine acall_by (mul_ctr n3 n3 _ _ c3 c3 (dig_ofN (s + 1)) (dig_ofN (s + 1)) (by omega) (by omega)) (by simp [sl]) ?_
  rintro _ ⟨n5, c5, rfl⟩
  rw [val_ofN]
  have om1 := ofN_mul os1 os1
  simp
  refine acall_by (cmp_ctr n5 nl _ a c5 cap (dig_ofN ((s + 1) * (s + 1))) ha (by omega) (by omega)) (by simp [sl]) ?_
  rintro _ rfl
  rw [val_ofN, cmp_gt hs2]
  simp
  refine acall_by (check_ctr n1 (ofN s) c1 (by omega)) (by simp [sl]) ?_
  rintro _ rfl
  rw [check_ofN]
  simp
  refine acall_by (div_ctr nl nl' a b cap cap' ha hb (by omega) (by omega)) (by simp [sl]) ?_
  intro y hy
  by_cases hb0 : val b = 0
  · rw [divPost, if_pos hb0] at hy
    subst hy
    simp
    refine acall_by (len_ctr nl' b cap' hb (by omega)) (by simp [sl]) ?_
    rintro _ rfl
    rw [hb0, show bl 0 = 0 from bl_zero]
    simp
    refine acall_by live_ctr (by simp) ?_
    rintro _ rfl
    simp
    exact stop _
  · rw [divPost, if_neg hb0] at hy
    obtain ⟨n6, c6, n7, c7, rfl⟩ := hy
    have oq : (ofN (val a / val b)).length ≤ 12 := ofN_low (Nat.div_le_self _ _) oa
    have or : (ofN (val a % val b)).length ≤ 12 := ofN_low (Nat.mod_le _ _) oa
    simp
    refine acall_by (cmp_ctr n7 nl' _ b c7 cap' (dig_ofN (val a % val b)) hb (by omega) (by omega)) (by simp [sl]) ?_
    rintro _ rfl
    rw [val_ofN, cmp_lt (Nat.mod_lt _ (by omega))]
    simp
    refine acall_by (mul_ctr n6 nl' _ b c6 cap' (dig_ofN (val a / val b)) hb (by omega) (by omega)) (by simp [sl]) ?_
    rintro _ ⟨n8, c8, rfl⟩
    rw [val_ofN]
    have oqb := ofN_mul oq ob
    simp
    refine acall_by (add_ctr n8 n7 _ _ c8 c7 (dig_ofN (val a / val b * val b)) (dig_ofN (val a % val b)) (by omega) (by omega)) (by simp [sl]) ?_
    rintro _ ⟨n9, c9, rfl⟩
    rw [val_ofN, val_ofN, show val a / val b * val b + val a % val b = val a by rw [Nat.mul_comm]; exact Nat.div_add_mod _ _]
    simp
    refine acall_by (cmp_ctr n9 nl _ a c9 cap (dig_ofN (val a)) ha (by omega) (by omega)) (by simp [sl]) ?_
    rintro _ rfl
    rw [val_ofN, cmp0 rfl]
    simp
    refine acall_by (check_ctr n6 (ofN (val a / val b)) c6 (by omega)) (by simp [sl]) ?_
    rintro _ rfl
    rw [check_ofN]
    simp
    refine acall_by (check_ctr n7 (ofN (val a % val b)) c7 (by omega)) (by simp [sl]) ?_
    rintro _ rfl
    rw [check_ofN]
    simp
    refine acall_by live_ctr (by simp) ?_
    rintro _ rfl
    simp
    exact stop _

theorem rules_walk (a0 : Option Addr) (len0 cap0 : Nat) (z0 : List Int) (a1 : Option Addr) (len1 cap1 : Nat) (z1 : List Int) (a2 : Option Addr) (len2 cap2 : Nat) (z2 : List Int) (w : World) (w0 : IsRow .u32 w a0 len0 cap0 z0) (w1 : IsRow .u32 w a1 len1 cap1 z1) (w2 : IsRow .u32 w a2 len2 cap2 z2) :
    Calls Try.prog 6 #[.slice a0 len0 cap0, .slice a1 len1 cap1, .slice a2 len2 cap2] w fun e w' => e = .returned (.bool true) ∧ Below w.heap.size w w' := by
  obtain ⟨n0, l0, hd0, hr0⟩ := row_rp w0
  obtain ⟨n1, l1, hd1, hr1⟩ := row_rp w1
  obtain ⟨n2, l2, hd2, hr2⟩ := row_rp w2
  exact ctr_calls Try.func6 rfl (by kernel_rfl) (rules_ctr n0 n1 n2 l0 l1 l2 none none none hd0 hd1 hd2) (rpl_three hr0 hr1 hr2)

theorem back_walk (a0 : Option Addr) (len0 cap0 : Nat) (z0 : List Int) (a1 : Option Addr) (len1 cap1 : Nat) (z1 : List Int) (w : World) (w0 : IsRow .u32 w a0 len0 cap0 z0) (w1 : IsRow .u32 w a1 len1 cap1 z1) :
    Calls Try.prog 7 #[.slice a0 len0 cap0, .slice a1 len1 cap1] w fun e w' => e = .returned (.bool true) ∧ Below w.heap.size w w' := by
  obtain ⟨n0, l0, hd0, hr0⟩ := row_rp w0
  obtain ⟨n1, l1, hd1, hr1⟩ := row_rp w1
  exact ctr_calls Try.func7 rfl (by kernel_rfl) (back_ctr n0 n1 l0 l1 none none hd0 hd1) (rpl_two hr0 hr1)
end Go.Proofs.Nt
/- The naturals: the document's Root; the law NatDivides. -/
set_option linter.unusedVariables false
set_option maxRecDepth 20000
set_option linter.unusedSimpArgs false
namespace Go.Proofs.Nt
open Go Go.Proofs Go.Proofs.Va Go.RowKit

theorem rroot_ctr (nl : Bool) (a : List Nat) (cap : Option Nat) (ha : Dig a) (hl : a.length ≤ 3000) : Ctr Try.prog 38 [sl nl a cap] (fun r => ∃ s, IsRoot (val a) s ∧ Told (ofN s) r) := by
  refine ctr_in Try.func38 rfl (by kernel_rfl) rfl fun K hK => ?_
  simp [Try.f38]
  refine acall_by (rlen_ctr nl a cap ha (by omega)) (by simp [sl]) ?_
  rintro _ rfl
  have hbl : bl (val a) ≤ 32 * a.length := bl_le (by rw [← base_pow]; exact val_lt ha)
  have hbh := bl_high (val a)
  obtain ⟨e, he⟩ : ∃ e, e = bl (val a) / 2 := ⟨_, rfl⟩
  have hw : IntKind.i64.wrap (((bl (val a) : Nat) : Int).tdiv 2) = (e : Int) := by
    rw [Int.tdiv_eq_ediv_of_nonneg (by omega), w64 _ (by omega) (by omega)]; omega
  have hoa := ofN_val_le ha hl
  have hst : val a < (0 + 2 ^ (e + 1)) * (0 + 2 ^ (e + 1)) := by
    rw [Nat.zero_add, ← Nat.pow_add]
    exact Nat.lt_of_lt_of_le hbh (Nat.pow_le_pow_right (by decide) (by omega))
  have hw2 : IntKind.i64.wrap ((bl (val a) : Int) / 2) = (e : Int) := by rw [w64 _ (by omega) (by omega)]; omega
  simp [hw, hw2]
  refine loop_on (γ := Nat × Nat × Bool × Option Nat) 27 (fun g => [(0, sl nl a cap), (3, sl g.2.2.1 (ofN g.2.1) g.2.2.2), (4, i ((g.1 : Int) - 1))]) (fun _ => [])
    (fun g => g.1 ≤ e + 1 ∧ g.2.1 * g.2.1 ≤ val a ∧ val a < (g.2.1 + 2 ^ g.1) * (g.2.1 + 2 ^ g.1)) (fun g => g.1)
    (e + 1, 0, true, some 0) ⟨Nat.le_refl _, by simp, hst⟩ (Wk.lst (by simp [sl, ofN_zero]) (by simp)) ?_
  rintro ⟨j, r, n1, c1⟩ ⟨hj, hr1, hr2⟩ L hL
  simp only at hj hr1 hr2
  have hrm : r ≤ val a := Nat.le_trans (Nat.le_mul_self r) hr1
  have hrl : (ofN r).length ≤ 3000 := ofN_low hrm hoa
  rcases Nat.eq_zero_or_pos j with h0 | h0
  · subst h0
    simp
    refine acall_by (rtrim_ctr n1 _ c1 (by omega)) (by simp [sl]) ?_
    rintro _ ⟨n2, c2, rfl⟩
    rw [trim_ofN_self]
    simp
    exact hK _ _ _ (.same _ (by simp [sl])) ⟨r, ⟨hr1, by simpa using hr2⟩, ⟨_, _, rfl⟩⟩
  · obtain ⟨p, hp⟩ : ∃ p, j = p + 1 := ⟨j - 1, by omega⟩
    subst hp
    have e1 : ((p + 1 : Nat) : Int) - 1 = (p : Int) := by omega
    have hwp : IntKind.i64.wrap ((p : Int) - 1) = (p : Int) - 1 := w64 _ (by omega) (by omega)
    have hpl : (ofN (2 ^ p)).length ≤ 1501 := ofN_le (j := p / 32 + 1) (by rw [base_pow]; exact Nat.pow_lt_pow_right (by decide) (by omega)) (by omega)
    rw [e1]
    simp
    refine acall_by (rfrom_ctr 1 (by decide)) (by simp) ?_
    rintro _ ⟨n2, c2, rfl⟩
    simp
    refine acall_by (rshl_ctr n2 (ofN 1) c2 p (dig_ofN 1) (lz _ (by decide) _ (by decide))) (by simp [sl]) ?_
    rintro _ ⟨n3, c3, rfl⟩
    rw [shlN, if_neg (by omega), Int.toNat_natCast, val_ofN, Nat.one_mul]
    simp
    refine acall_by (radd_ctr n1 n3 _ _ c1 c3 (dig_ofN r) (dig_ofN (2 ^ p)) (by omega) (by omega)) (by simp [sl]) ?_
    rintro _ ⟨n4, c4, rfl⟩
    rw [val_ofN, val_ofN]
    have htl := ofN_add (k := 3000) hrl (Nat.le_trans hpl (by decide))
    obtain ⟨t, ht⟩ : ∃ t, t = r + 2 ^ p := ⟨_, rfl⟩
    rw [← ht] at htl ⊢
    simp
    refine acall_by (rmul_ctr n4 n4 _ _ c4 c4 (dig_ofN t) (dig_ofN t) (by omega) (by omega)) (by simp [sl]) ?_
    rintro _ ⟨n5, c5, rfl⟩
    rw [val_ofN]
    have htt := ofN_mul htl htl
    simp
    refine acall_by (rcmp_ctr n5 nl _ a c5 cap (dig_ofN (t * t)) ha (by omega) (by omega)) (by simp [sl]) ?_
    rintro _ rfl
    rw [val_ofN]
    by_cases hle : t * t ≤ val a
    · obtain ⟨z, hz, hz0⟩ := cmp_le hle
      rw [hz]
      simp [hz0, hwp]
      refine hL (p, t, n4, c4) _ _ ⟨by show p ≤ _; omega, hle, ?_⟩ (Wk.lst (by simp [sl]) (by simp)) (by show p < p + 1; omega)
      show val a < (t + 2 ^ p) * (t + 2 ^ p)
      have : t + 2 ^ p = r + 2 ^ (p + 1) := by rw [ht, Nat.pow_succ]; omega
      rw [this]; exact hr2
    · rw [cmp_gt (by omega)]
      simp [hwp]
      refine hL (p, r, n1, c1) _ _ ⟨by show p ≤ _; omega, hr1, ?_⟩ (Wk.lst (by simp [sl]) (by simp)) (by show p < p + 1; omega)
      show val a < (r + 2 ^ p) * (r + 2 ^ p)
      rw [← ht]; omega

theorem div_form {m n : Nat} {r : AV} (h : divPost m n r) : ∃ n1 c1 n2 c2, r = .tup [sl n1 (ofN (if n = 0 then 0 else m / n)) c1, sl n2 (ofN (if n = 0 then 0 else m % n)) c2, bo (!decide (n = 0))] := by
  rw [divPost] at h
  split at h
  · rename_i h1
    exact ⟨true, some 0, true, some 0, by rw [h, if_pos h1, if_pos h1, ofN_zero, decide_eq_true h1]; simp [sl]⟩
  · rename_i h1
    obtain ⟨n1, c1, n2, c2, h⟩ := h
    exact ⟨n1, c1, n2, c2, by rw [h, if_neg h1, if_neg h1, decide_eq_false h1]; rfl⟩

theorem divides_ctr (nl nl' : Bool) (a b : List Nat) (cap cap' : Option Nat) (ha : Dig a) (hb : Dig b) : Ctr Try.prog 5 [sl nl a cap, sl nl' b cap'] (fun r => r = bo true) := by
  refine ctr_in Try.func5 rfl (by kernel_rfl) rfl fun K hK => ?_
  simp only [Try.f5, List.append_eq, List.cons_append, List.nil_append]
  have stop : ∀ σ, K (bo true) σ := fun σ => hK _ _ _ (.same _ (by simp)) rfl
  by_cases h1 : (12 : Int) < a.length
  · simp [aLen_sl, h1]
    refine acall_by live_ctr (by simp) ?_
    rintro _ rfl
    simp
    exact stop _
  by_cases h2 : (12 : Int) < b.length
  · simp [aLen_sl, h1, h2]
    refine acall_by live_ctr (by simp) ?_
    rintro _ rfl
    simp
    exact stop _
  have hla : a.length ≤ 12 := by omega
  have hlb : b.length ≤ 12 := by omega
  have oa := ofN_val_le ha hla
  simp [aLen_sl, h1, h2]
  refine acall_by (div_ctr nl nl' a b cap cap' ha hb (by omega) (by omega)) (by simp [sl]) ?_
  intro y hy
  obtain ⟨n1, c1, n2, c2, rfl⟩ := div_form hy
  simp only
  generalize hq : (if val b = 0 then 0 else val a / val b) = q
  generalize hm : (if val b = 0 then 0 else val a % val b) = m
  generalize hth : (!decide (val b = 0)) = t
  have hql : (ofN q).length ≤ 12 := ofN_low (by rw [← hq]; split <;> first | omega | exact Nat.div_le_self _ _) oa
  have hml : (ofN m).length ≤ 12 := ofN_low (by rw [← hm]; split <;> first | omega | exact Nat.mod_le _ _) oa
  simp
  refine acall_by (rdiv_ctr nl nl' a b cap cap' ha hb (by omega) (by omega)) (by simp [sl]) ?_
  intro y hy
  obtain ⟨n3, c3, n4, c4, rfl⟩ := div_form hy
  rw [hq, hm, hth]
  simp
  refine acall_by (same_ctr n1 n3 _ _ c1 c3 (by omega) (by omega)) (by simp [sl]) ?_
  rintro _ rfl
  simp
  refine acall_by (same_ctr n2 n4 _ _ c2 c4 (by omega) (by omega)) (by simp [sl]) ?_
  rintro _ rfl
  simp
  refine acall_by (root_ctr nl a cap ha (by omega)) (by simp [sl]) ?_
  rintro _ ⟨s, hs, n5, c5, rfl⟩
  simp
  refine acall_by (rroot_ctr nl a cap ha (by omega)) (by simp [sl]) ?_
  rintro _ ⟨s', hs', n6, c6, rfl⟩
  obtain rfl := hs.unique hs'
  have hsl : (ofN s).length ≤ 12 := ofN_low (Nat.le_trans (Nat.le_mul_self s) hs.1) oa
  simp
  refine acall_by (same_ctr n5 n6 _ _ c5 c6 (by omega) (by omega)) (by simp [sl]) ?_
  rintro _ rfl
  simp
  refine acall_by live_ctr (by simp) ?_
  rintro _ rfl
  simp
  exact stop _

theorem divides_walk (a0 : Option Addr) (len0 cap0 : Nat) (z0 : List Int) (a1 : Option Addr) (len1 cap1 : Nat) (z1 : List Int) (w : World) (w0 : IsRow .u32 w a0 len0 cap0 z0) (w1 : IsRow .u32 w a1 len1 cap1 z1) :
    Calls Try.prog 5 #[.slice a0 len0 cap0, .slice a1 len1 cap1] w fun e w' => e = .returned (.bool true) ∧ Below w.heap.size w w' := by
  obtain ⟨n0, l0, hd0, hr0⟩ := row_rp w0
  obtain ⟨n1, l1, hd1, hr1⟩ := row_rp w1
  exact ctr_calls Try.func5 rfl (by kernel_rfl) (divides_ctr n0 n1 l0 l1 none none hd0 hd1) (rpl_two hr0 hr1)
end Go.Proofs.Nt
