/- The laws of the naturals: NatRules, NatBack. -/
import Derived.Test.YtmfnjmcgmogncaaVn22
set_option linter.unusedVariables false
set_option maxRecDepth 20000
set_option linter.unusedSimpArgs false
namespace Go.Proofs.Nt
open Go Go.Proofs Go.Proofs.Va Go.RowKit

theorem cmp0 {m n : Nat} (h : m = n) : cmp3 (m : Int) (n : Int) = 0 := by
  subst h; rw [cmp3_nat, if_neg (by omega), if_neg (by omega)]
theorem cmp_le {m n : Nat} (h : m ≤ n) : ∃ z : Int, cmp3 (m : Int) (n : Int) = z ∧ z ≤ 0 := by
  refine ⟨_, rfl, ?_⟩
  rw [cmp3_nat]; split
  · omega
  · rw [if_neg (by omega)]; omega
theorem cmp_gt {m n : Nat} (h : n < m) : cmp3 (m : Int) (n : Int) = 1 := by rw [cmp3_nat, if_neg (by omega), if_pos h]
theorem cmp_lt {m n : Nat} (h : m < n) : cmp3 (m : Int) (n : Int) = -1 := by rw [cmp3_nat, if_pos h]
theorem cmp_neg (m n : Nat) : cmp3 (m : Int) (n : Int) = -cmp3 (n : Int) (m : Int) := by
  rcases Nat.lt_trichotomy m n with h | h | h
  · rw [cmp_lt h, cmp_gt h]
  · rw [cmp0 h, cmp0 h.symm]; rfl
  · rw [cmp_lt h, cmp_gt h]; rfl
theorem cmp_wrap (m n : Nat) : IntKind.i64.wrap (-cmp3 (n : Int) (m : Int)) = cmp3 (m : Int) (n : Int) := by
  rcases Nat.lt_trichotomy m n with h | h | h
  · rw [cmp_lt h, cmp_gt h]; decide
  · rw [cmp0 h, cmp0 h.symm]; decide
  · rw [cmp_lt h, cmp_gt h]; decide
theorem ofN_mul {m n j k : Nat} (h1 : (ofN m).length ≤ j) (h2 : (ofN n).length ≤ k) : (ofN (m * n)).length ≤ j + k := by
  rw [len_ofN] at *
  rw [Nat.pow_add]
  exact Nat.mul_lt_mul'' h1 h2
theorem check_ofN (n : Nat) : (trimL (ofN n) == ofN n) = true := by simp [trim_ofN (dig_ofN n), val_ofN]

theorem rules_ctr (nl nl' nl'' : Bool) (a b c : List Nat) (cap cap' cap'' : Option Nat) (ha : Dig a) (hb : Dig b) (hc : Dig c) : Ctr Try.prog 6 [sl nl a cap, sl nl' b cap', sl nl'' c cap''] (fun r => r = bo true) := by
  refine ctr_in Try.func6 rfl (by kernel_rfl) rfl fun K hK => ?_
  simp only [Try.f6, List.append_eq, List.cons_append, List.nil_append]
  have stop : ∀ σ, K (bo true) σ := fun σ => hK _ _ _ (.same _ (by simp)) rfl
  by_cases h1 : (30 : Int) < a.length
  · simp [aLen_sl, h1]
    refine acall_by live_ctr (by simp) ?_
    rintro _ rfl
    simp
    exact stop _
  by_cases h2 : (30 : Int) < b.length
  · simp [aLen_sl, h1, h2]
    refine acall_by live_ctr (by simp) ?_
    rintro _ rfl
    simp
    exact stop _
  by_cases h3 : (30 : Int) < c.length
  · simp [aLen_sl, h1, h2, h3]
    refine acall_by live_ctr (by simp) ?_
    rintro _ rfl
    simp
    exact stop _
  have hla : a.length ≤ 30 := by omega
  have hlb : b.length ≤ 30 := by omega
  have hlc : c.length ≤ 30 := by omega
  have oa := ofN_val_le ha hla
  have ob := ofN_val_le hb hlb
  have oc := ofN_val_le hc hlc
  simp [aLen_sl, h1, h2, h3]
  refine acall_by (add_ctr nl nl' a b cap cap' ha hb (by omega) (by omega)) (by simp [sl]) ?_
  rintro _ ⟨n1, c1, rfl⟩
  have os := ofN_add oa ob
  simp
  refine acall_by (sub_ctr n1 nl _ a c1 cap (dig_ofN (val a + val b)) ha (by omega) (by omega)) (by simp [sl]) ?_
  intro y hy
  rw [val_ofN] at hy
  obtain ⟨n2, c2, rfl⟩ := sub_form hy
  rw [Nat.add_sub_cancel_left, decide_eq_true (by omega)]
  simp
  refine acall_by (add_ctr nl' nl b a cap' cap hb ha (by omega) (by omega)) (by simp [sl]) ?_
  rintro _ ⟨n3, c3, rfl⟩
  have os' := ofN_add ob oa
  simp
  refine acall_by (cmp_ctr n1 n3 _ _ c1 c3 (dig_ofN (val a + val b)) (dig_ofN (val b + val a)) (by omega) (by omega)) (by simp [sl]) ?_
  rintro _ rfl
  rw [val_ofN, val_ofN, cmp0 (Nat.add_comm _ _)]
  simp
  refine acall_by (mul_ctr nl nl' a b cap cap' ha hb (by omega) (by omega)) (by simp [sl]) ?_
  rintro _ ⟨n4, c4, rfl⟩
  simp
  refine acall_by (mul_ctr nl' nl b a cap' cap hb ha (by omega) (by omega)) (by simp [sl]) ?_
  rintro _ ⟨n5, c5, rfl⟩
  have om := ofN_mul oa ob
  have om' := ofN_mul ob oa
  simp
  refine acall_by (cmp_ctr n4 n5 _ _ c4 c5 (dig_ofN (val a * val b)) (dig_ofN (val b * val a)) (by omega) (by omega)) (by simp [sl]) ?_
  rintro _ rfl
  rw [val_ofN, val_ofN, cmp0 (Nat.mul_comm _ _)]
  simp
  refine acall_by (cmp_ctr n2 nl' _ b c2 cap' (dig_ofN (val b)) hb (by omega) (by omega)) (by simp [sl]) ?_
  rintro _ rfl
  rw [val_ofN, cmp0 rfl]
  simp
  refine acall_by (add_ctr n1 nl'' _ c c1 cap'' (dig_ofN (val a + val b)) hc (by omega) (by omega)) (by simp [sl]) ?_
  rintro _ ⟨n6, c6, rfl⟩
  rw [val_ofN]
  have os1 := ofN_add (k := 31) os (Nat.le_trans oc (by decide))
  simp
  refine acall_by (add_ctr nl' nl'' b c cap' cap'' hb hc (by omega) (by omega)) (by simp [sl]) ?_
  rintro _ ⟨n7, c7, rfl⟩
  have os2 := ofN_add ob oc
  simp
  refine acall_by (add_ctr nl n7 a _ cap c7 ha (dig_ofN (val b + val c)) (by omega) (by omega)) (by simp [sl]) ?_
  rintro _ ⟨n8, c8, rfl⟩
  rw [val_ofN]
  have os3 := ofN_add (k := 31) (Nat.le_trans oa (by decide)) os2
  simp
  refine acall_by (cmp_ctr n6 n8 _ _ c6 c8 (dig_ofN (val a + val b + val c)) (dig_ofN (val a + (val b + val c))) (by omega) (by omega)) (by simp [sl]) ?_
  rintro _ rfl
  rw [val_ofN, val_ofN, cmp0 (Nat.add_assoc _ _ _)]
  simp
  refine acall_by (mul_ctr n1 nl'' _ c c1 cap'' (dig_ofN (val a + val b)) hc (by omega) (by omega)) (by simp [sl]) ?_
  rintro _ ⟨n9, c9, rfl⟩
  rw [val_ofN]
  have om1 := ofN_mul os oc
  simp
  refine acall_by (mul_ctr nl nl'' a c cap cap'' ha hc (by omega) (by omega)) (by simp [sl]) ?_
  rintro _ ⟨n10, c10, rfl⟩
  have om2 := ofN_mul oa oc
  simp
  refine acall_by (mul_ctr nl' nl'' b c cap' cap'' hb hc (by omega) (by omega)) (by simp [sl]) ?_
  rintro _ ⟨n11, c11, rfl⟩
  have om3 := ofN_mul ob oc
  simp
  refine acall_by (add_ctr n10 n11 _ _ c10 c11 (dig_ofN (val a * val c)) (dig_ofN (val b * val c)) (by omega) (by omega)) (by simp [sl]) ?_
  rintro _ ⟨n12, c12, rfl⟩
  rw [val_ofN, val_ofN]
  have om4 := ofN_add om2 om3
  simp
  refine acall_by (cmp_ctr n9 n12 _ _ c9 c12 (dig_ofN ((val a + val b) * val c)) (dig_ofN (val a * val c + val b * val c)) (by omega) (by omega)) (by simp [sl]) ?_
  rintro _ rfl
  rw [val_ofN, val_ofN, cmp0 (Nat.add_mul _ _ _)]
  simp
  refine acall_by (check_ctr n1 (ofN (val a + val b)) c1 (by omega)) (by simp [sl]) ?_
  rintro _ rfl
  rw [check_ofN]
  simp
  refine acall_by (cmp_ctr nl nl' a b cap cap' ha hb (by omega) (by omega)) (by simp [sl]) ?_
  rintro _ rfl
  simp
  refine acall_by (cmp_ctr nl' nl b a cap' cap hb ha (by omega) (by omega)) (by simp [sl]) ?_
  rintro _ rfl
  simp [cmp_wrap]
  refine acall_by live_ctr (by simp) ?_
  rintro _ rfl
  simp
  exact stop _

theorem back_ctr (nl nl' : Bool) (a b : List Nat) (cap cap' : Option Nat) (ha : Dig a) (hb : Dig b) : Ctr Try.prog 7 [sl nl a cap, sl nl' b cap'] (fun r => r = bo true) := by
  refine ctr_in Try.func7 rfl (by kernel_rfl) rfl fun K hK => ?_
  simp only [Try.f7, List.append_eq, List.cons_append, List.nil_append]
  have stop : ∀ σ, K (bo true) σ := fun σ => hK _ _ _ (.same _ (by simp)) rfl
  by_cases h1 : (12 : Int) < a.length
  · simp [aLen_sl, h1]
    refine acall_by live_ctr (by simp) ?_
    rintro _ rfl
    simp
    exact stop _
  by_cases h2 : (12 : Int) < b.length
  · simp [aLen_sl, h1, h2]
    refine acall_by live_ctr (by simp) ?_
    rintro _ rfl
    simp
    exact stop _
  have hla : a.length ≤ 12 := by omega
  have hlb : b.length ≤ 12 := by omega
  have oa := ofN_val_le ha hla
  have ob := ofN_val_le hb hlb
  simp [aLen_sl, h1, h2]
  refine acall_by (root_ctr nl a cap ha (by omega)) (by simp [sl]) ?_
  rintro _ ⟨s, ⟨hs1, hs2⟩, n1, c1, rfl⟩
  have os : (ofN s).length ≤ 12 := ofN_low (Nat.le_trans (Nat.le_mul_self s) hs1) oa
  simp
  refine acall_by (from_ctr 1 (by decide)) (by simp) ?_
  rintro _ ⟨n2, c2, rfl⟩
  have o1 : (ofN 1).length ≤ 12 := lz _ (by decide) _ (by decide)
  simp
  refine acall_by (add_ctr n1 n2 _ _ c1 c2 (dig_ofN s) (dig_ofN 1) (by omega) (by omega)) (by simp [sl]) ?_
  rintro _ ⟨n3, c3, rfl⟩
  rw [val_ofN, val_ofN]
  have os1 := ofN_add os o1
  simp
  refine acall_by (mul_ctr n1 n1 _ _ c1 c1 (dig_ofN s) (dig_ofN s) (by omega) (by omega)) (by simp [sl]) ?_
  rintro _ ⟨n4, c4, rfl⟩
  rw [val_ofN]
  have om := ofN_mul os os
  simp
  refine acall_by (cmp_ctr n4 nl _ a c4 cap (dig_ofN (s * s)) ha (by omega) (by omega)) (by simp [sl]) ?_
  rintro _ rfl
  obtain ⟨z, hz, hz0⟩ := cmp_le hs1
  rw [val_ofN, hz]
  have hz1 : ¬ 0 < z := by omega
  simp [hz1]
  refine acall_by (mul_ctr n3 n3 _ _ c3 c3 (dig_ofN (s + 1)) (dig_ofN (s + 1)) (by omega) (by omega)) (by simp [sl]) ?_
  rintro _ ⟨n5, c5, rfl⟩
  rw [val_ofN]
  have om1 := ofN_mul os1 os1
  simp
  refine acall_by (cmp_ctr n5 nl _ a c5 cap (dig_ofN ((s + 1) * (s + 1))) ha (by omega) (by omega)) (by simp [sl]) ?_
  rintro _ rfl
  rw [val_ofN, cmp_gt hs2]
  simp
  refine acall_by (check_ctr n1 (ofN s) c1 (by omega)) (by simp [sl]) ?_
  rintro _ rfl
  rw [check_ofN]
  simp
  refine acall_by (div_ctr nl nl' a b cap cap' ha hb (by omega) (by omega)) (by simp [sl]) ?_
  intro y hy
  by_cases hb0 : val b = 0
  · rw [divPost, if_pos hb0] at hy
    subst hy
    simp
    refine acall_by (len_ctr nl' b cap' hb (by omega)) (by simp [sl]) ?_
    rintro _ rfl
    rw [hb0, show bl 0 = 0 from bl_zero]
    simp
    refine acall_by live_ctr (by simp) ?_
    rintro _ rfl
    simp
    exact stop _
  · rw [divPost, if_neg hb0] at hy
    obtain ⟨n6, c6, n7, c7, rfl⟩ := hy
    have oq : (ofN (val a / val b)).length ≤ 12 := ofN_low (Nat.div_le_self _ _) oa
    have or : (ofN (val a % val b)).length ≤ 12 := ofN_low (Nat.mod_le _ _) oa
    simp
    refine acall_by (cmp_ctr n7 nl' _ b c7 cap' (dig_ofN (val a % val b)) hb (by omega) (by omega)) (by simp [sl]) ?_
    rintro _ rfl
    rw [val_ofN, cmp_lt (Nat.mod_lt _ (by omega))]
    simp
    refine acall_by (mul_ctr n6 nl' _ b c6 cap' (dig_ofN (val a / val b)) hb (by omega) (by omega)) (by simp [sl]) ?_
    rintro _ ⟨n8, c8, rfl⟩
    rw [val_ofN]
    have oqb := ofN_mul oq ob
    simp
    refine acall_by (add_ctr n8 n7 _ _ c8 c7 (dig_ofN (val a / val b * val b)) (dig_ofN (val a % val b)) (by omega) (by omega)) (by simp [sl]) ?_
    rintro _ ⟨n9, c9, rfl⟩
    rw [val_ofN, val_ofN, show val a / val b * val b + val a % val b = val a by rw [Nat.mul_comm]; exact Nat.div_add_mod _ _]
    simp
    refine acall_by (cmp_ctr n9 nl _ a c9 cap (dig_ofN (val a)) ha (by omega) (by omega)) (by simp [sl]) ?_
    rintro _ rfl
    rw [val_ofN, cmp0 rfl]
    simp
    refine acall_by (check_ctr n6 (ofN (val a / val b)) c6 (by omega)) (by simp [sl]) ?_
    rintro _ rfl
    rw [check_ofN]
    simp
    refine acall_by (check_ctr n7 (ofN (val a % val b)) c7 (by omega)) (by simp [sl]) ?_
    rintro _ rfl
    rw [check_ofN]
    simp
    refine acall_by live_ctr (by simp) ?_
    rintro _ rfl
    simp
    exact stop _

theorem rules_walk (a0 : Option Addr) (len0 cap0 : Nat) (z0 : List Int) (a1 : Option Addr) (len1 cap1 : Nat) (z1 : List Int) (a2 : Option Addr) (len2 cap2 : Nat) (z2 : List Int) (w : World) (w0 : IsRow .u32 w a0 len0 cap0 z0) (w1 : IsRow .u32 w a1 len1 cap1 z1) (w2 : IsRow .u32 w a2 len2 cap2 z2) :
    Calls Try.prog 6 #[.slice a0 len0 cap0, .slice a1 len1 cap1, .slice a2 len2 cap2] w fun e w' => e = .returned (.bool true) ∧ Below w.heap.size w w' := by
  obtain ⟨n0, l0, hd0, hr0⟩ := row_rp w0
  obtain ⟨n1, l1, hd1, hr1⟩ := row_rp w1
  obtain ⟨n2, l2, hd2, hr2⟩ := row_rp w2
  exact ctr_calls Try.func6 rfl (by kernel_rfl) (rules_ctr n0 n1 n2 l0 l1 l2 none none none hd0 hd1 hd2) (rpl_three hr0 hr1 hr2)

theorem back_walk (a0 : Option Addr) (len0 cap0 : Nat) (z0 : List Int) (a1 : Option Addr) (len1 cap1 : Nat) (z1 : List Int) (w : World) (w0 : IsRow .u32 w a0 len0 cap0 z0) (w1 : IsRow .u32 w a1 len1 cap1 z1) :
    Calls Try.prog 7 #[.slice a0 len0 cap0, .slice a1 len1 cap1] w fun e w' => e = .returned (.bool true) ∧ Below w.heap.size w w' := by
  obtain ⟨n0, l0, hd0, hr0⟩ := row_rp w0
  obtain ⟨n1, l1, hd1, hr1⟩ := row_rp w1
  exact ctr_calls Try.func7 rfl (by kernel_rfl) (back_ctr n0 n1 l0 l1 none none hd0 hd1) (rpl_two hr0 hr1)
end Go.Proofs.Nt
