/- The answers that the document gives: 'live' answers true. -/
import Derived.Test.YtmfnjmcgmogncaaVn19
set_option linter.unusedVariables false
set_option linter.unusedSimpArgs false
namespace Go.Proofs.Nt
open Go Go.Proofs Go.Proofs.Va
set_option maxRecDepth 20000

theorem lz (n : Nat) (h : n < 4294967296 ^ 4) (m : Nat) (hm : 4 ≤ m) : (ofN n).length ≤ m := Nat.le_trans ((len_ofN n 4).2 h) hm

theorem len_a : (ofN 4294967296).length = 2 := by
  rw [ofN_pos (by decide), ofN_pos (by decide), show 4294967296 / 4294967296 / 4294967296 = 0 by decide, ofN_zero]; rfl
theorem len_b : (ofN 18446744073709551616).length = 3 := by
  rw [ofN_pos (by decide), ofN_pos (by decide), ofN_pos (by decide), show 18446744073709551616 / 4294967296 / 4294967296 / 4294967296 = 0 by decide, ofN_zero]; rfl

theorem bl_d : bl 18446744073709551615 = 64 := bl_eq (by decide) (by decide)

theorem live_ctr : Ctr Try.prog 13 [] (fun r => r = bo true) := by
  refine ctr_in Try.func13 rfl (by kernel_rfl) rfl fun K hK => ?_
  simp only [Try.f13, List.append_eq, List.cons_append, List.nil_append]
  simp
  refine acall_by (from_ctr 4294967296 (by decide)) (by simp) ?_
  rintro _ ⟨n1, c1, rfl⟩
  simp
  refine acall_by (mul_ctr n1 n1 _ _ c1 c1 (dig_ofN 4294967296) (dig_ofN 4294967296) (lz _ (by decide) _ (by decide)) (lz _ (by decide) _ (by decide))) (by simp [sl]) ?_
  rintro _ ⟨n2, c2, rfl⟩
  rw [val_ofN]
  simp
  refine acall_by (from_ctr 7 (by decide)) (by simp) ?_
  rintro _ ⟨n3, c3, rfl⟩
  simp
  refine acall_by (add_ctr n2 n3 _ _ c2 c3 (dig_ofN 18446744073709551616) (dig_ofN 7) (lz _ (by decide) _ (by decide)) (lz _ (by decide) _ (by decide))) (by simp [sl]) ?_
  rintro _ ⟨n4, c4, rfl⟩
  rw [val_ofN, val_ofN]
  simp
  refine acall_by (div_ctr n4 n1 _ _ c4 c1 (dig_ofN 18446744073709551623) (dig_ofN 4294967296) (lz _ (by decide) _ (by decide)) (lz _ (by decide) _ (by decide))) (by simp [sl]) ?_
  intro y hy
  rw [divPost, val_ofN, val_ofN, if_neg (by decide)] at hy
  obtain ⟨n5, c5, n6, c6, rfl⟩ := hy
  simp
  refine acall_by (div_ctr n2 true _ [] c2 (some 0) (dig_ofN 18446744073709551616) dig_nil (lz _ (by decide) _ (by decide)) (by simp)) (by simp [sl]) ?_
  intro y hy
  rw [divPost, if_pos (by rfl)] at hy
  subst hy
  simp
  refine acall_by (shr_ctr n2 _ c2 63 (dig_ofN 18446744073709551616) (lz _ (by decide) _ (by decide))) (by simp [sl]) ?_
  intro y hy
  rw [shrPost, val_ofN, if_neg (by decide)] at hy
  obtain ⟨n7, c7, rfl⟩ := hy
  simp
  refine acall_by (from_ctr 3 (by decide)) (by simp) ?_
  rintro _ ⟨n8, c8, rfl⟩
  simp
  refine acall_by (shr_ctr n8 _ c8 1 (dig_ofN 3) (lz _ (by decide) _ (by decide))) (by simp [sl]) ?_
  intro y hy
  rw [shrPost, val_ofN, if_neg (by decide)] at hy
  obtain ⟨n9, c9, rfl⟩ := hy
  simp
  refine acall_by (from_ctr 1 (by decide)) (by simp) ?_
  rintro _ ⟨n10, c10, rfl⟩
  simp
  refine acall_by (sub_ctr n2 n10 _ _ c2 c10 (dig_ofN 18446744073709551616) (dig_ofN 1) (lz _ (by decide) _ (by decide)) (lz _ (by decide) _ (by decide))) (by simp [sl]) ?_
  intro y hy
  rw [subPost, val_ofN, val_ofN, if_neg (by decide)] at hy
  obtain ⟨n11, c11, rfl⟩ := hy
  simp
  refine acall_by (from_ctr 1 (by decide)) (by simp) ?_
  rintro _ ⟨n12, c12, rfl⟩
  simp
  refine acall_by (sub_ctr n12 n2 _ _ c12 c2 (dig_ofN 1) (dig_ofN 18446744073709551616) (lz _ (by decide) _ (by decide)) (lz _ (by decide) _ (by decide))) (by simp [sl]) ?_
  intro y hy
  rw [subPost, val_ofN, val_ofN, if_pos (by decide)] at hy
  subst hy
  simp
  refine acall_by (low_ctr n1 _ c1 (dig_ofN 4294967296) (lz _ (by decide) _ (by decide))) (by simp [sl]) ?_
  intro y hy
  rw [lowPost, val_ofN, if_pos (by decide)] at hy
  subst hy
  simp
  refine acall_by (low_ctr n2 _ c2 (dig_ofN 18446744073709551616) (lz _ (by decide) _ (by decide))) (by simp [sl]) ?_
  intro y hy
  rw [lowPost, val_ofN, if_neg (by decide)] at hy
  subst hy
  have hlen : ∀ k l c σ (K : AV → AHeap → Prop), aLen Try.prog 23 (sl k l c) σ K = K (i l.length) σ := fun k l c σ K => by simp [sl]
  simp [hlen, len_a, len_b]
  refine acall_by (cmp_ctr n5 n1 _ _ c5 c1 (dig_ofN 4294967296) (dig_ofN 4294967296) (lz _ (by decide) _ (by decide)) (lz _ (by decide) _ (by decide))) (by simp [sl]) ?_
  rintro _ rfl
  rw [cmp3_nat, if_neg (by omega), if_neg (by omega)]
  simp
  refine acall_by (from_ctr 7 (by decide)) (by simp) ?_
  rintro _ ⟨n13, c13, rfl⟩
  simp
  refine acall_by (cmp_ctr n6 n13 _ _ c6 c13 (dig_ofN 7) (dig_ofN 7) (lz _ (by decide) _ (by decide)) (lz _ (by decide) _ (by decide))) (by simp [sl]) ?_
  rintro _ rfl
  rw [cmp3_nat, if_neg (by omega), if_neg (by omega)]
  simp
  refine acall_by (from_ctr 2 (by decide)) (by simp) ?_
  rintro _ ⟨n14, c14, rfl⟩
  simp
  refine acall_by (cmp_ctr n7 n14 _ _ c7 c14 (dig_ofN 2) (dig_ofN 2) (lz _ (by decide) _ (by decide)) (lz _ (by decide) _ (by decide))) (by simp [sl]) ?_
  rintro _ rfl
  rw [cmp3_nat, if_neg (by omega), if_neg (by omega)]
  simp
  refine acall_by (len_ctr n11 _ c11 (dig_ofN 18446744073709551615) (lz _ (by decide) _ (by decide))) (by simp [sl]) ?_
  rintro _ rfl
  rw [val_ofN, bl_d]
  simp
  refine acall_by (root_ctr n2 _ c2 (dig_ofN 18446744073709551616) (lz _ (by decide) _ (by decide))) (by simp [sl]) ?_
  rintro _ ⟨s, hs, n15, c15, rfl⟩
  rw [val_ofN] at hs
  obtain rfl := hs.unique (s := 4294967296) ⟨by decide, by decide⟩
  simp
  refine acall_by (cmp_ctr n15 n1 _ _ c15 c1 (dig_ofN 4294967296) (dig_ofN 4294967296) (lz _ (by decide) _ (by decide)) (lz _ (by decide) _ (by decide))) (by simp [sl]) ?_
  rintro _ rfl
  rw [cmp3_nat, if_neg (by omega), if_neg (by omega)]
  simp
  refine acall_by (len_ctr true [] (some 0) dig_nil (by decide)) (by simp [sl]) ?_
  rintro _ rfl
  rw [show bl (val []) = 0 from bl_zero]
  simp
  refine acall_by (check_ctr n1 (ofN 4294967296) c1 (lz _ (by decide) _ (by decide))) (by simp [sl]) ?_
  rintro _ rfl
  rw [show (trimL (ofN 4294967296) == ofN 4294967296) = true by simp [trim_ofN (dig_ofN 4294967296), val_ofN]]
  simp
  refine acall_froze [0] (args' := [sl false [0] (some 1)]) (check_ctr false [0] (some 1) (by decide)) rfl (fun j hj => ?_) (fun r hr => ?_)
  · have : j = 0 := by simp at hj; omega
    subst this
    exact isSl_so (j := 0) (off := 0) (a := [0]) (b := ⟨.own, 0, [dg 0]⟩) (by simp) (fun h => by cases h) rfl (by simp) (fun m hm => by simp at hm; subst hm; simp) rfl (by simp)
  subst hr
  rw [show (trimL [0] == [0]) = false by decide]
  simp
  refine acall_by (from_ctr 1 (by decide)) (by simp) ?_
  rintro _ ⟨n16, c16, rfl⟩
  simp
  refine acall_by (shl_ctr n16 _ c16 64 (dig_ofN 1) (lz _ (by decide) _ (by decide))) (by simp [sl]) ?_
  rw [val_ofN, show shlN 1 64 = ofN 18446744073709551616 by rw [shlN]; simp]
  rintro _ ⟨n17, c17, rfl⟩
  simp
  refine acall_by (cmp_ctr n17 n2 _ _ c17 c2 (dig_ofN 18446744073709551616) (dig_ofN 18446744073709551616) (lz _ (by decide) _ (by decide)) (lz _ (by decide) _ (by decide))) (by simp [sl]) ?_
  rintro _ rfl
  rw [cmp3_nat, if_neg (by omega), if_neg (by omega)]
  simp
  exact hK _ _ _ (.same _ (by simp)) rfl
end Go.Proofs.Nt
