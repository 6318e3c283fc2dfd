import Derived.Test.YtadmmamhhphkoaaGreatWa
import Derived.Test.YtadmmamhhphkoaaGreatWb
import Derived.Test.YtadmmamhhphkoaaGreatWc
import Derived.Test.YtadmmamhhphkoaaGreatWd
import Derived.Test.YtadmmamhhphkoaaGreatWe
import Derived.Test.YtadmmamhhphkoaaGreatWf
import Derived.Test.YtadmmamhhphkoaaGreatWg
/- Round: Within of any dyad; the document's powers of two and multiples. -/
set_option linter.unusedVariables false
set_option maxRecDepth 20000
set_option linter.unusedSimpArgs false
set_option linter.unnecessarySimpa false
namespace Go.Proofs.Nt
open Go Go.Proofs Go.Proofs.Va Go.RowKit

theorem absX_may {neg : Bool} {a : List Nat} {e : Int} : absX (mayD neg a e) = absD neg a e := by
  unfold absX absD
  rw [may_of_ok (may_ok neg a e)]
section
variable {d d' : Dy} {n n' : Bool} {c c' : Option Nat}
theorem rabsC (o : dOK d) (l : d.2.1.length ≤ 3000) : Ctr Tryz.prog 64 [dy d.1 n d.2.1 c d.2.2] (dTold (absX d)) := rabs_ctr d.1 n d.2.1 c d.2.2 o.2 l
theorem rsubX (o : dOK d) (l : d.2.1.length ≤ 1000) (o' : dOK d') (l' : d'.2.1.length ≤ 1000) : Ctr Tryz.prog 65 [dy d.1 n d.2.1 c d.2.2, dy d'.1 n' d'.2.1 c' d'.2.2] (dTold (addD d (oppD d'))) := by
  have h := rsub3_ctr d.1 n d'.1 n' d.2.1 d'.2.1 c c' d.2.2 d'.2.2 o.2 o'.2 l l'
  rwa [may_of_ok o.1] at h
theorem rcmpX (o : dOK d) (l : d.2.1.length ≤ 1000) (o' : dOK d') (l' : d'.2.1.length ≤ 1000) : Ctr Tryz.prog 26 [dy d.1 n d.2.1 c d.2.2, dy d'.1 n' d'.2.1 c' d'.2.2] (fun r => r = i (cmpD d d')) := by
  have h := rcmp3_ctr d.1 n d'.1 n' d.2.1 d'.2.1 c c' d.2.2 d'.2.2 o.2 o'.2 l l'
  rwa [may_of_ok o.1, may_of_ok o'.1] at h
theorem rcheckX (o : dOK d) (l : d.2.1.length ≤ 1000) : Ctr Tryz.prog 22 [dy d.1 n d.2.1 c d.2.2] (fun r => r = bo true) := by
  have h := rdcheck_ctr d.1 n d.2.1 c d.2.2 o.2 (by omega)
  rwa [o.1] at h
end

theorem withinG_ctr {b : Nat} (neg nl : Bool) (a : List Nat) (cap : Option Nat) (e : Int) (k : Int) (hbb : b < 18446744073709551616) (ha : Dig a) (hl : a.length ≤ 900) (bD : Bd (-9000) 9000 (mayD neg a e)) :
    Ctr Tryz.prog 33 [fl b, dy neg nl a cap e, i k] (fun r => r = bo (withinB b (mayD neg a e) k)) := by
  obtain ⟨D, hD⟩ : ∃ D, D = mayD neg a e := ⟨_, rfl⟩
  have oD : dOK D := hD ▸ ok_may ha
  rw [← hD] at bD ⊢
  refine ctr_in Tryz.func33 rfl (by kernel_rfl) rfl fun K hK => ?_
  simp only [Tryz.f33, List.append_eq, List.cons_append, List.nil_append]
  have lD : D.2.1.length ≤ 600 := bd_len oD bD (by omega)
  have cF := from3_ctr hbb
  rw [fTold_eq] at cF
  simp [cells_dy, cells_sl, -cellsOf]
  refine acall_by cF (by simp) ?_
  rintro _ ⟨n1, c1, rfl⟩
  have hw : withinB b D k = (fin b && decide (0 ≤ k) && decide (k ≤ 1000000) && nearB b D k) := rfl
  by_cases h1 : fin b = true
  case neg =>
    have h1' : fin b = false := by simpa using h1
    rw [h1']
    simp [cells_dy, cells_sl, cells_ag, cells_ag0, wr, -cellsOf]
    exact hK _ _ _ (.same _ (by simp)) (by rw [hw, h1']; rfl)
  by_cases h2 : k < 0
  · rw [h1]
    simp [cells_dy, cells_sl, cells_ag, cells_ag0, wr, h2, -cellsOf]
    exact hK _ _ _ (.same _ (by simp)) (by rw [hw]; simp; omega)
  by_cases h3 : 1000000 < k
  · rw [h1]
    simp [cells_dy, cells_sl, cells_ag, cells_ag0, wr, h2, h3, -cellsOf]
    exact hK _ _ _ (.same _ (by simp)) (by rw [hw]; simp; omega)
  have hwi := within_iv (k := k) h1 oD bD (by omega)
  rw [h1]
  have hkw : IntKind.u64.wrap k = (k.toNat : Int) := by rw [IntWalk.u64_in _ (by omega)]; omega
  simp [cells_dy, cells_sl, cells_ag, cells_ag0, wr, h2, h3, hkw, -cellsOf, -Int.ofNat_toNat]
  have bk : bl k.toNat ≤ 60 := bl_le (Nat.lt_of_le_of_lt (show k.toNat ≤ 1000000 by omega) (by decide))
  have b1 := bd_num (n := k.toNat) (e := -53) bk
  have b2 := bd_num (n := 1) (e := -1075) (by decide)
  have bm := bd_mul b1 (bd_absX bD)
  have o1 := ok_norm false k.toNat (-53)
  have o2 := ok_norm false 1 (-1075)
  have om := ok_mul (normD false k.toNat (-53)) (absX D)
  have bA := bd_add om o2 (bm.mono (L' := -9100) (H' := 9100) (by omega) (by omega)) (b2.mono (L' := -9100) (H' := 9100) (by omega) (by omega)) (by omega)
  have oA := ok_add (mulD (normD false k.toNat (-53)) (absX D)) (normD false 1 (-1075))
  have bf := (from_bd b).mono (L' := -9000) (H' := 9000) (by omega) (by omega)
  have of' := ok_from b
  have bS := bd_add of' (ok_opp D) bf (bd_opp bD) (by omega)
  have oS := ok_add (fromD b) (oppD D)
  have lF := bd_len of' (from_bd b) (k := 600) (by omega)
  have l1 := bd_len o1 b1 (k := 600) (by omega)
  have l2 := bd_len o2 b2 (k := 600) (by omega)
  have lM := bd_len om bm (k := 600) (by omega)
  have lA := bd_len oA bA (k := 600) (by omega)
  have lS := bd_len oS bS (k := 600) (by omega)
  have oaD := ok_absX D
  have laD := bd_len oaD (bd_absX bD) (k := 600) (by omega)
  have oaS := ok_absX (addD (fromD b) (oppD D))
  have laS := bd_len oaS (bd_absX bS) (k := 600) (by omega)
  have lk : (ofN k.toNat).length ≤ 2 := ofN_u64 (by omega)
  have lo : (ofN 1).length ≤ 2 := ofN_u64 (by decide)
  have c1 := fun n c => norm_ctr false n (ofN k.toNat) c (-53) (dig_ofN _) (by omega)
  have c2 := fun n c => norm_ctr false n (ofN 1) c (-1075) (dig_ofN _) (by omega)
  rw [val_ofN] at c1 c2
  have c3 := abs_ctr neg nl a cap e ha (by omega)
  rw [← absX_may, ← hD] at c3
  have c4 := fun n c n' c' => mulX (n := n) (c := c) (n' := n') (c' := c') o1 (by omega) oaD (by omega)
  have c5 := fun n c n' c' => addX (n := n) (c := c) (n' := n') (c' := c') om (by omega) o2 (by omega)
  have c6 := fun n c => sub3_ctr (fromD b).1 n neg nl (fromD b).2.1 a c cap (fromD b).2.2 e of'.2 ha (by omega) (by omega)
  rw [may_of_ok of'.1, ← opp_may, ← hD] at c6
  have c7 := fun n c => absC (n := n) (c := c) oS (by omega)
  have c8 := fun n c n' c' => cmpX (n := n) (c := c) (n' := n') (c' := c') oaS (by omega) oA (by omega)
  rw [hw, h1, decide_eq_true (show 0 ≤ k by omega), decide_eq_true (show k ≤ 1000000 by omega), Bool.true_and, Bool.true_and, Bool.true_and, ← hwi] at hK
  clear hwi hw b1 b2 bm o1 o2 om bA oA bf of' bS oS lF l1 l2 lM lA lS oaD laD oaS laS lk lo
  generalize sgnD (addD (absX (addD (fromD b) (oppD D))) (oppD (addD (mulD (normD false k.toNat (-53)) (absX D)) (normD false 1 (-1075))))) = cm at *
  generalize absX (addD (fromD b) (oppD D)) = dS at *
  generalize addD (fromD b) (oppD D) = dS0 at *
  generalize addD (mulD (normD false k.toNat (-53)) (absX D)) (normD false 1 (-1075)) = dA at *
  generalize mulD (normD false k.toNat (-53)) (absX D) = dM at *
  generalize normD false k.toNat (-53) = d1 at *
  generalize normD false 1 (-1075) = d2 at *
  generalize absX D = daD at *
  generalize fromD b = dF at *
  refine acall_by (from_ctr k.toNat (by omega)) (by simp) ?_
  rintro _ ⟨n2, c22, rfl⟩
  simp [cells_dy, cells_sl, cells_ag, cells_ag0, wr, -cellsOf]
  refine acall_by (c1 n2 c22) (by simp [sl]) ?_
  rintro _ ⟨n3, c33, rfl⟩
  simp [cells_dy, cells_sl, cells_ag, cells_ag0, wr, -cellsOf]
  refine draw_at [1, 1, 5, 5, 5, 5, 5, 2, 4] orders (by kernel_rfl) ?_
  simp [cells_dy, cells_sl, cells_ag, cells_ag0, wr, -cellsOf]
  refine actr_by c3 (by simp [dy]) ⟨_, told_ex daD⟩ ?_
  rintro _ ⟨n4, c44, rfl⟩
  simp [cells_dy, cells_sl, cells_ag, cells_ag0, wr, -cellsOf]
  refine actr_by (c4 n3 c33 n4 c44) (by simp [dy]) ⟨_, told_ex dM⟩ ?_
  rintro _ ⟨n5, c55, rfl⟩
  simp [cells_dy, cells_sl, cells_ag, cells_ag0, wr, -cellsOf]
  refine actr_by (from_ctr 1 (by decide)) (by simp) ⟨_, toldN_ex (ofN 1)⟩ ?_
  rintro _ ⟨n6, c66, rfl⟩
  simp [cells_dy, cells_sl, cells_ag, cells_ag0, wr, -cellsOf]
  refine actr_by (c2 n6 c66) (by simp [sl]) ⟨_, told_ex d2⟩ ?_
  rintro _ ⟨n7, c77, rfl⟩
  simp [cells_dy, cells_sl, cells_ag, cells_ag0, wr, -cellsOf]
  refine actr_by (c5 n5 c55 n7 c77) (by simp [dy]) ⟨_, told_ex dA⟩ ?_
  rintro _ ⟨n8, c88, rfl⟩
  simp [cells_dy, cells_sl, cells_ag, cells_ag0, wr, -cellsOf]
  refine ⟨same_pre (by simp) (by simp) rfl, ?_⟩
  simp [cells_dy, cells_sl, cells_ag, cells_ag0, wr, -cellsOf]
  refine draw_at [1, 1, 3, 3, 1, 3, 0, 0] orders (by kernel_rfl) ?_
  simp [cells_dy, cells_sl, cells_ag, cells_ag0, wr, -cellsOf]
  refine acall_by (c6 n1 _) (by simp [dy]) ?_
  rintro _ ⟨n9, c99, rfl⟩
  simp [cells_dy, cells_sl, cells_ag, cells_ag0, wr, -cellsOf]
  refine acall_by (c7 n9 c99) (by simp [dy]) ?_
  rintro _ ⟨n10, c10, rfl⟩
  simp [cells_dy, cells_sl, cells_ag, cells_ag0, wr, -cellsOf]
  refine acall_by (c8 n10 c10 n8 c88) (by simp [dy]) ?_
  rintro _ rfl
  simp [cells_dy, cells_sl, cells_ag, cells_ag0, wr, -cellsOf]
  exact hK _ _ _ (.same _ (by simp)) rfl
end Go.Proofs.Nt
/- The document's powers of two, multiples, Within; the law RoundTells as a contract. -/
set_option linter.unusedVariables false
set_option maxRecDepth 20000
set_option linter.unusedSimpArgs false
set_option linter.unnecessarySimpa false
namespace Go.Proofs.Nt
open Go Go.Proofs Go.Proofs.Va Go.RowKit

def powD (k : Int) : Dy := normD false 1 k
theorem ok_pow (k : Int) : dOK (powD k) := ok_norm _ _ _
theorem bd_pow (k : Int) : Bd k (k + 60) (powD k) := bd_num (by decide)
def timesD (d : Dy) (k : Int) : Dy := mulD d (normD false k.toNat 0)
theorem ok_times (d : Dy) (k : Int) : dOK (timesD d k) := ok_mul _ _

theorem rpow_ctr (k : Int) : Ctr Tryz.prog 25 [i k] (dTold (powD k)) := by
  refine ctr_in Tryz.func25 rfl (by kernel_rfl) rfl fun K hK => ?_
  simp only [Tryz.f25, List.append_eq, List.cons_append, List.nil_append]
  have lo : (ofN 1).length ≤ 2 := ofN_u64 (by decide)
  have c2 := fun n c => rnorm_ctr false n (ofN 1) c k (dig_ofN _) (by omega)
  rw [val_ofN] at c2
  change ∀ n c, Ctr _ _ _ (dTold (powD k)) at c2
  generalize powD k = d at *
  simp [cells_dy, cells_sl, cells_ag, cells_ag0, wr, -cellsOf]
  refine acall_by (rfrom_ctr 1 (by decide)) (by simp) ?_
  rintro _ ⟨n1, c1, rfl⟩
  simp [cells_dy, cells_sl, cells_ag, cells_ag0, wr, -cellsOf]
  refine acall_by (c2 n1 c1) (by simp [sl]) ?_
  rintro _ ⟨n3, c3, rfl⟩
  simp [cells_dy, cells_sl, cells_ag, cells_ag0, wr, -cellsOf]
  exact hK _ _ _ (.same _ (by simp)) ⟨_, _, rfl⟩

theorem bl_i63 {k : Int} (h : k < 9223372036854775808) : bl k.toNat ≤ 63 := bl_le (Nat.lt_of_lt_of_le (show k.toNat < 9223372036854775808 by omega) (by decide))
theorem times_len (k : Int) (h : k < 9223372036854775808) : (normD false k.toNat 0).2.1.length ≤ 900 := by
  have : (ofN k.toNat).length ≤ 2 := ofN_u64 (by omega)
  exact norm_len (by omega)
theorem rtimes_ctr (neg nl : Bool) (a : List Nat) (cap : Option Nat) (e k : Int) (ha : Dig a) (hl : a.length ≤ 900) (hk : k < 9223372036854775808) :
    Ctr Tryz.prog 27 [dy neg nl a cap e, i k] (dTold (timesD (mayD neg a e) k)) := by
  refine ctr_in Tryz.func27 rfl (by kernel_rfl) rfl fun K hK => ?_
  simp only [Tryz.f27, List.append_eq, List.cons_append, List.nil_append]
  have lo : (ofN k.toNat).length ≤ 2 := ofN_u64 (by omega)
  have c2 := fun n c => rnorm_ctr false n (ofN k.toNat) c 0 (dig_ofN _) (by omega)
  rw [val_ofN] at c2
  have o1 := ok_norm false k.toNat 0
  have l1 := times_len k hk
  have c3 := fun n c => rmul3_ctr neg nl (normD false k.toNat 0).1 n a (normD false k.toNat 0).2.1 cap c e (normD false k.toNat 0).2.2 ha o1.2 (by omega) (by omega)
  rw [may_of_ok o1.1] at c3
  change ∀ n c, Ctr _ _ _ (dTold (timesD (mayD neg a e) k)) at c3
  generalize timesD (mayD neg a e) k = r at *
  generalize normD false k.toNat 0 = d1 at *
  have hm : (if k > 0 then k else 0) = (k.toNat : Int) := by split <;> omega
  have hkw : IntKind.u64.wrap (k.toNat : Int) = (k.toNat : Int) := IntWalk.u64_in _ (by omega)
  simp [cells_dy, cells_sl, cells_ag, cells_ag0, wr, hm, hkw, -cellsOf, -Int.ofNat_toNat]
  refine draw_at [1, 0, 3, 0, 3, 3, 3, 4] orders (by kernel_rfl) ?_
  simp [cells_dy, cells_sl, cells_ag, cells_ag0, wr, hm, hkw, -cellsOf, -Int.ofNat_toNat]
  refine acall_by (rfrom_ctr k.toNat (by omega)) (by simp) ?_
  rintro _ ⟨n1, c1, rfl⟩
  simp [cells_dy, cells_sl, cells_ag, cells_ag0, wr, -cellsOf]
  refine acall_by (c2 n1 c1) (by simp [sl]) ?_
  rintro _ ⟨n3, c33, rfl⟩
  simp [cells_dy, cells_sl, cells_ag, cells_ag0, wr, -cellsOf]
  refine acall_by (c3 n3 c33) (by simp [dy]) ?_
  rintro _ ⟨n4, c4, rfl⟩
  simp [cells_dy, cells_sl, cells_ag, cells_ag0, wr, -cellsOf]
  exact hK _ _ _ (.same _ (by simp)) ⟨_, _, rfl⟩

theorem norm_exp {L : Int} (g : Bool) (n : Nat) {e : Int} (h : L ≤ e) (h0 : L ≤ 0) : L ≤ (normD g n e).2.2 := by
  unfold normD
  split
  · exact h0
  · show L ≤ e + _; omega

/-- The document's Within comes to the same. -/
theorem rwithin_iv {d : Dy} {k : Int} (o : dOK d) (hb : Bd (-9000) 9000 d) (hk : 0 ≤ k ∧ k ≤ 1000000) :
    mulD (timesD (absX d) k) (powD (-53)) = mulD (normD false k.toNat (-53)) (absX d) := by
  have bk : bl k.toNat ≤ 60 := bl_le (Nat.lt_of_le_of_lt (show k.toNat ≤ 1000000 by omega) (by decide))
  have b1 := bd_num (n := k.toNat) (e := -53) bk
  have b0 := bd_num (n := k.toNat) (e := 0) bk
  have ba := bd_absX hb
  have bt : Bd (-9000) 9060 (timesD (absX d) k) := (bd_mul ba b0).mono (by omega) (by omega)
  have oa := ok_absX d
  have xa := ok_exp oa.1
  have hn1 : -53 ≤ (normD false k.toNat (-53)).2.2 := norm_exp _ _ (by omega) (by omega)
  have hn0 : 0 ≤ (normD false k.toNat 0).2.2 := norm_exp _ _ (by omega) (by omega)
  have hnp : -53 ≤ (powD (-53)).2.2 := norm_exp _ _ (by omega) (by omega)
  have ht : -20000 ≤ (timesD (absX d) k).2.2 := (ok_exp (ok_times _ _).1).1
  refine iv_inj (ok_mul _ _) (ok_mul _ _) (M := -20053) (by omega) ?_
  have e0 : (-20053 : Int) = -20000 + -53 := by omega
  have e1 : (-20053 : Int) = -53 + -20000 := by omega
  have e2 : (-20000 : Int) = -20000 + 0 := by omega
  rw [show iv (mulD (normD false k.toNat (-53)) (absX d)) (-20053) = (k.toNat : Int) * iv (absX d) (-20000) by
    rw [e1, iv_mul b1 ba (by omega) (by omega) hn1 (by omega), iv_norm (by omega) (.inr (by omega)), up_self, sg_f]]
  rw [e0, iv_mul bt (bd_pow _) (by omega) (by omega) ht hnp]
  unfold timesD powD
  rw [e2, iv_mul ba b0 (by omega) (by omega) (by omega) hn0, iv_norm (g := false) (n := k.toNat) (by omega) (.inr (by omega)), up_self, sg_f,
    iv_norm (g := false) (n := 1) (by omega) (.inr (by have : bl 1 ≤ 1 := bl_le (by decide); omega)), up_self, sg_f, Int.add_zero, Int.mul_comm]
  rw [Int.natCast_one, Int.one_mul, Int.mul_comm]

theorem rwithin_ctr {b : Nat} (neg nl : Bool) (a : List Nat) (cap : Option Nat) (e : Int) (k : Int) (hbb : b < 18446744073709551616) (ha : Dig a) (hl : a.length ≤ 900) (bD : Bd (-9000) 9000 (mayD neg a e)) :
    Ctr Tryz.prog 34 [fl b, dy neg nl a cap e, i k] (fun r => r = bo (withinB b (mayD neg a e) k)) := by
  obtain ⟨D, hD⟩ : ∃ D, D = mayD neg a e := ⟨_, rfl⟩
  have oD : dOK D := hD ▸ ok_may ha
  rw [← hD] at bD ⊢
  refine ctr_in Tryz.func34 rfl (by kernel_rfl) rfl fun K hK => ?_
  simp only [Tryz.f34, List.append_eq, List.cons_append, List.nil_append]
  have lD : D.2.1.length ≤ 600 := bd_len oD bD (by omega)
  have cF := rfrom3_ctr hbb
  rw [fTold_eq] at cF
  simp [cells_dy, cells_sl, -cellsOf]
  refine acall_by cF (by simp) ?_
  rintro _ ⟨n1, c1, rfl⟩
  have hw : withinB b D k = (fin b && decide (0 ≤ k) && decide (k ≤ 1000000) && nearB b D k) := rfl
  by_cases h1 : fin b = true
  case neg =>
    have h1' : fin b = false := by simpa using h1
    rw [h1']
    simp [cells_dy, cells_sl, cells_ag, cells_ag0, wr, -cellsOf]
    exact hK _ _ _ (.same _ (by simp)) (by rw [hw, h1']; rfl)
  by_cases h2 : k < 0
  · rw [h1]
    simp [cells_dy, cells_sl, cells_ag, cells_ag0, wr, h2, -cellsOf]
    exact hK _ _ _ (.same _ (by simp)) (by rw [hw]; simp; omega)
  by_cases h3 : 1000000 < k
  · rw [h1]
    simp [cells_dy, cells_sl, cells_ag, cells_ag0, wr, h2, h3, -cellsOf]
    exact hK _ _ _ (.same _ (by simp)) (by rw [hw]; simp; omega)
  have hwi := within_iv (k := k) h1 oD bD (by omega)
  rw [h1]
  simp [cells_dy, cells_sl, cells_ag, cells_ag0, wr, h2, h3, -cellsOf]
  have bk : bl k.toNat ≤ 60 := bl_le (Nat.lt_of_le_of_lt (show k.toNat ≤ 1000000 by omega) (by decide))
  have b1 := bd_num (n := k.toNat) (e := -53) bk
  have b0 := bd_num (n := k.toNat) (e := 0) bk
  have b2 := bd_num (n := 1) (e := -1075) (by decide)
  have bm := bd_mul b1 (bd_absX bD)
  have o1 := ok_norm false k.toNat (-53)
  have o2 := ok_norm false 1 (-1075)
  have om := ok_mul (normD false k.toNat (-53)) (absX D)
  have bA := bd_add om o2 (bm.mono (L' := -9100) (H' := 9100) (by omega) (by omega)) (b2.mono (L' := -9100) (H' := 9100) (by omega) (by omega)) (by omega)
  have oA := ok_add (mulD (normD false k.toNat (-53)) (absX D)) (normD false 1 (-1075))
  have bf := (from_bd b).mono (L' := -9000) (H' := 9000) (by omega) (by omega)
  have of' := ok_from b
  have bS := bd_add of' (ok_opp D) bf (bd_opp bD) (by omega)
  have oS := ok_add (fromD b) (oppD D)
  have lF := bd_len of' (from_bd b) (k := 600) (by omega)
  have l2 := bd_len o2 b2 (k := 600) (by omega)
  have lM := bd_len om bm (k := 600) (by omega)
  have lA := bd_len oA bA (k := 600) (by omega)
  have lS := bd_len oS bS (k := 600) (by omega)
  have oaD := ok_absX D
  have laD := bd_len oaD (bd_absX bD) (k := 600) (by omega)
  have oaS := ok_absX (addD (fromD b) (oppD D))
  have laS := bd_len oaS (bd_absX bS) (k := 600) (by omega)
  have ot := ok_times (absX D) k
  have bt : Bd (-9000) 9060 (timesD (absX D) k) := (bd_mul (bd_absX bD) b0).mono (by omega) (by omega)
  have lt := bd_len ot bt (k := 600) (by omega)
  have op := ok_pow (-53)
  have lp := bd_len op (bd_pow (-53)) (k := 600) (by omega)
  have c3 := rabs_ctr neg nl a cap e ha (by omega)
  rw [← absX_may, ← hD] at c3
  have c4 := fun n c => rtimes_ctr (absX D).1 n (absX D).2.1 c (absX D).2.2 k oaD.2 (by omega) (by omega)
  rw [may_of_ok oaD.1] at c4
  have c5 := fun n c n' c' => rmulX (n := n) (c := c) (n' := n') (c' := c') ot (by omega) op (by omega)
  rw [rwithin_iv oD bD (by omega)] at c5
  have c6 := fun n c n' c' => raddX (n := n) (c := c) (n' := n') (c' := c') om (by omega) (ok_pow (-1075)) (by exact Nat.le_trans l2 (by omega))
  have c7 := fun n c => rsub3_ctr (fromD b).1 n neg nl (fromD b).2.1 a c cap (fromD b).2.2 e of'.2 ha (by omega) (by omega)
  rw [may_of_ok of'.1, ← opp_may, ← hD] at c7
  have c8 := fun n c => rabsC (n := n) (c := c) oS (by omega)
  have c9 := fun n c n' c' => rcmpX (n := n) (c := c) (n' := n') (c' := c') oaS (by omega) oA (by omega)
  rw [← cmp_agree oaS oA ((bd_absX bS).mono (L' := -9100) (H' := 9101) (by omega) (by omega)) (bA.mono (by omega) (by omega)) (by omega) (by omega) (by omega)] at c9
  rw [hw, h1, decide_eq_true (show 0 ≤ k by omega), decide_eq_true (show k ≤ 1000000 by omega), Bool.true_and, Bool.true_and, Bool.true_and, ← hwi] at hK
  change ∀ n c n' c', Ctr _ _ _ (dTold (addD (mulD (normD false k.toNat (-53)) (absX D)) (normD false 1 (-1075)))) at c6
  clear hwi hw b1 b2 bm o1 o2 om bA oA bf of' bS oS lF l2 lM lA lS oaD laD oaS laS ot bt lt op lp b0
  generalize sgnD (addD (absX (addD (fromD b) (oppD D))) (oppD (addD (mulD (normD false k.toNat (-53)) (absX D)) (normD false 1 (-1075))))) = cm at *
  generalize absX (addD (fromD b) (oppD D)) = dS at *
  generalize addD (fromD b) (oppD D) = dS0 at *
  generalize addD (mulD (normD false k.toNat (-53)) (absX D)) (normD false 1 (-1075)) = dA at *
  generalize mulD (normD false k.toNat (-53)) (absX D) = dM at *
  generalize timesD (absX D) k = dT at *
  have cp1 := rpow_ctr (-53)
  have cp2 := rpow_ctr (-1075)
  generalize powD (-53) = d1 at *
  generalize powD (-1075) = d2 at *
  generalize absX D = daD at *
  generalize fromD b = dF at *
  refine acall_by c3 (by simp [dy]) ?_
  rintro _ ⟨n2, c22, rfl⟩
  simp [cells_dy, cells_sl, cells_ag, cells_ag0, wr, -cellsOf]
  refine acall_by (c4 n2 c22) (by simp [dy]) ?_
  rintro _ ⟨n3, c33, rfl⟩
  simp [cells_dy, cells_sl, cells_ag, cells_ag0, wr, -cellsOf]
  refine acall_by cp1 (by simp) ?_
  rintro _ ⟨n4, c44, rfl⟩
  simp [cells_dy, cells_sl, cells_ag, cells_ag0, wr, -cellsOf]
  refine acall_by (c5 n3 c33 n4 c44) (by simp [dy]) ?_
  rintro _ ⟨n5, c55, rfl⟩
  simp [cells_dy, cells_sl, cells_ag, cells_ag0, wr, -cellsOf]
  refine acall_by cp2 (by simp) ?_
  rintro _ ⟨n6, c66, rfl⟩
  simp [cells_dy, cells_sl, cells_ag, cells_ag0, wr, -cellsOf]
  refine acall_by (c6 n5 c55 n6 c66) (by simp [dy]) ?_
  rintro _ ⟨n7, c77, rfl⟩
  simp [cells_dy, cells_sl, cells_ag, cells_ag0, wr, -cellsOf]
  refine draw_at [1, 1, 3, 3, 1, 3, 0, 0] orders (by kernel_rfl) ?_
  simp [cells_dy, cells_sl, cells_ag, cells_ag0, wr, -cellsOf]
  refine acall_by (c7 n1 _) (by simp [dy]) ?_
  rintro _ ⟨n9, c99, rfl⟩
  simp [cells_dy, cells_sl, cells_ag, cells_ag0, wr, -cellsOf]
  refine acall_by (c8 n9 c99) (by simp [dy]) ?_
  rintro _ ⟨n10, c10, rfl⟩
  simp [cells_dy, cells_sl, cells_ag, cells_ag0, wr, -cellsOf]
  refine acall_by (c9 n10 c10 n7 c77) (by simp [dy]) ?_
  rintro _ rfl
  simp [cells_dy, cells_sl, cells_ag, cells_ag0, wr, -cellsOf]
  exact hK _ _ _ (.same _ (by simp)) rfl

theorem otells_ctr (A : Dy) (nl : Bool) (cap : Option Nat) (x : Nat) (k : Int) (ha : Dig A.2.1) (hx : x < 18446744073709551616) :
    Ctr Tryz.prog 9 [dy A.1 nl A.2.1 cap A.2.2, fl x, i k] (fun r => r = bo true) := by
  refine ctr_in Tryz.func9 rfl (by kernel_rfl) rfl fun K hK => ?_
  have live : ∀ {σ : AHeap} {K' : AV → AHeap → Prop}, (K' (bo true) σ) → ACall Tryz.prog 29 [] σ K' := fun h => acall_by olive_ctr (by simp) (by rintro _ rfl; exact h)
  have s1 := small_ctr A.1 nl A.2.1 cap A.2.2
  obtain ⟨q1, hq1⟩ : ∃ q, q = (decide (A.2.1.length ≤ 40) && decide (-4000 ≤ A.2.2) && decide (A.2.2 ≤ 4000)) := ⟨_, rfl⟩
  rw [← hq1] at s1
  simp only [Tryz.f9, List.append_eq, List.cons_append, List.nil_append]
  simp [cells_dy, cells_sl, cells_ag, cells_ag0, wr, -cellsOf]
  refine acall_by s1 (by simp [dy]) ?_
  rintro _ rfl
  cases q1
  · simp
    refine live ?_
    simp
    exact hK _ _ _ (.same _ (by simp)) rfl
  have hs : (A.2.1.length ≤ 40 ∧ -4000 ≤ A.2.2) ∧ A.2.2 ≤ 4000 := by simpa using hq1.symm
  obtain ⟨⟨hl, he1⟩, he2⟩ := hs
  have bD : Bd (-9000) 9000 (mayD A.1 A.2.1 A.2.2) := (bd_may (bn_len ha hl he1 he2)).mono (by omega) (by omega)
  have c1 := oFloat_ctr A.1 nl A.2.1 cap A.2.2 ha (by omega)
  have c2 := rFloat_ctr A.1 nl A.2.1 cap A.2.2 ha (by omega)
  have c3 := withinG_ctr (b := x) A.1 nl A.2.1 cap A.2.2 k hx ha (by omega) bD
  have c4 := rwithin_ctr (b := x) A.1 nl A.2.1 cap A.2.2 k hx ha (by omega) bD
  have hy : floatD (mayD A.1 A.2.1 A.2.2) < 18446744073709551616 := nearW_lt _ _ _
  generalize withinB x (mayD A.1 A.2.1 A.2.2) k = w at *
  generalize floatD (mayD A.1 A.2.1 A.2.2) = y at *
  simp [cells_dy, cells_sl, cells_ag, cells_ag0, wr, -cellsOf]
  refine draw_at [1, 3, 1, 3, 3, 0, 0, 1, 0, 3, 0, 1, 0, 3, 0, 0, 0, 3, 0, 0] orders (by kernel_rfl) ?_
  simp [cells_dy, cells_sl, cells_ag, cells_ag0, wr, -cellsOf]
  refine acall_by c1 (by simp [dy]) ?_
  rintro _ rfl
  simp [cells_dy, cells_sl, cells_ag, cells_ag0, wr, -cellsOf]
  refine acall_by c2 (by simp [dy]) ?_
  rintro _ rfl
  simp [cells_dy, cells_sl, cells_ag, cells_ag0, wr, -cellsOf]
  refine acall_by (same1_ctr hy hy) (by simp) ?_
  rintro _ ⟨c, rfl, hc⟩
  have hc := hc.2 (same_self _)
  subst hc
  simp [cells_dy, cells_sl, cells_ag, cells_ag0, wr, -cellsOf]
  refine acall_by c3 (by simp [dy]) ?_
  rintro _ rfl
  simp [cells_dy, cells_sl, cells_ag, cells_ag0, wr, -cellsOf]
  refine acall_by c4 (by simp [dy]) ?_
  rintro _ rfl
  simp [cells_dy, cells_sl, cells_ag, cells_ag0, wr, -cellsOf]
  refine live ?_
  simp
  exact hK _ _ _ (.same _ (by simp)) rfl
end Go.Proofs.Nt
/- The law RoundTells as a call. -/
set_option linter.unusedVariables false
set_option maxRecDepth 20000
namespace Go.Proofs.Nt
open Go Go.Proofs Go.Proofs.Va Go.RowKit

theorem roundTells_calls {w : World} {v0 v1 v2 : Value} (h0 : ArgA dySh w v0) (h1 : Arg1 .flt w v1) (h2 : Arg1 (.int .i64) w v2) :
    Calls Tryz.prog 9 #[v0, v1, v2] w fun e w' => e = .returned (.bool true) ∧ Below w.heap.size w w' := by
  obtain ⟨neg, nl, a, e, ha, r0⟩ := arg_dy h0
  obtain ⟨x, hx, r1⟩ := arg_fl h1
  obtain ⟨k, _, r2⟩ := arg_i64 h2
  exact ctr_calls Tryz.func9 rfl (by kernel_rfl) (otells_ctr (neg, a, e) nl none x k ha hx) (rpl_three r0 r1 r2)
end Go.Proofs.Nt
