import Derived.Test.YtojoikbgdjcfdaaGreatDoorWa
import Derived.Test.YtojoikbgdjcfdaaGreatDoorWb
import Derived.Test.YtojoikbgdjcfdaaGreatDoorWc
import Derived.Test.YtojoikbgdjcfdaaGreatDoorWd
import Derived.Test.YtojoikbgdjcfdaaGreatDoorWe
/- Dyads: the answers that the document gives. -/
set_option linter.unusedVariables false
set_option maxRecDepth 20000
set_option linter.unusedSimpArgs false
namespace Go.Proofs.Nt
open Go Go.Proofs Go.Proofs.Va Go.RowKit

theorem ofN_one {m : Nat} (h0 : m ≠ 0) (h : m < 4294967296) : ofN m = [m] := by
  rw [ofN_pos h0, Nat.mod_eq_of_lt h, Nat.div_eq_of_lt h, ofN_zero]
theorem norm_val (g : Bool) {m k : Nat} {e e' : Int} (ho : m % 2 = 1) (h : m < 4294967296) (he : e' = e - k) (h1 : -20000 ≤ e) (h2 : e ≤ 20000) (h3 : -1000000 ≤ e') : normD g (2 ^ k * m) e' = (g, [m], e) := by
  have hm : m ≠ 0 := by omega
  have hp := Nat.two_pow_pos k
  have ht : tz (2 ^ k * m) = k := by rw [tz_mul k hm, tz_odd ho, Nat.add_zero]
  have hn : 2 ^ k * m ≠ 0 := Nat.mul_ne_zero (by omega) hm
  rw [normD, if_neg (by rw [ht]; omega), ht, Nat.mul_div_cancel_left _ hp, ofN_one hm h, he]
  simp
theorem fromD_val {b m k : Nat} {s : Bool} {e : Int} (h1 : frg b < 9218868437227405312) (hs : fsg b = s) (hm : mg (frg b) = 2 ^ k * m) (ho : m % 2 = 1) (h : m < 4294967296) (he : -1074 + (pl (frg b) : Int) = e - k) (h2 : -20000 ≤ e) (h3 : e ≤ 20000) :
    fromD b = (s, [m], e) := by
  rw [fromD, if_pos h1, hs, hm]
  exact norm_val s ho h he h2 h3 (by omega)

theorem f_075 : fromD 4604930618986332160 = (false, [3], -2) := fromD_val (k := 51) (by decide) (by decide) (by decide) (by decide) (by decide) (by decide) (by decide) (by decide)
theorem f_m025 : fromD 13821547256400052224 = (true, [1], -2) := fromD_val (k := 52) (by decide) (by decide) (by decide) (by decide) (by decide) (by decide) (by decide) (by decide)
theorem f_05 : fromD 4602678819172646912 = (false, [1], -1) := fromD_val (k := 52) (by decide) (by decide) (by decide) (by decide) (by decide) (by decide) (by decide) (by decide)
theorem f_025 : fromD 4598175219545276416 = (false, [1], -2) := fromD_val (k := 52) (by decide) (by decide) (by decide) (by decide) (by decide) (by decide) (by decide) (by decide)
theorem f_m075 : fromD 13828302655841107968 = (true, [3], -2) := fromD_val (k := 51) (by decide) (by decide) (by decide) (by decide) (by decide) (by decide) (by decide) (by decide)
theorem f_2 : fromD 4611686018427387904 = (false, [1], 1) := fromD_val (k := 52) (by decide) (by decide) (by decide) (by decide) (by decide) (by decide) (by decide) (by decide)
theorem f_3 : fromD 4613937818241073152 = (false, [3], 0) := fromD_val (k := 51) (by decide) (by decide) (by decide) (by decide) (by decide) (by decide) (by decide) (by decide)
theorem f_4 : fromD 4616189618054758400 = (false, [1], 2) := fromD_val (k := 52) (by decide) (by decide) (by decide) (by decide) (by decide) (by decide) (by decide) (by decide)
theorem f_m1 : fromD 13830554455654793216 = (true, [1], 0) := fromD_val (k := 52) (by decide) (by decide) (by decide) (by decide) (by decide) (by decide) (by decide) (by decide)

theorem nv6 : normD false 6 (-3) = (false, [3], -2) := norm_val false (m := 3) (k := 1) (by decide) (by decide) (by decide) (by decide) (by decide) (by decide)
theorem nv1 : normD false 1 (-1) = (false, [1], -1) := norm_val false (m := 1) (k := 0) (by decide) (by decide) (by decide) (by decide) (by decide) (by decide)
theorem nv5 : normD false 5 0 = (false, [5], 0) := norm_val false (m := 5) (k := 0) (by decide) (by decide) (by decide) (by decide) (by decide) (by decide)
theorem a_ab : addD (false, [3], -2) (true, [1], -2) = (false, [1], -1) := by
  have h : normD false 2 (-2) = (false, [1], -1) := norm_val false (m := 1) (k := 1) (by decide) (by decide) (by decide) (by decide) (by decide) (by decide)
  simp [addD, lvl, up, val, h]
theorem a_aa : addD (false, [3], -2) (true, [3], -2) = (false, [], 0) := by
  simp [addD, lvl, up, val, normD]
theorem m_ab : mulD (false, [3], -2) (true, [1], -2) = (true, [3], -4) := by
  have h : normD true 3 (-4) = (true, [3], -4) := norm_val true (m := 3) (k := 0) (by decide) (by decide) (by decide) (by decide) (by decide) (by decide)
  simp [mulD, val, h]
theorem ok_a : dOk false [3] (-2) = true := by simp [dOk, trimL, at']
theorem ok_b : dOk true [1] (-2) = true := by simp [dOk, trimL, at']
theorem neg_a : negD false [3] (-2) = (true, [3], -2) := by
  have h : normD true 3 (-2) = (true, [3], -2) := norm_val true (m := 3) (k := 0) (by decide) (by decide) (by decide) (by decide) (by decide) (by decide)
  simp [negD, may_of_ok (d := (false, [3], -2)) ok_a, mayD, ok_a, val, h]
theorem neg_b : negD true [1] (-2) = (false, [1], -2) := by
  have h : normD false 1 (-2) = (false, [1], -2) := norm_val false (m := 1) (k := 0) (by decide) (by decide) (by decide) (by decide) (by decide) (by decide)
  simp [negD, mayD, ok_b, val, h]
theorem abs_b : absD true [1] (-2) = (false, [1], -2) := by
  have h : normD false 1 (-2) = (false, [1], -2) := norm_val false (m := 1) (k := 0) (by decide) (by decide) (by decide) (by decide) (by decide) (by decide)
  simp [absD, mayD, ok_b, val, h]
theorem a_anb : addD (false, [3], -2) (false, [1], -2) = (false, [1], 0) := by
  have h : normD false 4 (-2) = (false, [1], 0) := norm_val false (m := 1) (k := 2) (by decide) (by decide) (by decide) (by decide) (by decide) (by decide)
  simp [addD, lvl, up, val, h]
theorem s_live : sumD [4602678819172646912, 4598175219545276416, 13828302655841107968] = ((false, [], 0), true) := by
  have h1 : fin 4602678819172646912 = true := by decide
  have h2 : fin 4598175219545276416 = true := by decide
  have h3 : fin 13828302655841107968 = true := by decide
  have e1 : addD zeroD (false, [1], -1) = (false, [1], -1) := addD_zero ⟨by simp [dOk, trimL, at'], by intro x hx; simp at hx; subst hx; decide⟩
  have h4 : normD false 3 (-2) = (false, [3], -2) := norm_val false (m := 3) (k := 0) (by decide) (by decide) (by decide) (by decide) (by decide) (by decide)
  have e2 : addD (false, [1], -1) (false, [1], -2) = (false, [3], -2) := by simp [addD, lvl, up, val, h4]
  simp [sumD, h1, h2, h3, totD, f_05, f_025, f_m075, e1, e2, a_aa]
theorem d_live : dotD [4611686018427387904, 4613937818241073152] [4616189618054758400, 13830554455654793216] = ((false, [5], 0), true) := by
  have h1 : fin 4611686018427387904 = true := by decide
  have h2 : fin 4613937818241073152 = true := by decide
  have h3 : fin 4616189618054758400 = true := by decide
  have h4 : fin 13830554455654793216 = true := by decide
  have n1 : normD false 1 3 = (false, [1], 3) := norm_val false (m := 1) (k := 0) (by decide) (by decide) (by decide) (by decide) (by decide) (by decide)
  have n2 : normD true 3 0 = (true, [3], 0) := norm_val true (m := 3) (k := 0) (by decide) (by decide) (by decide) (by decide) (by decide) (by decide)
  have e1 : mulD (false, [1], 1) (false, [1], 2) = (false, [1], 3) := by simp [mulD, val, n1]
  have e2 : mulD (false, [3], 0) (true, [1], 0) = (true, [3], 0) := by simp [mulD, val, n2]
  have e3 : addD zeroD (false, [1], 3) = (false, [1], 3) := addD_zero ⟨by simp [dOk, trimL, at'], by intro x hx; simp at hx; subst hx; decide⟩
  have e4 : addD (false, [1], 3) (true, [3], 0) = (false, [5], 0) := by simp [addD, lvl, up, val, nv5]
  simp [dotD, fin2, h1, h2, h3, h4, totD, prodD, f_2, f_3, f_4, f_m1, e1, e2, e3, e4]
theorem d_live2 : dotD [4611686018427387904] [] = (zeroD, false) := by simp [dotD]
end Go.Proofs.Nt
/- Dyads: 'live' answers true. -/
set_option linter.unusedVariables false
set_option maxRecDepth 20000
set_option linter.unusedSimpArgs false
namespace Go.Proofs.Nt
open Go Go.Proofs Go.Proofs.Va Go.RowKit

theorem dig1 {m : Nat} (h : m < 4294967296) : Dig [m] := by intro x hx; simp at hx; subst hx; exact h
theorem val1 (m : Nat) : val [m] = m := by simp [val]
theorem pu3 (x y : Value) (nl : Bool) (a : List Nat) (cap : Option Nat) : Pu (.agg [.v x, sl nl a cap, .v y]) := pu_agg (by simp [sl])
theorem pu4 (x y : Value) : Pu (.agg [.v x, .pl true [] 0 (some 0), .v y]) := pu_agg (by simp)
theorem pur_sl {σ : AHeap} {S : Nat → Prop} {j v : Nat} {a : List Nat} {n : Nat} {cap : Option Nat} {k : BK} (hb : σ[j]? = some ⟨k, v, a.map dg⟩) (hk : k ≠ .dead) (hn : n = a.length) (hS : S j) : Pur σ S (.so j v 0 n 1 cap) (sl false a cap) := by
  refine isSl_so hb hk hn (Nat.zero_le _) (fun l hl => ?_) rfl hS
  simp [hl]
theorem pur_fsl {σ : AHeap} {S : Nat → Prop} {j v : Nat} {l : List Nat} {n : Nat} {cap : Option Nat} {k : BK} (hb : σ[j]? = some ⟨k, v, l.map fl⟩) (hk : k ≠ .dead) (hn : n = l.length) (hS : S j) : Pur σ S (.so j v 0 n 1 cap) (fsl false l cap) := by
  subst hn
  refine .so j v 0 l.length 1 cap ⟨k, v, l.map fl⟩ _ hb rfl hk hS (by simp) (by simp) fun q hq => ?_
  simp only [List.length_map] at hq
  show Pur σ S ((l.map fl).getD (0 + q) .any) _
  rw [Nat.zero_add, getD_eq (by simpa using hq)]
  exact .same _ (by simp)

@[simp] theorem scA_sl (n : Nat) (nl : Bool) (a : List Nat) (cap : Option Nat) : scA n (sl nl a cap) = True := (rfl)

end Go.Proofs.Nt
/- The laws DyadTells, DyadCounts, DyadSums as contracts. -/
set_option linter.unusedVariables false
set_option maxRecDepth 20000
set_option linter.unusedSimpArgs false
namespace Go.Proofs.Nt
open Go Go.Proofs Go.Proofs.Va Go.RowKit


@[simp] theorem pu_ag3 (x y : Value) (nl : Bool) (a : List Nat) (cap : Option Nat) : Pu (.agg [.v x, sl nl a cap, .v y]) := pu_agg (by simp [sl])
@[simp] theorem pu_ag4 (x y : Value) : Pu (.agg [.v x, .pl true [] 0 (some 0), .v y]) := pu_agg (by simp)

/-! ### Contracts of dyads that may be -/
section
variable {d d' : Dy} {n n' : Bool} {c c' : Option Nat}
/-- A dyad, below 0. -/
def oppD (d : Dy) : Dy := negD d.1 d.2.1 d.2.2
theorem ok_opp (d : Dy) : dOK (oppD d) := ok_norm _ _ _
end

theorem iv_opp {d : Dy} (o : dOK d) {M : Int} (hM : M ≤ -20000) : iv (oppD d) M = -iv d M := by
  have h := iv_neg (neg := d.1) (e := d.2.2) o.2 hM
  rwa [may_of_ok o.1] at h
theorem bd_opp {L H : Int} {d : Dy} (h : Bd L H d) : Bd L H (oppD d) := bd_neg h

theorem opp_may {neg : Bool} {a : List Nat} {e : Int} : oppD (mayD neg a e) = negD neg a e := by
  unfold oppD negD
  rw [may_of_ok (may_ok neg a e)]

/-- What the difference tells is how they stand. -/
theorem cmp_agree {L H : Int} {d d' : Dy} (o : dOK d) (o' : dOK d') (h : Bd L H d) (h' : Bd L H d') (hL : L ≤ 0) (hL2 : -20000 ≤ L) (hH : H < 20000) : sgnD (addD d (oppD d')) = cmpD d d' := by
  have e1 := iv_add o (ok_opp d') h (bd_opp h') hL hL2 hH (M := -20000) hL2
  rw [iv_opp o' (Int.le_refl _)] at e1
  rw [sgnD_iv (ok_add _ _) (-20000), cmpD_iv o o' (Int.le_refl _), e1]
  exact cmp3_congr (by omega) (by omega)

end Go.Proofs.Nt
/- The laws DyadCounts and DyadSums as contracts. -/
set_option linter.unusedVariables false
set_option maxRecDepth 20000
set_option linter.unusedSimpArgs false
namespace Go.Proofs.Nt
open Go Go.Proofs Go.Proofs.Va Go.RowKit

theorem sum_len (l : List Nat) (hl : l.length ≤ 1000) : (sumD l).1.2.1.length ≤ 1000 := by
  unfold sumD; split
  · exact floats_len l hl
  · simp [zeroD]
theorem dot_len (l l' : List Nat) (hl : l.length ≤ 1000) : (dotD l l').1.2.1.length ≤ 1000 := by
  unfold dotD; split
  · exact prods_len _ (by simp; omega)
  · simp [zeroD]

end Go.Proofs.Nt
/- The law DyadRules as a contract. -/
set_option linter.unusedVariables false
set_option maxRecDepth 20000
set_option linter.unusedSimpArgs false
namespace Go.Proofs.Nt
open Go Go.Proofs Go.Proofs.Va Go.RowKit

theorem cmp3_bounds (a b : Int) : cmp3 a b = -1 ∨ cmp3 a b = 0 ∨ cmp3 a b = 1 := by
  unfold cmp3; split
  · simp
  · split <;> simp
theorem sgn_bounds (d : Dy) : sgnD d = -1 ∨ sgnD d = 0 ∨ sgnD d = 1 := by
  unfold sgnD; split
  · simp
  · split <;> simp

section
variable {A B C : Dy} (oA : dOK A) (oB : dOK B) (oC : dOK C) (bA : Bd (-4000) 5280 A) (bB : Bd (-4000) 5280 B) (bC : Bd (-4000) 5280 C)
include oA oB bA bB
theorem r_add {M : Int} (hM : M ≤ -4000) : iv (addD A B) M = iv A M + iv B M := iv_add oA oB bA bB (by omega) (by omega) (by omega) hM
theorem r_bd : Bd (-4000) 5281 (addD A B) := bd_add oA oB bA bB (by omega)
theorem r_sub {M : Int} (hM : M ≤ -20000) : iv (addD A (oppD B)) M = iv A M - iv B M := by
  rw [r_add oA (ok_opp B) bA (bd_opp bB) (by omega), iv_opp oB hM]; omega
theorem r_comm : addD B A = addD A B := by
  refine iv_inj (ok_add _ _) (ok_add _ _) (M := -20000) (by omega) ?_
  rw [r_add oB oA bB bA (by omega), r_add oA oB bA bB (by omega)]; omega
theorem r_back : addD (addD A B) (oppD B) = A := by
  refine iv_inj (ok_add _ _) oA (M := -20000) (by omega) ?_
  rw [iv_add (ok_add A B) (ok_opp B) (r_bd oA oB bA bB) ((bd_opp bB).mono (by omega) (by omega)) (by omega) (by omega) (by omega) (by omega), r_add oA oB bA bB (by omega), iv_opp oB (by omega)]; omega
theorem r_mul {M M' : Int} (hM : M ≤ -20000) (hM' : M' ≤ -20000) : iv (mulD A B) (M + M') = iv A M * iv B M' :=
  iv_mul bA bB (by omega) (by omega) (by have := (ok_exp oA.1).1; omega) (by have := (ok_exp oB.1).1; omega)
theorem r_mcomm : mulD B A = mulD A B := by
  refine iv_inj (ok_mul _ _) (ok_mul _ _) (M := -20000 + -20000) (by omega) ?_
  rw [r_mul oB oA bB bA (by omega) (by omega), r_mul oA oB bA bB (by omega) (by omega), Int.mul_comm]
theorem r_zero : (sgnD (addD A (oppD B)) == 0) = decide (A = B) := by
  have h := r_sub oA oB bA bB (M := -20000) (by omega)
  rw [sgnD_iv (ok_add _ _) (-20000), h]
  by_cases hAB : A = B
  · subst hAB
    simp [cmp3]
  · have hne : iv A (-20000) ≠ iv B (-20000) := fun h => hAB (iv_inj oA oB (by omega) h)
    unfold cmp3
    simp only [hAB, decide_false]
    by_cases h1 : iv A (-20000) - iv B (-20000) < 0
    · rw [if_pos h1]; rfl
    · rw [if_neg h1, if_pos (by omega)]; rfl
theorem r_anti : sgnD (addD A (oppD B)) = -sgnD (addD B (oppD A)) := by
  rw [sgnD_iv (ok_add _ _) (-20000), sgnD_iv (ok_add _ _) (-20000), r_sub oA oB bA bB (by omega), r_sub oB oA bB bA (by omega)]
  unfold cmp3
  by_cases h1 : iv A (-20000) - iv B (-20000) < 0
  · rw [if_pos h1, if_neg (by omega), if_pos (by omega)]
  · rw [if_neg h1]
    by_cases h2 : 0 < iv A (-20000) - iv B (-20000)
    · rw [if_pos h2, if_pos (by omega)]; rfl
    · rw [if_neg h2, if_neg (by omega), if_neg (by omega)]; rfl
theorem r_same : sgnD (addD (addD A (oppD B)) (oppD zeroD)) = sgnD (addD A (oppD B)) := by
  have b1 := r_bd oA (ok_opp B) bA (bd_opp bB)
  have _ := oB
  rw [sgnD_iv (ok_add _ _) (-20000), sgnD_iv (ok_add _ _) (-20000), iv_add (ok_add A (oppD B)) (ok_opp zeroD) b1 (bd_opp (bd_zero _ _)) (by omega) (by omega) (by omega) (by omega), iv_opp ok_zero (by omega), iv_zero]
  congr 1; omega
include oC bC
theorem r_assoc : addD A (addD B C) = addD (addD A B) C := by
  refine iv_inj (ok_add _ _) (ok_add _ _) (M := -20000) (by omega) ?_
  rw [iv_add oA (ok_add B C) (bA.mono (by omega) (by omega)) (r_bd oB oC bB bC) (by omega) (by omega) (by omega) (by omega), iv_add (ok_add A B) oC (r_bd oA oB bA bB) (bC.mono (by omega) (by omega)) (by omega) (by omega) (by omega) (by omega),
    r_add oB oC bB bC (by omega), r_add oA oB bA bB (by omega)]; omega
theorem r_dist : addD (mulD A C) (mulD B C) = mulD (addD A B) C := by
  have b1 : Bd (-8000) 10560 (mulD A C) := bd_mul bA bC
  have b2 : Bd (-8000) 10560 (mulD B C) := bd_mul bB bC
  refine iv_inj (ok_add _ _) (ok_mul _ _) (M := -20000 + -20000) (by omega) ?_
  rw [iv_add (ok_mul _ _) (ok_mul _ _) b1 b2 (by omega) (by omega) (by omega) (by omega), r_mul oA oC bA bC (by omega) (by omega), r_mul oB oC bB bC (by omega) (by omega),
    iv_mul (r_bd oA oB bA bB) bC (by omega) (by omega) (by have := (ok_exp (ok_add A B).1).1; omega) (by have := (ok_exp oC.1).1; omega), r_add oA oB bA bB (by omega), Int.add_mul]
end

end Go.Proofs.Nt
/- The law DyadFloats as a contract. -/
set_option linter.unusedVariables false
set_option maxRecDepth 20000
set_option linter.unusedSimpArgs false
namespace Go.Proofs.Nt
open Go Go.Proofs Go.Proofs.Va Go.RowKit

theorem negf {b : Nat} (hb : b < 18446744073709551616) : Op.negFloat .f64 b = wd (!fsg b) (frg b) := by
  show b ^^^ 2 ^ 63 = _
  have hs := wd_self hb
  have hl := frg_lt b
  generalize fsg b = s at *
  generalize frg b = r at *
  rw [← hs]
  have hz : r ^^^ 2 ^ 63 = 2 ^ 63 ||| r := by
    apply Nat.eq_of_testBit_eq
    intro i
    rw [Nat.testBit_xor, Nat.testBit_or, Nat.testBit_two_pow]
    by_cases hi : 63 = i
    · subst hi; rw [Nat.testBit_lt_two_pow hl]; rfl
    · simp [hi]
  cases s
  · rw [wd_false, hz, ← hi_or hl]; rfl
  · rw [wd_true, hi_or hl, ← hz, Nat.xor_assoc, Nat.xor_self, Nat.xor_zero]; rfl

theorem iv_from {b : Nat} (h : fin b = true) {M : Int} (hM : M ≤ -1074) : iv (fromD b) M = fval b * ((2 ^ (-1074 - M).toNat : Nat) : Int) := by
  have h' : frg b < 9218868437227405312 := by simpa [fin] using h
  have hm : mg (frg b) < 2 ^ 53 := by
    have : (2 : Nat) ^ 53 = 9007199254740992 := rfl
    unfold mg; split <;> omega
  have h2 := bl_le hm
  have h3 : pl (frg b) ≤ 2045 := by unfold pl; omega
  rw [fromD, if_pos h', iv_norm (by omega) (.inr (by omega))]
  have e : up (mg (frg b)) (-1074 + (pl (frg b) : Nat)) M = vr (frg b) * 2 ^ (-1074 - M).toNat := by
    unfold up vr
    rw [Nat.mul_assoc, ← Nat.pow_add]
    congr 2; omega
  rw [e]
  unfold fval sg
  split <;> simp [Int.neg_mul]

theorem from_neg {b : Nat} (h : fin b = true) (hb : b < 18446744073709551616) : Op.negFloat .f64 b < 18446744073709551616 ∧ fin (Op.negFloat .f64 b) = true ∧ fval (Op.negFloat .f64 b) = -fval b := by
  have hl := frg_lt b
  rw [negf hb]
  refine ⟨wd_lt _ hl, ?_, ?_⟩
  · unfold fin; rw [wd_frg _ hl]; exact h
  · unfold fval
    rw [wd_frg _ hl, wd_fsg _ hl]
    cases fsg b <;> simp

theorem from_bl (b : Nat) : bl (val (fromD b).2.1) ≤ 53 := by
  unfold fromD; split
  · unfold normD; split
    · simp [val, bl_zero]
    · refine bl_le ?_
      show val (ofN (mg (frg b) / 2 ^ tz (mg (frg b)))) < 2 ^ 53
      rw [val_ofN]
      have : (2 : Nat) ^ 53 = 9007199254740992 := rfl
      have hm : mg (frg b) < 9007199254740992 := by unfold mg; split <;> omega
      exact Nat.lt_of_le_of_lt (Nat.div_le_self _ _) (by omega)
  · simp [val, bl_zero]

/-- Of floats that are numbers the dyads stand as they do. -/
theorem from_cmp {x y : Nat} (hx : fin x = true) (hy : fin y = true) : sgnD (addD (fromD x) (oppD (fromD y))) = cmp3 (fval x) (fval y) := by
  have h := iv_add (ok_from x) (ok_opp (fromD y)) (from_bd x) (bd_opp (from_bd y)) (by omega) (by omega) (by omega) (M := -20000) (by omega)
  rw [iv_opp (ok_from y) (by omega), iv_from hx (by omega), iv_from hy (by omega)] at h
  rw [sgnD_iv (ok_add _ _) (-20000), h]
  have hp := Nat.two_pow_pos (-1074 - (-20000 : Int)).toNat
  generalize 2 ^ (-1074 - (-20000 : Int)).toNat = c at *
  have hc : (0 : Int) < (c : Int) := by omega
  have e : fval x * (c : Int) + -(fval y * (c : Int)) = (fval x - fval y) * (c : Int) := by rw [Int.sub_mul]; omega
  rw [e]
  have h1 : (fval x - fval y) * (c : Int) < 0 ↔ fval x < fval y := by
    have := Int.mul_lt_mul_right (a := c) (b := fval x - fval y) (c := 0) hc
    rw [Int.zero_mul] at this
    rw [this]; omega
  have h2 : 0 < (fval x - fval y) * (c : Int) ↔ fval y < fval x := by
    have := Int.mul_lt_mul_right (a := c) (b := 0) (c := fval x - fval y) hc
    rw [Int.zero_mul] at this
    rw [this]; omega
  exact cmp3_congr h1 h2
theorem from_opp {x : Nat} (hx : fin x = true) (hb : x < 18446744073709551616) : addD (fromD x) (fromD (Op.negFloat .f64 x)) = zeroD := by
  obtain ⟨h1, h2, h3⟩ := from_neg hx hb
  refine iv_inj (ok_add _ _) ok_zero (M := -20000) (by omega) ?_
  rw [iv_add (ok_from _) (ok_from _) (from_bd _) (from_bd _) (by omega) (by omega) (by omega) (by omega), iv_from hx (by omega), iv_from h2 (by omega), h3, iv_zero, Int.neg_mul]
  omega

end Go.Proofs.Nt
