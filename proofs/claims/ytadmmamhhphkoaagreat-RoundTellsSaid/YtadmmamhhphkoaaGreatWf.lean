import Derived.Test.YtadmmamhhphkoaaGreatWa
import Derived.Test.YtadmmamhhphkoaaGreatWb
import Derived.Test.YtadmmamhhphkoaaGreatWc
import Derived.Test.YtadmmamhhphkoaaGreatWd
import Derived.Test.YtadmmamhhphkoaaGreatWe
import Derived.WalkKit
import Derived.ProofKit
import Derived.OpenShut
import Derived.ShutString
import Derived.ChangeOld
import Derived.Below
import Derived.Carry
/- Dyads: the answers that the document gives. -/
set_option linter.unusedVariables false
set_option maxRecDepth 20000
set_option linter.unusedSimpArgs false
namespace Go.Proofs.Nt
open Go Go.Proofs Go.Proofs.Va Go.RowKit

theorem ofN_one {m : Nat} (h0 : m ≠ 0) (h : m < 4294967296) : ofN m = [m] := by
  rw [ofN_pos h0, Nat.mod_eq_of_lt h, Nat.div_eq_of_lt h, ofN_zero]
theorem norm_val (g : Bool) {m k : Nat} {e e' : Int} (ho : m % 2 = 1) (h : m < 4294967296) (he : e' = e - k) (h1 : -20000 ≤ e) (h2 : e ≤ 20000) (h3 : -1000000 ≤ e') : normD g (2 ^ k * m) e' = (g, [m], e) := by
  have hm : m ≠ 0 := by omega
  have hp := Nat.two_pow_pos k
  have ht : tz (2 ^ k * m) = k := by rw [tz_mul k hm, tz_odd ho, Nat.add_zero]
  have hn : 2 ^ k * m ≠ 0 := Nat.mul_ne_zero (by omega) hm
  rw [normD, if_neg (by rw [ht]; omega), ht, Nat.mul_div_cancel_left _ hp, ofN_one hm h, he]
  simp
theorem fromD_val {b m k : Nat} {s : Bool} {e : Int} (h1 : frg b < 9218868437227405312) (hs : fsg b = s) (hm : mg (frg b) = 2 ^ k * m) (ho : m % 2 = 1) (h : m < 4294967296) (he : -1074 + (pl (frg b) : Int) = e - k) (h2 : -20000 ≤ e) (h3 : e ≤ 20000) :
    fromD b = (s, [m], e) := by
  rw [fromD, if_pos h1, hs, hm]
  exact norm_val s ho h he h2 h3 (by omega)

theorem f_075 : fromD 4604930618986332160 = (false, [3], -2) := fromD_val (k := 51) (by decide) (by decide) (by decide) (by decide) (by decide) (by decide) (by decide) (by decide)
theorem f_m025 : fromD 13821547256400052224 = (true, [1], -2) := fromD_val (k := 52) (by decide) (by decide) (by decide) (by decide) (by decide) (by decide) (by decide) (by decide)
theorem f_05 : fromD 4602678819172646912 = (false, [1], -1) := fromD_val (k := 52) (by decide) (by decide) (by decide) (by decide) (by decide) (by decide) (by decide) (by decide)
theorem f_025 : fromD 4598175219545276416 = (false, [1], -2) := fromD_val (k := 52) (by decide) (by decide) (by decide) (by decide) (by decide) (by decide) (by decide) (by decide)
theorem f_m075 : fromD 13828302655841107968 = (true, [3], -2) := fromD_val (k := 51) (by decide) (by decide) (by decide) (by decide) (by decide) (by decide) (by decide) (by decide)
theorem f_2 : fromD 4611686018427387904 = (false, [1], 1) := fromD_val (k := 52) (by decide) (by decide) (by decide) (by decide) (by decide) (by decide) (by decide) (by decide)
theorem f_3 : fromD 4613937818241073152 = (false, [3], 0) := fromD_val (k := 51) (by decide) (by decide) (by decide) (by decide) (by decide) (by decide) (by decide) (by decide)
theorem f_4 : fromD 4616189618054758400 = (false, [1], 2) := fromD_val (k := 52) (by decide) (by decide) (by decide) (by decide) (by decide) (by decide) (by decide) (by decide)
theorem f_m1 : fromD 13830554455654793216 = (true, [1], 0) := fromD_val (k := 52) (by decide) (by decide) (by decide) (by decide) (by decide) (by decide) (by decide) (by decide)

theorem nv6 : normD false 6 (-3) = (false, [3], -2) := norm_val false (m := 3) (k := 1) (by decide) (by decide) (by decide) (by decide) (by decide) (by decide)
theorem nv1 : normD false 1 (-1) = (false, [1], -1) := norm_val false (m := 1) (k := 0) (by decide) (by decide) (by decide) (by decide) (by decide) (by decide)
theorem nv5 : normD false 5 0 = (false, [5], 0) := norm_val false (m := 5) (k := 0) (by decide) (by decide) (by decide) (by decide) (by decide) (by decide)
theorem a_ab : addD (false, [3], -2) (true, [1], -2) = (false, [1], -1) := by
  have h : normD false 2 (-2) = (false, [1], -1) := norm_val false (m := 1) (k := 1) (by decide) (by decide) (by decide) (by decide) (by decide) (by decide)
  simp [addD, lvl, up, val, h]
theorem a_aa : addD (false, [3], -2) (true, [3], -2) = (false, [], 0) := by
  simp [addD, lvl, up, val, normD]
theorem m_ab : mulD (false, [3], -2) (true, [1], -2) = (true, [3], -4) := by
  have h : normD true 3 (-4) = (true, [3], -4) := norm_val true (m := 3) (k := 0) (by decide) (by decide) (by decide) (by decide) (by decide) (by decide)
  simp [mulD, val, h]
theorem ok_a : dOk false [3] (-2) = true := by simp [dOk, trimL, at']
theorem ok_b : dOk true [1] (-2) = true := by simp [dOk, trimL, at']
theorem neg_a : negD false [3] (-2) = (true, [3], -2) := by
  have h : normD true 3 (-2) = (true, [3], -2) := norm_val true (m := 3) (k := 0) (by decide) (by decide) (by decide) (by decide) (by decide) (by decide)
  simp [negD, may_of_ok (d := (false, [3], -2)) ok_a, mayD, ok_a, val, h]
theorem neg_b : negD true [1] (-2) = (false, [1], -2) := by
  have h : normD false 1 (-2) = (false, [1], -2) := norm_val false (m := 1) (k := 0) (by decide) (by decide) (by decide) (by decide) (by decide) (by decide)
  simp [negD, mayD, ok_b, val, h]
theorem abs_b : absD true [1] (-2) = (false, [1], -2) := by
  have h : normD false 1 (-2) = (false, [1], -2) := norm_val false (m := 1) (k := 0) (by decide) (by decide) (by decide) (by decide) (by decide) (by decide)
  simp [absD, mayD, ok_b, val, h]
theorem a_anb : addD (false, [3], -2) (false, [1], -2) = (false, [1], 0) := by
  have h : normD false 4 (-2) = (false, [1], 0) := norm_val false (m := 1) (k := 2) (by decide) (by decide) (by decide) (by decide) (by decide) (by decide)
  simp [addD, lvl, up, val, h]
theorem s_live : sumD [4602678819172646912, 4598175219545276416, 13828302655841107968] = ((false, [], 0), true) := by
  have h1 : fin 4602678819172646912 = true := by decide
  have h2 : fin 4598175219545276416 = true := by decide
  have h3 : fin 13828302655841107968 = true := by decide
  have e1 : addD zeroD (false, [1], -1) = (false, [1], -1) := addD_zero ⟨by simp [dOk, trimL, at'], by intro x hx; simp at hx; subst hx; decide⟩
  have h4 : normD false 3 (-2) = (false, [3], -2) := norm_val false (m := 3) (k := 0) (by decide) (by decide) (by decide) (by decide) (by decide) (by decide)
  have e2 : addD (false, [1], -1) (false, [1], -2) = (false, [3], -2) := by simp [addD, lvl, up, val, h4]
  simp [sumD, h1, h2, h3, totD, f_05, f_025, f_m075, e1, e2, a_aa]
theorem d_live : dotD [4611686018427387904, 4613937818241073152] [4616189618054758400, 13830554455654793216] = ((false, [5], 0), true) := by
  have h1 : fin 4611686018427387904 = true := by decide
  have h2 : fin 4613937818241073152 = true := by decide
  have h3 : fin 4616189618054758400 = true := by decide
  have h4 : fin 13830554455654793216 = true := by decide
  have n1 : normD false 1 3 = (false, [1], 3) := norm_val false (m := 1) (k := 0) (by decide) (by decide) (by decide) (by decide) (by decide) (by decide)
  have n2 : normD true 3 0 = (true, [3], 0) := norm_val true (m := 3) (k := 0) (by decide) (by decide) (by decide) (by decide) (by decide) (by decide)
  have e1 : mulD (false, [1], 1) (false, [1], 2) = (false, [1], 3) := by simp [mulD, val, n1]
  have e2 : mulD (false, [3], 0) (true, [1], 0) = (true, [3], 0) := by simp [mulD, val, n2]
  have e3 : addD zeroD (false, [1], 3) = (false, [1], 3) := addD_zero ⟨by simp [dOk, trimL, at'], by intro x hx; simp at hx; subst hx; decide⟩
  have e4 : addD (false, [1], 3) (true, [3], 0) = (false, [5], 0) := by simp [addD, lvl, up, val, nv5]
  simp [dotD, fin2, h1, h2, h3, h4, totD, prodD, f_2, f_3, f_4, f_m1, e1, e2, e3, e4]
theorem d_live2 : dotD [4611686018427387904] [] = (zeroD, false) := by simp [dotD]
end Go.Proofs.Nt
/- Dyads: 'live' answers true. -/
set_option linter.unusedVariables false
set_option maxRecDepth 20000
set_option linter.unusedSimpArgs false
namespace Go.Proofs.Nt
open Go Go.Proofs Go.Proofs.Va Go.RowKit

theorem dig1 {m : Nat} (h : m < 4294967296) : Dig [m] := by intro x hx; simp at hx; subst hx; exact h
theorem val1 (m : Nat) : val [m] = m := by simp [val]
theorem pu3 (x y : Value) (nl : Bool) (a : List Nat) (cap : Option Nat) : Pu (.agg [.v x, sl nl a cap, .v y]) := pu_agg (by simp [sl])
theorem pu4 (x y : Value) : Pu (.agg [.v x, .pl true [] 0 (some 0), .v y]) := pu_agg (by simp)
theorem pur_sl {σ : AHeap} {S : Nat → Prop} {j v : Nat} {a : List Nat} {n : Nat} {cap : Option Nat} {k : BK} (hb : σ[j]? = some ⟨k, v, a.map dg⟩) (hk : k ≠ .dead) (hn : n = a.length) (hS : S j) : Pur σ S (.so j v 0 n 1 cap) (sl false a cap) := by
  refine isSl_so hb hk hn (Nat.zero_le _) (fun l hl => ?_) rfl hS
  simp [hl]
theorem pur_fsl {σ : AHeap} {S : Nat → Prop} {j v : Nat} {l : List Nat} {n : Nat} {cap : Option Nat} {k : BK} (hb : σ[j]? = some ⟨k, v, l.map fl⟩) (hk : k ≠ .dead) (hn : n = l.length) (hS : S j) : Pur σ S (.so j v 0 n 1 cap) (fsl false l cap) := by
  subst hn
  refine .so j v 0 l.length 1 cap ⟨k, v, l.map fl⟩ _ hb rfl hk hS (by simp) (by simp) fun q hq => ?_
  simp only [List.length_map] at hq
  show Pur σ S ((l.map fl).getD (0 + q) .any) _
  rw [Nat.zero_add, getD_eq (by simpa using hq)]
  exact .same _ (by simp)

theorem aIA_sl {nl : Bool} {a : List Nat} {cap : Option Nat} {k : IntKind} {j : Int} {σ : AHeap} {K : AV → AHeap → Prop} : aIndexAddr Tryz.prog 23 (sl nl a cap) (.v (.int k j)) σ K = ((0 ≤ j ∧ j < a.length) ∧ j.toNat < a.length ∧ K (.pp (a.map dg) j.toNat) σ) := by
  unfold sl; simp

@[simp] theorem scA_sl (n : Nat) (nl : Bool) (a : List Nat) (cap : Option Nat) : scA n (sl nl a cap) = True := (rfl)

end Go.Proofs.Nt
/- The laws DyadTells, DyadCounts, DyadSums as contracts. -/
set_option linter.unusedVariables false
set_option maxRecDepth 20000
set_option linter.unusedSimpArgs false
namespace Go.Proofs.Nt
open Go Go.Proofs Go.Proofs.Va Go.RowKit


@[simp] theorem pu_ag3 (x y : Value) (nl : Bool) (a : List Nat) (cap : Option Nat) : Pu (.agg [.v x, sl nl a cap, .v y]) := pu_agg (by simp [sl])
@[simp] theorem pu_ag4 (x y : Value) : Pu (.agg [.v x, .pl true [] 0 (some 0), .v y]) := pu_agg (by simp)

/-! ### Contracts of dyads that may be -/
section
variable {d d' : Dy} {n n' : Bool} {c c' : Option Nat}
theorem addX (o : dOK d) (l : d.2.1.length ≤ 1000) (o' : dOK d') (l' : d'.2.1.length ≤ 1000) : Ctr Tryz.prog 69 [dy d.1 n d.2.1 c d.2.2, dy d'.1 n' d'.2.1 c' d'.2.2] (dTold (addD d d')) := by
  have h := add3_ctr d.1 n d'.1 n' d.2.1 d'.2.1 c c' d.2.2 d'.2.2 o.2 o'.2 l l'
  rwa [may_of_ok o.1, may_of_ok o'.1] at h
theorem raddX (o : dOK d) (l : d.2.1.length ≤ 1000) (o' : dOK d') (l' : d'.2.1.length ≤ 1000) : Ctr Tryz.prog 24 [dy d.1 n d.2.1 c d.2.2, dy d'.1 n' d'.2.1 c' d'.2.2] (dTold (addD d d')) := by
  have h := radd3_ctr d.1 n d'.1 n' d.2.1 d'.2.1 c c' d.2.2 d'.2.2 o.2 o'.2 l l'
  rwa [may_of_ok o.1, may_of_ok o'.1] at h
theorem mulX (o : dOK d) (l : d.2.1.length ≤ 1000) (o' : dOK d') (l' : d'.2.1.length ≤ 1000) : Ctr Tryz.prog 68 [dy d.1 n d.2.1 c d.2.2, dy d'.1 n' d'.2.1 c' d'.2.2] (dTold (mulD d d')) := by
  have h := mul3_ctr d.1 n d'.1 n' d.2.1 d'.2.1 c c' d.2.2 d'.2.2 o.2 o'.2 l l'
  rwa [may_of_ok o.1, may_of_ok o'.1] at h
theorem rmulX (o : dOK d) (l : d.2.1.length ≤ 1000) (o' : dOK d') (l' : d'.2.1.length ≤ 1000) : Ctr Tryz.prog 23 [dy d.1 n d.2.1 c d.2.2, dy d'.1 n' d'.2.1 c' d'.2.2] (dTold (mulD d d')) := by
  have h := rmul3_ctr d.1 n d'.1 n' d.2.1 d'.2.1 c c' d.2.2 d'.2.2 o.2 o'.2 l l'
  rwa [may_of_ok o.1, may_of_ok o'.1] at h
/-- A dyad, below 0. -/
def oppD (d : Dy) : Dy := negD d.1 d.2.1 d.2.2
theorem ok_opp (d : Dy) : dOK (oppD d) := ok_norm _ _ _
theorem subX (o : dOK d) (l : d.2.1.length ≤ 1000) (o' : dOK d') (l' : d'.2.1.length ≤ 1000) : Ctr Tryz.prog 61 [dy d.1 n d.2.1 c d.2.2, dy d'.1 n' d'.2.1 c' d'.2.2] (dTold (addD d (oppD d'))) := by
  have h := sub3_ctr d.1 n d'.1 n' d.2.1 d'.2.1 c c' d.2.2 d'.2.2 o.2 o'.2 l l'
  rwa [may_of_ok o.1] at h
theorem cmpX (o : dOK d) (l : d.2.1.length ≤ 1000) (o' : dOK d') (l' : d'.2.1.length ≤ 1000) : Ctr Tryz.prog 40 [dy d.1 n d.2.1 c d.2.2, dy d'.1 n' d'.2.1 c' d'.2.2] (fun r => r = i (sgnD (addD d (oppD d')))) := by
  have h := dcmp_ctr d.1 n d'.1 n' d.2.1 d'.2.1 c c' d.2.2 d'.2.2 o.2 o'.2 l l'
  rwa [may_of_ok o.1] at h
theorem checkX (o : dOK d) (l : d.2.1.length ≤ 1000) : Ctr Tryz.prog 105 [dy d.1 n d.2.1 c d.2.2] (fun r => r = bo true) := by
  have h := dcheck_ctr d.1 n d.2.1 c d.2.2 o.2 (by omega)
  rwa [o.1] at h
theorem sameX (l : d.2.1.length ≤ 1000) (l' : d'.2.1.length ≤ 1000) : Ctr Tryz.prog 12 [dy d.1 n d.2.1 c d.2.2, dy d'.1 n' d'.2.1 c' d'.2.2] (fun r => r = bo (decide (d = d'))) := by
  have h := same3_ctr d.1 n d'.1 n' d.2.1 d'.2.1 c c' d.2.2 d'.2.2 (by omega) (by omega)
  have e : (d.1 == d'.1 && decide (d.2.2 = d'.2.2) && (d.2.1 == d'.2.1)) = decide (d = d') := by
    obtain ⟨g, a, e⟩ := d
    obtain ⟨g', a', e'⟩ := d'
    rw [Bool.eq_iff_iff]
    simp only [Bool.and_eq_true, beq_iff_eq, decide_eq_true_eq, Prod.mk.injEq]
    constructor
    · rintro ⟨⟨h1, h2⟩, h3⟩; exact ⟨h1, h3, h2⟩
    · rintro ⟨h1, h2, h3⟩; exact ⟨⟨h1, h3⟩, h2⟩
  rwa [e] at h
end

theorem iv_opp {d : Dy} (o : dOK d) {M : Int} (hM : M ≤ -20000) : iv (oppD d) M = -iv d M := by
  have h := iv_neg (neg := d.1) (e := d.2.2) o.2 hM
  rwa [may_of_ok o.1] at h
theorem bd_opp {L H : Int} {d : Dy} (h : Bd L H d) : Bd L H (oppD d) := bd_neg h

theorem opp_may {neg : Bool} {a : List Nat} {e : Int} : oppD (mayD neg a e) = negD neg a e := by
  unfold oppD negD
  rw [may_of_ok (may_ok neg a e)]

/-- What the difference tells is how they stand. -/
theorem cmp_agree {L H : Int} {d d' : Dy} (o : dOK d) (o' : dOK d') (h : Bd L H d) (h' : Bd L H d') (hL : L ≤ 0) (hL2 : -20000 ≤ L) (hH : H < 20000) : sgnD (addD d (oppD d')) = cmpD d d' := by
  have e1 := iv_add o (ok_opp d') h (bd_opp h') hL hL2 hH (M := -20000) hL2
  rw [iv_opp o' (Int.le_refl _)] at e1
  rw [sgnD_iv (ok_add _ _) (-20000), cmpD_iv o o' (Int.le_refl _), e1]
  exact cmp3_congr (by omega) (by omega)

end Go.Proofs.Nt
/- The laws DyadCounts and DyadSums as contracts. -/
set_option linter.unusedVariables false
set_option maxRecDepth 20000
set_option linter.unusedSimpArgs false
namespace Go.Proofs.Nt
open Go Go.Proofs Go.Proofs.Va Go.RowKit

theorem sum_len (l : List Nat) (hl : l.length ≤ 1000) : (sumD l).1.2.1.length ≤ 1000 := by
  unfold sumD; split
  · exact floats_len l hl
  · simp [zeroD]
theorem dot_len (l l' : List Nat) (hl : l.length ≤ 1000) : (dotD l l').1.2.1.length ≤ 1000 := by
  unfold dotD; split
  · exact prods_len _ (by simp; omega)
  · simp [zeroD]

end Go.Proofs.Nt
/- The law DyadRules as a contract. -/
set_option linter.unusedVariables false
set_option maxRecDepth 20000
set_option linter.unusedSimpArgs false
namespace Go.Proofs.Nt
open Go Go.Proofs Go.Proofs.Va Go.RowKit

theorem cmp3_bounds (a b : Int) : cmp3 a b = -1 ∨ cmp3 a b = 0 ∨ cmp3 a b = 1 := by
  unfold cmp3; split
  · simp
  · split <;> simp
theorem sgn_bounds (d : Dy) : sgnD d = -1 ∨ sgnD d = 0 ∨ sgnD d = 1 := by
  unfold sgnD; split
  · simp
  · split <;> simp

section
variable {A B C : Dy} (oA : dOK A) (oB : dOK B) (oC : dOK C) (bA : Bd (-4000) 5280 A) (bB : Bd (-4000) 5280 B) (bC : Bd (-4000) 5280 C)
include oA oB bA bB
theorem r_add {M : Int} (hM : M ≤ -4000) : iv (addD A B) M = iv A M + iv B M := iv_add oA oB bA bB (by omega) (by omega) (by omega) hM
theorem r_bd : Bd (-4000) 5281 (addD A B) := bd_add oA oB bA bB (by omega)
theorem r_sub {M : Int} (hM : M ≤ -20000) : iv (addD A (oppD B)) M = iv A M - iv B M := by
  rw [r_add oA (ok_opp B) bA (bd_opp bB) (by omega), iv_opp oB hM]; omega
theorem r_comm : addD B A = addD A B := by
  refine iv_inj (ok_add _ _) (ok_add _ _) (M := -20000) (by omega) ?_
  rw [r_add oB oA bB bA (by omega), r_add oA oB bA bB (by omega)]; omega
theorem r_back : addD (addD A B) (oppD B) = A := by
  refine iv_inj (ok_add _ _) oA (M := -20000) (by omega) ?_
  rw [iv_add (ok_add A B) (ok_opp B) (r_bd oA oB bA bB) ((bd_opp bB).mono (by omega) (by omega)) (by omega) (by omega) (by omega) (by omega), r_add oA oB bA bB (by omega), iv_opp oB (by omega)]; omega
theorem r_mul {M M' : Int} (hM : M ≤ -20000) (hM' : M' ≤ -20000) : iv (mulD A B) (M + M') = iv A M * iv B M' :=
  iv_mul bA bB (by omega) (by omega) (by have := (ok_exp oA.1).1; omega) (by have := (ok_exp oB.1).1; omega)
theorem r_mcomm : mulD B A = mulD A B := by
  refine iv_inj (ok_mul _ _) (ok_mul _ _) (M := -20000 + -20000) (by omega) ?_
  rw [r_mul oB oA bB bA (by omega) (by omega), r_mul oA oB bA bB (by omega) (by omega), Int.mul_comm]
theorem r_zero : (sgnD (addD A (oppD B)) == 0) = decide (A = B) := by
  have h := r_sub oA oB bA bB (M := -20000) (by omega)
  rw [sgnD_iv (ok_add _ _) (-20000), h]
  by_cases hAB : A = B
  · subst hAB
    simp [cmp3]
  · have hne : iv A (-20000) ≠ iv B (-20000) := fun h => hAB (iv_inj oA oB (by omega) h)
    unfold cmp3
    simp only [hAB, decide_false]
    by_cases h1 : iv A (-20000) - iv B (-20000) < 0
    · rw [if_pos h1]; rfl
    · rw [if_neg h1, if_pos (by omega)]; rfl
theorem r_anti : sgnD (addD A (oppD B)) = -sgnD (addD B (oppD A)) := by
  rw [sgnD_iv (ok_add _ _) (-20000), sgnD_iv (ok_add _ _) (-20000), r_sub oA oB bA bB (by omega), r_sub oB oA bB bA (by omega)]
  unfold cmp3
  by_cases h1 : iv A (-20000) - iv B (-20000) < 0
  · rw [if_pos h1, if_neg (by omega), if_pos (by omega)]
  · rw [if_neg h1]
    by_cases h2 : 0 < iv A (-20000) - iv B (-20000)
    · rw [if_pos h2, if_pos (by omega)]; rfl
    · rw [if_neg h2, if_neg (by omega), if_neg (by omega)]; rfl
theorem r_same : sgnD (addD (addD A (oppD B)) (oppD zeroD)) = sgnD (addD A (oppD B)) := by
  have b1 := r_bd oA (ok_opp B) bA (bd_opp bB)
  have _ := oB
  rw [sgnD_iv (ok_add _ _) (-20000), sgnD_iv (ok_add _ _) (-20000), iv_add (ok_add A (oppD B)) (ok_opp zeroD) b1 (bd_opp (bd_zero _ _)) (by omega) (by omega) (by omega) (by omega), iv_opp ok_zero (by omega), iv_zero]
  congr 1; omega
include oC bC
theorem r_assoc : addD A (addD B C) = addD (addD A B) C := by
  refine iv_inj (ok_add _ _) (ok_add _ _) (M := -20000) (by omega) ?_
  rw [iv_add oA (ok_add B C) (bA.mono (by omega) (by omega)) (r_bd oB oC bB bC) (by omega) (by omega) (by omega) (by omega), iv_add (ok_add A B) oC (r_bd oA oB bA bB) (bC.mono (by omega) (by omega)) (by omega) (by omega) (by omega) (by omega),
    r_add oB oC bB bC (by omega), r_add oA oB bA bB (by omega)]; omega
theorem r_dist : addD (mulD A C) (mulD B C) = mulD (addD A B) C := by
  have b1 : Bd (-8000) 10560 (mulD A C) := bd_mul bA bC
  have b2 : Bd (-8000) 10560 (mulD B C) := bd_mul bB bC
  refine iv_inj (ok_add _ _) (ok_mul _ _) (M := -20000 + -20000) (by omega) ?_
  rw [iv_add (ok_mul _ _) (ok_mul _ _) b1 b2 (by omega) (by omega) (by omega) (by omega), r_mul oA oC bA bC (by omega) (by omega), r_mul oB oC bB bC (by omega) (by omega),
    iv_mul (r_bd oA oB bA bB) bC (by omega) (by omega) (by have := (ok_exp (ok_add A B).1).1; omega) (by have := (ok_exp oC.1).1; omega), r_add oA oB bA bB (by omega), Int.add_mul]
end

end Go.Proofs.Nt
/- The law DyadFloats as a contract. -/
set_option linter.unusedVariables false
set_option maxRecDepth 20000
set_option linter.unusedSimpArgs false
namespace Go.Proofs.Nt
open Go Go.Proofs Go.Proofs.Va Go.RowKit

theorem negf {b : Nat} (hb : b < 18446744073709551616) : Op.negFloat .f64 b = wd (!fsg b) (frg b) := by
  show b ^^^ 2 ^ 63 = _
  have hs := wd_self hb
  have hl := frg_lt b
  generalize fsg b = s at *
  generalize frg b = r at *
  rw [← hs]
  have hz : r ^^^ 2 ^ 63 = 2 ^ 63 ||| r := by
    apply Nat.eq_of_testBit_eq
    intro i
    rw [Nat.testBit_xor, Nat.testBit_or, Nat.testBit_two_pow]
    by_cases hi : 63 = i
    · subst hi; rw [Nat.testBit_lt_two_pow hl]; rfl
    · simp [hi]
  cases s
  · rw [wd_false, hz, ← hi_or hl]; rfl
  · rw [wd_true, hi_or hl, ← hz, Nat.xor_assoc, Nat.xor_self, Nat.xor_zero]; rfl

theorem iv_from {b : Nat} (h : fin b = true) {M : Int} (hM : M ≤ -1074) : iv (fromD b) M = fval b * ((2 ^ (-1074 - M).toNat : Nat) : Int) := by
  have h' : frg b < 9218868437227405312 := by simpa [fin] using h
  have hm : mg (frg b) < 2 ^ 53 := by
    have : (2 : Nat) ^ 53 = 9007199254740992 := rfl
    unfold mg; split <;> omega
  have h2 := bl_le hm
  have h3 : pl (frg b) ≤ 2045 := by unfold pl; omega
  rw [fromD, if_pos h', iv_norm (by omega) (.inr (by omega))]
  have e : up (mg (frg b)) (-1074 + (pl (frg b) : Nat)) M = vr (frg b) * 2 ^ (-1074 - M).toNat := by
    unfold up vr
    rw [Nat.mul_assoc, ← Nat.pow_add]
    congr 2; omega
  rw [e]
  unfold fval sg
  split <;> simp [Int.neg_mul]

theorem from_neg {b : Nat} (h : fin b = true) (hb : b < 18446744073709551616) : Op.negFloat .f64 b < 18446744073709551616 ∧ fin (Op.negFloat .f64 b) = true ∧ fval (Op.negFloat .f64 b) = -fval b := by
  have hl := frg_lt b
  rw [negf hb]
  refine ⟨wd_lt _ hl, ?_, ?_⟩
  · unfold fin; rw [wd_frg _ hl]; exact h
  · unfold fval
    rw [wd_frg _ hl, wd_fsg _ hl]
    cases fsg b <;> simp

theorem from_bl (b : Nat) : bl (val (fromD b).2.1) ≤ 53 := by
  unfold fromD; split
  · unfold normD; split
    · simp [val, bl_zero]
    · refine bl_le ?_
      show val (ofN (mg (frg b) / 2 ^ tz (mg (frg b)))) < 2 ^ 53
      rw [val_ofN]
      have : (2 : Nat) ^ 53 = 9007199254740992 := rfl
      have hm : mg (frg b) < 9007199254740992 := by unfold mg; split <;> omega
      exact Nat.lt_of_le_of_lt (Nat.div_le_self _ _) (by omega)
  · simp [val, bl_zero]

/-- Of floats that are numbers the dyads stand as they do. -/
theorem from_cmp {x y : Nat} (hx : fin x = true) (hy : fin y = true) : sgnD (addD (fromD x) (oppD (fromD y))) = cmp3 (fval x) (fval y) := by
  have h := iv_add (ok_from x) (ok_opp (fromD y)) (from_bd x) (bd_opp (from_bd y)) (by omega) (by omega) (by omega) (M := -20000) (by omega)
  rw [iv_opp (ok_from y) (by omega), iv_from hx (by omega), iv_from hy (by omega)] at h
  rw [sgnD_iv (ok_add _ _) (-20000), h]
  have hp := Nat.two_pow_pos (-1074 - (-20000 : Int)).toNat
  generalize 2 ^ (-1074 - (-20000 : Int)).toNat = c at *
  have hc : (0 : Int) < (c : Int) := by omega
  have e : fval x * (c : Int) + -(fval y * (c : Int)) = (fval x - fval y) * (c : Int) := by rw [Int.sub_mul]; omega
  rw [e]
  have h1 : (fval x - fval y) * (c : Int) < 0 ↔ fval x < fval y := by
    have := Int.mul_lt_mul_right (a := c) (b := fval x - fval y) (c := 0) hc
    rw [Int.zero_mul] at this
    rw [this]; omega
  have h2 : 0 < (fval x - fval y) * (c : Int) ↔ fval y < fval x := by
    have := Int.mul_lt_mul_right (a := c) (b := 0) (c := fval x - fval y) hc
    rw [Int.zero_mul] at this
    rw [this]; omega
  exact cmp3_congr h1 h2
theorem from_opp {x : Nat} (hx : fin x = true) (hb : x < 18446744073709551616) : addD (fromD x) (fromD (Op.negFloat .f64 x)) = zeroD := by
  obtain ⟨h1, h2, h3⟩ := from_neg hx hb
  refine iv_inj (ok_add _ _) ok_zero (M := -20000) (by omega) ?_
  rw [iv_add (ok_from _) (ok_from _) (from_bd _) (from_bd _) (by omega) (by omega) (by omega) (by omega), iv_from hx (by omega), iv_from h2 (by omega), h3, iv_zero, Int.neg_mul]
  omega

end Go.Proofs.Nt
/- From what can be read as data to what is said of it, for any shape: numbers, floats, texts, structs, arrays, slices. -/
set_option linter.unusedVariables false
set_option linter.unusedSimpArgs false
namespace Go.Proofs.Va
open Go Go.RowKit

/-- What lies in one cell. -/
inductive Sh where
  | bool
  | int (k : IntKind)
  | flt
  | str
  | sl (e : List Sh)

inductive Fit : Sh → AV → Prop
  | bool (b : Bool) : Fit .bool (.v (.bool b))
  | int (k : IntKind) (z : Int) (h : (Lit.int k z).wf = true) : Fit (.int k) (.v (.int k z))
  | flt (b : Nat) (h : b < 18446744073709551616) : Fit .flt (.v (.float .f64 b))
  | str (s : ByteArray) (h : s.size ≤ maxLen) : Fit .str (.v (.string s))
  | sl (es : List Sh) (nl : Bool) (l : List (List AV)) (hnl : nl = true → l = []) (hm : l.length ≤ maxLen) (hlen : ∀ ys ∈ l, ys.length = es.length) (h : ∀ ys ∈ l, ∀ j (hj : j < ys.length) (hj' : j < es.length), Fit es[j] ys[j]) : Fit (.sl es) (.pl nl l.flatten l.length none)

def fieldsSh (P : Program) (rec_ : TypeId → Option (List Sh)) : List Field → Nat → Option (List Sh)
  | [], _ => some []
  | f :: fs, o => if f.offset = o then (match rec_ f.type with
      | some a => (match fieldsSh P rec_ fs (o + a.length) with
        | some b => some (a ++ b)
        | none => none)
      | none => none) else none
def repSh (a : List Sh) : Nat → List Sh
  | 0 => []
  | n + 1 => a ++ repSh a n

/-- The cells of a type. -/
def cellsh (P : Program) : Nat → TypeId → Option (List Sh)
  | 0, _ => none
  | n + 1, t =>
    match (match P.underlying t with
      | some .bool => some [Sh.bool]
      | some (.int k) => some [Sh.int k]
      | some (.float .f64) => some [Sh.flt]
      | some .string => some [Sh.str]
      | some (.slice e) => (cellsh P n e).map fun es => [Sh.sl es]
      | some (.struct fs) => fieldsSh P (cellsh P n) fs.toList 0
      | some (.array k e) => (cellsh P n e).map fun es => repSh es k
      | _ => none) with
    | some s => if s.length = P.cellsOf t then some s else none
    | none => none

theorem cellsh_len {P : Program} {n : Nat} {t : TypeId} {s : List Sh} (h : cellsh P n t = some s) : s.length = P.cellsOf t := by
  cases n with
  | zero => simp [cellsh] at h
  | succ n =>
    simp only [cellsh] at h
    split at h
    · split at h
      · cases h; assumption
      · cases h
    · cases h

theorem mapM_all {α β : Type} {f : α → Option β} : ∀ {l : List α} {r : List β}, l.mapM f = some r → ∀ x ∈ l, ∃ y, f x = some y
  | [], r, h, x, hx => by simp at hx
  | a :: l, r, h, x, hx => by
    rw [List.mapM_cons] at h
    cases ha : f a with
    | none => rw [ha] at h; cases h
    | some b =>
      rw [ha] at h
      cases hl : l.mapM f with
      | none => simp only [Option.bind_eq_bind, Option.bind_some, hl, Option.bind_none] at h; cases h
      | some bs =>
        rcases List.mem_cons.1 hx with rfl | hx
        · exact ⟨b, ha⟩
        · exact mapM_all hl x hx
theorem mapM_len {α β : Type} {f : α → Option β} : ∀ {l : List α} {r : List β}, l.mapM f = some r → r.length = l.length ∧ ∀ i (h : i < l.length) (h' : i < r.length), f l[i] = some r[i]
  | [], r, h => by
    rw [List.mapM_nil] at h
    cases h
    exact ⟨rfl, fun i h => by simp at h⟩
  | a :: l, r, h => by
    rw [List.mapM_cons] at h
    cases ha : f a with
    | none => rw [ha] at h; cases h
    | some b =>
      rw [ha] at h
      cases hl : l.mapM f with
      | none => simp only [Option.bind_eq_bind, Option.bind_some, hl, Option.bind_none] at h; cases h
      | some bs =>
        simp only [Option.bind_eq_bind, Option.bind_some, hl] at h
        cases h
        obtain ⟨h1, h2⟩ := mapM_len hl
        refine ⟨by simp [h1], fun i hi hi' => ?_⟩
        cases i with
        | zero => exact ha
        | succ i => exact h2 i (by simpa using hi) (by simpa using hi')

theorem flatten_get {α : Type} (l : List (List α)) (k : Nat) (h : ∀ ys ∈ l, ys.length = k) : l.flatten.length = l.length * k ∧ ∀ i j (hi : i < l.length) (hj : j < k) (hij : i * k + j < l.flatten.length), l.flatten[i * k + j] = (l[i])[j]'(by rw [h _ (List.getElem_mem hi)]; exact hj) := by
  induction l with
  | nil => exact ⟨by simp, fun i j hi => by simp at hi⟩
  | cons a l ih =>
    obtain ⟨ih1, ih2⟩ := ih fun ys hy => h ys (by simp [hy])
    have ha := h a (by simp)
    refine ⟨by simp [ih1, ha, Nat.succ_mul]; omega, fun i j hi hj hij => ?_⟩
    cases i with
    | zero =>
      simp only [List.flatten_cons, Nat.zero_mul, Nat.zero_add, List.getElem_cons_zero]
      rw [List.getElem_append_left]
    | succ i =>
      have e : (i + 1) * k + j = a.length + (i * k + j) := by rw [Nat.succ_mul, ha]; omega
      simp only [List.flatten_cons, List.getElem_cons_succ]
      rw [List.getElem_append_right (by omega)]
      have e2 : (i + 1) * k + j - a.length = i * k + j := by omega
      simp only [e2]
      exact ih2 i j (by simpa using hi) hj _

section
variable {H : Type} {enc : TypeId × Value → H} {P : Program} {w : World} {sp : Nat → Bool} {held : Bool}

abbrev live (w : World) : Nat → Prop := fun k => k < w.heap.size

/-- A cell list that fits. -/
def Good (w : World) (s : List Sh) (cs : List Value) (o : Nat) : Prop := ∃ xs : List AV, xs.length = s.length ∧ ∀ j (hj : j < s.length) (hx : j < xs.length), Fit s[j] xs[j] ∧ ∃ u, cs[o + j]? = some u ∧ u.oneCell' = true ∧ Rp (live w) w xs[j] u

theorem Good.append {s s' : List Sh} {cs : List Value} {o : Nat} (h : Good w s cs o) (h' : Good w s' cs (o + s.length)) : Good w (s ++ s') cs o := by
  obtain ⟨xs, h1, h2⟩ := h
  obtain ⟨ys, h3, h4⟩ := h'
  refine ⟨xs ++ ys, by simp [h1, h3], fun j hj hx => ?_⟩
  rcases Nat.lt_or_ge j s.length with hlt | hge
  · rw [List.getElem_append_left hlt, List.getElem_append_left (by omega)]
    exact h2 j hlt (by omega)
  · rw [List.getElem_append_right hge, List.getElem_append_right (by omega)]
    simp only [List.length_append] at hj
    obtain ⟨f, u, hu, h5, h6⟩ := h4 (j - s.length) (by omega) (by omega)
    refine ⟨?_, u, by rw [← hu]; congr 1; omega, h5, ?_⟩
    · have e : j - xs.length = j - s.length := by omega
      simp only [e]; exact f
    · have e : j - xs.length = j - s.length := by omega
      simp only [e]; exact h6
theorem Good.nil {cs : List Value} {o : Nat} : Good w [] cs o := ⟨[], rfl, fun j hj => by simp at hj⟩
theorem Good.sub {s : List Sh} {cs : List Value} {o n : Nat} (h : Good w s ((cs.drop o).take n) 0) (hn : s.length ≤ n) : Good w s cs o := by
  obtain ⟨xs, h1, h2⟩ := h
  refine ⟨xs, h1, fun j hj hx => ?_⟩
  obtain ⟨f, u, hu, h5⟩ := h2 j hj hx
  refine ⟨f, u, ?_, h5⟩
  rw [Nat.zero_add, List.getElem?_take_of_lt (by omega), List.getElem?_drop] at hu
  exact hu
theorem Good.one {s : Sh} {x : AV} {u : Value} (hf : Fit s x) (h1 : u.oneCell' = true) (hR : Rp (live w) w x u) : Good w [s] [u] 0 := by
  refine ⟨[x], rfl, fun j hj hx => ?_⟩
  have : j = 0 := by simp at hj; omega
  subst this
  exact ⟨hf, u, rfl, h1, hR⟩

theorem trod_float {fuel : Nat} {t : TypeId} {cs : List Value} {x : DataW H × List MemPlace} (ht : P.underlying t = some (.float .f64)) (h : DataW.trod enc P w 0 sp held fuel t cs = some x) : ∃ b, cs = [.float .f64 b] ∧ b < 18446744073709551616 := by
  cases fuel with
  | zero => simp [DataW.trod] at h
  | succ n =>
    unfold DataW.trod at h
    rw [ht] at h
    split at h <;> first | (simp_all; done) | skip
    rename_i k k' b heq
    cases heq
    split at h
    · rename_i hc
      obtain ⟨rfl, hw⟩ := hc
      exact ⟨b, rfl, by simpa [Lit.wf] using hw⟩
    · cases h

theorem rep_len (a : List Sh) (n : Nat) : (repSh a n).length = n * a.length := by
  induction n with
  | zero => simp [repSh]
  | succ n ih => simp [repSh, ih, Nat.succ_mul]; omega

theorem good_of : ∀ (fuel n : Nat) (t : TypeId) (cs : List Value) (s : List Sh) (x : DataW H × List MemPlace), DataW.trod enc P w 0 sp held fuel t cs = some x → cellsh P n t = some s → Good w s cs 0
  | 0, n, t, cs, s, x, h, hs => by simp [DataW.trod] at h
  | fuel + 1, 0, t, cs, s, x, h, hs => by simp [cellsh] at hs
  | fuel + 1, n + 1, t, cs, s, x, h, hs => by
    have hlen := cellsh_len hs
    have ih := fun (n : Nat) (t : TypeId) (cs : List Value) (s : List Sh) (x : DataW H × List MemPlace) => good_of fuel n t cs s x
    simp only [cellsh] at hs
    split at hs
    · rename_i s' hs'
      have e : s' = s := by
        split at hs
        · cases hs; rfl
        · cases hs
      subst e
      split at hs'
      · rename_i hu
        cases hs'
        obtain ⟨b, rfl, _⟩ := DataW.trod_bool hu h
        exact Good.one (.bool _) rfl (.v _)
      · rename_i k hu
        cases hs'
        obtain ⟨z, rfl, _, hw⟩ := DataW.trod_int hu h
        exact Good.one (.int _ _ hw) rfl (.v _)
      · rename_i hu
        cases hs'
        obtain ⟨b, rfl, hb⟩ := trod_float hu h
        exact Good.one (.flt _ hb) rfl (.v _)
      · rename_i hu
        cases hs'
        obtain ⟨b, rfl, _, hb⟩ := DataW.trod_string hu h
        exact Good.one (.str _ hb) rfl (.v _)
      · rename_i e hu
        obtain ⟨es, hes, rfl⟩ := Option.map_eq_some_iff.1 hs'
        have hel := cellsh_len hes
        rcases DataW.trod_slice hu h with ⟨rfl, _⟩ | ⟨a, len, cap, elems, rest, m, hm, rfl, _, _, hl, hmx, hle, hat, _, _⟩
        · exact Good.one (.sl es true [] (fun _ => rfl) (Nat.zero_le _) (fun ys hy => by simp at hy) (fun ys hy => by simp at hy)) rfl
            (.pl true [] 0 none none 0 0 0 (fun _ => undef) rfl (fun _ => rfl) (Nat.le_refl _) (fun k hk => by cases hk) (fun h => by simp at h) (fun h => by simp at h) (fun j hj => by simp at hj) (fun j hj => by simp at hj) (fun j hj => by simp at hj) (fun k hk => by cases hk))
        · cases hm
          -- the elements, one by one
          have each : ∀ i, i < len → ∃ cs', w.cells? 0 (a.add (i * P.cellsOf e)) (P.cellsOf e) = some cs' ∧ Good w es cs' 0 := by
            intro i hi
            have h1 := hat i hi
            rw [List.getElem?_eq_getElem (by omega)] at h1
            obtain ⟨cs', h2, h3⟩ := Option.bind_eq_some_iff.1 h1
            exact ⟨cs', h2, ih n e cs' es _ h3 hes⟩
          have pick : ∀ i, ∃ ys : List AV, i < len → ys.length = es.length ∧ ∀ j (hj : j < es.length) (hx : j < ys.length), Fit es[j] ys[j] ∧ ∃ u, w.cell? ((a.add (i * P.cellsOf e)).add j) = some u ∧ u.oneCell' = true ∧ Rp (live w) w ys[j] u := by
            intro i
            by_cases hi : i < len
            · obtain ⟨cs', h2, xs, h3, h4⟩ := each i hi
              refine ⟨xs, fun _ => ⟨h3, fun j hj hx => ?_⟩⟩
              obtain ⟨hf, u, hu, h5⟩ := h4 j hj hx
              obtain ⟨_, q2, q3⟩ := World.cells?_some h2
              rw [Nat.zero_add] at hu
              exact ⟨hf, u, by rw [q3 j (by omega)]; exact hu, h5⟩
            · exact ⟨[], fun h => absurd h hi⟩
          obtain ⟨f, hf⟩ : ∃ f : Nat → List AV, ∀ i, i < len → (f i).length = es.length ∧ ∀ j (hj : j < es.length) (hx : j < (f i).length), Fit es[j] (f i)[j] ∧ ∃ u, w.cell? ((a.add (i * P.cellsOf e)).add j) = some u ∧ u.oneCell' = true ∧ Rp (live w) w (f i)[j] u :=
            ⟨fun i => (pick i).choose, fun i => (pick i).choose_spec⟩
          have hmem : ∀ ys ∈ (List.range len).map f, ys.length = es.length := by
            intro ys hy
            obtain ⟨i, hi, rfl⟩ := List.mem_map.1 hy
            exact (hf i (List.mem_range.1 hi)).1
          obtain ⟨fl1, fl2⟩ := flatten_get ((List.range len).map f) es.length hmem
          have hll : ((List.range len).map f).length = len := by simp
          have cell : ∀ q, q < ((List.range len).map f).flatten.length → ∃ (hq : q < ((List.range len).map f).flatten.length) (u : Value), w.cell? (a.add q) = some u ∧ u.oneCell' = true ∧ Rp (live w) w (((List.range len).map f).flatten[q]) u := by
            intro q hq
            refine ⟨hq, ?_⟩
            rw [fl1, hll] at hq
            have hpos : 0 < es.length := by
              rcases Nat.eq_zero_or_pos es.length with h0 | h0
              · rw [h0] at hq; omega
              · exact h0
            obtain ⟨i, j, rfl, hi, hj⟩ : ∃ i j, q = i * es.length + j ∧ i < len ∧ j < es.length :=
              ⟨q / es.length, q % es.length, by rw [Nat.mul_comm]; exact (Nat.div_add_mod q es.length).symm, Nat.div_lt_of_lt_mul (by rw [Nat.mul_comm]; exact hq), Nat.mod_lt _ hpos⟩
            obtain ⟨h1, h2⟩ := hf i hi
            obtain ⟨_, u, hu, h3, h4⟩ := h2 j hj (by omega)
            have hidx := fl2 i j (by omega) hj (by rw [fl1, hll]; exact hq)
            refine ⟨u, ?_, h3, ?_⟩
            · rw [hel]
              have ea : (a.add (i * P.cellsOf e)).add j = a.add (i * P.cellsOf e + j) := by
                unfold Addr.add
                by_cases h0 : i * P.cellsOf e = 0
                · simp [h0]
                · by_cases hj0 : j = 0
                  · simp [h0, hj0]
                  · simp [h0, hj0, Nat.add_assoc]
              rw [← ea]; exact hu
            · rw [hidx]
              simpa using h4
          refine Good.one (x := .pl false ((List.range len).map f).flatten len none) ?_ rfl ?_
          · have := Fit.sl es false ((List.range len).map f) (fun h => by cases h) (by rw [hll]; omega) hmem (by
              intro ys hy j hj hj'
              obtain ⟨i, hi, rfl⟩ := List.mem_map.1 hy
              exact ((hf i (List.mem_range.1 hi)).2 j hj' hj).1)
            rw [hll] at this
            exact this
          · rcases Nat.eq_zero_or_pos ((List.range len).map f).flatten.length with h0 | h0
            · refine .pl false _ len none (some a) cap 0 0 (fun _ => undef) rfl (fun h => by cases h) hl (fun k hk => by cases hk) (fun h => by omega) (fun h => by omega) (fun j hj => by omega) (fun j hj => by omega) (fun j hj => by omega) (fun k hk => by cases hk)
            · obtain ⟨b, off, spot⟩ := a
              obtain ⟨_, u0, hu0, _⟩ := cell 0 h0
              have hspot : spot = none := by simpa [Addr.add] using World.cell?_spot hu0
              subst hspot
              have hlt : b < w.heap.size := by
                rcases Nat.lt_or_ge b w.heap.size with h2 | h2
                · exact h2
                · simp [World.cell?, Addr.add, Array.getElem?_eq_none h2] at hu0
              have pk : ∀ q, ∃ u : Value, q < ((List.range len).map f).flatten.length → w.cell? ⟨b, off + q, none⟩ = some u ∧ u.oneCell' = true ∧ ∀ hq : q < ((List.range len).map f).flatten.length, Rp (live w) w (((List.range len).map f).flatten[q]) u := by
                intro q
                by_cases hq : q < ((List.range len).map f).flatten.length
                · obtain ⟨_, u, h1, h2, h3⟩ := cell q hq
                  exact ⟨u, fun _ => ⟨by rw [← add_lit]; exact h1, h2, fun _ => h3⟩⟩
                · exact ⟨undef, fun h => absurd h hq⟩
              obtain ⟨us, hus⟩ : ∃ us : Nat → Value, ∀ q, q < ((List.range len).map f).flatten.length → w.cell? ⟨b, off + q, none⟩ = some (us q) ∧ (us q).oneCell' = true ∧ ∀ hq : q < ((List.range len).map f).flatten.length, Rp (live w) w (((List.range len).map f).flatten[q]) (us q) :=
                ⟨fun q => (pk q).choose, fun q => (pk q).choose_spec⟩
              exact .pl false _ len none (some ⟨b, off, none⟩) cap b off us rfl (fun h => by cases h) hl (fun k hk => by cases hk) (fun _ => rfl) (fun _ => hlt) (fun j hj => (hus j hj).1) (fun j hj => (hus j hj).2.1) (fun j hj => (hus j hj).2.2 hj) (fun k hk => by cases hk)
      · rename_i fs hu
        obtain ⟨xs, m, hm, _, hcl, hxl, hat⟩ := DataW.trod_struct hu h
        cases hm
        have key : ∀ (l : List Field) (o : Nat) (s : List Sh), fieldsSh P (cellsh P n) l o = some s → (∀ f ∈ l, ∃ y, DataW.trod enc P w 0 sp held fuel f.type ((cs.drop f.offset).take (P.cellsOf f.type)) = some y) → Good w s cs o := by
          intro l
          induction l with
          | nil => intro o s hs _; cases hs; exact Good.nil
          | cons f l ihl =>
            intro o s hs hall
            simp only [fieldsSh] at hs
            split at hs
            · rename_i ho
              split at hs
              · rename_i a' ha'
                split at hs
                · rename_i b' hb'
                  cases hs
                  obtain ⟨y, hy⟩ := hall f (by simp)
                  have g1 := ih n f.type _ a' y hy ha'
                  rw [← ho]
                  refine Good.append (g1.sub (by rw [cellsh_len ha']; exact Nat.le_refl _)) ?_
                  rw [ho]
                  exact ihl _ b' hb' fun g hg => hall g (by simp [hg])
                · cases hs
              · cases hs
            · cases hs
        refine key fs.toList 0 s' hs' fun f hf => ?_
        obtain ⟨i, hi⟩ := List.getElem?_of_mem hf
        rw [Array.getElem?_toList] at hi
        have h1 := hat i f hi
        rw [List.getElem?_eq_getElem (by have := (Array.getElem?_eq_some_iff.1 hi).1; omega)] at h1
        exact ⟨_, h1⟩
      · rename_i k e hu
        obtain ⟨es, hes, rfl⟩ := Option.map_eq_some_iff.1 hs'
        have hel := cellsh_len hes
        obtain ⟨xs, m, hm, _, hcl, hxl, hat⟩ := DataW.trod_array hu h
        cases hm
        have key : ∀ (r i0 : Nat), i0 + r = k → Good w (repSh es r) cs (i0 * es.length) := by
          intro r
          induction r with
          | zero => intro i0 _; exact Good.nil
          | succ r ihr =>
            intro i0 hi0
            have h1 := hat i0 (by omega)
            rw [List.getElem?_eq_getElem (by omega), ← hel] at h1
            have g1 := ih n e _ es _ h1 hes
            refine Good.append (g1.sub (Nat.le_refl _)) ?_
            have := ihr (i0 + 1) (by omega)
            rwa [Nat.succ_mul] at this
        have := key k 0 (by omega)
        rwa [Nat.zero_mul] at this
      · cases hs'
    · cases hs

/-- An argument of one cell; an argument of many. -/
def Arg1 (s : Sh) (w : World) (v : Value) : Prop := ∃ x, Fit s x ∧ Rp (live w) w x v
def ArgA (s : List Sh) (w : World) (v : Value) : Prop := ∃ xs : List AV, xs.length = s.length ∧ (∀ j (hj : j < s.length) (hx : j < xs.length), Fit s[j] xs[j]) ∧ Rp (live w) w (.agg xs) v

theorem arg1_of {t : TypeId} {v : Value} {d : DataW H} {ps : List MemPlace} {s : Sh} (n : Nat) (hc : v.cells = #[v]) (h : DataW.Trod enc P w 0 sp held t v d ps) (hs : cellsh P n t = some [s]) : Arg1 s w v := by
  obtain ⟨fuel, hf⟩ := h
  obtain ⟨xs, h1, h2⟩ := good_of fuel n t _ _ _ hf hs
  rw [hc] at h2
  match xs, h1 with
  | [x], _ =>
    obtain ⟨f, u, hu, _, hR⟩ := h2 0 (by simp) (by simp)
    simp at hu
    subst hu
    exact ⟨x, f, hR⟩
theorem argA_of {t : TypeId} {cs : Array Value} {d : DataW H} {ps : List MemPlace} {s : List Sh} (n : Nat) (h : DataW.Trod enc P w 0 sp held t (.agg cs) d ps) (hcs : cs.size = P.cellsOf t) (hs : cellsh P n t = some s) : ArgA s w (.agg cs) := by
  obtain ⟨fuel, hf⟩ := h
  obtain ⟨xs, h1, h2⟩ := good_of fuel n t _ _ _ hf hs
  have hl := cellsh_len hs
  refine ⟨xs, h1, fun j hj hx => (h2 j hj hx).1, .agg xs cs (by omega) (fun j hj => ?_) (fun j hj => ?_)⟩
  · obtain ⟨_, u, hu, h3, _⟩ := h2 j (by omega) hj
    rw [Nat.zero_add] at hu
    have : cs[j]? = some u := by simpa [Value.cells] using hu
    simpa [Array.getD_eq_getD_getElem?, this] using h3
  · obtain ⟨_, u, hu, _, h3⟩ := h2 j (by omega) hj
    rw [Nat.zero_add] at hu
    have : cs[j]? = some u := by simpa [Value.cells] using hu
    simpa [Array.getD_eq_getD_getElem?, this] using h3
end
theorem okWide_array {P : Program} {w : World} {r : Reach} {base : Nat} {t : TypeId} {v : Value} {n : Nat} {e : TypeId} (ht : P.underlying t = some (.array n e)) (h : Value.okWide P w r base t v) : ∃ cs, v = .agg cs ∧ cs.size = P.cellsOf t := by
  simp only [Value.okWide, ht] at h
  obtain ⟨cs, h1, h2, _⟩ := h
  exact ⟨cs, h1, h2⟩
end Go.Proofs.Va
/- The Dyad laws, from a row's arguments. -/
set_option linter.unusedVariables false
set_option maxRecDepth 20000
set_option linter.unusedSimpArgs false
namespace Go.Proofs.Nt
open Go Go.Proofs Go.Proofs.Va Go.RowKit

theorem fit_list {s : Sh} {β : Type} (g : β → AV) (Q : β → Prop) (h : ∀ x, Fit s x → ∃ b, Q b ∧ x = g b) {x : AV} (hx : Fit (.sl [s]) x) :
    ∃ (nl : Bool) (l : List β), (∀ b ∈ l, Q b) ∧ l.length ≤ maxLen ∧ x = .pl (nl && l.isEmpty) (l.map g) l.length none := by
  cases hx with
  | sl _ nl l hnl hm hlen hf =>
    have key : ∀ l : List (List AV), (∀ ys ∈ l, ys.length = 1) → (∀ ys ∈ l, ∀ j (hj : j < ys.length) (hj' : j < [s].length), Fit [s][j] ys[j]) → ∃ b : List β, (∀ c ∈ b, Q c) ∧ l.flatten = b.map g ∧ b.length = l.length := by
      intro l
      induction l with
      | nil => intro _ _; exact ⟨[], by simp, rfl, rfl⟩
      | cons ys l ih =>
        intro h1 h2
        obtain ⟨b, hb, e1, e2⟩ := ih (fun y hy => h1 y (by simp [hy])) (fun y hy => h2 y (by simp [hy]))
        have hl := h1 ys (by simp)
        match ys, hl with
        | [y], _ =>
          have hfy := h2 [y] (by simp) 0 (by simp) (by simp)
          obtain ⟨c, hc, rfl⟩ := h y hfy
          exact ⟨c :: b, by simpa using ⟨hc, hb⟩, by simp [e1], by simp [e2]⟩
    obtain ⟨b, hb, e1, e2⟩ := key l hlen hf
    refine ⟨nl, b, hb, by omega, ?_⟩
    rw [e1, ← e2]
    cases nl with
    | false => rfl
    | true =>
      have hl0 : b.length = 0 := by rw [e2, hnl rfl]; rfl
      have hb0 : b = [] := List.eq_nil_of_length_eq_zero hl0
      subst hb0; rfl

theorem fit_nat {x : AV} (hx : Fit (.sl [.int .u32]) x) : ∃ nl a, Dig a ∧ x = sl nl a none := by
  obtain ⟨nl, l, h1, _, h2⟩ := fit_list dg (fun b => b < 4294967296) (fun x hx => by
    cases hx with
    | int _ z h =>
      have e := Go.bounds_u32 h
      exact ⟨z.toNat, by omega, by simp; omega⟩) hx
  exact ⟨nl, l, h1, h2⟩
theorem fit_fls {x : AV} (hx : Fit (.sl [.flt]) x) : ∃ nl l, Fl l ∧ x = fsl nl l none := by
  obtain ⟨nl, l, h1, _, h2⟩ := fit_list fl (fun b => b < 18446744073709551616) (fun x hx => by
    cases hx with
    | flt b h => exact ⟨b, h, rfl⟩) hx
  exact ⟨nl, l, h1, h2⟩

abbrev dySh : List Sh := [.bool, .sl [.int .u32], .int .i64]
/-- A dyad that came in. -/
theorem fit_dy {xs : List AV} (hl : xs.length = dySh.length) (h : ∀ j (hj : j < dySh.length) (hx : j < xs.length), Fit dySh[j] xs[j]) : ∃ neg nl a e, Dig a ∧ xs = [bo neg, sl nl a none, i e] := by
  match xs, hl with
  | [x, y, z], _ =>
    have h0 := h 0 (by simp) (by simp)
    have h1 := h 1 (by simp) (by simp)
    have h2 := h 2 (by simp) (by simp)
    simp only [List.getElem_cons_zero, List.getElem_cons_succ] at h0 h1 h2
    cases h0 with
    | bool neg =>
      cases h2 with
      | int _ e he =>
        obtain ⟨nl, a, ha, rfl⟩ := fit_nat h1
        exact ⟨neg, nl, a, e, ha, rfl⟩
theorem arg_dy {w : World} {v : Value} (h : ArgA dySh w v) : ∃ neg nl a e, Dig a ∧ Rp (live w) w (dy neg nl a none e) v := by
  obtain ⟨xs, h1, h2, h3⟩ := h
  obtain ⟨neg, nl, a, e, ha, rfl⟩ := fit_dy h1 h2
  exact ⟨neg, nl, a, e, ha, h3⟩
theorem arg_fl {w : World} {v : Value} (h : Arg1 .flt w v) : ∃ b, b < 18446744073709551616 ∧ Rp (live w) w (fl b) v := by
  obtain ⟨x, hx, hR⟩ := h
  cases hx with
  | flt b hb => exact ⟨b, hb, hR⟩
theorem arg_i64 {w : World} {v : Value} (h : Arg1 (.int .i64) w v) : ∃ z, (-9223372036854775808 ≤ z ∧ z ≤ 9223372036854775807) ∧ Rp (live w) w (i z) v := by
  obtain ⟨x, hx, hR⟩ := h
  cases hx with
  | int _ z hz => exact ⟨z, Go.bounds_i64 hz, hR⟩
theorem arg_fls {w : World} {v : Value} (h : Arg1 (.sl [.flt]) w v) : ∃ nl l, Fl l ∧ Rp (live w) w (fsl nl l none) v := by
  obtain ⟨x, hx, hR⟩ := h
  obtain ⟨nl, l, hl, rfl⟩ := fit_fls hx
  exact ⟨nl, l, hl, hR⟩

end Go.Proofs.Nt
