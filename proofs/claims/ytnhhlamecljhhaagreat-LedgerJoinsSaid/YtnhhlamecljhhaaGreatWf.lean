import Derived.Test.YtnhhlamecljhhaaGreatWa
import Derived.Test.YtnhhlamecljhhaaGreatWb
import Derived.Test.YtnhhlamecljhhaaGreatWc
import Derived.Test.YtnhhlamecljhhaaGreatWd
import Derived.Test.YtnhhlamecljhhaaGreatWe
/- Dyads: the answers that the document gives. -/
set_option linter.unusedVariables false
set_option maxRecDepth 20000
set_option linter.unusedSimpArgs false
namespace Go.Proofs.Nt
open Go Go.Proofs Go.Proofs.Va Go.RowKit

end Go.Proofs.Nt
/- Dyads: 'live' answers true. -/
set_option linter.unusedVariables false
set_option maxRecDepth 20000
set_option linter.unusedSimpArgs false
namespace Go.Proofs.Nt
open Go Go.Proofs Go.Proofs.Va Go.RowKit

theorem dig1 {m : Nat} (h : m < 4294967296) : Dig [m] := by intro x hx; simp at hx; subst hx; exact h
theorem pur_fsl {σ : AHeap} {S : Nat → Prop} {j v : Nat} {l : List Nat} {n : Nat} {cap : Option Nat} {k : BK} (hb : σ[j]? = some ⟨k, v, l.map fl⟩) (hk : k ≠ .dead) (hn : n = l.length) (hS : S j) : Pur σ S (.so j v 0 n 1 cap) (fsl false l cap) := by
  subst hn
  refine .so j v 0 l.length 1 cap ⟨k, v, l.map fl⟩ _ hb rfl hk hS (by simp) (by simp) fun q hq => ?_
  simp only [List.length_map] at hq
  show Pur σ S ((l.map fl).getD (0 + q) .any) _
  rw [Nat.zero_add, getD_eq (by simpa using hq)]
  exact .same _ (by simp)

end Go.Proofs.Nt
/- The laws DyadTells, DyadCounts, DyadSums as contracts. -/
set_option linter.unusedVariables false
set_option maxRecDepth 20000
set_option linter.unusedSimpArgs false
namespace Go.Proofs.Nt
open Go Go.Proofs Go.Proofs.Va Go.RowKit


@[simp] theorem pu_ag3 (x y : Value) (nl : Bool) (a : List Nat) (cap : Option Nat) : Pu (.agg [.v x, sl nl a cap, .v y]) := pu_agg (by simp [sl])
@[simp] theorem pu_ag4 (x y : Value) : Pu (.agg [.v x, .pl true [] 0 (some 0), .v y]) := pu_agg (by simp)

/-! ### Contracts of dyads that may be -/
section
variable {d d' : Dy} {n n' : Bool} {c c' : Option Nat}
theorem addX (o : dOK d) (l : d.2.1.length ≤ 1000) (o' : dOK d') (l' : d'.2.1.length ≤ 1000) : Ctr Tryz.prog 35 [dy d.1 n d.2.1 c d.2.2, dy d'.1 n' d'.2.1 c' d'.2.2] (dTold (addD d d')) := by
  have h := add3_ctr d.1 n d'.1 n' d.2.1 d'.2.1 c c' d.2.2 d'.2.2 o.2 o'.2 l l'
  rwa [may_of_ok o.1, may_of_ok o'.1] at h
theorem mulX (o : dOK d) (l : d.2.1.length ≤ 1000) (o' : dOK d') (l' : d'.2.1.length ≤ 1000) : Ctr Tryz.prog 31 [dy d.1 n d.2.1 c d.2.2, dy d'.1 n' d'.2.1 c' d'.2.2] (dTold (mulD d d')) := by
  have h := mul3_ctr d.1 n d'.1 n' d.2.1 d'.2.1 c c' d.2.2 d'.2.2 o.2 o'.2 l l'
  rwa [may_of_ok o.1, may_of_ok o'.1] at h
/-- A dyad, below 0. -/
def oppD (d : Dy) : Dy := negD d.1 d.2.1 d.2.2
theorem ok_opp (d : Dy) : dOK (oppD d) := ok_norm _ _ _
theorem cmpX (o : dOK d) (l : d.2.1.length ≤ 1000) (o' : dOK d') (l' : d'.2.1.length ≤ 1000) : Ctr Tryz.prog 67 [dy d.1 n d.2.1 c d.2.2, dy d'.1 n' d'.2.1 c' d'.2.2] (fun r => r = i (sgnD (addD d (oppD d')))) := by
  have h := dcmp_ctr d.1 n d'.1 n' d.2.1 d'.2.1 c c' d.2.2 d'.2.2 o.2 o'.2 l l'
  rwa [may_of_ok o.1] at h
theorem sameX (l : d.2.1.length ≤ 1000) (l' : d'.2.1.length ≤ 1000) : Ctr Tryz.prog 15 [dy d.1 n d.2.1 c d.2.2, dy d'.1 n' d'.2.1 c' d'.2.2] (fun r => r = bo (decide (d = d'))) := by
  have h := same3_ctr d.1 n d'.1 n' d.2.1 d'.2.1 c c' d.2.2 d'.2.2 (by omega) (by omega)
  have e : (d.1 == d'.1 && decide (d.2.2 = d'.2.2) && (d.2.1 == d'.2.1)) = decide (d = d') := by
    obtain ⟨g, a, e⟩ := d
    obtain ⟨g', a', e'⟩ := d'
    rw [Bool.eq_iff_iff]
    simp only [Bool.and_eq_true, beq_iff_eq, decide_eq_true_eq, Prod.mk.injEq]
    constructor
    · rintro ⟨⟨h1, h2⟩, h3⟩; exact ⟨h1, h3, h2⟩
    · rintro ⟨h1, h2, h3⟩; exact ⟨⟨h1, h3⟩, h2⟩
  rwa [e] at h
end

theorem iv_opp {d : Dy} (o : dOK d) {M : Int} (hM : M ≤ -20000) : iv (oppD d) M = -iv d M := by
  have h := iv_neg (neg := d.1) (e := d.2.2) o.2 hM
  rwa [may_of_ok o.1] at h
theorem bd_opp {L H : Int} {d : Dy} (h : Bd L H d) : Bd L H (oppD d) := bd_neg h

theorem opp_may {neg : Bool} {a : List Nat} {e : Int} : oppD (mayD neg a e) = negD neg a e := by
  unfold oppD negD
  rw [may_of_ok (may_ok neg a e)]

/-- What the difference tells is how they stand. -/
theorem cmp_agree {L H : Int} {d d' : Dy} (o : dOK d) (o' : dOK d') (h : Bd L H d) (h' : Bd L H d') (hL : L ≤ 0) (hL2 : -20000 ≤ L) (hH : H < 20000) : sgnD (addD d (oppD d')) = cmpD d d' := by
  have e1 := iv_add o (ok_opp d') h (bd_opp h') hL hL2 hH (M := -20000) hL2
  rw [iv_opp o' (Int.le_refl _)] at e1
  rw [sgnD_iv (ok_add _ _) (-20000), cmpD_iv o o' (Int.le_refl _), e1]
  exact cmp3_congr (by omega) (by omega)

end Go.Proofs.Nt
/- The laws DyadCounts and DyadSums as contracts. -/
set_option linter.unusedVariables false
set_option maxRecDepth 20000
set_option linter.unusedSimpArgs false
namespace Go.Proofs.Nt
open Go Go.Proofs Go.Proofs.Va Go.RowKit

end Go.Proofs.Nt
/- The law DyadRules as a contract. -/
set_option linter.unusedVariables false
set_option maxRecDepth 20000
set_option linter.unusedSimpArgs false
namespace Go.Proofs.Nt
open Go Go.Proofs Go.Proofs.Va Go.RowKit

section
variable {A B C : Dy} (oA : dOK A) (oB : dOK B) (oC : dOK C) (bA : Bd (-4000) 5280 A) (bB : Bd (-4000) 5280 B) (bC : Bd (-4000) 5280 C)
include oA oB bA bB
include oC bC
end

end Go.Proofs.Nt
/- The law DyadFloats as a contract. -/
set_option linter.unusedVariables false
set_option maxRecDepth 20000
set_option linter.unusedSimpArgs false
namespace Go.Proofs.Nt
open Go Go.Proofs Go.Proofs.Va Go.RowKit

theorem iv_from {b : Nat} (h : fin b = true) {M : Int} (hM : M ≤ -1074) : iv (fromD b) M = fval b * ((2 ^ (-1074 - M).toNat : Nat) : Int) := by
  have h' : frg b < 9218868437227405312 := by simpa [fin] using h
  have hm : mg (frg b) < 2 ^ 53 := by
    have : (2 : Nat) ^ 53 = 9007199254740992 := rfl
    unfold mg; split <;> omega
  have h2 := bl_le hm
  have h3 : pl (frg b) ≤ 2045 := by unfold pl; omega
  rw [fromD, if_pos h', iv_norm (by omega) (.inr (by omega))]
  have e : up (mg (frg b)) (-1074 + (pl (frg b) : Nat)) M = vr (frg b) * 2 ^ (-1074 - M).toNat := by
    unfold up vr
    rw [Nat.mul_assoc, ← Nat.pow_add]
    congr 2; omega
  rw [e]
  unfold fval sg
  split <;> simp [Int.neg_mul]

end Go.Proofs.Nt
