import Derived.Test.YtnhhlamecljhhaaGreatWa
import Derived.Test.YtnhhlamecljhhaaGreatWb
import Derived.Test.YtnhhlamecljhhaaGreatWc
import Derived.Test.YtnhhlamecljhhaaGreatWd
import Derived.Test.YtnhhlamecljhhaaGreatWe
import Derived.Test.YtnhhlamecljhhaaGreatWf
/- Plain mathematics: rounding to floats, of numbers, quotients and roots. -/
set_option linter.unusedVariables false
set_option linter.unusedSimpArgs false
namespace Go.Proofs.Nt
open Go Go.Proofs

/-! ### Quotients -/
/-! ### Roots -/
end Go.Proofs.Nt
/- Plain mathematics: floats of integers, their order, how near they are. -/
set_option linter.unusedVariables false
set_option linter.unusedSimpArgs false
namespace Go.Proofs.Nt
open Go Go.Proofs

/-! ### Order -/
/-! ### How near -/
end Go.Proofs.Nt
/- Floats: the float of a mantissa and an exponent. -/
set_option linter.unusedVariables false
set_option maxRecDepth 20000
set_option linter.unusedSimpArgs false
namespace Go.Proofs.Nt
open Go Go.Proofs Go.Proofs.Va Go.RowKit

theorem nearW_word (m : Nat) (p : Int) : ∃ r, r ≤ 9218868437227405312 ∧ ∀ s, nearW s m p = wd s r := by
  unfold nearW
  by_cases h : m = 0
  · exact ⟨0, by omega, fun s => by rw [if_pos h]; rfl⟩
  · exact ⟨_, Nat.min_le_right _ _, fun s => by rw [if_neg h]; rfl⟩
theorem nearW_sign (s : Bool) (m : Nat) (p : Int) : nearW s m p = wd s (frg (nearW false m p)) := by
  obtain ⟨r, h1, h2⟩ := nearW_word m p
  rw [h2, h2, wd_frg _ (by omega)]
theorem nearW_lt (s : Bool) (m : Nat) (p : Int) : nearW s m p < 18446744073709551616 := by
  obtain ⟨r, h1, h2⟩ := nearW_word m p
  rw [h2]; exact wd_lt s (by omega)
/-- A number of few digits, made a float, and that times a power of two. -/
theorem whole_ld {m : Nat} (h0 : m ≠ 0) (h : m < 9007199254740992) (k : Int) : frg (nearW false m 0) < 9218868437227405312 ∧ ldW (nearW false m 0) k = nearW false m k := by
  have h1 := Nat.log2_self_le h0
  have h2 := log2_lt m
  have hl : m.log2 < 53 := (Nat.log2_lt h0).2 h
  have h3 : 4503599627370496 ≤ m * 2 ^ (52 - m.log2) := by
    have := Nat.mul_le_mul_right (2 ^ (52 - m.log2)) h1
    rwa [← Nat.pow_add, show m.log2 + (52 - m.log2) = 52 by omega] at this
  have h4 : m * 2 ^ (52 - m.log2) < 9007199254740992 := by
    have := Nat.mul_lt_mul_of_pos_right h2 (Nat.two_pow_pos (52 - m.log2))
    rwa [← Nat.pow_add, show m.log2 + 1 + (52 - m.log2) = 53 by omega] at this
  obtain ⟨g, hg⟩ : ∃ g, g = 52 - m.log2 := ⟨_, rfl⟩
  rw [← hg] at h3 h4
  have e1 := nearW_scale false m g 0
  have e2 := nearW_scale false m g k
  have e3 : nearW false m 0 = (1074 - g) * 4503599627370496 + m * 2 ^ g := by
    rw [← e1, nearW_norm false h3 h4 (by omega), show ((0 : Int) - (g : Int) + 1074).toNat = 1074 - g by omega, Nat.min_eq_left (by omega)]
    rfl
  rw [e3]
  generalize m * 2 ^ g = M at *
  have hf : frg ((1074 - g) * 4503599627370496 + M) = (1074 - g) * 4503599627370496 + M := Nat.mod_eq_of_lt (by omega)
  have hs : fsg ((1074 - g) * 4503599627370496 + M) = false := by rw [← hf]; exact fsg_frg _
  refine ⟨by rw [hf]; omega, ?_⟩
  have em : mg ((1074 - g) * 4503599627370496 + M) = M := by unfold mg; rw [if_neg (by omega)]; omega
  have ep : pl ((1074 - g) * 4503599627370496 + M) = 1074 - g := by unfold pl; omega
  unfold ldW
  rw [hf, hs, em, ep, show -1074 + ((1074 - g : Nat) : Int) + k = k - (g : Int) by omega, e2]

theorem copysign2_ctr {b c : Nat} (hb : b < 18446744073709551616) (hc : c < 18446744073709551616) : Ctr Tryz.prog 130 [fl b, fl c] (fun r => r = fl (wd (fsg c) (frg b))) := by
  refine ctr_val Tryz.func130 rfl (by kernel_rfl) rfl (by simp) fun K hK => ?_
  simp [Tryz.f130] at hK ⊢
  refine acall_by (bits_ctr b) (by simp) ?_
  rintro _ rfl
  simp
  refine acall_by (bits_ctr c) (by simp) ?_
  rintro _ rfl
  have hl := frg_lt b
  have e0 : bAndNot .u64 (b : Int) 9223372036854775808 = ((frg b : Nat) : Int) := by
    have := andNot_u64 (x := b) (m := 9223372036854775808) (c := 9223372036854775807) hb (by decide)
    rw [and_rung] at this; exact this
  have hx : c &&& 9223372036854775808 = wd (fsg c) 0 := by
    have hl := frg_lt c
    have hs := wd_self hc
    generalize fsg c = s at *
    generalize frg c = r at *
    rw [← hs]
    cases s
    · rw [wd_false, wd_false]; exact and_hi hl
    · rw [wd_true, wd_true, hi_or hl]
      show (2 ^ 63 ||| r) &&& 2 ^ 63 = _
      rw [Nat.and_or_distrib_right, Nat.and_self, and_hi hl]; rfl
  have e1 : bAnd .u64 (c : Int) 9223372036854775808 = ((wd (fsg c) 0 : Nat) : Int) := by
    have := bAnd_u64 (x := c) (y := 9223372036854775808) hc (by decide)
    rw [hx] at this
    exact this
  have hw := wd_lt (fsg c) (show 0 < 9223372036854775808 by decide)
  have hw2 := wd_lt (fsg c) hl
  have e2 : bOr .u64 ((frg b : Nat) : Int) ((wd (fsg c) 0 : Nat) : Int) = ((wd (fsg c) (frg b) : Nat) : Int) := by
    have := bOr_u64 (x := frg b) (y := wd (fsg c) 0) (by omega) hw
    rw [this]
    congr 1
    generalize fsg c = s
    cases s
    · rw [wd_false, wd_false, Nat.or_zero]
    · rw [wd_true, wd_true, hi_or hl, Nat.or_comm]
  simp [e0, e1, wu' hw, wu' (show frg b < 18446744073709551616 by omega), e2, wu' hw2]
  refine acall_by (frombits_ctr _) (by simp) ?_
  rintro _ rfl
  simp
  exact hK _

theorem and_one {q : Nat} (h : q < 18446744073709551616) : IntKind.u64.wrap (bAnd .u64 (q : Int) 1) = ((q % 2 : Nat) : Int) := by
  have := bAnd_u64 (x := q) (y := 1) h (by decide)
  rw [show (1 : Int) = ((1 : Nat) : Int) from rfl, this, Nat.and_one_is_mod, wu' (by omega)]

end Go.Proofs.Nt
/- Round: the float of a part. -/
set_option linter.unusedVariables false
set_option maxRecDepth 20000
set_option linter.unusedSimpArgs false
namespace Go.Proofs.Nt
open Go Go.Proofs Go.Proofs.Va Go.RowKit

/-- A part, as a value. -/
def pt (neg nl : Bool) (a : List Nat) (cap : Option Nat) (e : Int) (r : Bool) : AV := .agg [bo neg, sl nl a cap, i e, bo r]
end Go.Proofs.Nt
/- Round: the float of a number, by definition; sticky; Same of floats. -/
set_option linter.unusedVariables false
set_option maxRecDepth 20000
set_option linter.unusedSimpArgs false
namespace Go.Proofs.Nt
open Go Go.Proofs Go.Proofs.Va Go.RowKit

/-- Whether two floats are the same: by their words, but that all NaNs are. -/
def sameF (x y : Nat) : Prop := (9218868437227405312 < frg x ∧ 9218868437227405312 < frg y) ∨ x = y
end Go.Proofs.Nt
/- Round: may, Float, Quo. -/
set_option linter.unusedVariables false
set_option maxRecDepth 20000
set_option linter.unusedSimpArgs false
namespace Go.Proofs.Nt
open Go Go.Proofs Go.Proofs.Va Go.RowKit

set_option linter.unnecessarySimpa false
/-- The digits of a dyad that may be are those of its number. -/
theorem ok_ofN {d : Dy} (h : dOK d) : d.2.1 = ofN (val d.2.1) := by
  obtain ⟨g, a, e⟩ := d
  obtain ⟨h, ha⟩ := h
  simp only at h ha ⊢
  by_cases h0 : a = []
  · subst h0; simp [val, ofN]
  · rw [dOk, if_neg h0] at h
    simp only [Bool.and_eq_true, decide_eq_true_eq, beq_iff_eq] at h
    rw [← trim_ofN ha, h.1.1.1]
theorem ok_zero_iff {d : Dy} (h : dOK d) : d.2.1 = [] ↔ val d.2.1 = 0 := by
  refine ⟨fun h0 => by rw [h0]; rfl, fun h0 => by rw [ok_ofN h, h0]; simp [ofN]⟩
theorem ok_zero_eq {d : Dy} (h : dOK d) (h0 : val d.2.1 = 0) : d = zeroD := by
  have h1 := (ok_zero_iff h).2 h0
  obtain ⟨g, a, e⟩ := d
  simp only at h1
  subst h1
  obtain ⟨rfl, rfl⟩ := zero_of h.1
  rfl

/-! ### Quotients -/
end Go.Proofs.Nt
/- Round: Root. -/
set_option linter.unusedVariables false
set_option maxRecDepth 20000
set_option linter.unusedSimpArgs false
set_option linter.unnecessarySimpa false
namespace Go.Proofs.Nt
open Go Go.Proofs Go.Proofs.Va Go.RowKit

theorem and_one_i (x : Int) : IntKind.i64.wrap (bAnd .i64 x 1) = x % 2 := by
  have h : bAnd .i64 x 1 = x % 2 := by
    show (((BitVec.ofInt 64 x &&& BitVec.ofInt 64 1 : BitVec 64).toNat : Nat) : Int) = _
    rw [BitVec.toNat_and, BitVec.toNat_ofInt, show (BitVec.ofInt 64 1).toNat = 1 from rfl, Nat.and_one_is_mod]
    omega
  rw [h]; exact w64 _ (by omega) (by omega)

end Go.Proofs.Nt
/- Round: Within. -/
set_option linter.unusedVariables false
set_option maxRecDepth 20000
set_option linter.unusedSimpArgs false
set_option linter.unnecessarySimpa false
namespace Go.Proofs.Nt
open Go Go.Proofs Go.Proofs.Va Go.RowKit

/-- Half of the least float, in the units that dyads are counted in here. -/
def bigE : Nat := 18925
def big : Nat := 2 ^ bigE
def absX (d : Dy) : Dy := absD d.1 d.2.1 d.2.2
theorem ok_absX (d : Dy) : dOK (absX d) := ok_norm _ _ _
theorem bd_absX {L H : Int} {d : Dy} (h : Bd L H d) : Bd L H (absX d) := bd_abs h
theorem iv_absX {d : Dy} (o : dOK d) {M : Int} (hM : M ≤ -20000) : iv (absX d) M = ((iv d M).natAbs : Int) := by
  have h := iv_abs (neg := d.1) (e := d.2.2) o.2 hM
  rwa [may_of_ok o.1] at h
theorem absC {d : Dy} {n : Bool} {c : Option Nat} (o : dOK d) (l : d.2.1.length ≤ 3000) : Ctr Tryz.prog 65 [dy d.1 n d.2.1 c d.2.2] (dTold (absX d)) := abs_ctr d.1 n d.2.1 c d.2.2 o.2 l

theorem bd_num {n : Nat} {e : Int} (h : bl n ≤ 60) : Bd e (e + 60) (normD false n e) := bd_norm false (.inr ⟨Int.le_refl _, by omega⟩)

theorem told_ex (d : Dy) : dTold d (dy d.1 true d.2.1 (some 0) d.2.2) := ⟨true, some 0, rfl⟩
end Go.Proofs.Nt
/- Plain mathematics: the float of an integer is near to it; a float's own dyad. -/
set_option linter.unusedVariables false
set_option maxRecDepth 20000
set_option linter.unusedSimpArgs false
namespace Go.Proofs.Nt
open Go Go.Proofs

end Go.Proofs.Nt
/- Plain mathematics: Go's sum, difference and product of floats. -/
set_option linter.unusedVariables false
set_option maxRecDepth 20000
set_option linter.unusedSimpArgs false
namespace Go.Proofs.Nt
open Go Go.Proofs

end Go.Proofs.Nt
/- Plain mathematics: Go's quotient and root of floats. -/
set_option linter.unusedVariables false
set_option maxRecDepth 20000
set_option linter.unusedSimpArgs false
namespace Go.Proofs.Nt
open Go Go.Proofs

/-! ### Roots -/
theorem rootFrom_ok (n : Nat) : ∀ (todo root : Nat), root * root ≤ n → n < (root + 2 ^ todo) * (root + 2 ^ todo) → IsRoot n (Ieee.Datum.rootFrom n todo root)
  | 0, root, h1, h2 => by simp only [Ieee.Datum.rootFrom]; exact ⟨h1, by simpa using h2⟩
  | todo + 1, root, h1, h2 => by
    have e : root + 1 <<< todo = root + 2 ^ todo := by rw [Nat.one_shiftLeft]
    simp only [Ieee.Datum.rootFrom, e]
    have e2 : root + 2 ^ (todo + 1) = root + 2 ^ todo + 2 ^ todo := by rw [Nat.pow_succ]; omega
    rw [e2] at h2
    split
    · rename_i h; exact rootFrom_ok n todo _ h h2
    · rename_i h; exact rootFrom_ok n todo _ h1 (by omega)
theorem rootFrom_all (n : Nat) : IsRoot n (Ieee.Datum.rootFrom n (n.log2 / 2 + 1) 0) := by
  refine rootFrom_ok n _ 0 (by omega) ?_
  have h := log2_lt n
  rw [Nat.zero_add, ← Nat.pow_add]
  exact Nat.lt_of_lt_of_le h (Nat.pow_le_pow_right (by decide) (by omega))

end Go.Proofs.Nt
/- Round: the root of Go's library; the answers that the document gives. -/
set_option linter.unusedVariables false
set_option maxRecDepth 20000
set_option linter.unusedSimpArgs false
set_option linter.unnecessarySimpa false
namespace Go.Proofs.Nt
open Go Go.Proofs Go.Proofs.Va Go.RowKit

theorem sqrt_ctr {x w : Nat} (h : Ieee.double.sqrt x = some w) : Ctr Tryz.prog 133 [fl x] (fun r => r = fl w) :=
  ctr_ext (fn := Tryz.f133) (e := Extern.MathSqrt.sqrt) Tryz.func133 rfl (by kernel_rfl) (by kernel_rfl) (by kernel_rfl) fun fz w' vs hr => by
    rw [rpl_one hr]
    have e : Extern.MathSqrt.sqrt #[.float .f64 x] = (match Ieee.double.sqrt x with
      | some r => pure (.float .f64 r)
      | none => do pure (.float .f64 (← choose (.nanBits .f64 x x)))) := rfl
    refine ⟨.float .f64 w, _, ?_, rfl, .v _⟩
    rw [e, h]; rfl
theorem Sqrt_ctr {x w : Nat} (h : Ieee.double.sqrt x = some w) : Ctr Tryz.prog 116 [fl x] (fun r => r = fl w) := by
  refine ctr_val Tryz.func116 rfl (by kernel_rfl) rfl (by simp) fun K hK => ?_
  simp [Tryz.f116] at hK ⊢
  refine acall_by (sqrt_ctr h) (by simp) ?_
  rintro _ rfl
  simp
  exact hK _

end Go.Proofs.Nt
/- The laws RoundParts, RoundStays, RoundAdds as contracts. -/
set_option linter.unusedVariables false
set_option maxRecDepth 20000
set_option linter.unusedSimpArgs false
set_option linter.unnecessarySimpa false
namespace Go.Proofs.Nt
open Go Go.Proofs Go.Proofs.Va Go.RowKit

theorem same_self (x : Nat) : sameF x x := .inr rfl
end Go.Proofs.Nt
