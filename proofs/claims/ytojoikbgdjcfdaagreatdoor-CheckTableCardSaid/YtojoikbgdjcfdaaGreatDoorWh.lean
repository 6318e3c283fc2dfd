import Derived.Test.YtojoikbgdjcfdaaGreatDoorWa
import Derived.Test.YtojoikbgdjcfdaaGreatDoorWb
import Derived.Test.YtojoikbgdjcfdaaGreatDoorWc
import Derived.Test.YtojoikbgdjcfdaaGreatDoorWd
import Derived.Test.YtojoikbgdjcfdaaGreatDoorWe
import Derived.Test.YtojoikbgdjcfdaaGreatDoorWf
import Derived.Test.YtojoikbgdjcfdaaGreatDoorWg
/- Round: Within of any dyad; the document's powers of two and multiples. -/
set_option linter.unusedVariables false
set_option maxRecDepth 20000
set_option linter.unusedSimpArgs false
set_option linter.unnecessarySimpa false
namespace Go.Proofs.Nt
open Go Go.Proofs Go.Proofs.Va Go.RowKit

theorem absX_may {neg : Bool} {a : List Nat} {e : Int} : absX (mayD neg a e) = absD neg a e := by
  unfold absX absD
  rw [may_of_ok (may_ok neg a e)]
section
variable {d d' : Dy} {n n' : Bool} {c c' : Option Nat}
end

end Go.Proofs.Nt
/- The document's powers of two, multiples, Within; the law RoundTells as a contract. -/
set_option linter.unusedVariables false
set_option maxRecDepth 20000
set_option linter.unusedSimpArgs false
set_option linter.unnecessarySimpa false
namespace Go.Proofs.Nt
open Go Go.Proofs Go.Proofs.Va Go.RowKit

def powD (k : Int) : Dy := normD false 1 k
theorem ok_pow (k : Int) : dOK (powD k) := ok_norm _ _ _
theorem bd_pow (k : Int) : Bd k (k + 60) (powD k) := bd_num (by decide)
def timesD (d : Dy) (k : Int) : Dy := mulD d (normD false k.toNat 0)
theorem ok_times (d : Dy) (k : Int) : dOK (timesD d k) := ok_mul _ _

theorem bl_i63 {k : Int} (h : k < 9223372036854775808) : bl k.toNat ≤ 63 := bl_le (Nat.lt_of_lt_of_le (show k.toNat < 9223372036854775808 by omega) (by decide))
theorem times_len (k : Int) (h : k < 9223372036854775808) : (normD false k.toNat 0).2.1.length ≤ 900 := by
  have : (ofN k.toNat).length ≤ 2 := ofN_u64 (by omega)
  exact norm_len (by omega)
theorem norm_exp {L : Int} (g : Bool) (n : Nat) {e : Int} (h : L ≤ e) (h0 : L ≤ 0) : L ≤ (normD g n e).2.2 := by
  unfold normD
  split
  · exact h0
  · show L ≤ e + _; omega

/-- The document's Within comes to the same. -/
theorem rwithin_iv {d : Dy} {k : Int} (o : dOK d) (hb : Bd (-9000) 9000 d) (hk : 0 ≤ k ∧ k ≤ 1000000) :
    mulD (timesD (absX d) k) (powD (-53)) = mulD (normD false k.toNat (-53)) (absX d) := by
  have bk : bl k.toNat ≤ 60 := bl_le (Nat.lt_of_le_of_lt (show k.toNat ≤ 1000000 by omega) (by decide))
  have b1 := bd_num (n := k.toNat) (e := -53) bk
  have b0 := bd_num (n := k.toNat) (e := 0) bk
  have ba := bd_absX hb
  have bt : Bd (-9000) 9060 (timesD (absX d) k) := (bd_mul ba b0).mono (by omega) (by omega)
  have oa := ok_absX d
  have xa := ok_exp oa.1
  have hn1 : -53 ≤ (normD false k.toNat (-53)).2.2 := norm_exp _ _ (by omega) (by omega)
  have hn0 : 0 ≤ (normD false k.toNat 0).2.2 := norm_exp _ _ (by omega) (by omega)
  have hnp : -53 ≤ (powD (-53)).2.2 := norm_exp _ _ (by omega) (by omega)
  have ht : -20000 ≤ (timesD (absX d) k).2.2 := (ok_exp (ok_times _ _).1).1
  refine iv_inj (ok_mul _ _) (ok_mul _ _) (M := -20053) (by omega) ?_
  have e0 : (-20053 : Int) = -20000 + -53 := by omega
  have e1 : (-20053 : Int) = -53 + -20000 := by omega
  have e2 : (-20000 : Int) = -20000 + 0 := by omega
  rw [show iv (mulD (normD false k.toNat (-53)) (absX d)) (-20053) = (k.toNat : Int) * iv (absX d) (-20000) by
    rw [e1, iv_mul b1 ba (by omega) (by omega) hn1 (by omega), iv_norm (by omega) (.inr (by omega)), up_self, sg_f]]
  rw [e0, iv_mul bt (bd_pow _) (by omega) (by omega) ht hnp]
  unfold timesD powD
  rw [e2, iv_mul ba b0 (by omega) (by omega) (by omega) hn0, iv_norm (g := false) (n := k.toNat) (by omega) (.inr (by omega)), up_self, sg_f,
    iv_norm (g := false) (n := 1) (by omega) (.inr (by have : bl 1 ≤ 1 := bl_le (by decide); omega)), up_self, sg_f, Int.add_zero, Int.mul_comm]
  rw [Int.natCast_one, Int.one_mul, Int.mul_comm]

end Go.Proofs.Nt
/- Near: the norm from above, in plain Lean. -/
set_option linter.unusedVariables false
set_option maxRecDepth 20000
set_option linter.unusedSimpArgs false
namespace Go.Proofs.Nt
open Go Go.Proofs

/-- The root, rounded down. -/
def isq (n : Nat) : Nat := Ieee.Datum.rootFrom n (n.log2 / 2 + 1) 0
theorem isq_root (n : Nat) : IsRoot n (isq n) := rootFrom_all n
theorem IsRoot.isq {n s : Nat} (h : IsRoot n s) : s = isq n := h.unique (isq_root n)

def cutU (n : Nat) (e : Int) : Int := ((bl n : Int) - 128) + (e + ((bl n : Int) - 128)) % 2
def cutN (n : Nat) (c : Int) : Nat := if 0 < c then n / 2 ^ c.toNat + 1 else n * 2 ^ (-c).toNat
def upN' (n : Nat) (e : Int) : Dy := normD false (isq (cutN n (cutU n e)) + 1) ((e + cutU n e) / 2)
/-- The norm of a dyad, from above. -/
def upD (D : Dy) : Dy := if D.1 = true ∨ val D.2.1 = 0 then zeroD else upN' (val D.2.1) D.2.2
theorem ok_up (D : Dy) : dOK (upD D) := by
  unfold upD; split
  · exact ok_zero
  · exact ok_norm _ _ _

theorem cutU_even (n : Nat) (e : Int) : (e + cutU n e) % 2 = 0 := by unfold cutU; omega
theorem cutU_bl (n : Nat) (e : Int) : cutU n e = (bl n : Int) - 128 ∨ cutU n e = (bl n : Int) - 127 := by unfold cutU; omega

theorem lt_of_bl {n k : Nat} (h : bl n ≤ k) : n < 2 ^ k := Nat.lt_of_lt_of_le (bl_high n) (Nat.pow_le_pow_right (by decide) h)
theorem le_of_bl {n k : Nat} (h0 : n ≠ 0) (h : k < bl n) : 2 ^ k ≤ n := Nat.le_trans (Nat.pow_le_pow_right (by decide) (by omega)) (bl_low h0)

/-- What is rooted has at most 129 digits, and 127 at least. -/
theorem cutN_bounds {n : Nat} (h0 : n ≠ 0) (e : Int) : cutN n (cutU n e) ≤ 2 ^ 128 ∧ 2 ^ 126 ≤ cutN n (cutU n e) := by
  have hb := cutU_bl n e
  have h1 := bl_low h0
  have h2 := bl_high n
  generalize cutU n e = c at *
  unfold cutN
  by_cases hc : 0 < c
  · rw [if_pos hc]
    have hp := Nat.two_pow_pos c.toNat
    constructor
    · have : n / 2 ^ c.toNat < 2 ^ 128 := by
        rw [Nat.div_lt_iff_lt_mul hp, ← Nat.pow_add]
        exact Nat.lt_of_lt_of_le h2 (Nat.pow_le_pow_right (by decide) (by omega))
      omega
    · have : 2 ^ 126 ≤ n / 2 ^ c.toNat := by
        rw [Nat.le_div_iff_mul_le hp, ← Nat.pow_add]
        exact Nat.le_trans (Nat.pow_le_pow_right (by decide) (by omega)) h1
      omega
  · rw [if_neg hc]
    have hp := Nat.two_pow_pos (-c).toNat
    constructor
    · have : n * 2 ^ (-c).toNat < 2 ^ (bl n) * 2 ^ (-c).toNat := Nat.mul_lt_mul_of_pos_right h2 hp
      rw [← Nat.pow_add] at this
      exact Nat.le_of_lt (Nat.lt_of_lt_of_le this (Nat.pow_le_pow_right (by decide) (by omega)))
    · have := Nat.mul_le_mul_right (2 ^ (-c).toNat) h1
      rw [← Nat.pow_add] at this
      exact Nat.le_trans (Nat.pow_le_pow_right (by decide) (by omega)) this

theorem isq_bounds {n : Nat} (h0 : n ≠ 0) (e : Int) : isq (cutN n (cutU n e)) ≤ 2 ^ 64 ∧ 2 ^ 63 ≤ isq (cutN n (cutU n e)) + 1 := by
  obtain ⟨h1, h2⟩ := cutN_bounds h0 e
  obtain ⟨r1, r2⟩ := isq_root (cutN n (cutU n e))
  generalize cutN n (cutU n e) = m at *
  generalize isq m = s at *
  constructor
  · rcases Nat.lt_or_ge (2 ^ 64) s with h | h
    · have := Nat.mul_lt_mul'' h h
      have e : (2 : Nat) ^ 64 * 2 ^ 64 = 2 ^ 128 := by decide
      omega
    · exact h
  · rcases Nat.lt_or_ge (s + 1) (2 ^ 63) with h | h
    · have := Nat.mul_lt_mul'' h h
      have e : (2 : Nat) ^ 63 * 2 ^ 63 = 2 ^ 126 := by decide
      omega
    · exact h

theorem up_room {n : Nat} (h0 : n ≠ 0) {e : Int} : 64 ≤ bl (isq (cutN n (cutU n e)) + 1) ∧ bl (isq (cutN n (cutU n e)) + 1) ≤ 66 := by
  obtain ⟨h1, h2⟩ := isq_bounds h0 e
  generalize isq (cutN n (cutU n e)) = s at *
  constructor
  · rcases Nat.lt_or_ge (bl (s + 1)) 64 with h | h
    · have := lt_of_bl (n := s + 1) (k := 63) (by omega)
      omega
    · exact h
  · refine bl_le ?_
    have : (2 : Nat) ^ 66 = 4 * 2 ^ 64 := by decide
    have : 1 ≤ 2 ^ 64 := by decide
    omega

theorem bd_upN {n : Nat} (h0 : n ≠ 0) {e : Int} (h : Bn (-9000) 9000 n e) : Bn (-4600) 4600 (isq (cutN n (cutU n e)) + 1) ((e + cutU n e) / 2) := by
  obtain ⟨h1, h2⟩ : -9000 ≤ e ∧ e + bl n ≤ 9000 := by
    rcases h with h | h
    · exact absurd h h0
    · exact h
  obtain ⟨r1, r2⟩ := up_room h0 (e := e)
  have hb := cutU_bl n e
  have hp : 1 ≤ bl n := by
    rcases Nat.eq_zero_or_pos (bl n) with h | h
    · have := lt_of_bl (n := n) (k := 0) (by omega)
      omega
    · exact h
  exact .inr ⟨by omega, by omega⟩
theorem bd_up {D : Dy} (h : Bd (-9000) 9000 D) : Bd (-4600) 4600 (upD D) := by
  unfold upD; split
  · exact bd_zero _ _
  · rename_i h0
    exact bd_norm _ (bd_upN (fun h => h0 (.inr h)) h)

theorem iv_up {n : Nat} (h0 : n ≠ 0) {e : Int} (h : Bn (-9000) 9000 n e) {M : Int} (hM : M ≤ -4600) :
    iv (upN' n e) M = (((isq (cutN n (cutU n e)) + 1) * 2 ^ ((e + cutU n e) / 2 - M).toNat : Nat) : Int) := by
  obtain ⟨b1, b2⟩ : -4600 ≤ (e + cutU n e) / 2 ∧ (e + cutU n e) / 2 + bl (isq (cutN n (cutU n e)) + 1) ≤ 4600 := by
    rcases bd_upN h0 h with h | h
    · omega
    · exact h
  unfold upN'
  rw [iv_norm (by omega) (.inr (by omega)), sg_f]; rfl

/-- The square is above, but not by much. -/
theorem up_square {n : Nat} (h0 : n ≠ 0) {e : Int} (h : Bn (-9000) 9000 n e) {M : Int} (hM : M ≤ -10000) :
    up n e (2 * M) < ((isq (cutN n (cutU n e)) + 1) * 2 ^ ((e + cutU n e) / 2 - M).toNat) * ((isq (cutN n (cutU n e)) + 1) * 2 ^ ((e + cutU n e) / 2 - M).toNat) ∧
    ((isq (cutN n (cutU n e)) + 1) * 2 ^ ((e + cutU n e) / 2 - M).toNat) * ((isq (cutN n (cutU n e)) + 1) * 2 ^ ((e + cutU n e) / 2 - M).toNat) * 2 ^ 50 ≤ up n e (2 * M) * (2 ^ 50 + 1) := by
  obtain ⟨b1, b2⟩ : -4600 ≤ (e + cutU n e) / 2 ∧ (e + cutU n e) / 2 + bl (isq (cutN n (cutU n e)) + 1) ≤ 4600 := by
    rcases bd_upN h0 h with h | h
    · omega
    · exact h
  obtain ⟨g1, g2⟩ : -9000 ≤ e ∧ e + bl n ≤ 9000 := by
    rcases h with h | h
    · exact absurd h h0
    · exact h
  have hev := cutU_even n e
  have hcb := cutU_bl n e
  obtain ⟨i1, i2⟩ := isq_bounds h0 e
  obtain ⟨r1, r2⟩ := isq_root (cutN n (cutU n e))
  have hlow := bl_low h0
  generalize hc : cutU n e = c at *
  generalize hs : isq (cutN n c) = s at *
  have hsq : ((s + 1) * 2 ^ ((e + c) / 2 - M).toNat) * ((s + 1) * 2 ^ ((e + c) / 2 - M).toNat) = (s + 1) * (s + 1) * 2 ^ (e + c - 2 * M).toNat := by
    rw [Nat.mul_mul_mul_comm, ← Nat.pow_add]
    congr 2; omega
  rw [hsq]
  have hsm : (s + 1) * (s + 1) = s * s + (2 * s + 1) := by rw [Nat.add_mul, Nat.mul_add]; omega
  unfold up
  by_cases hc0 : 0 < c
  · have hm : cutN n c = n / 2 ^ c.toNat + 1 := by unfold cutN; rw [if_pos hc0]
    rw [hm] at r1 r2
    have hpc := Nat.two_pow_pos c.toNat
    have hd := Nat.div_add_mod n (2 ^ c.toNat)
    have hr := Nat.mod_lt n hpc
    generalize n / 2 ^ c.toNat = q at *
    generalize n % 2 ^ c.toNat = t at *
    have e1 : 2 ^ (e + c - 2 * M).toNat = 2 ^ c.toNat * 2 ^ (e - 2 * M).toNat := by rw [← Nat.pow_add]; congr 1; omega
    rw [e1, ← Nat.mul_assoc]
    have hp := Nat.two_pow_pos (e - 2 * M).toNat
    have hn126 : 2 ^ 126 * 2 ^ c.toNat ≤ n := by
      rw [← Nat.pow_add]
      exact Nat.le_trans (Nat.pow_le_pow_right (by decide) (by omega)) hlow
    generalize 2 ^ (e - 2 * M).toNat = p at *
    generalize 2 ^ c.toNat = C at *
    have k1 : n < (s + 1) * (s + 1) * C := by
      have : (q + 1) * C ≤ (s + 1) * (s + 1) * C := Nat.mul_le_mul_right _ (by omega)
      rw [Nat.add_mul, Nat.one_mul, Nat.mul_comm q] at this
      omega
    have k2 : (s + 1) * (s + 1) * C * 2 ^ 50 ≤ n * (2 ^ 50 + 1) := by
      have l1 : (s + 1) * (s + 1) * C ≤ (q + 1 + (2 * s + 1)) * C := Nat.mul_le_mul_right _ (by omega)
      have l2 : (q + 1 + (2 * s + 1)) * C = C * q + (2 * s + 2) * C := by rw [show q + 1 + (2 * s + 1) = q + (2 * s + 2) by omega, Nat.add_mul, Nat.mul_comm q]
      have l3 : (2 * s + 2) * 2 ^ 50 * C ≤ 2 ^ 126 * C := Nat.mul_le_mul_right _ (by
        have : (2 * s + 2) * 2 ^ 50 ≤ (2 ^ 65 + 2) * 2 ^ 50 := Nat.mul_le_mul_right _ (by have h65 : (2:Nat) ^ 65 = 2 * 2 ^ 64 := (by decide); omega)
        exact Nat.le_trans this (by decide))
      have l4 : (2 * s + 2) * C * 2 ^ 50 = (2 * s + 2) * 2 ^ 50 * C := by rw [Nat.mul_assoc, Nat.mul_comm C, ← Nat.mul_assoc]
      generalize (s + 1) * (s + 1) = Q at *
      have l5 : Q * C * 2 ^ 50 ≤ (n + (2 * s + 2) * C) * 2 ^ 50 := Nat.mul_le_mul_right _ (by omega)
      rw [Nat.add_mul, l4] at l5
      rw [Nat.mul_add, Nat.mul_one]
      omega
    exact ⟨Nat.mul_lt_mul_of_pos_right k1 hp, by
      have := Nat.mul_le_mul_right p k2
      rw [Nat.mul_right_comm _ (2 ^ 50) p, Nat.mul_right_comm n (2 ^ 50 + 1) p] at this
      exact this⟩
  · have hm : cutN n c = n * 2 ^ (-c).toNat := by unfold cutN; rw [if_neg hc0]
    have hb := cutN_bounds h0 e
    rw [hc, hm] at hb
    rw [hm] at r1 r2
    have e1 : n * 2 ^ (e - 2 * M).toNat = n * 2 ^ (-c).toNat * 2 ^ (e + c - 2 * M).toNat := by rw [Nat.mul_assoc, ← Nat.pow_add]; congr 2; omega
    rw [e1]
    have hp := Nat.two_pow_pos (e + c - 2 * M).toNat
    generalize 2 ^ (e + c - 2 * M).toNat = p at *
    generalize n * 2 ^ (-c).toNat = m at *
    have k2 : (s + 1) * (s + 1) * 2 ^ 50 ≤ m * (2 ^ 50 + 1) := by
      generalize (s + 1) * (s + 1) = Q at *
      have l5 : Q * 2 ^ 50 ≤ (m + (2 * s + 1)) * 2 ^ 50 := Nat.mul_le_mul_right _ (by omega)
      have l3 : (2 * s + 1) * 2 ^ 50 ≤ (2 ^ 65 + 1) * 2 ^ 50 := Nat.mul_le_mul_right _ (by have h65 : (2:Nat) ^ 65 = 2 * 2 ^ 64 := (by decide); omega)
      have l4 : (2 ^ 65 + 1) * 2 ^ 50 ≤ 2 ^ 126 := by decide
      have l6 : (2 * s + 1) * 2 ^ 50 ≤ m := Nat.le_trans (Nat.le_trans l3 l4) hb.2
      rw [Nat.add_mul] at l5
      rw [Nat.mul_add, Nat.mul_one]
      exact Nat.le_trans l5 (Nat.add_le_add_left l6 _)
    exact ⟨Nat.mul_lt_mul_of_pos_right r2 hp, by
      have := Nat.mul_le_mul_right p k2
      rw [Nat.mul_right_comm _ (2 ^ 50) p, Nat.mul_right_comm m (2 ^ 50 + 1) p] at this
      exact this⟩
end Go.Proofs.Nt
/- Near: the norm from above. -/
set_option linter.unusedVariables false
set_option maxRecDepth 20000
set_option linter.unusedSimpArgs false
set_option linter.unnecessarySimpa false
namespace Go.Proofs.Nt
open Go Go.Proofs Go.Proofs.Va Go.RowKit

theorem iv_pos_iff {D : Dy} (M : Int) : 0 < iv D M ↔ ¬ (D.1 = true ∨ val D.2.1 = 0) := by
  unfold iv
  by_cases h0 : val D.2.1 = 0
  · rw [h0, up_zero]
    cases D.1
    · rw [sg_f]; simp
    · rw [sg_t]; simp
  · have h := up_pos' h0 D.2.2 M
    generalize up (val D.2.1) D.2.2 M = x at *
    cases D.1
    · rw [sg_f]; simp [h0]; omega
    · rw [sg_t]; simp
theorem neg_zero : negD false [] 0 = zeroD := by
  have : mayD false [] 0 = zeroD := may_of_ok (d := zeroD) (by decide)
  unfold negD
  rw [this]; decide
theorem sgn_zero {D : Dy} (o : dOK D) (b : Bd (-9000) 9000 D) : sgnD (addD D zeroD) ≤ 0 ↔ (D.1 = true ∨ val D.2.1 = 0) := by
  have hz : oppD zeroD = zeroD := by decide
  have h := cmp_agree o ok_zero b (bd_zero _ _) (by omega) (by omega) (by omega)
  rw [hz] at h
  rw [h, cmpD_iv o ok_zero (M := -20000) (by omega), iv_zero]
  have h2 := iv_pos_iff (D := D) (-20000)
  generalize iv D (-20000) = x at *
  constructor
  · intro h3
    apply Classical.byContradiction
    intro h4
    have := h2.2 h4
    unfold cmp3 at h3
    rw [if_neg (by omega), if_pos (by omega)] at h3
    omega
  · intro h3
    have : ¬ 0 < x := fun h4 => h2.1 h4 h3
    unfold cmp3
    by_cases h5 : x < 0
    · rw [if_pos h5]; omega
    · rw [if_neg h5, if_neg this]; omega

theorem cut_len {n : Nat} (h0 : n ≠ 0) (e : Int) : (ofN (cutN n (cutU n e))).length ≤ 5 ∧ (ofN (isq (cutN n (cutU n e)) + 1)).length ≤ 3 ∧ (ofN (isq (cutN n (cutU n e)))).length ≤ 3 := by
  obtain ⟨h1, _⟩ := cutN_bounds h0 e
  obtain ⟨h2, _⟩ := isq_bounds h0 e
  have k1 : (2 : Nat) ^ 128 < 4294967296 ^ 5 := by decide
  have k2 : (2 : Nat) ^ 64 + 1 < 4294967296 ^ 3 := by decide
  exact ⟨ofN_le (by omega) (Nat.le_refl _), ofN_le (by omega) (Nat.le_refl _), ofN_le (by omega) (Nat.le_refl _)⟩

end Go.Proofs.Nt
/- Near: bounds. -/
set_option linter.unusedVariables false
set_option maxRecDepth 20000
set_option linter.unusedSimpArgs false
set_option linter.unnecessarySimpa false
namespace Go.Proofs.Nt
open Go Go.Proofs Go.Proofs.Va Go.RowKit

theorem iv_times {X : Dy} {L H : Int} (h : Bd L H X) (hL : -20000 ≤ L) (hH : H ≤ 19940) {k : Int} (hk : bl k.toNat ≤ 60) {M : Int} (hM : M ≤ X.2.2) : iv (timesD X k) M = iv X M * (k.toNat : Int) := by
  have b0 := bd_num (n := k.toNat) (e := 0) hk
  have hn0 : 0 ≤ (normD false k.toNat 0).2.2 := norm_exp _ _ (by omega) (by omega)
  unfold timesD
  have := iv_mul h b0 (M := M) (M' := 0) (by omega) (by omega) hM hn0
  rw [Int.add_zero] at this
  rw [this, iv_norm (by omega) (.inr (by omega)), up_self, sg_f]
theorem bd_times {X : Dy} {L H : Int} (h : Bd L H X) {k : Int} (hk : bl k.toNat ≤ 60) : Bd L (H + 60) (timesD X k) := by
  have := bd_mul h (bd_num (n := k.toNat) (e := 0) hk)
  exact this.mono (by omega) (by omega)
theorem iv_num {n : Nat} {e M : Int} (h : bl n ≤ 60) (he : -19900 ≤ e ∧ e ≤ 19900) (hM : M ≤ e) : iv (normD false n e) M = ((n * 2 ^ (e - M).toNat : Nat) : Int) := by
  rw [iv_norm hM (.inr (by omega)), sg_f]; rfl

/-- Some times, times a power of two. -/
theorem tp_eq {X : Dy} (o : dOK X) (h : Bd (-9300) 9300 X) {k e : Int} (hk : bl k.toNat ≤ 60) (he : -3000 ≤ e ∧ e ≤ 0) : mulD (timesD X k) (powD e) = mulD (normD false k.toNat e) X := by
  have xX := ok_exp o.1
  have b1 : bl 1 ≤ 60 := by decide
  have hp : e ≤ (powD e).2.2 := norm_exp _ _ (by omega) (by omega)
  have hn : e ≤ (normD false k.toNat e).2.2 := norm_exp _ _ (by omega) (by omega)
  have ht : -20000 ≤ (timesD X k).2.2 := (ok_exp (ok_times _ _).1).1
  refine iv_inj (ok_mul _ _) (ok_mul _ _) (M := -20000 + e) (by omega) ?_
  rw [iv_mul ((bd_times h hk).mono (L' := -9300) (H' := 9360) (by omega) (by omega)) ((bd_pow e).mono (L' := -3000) (H' := 60) (by omega) (by omega)) (by omega) (by omega) ht hp,
    iv_times h (by omega) (by omega) hk (by omega)]
  unfold powD
  rw [iv_num b1 (by omega) (Int.le_refl _)]
  rw [Int.add_comm (-20000) e, iv_mul ((bd_num (e := e) hk).mono (L' := -3000) (H' := 60) (by omega) (by omega)) h (by omega) (by omega) hn (by omega), iv_num hk (by omega) (Int.le_refl _)]
  rw [Int.sub_self, Int.toNat_zero, Nat.pow_zero, Nat.mul_one, Nat.mul_one, Int.natCast_one, Int.mul_one, Int.mul_comm]

def bigK : Nat := 17913
def boundD (A B : Dy) (k : Int) : Dy := addD (addD (mulD (normD false (64 * k).toNat (-53)) (mulD A B)) (mulD (normD false k.toNat (-1060)) (addD A B))) (normD false (k * k).toNat (-2140))
theorem ok_bound (A B : Dy) (k : Int) : dOK (boundD A B k) := ok_add _ _

section
variable {A B : Dy} {k : Int} (hk : 0 ≤ k ∧ k ≤ 100000) (oA : dOK A) (oB : dOK B) (bA : Bd (-4600) 4600 A) (bB : Bd (-4600) 4600 B)
include hk
theorem kk_le : 0 ≤ k * k ∧ k * k ≤ 10000000000 := by
  obtain ⟨n, rfl⟩ : ∃ n : Nat, k = n := ⟨k.toNat, by omega⟩
  have : n * n ≤ 100000 * 100000 := Nat.mul_le_mul (by omega) (by omega)
  rw [← Int.natCast_mul]
  omega
theorem bl_k : bl k.toNat ≤ 60 := bl_le (Nat.lt_of_le_of_lt (show k.toNat ≤ 100000 by omega) (by decide))
theorem bl_64k : bl (64 * k).toNat ≤ 60 := bl_le (Nat.lt_of_le_of_lt (show (64 * k).toNat ≤ 6400000 by omega) (by decide))
theorem bl_kk : bl (k * k).toNat ≤ 60 := bl_le (Nat.lt_of_le_of_lt (show (k * k).toNat ≤ 10000000000 by have := kk_le hk; omega) (by decide))
include bA bB
theorem bd_main : Bd (-9300) 9300 (mulD (normD false (64 * k).toNat (-53)) (mulD A B)) := (bd_mul (bd_num (bl_64k hk)) (bd_mul bA bB)).mono (by omega) (by omega)
include oA oB
theorem bd_least : Bd (-9300) 9300 (mulD (normD false k.toNat (-1060)) (addD A B)) := (bd_mul (bd_num (bl_k hk)) (bd_add oA oB bA bB (by omega))).mono (by omega) (by omega)
theorem bd_two : Bd (-9300) 9301 (addD (mulD (normD false (64 * k).toNat (-53)) (mulD A B)) (mulD (normD false k.toNat (-1060)) (addD A B))) :=
  bd_add (ok_mul _ _) (ok_mul _ _) (bd_main hk bA bB) (bd_least hk oA oB bA bB) (by omega)
theorem bd_bound : Bd (-9300) 9302 (boundD A B k) :=
  bd_add (ok_add _ _) (ok_norm _ _ _) (bd_two hk oA oB bA bB) ((bd_num (bl_kk hk)).mono (by omega) (by omega)) (by omega)
/-- What a bound comes to. -/
theorem iv_bound : iv (boundD A B k) (-20053) = 64 * k * (iv A (-10000) * iv B (-10000)) + k * (iv A (-18993) + iv B (-18993)) + k * k * ((2 ^ bigK : Nat) : Int) := by
  have xA : -4600 ≤ A.2.2 := by
    rcases bA with h | h
    · rw [ok_zero_eq oA h]; decide
    · exact h.1
  have xB : -4600 ≤ B.2.2 := by
    rcases bB with h | h
    · rw [ok_zero_eq oB h]; decide
    · exact h.1
  have xM : -20000 ≤ (mulD A B).2.2 := (ok_exp (ok_mul _ _).1).1
  have xS : -18993 ≤ (addD A B).2.2 := by
    rcases bd_add oA oB bA bB (by omega) with h | h
    · rw [ok_zero_eq (ok_add _ _) h]; decide
    · have := h.1; omega
  have h64 := bl_64k hk
  have h1 := bl_k hk
  have h2 := bl_kk hk
  have hkk := kk_le hk
  unfold boundD
  rw [iv_add (ok_add _ _) (ok_norm _ _ _) (bd_two hk oA oB bA bB) ((bd_num h2).mono (by omega) (by omega)) (by omega) (by omega) (by omega) (by omega),
    iv_add (ok_mul _ _) (ok_mul _ _) (bd_main hk bA bB) (bd_least hk oA oB bA bB) (by omega) (by omega) (by omega) (by omega)]
  have e1 : iv (mulD (normD false (64 * k).toNat (-53)) (mulD A B)) (-20053) = 64 * k * (iv A (-10000) * iv B (-10000)) := by
    have := iv_mul (bd_num (e := -53) h64) (bd_mul bA bB) (M := -53) (M' := -20000) (by omega) (by omega) (norm_exp _ _ (by omega) (by omega)) xM
    rw [show (-53 : Int) + -20000 = -20053 from rfl] at this
    rw [this, iv_num h64 (by omega) (by omega)]
    have h3 := iv_mul bA bB (M := -10000) (M' := -10000) (by omega) (by omega) (by omega) (by omega)
    rw [show (-10000 : Int) + -10000 = -20000 from rfl] at h3
    rw [h3, Int.sub_self, Int.toNat_zero, Nat.pow_zero, Nat.mul_one, Int.toNat_of_nonneg (by omega)]
  have e2 : iv (mulD (normD false k.toNat (-1060)) (addD A B)) (-20053) = k * (iv A (-18993) + iv B (-18993)) := by
    have := iv_mul (bd_num (e := -1060) h1) (bd_add oA oB bA bB (by omega)) (M := -1060) (M' := -18993) (by omega) (by omega) (norm_exp _ _ (by omega) (by omega)) xS
    rw [show (-1060 : Int) + -18993 = -20053 from rfl] at this
    rw [this, iv_num h1 (by omega) (by omega), iv_add oA oB bA bB (by omega) (by omega) (by omega) (by omega), Int.sub_self, Int.toNat_zero, Nat.pow_zero, Nat.mul_one, Int.toNat_of_nonneg (by omega)]
  have e3 : iv (normD false (k * k).toNat (-2140)) (-20053) = k * k * ((2 ^ bigK : Nat) : Int) := by
    rw [iv_num h2 (by omega) (by omega), Int.natCast_mul, Int.toNat_of_nonneg (by omega), show ((-2140 : Int) - -20053).toNat = bigK from rfl]
  rw [e1, e2, e3]
end
end Go.Proofs.Nt
/- Near: bounds as contracts. -/
set_option linter.unusedVariables false
set_option maxRecDepth 20000
set_option linter.unusedSimpArgs false
set_option linter.unnecessarySimpa false
namespace Go.Proofs.Nt
open Go Go.Proofs Go.Proofs.Va Go.RowKit

theorem last_eq {k : Int} (hk : 0 ≤ k ∧ k ≤ 100000) : timesD (timesD (powD (-2140)) k) k = normD false (k * k).toNat (-2140) := by
  have h1 := bl_k hk
  have h2 := bl_kk hk
  have hkk := kk_le hk
  have b1 : bl 1 ≤ 60 := by decide
  have hp : -2140 ≤ (powD (-2140)).2.2 := norm_exp _ _ (by omega) (by omega)
  refine iv_inj (ok_mul _ _) (ok_norm _ _ _) (M := -20000) (by omega) ?_
  rw [iv_times (bd_times (bd_pow _) h1) (by omega) (by omega) h1 (ok_exp (ok_times _ _).1).1, iv_times (bd_pow _) (by omega) (by omega) h1 (by omega)]
  unfold powD
  rw [iv_num b1 (by omega) (by omega), iv_num h2 (by omega) (by omega), Nat.one_mul, Int.natCast_mul (k * k).toNat, Int.toNat_of_nonneg (by omega), Int.toNat_of_nonneg (by omega)]
  generalize ((2 ^ ((-2140 : Int) - -20000).toNat : Nat) : Int) = p
  rw [Int.mul_assoc, Int.mul_comm]

section
variable {A B : Dy} {k : Int} (n n' : Bool) (c c' : Option Nat) (hk : 0 ≤ k ∧ k ≤ 100000) (oA : dOK A) (oB : dOK B) (bA : Bd (-4600) 4600 A) (bB : Bd (-4600) 4600 B)
include hk oA oB bA bB
end

/-- The bound of two dyads, for any number of rotations. -/
def boundX (A B : Dy) (k : Int) : Dy := if 0 ≤ k ∧ k ≤ 100000 then boundD (upD A) (upD B) k else zeroD
section
variable (A B : Dy) (k : Int) (n n' : Bool) (c c' : Option Nat) (dA : Dig A.2.1) (dB : Dig B.2.1) (lA : A.2.1.length ≤ 900) (lB : B.2.1.length ≤ 900)
  (bA : Bd (-9000) 9000 (mayD A.1 A.2.1 A.2.2)) (bB : Bd (-9000) 9000 (mayD B.1 B.2.1 B.2.2))
include dA dB lA lB bA bB
end
end Go.Proofs.Nt
/- Triangles: sizes, places; entries of lists of dyads. -/
set_option linter.unusedVariables false
set_option maxRecDepth 20000
set_option linter.unusedSimpArgs false
set_option linter.unnecessarySimpa false
namespace Go.Proofs.Nt
open Go Go.Proofs Go.Proofs.Va Go.RowKit

def rowI (c : Int) : Nat → Int
  | 0 => 0
  | r + 1 => rowI c r + (c + 1 - r)
/-- The place of an entry. -/
def atI (c : Int) (i j : Nat) : Int := rowI c i + j - i
def atN (c i j : Nat) : Nat := (atI c i j).toNat
def sizeN (c : Nat) : Nat := (c + 1) * (c + 2) / 2
def sizeI (c : Int) : Int := if 1 ≤ c ∧ c ≤ 6 then (sizeN c.toNat : Int) else 0

theorem at_all : ∀ c i j : Fin 7, i.1 ≤ j.1 → j.1 ≤ c.1 → 0 ≤ atI (c.1 : Nat) i.1 j.1 ∧ atI (c.1 : Nat) i.1 j.1 < sizeN c.1 := by decide
theorem at_rng {c i j : Nat} (hc : c ≤ 6) (hi : i ≤ j) (hj : j ≤ c) : 0 ≤ atI c i j ∧ atI c i j < sizeN c := at_all ⟨c, by omega⟩ ⟨i, by omega⟩ ⟨j, by omega⟩ hi hj
theorem size_le {c : Nat} (hc : c ≤ 6) : sizeN c ≤ 28 ∧ 1 ≤ sizeN c := by
  have : ∀ c < 7, sizeN c ≤ 28 ∧ 1 ≤ sizeN c := by decide
  exact this c (by omega)
theorem atN_lt {c i j : Nat} (hc : c ≤ 6) (hi : i ≤ j) (hj : j ≤ c) : atN c i j < sizeN c ∧ ((atN c i j : Nat) : Int) = atI c i j := by
  have := at_rng hc hi hj
  unfold atN; omega

theorem six {i : Nat} (h : i ≤ 6) : i = 0 ∨ i = 1 ∨ i = 2 ∨ i = 3 ∨ i = 4 ∨ i = 5 ∨ i = 6 := by omega
theorem tri_facts {c i : Nat} (hc : c ≤ 6) (hi : i ≤ 6) : (0 ≤ (i : Int) * (c + 1) ∧ (i : Int) * (c + 1) ≤ 42) ∧ (0 ≤ (i : Int) * (i - 1) ∧ (i : Int) * (i - 1) ≤ 30) ∧
    (0 ≤ ((i : Int) * (i - 1)).tdiv 2 ∧ ((i : Int) * (i - 1)).tdiv 2 ≤ 30) ∧ (i : Int) * (c + 1) - ((i : Int) * (i - 1)).tdiv 2 = rowI c i := by
  rcases six hi with rfl | rfl | rfl | rfl | rfl | rfl | rfl
  all_goals
    refine ⟨by omega, by omega, by decide, ?_⟩
    simp only [rowI]
  · show ((0 : Nat) : Int) * _ - 0 = _; omega
  · show ((1 : Nat) : Int) * _ - 0 = _; omega
  · show ((2 : Nat) : Int) * _ - 1 = _; omega
  · show ((3 : Nat) : Int) * _ - 3 = _; omega
  · show ((4 : Nat) : Int) * _ - 6 = _; omega
  · show ((5 : Nat) : Int) * _ - 10 = _; omega
  · show ((6 : Nat) : Int) * _ - 15 = _; omega
theorem row_rng {c i : Nat} (hc : c ≤ 6) (hi : i ≤ 6) : -30 ≤ rowI c i ∧ rowI c i ≤ 42 := by
  have := tri_facts hc hi
  omega

theorem size_facts {c : Int} (h : 1 ≤ c ∧ c ≤ 6) : (0 ≤ (c + 1) * (c + 2) ∧ (c + 1) * (c + 2) ≤ 56) ∧ ((c + 1) * (c + 2)).tdiv 2 = sizeI c ∧ (3 ≤ sizeI c ∧ sizeI c ≤ 28) := by
  have : c = 1 ∨ c = 2 ∨ c = 3 ∨ c = 4 ∨ c = 5 ∨ c = 6 := by omega
  rcases this with rfl | rfl | rfl | rfl | rfl | rfl <;> decide
theorem size_ctr (c : Int) : Ctr Tryz.prog 18 [i c] (fun r => r = i (sizeI c)) := by
  refine ctr_val Tryz.func18 rfl (by kernel_rfl) rfl (by simp) fun K hK => ?_
  simp only [Tryz.f18, List.append_eq, List.cons_append, List.nil_append]
  by_cases h1 : c < 1
  · have : sizeI c = 0 := if_neg (by omega)
    rw [this] at hK
    simp [h1]; exact hK _
  by_cases h2 : 6 < c
  · have : sizeI c = 0 := if_neg (by omega)
    rw [this] at hK
    simp [h1, h2]; exact hK _
  obtain ⟨f1, f2, f3⟩ := size_facts (c := c) (by omega)
  have w1 : IntKind.i64.wrap (c + 1) = c + 1 := w64 _ (by omega) (by omega)
  have w2 : IntKind.i64.wrap (c + 2) = c + 2 := w64 _ (by omega) (by omega)
  have w3 : IntKind.i64.wrap ((c + 1) * (c + 2)) = (c + 1) * (c + 2) := w64 _ (by omega) (by omega)
  have w4 : IntKind.i64.wrap (((c + 1) * (c + 2)).tdiv 2) = sizeI c := by rw [f2]; exact w64 _ (by omega) (by omega)
  simp [h1, h2, w1, w2, w3, w4]
  exact hK _
theorem rsize_ctr (c : Int) : Ctr Tryz.prog 19 [i c] (fun r => r = i (sizeI c)) := by
  refine ctr_val Tryz.func19 rfl (by kernel_rfl) rfl (by simp) fun K hK => ?_
  simp only [Tryz.f19, List.append_eq, List.cons_append, List.nil_append]
  by_cases h1 : c < 1
  · have : sizeI c = 0 := if_neg (by omega)
    rw [this] at hK
    simp [h1]; exact hK _
  by_cases h2 : 6 < c
  · have : sizeI c = 0 := if_neg (by omega)
    rw [this] at hK
    simp [h1, h2]; exact hK _
  obtain ⟨f1, f2, f3⟩ := size_facts (c := c) (by omega)
  have w1 : IntKind.i64.wrap (c + 1) = c + 1 := w64 _ (by omega) (by omega)
  have w2 : IntKind.i64.wrap (c + 2) = c + 2 := w64 _ (by omega) (by omega)
  have w3 : IntKind.i64.wrap ((c + 1) * (c + 2)) = (c + 1) * (c + 2) := w64 _ (by omega) (by omega)
  have w4 : IntKind.i64.wrap (((c + 1) * (c + 2)).tdiv 2) = sizeI c := by rw [f2]; exact w64 _ (by omega) (by omega)
  simp [h1, h2, w1, w2, w3, w4]
  exact hK _

section
variable {c i' j' : Nat} (h1 : 1 ≤ c) (hc : c ≤ 6) (hi : i' ≤ j') (hj : j' ≤ c)
include h1 hc hi hj
theorem rtat_ctr : Ctr Tryz.prog 67 [i c, i i', i j'] (fun r => r = .tup [i (atI c i' j'), bo true]) := by
  refine ctr_in Tryz.func67 rfl (by kernel_rfl) rfl fun K hK => ?_
  simp only [Tryz.f67, List.append_eq, List.cons_append, List.nil_append]
  have f := (size_facts (c := c) (by omega)).2.2
  have g1 := at_rng hc hi hj
  have g2 := size_le hc
  have g3 := row_rng hc (i := i') (by omega)
  have d : atI c i' j' = rowI c i' + j' - i' := rfl
  have w1 : IntKind.i64.wrap (rowI c i' + j') = rowI c i' + j' := w64 _ (by omega) (by omega)
  have w2 : IntKind.i64.wrap (rowI c i' + j' - i') = atI c i' j' := by rw [w64 _ (by omega) (by omega)]; rfl
  have n1 : ¬ sizeI c = 0 := by omega
  have n2 : ¬ ((i' : Nat) : Int) < 0 := by omega
  have n3 : ¬ ((j' : Nat) : Int) < (i' : Nat) := by omega
  have n4 : ¬ ((c : Nat) : Int) < (j' : Nat) := by omega
  have n3' : ¬ j' < i' := by omega
  have n4' : ¬ c < j' := by omega
  simp
  refine acall_by (rsize_ctr c) (by simp) ?_
  rintro _ rfl
  simp [n1, n2, n3, n4, n3', n4']
  refine loop_on (γ := Nat) 43 (fun g => [(0, i c), (1, i i'), (2, i j'), (8, i (rowI c g)), (9, i g)]) (fun _ => []) (fun g => g ≤ i') (fun g => i' - g)
    0 (Nat.zero_le _) (Wk.lst (by simp [rowI]) (by simp)) ?_
  intro g hg L hL
  have hg : g ≤ i' := hg
  by_cases hlt : g < i'
  · have g4 := row_rng hc (i := g) (by omega)
    have w3 : IntKind.i64.wrap (rowI c g + c) = rowI c g + c := w64 _ (by omega) (by omega)
    have w4 : IntKind.i64.wrap (rowI c g + c + 1) = rowI c g + c + 1 := w64 _ (by omega) (by omega)
    have w5 : IntKind.i64.wrap (rowI c g + c + 1 - g) = rowI c (g + 1) := by rw [w64 _ (by omega) (by omega)]; simp only [rowI]; omega
    have w6 : IntKind.i64.wrap ((g : Int) + 1) = ((g + 1 : Nat) : Int) := w64 _ (by omega) (by omega)
    simp [hlt, w3, w4, w5, w6, -Int.natCast_add]
    exact hL (g + 1) _ _ (by show g + 1 ≤ i'; omega) (Wk.lst (by simp) (by simp)) (by show i' - (g + 1) < i' - g; omega)
  · have : g = i' := by omega
    subst this
    simp [w1, w2]
    exact hK _ _ _ (.same _ (pu_tup (by simp))) rfl
end
end Go.Proofs.Nt
/- Near: entries, whether lists fit, norms of all columns. -/
set_option linter.unusedVariables false
set_option maxRecDepth 20000
set_option linter.unusedSimpArgs false
set_option linter.unnecessarySimpa false
namespace Go.Proofs.Nt
open Go Go.Proofs Go.Proofs.Va Go.RowKit

def zDV : DV := ⟨false, true, [], some 0, 0⟩
def gv (l : List DV) (k : Nat) : DV := l.getD k zDV
theorem gv_at {l : List DV} {k : Nat} (h : k < l.length) : gv l k = l[k] := by simp [gv, h]
/-- Lists of dyads that are not too great. -/
def DvOk (l : List DV) : Prop := ∀ d ∈ l, Dig d.a ∧ d.a.length ≤ 900 ∧ Bd (-9000) 9000 d.m
theorem DvOk.at {l : List DV} (h : DvOk l) (k : Nat) : Dig (gv l k).a ∧ (gv l k).a.length ≤ 900 ∧ Bd (-9000) 9000 (gv l k).m := by
  by_cases hk : k < l.length
  · rw [gv_at hk]; exact h _ (List.getElem_mem hk)
  · have : gv l k = zDV := by simp [gv, hk]
    rw [this]
    exact ⟨dig_nil, by decide, .inl (by decide)⟩
theorem dcs_read {l : List DV} {k : Nat} (h : k < l.length) : AV.agg (((dcs l).drop (k * 3)).take 3) = (gv l k).av := by rw [dcs_at h, gv_at h]; rfl
theorem dcs_set : ∀ {l : List DV} {k : Nat} (h : k < l.length) (d : DV), wr (dcs l) (k * 3) d.cs = dcs (l.set k d)
  | x :: l, 0, _, d => by
    show wr (DV.cs x ++ dcs l) (0 * 3) d.cs = DV.cs d ++ dcs l
    simp [DV.cs, wr]
  | x :: l, k + 1, h, d => by
    have ih := dcs_set (l := l) (k := k) (by simpa using h) d
    show wr (DV.cs x ++ dcs l) ((k + 1) * 3) d.cs = DV.cs x ++ dcs (l.set k d)
    rw [← ih, show (k + 1) * 3 = k * 3 + 3 by omega]
    simp [DV.cs, wr]

def entN (c i j : Nat) : Nat := atN c (min i j) (max i j)
/-- The entry of two columns. -/
def entV (l : List DV) (c i j : Nat) : DV := gv l (entN c i j)

theorem ent_lt {c i' j' : Nat} (_h1 : 1 ≤ c) (hc : c ≤ 6) (hi : i' ≤ c) (hj : j' ≤ c) : entN c i' j' < sizeN c ∧ ((entN c i' j' : Nat) : Int) = atI c (min i' j') (max i' j') := atN_lt hc (by omega) (by omega)

section
variable {l : List DV} {c i' j' : Nat} (nl : Bool) (cap : Option Nat) (h1 : 1 ≤ c) (hc : c ≤ 6) (hi : i' ≤ c) (hj : j' ≤ c) (hl : l.length = sizeN c)
include h1 hc hi hj
include hl
end

/-! ### Whether lists fit -/
structure LV where
  nl : Bool
  l : List DV
  cap : Option Nat
def LV.av (x : LV) : AV := dsl x.nl x.l x.cap
def lss (ls : List LV) (cap : Option Nat) : AV := .pl false (ls.map LV.av) ls.length cap

end Go.Proofs.Nt
/- Near: norms of all columns. -/
set_option linter.unusedVariables false
set_option maxRecDepth 20000
set_option linter.unusedSimpArgs false
set_option linter.unnecessarySimpa false
namespace Go.Proofs.Nt
open Go Go.Proofs Go.Proofs.Va Go.RowKit

/-- The norm of a column. -/
def upE (l : List DV) (c i : Nat) : Dy := upD (entV l c i i).m
theorem ok_upE (l : List DV) (c i : Nat) : dOK (upE l c i) := ok_up _
theorem bd_upE {l : List DV} (h : DvOk l) (c i : Nat) : Bd (-4600) 4600 (upE l c i) := bd_up (h.at _).2.2
def toV (d : Dy) (nl : Bool) (cap : Option Nat) : DV := ⟨d.1, nl, d.2.1, cap, d.2.2⟩
theorem toV_d (d : Dy) (nl : Bool) (cap : Option Nat) : (toV d nl cap).d = d := rfl
theorem dy_toV (d : Dy) (nl : Bool) (cap : Option Nat) : dy d.1 nl d.2.1 cap d.2.2 = (toV d nl cap).av := rfl
def z7 : List DV := List.replicate 7 zDV
theorem gv_set_self {l : List DV} {k : Nat} (h : k < l.length) (d : DV) : gv (l.set k d) k = d := by simp [gv, h]
theorem gv_set_ne {l : List DV} {k j : Nat} (h : k ≠ j) (d : DV) : gv (l.set k d) j = gv l j := by simp [gv, List.getElem?_set_ne h]
theorem cells_toV (d : Dy) (nl : Bool) (cap : Option Nat) : cellsOf (dy d.1 nl d.2.1 cap d.2.2) = some (toV d nl cap).cs := rfl
theorem cells_dcs (l : List DV) : cellsOf (.agg (dcs l)) = some (dcs l) := rfl
theorem pu_dcs (l : List DV) : Pu (.agg (dcs l)) := by
  refine .agg _ fun j hj => ?_
  have : ∀ (l : List DV) (x : AV), x ∈ dcs l → Pu x := by
    intro l
    induction l with
    | nil => intro x hx; cases hx
    | cons d l ih =>
      intro x hx
      have hx : x ∈ DV.cs d ++ dcs l := hx
      rw [List.mem_append] at hx
      rcases hx with hx | hx
      · have : x = bo d.neg ∨ x = sl d.nl d.a d.cap ∨ x = i d.e := by simpa [DV.cs] using hx
        rcases this with rfl | rfl | rfl
        · simp
        · simp [sl]
        · simp
      · exact ih x hx
  exact this l _ (List.getElem_mem hj)

theorem gv_rep (k : Nat) : (gv z7 k).d = zeroD := by
  have : gv z7 k = zDV := by
    unfold gv z7
    rw [List.getD_eq_getElem?_getD]
    by_cases hk : k < 7
    · rw [List.getElem?_replicate, if_pos hk]; rfl
    · rw [List.getElem?_replicate, if_neg hk]; rfl
  rw [this]; rfl
/-- Seven norms. -/
def Norms (l : List DV) (c : Nat) (us : List DV) : Prop := us.length = 7 ∧ (∀ k, k ≤ c → (gv us k).d = upE l c k) ∧ (∀ k, c < k → (gv us k).d = zeroD)

end Go.Proofs.Nt
/- Lists of dyads that grow; the document's norms of all columns. -/
set_option linter.unusedVariables false
set_option maxRecDepth 20000
set_option linter.unusedSimpArgs false
set_option linter.unnecessarySimpa false
namespace Go.Proofs.Nt
open Go Go.Proofs Go.Proofs.Va Go.RowKit

/-- An own list of dyads. -/
inductive OD (σ : AHeap) : AV → List DV → Prop
  | nil : OD σ (.pl true [] 0 (some 0)) []
  | so (j v : Nat) (l : List DV) : σ[j]? = some ⟨.own, v, dcs l⟩ → OD σ (.so j v 0 l.length 3 none) l

theorem getD_dcs (l : List DV) {q : Nat} (hq : q < (dcs l).length) (σ : AHeap) (S : Nat → Prop) : Pur σ S ((dcs l).getD q .any) (dcs l)[q] := by
  rw [getD_eq hq]
  have h := pu_dcs l
  cases h with
  | agg _ h => exact .same _ (h q hq)
theorem OD.pur {σ : AHeap} {S : Nat → Prop} (hS : ∀ j, S j) {r : AV} {l : List DV} (h : OD σ r l) : ∃ nl cap, Pur σ S r (dsl nl l cap) := by
  cases h with
  | nil => exact ⟨true, some 0, .same _ (by simp)⟩
  | so j v l hj =>
    refine ⟨false, none, ?_⟩
    refine .so j v 0 l.length 3 none _ (dcs l) hj rfl (fun h => by cases h) (hS j) ?_ (dcs_len l) fun q hq => ?_
    · show 0 + l.length * 3 ≤ (dcs l).length
      rw [dcs_len]; omega
    · rw [Nat.zero_add]
      exact getD_dcs l hq σ S
theorem OD.sc {σ : AHeap} {r : AV} {l : List DV} (h : OD σ r l) : Sc σ.length r := by
  cases h with
  | nil => exact .pl _ _ _ _
  | so j v l hj => exact .so _ _ _ _ _ _ (List.getElem?_eq_some_iff.1 hj).1

/-- Dyads that are told. -/
def lTold (ds : List Dy) (r : AV) : Prop := ∃ nl us cap, List.map DV.d us = ds ∧ r = dsl nl us cap

end Go.Proofs.Nt
/- Near: whether lists are near. -/
set_option linter.unusedVariables false
set_option maxRecDepth 20000
set_option linter.unusedSimpArgs false
set_option linter.unnecessarySimpa false
namespace Go.Proofs.Nt
open Go Go.Proofs Go.Proofs.Va Go.RowKit

/-- How far two entries are apart. -/
def apart (N G : List DV) (q : Nat) : Dy := absX (addD (gv G q).m (oppD (gv N q).m))
/-- Whether an entry is too far off. -/
def far (N I G : List DV) (c : Nat) (k : Int) (i' j' : Nat) : Bool := decide (0 < cmpD (apart N G (atN c i' j')) (boundD (upE I c i') (upE I c j') k))
def chkV (N I G : List DV) (c k : Int) : Prop := (1 ≤ c ∧ c ≤ 6) ∧ N.length = sizeN c.toNat ∧ I.length = sizeN c.toNat ∧ G.length = sizeN c.toNat ∧ 0 ≤ k ∧ k ≤ 100000
instance (N I G : List DV) (c k : Int) : Decidable (chkV N I G c k) := by unfold chkV; infer_instance
/-- What Check tells of a triangle's entries, f telling which is too far off. -/
def firstP (c : Nat) (f : Nat → Nat → Bool) (r : AV) : Prop :=
  (∃ i' j', i' ≤ j' ∧ j' ≤ c ∧ f i' j' = true ∧ (∀ p q, p ≤ q → q ≤ c → (p < i' ∨ p = i' ∧ q < j') → f p q = false) ∧ r = .tup [i (atI c i' j'), bo false]) ∨
  ((∀ p q, p ≤ q → q ≤ c → f p q = false) ∧ r = .tup [i 0, bo true])
def chkP (N I G : List DV) (c k : Int) (r : AV) : Prop := if chkV N I G c k then firstP c.toNat (far N I G c.toNat k) r else r = .tup [i 0, bo false]

theorem firstP_eq {c : Nat} {f : Nat → Nat → Bool} {r r' : AV} (h : firstP c f r) (h' : firstP c f r') : r = r' := by
  rcases h with ⟨i1, j1, a1, a2, a3, a4, rfl⟩ | ⟨a1, rfl⟩
  · rcases h' with ⟨i2, j2, b1, b2, b3, b4, rfl⟩ | ⟨b1, rfl⟩
    · have h1 : ¬ (i1 < i2 ∨ i1 = i2 ∧ j1 < j2) := fun h => by rw [b4 _ _ a1 a2 h] at a3; cases a3
      have h2 : ¬ (i2 < i1 ∨ i2 = i1 ∧ j2 < j1) := fun h => by rw [a4 _ _ b1 b2 h] at b3; cases b3
      obtain ⟨rfl, rfl⟩ : i1 = i2 ∧ j1 = j2 := by omega
      rfl
    · rw [b1 _ _ a1 a2] at a3; cases a3
  · rcases h' with ⟨i2, j2, b1, b2, b3, b4, rfl⟩ | ⟨b1, rfl⟩
    · rw [a1 _ _ b1 b2] at b3; cases b3
    · rfl
theorem chkP_eq {N I G : List DV} {c k : Int} {r r' : AV} (h : chkP N I G c k r) (h' : chkP N I G c k r') : r = r' := by
  unfold chkP at h h'
  split at h
  · rename_i hv
    rw [if_pos hv] at h'
    exact firstP_eq h h'
  · rename_i hv
    rw [if_neg hv] at h'
    rw [h, h']

theorem wr_full {xs ys : List AV} (h : ys.length = xs.length) : wr xs 0 ys = ys := by
  rw [wr_splice _ _ _ (by omega), splice, List.take_zero, List.drop_eq_nil_of_le (by omega)]; simp
theorem z7_len : (dcs z7).length = 21 := rfl
theorem av_of {x : DV} {d : Dy} (h : x.d = d) : x.av = dy d.1 x.nl d.2.1 x.cap d.2.2 := by subst h; rfl
theorem pur_lss {σ : AHeap} {S : Nat → Prop} {j v : Nat} {ls : List LV} {n : Nat} {cap : Option Nat} {k : BK} (hb : σ[j]? = some ⟨k, v, ls.map LV.av⟩) (hk : k ≠ .dead) (hn : n = ls.length) (hS : S j) : Pur σ S (.so j v 0 n 1 cap) (lss ls cap) := by
  subst hn
  refine .so j v 0 ls.length 1 cap ⟨k, v, ls.map LV.av⟩ _ hb rfl hk hS (by simp) (by simp) fun q hq => ?_
  simp only [List.length_map] at hq
  show Pur σ S ((ls.map LV.av).getD (0 + q) .any) _
  rw [Nat.zero_add, getD_eq (by simpa using hq)]
  exact .same _ (by simp [LV.av, dsl])

@[simp] theorem pu_LV (x : LV) : Pu x.av := by simp [LV.av, dsl]
@[simp] theorem cells_LV (x : LV) : cellsOf x.av = some [x.av] := (rfl)
@[simp] theorem scA_LV (n : Nat) (x : LV) : scA n x.av = True := (rfl)
@[simp] theorem sc_LV (n : Nat) (x : LV) : Sc n x.av := .pl _ _ _ _
section
variable {N I G : List DV} {c : Nat} {k : Int} (hN : DvOk N) (hI : DvOk I) (hG : DvOk G) (hk : 0 ≤ k ∧ k ≤ 100000)
theorem ok_m {l : List DV} (h : DvOk l) (q : Nat) : dOK (gv l q).m := ok_may (h.at q).1
include hN hG
theorem bd_sub (q : Nat) : Bd (-9000) 9001 (addD (gv G q).m (oppD (gv N q).m)) := bd_add (ok_m hG q) (ok_opp _) (hG.at q).2.2 (bd_opp (hN.at q).2.2) (by omega)
theorem len_sub (q : Nat) : (addD (gv G q).m (oppD (gv N q).m)).2.1.length ≤ 900 := bd_len (ok_add _ _) (bd_sub hN hG q) (by omega)
theorem bd_apart (q : Nat) : Bd (-9000) 9001 (apart N G q) := bd_absX (bd_sub hN hG q)
theorem len_apart (q : Nat) : (apart N G q).2.1.length ≤ 900 := bd_len (ok_absX _) (bd_apart hN hG q) (by omega)
include hI hk
theorem cmp_far (q i' j' : Nat) : sgnD (addD (apart N G q) (oppD (boundD (upE I c i') (upE I c j') k))) = cmpD (apart N G q) (boundD (upE I c i') (upE I c j') k) :=
  cmp_agree (ok_absX _) (ok_bound _ _ _) ((bd_apart hN hG q).mono (L' := -9300) (H' := 9302) (by omega) (by omega)) (bd_bound hk (ok_upE _ _ _) (ok_upE _ _ _) (bd_upE hI _ _) (bd_upE hI _ _)) (by omega) (by omega) (by omega)
end
theorem len_bound {N I G : List DV} {c : Nat} {k : Int} (_hN : DvOk N) (hI : DvOk I) (_hG : DvOk G) (hk : 0 ≤ k ∧ k ≤ 100000) (i' j' : Nat) : (boundD (upE I c i') (upE I c j') k).2.1.length ≤ 900 :=
  bd_len (ok_bound _ _ _) (bd_bound hk (ok_upE _ _ _) (ok_upE _ _ _) (bd_upE hI _ _) (bd_upE hI _ _)) (by omega)

end Go.Proofs.Nt
/- Near: the document's Check. -/
set_option linter.unusedVariables false
set_option maxRecDepth 20000
set_option linter.unusedSimpArgs false
set_option linter.unnecessarySimpa false
namespace Go.Proofs.Nt
open Go Go.Proofs Go.Proofs.Va Go.RowKit

end Go.Proofs.Nt
/- Near: what Normal compares; the sum of all norms. -/
set_option linter.unusedVariables false
set_option maxRecDepth 20000
set_option linter.unusedSimpArgs false
set_option linter.unnecessarySimpa false
namespace Go.Proofs.Nt
open Go Go.Proofs Go.Proofs.Va Go.RowKit

def sumU (I : List DV) (c : Nat) : Nat → Dy
  | 0 => normD false 1 0
  | m + 1 => addD (sumU I c m) (upE I c m)
theorem ok_sumU (I : List DV) (c : Nat) : ∀ m, dOK (sumU I c m)
  | 0 => ok_norm _ _ _
  | _ + 1 => ok_add _ _
theorem bd_sumU {I : List DV} (hI : DvOk I) (c : Nat) : ∀ m : Nat, Bd (-4600) (4600 + m) (sumU I c m)
  | 0 => (bd_num (n := 1) (e := 0) (by decide)).mono (by omega) (by omega)
  | m + 1 => by
    have h := bd_add (ok_sumU I c m) (ok_upE I c m) (bd_sumU hI c m) ((bd_upE hI c m).mono (L' := -4600) (H' := 4600 + m) (by omega) (by omega)) (by omega)
    exact h.mono (by omega) (by omega)
theorem addD_z {d : Dy} {L H : Int} (o : dOK d) (b : Bd L H d) (hL : L ≤ 0) (hL2 : -20000 ≤ L) (hH : H < 20000) : addD d zeroD = d := by
  refine iv_inj (ok_add _ _) o (M := -20000) (Int.le_refl _) ?_
  rw [iv_add o ok_zero b (bd_zero _ _) hL hL2 hH (by omega), iv_zero, Int.add_zero]

/-- What is left of a column's equation. -/
def leftD (N : List DV) (c : Nat) (x : List Nat) (i' : Nat) : Nat → Dy
  | 0 => (entV N c i' c).m
  | j + 1 => addD (leftD N c x i' j) (oppD (mulD (entV N c i' j).m (fromD (x.getD j 0))))
/-- How much may be. -/
def mostD (I : List DV) (c : Nat) (k : Int) (x : List Nat) (i' : Nat) : Nat → Dy
  | 0 => boundD (upE I c i') (upE I c c) (k + 1)
  | j + 1 => addD (mostD I c k x i' j) (mulD (boundD (upE I c i') (upE I c j) (k + 1)) (absX (fromD (x.getD j 0))))
def restD (I : List DV) (c i' : Nat) : Dy := mulD (addD (upE I c i') (powD (-1060))) (sumU I c (c + 1))
def allD (I : List DV) (c : Nat) (k : Int) (x : List Nat) (i' : Nat) : Dy := addD (mostD I c k x i' c) (mulD (restD I c i') (powD (-1060)))
def offB (N I : List DV) (c : Nat) (k : Int) (x : List Nat) (i' : Nat) : Bool := decide (0 < cmpD (absX (leftD N c x i' c)) (allD I c k x i'))
def norV (N I : List DV) (c k : Int) (x : List Nat) : Prop := (1 ≤ c ∧ c ≤ 6) ∧ N.length = sizeN c.toNat ∧ I.length = sizeN c.toNat ∧ x.length = c.toNat ∧ (0 ≤ k ∧ k ≤ 99999) ∧ x.all fin = true
instance (N I : List DV) (c k : Int) (x : List Nat) : Decidable (norV N I c k x) := by unfold norV; infer_instance
def firstQ (c : Nat) (f : Nat → Bool) (r : AV) : Prop :=
  (∃ i', i' < c ∧ f i' = true ∧ (∀ p, p < i' → f p = false) ∧ r = .tup [i i', bo false]) ∨ ((∀ p, p < c → f p = false) ∧ r = .tup [i 0, bo true])
def norP (N I : List DV) (c k : Int) (x : List Nat) (r : AV) : Prop := if norV N I c k x then firstQ c.toNat (offB N I c.toNat k x) r else r = .tup [i 0, bo false]
theorem firstQ_eq {c : Nat} {f : Nat → Bool} {r r' : AV} (h : firstQ c f r) (h' : firstQ c f r') : r = r' := by
  rcases h with ⟨i1, a1, a2, a3, rfl⟩ | ⟨a1, rfl⟩
  · rcases h' with ⟨i2, b1, b2, b3, rfl⟩ | ⟨b1, rfl⟩
    · have h1 : ¬ i1 < i2 := fun h => by rw [b3 _ h] at a2; cases a2
      have h2 : ¬ i2 < i1 := fun h => by rw [a3 _ h] at b2; cases b2
      obtain rfl : i1 = i2 := by omega
      rfl
    · rw [b1 _ a1] at a2; cases a2
  · rcases h' with ⟨i2, b1, b2, b3, rfl⟩ | ⟨b1, rfl⟩
    · rw [a1 _ b1] at b2; cases b2
    · rfl
theorem norP_eq {N I : List DV} {c k : Int} {x : List Nat} {r r' : AV} (h : norP N I c k x r) (h' : norP N I c k x r') : r = r' := by
  unfold norP at h h'
  split at h
  · rename_i hv
    rw [if_pos hv] at h'
    exact firstQ_eq h h'
  · rename_i hv
    rw [if_neg hv] at h'
    rw [h, h']

section
variable {N I : List DV} {c : Nat} {k : Int} (x : List Nat) (i' : Nat) (hN : DvOk N) (hI : DvOk I) (hk : 0 ≤ k ∧ k ≤ 99999)
include hN
theorem ok_left (j : Nat) : dOK (leftD N c x i' j) := by
  cases j with
  | zero => exact ok_may (hN.at _).1
  | succ j => exact ok_add _ _
theorem bd_prodE (j : Nat) : Bd (-10100) 10100 (mulD (entV N c i' j).m (fromD (x.getD j 0))) := (bd_mul (hN.at _).2.2 (from_bd _)).mono (by omega) (by omega)
theorem bd_left : ∀ j : Nat, Bd (-10100) (10100 + j) (leftD N c x i' j)
  | 0 => (hN.at _).2.2.mono (by omega) (by omega)
  | j + 1 => by
    have h := bd_add (ok_left x i' hN j) (ok_opp _) (bd_left j) ((bd_opp (bd_prodE x i' hN (c := c) j)).mono (L' := -10100) (H' := 10100 + j) (by omega) (by omega)) (by omega)
    exact h.mono (by omega) (by omega)
end
theorem ok_most {I : List DV} {c : Nat} {k : Int} (x : List Nat) (i' : Nat) (_hI : DvOk I) (_hk : 0 ≤ k ∧ k ≤ 99999) (j : Nat) : dOK (mostD I c k x i' j) := by
  cases j with
  | zero => exact ok_bound _ _ _
  | succ j => exact ok_add _ _
section
variable {I : List DV} {c : Nat} {k : Int} (x : List Nat) (i' : Nat) (hI : DvOk I)
section
variable (hk : 0 ≤ k ∧ k ≤ 99999)
include hI hk
theorem bd_bnd (p q : Nat) : Bd (-9300) 9302 (boundD (upE I c p) (upE I c q) (k + 1)) := bd_bound (by omega) (ok_upE _ _ _) (ok_upE _ _ _) (bd_upE hI _ _) (bd_upE hI _ _)
theorem bd_prodB (j : Nat) : Bd (-10400) 10400 (mulD (boundD (upE I c i') (upE I c j) (k + 1)) (absX (fromD (x.getD j 0)))) := (bd_mul (bd_bnd hI hk _ _) (bd_absX (from_bd _))).mono (by omega) (by omega)
theorem bd_most : ∀ j : Nat, Bd (-10400) (10400 + j) (mostD I c k x i' j)
  | 0 => (bd_bnd hI hk _ _).mono (by omega) (by omega)
  | j + 1 => by
    have h := bd_add (ok_most x i' hI hk j) (ok_mul _ _) (bd_most j) ((bd_prodB x i' hI hk (c := c) j).mono (L' := -10400) (H' := 10400 + j) (by omega) (by omega)) (by omega)
    exact h.mono (by omega) (by omega)
end
include hI
theorem bd_near1 : Bd (-4600) 4601 (addD (upE I c i') (powD (-1060))) := bd_add (ok_upE _ _ _) (ok_pow _) (bd_upE hI _ _) ((bd_pow _).mono (by omega) (by omega)) (by omega)
theorem bd_rest (hc : c ≤ 6) : Bd (-9300) 9300 (restD I c i') := (bd_mul (bd_near1 i' hI) (bd_sumU hI c (c + 1))).mono (by omega) (by omega)
theorem bd_rest2 (hc : c ≤ 6) : Bd (-10400) 9400 (mulD (restD I c i') (powD (-1060))) := (bd_mul (bd_rest i' hI hc) (bd_pow _)).mono (by omega) (by omega)
variable (hk : 0 ≤ k ∧ k ≤ 99999)
include hk
theorem bd_all (hc : c ≤ 6) : Bd (-10400) 10410 (allD I c k x i') := by
  have h := bd_add (ok_most x i' hI hk (c := c) c) (ok_mul (restD I c i') (powD (-1060))) (bd_most x i' hI hk c) ((bd_rest2 i' hI hc).mono (L' := -10400) (H' := 10400 + c) (by omega) (by omega)) (by omega)
  exact h.mono (by omega) (by omega)
end
theorem cmp_off {N I : List DV} {c : Nat} {k : Int} (x : List Nat) (i' : Nat) (hN : DvOk N) (hI : DvOk I) (hk : 0 ≤ k ∧ k ≤ 99999) (hc : c ≤ 6) : sgnD (addD (absX (leftD N c x i' c)) (oppD (allD I c k x i'))) = cmpD (absX (leftD N c x i' c)) (allD I c k x i') :=
  cmp_agree (ok_absX _) (ok_add _ _) ((bd_absX (bd_left x i' hN c)).mono (L' := -10400) (H' := 10410) (by omega) (by omega)) (bd_all x i' hI hk hc) (by omega) (by omega) (by omega)

end Go.Proofs.Nt
