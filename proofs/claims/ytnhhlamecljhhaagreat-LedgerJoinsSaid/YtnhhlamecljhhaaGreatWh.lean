import Derived.Test.YtnhhlamecljhhaaGreatWa
import Derived.Test.YtnhhlamecljhhaaGreatWb
import Derived.Test.YtnhhlamecljhhaaGreatWc
import Derived.Test.YtnhhlamecljhhaaGreatWd
import Derived.Test.YtnhhlamecljhhaaGreatWe
import Derived.Test.YtnhhlamecljhhaaGreatWf
import Derived.Test.YtnhhlamecljhhaaGreatWg
/- Round: Within of any dyad; the document's powers of two and multiples. -/
set_option linter.unusedVariables false
set_option maxRecDepth 20000
set_option linter.unusedSimpArgs false
set_option linter.unnecessarySimpa false
namespace Go.Proofs.Nt
open Go Go.Proofs Go.Proofs.Va Go.RowKit

section
variable {d d' : Dy} {n n' : Bool} {c c' : Option Nat}
end

end Go.Proofs.Nt
/- The document's powers of two, multiples, Within; the law RoundTells as a contract. -/
set_option linter.unusedVariables false
set_option maxRecDepth 20000
set_option linter.unusedSimpArgs false
set_option linter.unnecessarySimpa false
namespace Go.Proofs.Nt
open Go Go.Proofs Go.Proofs.Va Go.RowKit

theorem norm_exp {L : Int} (g : Bool) (n : Nat) {e : Int} (h : L ≤ e) (h0 : L ≤ 0) : L ≤ (normD g n e).2.2 := by
  unfold normD
  split
  · exact h0
  · show L ≤ e + _; omega

end Go.Proofs.Nt
/- Near: the norm from above, in plain Lean. -/
set_option linter.unusedVariables false
set_option maxRecDepth 20000
set_option linter.unusedSimpArgs false
namespace Go.Proofs.Nt
open Go Go.Proofs

/-- The root, rounded down. -/
def isq (n : Nat) : Nat := Ieee.Datum.rootFrom n (n.log2 / 2 + 1) 0
theorem isq_root (n : Nat) : IsRoot n (isq n) := rootFrom_all n
theorem IsRoot.isq {n s : Nat} (h : IsRoot n s) : s = isq n := h.unique (isq_root n)

def cutU (n : Nat) (e : Int) : Int := ((bl n : Int) - 128) + (e + ((bl n : Int) - 128)) % 2
def cutN (n : Nat) (c : Int) : Nat := if 0 < c then n / 2 ^ c.toNat + 1 else n * 2 ^ (-c).toNat
def upN' (n : Nat) (e : Int) : Dy := normD false (isq (cutN n (cutU n e)) + 1) ((e + cutU n e) / 2)
/-- The norm of a dyad, from above. -/
def upD (D : Dy) : Dy := if D.1 = true ∨ val D.2.1 = 0 then zeroD else upN' (val D.2.1) D.2.2
theorem ok_up (D : Dy) : dOK (upD D) := by
  unfold upD; split
  · exact ok_zero
  · exact ok_norm _ _ _

theorem cutU_even (n : Nat) (e : Int) : (e + cutU n e) % 2 = 0 := by unfold cutU; omega
theorem cutU_bl (n : Nat) (e : Int) : cutU n e = (bl n : Int) - 128 ∨ cutU n e = (bl n : Int) - 127 := by unfold cutU; omega

theorem lt_of_bl {n k : Nat} (h : bl n ≤ k) : n < 2 ^ k := Nat.lt_of_lt_of_le (bl_high n) (Nat.pow_le_pow_right (by decide) h)
/-- What is rooted has at most 129 digits, and 127 at least. -/
theorem cutN_bounds {n : Nat} (h0 : n ≠ 0) (e : Int) : cutN n (cutU n e) ≤ 2 ^ 128 ∧ 2 ^ 126 ≤ cutN n (cutU n e) := by
  have hb := cutU_bl n e
  have h1 := bl_low h0
  have h2 := bl_high n
  generalize cutU n e = c at *
  unfold cutN
  by_cases hc : 0 < c
  · rw [if_pos hc]
    have hp := Nat.two_pow_pos c.toNat
    constructor
    · have : n / 2 ^ c.toNat < 2 ^ 128 := by
        rw [Nat.div_lt_iff_lt_mul hp, ← Nat.pow_add]
        exact Nat.lt_of_lt_of_le h2 (Nat.pow_le_pow_right (by decide) (by omega))
      omega
    · have : 2 ^ 126 ≤ n / 2 ^ c.toNat := by
        rw [Nat.le_div_iff_mul_le hp, ← Nat.pow_add]
        exact Nat.le_trans (Nat.pow_le_pow_right (by decide) (by omega)) h1
      omega
  · rw [if_neg hc]
    have hp := Nat.two_pow_pos (-c).toNat
    constructor
    · have : n * 2 ^ (-c).toNat < 2 ^ (bl n) * 2 ^ (-c).toNat := Nat.mul_lt_mul_of_pos_right h2 hp
      rw [← Nat.pow_add] at this
      exact Nat.le_of_lt (Nat.lt_of_lt_of_le this (Nat.pow_le_pow_right (by decide) (by omega)))
    · have := Nat.mul_le_mul_right (2 ^ (-c).toNat) h1
      rw [← Nat.pow_add] at this
      exact Nat.le_trans (Nat.pow_le_pow_right (by decide) (by omega)) this

theorem isq_bounds {n : Nat} (h0 : n ≠ 0) (e : Int) : isq (cutN n (cutU n e)) ≤ 2 ^ 64 ∧ 2 ^ 63 ≤ isq (cutN n (cutU n e)) + 1 := by
  obtain ⟨h1, h2⟩ := cutN_bounds h0 e
  obtain ⟨r1, r2⟩ := isq_root (cutN n (cutU n e))
  generalize cutN n (cutU n e) = m at *
  generalize isq m = s at *
  constructor
  · rcases Nat.lt_or_ge (2 ^ 64) s with h | h
    · have := Nat.mul_lt_mul'' h h
      have e : (2 : Nat) ^ 64 * 2 ^ 64 = 2 ^ 128 := by decide
      omega
    · exact h
  · rcases Nat.lt_or_ge (s + 1) (2 ^ 63) with h | h
    · have := Nat.mul_lt_mul'' h h
      have e : (2 : Nat) ^ 63 * 2 ^ 63 = 2 ^ 126 := by decide
      omega
    · exact h

theorem up_room {n : Nat} (h0 : n ≠ 0) {e : Int} : 64 ≤ bl (isq (cutN n (cutU n e)) + 1) ∧ bl (isq (cutN n (cutU n e)) + 1) ≤ 66 := by
  obtain ⟨h1, h2⟩ := isq_bounds h0 e
  generalize isq (cutN n (cutU n e)) = s at *
  constructor
  · rcases Nat.lt_or_ge (bl (s + 1)) 64 with h | h
    · have := lt_of_bl (n := s + 1) (k := 63) (by omega)
      omega
    · exact h
  · refine bl_le ?_
    have : (2 : Nat) ^ 66 = 4 * 2 ^ 64 := by decide
    have : 1 ≤ 2 ^ 64 := by decide
    omega

theorem bd_upN {n : Nat} (h0 : n ≠ 0) {e : Int} (h : Bn (-9000) 9000 n e) : Bn (-4600) 4600 (isq (cutN n (cutU n e)) + 1) ((e + cutU n e) / 2) := by
  obtain ⟨h1, h2⟩ : -9000 ≤ e ∧ e + bl n ≤ 9000 := by
    rcases h with h | h
    · exact absurd h h0
    · exact h
  obtain ⟨r1, r2⟩ := up_room h0 (e := e)
  have hb := cutU_bl n e
  have hp : 1 ≤ bl n := by
    rcases Nat.eq_zero_or_pos (bl n) with h | h
    · have := lt_of_bl (n := n) (k := 0) (by omega)
      omega
    · exact h
  exact .inr ⟨by omega, by omega⟩
theorem bd_up {D : Dy} (h : Bd (-9000) 9000 D) : Bd (-4600) 4600 (upD D) := by
  unfold upD; split
  · exact bd_zero _ _
  · rename_i h0
    exact bd_norm _ (bd_upN (fun h => h0 (.inr h)) h)

theorem iv_up {n : Nat} (h0 : n ≠ 0) {e : Int} (h : Bn (-9000) 9000 n e) {M : Int} (hM : M ≤ -4600) :
    iv (upN' n e) M = (((isq (cutN n (cutU n e)) + 1) * 2 ^ ((e + cutU n e) / 2 - M).toNat : Nat) : Int) := by
  obtain ⟨b1, b2⟩ : -4600 ≤ (e + cutU n e) / 2 ∧ (e + cutU n e) / 2 + bl (isq (cutN n (cutU n e)) + 1) ≤ 4600 := by
    rcases bd_upN h0 h with h | h
    · omega
    · exact h
  unfold upN'
  rw [iv_norm (by omega) (.inr (by omega)), sg_f]; rfl

/-- The square is above, but not by much. -/
theorem up_square {n : Nat} (h0 : n ≠ 0) {e : Int} (h : Bn (-9000) 9000 n e) {M : Int} (hM : M ≤ -10000) :
    up n e (2 * M) < ((isq (cutN n (cutU n e)) + 1) * 2 ^ ((e + cutU n e) / 2 - M).toNat) * ((isq (cutN n (cutU n e)) + 1) * 2 ^ ((e + cutU n e) / 2 - M).toNat) ∧
    ((isq (cutN n (cutU n e)) + 1) * 2 ^ ((e + cutU n e) / 2 - M).toNat) * ((isq (cutN n (cutU n e)) + 1) * 2 ^ ((e + cutU n e) / 2 - M).toNat) * 2 ^ 50 ≤ up n e (2 * M) * (2 ^ 50 + 1) := by
  obtain ⟨b1, b2⟩ : -4600 ≤ (e + cutU n e) / 2 ∧ (e + cutU n e) / 2 + bl (isq (cutN n (cutU n e)) + 1) ≤ 4600 := by
    rcases bd_upN h0 h with h | h
    · omega
    · exact h
  obtain ⟨g1, g2⟩ : -9000 ≤ e ∧ e + bl n ≤ 9000 := by
    rcases h with h | h
    · exact absurd h h0
    · exact h
  have hev := cutU_even n e
  have hcb := cutU_bl n e
  obtain ⟨i1, i2⟩ := isq_bounds h0 e
  obtain ⟨r1, r2⟩ := isq_root (cutN n (cutU n e))
  have hlow := bl_low h0
  generalize hc : cutU n e = c at *
  generalize hs : isq (cutN n c) = s at *
  have hsq : ((s + 1) * 2 ^ ((e + c) / 2 - M).toNat) * ((s + 1) * 2 ^ ((e + c) / 2 - M).toNat) = (s + 1) * (s + 1) * 2 ^ (e + c - 2 * M).toNat := by
    rw [Nat.mul_mul_mul_comm, ← Nat.pow_add]
    congr 2; omega
  rw [hsq]
  have hsm : (s + 1) * (s + 1) = s * s + (2 * s + 1) := by rw [Nat.add_mul, Nat.mul_add]; omega
  unfold up
  by_cases hc0 : 0 < c
  · have hm : cutN n c = n / 2 ^ c.toNat + 1 := by unfold cutN; rw [if_pos hc0]
    rw [hm] at r1 r2
    have hpc := Nat.two_pow_pos c.toNat
    have hd := Nat.div_add_mod n (2 ^ c.toNat)
    have hr := Nat.mod_lt n hpc
    generalize n / 2 ^ c.toNat = q at *
    generalize n % 2 ^ c.toNat = t at *
    have e1 : 2 ^ (e + c - 2 * M).toNat = 2 ^ c.toNat * 2 ^ (e - 2 * M).toNat := by rw [← Nat.pow_add]; congr 1; omega
    rw [e1, ← Nat.mul_assoc]
    have hp := Nat.two_pow_pos (e - 2 * M).toNat
    have hn126 : 2 ^ 126 * 2 ^ c.toNat ≤ n := by
      rw [← Nat.pow_add]
      exact Nat.le_trans (Nat.pow_le_pow_right (by decide) (by omega)) hlow
    generalize 2 ^ (e - 2 * M).toNat = p at *
    generalize 2 ^ c.toNat = C at *
    have k1 : n < (s + 1) * (s + 1) * C := by
      have : (q + 1) * C ≤ (s + 1) * (s + 1) * C := Nat.mul_le_mul_right _ (by omega)
      rw [Nat.add_mul, Nat.one_mul, Nat.mul_comm q] at this
      omega
    have k2 : (s + 1) * (s + 1) * C * 2 ^ 50 ≤ n * (2 ^ 50 + 1) := by
      have l1 : (s + 1) * (s + 1) * C ≤ (q + 1 + (2 * s + 1)) * C := Nat.mul_le_mul_right _ (by omega)
      have l2 : (q + 1 + (2 * s + 1)) * C = C * q + (2 * s + 2) * C := by rw [show q + 1 + (2 * s + 1) = q + (2 * s + 2) by omega, Nat.add_mul, Nat.mul_comm q]
      have l3 : (2 * s + 2) * 2 ^ 50 * C ≤ 2 ^ 126 * C := Nat.mul_le_mul_right _ (by
        have : (2 * s + 2) * 2 ^ 50 ≤ (2 ^ 65 + 2) * 2 ^ 50 := Nat.mul_le_mul_right _ (by have h65 : (2:Nat) ^ 65 = 2 * 2 ^ 64 := (by decide); omega)
        exact Nat.le_trans this (by decide))
      have l4 : (2 * s + 2) * C * 2 ^ 50 = (2 * s + 2) * 2 ^ 50 * C := by rw [Nat.mul_assoc, Nat.mul_comm C, ← Nat.mul_assoc]
      generalize (s + 1) * (s + 1) = Q at *
      have l5 : Q * C * 2 ^ 50 ≤ (n + (2 * s + 2) * C) * 2 ^ 50 := Nat.mul_le_mul_right _ (by omega)
      rw [Nat.add_mul, l4] at l5
      rw [Nat.mul_add, Nat.mul_one]
      omega
    exact ⟨Nat.mul_lt_mul_of_pos_right k1 hp, by
      have := Nat.mul_le_mul_right p k2
      rw [Nat.mul_right_comm _ (2 ^ 50) p, Nat.mul_right_comm n (2 ^ 50 + 1) p] at this
      exact this⟩
  · have hm : cutN n c = n * 2 ^ (-c).toNat := by unfold cutN; rw [if_neg hc0]
    have hb := cutN_bounds h0 e
    rw [hc, hm] at hb
    rw [hm] at r1 r2
    have e1 : n * 2 ^ (e - 2 * M).toNat = n * 2 ^ (-c).toNat * 2 ^ (e + c - 2 * M).toNat := by rw [Nat.mul_assoc, ← Nat.pow_add]; congr 2; omega
    rw [e1]
    have hp := Nat.two_pow_pos (e + c - 2 * M).toNat
    generalize 2 ^ (e + c - 2 * M).toNat = p at *
    generalize n * 2 ^ (-c).toNat = m at *
    have k2 : (s + 1) * (s + 1) * 2 ^ 50 ≤ m * (2 ^ 50 + 1) := by
      generalize (s + 1) * (s + 1) = Q at *
      have l5 : Q * 2 ^ 50 ≤ (m + (2 * s + 1)) * 2 ^ 50 := Nat.mul_le_mul_right _ (by omega)
      have l3 : (2 * s + 1) * 2 ^ 50 ≤ (2 ^ 65 + 1) * 2 ^ 50 := Nat.mul_le_mul_right _ (by have h65 : (2:Nat) ^ 65 = 2 * 2 ^ 64 := (by decide); omega)
      have l4 : (2 ^ 65 + 1) * 2 ^ 50 ≤ 2 ^ 126 := by decide
      have l6 : (2 * s + 1) * 2 ^ 50 ≤ m := Nat.le_trans (Nat.le_trans l3 l4) hb.2
      rw [Nat.add_mul] at l5
      rw [Nat.mul_add, Nat.mul_one]
      exact Nat.le_trans l5 (Nat.add_le_add_left l6 _)
    exact ⟨Nat.mul_lt_mul_of_pos_right r2 hp, by
      have := Nat.mul_le_mul_right p k2
      rw [Nat.mul_right_comm _ (2 ^ 50) p, Nat.mul_right_comm m (2 ^ 50 + 1) p] at this
      exact this⟩
end Go.Proofs.Nt
/- Near: the norm from above. -/
set_option linter.unusedVariables false
set_option maxRecDepth 20000
set_option linter.unusedSimpArgs false
set_option linter.unnecessarySimpa false
namespace Go.Proofs.Nt
open Go Go.Proofs Go.Proofs.Va Go.RowKit

theorem iv_pos_iff {D : Dy} (M : Int) : 0 < iv D M ↔ ¬ (D.1 = true ∨ val D.2.1 = 0) := by
  unfold iv
  by_cases h0 : val D.2.1 = 0
  · rw [h0, up_zero]
    cases D.1
    · rw [sg_f]; simp
    · rw [sg_t]; simp
  · have h := up_pos' h0 D.2.2 M
    generalize up (val D.2.1) D.2.2 M = x at *
    cases D.1
    · rw [sg_f]; simp [h0]; omega
    · rw [sg_t]; simp
theorem neg_zero : negD false [] 0 = zeroD := by
  have : mayD false [] 0 = zeroD := may_of_ok (d := zeroD) (by decide)
  unfold negD
  rw [this]; decide
theorem sgn_zero {D : Dy} (o : dOK D) (b : Bd (-9000) 9000 D) : sgnD (addD D zeroD) ≤ 0 ↔ (D.1 = true ∨ val D.2.1 = 0) := by
  have hz : oppD zeroD = zeroD := by decide
  have h := cmp_agree o ok_zero b (bd_zero _ _) (by omega) (by omega) (by omega)
  rw [hz] at h
  rw [h, cmpD_iv o ok_zero (M := -20000) (by omega), iv_zero]
  have h2 := iv_pos_iff (D := D) (-20000)
  generalize iv D (-20000) = x at *
  constructor
  · intro h3
    apply Classical.byContradiction
    intro h4
    have := h2.2 h4
    unfold cmp3 at h3
    rw [if_neg (by omega), if_pos (by omega)] at h3
    omega
  · intro h3
    have : ¬ 0 < x := fun h4 => h2.1 h4 h3
    unfold cmp3
    by_cases h5 : x < 0
    · rw [if_pos h5]; omega
    · rw [if_neg h5, if_neg this]; omega

theorem cut_len {n : Nat} (h0 : n ≠ 0) (e : Int) : (ofN (cutN n (cutU n e))).length ≤ 5 ∧ (ofN (isq (cutN n (cutU n e)) + 1)).length ≤ 3 ∧ (ofN (isq (cutN n (cutU n e)))).length ≤ 3 := by
  obtain ⟨h1, _⟩ := cutN_bounds h0 e
  obtain ⟨h2, _⟩ := isq_bounds h0 e
  have k1 : (2 : Nat) ^ 128 < 4294967296 ^ 5 := by decide
  have k2 : (2 : Nat) ^ 64 + 1 < 4294967296 ^ 3 := by decide
  exact ⟨ofN_le (by omega) (Nat.le_refl _), ofN_le (by omega) (Nat.le_refl _), ofN_le (by omega) (Nat.le_refl _)⟩

theorem nup_ctr (neg nl : Bool) (a : List Nat) (cap : Option Nat) (e : Int) (ha : Dig a) (hl : a.length ≤ 900) (hb : Bd (-9000) 9000 (mayD neg a e)) :
    Ctr Tryz.prog 93 [dy neg nl a cap e] (dTold (upD (mayD neg a e))) := by
  refine ctr_in Tryz.func93 rfl (by kernel_rfl) rfl fun K hK => ?_
  simp only [Tryz.f93, List.append_eq, List.cons_append, List.nil_append]
  have cC := dcmp_ctr neg nl false true a [] cap (some 0) e 0 ha dig_nil (by omega) (by simp)
  rw [neg_zero] at cC
  have hs := sgn_zero (ok_may (neg := neg) (e := e) ha) hb
  have hz : oppD zeroD = zeroD := by decide
  simp [cells_dy, cells_sl, cells_ag, cells_ag0, wr, -cellsOf]
  refine acall_by cC (by simp [dy]) ?_
  rintro _ rfl
  generalize sgnD (addD (mayD neg a e) zeroD) = cm at *
  by_cases h0 : cm ≤ 0
  · have hu : upD (mayD neg a e) = zeroD := by unfold upD; rw [if_pos (hs.1 h0)]
    rw [hu] at hK
    simp [cells_dy, cells_sl, cells_ag, cells_ag0, wr, h0, -cellsOf]
    exact hK _ _ _ (.same _ (by simp)) ⟨true, some 0, rfl⟩
  have hnz : ¬ ((mayD neg a e).1 = true ∨ val (mayD neg a e).2.1 = 0) := fun h => h0 (hs.2 h)
  have hok : dOk neg a e = true := by
    apply Classical.byContradiction
    intro h
    apply hnz
    unfold mayD; rw [if_neg h]; exact .inr rfl
  have hm : mayD neg a e = (neg, a, e) := may_of_ok (d := (neg, a, e)) hok
  have hu : upD (mayD neg a e) = upN' (val a) e := by
    rw [hm] at hnz ⊢
    unfold upD; rw [if_neg hnz]
  rw [hu] at hK
  rw [hm] at hnz hb
  have hn0 : val a ≠ 0 := fun h => hnz (.inr h)
  have hexp := ok_exp hok
  have oA := ok_ofN (d := (neg, a, e)) ⟨hok, ha⟩
  obtain ⟨g1, g2⟩ : -9000 ≤ e ∧ e + bl (val a) ≤ 9000 := by
    rcases hb with h | h
    · exact absurd h hn0
    · exact h
  simp only at oA
  clear hb hu hm hok hnz hs cC
  generalize val a = n at *
  subst oA
  have hev := cutU_even n e
  have hcb := cutU_bl n e
  obtain ⟨l1, l2, l3⟩ := cut_len hn0 e
  have hcd : ((bl n : Int) - 128) + (e + ((bl n : Int) - 128)) % 2 = cutU n e := rfl
  have w1 : IntKind.i64.wrap ((bl n : Int) - 128) = bl n - 128 := w64 _ (by omega) (by omega)
  have w2 : IntKind.i64.wrap (e + ((bl n : Int) - 128)) = e + (bl n - 128) := w64 _ (by omega) (by omega)
  have w3 : IntKind.i64.wrap ((bl n : Int) - 128 + (e + ((bl n : Int) - 128)) % 2) = cutU n e := by rw [w64 _ (by omega) (by omega)]; exact hcd
  have hu : upN' n e = normD false (isq (cutN n (cutU n e)) + 1) ((e + cutU n e) / 2) := rfl
  rw [hu] at hK
  have hN : cutN n (cutU n e) = if 0 < cutU n e then n / 2 ^ (cutU n e).toNat + 1 else n * 2 ^ (-(cutU n e)).toNat := rfl
  generalize cutU n e = c at *
  have w4 : IntKind.i64.wrap (e + c) = e + c := w64 _ (by omega) (by omega)
  have w5 : IntKind.i64.wrap ((e + c).tdiv 2) = (e + c) / 2 := by
    have h1 : (e + c).tdiv 2 = (e + c) / 2 := by
      obtain ⟨t, ht⟩ : ∃ t, e + c = 2 * t := ⟨(e + c) / 2, by omega⟩
      rw [ht, Int.mul_tdiv_cancel_left _ (by decide), Int.mul_ediv_cancel_left _ (by decide)]
    rw [h1]; exact w64 _ (by omega) (by omega)
  have w6 : IntKind.i64.wrap (-c) = -c := w64 _ (by omega) (by omega)
  have hroot := fun nl c1 => root_ctr nl (ofN (cutN n c)) c1 (dig_ofN _) (by omega)
  rw [val_ofN] at hroot
  have hadd := fun nl nl' c1 c2 => add_ctr nl nl' (ofN (isq (cutN n c))) (ofN 1) c1 c2 (dig_ofN _) (dig_ofN _) (by omega) (by have : (ofN 1).length ≤ 2 := ofN_u64 (by decide); omega)
  rw [val_ofN, val_ofN] at hadd
  have hnorm := fun nl c1 => norm_ctr false nl (ofN (isq (cutN n c) + 1)) c1 ((e + c) / 2) (dig_ofN _) (by omega)
  rw [val_ofN] at hnorm
  have hisq : ∀ s, IsRoot (cutN n c) s → s = isq (cutN n c) := fun s h => h.isq
  generalize isq (cutN n c) = s at *
  generalize hr : normD false (s + 1) ((e + c) / 2) = r at *
  simp [cells_dy, cells_sl, cells_ag, cells_ag0, wr, h0, -cellsOf]
  refine acall_by (len_ctr nl (ofN n) cap (dig_ofN n) (by omega)) (by simp [sl]) ?_
  rintro _ rfl
  rw [val_ofN]
  by_cases hc : 0 < c
  case' pos =>
    rw [if_pos hc] at hN
    have hc' : ¬ c ≤ 0 := by omega
    have hsh := shr_ctr nl (ofN n) cap c (dig_ofN n) (by omega)
    unfold shrPost at hsh
    simp only [val_ofN, show ¬ (c < 0 ∨ 100000 < c) by omega, if_false] at hsh
    have hq : (ofN (n / 2 ^ c.toNat)).length ≤ 5 := ofN_low (n := n / 2 ^ c.toNat + 1) (Nat.le_succ _) (by rw [← hN]; exact l1)
    have had := fun nl nl' c1 c2 => add_ctr nl nl' (ofN (n / 2 ^ c.toNat)) (ofN 1) c1 c2 (dig_ofN _) (dig_ofN _) (by omega) (by have : (ofN 1).length ≤ 2 := ofN_u64 (by decide); omega)
    rw [val_ofN, val_ofN, ← hN] at had
    generalize n / 2 ^ c.toNat = q at *
    generalize (n % 2 ^ c.toNat == 0) = ex at *
    simp [cells_dy, cells_sl, cells_vi, wr, w1, w2, and_one_i, w3, hc', -cellsOf]
    refine acall_by hsh (by simp [sl]) ?_
    rintro _ ⟨n3, c3, rfl⟩
    simp [cells_dy, cells_sl, cells_vi, wr, -cellsOf]
    refine acall_by (from_ctr 1 (by decide)) (by simp) ?_
    rintro _ ⟨n4, c4, rfl⟩
    simp [cells_dy, cells_sl, cells_vi, wr, -cellsOf]
    refine acall_by (had n3 n4 c3 c4) (by simp [sl]) ?_
  case' neg =>
    rw [if_neg hc] at hN
    have hc' : c ≤ 0 := by omega
    have hsh := shl_ctr nl (ofN n) cap (-c) (dig_ofN n) (by omega)
    unfold shlN at hsh
    rw [val_ofN, if_neg (by omega), ← hN] at hsh
    simp [cells_dy, cells_sl, cells_vi, wr, w1, w2, and_one_i, w3, w6, hc', -cellsOf]
    refine acall_by hsh (by simp [sl]) ?_
  all_goals
    rintro _ ⟨n5, c5, rfl⟩
    clear hN
    generalize cutN n c = m at *
    simp [cells_dy, cells_sl, cells_vi, wr, -cellsOf]
    refine draw_at [0, 3, 3, 3, 1, 1, 0, 0, 0, 3, 4] orders (by kernel_rfl) ?_
    simp [cells_dy, cells_sl, cells_vi, wr, w4, w5, -cellsOf]
    refine acall_by (hroot n5 c5) (by simp [sl]) ?_
    rintro _ ⟨s', hs', n6, c6, rfl⟩
    have hs' := hisq s' hs'
    subst hs'
    simp [cells_dy, cells_sl, cells_vi, wr, -cellsOf]
    refine acall_by (from_ctr 1 (by decide)) (by simp) ?_
    rintro _ ⟨n7, c7, rfl⟩
    simp [cells_dy, cells_sl, cells_vi, wr, -cellsOf]
    refine acall_by (hadd n6 n7 c6 c7) (by simp [sl]) ?_
    rintro _ ⟨n8, c8, rfl⟩
    simp [cells_dy, cells_sl, cells_vi, wr, w4, w5, -cellsOf]
    refine acall_by (hnorm n8 c8) (by simp [sl]) ?_
    rintro _ ⟨n9, c9, rfl⟩
    simp [cells_dy, cells_sl, cells_ag, cells_ag0, wr, -cellsOf]
    exact hK _ _ _ (.same _ (by simp)) ⟨_, _, rfl⟩
end Go.Proofs.Nt
/- Near: bounds. -/
set_option linter.unusedVariables false
set_option maxRecDepth 20000
set_option linter.unusedSimpArgs false
set_option linter.unnecessarySimpa false
namespace Go.Proofs.Nt
open Go Go.Proofs Go.Proofs.Va Go.RowKit

theorem iv_num {n : Nat} {e M : Int} (h : bl n ≤ 60) (he : -19900 ≤ e ∧ e ≤ 19900) (hM : M ≤ e) : iv (normD false n e) M = ((n * 2 ^ (e - M).toNat : Nat) : Int) := by
  rw [iv_norm hM (.inr (by omega)), sg_f]; rfl

def bigK : Nat := 17913
def boundD (A B : Dy) (k : Int) : Dy := addD (addD (mulD (normD false (64 * k).toNat (-53)) (mulD A B)) (mulD (normD false k.toNat (-1060)) (addD A B))) (normD false (k * k).toNat (-2140))
theorem ok_bound (A B : Dy) (k : Int) : dOK (boundD A B k) := ok_add _ _

section
variable {A B : Dy} {k : Int} (hk : 0 ≤ k ∧ k ≤ 100000) (oA : dOK A) (oB : dOK B) (bA : Bd (-4600) 4600 A) (bB : Bd (-4600) 4600 B)
include hk
theorem kk_le : 0 ≤ k * k ∧ k * k ≤ 10000000000 := by
  obtain ⟨n, rfl⟩ : ∃ n : Nat, k = n := ⟨k.toNat, by omega⟩
  have : n * n ≤ 100000 * 100000 := Nat.mul_le_mul (by omega) (by omega)
  rw [← Int.natCast_mul]
  omega
theorem bl_k : bl k.toNat ≤ 60 := bl_le (Nat.lt_of_le_of_lt (show k.toNat ≤ 100000 by omega) (by decide))
theorem bl_64k : bl (64 * k).toNat ≤ 60 := bl_le (Nat.lt_of_le_of_lt (show (64 * k).toNat ≤ 6400000 by omega) (by decide))
theorem bl_kk : bl (k * k).toNat ≤ 60 := bl_le (Nat.lt_of_le_of_lt (show (k * k).toNat ≤ 10000000000 by have := kk_le hk; omega) (by decide))
include bA bB
theorem bd_main : Bd (-9300) 9300 (mulD (normD false (64 * k).toNat (-53)) (mulD A B)) := (bd_mul (bd_num (bl_64k hk)) (bd_mul bA bB)).mono (by omega) (by omega)
include oA oB
theorem bd_least : Bd (-9300) 9300 (mulD (normD false k.toNat (-1060)) (addD A B)) := (bd_mul (bd_num (bl_k hk)) (bd_add oA oB bA bB (by omega))).mono (by omega) (by omega)
theorem bd_two : Bd (-9300) 9301 (addD (mulD (normD false (64 * k).toNat (-53)) (mulD A B)) (mulD (normD false k.toNat (-1060)) (addD A B))) :=
  bd_add (ok_mul _ _) (ok_mul _ _) (bd_main hk bA bB) (bd_least hk oA oB bA bB) (by omega)
theorem bd_bound : Bd (-9300) 9302 (boundD A B k) :=
  bd_add (ok_add _ _) (ok_norm _ _ _) (bd_two hk oA oB bA bB) ((bd_num (bl_kk hk)).mono (by omega) (by omega)) (by omega)
/-- What a bound comes to. -/
theorem iv_bound : iv (boundD A B k) (-20053) = 64 * k * (iv A (-10000) * iv B (-10000)) + k * (iv A (-18993) + iv B (-18993)) + k * k * ((2 ^ bigK : Nat) : Int) := by
  have xA : -4600 ≤ A.2.2 := by
    rcases bA with h | h
    · rw [ok_zero_eq oA h]; decide
    · exact h.1
  have xB : -4600 ≤ B.2.2 := by
    rcases bB with h | h
    · rw [ok_zero_eq oB h]; decide
    · exact h.1
  have xM : -20000 ≤ (mulD A B).2.2 := (ok_exp (ok_mul _ _).1).1
  have xS : -18993 ≤ (addD A B).2.2 := by
    rcases bd_add oA oB bA bB (by omega) with h | h
    · rw [ok_zero_eq (ok_add _ _) h]; decide
    · have := h.1; omega
  have h64 := bl_64k hk
  have h1 := bl_k hk
  have h2 := bl_kk hk
  have hkk := kk_le hk
  unfold boundD
  rw [iv_add (ok_add _ _) (ok_norm _ _ _) (bd_two hk oA oB bA bB) ((bd_num h2).mono (by omega) (by omega)) (by omega) (by omega) (by omega) (by omega),
    iv_add (ok_mul _ _) (ok_mul _ _) (bd_main hk bA bB) (bd_least hk oA oB bA bB) (by omega) (by omega) (by omega) (by omega)]
  have e1 : iv (mulD (normD false (64 * k).toNat (-53)) (mulD A B)) (-20053) = 64 * k * (iv A (-10000) * iv B (-10000)) := by
    have := iv_mul (bd_num (e := -53) h64) (bd_mul bA bB) (M := -53) (M' := -20000) (by omega) (by omega) (norm_exp _ _ (by omega) (by omega)) xM
    rw [show (-53 : Int) + -20000 = -20053 from rfl] at this
    rw [this, iv_num h64 (by omega) (by omega)]
    have h3 := iv_mul bA bB (M := -10000) (M' := -10000) (by omega) (by omega) (by omega) (by omega)
    rw [show (-10000 : Int) + -10000 = -20000 from rfl] at h3
    rw [h3, Int.sub_self, Int.toNat_zero, Nat.pow_zero, Nat.mul_one, Int.toNat_of_nonneg (by omega)]
  have e2 : iv (mulD (normD false k.toNat (-1060)) (addD A B)) (-20053) = k * (iv A (-18993) + iv B (-18993)) := by
    have := iv_mul (bd_num (e := -1060) h1) (bd_add oA oB bA bB (by omega)) (M := -1060) (M' := -18993) (by omega) (by omega) (norm_exp _ _ (by omega) (by omega)) xS
    rw [show (-1060 : Int) + -18993 = -20053 from rfl] at this
    rw [this, iv_num h1 (by omega) (by omega), iv_add oA oB bA bB (by omega) (by omega) (by omega) (by omega), Int.sub_self, Int.toNat_zero, Nat.pow_zero, Nat.mul_one, Int.toNat_of_nonneg (by omega)]
  have e3 : iv (normD false (k * k).toNat (-2140)) (-20053) = k * k * ((2 ^ bigK : Nat) : Int) := by
    rw [iv_num h2 (by omega) (by omega), Int.natCast_mul, Int.toNat_of_nonneg (by omega), show ((-2140 : Int) - -20053).toNat = bigK from rfl]
  rw [e1, e2, e3]
end
end Go.Proofs.Nt
/- Near: bounds as contracts. -/
set_option linter.unusedVariables false
set_option maxRecDepth 20000
set_option linter.unusedSimpArgs false
set_option linter.unnecessarySimpa false
namespace Go.Proofs.Nt
open Go Go.Proofs Go.Proofs.Va Go.RowKit

theorem ntimes_ctr (k e : Int) (hk : k < 9223372036854775808) : Ctr Tryz.prog 96 [i k, i e] (dTold (normD false k.toNat e)) := by
  refine ctr_in Tryz.func96 rfl (by kernel_rfl) rfl fun K hK => ?_
  simp only [Tryz.f96, List.append_eq, List.cons_append, List.nil_append]
  have lo : (ofN k.toNat).length ≤ 2 := ofN_u64 (by omega)
  have c2 := fun n c => norm_ctr false n (ofN k.toNat) c e (dig_ofN _) (by omega)
  rw [val_ofN] at c2
  generalize normD false k.toNat e = d at *
  have hm : (if k > 0 then k else 0) = (k.toNat : Int) := by split <;> omega
  have hkw : IntKind.u64.wrap (k.toNat : Int) = (k.toNat : Int) := IntWalk.u64_in _ (by omega)
  simp [cells_dy, cells_sl, cells_ag, cells_ag0, wr, hm, hkw, -cellsOf, -Int.ofNat_toNat]
  refine acall_by (from_ctr k.toNat (by omega)) (by simp) ?_
  rintro _ ⟨n1, c1, rfl⟩
  simp [cells_dy, cells_sl, cells_ag, cells_ag0, wr, -cellsOf]
  refine acall_by (c2 n1 c1) (by simp [sl]) ?_
  rintro _ ⟨n3, c3, rfl⟩
  simp [cells_dy, cells_sl, cells_ag, cells_ag0, wr, -cellsOf]
  exact hK _ _ _ (.same _ (by simp)) ⟨_, _, rfl⟩

section
variable {A B : Dy} {k : Int} (n n' : Bool) (c c' : Option Nat) (hk : 0 ≤ k ∧ k ≤ 100000) (oA : dOK A) (oB : dOK B) (bA : Bd (-4600) 4600 A) (bB : Bd (-4600) 4600 B)
include hk oA oB bA bB
theorem nbound_ctr : Ctr Tryz.prog 68 [dy A.1 n A.2.1 c A.2.2, dy B.1 n' B.2.1 c' B.2.2, i k] (dTold (boundD A B k)) := by
  refine ctr_in Tryz.func68 rfl (by kernel_rfl) rfl fun K hK => ?_
  simp only [Tryz.f68, List.append_eq, List.cons_append, List.nil_append]
  have hkk := kk_le hk
  have lA := bd_len oA bA (k := 900) (by omega)
  have lB := bd_len oB bB (k := 900) (by omega)
  have bm := bd_mul bA bB
  have om := ok_mul A B
  have lm := bd_len om bm (k := 900) (by omega)
  have bs := bd_add oA oB bA bB (by omega)
  have os := ok_add A B
  have ls := bd_len os bs (k := 900) (by omega)
  have o1 := ok_norm false (64 * k).toNat (-53)
  have l1 := bd_len o1 (bd_num (bl_64k hk)) (k := 900) (by omega)
  have o2 := ok_norm false k.toNat (-1060)
  have l2 := bd_len o2 (bd_num (bl_k hk)) (k := 900) (by omega)
  have o3 := ok_norm false (k * k).toNat (-2140)
  have l3 := bd_len o3 (bd_num (bl_kk hk)) (k := 900) (by omega)
  have o4 := ok_mul (normD false (64 * k).toNat (-53)) (mulD A B)
  have l4 := bd_len o4 (bd_main hk bA bB) (k := 900) (by omega)
  have o5 := ok_mul (normD false k.toNat (-1060)) (addD A B)
  have l5 := bd_len o5 (bd_least hk oA oB bA bB) (k := 900) (by omega)
  have o6 := ok_add (mulD (normD false (64 * k).toNat (-53)) (mulD A B)) (mulD (normD false k.toNat (-1060)) (addD A B))
  have l6 := bd_len o6 (bd_two hk oA oB bA bB) (k := 900) (by omega)
  have t1 := ntimes_ctr (64 * k) (-53) (by omega)
  have t2 := ntimes_ctr k (-1060) (by omega)
  have t3 := ntimes_ctr (k * k) (-2140) (by omega)
  have w1 : IntKind.i64.wrap (64 * k) = 64 * k := w64 _ (by omega) (by omega)
  have w2 : IntKind.i64.wrap (k * k) = k * k := w64 _ (by omega) (by omega)
  have cm := mulX (n := n) (c := c) (n' := n') (c' := c') oA (by omega) oB (by omega)
  have cs := addX (n := n) (c := c) (n' := n') (c' := c') oA (by omega) oB (by omega)
  have c4 := fun n c n' c' => mulX (n := n) (c := c) (n' := n') (c' := c') o1 (by omega) om (by omega)
  have c5 := fun n c n' c' => mulX (n := n) (c := c) (n' := n') (c' := c') o2 (by omega) os (by omega)
  have c6 := fun n c n' c' => addX (n := n) (c := c) (n' := n') (c' := c') o4 (by omega) o5 (by omega)
  have c7 := fun n c n' c' => addX (n := n) (c := c) (n' := n') (c' := c') o6 (by omega) o3 (by omega)
  change ∀ n c n' c', Ctr _ _ _ (dTold (boundD A B k)) at c7
  clear bm om lm bs os ls o1 l1 o2 l2 o3 l3 o4 l4 o5 l5 o6 l6 lA lB
  generalize boundD A B k = r at *
  generalize addD (mulD (normD false (64 * k).toNat (-53)) (mulD A B)) (mulD (normD false k.toNat (-1060)) (addD A B)) = d6 at *
  generalize mulD (normD false (64 * k).toNat (-53)) (mulD A B) = d4 at *
  generalize mulD (normD false k.toNat (-1060)) (addD A B) = d5 at *
  generalize mulD A B = dm at *
  generalize addD A B = ds at *
  generalize normD false (64 * k).toNat (-53) = d1 at *
  generalize normD false k.toNat (-1060) = d2 at *
  generalize normD false (k * k).toNat (-2140) = d3 at *
  simp [cells_dy, cells_sl, cells_ag, cells_ag0, wr, -cellsOf]
  refine draw_at [0, 0, 5, 1, 1, 5, 5, 2, 4] orders (by kernel_rfl) ?_
  simp [cells_dy, cells_sl, cells_ag, cells_ag0, wr, w1, -cellsOf]
  refine actr_by t1 (by simp) ⟨_, told_ex d1⟩ ?_
  rintro _ ⟨n1, c1, rfl⟩
  simp [cells_dy, cells_sl, cells_ag, cells_ag0, wr, w1, -cellsOf]
  refine actr_by cm (by simp [dy]) ⟨_, told_ex dm⟩ ?_
  rintro _ ⟨n2, c2, rfl⟩
  simp [cells_dy, cells_sl, cells_ag, cells_ag0, wr, w1, -cellsOf]
  refine actr_by (c4 n1 c1 n2 c2) (by simp [dy]) ⟨_, told_ex d4⟩ ?_
  rintro _ ⟨n3, c3, rfl⟩
  simp [cells_dy, cells_sl, cells_ag, cells_ag0, wr, w1, -cellsOf]
  refine ⟨same_pre (by simp) (by simp) rfl, ?_⟩
  simp [cells_dy, cells_sl, cells_ag, cells_ag0, wr, w1, -cellsOf]
  refine draw_at [1, 0, 3, 1, 1, 3, 3, 3, 4] orders (by kernel_rfl) ?_
  simp [cells_dy, cells_sl, cells_ag, cells_ag0, wr, w1, -cellsOf]
  refine acall_by t2 (by simp) ?_
  rintro _ ⟨n4, c44, rfl⟩
  simp [cells_dy, cells_sl, cells_ag, cells_ag0, wr, w1, -cellsOf]
  refine acall_by cs (by simp [dy]) ?_
  rintro _ ⟨n5, c55, rfl⟩
  simp [cells_dy, cells_sl, cells_ag, cells_ag0, wr, w1, -cellsOf]
  refine acall_by (c5 n4 c44 n5 c55) (by simp [dy]) ?_
  rintro _ ⟨n6, c66, rfl⟩
  simp [cells_dy, cells_sl, cells_ag, cells_ag0, wr, w1, -cellsOf]
  refine acall_by (c6 n3 c3 n6 c66) (by simp [dy]) ?_
  rintro _ ⟨n7, c77, rfl⟩
  simp [cells_dy, cells_sl, cells_ag, cells_ag0, wr, w1, -cellsOf]
  refine draw_at [1, 0, 0, 0, 3, 3, 4] orders (by kernel_rfl) ?_
  simp [cells_dy, cells_sl, cells_ag, cells_ag0, wr, w2, -cellsOf]
  refine acall_by t3 (by simp) ?_
  rintro _ ⟨n8, c88, rfl⟩
  simp [cells_dy, cells_sl, cells_ag, cells_ag0, wr, w1, -cellsOf]
  refine acall_by (c7 n7 c77 n8 c88) (by simp [dy]) ?_
  rintro _ ⟨n9, c99, rfl⟩
  simp [cells_dy, cells_sl, cells_ag, cells_ag0, wr, w1, -cellsOf]
  exact hK _ _ _ (.same _ (by simp)) ⟨_, _, rfl⟩

end

theorem nmay_ctr (k : Int) : Ctr Tryz.prog 63 [i k] (fun r => r = bo (decide (0 ≤ k ∧ k ≤ 100000))) := by
  refine ctr_val Tryz.func63 rfl (by kernel_rfl) rfl (by simp) fun K hK => ?_
  simp only [Tryz.f63, List.append_eq, List.cons_append, List.nil_append]
  by_cases h1 : 0 ≤ k
  · by_cases h2 : k ≤ 100000
    · rw [decide_eq_true ⟨h1, h2⟩] at hK
      simp [h1, h2]
      exact hK _
    · rw [decide_eq_false (fun h => h2 h.2)] at hK
      simp [h1, h2]
      exact hK _
  · rw [decide_eq_false (fun h => h1 h.1)] at hK
    simp [h1]
    exact hK _

section
variable (A B : Dy) (k : Int) (n n' : Bool) (c c' : Option Nat) (dA : Dig A.2.1) (dB : Dig B.2.1) (lA : A.2.1.length ≤ 900) (lB : B.2.1.length ≤ 900)
  (bA : Bd (-9000) 9000 (mayD A.1 A.2.1 A.2.2)) (bB : Bd (-9000) 9000 (mayD B.1 B.2.1 B.2.2))
include dA dB lA lB bA bB
end
end Go.Proofs.Nt
/- Triangles: sizes, places; entries of lists of dyads. -/
set_option linter.unusedVariables false
set_option maxRecDepth 20000
set_option linter.unusedSimpArgs false
set_option linter.unnecessarySimpa false
namespace Go.Proofs.Nt
open Go Go.Proofs Go.Proofs.Va Go.RowKit

def rowI (c : Int) : Nat → Int
  | 0 => 0
  | r + 1 => rowI c r + (c + 1 - r)
/-- The place of an entry. -/
def atI (c : Int) (i j : Nat) : Int := rowI c i + j - i
def atN (c i j : Nat) : Nat := (atI c i j).toNat
def sizeN (c : Nat) : Nat := (c + 1) * (c + 2) / 2
def sizeI (c : Int) : Int := if 1 ≤ c ∧ c ≤ 6 then (sizeN c.toNat : Int) else 0

theorem at_all : ∀ c i j : Fin 7, i.1 ≤ j.1 → j.1 ≤ c.1 → 0 ≤ atI (c.1 : Nat) i.1 j.1 ∧ atI (c.1 : Nat) i.1 j.1 < sizeN c.1 := by decide
theorem at_rng {c i j : Nat} (hc : c ≤ 6) (hi : i ≤ j) (hj : j ≤ c) : 0 ≤ atI c i j ∧ atI c i j < sizeN c := at_all ⟨c, by omega⟩ ⟨i, by omega⟩ ⟨j, by omega⟩ hi hj
theorem size_le {c : Nat} (hc : c ≤ 6) : sizeN c ≤ 28 ∧ 1 ≤ sizeN c := by
  have : ∀ c < 7, sizeN c ≤ 28 ∧ 1 ≤ sizeN c := by decide
  exact this c (by omega)
theorem atN_lt {c i j : Nat} (hc : c ≤ 6) (hi : i ≤ j) (hj : j ≤ c) : atN c i j < sizeN c ∧ ((atN c i j : Nat) : Int) = atI c i j := by
  have := at_rng hc hi hj
  unfold atN; omega

theorem six {i : Nat} (h : i ≤ 6) : i = 0 ∨ i = 1 ∨ i = 2 ∨ i = 3 ∨ i = 4 ∨ i = 5 ∨ i = 6 := by omega
theorem tri_facts {c i : Nat} (hc : c ≤ 6) (hi : i ≤ 6) : (0 ≤ (i : Int) * (c + 1) ∧ (i : Int) * (c + 1) ≤ 42) ∧ (0 ≤ (i : Int) * (i - 1) ∧ (i : Int) * (i - 1) ≤ 30) ∧
    (0 ≤ ((i : Int) * (i - 1)).tdiv 2 ∧ ((i : Int) * (i - 1)).tdiv 2 ≤ 30) ∧ (i : Int) * (c + 1) - ((i : Int) * (i - 1)).tdiv 2 = rowI c i := by
  rcases six hi with rfl | rfl | rfl | rfl | rfl | rfl | rfl
  all_goals
    refine ⟨by omega, by omega, by decide, ?_⟩
    simp only [rowI]
  · show ((0 : Nat) : Int) * _ - 0 = _; omega
  · show ((1 : Nat) : Int) * _ - 0 = _; omega
  · show ((2 : Nat) : Int) * _ - 1 = _; omega
  · show ((3 : Nat) : Int) * _ - 3 = _; omega
  · show ((4 : Nat) : Int) * _ - 6 = _; omega
  · show ((5 : Nat) : Int) * _ - 10 = _; omega
  · show ((6 : Nat) : Int) * _ - 15 = _; omega
theorem row_rng {c i : Nat} (hc : c ≤ 6) (hi : i ≤ 6) : -30 ≤ rowI c i ∧ rowI c i ≤ 42 := by
  have := tri_facts hc hi
  omega

theorem before_ctr {c i' : Nat} (hc : c ≤ 6) (hi : i' ≤ 6) : Ctr Tryz.prog 76 [i c, i i'] (fun r => r = i (rowI c i')) := by
  refine ctr_val Tryz.func76 rfl (by kernel_rfl) rfl (by simp) fun K hK => ?_
  simp only [Tryz.f76, List.append_eq, List.cons_append, List.nil_append]
  obtain ⟨h1, h2, h3, h4⟩ := tri_facts hc hi
  have w1 : IntKind.i64.wrap ((c : Int) + 1) = c + 1 := w64 _ (by omega) (by omega)
  have w2 : IntKind.i64.wrap ((i' : Int) * (c + 1)) = i' * (c + 1) := w64 _ (by omega) (by omega)
  have w3 : IntKind.i64.wrap ((i' : Int) - 1) = i' - 1 := w64 _ (by omega) (by omega)
  have w4 : IntKind.i64.wrap ((i' : Int) * (i' - 1)) = i' * (i' - 1) := w64 _ (by omega) (by omega)
  have w5 : IntKind.i64.wrap (((i' : Int) * (i' - 1)).tdiv 2) = ((i' : Int) * (i' - 1)).tdiv 2 := w64 _ (by omega) (by omega)
  have w6 : IntKind.i64.wrap ((i' : Int) * (c + 1) - ((i' : Int) * (i' - 1)).tdiv 2) = rowI c i' := by rw [w64 _ (by omega) (by omega)]; exact h4
  simp [w1, w2, w3, w4, w5, w6]
  exact hK _

theorem size_facts {c : Int} (h : 1 ≤ c ∧ c ≤ 6) : (0 ≤ (c + 1) * (c + 2) ∧ (c + 1) * (c + 2) ≤ 56) ∧ ((c + 1) * (c + 2)).tdiv 2 = sizeI c ∧ (3 ≤ sizeI c ∧ sizeI c ≤ 28) := by
  have : c = 1 ∨ c = 2 ∨ c = 3 ∨ c = 4 ∨ c = 5 ∨ c = 6 := by omega
  rcases this with rfl | rfl | rfl | rfl | rfl | rfl <;> decide
theorem size_ctr (c : Int) : Ctr Tryz.prog 36 [i c] (fun r => r = i (sizeI c)) := by
  refine ctr_val Tryz.func36 rfl (by kernel_rfl) rfl (by simp) fun K hK => ?_
  simp only [Tryz.f36, List.append_eq, List.cons_append, List.nil_append]
  by_cases h1 : c < 1
  · have : sizeI c = 0 := if_neg (by omega)
    rw [this] at hK
    simp [h1]; exact hK _
  by_cases h2 : 6 < c
  · have : sizeI c = 0 := if_neg (by omega)
    rw [this] at hK
    simp [h1, h2]; exact hK _
  obtain ⟨f1, f2, f3⟩ := size_facts (c := c) (by omega)
  have w1 : IntKind.i64.wrap (c + 1) = c + 1 := w64 _ (by omega) (by omega)
  have w2 : IntKind.i64.wrap (c + 2) = c + 2 := w64 _ (by omega) (by omega)
  have w3 : IntKind.i64.wrap ((c + 1) * (c + 2)) = (c + 1) * (c + 2) := w64 _ (by omega) (by omega)
  have w4 : IntKind.i64.wrap (((c + 1) * (c + 2)).tdiv 2) = sizeI c := by rw [f2]; exact w64 _ (by omega) (by omega)
  simp [h1, h2, w1, w2, w3, w4]
  exact hK _
section
variable {c i' j' : Nat} (h1 : 1 ≤ c) (hc : c ≤ 6) (hi : i' ≤ j') (hj : j' ≤ c)
include h1 hc hi hj
theorem tat_ctr : Ctr Tryz.prog 34 [i c, i i', i j'] (fun r => r = .tup [i (atI c i' j'), bo true]) := by
  refine ctr_in Tryz.func34 rfl (by kernel_rfl) rfl fun K hK => ?_
  simp only [Tryz.f34, List.append_eq, List.cons_append, List.nil_append]
  have f := (size_facts (c := c) (by omega)).2.2
  have g1 := at_rng hc hi hj
  have g2 := size_le hc
  have g3 := row_rng hc (i := i') (by omega)
  have d : atI c i' j' = rowI c i' + j' - i' := rfl
  have w1 : IntKind.i64.wrap (rowI c i' + j') = rowI c i' + j' := w64 _ (by omega) (by omega)
  have w2 : IntKind.i64.wrap (rowI c i' + j' - i') = atI c i' j' := by rw [w64 _ (by omega) (by omega)]; rfl
  have n1 : ¬ sizeI c = 0 := by omega
  have n2 : ¬ ((i' : Nat) : Int) < 0 := by omega
  have n3 : ¬ ((j' : Nat) : Int) < (i' : Nat) := by omega
  have n4 : ¬ ((c : Nat) : Int) < (j' : Nat) := by omega
  have n3' : ¬ j' < i' := by omega
  have n4' : ¬ c < j' := by omega
  simp
  refine acall_by (size_ctr c) (by simp) ?_
  rintro _ rfl
  simp [n1, n2, n3, n4, n3', n4']
  refine acall_by (before_ctr hc (i' := i') (by omega)) (by simp) ?_
  rintro _ rfl
  simp [w1, w2]
  exact hK _ _ _ (.same _ (pu_tup (by simp))) rfl

end
end Go.Proofs.Nt
/- Near: entries, whether lists fit, norms of all columns. -/
set_option linter.unusedVariables false
set_option maxRecDepth 20000
set_option linter.unusedSimpArgs false
set_option linter.unnecessarySimpa false
namespace Go.Proofs.Nt
open Go Go.Proofs Go.Proofs.Va Go.RowKit

@[simp] theorem arrNorms : arrT Tryz.prog 99 = some (7, 49, 3) := by kernel_rfl
@[simp] theorem elDss : elT Tryz.prog 80 = some (27, ⟨1, 24, [.pl true [] 0 (some 0)]⟩) := by kernel_rfl
@[simp] theorem aggDs : aggT Tryz.prog 27 = some false := by kernel_rfl
@[simp] theorem szDs : szT Tryz.prog 27 = some 1 := by kernel_rfl
def zDV : DV := ⟨false, true, [], some 0, 0⟩
def gv (l : List DV) (k : Nat) : DV := l.getD k zDV
theorem gv_at {l : List DV} {k : Nat} (h : k < l.length) : gv l k = l[k] := by simp [gv, h]
/-- Lists of dyads that are not too great. -/
def DvOk (l : List DV) : Prop := ∀ d ∈ l, Dig d.a ∧ d.a.length ≤ 900 ∧ Bd (-9000) 9000 d.m
theorem DvOk.at {l : List DV} (h : DvOk l) (k : Nat) : Dig (gv l k).a ∧ (gv l k).a.length ≤ 900 ∧ Bd (-9000) 9000 (gv l k).m := by
  by_cases hk : k < l.length
  · rw [gv_at hk]; exact h _ (List.getElem_mem hk)
  · have : gv l k = zDV := by simp [gv, hk]
    rw [this]
    exact ⟨dig_nil, by decide, .inl (by decide)⟩
theorem dcs_read {l : List DV} {k : Nat} (h : k < l.length) : AV.agg (((dcs l).drop (k * 3)).take 3) = (gv l k).av := by rw [dcs_at h, gv_at h]; rfl
theorem dcs_set : ∀ {l : List DV} {k : Nat} (h : k < l.length) (d : DV), wr (dcs l) (k * 3) d.cs = dcs (l.set k d)
  | x :: l, 0, _, d => by
    show wr (DV.cs x ++ dcs l) (0 * 3) d.cs = DV.cs d ++ dcs l
    simp [DV.cs, wr]
  | x :: l, k + 1, h, d => by
    have ih := dcs_set (l := l) (k := k) (by simpa using h) d
    show wr (DV.cs x ++ dcs l) ((k + 1) * 3) d.cs = DV.cs x ++ dcs (l.set k d)
    rw [← ih, show (k + 1) * 3 = k * 3 + 3 by omega]
    simp [DV.cs, wr]

def entN (c i j : Nat) : Nat := atN c (min i j) (max i j)
/-- The entry of two columns. -/
def entV (l : List DV) (c i j : Nat) : DV := gv l (entN c i j)

theorem ent_lt {c i' j' : Nat} (_h1 : 1 ≤ c) (hc : c ≤ 6) (hi : i' ≤ c) (hj : j' ≤ c) : entN c i' j' < sizeN c ∧ ((entN c i' j' : Nat) : Int) = atI c (min i' j') (max i' j') := atN_lt hc (by omega) (by omega)

section
variable {l : List DV} {c i' j' : Nat} (nl : Bool) (cap : Option Nat) (h1 : 1 ≤ c) (hc : c ≤ 6) (hi : i' ≤ c) (hj : j' ≤ c) (hl : l.length = sizeN c)
include h1 hc hi hj
include hl
theorem nentry_ctr : Ctr Tryz.prog 94 [i c, dsl nl l cap, i i', i j'] (fun r => r = (entV l c i' j').av) := by
  refine ctr_in Tryz.func94 rfl (by kernel_rfl) rfl fun K hK => ?_
  simp only [Tryz.f94, List.append_eq, List.cons_append, List.nil_append]
  have e1 : (if j' < i' then (j' : Int) else i') = ((min i' j' : Nat) : Int) := by split <;> omega
  have e2 : (if i' < j' then (j' : Int) else i') = ((max i' j' : Nat) : Int) := by split <;> omega
  obtain ⟨k1, k2⟩ := ent_lt h1 hc hi hj
  have cA := tat_ctr h1 hc (i' := min i' j') (j' := max i' j') (by omega) (by omega)
  rw [← k2] at cA
  have hr := dcs_read (l := l) (k := entN c i' j') (by omega)
  have hv : entV l c i' j' = gv l (entN c i' j') := rfl
  rw [hv] at hK
  generalize entN c i' j' = k at *
  have hkl : k < l.length := by omega
  have hoff : k * 3 < (dcs l).length := by rw [dcs_len]; omega
  have hoff3 : k * 3 + 3 ≤ (dcs l).length := by rw [dcs_len]; omega
  generalize gv l k = d at *
  simp [e1, e2, dsl]
  refine acall_by cA (by simp) ?_
  rintro _ rfl
  obtain ⟨g, n0, a, c0, e⟩ := d
  change _ = dy g n0 a c0 e at hr
  simp [hkl, hoff, hoff3, hr, cells_dy, cells_sl, wr, -cellsOf]
  exact hK _ _ _ (.same _ (by simp [DV.av, dy])) rfl
end

/-! ### Whether lists fit -/
structure LV where
  nl : Bool
  l : List DV
  cap : Option Nat
def LV.av (x : LV) : AV := dsl x.nl x.l x.cap
def lss (ls : List LV) (cap : Option Nat) : AV := .pl false (ls.map LV.av) ls.length cap

theorem nfit_ctr (c : Int) (ls : List LV) (cap : Option Nat) (hl : ls.length ≤ 1000) : Ctr Tryz.prog 62 [i c, lss ls cap] (fun r => r = bo (ls.all (fun x => decide ((x.l.length : Int) = sizeI c)) && decide (0 < sizeI c))) := by
  refine ctr_in Tryz.func62 rfl (by kernel_rfl) rfl fun K hK => ?_
  simp only [Tryz.f62, List.append_eq, List.cons_append, List.nil_append]
  simp [lss]
  refine acall_by (size_ctr c) (by simp) ?_
  rintro _ rfl
  simp
  refine loop_on (γ := Nat) 23 (fun g => [(5, i (sizeI c)), (10, lss ls cap), (11, i ls.length), (12, i g)]) (fun _ => []) (fun g => g ≤ ls.length ∧ (ls.take g).all (fun x => decide ((x.l.length : Int) = sizeI c)) = true) (fun g => ls.length - g)
    0 ⟨Nat.zero_le _, rfl⟩ (Wk.lst (by simp [lss]) (by simp)) ?_
  rintro g ⟨hg, hall⟩ L hL
  by_cases hlt : g < ls.length
  · have hget : (ls.map LV.av)[g]? = some (dsl ls[g].nl ls[g].l ls[g].cap) := by simp [hlt]; rfl
    have w6 : IntKind.i64.wrap ((g : Int) + 1) = ((g + 1 : Nat) : Int) := w64 _ (by omega) (by omega)
    have htk : ls.take (g + 1) = ls.take g ++ [ls[g]] := take_snoc hlt
    have hmem : ls[g] ∈ ls := List.getElem_mem hlt
    have hnext := hL (g + 1)
    simp only [htk] at hnext
    by_cases hn : (ls[g].l.length : Int) = sizeI c
    · simp [lss, LV.av, hlt, hn, dsl, w6, -Int.natCast_add]
      refine hnext _ _ ⟨by omega, by rw [List.all_append, hall]; simp [hn]⟩ (Wk.lst (by simp [lss]) (by simp)) (by show _ - (g + 1) < _ - g; omega)
    · have hf : ls.all (fun x => decide ((x.l.length : Int) = sizeI c)) = false := by
        rw [Bool.eq_false_iff]
        intro h
        rw [List.all_eq_true] at h
        exact hn (by simpa using h _ hmem)
      rw [hf] at hK
      simp [lss, LV.av, hlt, hn, dsl]
      exact hK _ _ _ (.same _ (by simp)) rfl
  · have hge : g = ls.length := by omega
    subst hge
    rw [List.take_length] at hall
    rw [hall] at hK
    simp [lss]
    exact hK _ _ _ (.same _ (by simp)) (by simp)
end Go.Proofs.Nt
/- Near: norms of all columns. -/
set_option linter.unusedVariables false
set_option maxRecDepth 20000
set_option linter.unusedSimpArgs false
set_option linter.unnecessarySimpa false
namespace Go.Proofs.Nt
open Go Go.Proofs Go.Proofs.Va Go.RowKit

/-- The norm of a column. -/
def upE (l : List DV) (c i : Nat) : Dy := upD (entV l c i i).m
theorem ok_upE (l : List DV) (c i : Nat) : dOK (upE l c i) := ok_up _
theorem bd_upE {l : List DV} (h : DvOk l) (c i : Nat) : Bd (-4600) 4600 (upE l c i) := bd_up (h.at _).2.2
def toV (d : Dy) (nl : Bool) (cap : Option Nat) : DV := ⟨d.1, nl, d.2.1, cap, d.2.2⟩
theorem toV_d (d : Dy) (nl : Bool) (cap : Option Nat) : (toV d nl cap).d = d := rfl
def z7 : List DV := List.replicate 7 zDV
@[simp] theorem zcNorms : zcT Tryz.prog 99 = some (dcs (z7)) := by kernel_rfl
@[simp] theorem aggNorms : aggT Tryz.prog 99 = some true := by kernel_rfl
@[simp] theorem szNorms : szT Tryz.prog 99 = some 21 := by kernel_rfl
theorem gv_set_self {l : List DV} {k : Nat} (h : k < l.length) (d : DV) : gv (l.set k d) k = d := by simp [gv, h]
theorem gv_set_ne {l : List DV} {k j : Nat} (h : k ≠ j) (d : DV) : gv (l.set k d) j = gv l j := by simp [gv, List.getElem?_set_ne h]
theorem cells_toV (d : Dy) (nl : Bool) (cap : Option Nat) : cellsOf (dy d.1 nl d.2.1 cap d.2.2) = some (toV d nl cap).cs := rfl
theorem cells_dcs (l : List DV) : cellsOf (.agg (dcs l)) = some (dcs l) := rfl
theorem pu_dcs (l : List DV) : Pu (.agg (dcs l)) := by
  refine .agg _ fun j hj => ?_
  have : ∀ (l : List DV) (x : AV), x ∈ dcs l → Pu x := by
    intro l
    induction l with
    | nil => intro x hx; cases hx
    | cons d l ih =>
      intro x hx
      have hx : x ∈ DV.cs d ++ dcs l := hx
      rw [List.mem_append] at hx
      rcases hx with hx | hx
      · have : x = bo d.neg ∨ x = sl d.nl d.a d.cap ∨ x = i d.e := by simpa [DV.cs] using hx
        rcases this with rfl | rfl | rfl
        · simp
        · simp [sl]
        · simp
      · exact ih x hx
  exact this l _ (List.getElem_mem hj)

theorem gv_rep (k : Nat) : (gv z7 k).d = zeroD := by
  have : gv z7 k = zDV := by
    unfold gv z7
    rw [List.getD_eq_getElem?_getD]
    by_cases hk : k < 7
    · rw [List.getElem?_replicate, if_pos hk]; rfl
    · rw [List.getElem?_replicate, if_neg hk]; rfl
  rw [this]; rfl
/-- Seven norms. -/
def Norms (l : List DV) (c : Nat) (us : List DV) : Prop := us.length = 7 ∧ (∀ k, k ≤ c → (gv us k).d = upE l c k) ∧ (∀ k, c < k → (gv us k).d = zeroD)

theorem nall_ctr {l : List DV} {c : Nat} (nl : Bool) (cap : Option Nat) (h1 : 1 ≤ c) (hc : c ≤ 6) (hl : l.length = sizeN c) (hd : DvOk l) :
    Ctr Tryz.prog 64 [i c, dsl nl l cap] (fun r => ∃ us, Norms l c us ∧ r = .agg (dcs us)) := by
  refine ctr_in Tryz.func64 rfl (by kernel_rfl) rfl fun K hK => ?_
  simp only [Tryz.f64, List.append_eq, List.cons_append, List.nil_append]
  have w1 : IntKind.i64.wrap ((c : Int) + 1) = ((c + 1 : Nat) : Int) := w64 _ (by omega) (by omega)
  simp [w1, -Int.natCast_add]
  refine loop_on (γ := Nat × List DV) 22 (fun g => [(0, i c), (1, dsl nl l cap), (4, .po 0 0 0), (5, .po 1 0 0), (8, i (c + 1 : Nat)), (9, i g.1)])
    (fun g => [⟨.own, 0, dcs (z7)⟩, ⟨.own, 0, dcs g.2⟩])
    (fun g => g.1 ≤ c + 1 ∧ g.2.length = 7 ∧ (∀ k, k < g.1 → (gv g.2 k).d = upE l c k) ∧ (∀ k, g.1 ≤ k → (gv g.2 k).d = zeroD)) (fun g => c + 1 - g.1)
    (0, z7) ⟨Nat.zero_le _, rfl, fun k hk => by omega, fun k _ => gv_rep k⟩ (Wk.lst (by simp [dsl]) (by simp)) ?_
  rintro ⟨g, us⟩ ⟨hg, hlen, ha, hz⟩ L hL
  simp only at hg hlen ha hz
  by_cases hlt : g < c + 1
  · have cE := nentry_ctr nl cap h1 hc (i' := g) (j' := g) (by omega) (by omega) hl
    obtain ⟨q1, q2, q3⟩ := hd.at (entN c g g)
    have cU := nup_ctr (gv l (entN c g g)).neg (gv l (entN c g g)).nl (gv l (entN c g g)).a (gv l (entN c g g)).cap (gv l (entN c g g)).e q1 q2 q3
    have hu : upD (mayD (gv l (entN c g g)).neg (gv l (entN c g g)).a (gv l (entN c g g)).e) = upE l c g := rfl
    have hv : entV l c g g = gv l (entN c g g) := rfl
    rw [hu] at cU
    rw [hv] at cE
    have w2 : IntKind.i64.wrap ((g : Int) + 1) = ((g + 1 : Nat) : Int) := w64 _ (by omega) (by omega)
    have hoff : g * 3 + 3 ≤ (dcs us).length := by rw [dcs_len]; omega
    have hg7 : g < 7 := by omega
    have hset : ∀ n1 c1, (((dcs us).set (g * 3) (AV.v (.bool (upE l c g).1))).set (g * 3 + 1) (sl n1 (upE l c g).2.1 c1)).set (g * 3 + 1 + 1) (AV.v (.int .i64 (upE l c g).2.2)) = dcs (us.set g (toV (upE l c g) n1 c1)) :=
      fun n1 c1 => dcs_set (l := us) (k := g) (by omega) (toV (upE l c g) n1 c1)
    have hnext := fun n1 c1 => hL (g + 1, us.set g (toV (upE l c g) n1 c1))
    have hpre : ∀ n1 c1, g + 1 ≤ c + 1 ∧ (us.set g (toV (upE l c g) n1 c1)).length = 7 ∧ (∀ k, k < g + 1 → (gv (us.set g (toV (upE l c g) n1 c1)) k).d = upE l c k) ∧ (∀ k, g + 1 ≤ k → (gv (us.set g (toV (upE l c g) n1 c1)) k).d = zeroD) := by
      intro n1 c1
      refine ⟨by omega, by simpa using hlen, fun k hk => ?_, fun k hk => ?_⟩
      · by_cases hkg : k = g
        · subst hkg; rw [gv_set_self (by omega)]; rfl
        · rw [gv_set_ne (by omega)]; exact ha k (by omega)
      · rw [gv_set_ne (by omega)]; exact hz k (by omega)
    generalize hlv : us.set g = usg at *
    generalize upE l c g = d at *
    generalize gv l (entN c g g) = x at *
    obtain ⟨xg, xn, xa, xc, xe⟩ := x
    simp [hlt, hg7, -Int.natCast_add]
    refine acall_by cE (by simp [dsl]) ?_
    rintro _ rfl
    simp [DV.av, -cellsOf, -Int.natCast_add]
    refine acall_by cU (by simp [dy]) ?_
    rintro _ ⟨n1, c1, rfl⟩
    simp [cells_dy, hg7, hoff, hset, w2, -cellsOf, -Int.natCast_add]
    refine hnext n1 c1 _ _ (hpre n1 c1) ?_ (by show _ - (g + 1) < _ - g; omega)
    exact Wk.lst (by simp [dsl]) (by simp)
  · have hge : g = c + 1 := by omega
    subst hge
    have h21 : (dcs us).length = 21 := by rw [dcs_len, hlen]
    have ht : (dcs us).take 21 = dcs us := List.take_of_length_le (by omega)
    have hw : wr (dcs (z7)) 0 (dcs us) = dcs us := by
      have hz : (dcs z7).length = 21 := rfl
      rw [wr_splice _ _ _ (by omega), splice, List.take_zero, List.drop_eq_nil_of_le (by omega)]; simp
    have hz7 : (dcs z7).length = 21 := rfl
    simp [h21, hz7, ht, hw, cells_dcs, ht, hw, -cellsOf]
    exact hK _ _ _ (.same _ (pu_dcs us)) ⟨us, ⟨hlen, fun k hk => ha k (by omega), fun k hk => hz k (by omega)⟩, rfl⟩
end Go.Proofs.Nt
/- Lists of dyads that grow; the document's norms of all columns. -/
set_option linter.unusedVariables false
set_option maxRecDepth 20000
set_option linter.unusedSimpArgs false
set_option linter.unnecessarySimpa false
namespace Go.Proofs.Nt
open Go Go.Proofs Go.Proofs.Va Go.RowKit

theorem getD_dcs (l : List DV) {q : Nat} (hq : q < (dcs l).length) (σ : AHeap) (S : Nat → Prop) : Pur σ S ((dcs l).getD q .any) (dcs l)[q] := by
  rw [getD_eq hq]
  have h := pu_dcs l
  cases h with
  | agg _ h => exact .same _ (h q hq)
end Go.Proofs.Nt
/- Near: whether lists are near. -/
set_option linter.unusedVariables false
set_option maxRecDepth 20000
set_option linter.unusedSimpArgs false
set_option linter.unnecessarySimpa false
namespace Go.Proofs.Nt
open Go Go.Proofs Go.Proofs.Va Go.RowKit

/-- How far two entries are apart. -/
def apart (N G : List DV) (q : Nat) : Dy := absX (addD (gv G q).m (oppD (gv N q).m))
/-- Whether an entry is too far off. -/
def far (N I G : List DV) (c : Nat) (k : Int) (i' j' : Nat) : Bool := decide (0 < cmpD (apart N G (atN c i' j')) (boundD (upE I c i') (upE I c j') k))
def chkV (N I G : List DV) (c k : Int) : Prop := (1 ≤ c ∧ c ≤ 6) ∧ N.length = sizeN c.toNat ∧ I.length = sizeN c.toNat ∧ G.length = sizeN c.toNat ∧ 0 ≤ k ∧ k ≤ 100000
instance (N I G : List DV) (c k : Int) : Decidable (chkV N I G c k) := by unfold chkV; infer_instance
/-- What Check tells of a triangle's entries, f telling which is too far off. -/
def firstP (c : Nat) (f : Nat → Nat → Bool) (r : AV) : Prop :=
  (∃ i' j', i' ≤ j' ∧ j' ≤ c ∧ f i' j' = true ∧ (∀ p q, p ≤ q → q ≤ c → (p < i' ∨ p = i' ∧ q < j') → f p q = false) ∧ r = .tup [i (atI c i' j'), bo false]) ∨
  ((∀ p q, p ≤ q → q ≤ c → f p q = false) ∧ r = .tup [i 0, bo true])
def chkP (N I G : List DV) (c k : Int) (r : AV) : Prop := if chkV N I G c k then firstP c.toNat (far N I G c.toNat k) r else r = .tup [i 0, bo false]

theorem firstP_eq {c : Nat} {f : Nat → Nat → Bool} {r r' : AV} (h : firstP c f r) (h' : firstP c f r') : r = r' := by
  rcases h with ⟨i1, j1, a1, a2, a3, a4, rfl⟩ | ⟨a1, rfl⟩
  · rcases h' with ⟨i2, j2, b1, b2, b3, b4, rfl⟩ | ⟨b1, rfl⟩
    · have h1 : ¬ (i1 < i2 ∨ i1 = i2 ∧ j1 < j2) := fun h => by rw [b4 _ _ a1 a2 h] at a3; cases a3
      have h2 : ¬ (i2 < i1 ∨ i2 = i1 ∧ j2 < j1) := fun h => by rw [a4 _ _ b1 b2 h] at b3; cases b3
      obtain ⟨rfl, rfl⟩ : i1 = i2 ∧ j1 = j2 := by omega
      rfl
    · rw [b1 _ _ a1 a2] at a3; cases a3
  · rcases h' with ⟨i2, j2, b1, b2, b3, b4, rfl⟩ | ⟨b1, rfl⟩
    · rw [a1 _ _ b1 b2] at b3; cases b3
    · rfl
theorem wr_full {xs ys : List AV} (h : ys.length = xs.length) : wr xs 0 ys = ys := by
  rw [wr_splice _ _ _ (by omega), splice, List.take_zero, List.drop_eq_nil_of_le (by omega)]; simp
theorem z7_len : (dcs z7).length = 21 := rfl
theorem av_of {x : DV} {d : Dy} (h : x.d = d) : x.av = dy d.1 x.nl d.2.1 x.cap d.2.2 := by subst h; rfl
theorem pur_lss {σ : AHeap} {S : Nat → Prop} {j v : Nat} {ls : List LV} {n : Nat} {cap : Option Nat} {k : BK} (hb : σ[j]? = some ⟨k, v, ls.map LV.av⟩) (hk : k ≠ .dead) (hn : n = ls.length) (hS : S j) : Pur σ S (.so j v 0 n 1 cap) (lss ls cap) := by
  subst hn
  refine .so j v 0 ls.length 1 cap ⟨k, v, ls.map LV.av⟩ _ hb rfl hk hS (by simp) (by simp) fun q hq => ?_
  simp only [List.length_map] at hq
  show Pur σ S ((ls.map LV.av).getD (0 + q) .any) _
  rw [Nat.zero_add, getD_eq (by simpa using hq)]
  exact .same _ (by simp [LV.av, dsl])

@[simp] theorem pu_LV (x : LV) : Pu x.av := by simp [LV.av, dsl]
@[simp] theorem scA_LV (n : Nat) (x : LV) : scA n x.av = True := (rfl)
@[simp] theorem sc_LV (n : Nat) (x : LV) : Sc n x.av := .pl _ _ _ _
@[simp] theorem aIA_LV {x : LV} {k : IntKind} {j : Int} {σ : AHeap} {K : AV → AHeap → Prop} : aIndexAddr Tryz.prog 27 x.av (.v (.int k j)) σ K = ((0 ≤ j ∧ j < x.l.length) ∧ j.toNat * 3 < (dcs x.l).length ∧ K (.pp (dcs x.l) (j.toNat * 3)) σ) := by
  unfold LV.av dsl; simp
@[simp] theorem aLen_LV {x : LV} {σ : AHeap} {K : AV → AHeap → Prop} : aLen Tryz.prog 27 x.av σ K = K (i x.l.length) σ := by
  unfold LV.av dsl; simp

section
variable {N I G : List DV} {c : Nat} {k : Int} (hN : DvOk N) (hI : DvOk I) (hG : DvOk G) (hk : 0 ≤ k ∧ k ≤ 100000)
theorem ok_m {l : List DV} (h : DvOk l) (q : Nat) : dOK (gv l q).m := ok_may (h.at q).1
include hN hG
theorem bd_sub (q : Nat) : Bd (-9000) 9001 (addD (gv G q).m (oppD (gv N q).m)) := bd_add (ok_m hG q) (ok_opp _) (hG.at q).2.2 (bd_opp (hN.at q).2.2) (by omega)
theorem len_sub (q : Nat) : (addD (gv G q).m (oppD (gv N q).m)).2.1.length ≤ 900 := bd_len (ok_add _ _) (bd_sub hN hG q) (by omega)
theorem bd_apart (q : Nat) : Bd (-9000) 9001 (apart N G q) := bd_absX (bd_sub hN hG q)
theorem len_apart (q : Nat) : (apart N G q).2.1.length ≤ 900 := bd_len (ok_absX _) (bd_apart hN hG q) (by omega)
include hI hk
theorem cmp_far (q i' j' : Nat) : sgnD (addD (apart N G q) (oppD (boundD (upE I c i') (upE I c j') k))) = cmpD (apart N G q) (boundD (upE I c i') (upE I c j') k) :=
  cmp_agree (ok_absX _) (ok_bound _ _ _) ((bd_apart hN hG q).mono (L' := -9300) (H' := 9302) (by omega) (by omega)) (bd_bound hk (ok_upE _ _ _) (ok_upE _ _ _) (bd_upE hI _ _) (bd_upE hI _ _)) (by omega) (by omega) (by omega)
end
theorem len_bound {N I G : List DV} {c : Nat} {k : Int} (_hN : DvOk N) (hI : DvOk I) (_hG : DvOk G) (hk : 0 ≤ k ∧ k ≤ 100000) (i' j' : Nat) : (boundD (upE I c i') (upE I c j') k).2.1.length ≤ 900 :=
  bd_len (ok_bound _ _ _) (bd_bound hk (ok_upE _ _ _) (ok_upE _ _ _) (bd_upE hI _ _) (bd_upE hI _ _)) (by omega)

theorem ncheck_ctr (c k : Int) (N I G : LV) (hN : DvOk N.l) (hI : DvOk I.l) (hG : DvOk G.l) :
    Ctr Tryz.prog 26 [i c, N.av, I.av, G.av, i k] (chkP N.l I.l G.l c k) := by
  refine ctr_in Tryz.func26 rfl (by kernel_rfl) rfl fun K hK => ?_
  simp only [Tryz.f26, List.append_eq, List.cons_append, List.nil_append]
  have cF := nfit_ctr c [N, I, G] (some 3) (by simp)
  have hbad : ¬ chkV N.l I.l G.l c k → ∀ σ, K (.tup [.v (.int .i64 0), .v (.bool false)]) σ := by
    intro h σ
    refine hK _ _ _ (.same _ (pu_tup (by simp))) ?_
    unfold chkP; rw [if_neg h]; rfl
  simp
  refine acall_froze [0] cF rfl ?_ ?_
  · intro j hj
    have : j = 0 ∨ j = 1 := by simp at hj; omega
    rcases this with rfl | rfl
    · exact .same _ (by simp)
    · exact pur_lss (k := .own) (ls := [N, I, G]) rfl (by decide) rfl (by simp)
  rintro _ rfl
  by_cases hf : (([N, I, G].all fun x => decide ((x.l.length : Int) = sizeI c)) && decide (0 < sizeI c)) = true
  case neg =>
    have hf' := hf
    rw [Bool.not_eq_true] at hf'
    rw [hf']
    simp [froze]
    refine hbad ?_ _
    rintro ⟨h1, h2, h3, h4, _⟩
    apply hf
    have : sizeI c = (sizeN c.toNat : Int) := if_pos h1
    have := (size_facts h1).2.2
    simp [h2, h3, h4]
    omega
  rw [hf]
  simp [froze]
  refine acall_by (nmay_ctr k) (by simp) ?_
  rintro _ rfl
  by_cases hk : 0 ≤ k ∧ k ≤ 100000
  case neg =>
    simp only [decide_eq_false hk]
    simp
    exact hbad (fun h => hk h.2.2.2.2) _
  simp only [decide_eq_true hk]
  have hc : 1 ≤ c ∧ c ≤ 6 := by
    apply Classical.byContradiction
    intro h
    have : sizeI c = 0 := if_neg h
    rw [this] at hf
    simp at hf
  obtain ⟨n, rfl⟩ : ∃ n : Nat, c = n := ⟨c.toNat, by omega⟩
  have hsz : sizeI n = (sizeN n : Int) := by unfold sizeI; rw [if_pos hc]; rfl
  rw [hsz] at hf
  obtain ⟨⟨lN, lI, lG⟩, _⟩ : (N.l.length = sizeN n ∧ I.l.length = sizeN n ∧ G.l.length = sizeN n) ∧ 0 < sizeN n := by simpa using hf
  have hv : chkV N.l I.l G.l n k := ⟨hc, lN, lI, lG, hk⟩
  simp only [chkP, if_pos hv, Int.toNat_natCast] at hK
  clear hbad hf hv
  have hcn : n ≤ 6 := by omega
  have hc1 : 1 ≤ n := by omega
  have cN := nall_ctr I.nl I.cap hc1 hcn lI hI
  change Ctr _ _ [i n, I.av] _ at cN
  simp
  refine acall_by cN (by simp) ?_
  rintro _ ⟨us, ⟨u1, u2, u3⟩, rfl⟩
  have hus : (dcs us).length = 21 := by rw [dcs_len, u1]
  have w1 : IntKind.i64.wrap ((n : Int) + 1) = ((n + 1 : Nat) : Int) := w64 _ (by omega) (by omega)
  have hwf : wr (dcs z7) 0 (dcs us) = dcs us := wr_full (by rw [hus, z7_len])
  simp [cells_dcs, w1, hus, z7_len, hwf, -cellsOf, -Int.natCast_add]
  have hrow0 : rowI n 0 = 0 := rfl
  refine loop_on (γ := Nat) 68 (fun g => [(0, i n), (1, N.av), (3, G.av), (4, i k), (12, .po 1 0 0), (13, i (rowI n g)), (33, i (n + 1 : Nat)), (34, i g)])
    (fun _ => [⟨.ro, 0, [N.av, I.av, G.av]⟩, ⟨.own, 0, dcs us⟩])
    (fun g => g ≤ n + 1 ∧ ∀ p q, p ≤ q → q ≤ n → p < g → far N.l I.l G.l n k p q = false) (fun g => n + 1 - g)
    0 ⟨Nat.zero_le _, fun p q _ _ h => by omega⟩ (Wk.lst (by simp [hrow0]) (by simp)) ?_
  rintro g ⟨hg, hgood⟩ L hL
  by_cases hlt : g < n + 1
  case neg =>
    have hge : g = n + 1 := by omega
    subst hge
    simp
    refine hK _ _ _ (.same _ (pu_tup (by simp))) (.inr ⟨fun p q h1 h2 => hgood p q h1 h2 (by omega), rfl⟩)
  simp [hlt, -Int.natCast_add]
  refine loop_on (γ := Nat) 68 (fun j => [(0, i n), (1, N.av), (3, G.av), (4, i k), (12, .po 1 0 0), (13, i (rowI n g + ((j : Int) - g))), (14, i g), (15, i j), (33, i (n + 1 : Nat)), (34, i g)])
    (fun _ => [⟨.ro, 0, [N.av, I.av, G.av]⟩, ⟨.own, 0, dcs us⟩])
    (fun j => g ≤ j ∧ j ≤ n + 1 ∧ ∀ q, g ≤ q → q < j → far N.l I.l G.l n k g q = false) (fun j => n + 1 - j)
    g ⟨Nat.le_refl _, hg, fun q h1 h2 => by omega⟩ (Wk.lst (by simp [-Int.natCast_add]) (by simp)) ?_
  rintro j ⟨hgj, hj, hgood2⟩ L2 hL2
  have hgr := row_rng hcn (i := g) (by omega)
  by_cases hlj : j ≤ n
  case neg =>
    have hje : j = n + 1 := by omega
    subst hje
    have w2 : IntKind.i64.wrap ((g : Int) + 1) = ((g + 1 : Nat) : Int) := w64 _ (by omega) (by omega)
    have hrow : rowI n g + (((n + 1 : Nat) : Int) - g) = rowI n (g + 1) := by simp only [rowI]; omega
    have hnl : ¬ ((n : Int) + 1 ≤ n) := by omega
    simp [hlj, hnl, w2, -Int.natCast_add]
    refine hL (g + 1) _ _ ⟨by omega, fun p q h1 h2 h3 => ?_⟩ (Wk.lst (by simp [← hrow]) (by simp)) (by show _ - (g + 1) < _ - g; omega)
    by_cases hpg : p = g
    · subst hpg; exact hgood2 q h1 (by omega)
    · exact hgood p q h1 h2 (by omega)
  have hgn : g ≤ n := by omega
  obtain ⟨k1, k2⟩ := atN_lt hcn hgj hlj
  have k3 : rowI n g + ((j : Int) - g) = ((atN n g j : Nat) : Int) := by rw [k2]; unfold atI; omega
  have rG := dcs_read (l := G.l) (k := atN n g j) (by omega)
  have rN := dcs_read (l := N.l) (k := atN n g j) (by omega)
  have hqG : atN n g j < G.l.length := by omega
  have hqN : atN n g j < N.l.length := by omega
  have oG : atN n g j * 3 < (dcs G.l).length := by rw [dcs_len]; omega
  have oG3 : atN n g j * 3 + 3 ≤ (dcs G.l).length := by rw [dcs_len]; omega
  have oN : atN n g j * 3 < (dcs N.l).length := by rw [dcs_len]; omega
  have oN3 : atN n g j * 3 + 3 ≤ (dcs N.l).length := by rw [dcs_len]; omega
  obtain ⟨gq1, gq2, gq3⟩ := hG.at (atN n g j)
  obtain ⟨nq1, nq2, nq3⟩ := hN.at (atN n g j)
  have rI := dcs_read (l := us) (k := g) (by omega)
  have rJ := dcs_read (l := us) (k := j) (by omega)
  rw [av_of (u2 g hgn)] at rI
  rw [av_of (u2 j hlj)] at rJ
  have cS := sub3_ctr (gv G.l (atN n g j)).neg (gv G.l (atN n g j)).nl (gv N.l (atN n g j)).neg (gv N.l (atN n g j)).nl (gv G.l (atN n g j)).a (gv N.l (atN n g j)).a
    (gv G.l (atN n g j)).cap (gv N.l (atN n g j)).cap (gv G.l (atN n g j)).e (gv N.l (atN n g j)).e gq1 nq1 (by omega) (by omega)
  rw [← opp_may] at cS
  change Ctr _ _ _ (dTold (addD (gv G.l (atN n g j)).m (oppD (gv N.l (atN n g j)).m))) at cS
  have cA := fun n1 c1 => absC (n := n1) (c := c1) (ok_add (gv G.l (atN n g j)).m (oppD (gv N.l (atN n g j)).m)) (Nat.le_trans (len_sub hN hG (atN n g j)) (by omega))
  change ∀ n1 c1, Ctr _ _ _ (dTold (apart N.l G.l (atN n g j))) at cA
  have cB := nbound_ctr (gv us g).nl (gv us j).nl (gv us g).cap (gv us j).cap hk (ok_upE I.l n g) (ok_upE I.l n j) (bd_upE hI n g) (bd_upE hI n j)
  have cC := fun n1 c1 n2 c2 => cmpX (n := n1) (c := c1) (n' := n2) (c' := c2) (d := apart N.l G.l (atN n g j)) (d' := boundD (upE I.l n g) (upE I.l n j) k) (ok_absX _) (Nat.le_trans (len_apart hN hG _) (by omega)) (ok_bound _ _ _) (Nat.le_trans (len_bound hN hI hG hk g j) (by omega))
  rw [cmp_far hN hI hG hk] at cC
  have hfar : far N.l I.l G.l n k g j = decide (0 < cmpD (apart N.l G.l (atN n g j)) (boundD (upE I.l n g) (upE I.l n j) k)) := rfl
  generalize cmpD (apart N.l G.l (atN n g j)) (boundD (upE I.l n g) (upE I.l n j) k) = cm at *
  generalize apart N.l G.l (atN n g j) = dA at *
  generalize boundD (upE I.l n g) (upE I.l n j) k = dB at *
  generalize addD (gv G.l (atN n g j)).m (oppD (gv N.l (atN n g j)).m) = dS at *
  generalize upE I.l n g = dg' at *
  generalize upE I.l n j = dj' at *
  generalize atN n g j = q at *
  have hg7 : g < 7 := by omega
  have hj7 : j < 7 := by omega
  have og3 : g * 3 + 3 ≤ (dcs us).length := by omega
  have oj3 : j * 3 + 3 ≤ (dcs us).length := by omega
  generalize gv G.l q = xG at *
  generalize gv N.l q = xN at *
  generalize (gv us g).nl = ng at *
  generalize (gv us j).nl = nj at *
  generalize (gv us g).cap = cg at *
  generalize (gv us j).cap = cj at *
  simp [hlj, k3, hqG, hqN, oG, oG3, oN, oN3, rG, rN]
  refine draw_at [0, 0, 1, 1, 0, 0, 1, 1, 5, 5, 2, 4] orders (by kernel_rfl) ?_
  simp [hlj, k3, hqG, hqN, oG, oG3, oN, oN3, rG, rN, -cellsOf]
  refine actr_by cS (by simp [dy, DV.av]) ⟨_, told_ex dS⟩ ?_
  rintro _ ⟨n1, c1, rfl⟩
  simp [-cellsOf]
  refine actr_by (cA n1 c1) (by simp [dy]) ⟨_, told_ex dA⟩ ?_
  rintro _ ⟨n2, c2, rfl⟩
  simp [cells_dy, wr, -cellsOf]
  refine ⟨same_pre (by simp) (by simp) rfl, ?_⟩
  simp [cells_dy, wr, -cellsOf]
  refine draw_at [1, 0, 1, 1, 0, 1, 1, 0, 3, 3, 0] orders (by kernel_rfl) ?_
  simp [hg7, hj7, og3, oj3, rI, rJ, cells_ag, -cellsOf]
  refine acall_by cB (by simp [dy]) ?_
  rintro _ ⟨n3, c3, rfl⟩
  simp [-cellsOf]
  refine acall_by (cC n2 c2 n3 c3) (by simp [dy]) ?_
  rintro _ rfl
  by_cases hcm : 0 < cm
  · rw [decide_eq_true hcm] at hfar
    simp [hcm]
    refine hK _ _ _ (.same _ (pu_tup (by simp))) (.inl ⟨g, j, hgj, hlj, hfar, fun p p' h1 h2 h3 => ?_, by rw [← k2]; rfl⟩)
    rcases h3 with h3 | ⟨rfl, h3⟩
    · exact hgood p p' h1 h2 h3
    · exact hgood2 p' h1 h3
  · rw [decide_eq_false hcm] at hfar
    have w2 : IntKind.i64.wrap ((q : Int) + 1) = (q : Int) + 1 := w64 _ (by omega) (by omega)
    have w3 : IntKind.i64.wrap ((j : Int) + 1) = ((j + 1 : Nat) : Int) := w64 _ (by omega) (by omega)
    have k4 : rowI n g + (((j + 1 : Nat) : Int) - g) = (q : Int) + 1 := by omega
    simp [hcm, w2, w3, -Int.natCast_add]
    have k5 : rowI n g + ((j : Int) + 1 - g) = (q : Int) + 1 := by omega
    refine hL2 (j + 1) _ _ ⟨by omega, by omega, fun p h1 h2 => ?_⟩ (Wk.lst_drop 2 rfl (by simp [k5]) (by simp) (by simp) ?_) (by show _ - (j + 1) < _ - j; omega)
    · by_cases hp : p = j
      · subst hp; exact hfar
      · exact hgood2 p h1 (by omega)
    · intro b hb _ x hx
      have hb : b = ⟨.ro, 0, [N.av, I.av, G.av]⟩ ∨ b = ⟨.own, 0, dcs us⟩ := by simpa using hb
      rcases hb with rfl | rfl
      · have : x = N.av ∨ x = I.av ∨ x = G.av := by simpa using hx
        rcases this with rfl | rfl | rfl <;> simp
      · exact sc_dcs _ us x hx
end Go.Proofs.Nt
/- Near: the document's Check. -/
set_option linter.unusedVariables false
set_option maxRecDepth 20000
set_option linter.unusedSimpArgs false
set_option linter.unnecessarySimpa false
namespace Go.Proofs.Nt
open Go Go.Proofs Go.Proofs.Va Go.RowKit

end Go.Proofs.Nt
/- Near: what Normal compares; the sum of all norms. -/
set_option linter.unusedVariables false
set_option maxRecDepth 20000
set_option linter.unusedSimpArgs false
set_option linter.unnecessarySimpa false
namespace Go.Proofs.Nt
open Go Go.Proofs Go.Proofs.Va Go.RowKit

def norV (N I : List DV) (c k : Int) (x : List Nat) : Prop := (1 ≤ c ∧ c ≤ 6) ∧ N.length = sizeN c.toNat ∧ I.length = sizeN c.toNat ∧ x.length = c.toNat ∧ (0 ≤ k ∧ k ≤ 99999) ∧ x.all fin = true
instance (N I : List DV) (c k : Int) (x : List Nat) : Decidable (norV N I c k x) := by unfold norV; infer_instance
section
variable {N I : List DV} {c : Nat} {k : Int} (x : List Nat) (i' : Nat) (hN : DvOk N) (hI : DvOk I) (hk : 0 ≤ k ∧ k ≤ 99999)
include hN
end
section
variable {I : List DV} {c : Nat} {k : Int} (x : List Nat) (i' : Nat) (hI : DvOk I)
section
variable (hk : 0 ≤ k ∧ k ≤ 99999)
include hI hk
end
include hI
variable (hk : 0 ≤ k ∧ k ≤ 99999)
include hk
end
end Go.Proofs.Nt
