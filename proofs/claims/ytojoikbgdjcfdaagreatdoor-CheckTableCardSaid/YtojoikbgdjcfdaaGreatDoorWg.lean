import Derived.Test.YtojoikbgdjcfdaaGreatDoorWa
import Derived.Test.YtojoikbgdjcfdaaGreatDoorWb
import Derived.Test.YtojoikbgdjcfdaaGreatDoorWc
import Derived.Test.YtojoikbgdjcfdaaGreatDoorWd
import Derived.Test.YtojoikbgdjcfdaaGreatDoorWe
import Derived.Test.YtojoikbgdjcfdaaGreatDoorWf
/- Plain mathematics: rounding to floats, of numbers, quotients and roots. -/
set_option linter.unusedVariables false
set_option linter.unusedSimpArgs false
namespace Go.Proofs.Nt
open Go Go.Proofs

/-- The last place that a float has. -/
def unitP (n : Nat) (e : Int) : Int := max (-1074) (e + bl n - 53)
/-- A number in half units, cut off; whether something was left out. -/
def halfN (n : Nat) (e u : Int) : Nat := if u - 1 ≤ e then n * 2 ^ (e - (u - 1)).toNat else n / 2 ^ (u - 1 - e).toNat
def leftN (n : Nat) (e u : Int) : Bool := if u - 1 ≤ e then false else decide (n % 2 ^ (u - 1 - e).toNat ≠ 0)
def upN (h : Nat) (r : Bool) : Nat := if h % 2 = 1 ∧ (r = true ∨ h / 2 % 2 = 1) then h / 2 + 1 else h / 2
/-- A number's mantissa; r tells that something was left out before. -/
def mantN (n : Nat) (e : Int) (r : Bool) : Nat := upN (halfN n e (unitP n e)) (r || leftN n e (unitP n e))
/-- The float of a number. -/
def rnd (neg : Bool) (n : Nat) (e : Int) (r : Bool) : Nat := if 971 < unitP n e then wd neg 9218868437227405312 else nearW neg (mantN n e r) (unitP n e)

theorem bl_log {n : Nat} (h : n ≠ 0) : bl n = n.log2 + 1 := by unfold bl; rw [if_neg h]
theorem lastP_unit {n : Nat} (h : n ≠ 0) (e : Int) : lastP n e = unitP n e := by
  unfold lastP unitP; rw [bl_log h]; omega

theorem bl_mul_pow {n : Nat} (h : n ≠ 0) (j : Nat) : bl (n * 2 ^ j) = bl n + j := by
  have h2 : n * 2 ^ j ≠ 0 := Nat.mul_ne_zero h (by have := Nat.two_pow_pos j; omega)
  rw [bl_log h, bl_log h2, log2_mul h]; omega
theorem bl_div_pow {n j : Nat} (h : j < bl n) : bl (n / 2 ^ j) = bl n - j := by
  have hn : n ≠ 0 := by intro h0; rw [h0, bl_zero] at h; omega
  have h1 := bl_low hn
  have h2 := bl_high n
  have e1 : bl n - j = (bl n - j - 1) + 1 := by omega
  rw [e1]
  refine bl_eq ?_ ?_
  · rw [Nat.le_div_iff_mul_le (Nat.two_pow_pos j), ← Nat.pow_add, show bl n - j - 1 + j = bl n - 1 by omega]; exact h1
  · rw [Nat.div_lt_iff_lt_mul (Nat.two_pow_pos j), ← Nat.pow_add, show bl n - j - 1 + 1 + j = bl n by omega]; exact h2
theorem bl_mono {a b : Nat} (h : a ≤ b) : bl a ≤ bl b := bl_le (Nat.lt_of_le_of_lt h (bl_high b))

/-- How many half units. -/
theorem half_bits {n : Nat} (h : n ≠ 0) (e : Int) : halfN n e (unitP n e) < 18014398509481984 ∧ (unitP n e ≠ -1074 → 9007199254740992 ≤ halfN n e (unitP n e)) := by
  have h53 : (2 : Nat) ^ 53 = 9007199254740992 := rfl
  have h54 : (2 : Nat) ^ 54 = 18014398509481984 := rfl
  have hb := bl_high n
  have hl := bl_low h
  have hp := bl_pos h
  have hu : unitP n e = max (-1074) (e + bl n - 53) := rfl
  generalize unitP n e = u at *
  unfold halfN
  rw [← h53, ← h54]
  split
  · rename_i hue
    constructor
    · refine Nat.lt_of_lt_of_le (Nat.mul_lt_mul_of_pos_right hb (Nat.two_pow_pos _)) ?_
      rw [← Nat.pow_add]
      exact Nat.pow_le_pow_right (by decide) (by omega)
    · intro hne
      refine Nat.le_trans ?_ (Nat.mul_le_mul_right _ hl)
      rw [← Nat.pow_add]
      exact Nat.pow_le_pow_right (by decide) (by omega)
  · rename_i hue
    constructor
    · rw [Nat.div_lt_iff_lt_mul (Nat.two_pow_pos _), ← Nat.pow_add]
      exact Nat.lt_of_lt_of_le hb (Nat.pow_le_pow_right (by decide) (by omega))
    · intro hne
      rw [Nat.le_div_iff_mul_le (Nat.two_pow_pos _), ← Nat.pow_add]
      exact Nat.le_trans (Nat.pow_le_pow_right (by decide) (by omega)) hl

theorem up_bounds (h : Nat) (r : Bool) : h / 2 ≤ upN h r ∧ upN h r ≤ h / 2 + 1 := by unfold upN; split <;> omega
/-- The mantissa has 53 digits, or is just above, or is one of the least floats. -/
theorem mant_bounds {n : Nat} (h : n ≠ 0) (e : Int) (r : Bool) : mantN n e r ≤ 9007199254740992 ∧ (unitP n e ≠ -1074 → 4503599627370496 ≤ mantN n e r) := by
  obtain ⟨h1, h2⟩ := half_bits h e
  unfold mantN
  have := up_bounds (halfN n e (unitP n e)) (r || leftN n e (unitP n e))
  constructor
  · omega
  · intro hne; have := h2 hne; omega

/-- The float of a mantissa that may be one too great. -/
theorem nearW_mant (neg : Bool) {m : Nat} {u : Int} (hm : m ≤ 9007199254740992) (hu : -1074 ≤ u) (h : u ≠ -1074 → 4503599627370496 ≤ m) : nearW neg m u = wd neg (min ((u + 1074).toNat * 4503599627370496 + m) 9218868437227405312) := by
  rcases Nat.lt_or_ge m 4503599627370496 with h1 | h1
  · have : u = -1074 := by
      rcases Int.lt_or_eq_of_le hu with h2 | h2
      · have := h (by omega); omega
      · exact h2.symm
    subst this
    rw [nearW_sub neg h1]
    rw [show ((-1074 : Int) + 1074).toNat = 0 from rfl, Nat.zero_mul, Nat.zero_add, Nat.min_eq_left (by omega)]; rfl
  · rcases Nat.lt_or_ge m 9007199254740992 with h2 | h2
    · exact nearW_norm neg h1 h2 hu
    · have e1 : m = 4503599627370496 * 2 ^ 1 := by omega
      have e2 := nearW_scale neg 4503599627370496 1 (u + 1)
      rw [show u + 1 - ((1 : Nat) : Int) = u by omega, ← e1] at e2
      have e3 : (u + 1 + 1074).toNat * 4503599627370496 + 4503599627370496 = (u + 1074).toNat * 4503599627370496 + m := by omega
      rw [e2, nearW_norm neg (by decide) (by decide) (by omega), e3]; rfl

theorem up_rhe (n d : Nat) (hd : 0 < d) : upN (n / 2 ^ (d - 1)) (decide (n % 2 ^ (d - 1) ≠ 0)) = rhe n d := by
  obtain ⟨k, rfl⟩ : ∃ k, d = k + 1 := ⟨d - 1, by omega⟩
  rw [Nat.add_sub_cancel]
  unfold upN rhe
  have e1 : n / 2 ^ (k + 1) = n / 2 ^ k / 2 := by rw [Nat.pow_succ, Nat.div_div_eq_div_mul]
  have e2 : n % 2 ^ (k + 1) = n % 2 ^ k + 2 ^ k * (n / 2 ^ k % 2) := by rw [Nat.pow_succ, Nat.mod_mul]
  have hp := Nat.two_pow_pos k
  have hr := Nat.mod_lt n hp
  rw [e1, e2, Nat.pow_succ]
  generalize n / 2 ^ k = h at *
  generalize n % 2 ^ k = r at *
  generalize 2 ^ k = g at *
  rcases Nat.mod_two_eq_zero_or_one h with h2 | h2
  · rw [h2, if_neg (by omega), if_neg (by omega)]
  · rw [h2, Nat.mul_one]
    by_cases hr0 : r = 0
    · subst hr0
      by_cases h3 : h / 2 % 2 = 1
      · rw [if_pos ⟨rfl, .inr h3⟩, if_pos (.inr ⟨by omega, h3⟩)]
      · rw [if_neg (by simp [h3]), if_neg (by omega)]
    · rw [if_pos ⟨rfl, .inl (by simpa using hr0)⟩, if_pos (.inl (by omega))]

/-- The number's float is IEEE's. -/
theorem rnd_near (neg : Bool) {n : Nat} (h : n ≠ 0) (e : Int) : rnd neg n e false = nearW neg n e := by
  have hm : mantN n e false = rhe (n * 2 ^ (e - unitP n e).toNat) (unitP n e - e).toNat := by
    unfold mantN halfN leftN
    have hu : unitP n e = max (-1074) (e + bl n - 53) := rfl
    generalize unitP n e = u at *
    by_cases h1 : u ≤ e
    · rw [if_pos (by omega), if_pos (by omega), show (u - e).toNat = 0 by omega, rhe_zero]
      have e1 : (e - (u - 1)).toNat = (e - u).toNat + 1 := by omega
      rw [e1, Nat.pow_succ, ← Nat.mul_assoc]
      unfold upN
      rw [if_neg (by omega)]; omega
    · rw [show (e - u).toNat = 0 by omega, Nat.pow_zero, Nat.mul_one, ← up_rhe n _ (by omega)]
      by_cases h2 : u - 1 ≤ e
      · have e1 : (u - e).toNat - 1 = 0 := by omega
        have e2 : (e - (u - 1)).toNat = 0 := by omega
        rw [if_pos h2, if_pos h2, e1, e2]
        simp [Nat.mod_one]
      · have e1 : (u - e).toNat - 1 = (u - 1 - e).toNat := by omega
        rw [if_neg h2, if_neg h2, e1]; rfl
  have hw : nearW neg n e = wd neg (min ((unitP n e + 1074).toNat * 4503599627370496 + mantN n e false) 9218868437227405312) := by
    unfold nearW
    rw [if_neg h, lastP_unit h, ← hm]; rfl
  obtain ⟨b1, b2⟩ := mant_bounds h e false
  have hu : -1074 ≤ unitP n e := by unfold unitP; omega
  unfold rnd
  split
  · rename_i h2
    rw [hw, Nat.min_eq_right]
    have := b2 (by omega)
    omega
  · rw [hw, nearW_mant neg b1 hu b2]

/-- What was left out ahead is told by one more digit. -/
theorem rnd_more (neg : Bool) {q j t : Nat} {s1 s2 : Bool} (e : Int) (hq : 54 ≤ bl q) (ht : t < 2 ^ j) (hs : s1 = (s2 || decide (t ≠ 0))) : rnd neg (q * 2 ^ j + t) (e - j) s2 = rnd neg q e s1 := by
  have hq0 : q ≠ 0 := by intro h; rw [h, bl_zero] at hq; omega
  have hp := Nat.two_pow_pos j
  have hdiv : (q * 2 ^ j + t) / 2 ^ j = q := by rw [Nat.add_comm, Nat.add_mul_div_right _ _ hp, Nat.div_eq_of_lt ht, Nat.zero_add]
  have hmod : (q * 2 ^ j + t) % 2 ^ j = t := by rw [Nat.add_comm, Nat.add_mul_mod_self_right, Nat.mod_eq_of_lt ht]
  have hbl : bl (q * 2 ^ j + t) = bl q + j := by
    have h1 := bl_low hq0
    have h2 := bl_high q
    have e1 : bl q + j = (bl q - 1 + j) + 1 := by omega
    rw [e1]
    refine bl_eq ?_ ?_
    · rw [Nat.pow_add]
      have := Nat.mul_le_mul_right (2 ^ j) h1
      omega
    · have : q * 2 ^ j + t < (q + 1) * 2 ^ j := by rw [Nat.succ_mul]; omega
      refine Nat.lt_of_lt_of_le this ?_
      have e2 : 2 ^ (bl q - 1 + j + 1) = 2 ^ bl q * 2 ^ j := by rw [← Nat.pow_add]; congr 1; omega
      rw [e2]
      exact Nat.mul_le_mul_right _ h2
  have hu : unitP (q * 2 ^ j + t) (e - j) = unitP q e := by
    unfold unitP; rw [hbl]; congr 1; omega
  have hue : e ≤ unitP q e - 1 := by unfold unitP; omega
  unfold rnd
  rw [hu]
  have hm : mantN (q * 2 ^ j + t) (e - j) s2 = mantN q e s1 := by
    unfold mantN
    rw [hu]
    generalize unitP q e = u at *
    obtain ⟨d, hd⟩ : ∃ d : Nat, u - 1 = e + d := ⟨(u - 1 - e).toNat, by omega⟩
    have h1 : halfN (q * 2 ^ j + t) (e - j) u = q / 2 ^ d := by
      unfold halfN
      split
      · rename_i h0
        have hj0 : j = 0 := by omega
        have hd0 : d = 0 := by omega
        subst hj0; subst hd0
        rw [show (e - ((0 : Nat) : Int) - (u - 1)).toNat = 0 by omega]
        simp at ht ⊢
        omega
      · rw [show (u - 1 - (e - (j : Int))).toNat = j + d by omega, Nat.pow_add, ← Nat.div_div_eq_div_mul, hdiv]
    have h2 : halfN q e u = q / 2 ^ d := by
      unfold halfN
      split
      · have hd0 : d = 0 := by omega
        subst hd0
        rw [show (e - (u - 1)).toNat = 0 by omega]; simp
      · rw [show (u - 1 - e).toNat = d by omega]
    have h3 : (s2 || leftN (q * 2 ^ j + t) (e - j) u) = (s1 || leftN q e u) := by
      have l2 : leftN q e u = decide (q % 2 ^ d ≠ 0) := by
        unfold leftN
        split
        · have hd0 : d = 0 := by omega
          subst hd0; simp [Nat.mod_one]
        · rw [show (u - 1 - e).toNat = d by omega]
      have l1 : leftN (q * 2 ^ j + t) (e - j) u = (decide (t ≠ 0) || decide (q % 2 ^ d ≠ 0)) := by
        unfold leftN
        split
        · have hj0 : j = 0 := by omega
          have hd0 : d = 0 := by omega
          subst hj0; subst hd0
          simp at ht
          simp [ht, Nat.mod_one]
        · rw [show (u - 1 - (e - (j : Int))).toNat = j + d by omega, Nat.pow_add, Nat.mod_mul, hmod, hdiv]
          by_cases ht0 : t = 0
          · subst ht0
            have : 2 ^ j * (q % 2 ^ d) ≠ 0 ↔ q % 2 ^ d ≠ 0 := by
              rw [Nat.mul_ne_zero_iff]; exact ⟨fun h => h.2, fun h => ⟨by omega, h⟩⟩
            simp only [Nat.zero_add, ne_eq, not_true_eq_false, decide_false, Bool.false_or]
            rw [decide_eq_decide]; exact this
          · have h1 : t + 2 ^ j * (q % 2 ^ d) ≠ 0 := by omega
            simp [h1, ht0]
      rw [l1, l2, hs, Bool.or_assoc]
    rw [h1, h2, h3]
  rw [hm]

/-! ### Quotients -/
theorem quo_same (neg : Bool) {a b k j : Nat} (E : Int) (hb : 0 < b) (hq : 54 ≤ bl (a * 2 ^ k / b)) :
    rnd neg (a * 2 ^ (k + j) / b) (E - (k + j : Nat)) (decide (a * 2 ^ (k + j) % b ≠ 0)) = rnd neg (a * 2 ^ k / b) (E - k) (decide (a * 2 ^ k % b ≠ 0)) := by
  have hA : a * 2 ^ (k + j) = a * 2 ^ k * 2 ^ j := by rw [Nat.pow_add, Nat.mul_assoc]
  rw [hA]
  generalize a * 2 ^ k = A at *
  have hp := Nat.two_pow_pos j
  have h := Nat.div_add_mod A b
  have hr := Nat.mod_lt A hb
  have e1 : A * 2 ^ j = A % b * 2 ^ j + b * (A / b * 2 ^ j) := by
    conv => lhs; rw [← h]
    rw [Nat.add_mul, Nat.mul_assoc]; omega
  have hq2 : A * 2 ^ j / b = A / b * 2 ^ j + A % b * 2 ^ j / b := by
    rw [e1, Nat.add_mul_div_left _ _ hb]; omega
  have hm2 : A * 2 ^ j % b = A % b * 2 ^ j % b := by rw [e1, Nat.add_mul_mod_self_left]
  have ht : A % b * 2 ^ j / b < 2 ^ j := by
    rw [Nat.div_lt_iff_lt_mul hb, Nat.mul_comm (2 ^ j)]
    exact Nat.mul_lt_mul_of_pos_right hr hp
  rw [hq2, hm2, show E - ((k + j : Nat) : Int) = E - (k : Int) - (j : Int) by omega]
  refine rnd_more neg _ hq ht ?_
  generalize A % b = r at *
  have h3 := Nat.div_add_mod (r * 2 ^ j) b
  by_cases hr0 : r = 0
  · subst hr0; simp
  · have h4 : r * 2 ^ j ≠ 0 := Nat.mul_ne_zero hr0 (by omega)
    by_cases h5 : r * 2 ^ j % b = 0
    · have h6 : r * 2 ^ j / b ≠ 0 := by intro h6; rw [h5, h6, Nat.mul_zero] at h3; omega
      simp [hr0, h6]
    · simp [hr0, h5]
theorem sticky_same (neg : Bool) {q : Nat} (e : Int) (s : Bool) (hq : 54 ≤ bl q) : rnd neg (2 * q + s.toNat) (e - 1) false = rnd neg q e s := by
  have h := rnd_more neg (q := q) (j := 1) (t := s.toNat) (s1 := s) (s2 := false) e hq (by cases s <;> decide) (by cases s <;> rfl)
  rw [← h]
  congr 1
  omega
theorem quo_bits {a b k m : Nat} (ha : a ≠ 0) (hb : b ≠ 0) (h : m + bl b ≤ bl a + k) : m ≤ bl (a * 2 ^ k / b) := by
  rcases Nat.eq_zero_or_pos m with h0 | h0
  · omega
  have h1 := bl_low ha
  have h2 := bl_high b
  have h3 : 2 ^ (m - 1) ≤ a * 2 ^ k / b := by
    rw [Nat.le_div_iff_mul_le (by omega)]
    have h4 : 2 ^ (m - 1) * b ≤ 2 ^ (m - 1) * 2 ^ bl b := Nat.mul_le_mul_left _ (by omega)
    have h5 : 2 ^ (bl a - 1) * 2 ^ k ≤ a * 2 ^ k := Nat.mul_le_mul_right _ h1
    rw [← Nat.pow_add] at h4 h5
    have hpa := bl_pos ha
    have h6 : 2 ^ (m - 1 + bl b) ≤ 2 ^ (bl a - 1 + k) := Nat.pow_le_pow_right (by decide) (by omega)
    omega
  rcases Nat.lt_or_ge (bl (a * 2 ^ k / b)) m with h4 | h4
  · have h5 := bl_high (a * 2 ^ k / b)
    have h6 : 2 ^ bl (a * 2 ^ k / b) ≤ 2 ^ (m - 1) := Nat.pow_le_pow_right (by decide) (by omega)
    omega
  · exact h4

/-! ### Roots -/
theorem root_same (neg : Bool) {m j r1 r2 : Nat} (e : Int) (h1 : IsRoot m r1) (h2 : IsRoot (m * 2 ^ (2 * j)) r2) (hq : 54 ≤ bl r1) :
    rnd neg r2 (e - j) (decide (r2 * r2 ≠ m * 2 ^ (2 * j))) = rnd neg r1 e (decide (r1 * r1 ≠ m)) := by
  obtain ⟨a1, a2⟩ := h1
  obtain ⟨b1, b2⟩ := h2
  have hp := Nat.two_pow_pos j
  have hpp : 2 ^ (2 * j) = 2 ^ j * 2 ^ j := by rw [← Nat.pow_add]; congr 1; omega
  obtain ⟨g, hg⟩ : ∃ g, g = 2 ^ j := ⟨_, rfl⟩
  rw [← hg] at hpp hp
  rw [hpp] at b1 b2 ⊢
  have lo : r1 * g ≤ r2 := by
    rcases Nat.lt_or_ge r2 (r1 * g) with h | h
    · have h3 := Nat.mul_self_le_mul_self (show r2 + 1 ≤ r1 * g by omega)
      have h4 : r1 * g * (r1 * g) = r1 * r1 * (g * g) := Nat.mul_mul_mul_comm _ _ _ _
      have h5 := Nat.mul_le_mul_right (g * g) a1
      omega
    · exact h
  have hi : r2 < (r1 + 1) * g := by
    rcases Nat.lt_or_ge r2 ((r1 + 1) * g) with h | h
    · exact h
    · have h3 := Nat.mul_self_le_mul_self h
      have h4 : (r1 + 1) * g * ((r1 + 1) * g) = (r1 + 1) * (r1 + 1) * (g * g) := Nat.mul_mul_mul_comm _ _ _ _
      have h5 := Nat.mul_lt_mul_of_pos_right a2 (Nat.mul_pos hp hp)
      omega
  obtain ⟨t, ht⟩ : ∃ t, r2 = r1 * g + t := ⟨r2 - r1 * g, by omega⟩
  rw [Nat.succ_mul] at hi
  subst ht
  have htg : t < g := by omega
  have hsq : r1 * g * (r1 * g) = r1 * r1 * (g * g) := Nat.mul_mul_mul_comm _ _ _ _
  rw [hg] at htg ⊢
  refine rnd_more neg e hq htg ?_
  rw [← hg]
  by_cases hr : r1 * r1 = m
  · have ht0 : t = 0 := by
      rcases Nat.eq_zero_or_pos t with h | h
      · exact h
      · have h3 := Nat.mul_self_lt_mul_self (show r1 * g < r1 * g + t by omega)
        rw [hsq, hr] at h3; omega
    subst ht0
    rw [Nat.add_zero, hsq, hr]; simp
  · by_cases ht0 : t = 0
    · subst ht0
      rw [Nat.add_zero, hsq]
      have : ¬ r1 * r1 * (g * g) = m * (g * g) := fun h => hr (Nat.eq_of_mul_eq_mul_right (Nat.mul_pos hp hp) h)
      simp [hr, this]
    · simp [hr, ht0]
end Go.Proofs.Nt
/- Plain mathematics: floats of integers, their order, how near they are. -/
set_option linter.unusedVariables false
set_option linter.unusedSimpArgs false
namespace Go.Proofs.Nt
open Go Go.Proofs

theorem nearW_up (s : Bool) {n : Nat} {e M : Int} (h : M ≤ e) : nearW s (up n e M) M = nearW s n e := by
  have h1 := nearW_scale s n (e - M).toNat e
  rw [show e - ((e - M).toNat : Int) = M by omega] at h1
  exact h1
/-- The float of an integer times a power of two. -/
def flI (z : Int) (M : Int) : Nat := nearW (decide (z < 0)) z.natAbs M
/-- The float of a dyad. -/
def floatD (d : Dy) : Nat := nearW d.1 (val d.2.1) d.2.2

theorem floatD_iv {d : Dy} (o : dOK d) {M : Int} (hM : M ≤ d.2.2) : floatD d = flI (iv d M) M := by
  have hu := nearW_up d.1 (n := val d.2.1) hM
  unfold floatD flI iv sg
  rw [← hu]
  by_cases z : d = zeroD
  · subst z
    have e0 : up (val zeroD.2.1) zeroD.2.2 M = 0 := up_zero _ _
    rw [e0]; rfl
  · have hp := up_pos' (n := val d.2.1) (by have := (odd_of o z).1; omega) d.2.2 M
    cases hs : d.1
    · simp only [Bool.false_eq_true, if_false]
      rw [show decide (((up (val d.2.1) d.2.2 M : Nat) : Int) < 0) = false by simp, Int.natAbs_natCast]
    · simp only [if_true]
      rw [show decide (-((up (val d.2.1) d.2.2 M : Nat) : Int) < 0) = true by simp; omega, Int.natAbs_neg, Int.natAbs_natCast]

/-! ### Order -/
theorem rhe_mono {n m : Nat} (h : n ≤ m) (d : Nat) : rhe n d ≤ rhe m d := by
  have hp := Nat.two_pow_pos d
  have h1 := Nat.div_le_div_right (c := 2 ^ d) h
  have e1 := Nat.div_add_mod n (2 ^ d)
  have e2 := Nat.div_add_mod m (2 ^ d)
  unfold rhe
  generalize 2 ^ d = g at *
  rcases Nat.lt_or_ge (n / g) (m / g) with h2 | h2
  · split <;> split <;> omega
  · have h3 : n / g = m / g := by omega
    rw [h3] at e1 ⊢
    split
    · rename_i h4
      rw [if_pos (by omega)]; exact Nat.le_refl _
    · split <;> omega

/-- The rung of a number's float. -/
def rungN (n : Nat) (e : Int) : Nat := min ((unitP n e + 1074).toNat * 4503599627370496 + mantN n e false) 9218868437227405312
theorem near_rung (s : Bool) {n : Nat} (h : n ≠ 0) (e : Int) : nearW s n e = wd s (rungN n e) := by
  obtain ⟨b1, b2⟩ := mant_bounds h e false
  have hu : -1074 ≤ unitP n e := by unfold unitP; omega
  rw [← rnd_near s h e]
  unfold rnd rungN
  split
  · rename_i h2
    have := b2 (by omega)
    rw [Nat.min_eq_right (by omega)]
  · exact nearW_mant s b1 hu b2
theorem rung_le (n : Nat) (e : Int) : rungN n e ≤ 9218868437227405312 := by unfold rungN; omega

theorem mant_rhe {n : Nat} (h : n ≠ 0) (e : Int) : mantN n e false = rhe (n * 2 ^ (e - unitP n e).toNat) (unitP n e - e).toNat := by
  unfold mantN halfN leftN
  have hu : unitP n e = max (-1074) (e + bl n - 53) := rfl
  generalize unitP n e = u at *
  by_cases h1 : u ≤ e
  · rw [if_pos (by omega), if_pos (by omega), show (u - e).toNat = 0 by omega, rhe_zero]
    have e1 : (e - (u - 1)).toNat = (e - u).toNat + 1 := by omega
    rw [e1, Nat.pow_succ, ← Nat.mul_assoc]
    unfold upN
    rw [if_neg (by omega)]; omega
  · rw [show (e - u).toNat = 0 by omega, Nat.pow_zero, Nat.mul_one, ← up_rhe n _ (by omega)]
    by_cases h2 : u - 1 ≤ e
    · have e1 : (u - e).toNat - 1 = 0 := by omega
      have e2 : (e - (u - 1)).toNat = 0 := by omega
      rw [if_pos h2, if_pos h2, e1, e2]
      simp [Nat.mod_one]
    · have e1 : (u - e).toNat - 1 = (u - 1 - e).toNat := by omega
      rw [if_neg h2, if_neg h2, e1]; rfl

theorem rung_mono {n m : Nat} (hn : n ≠ 0) (h : n ≤ m) (p : Int) : rungN n p ≤ rungN m p := by
  have hm : m ≠ 0 := by omega
  obtain ⟨a1, a2⟩ := mant_bounds hn p false
  obtain ⟨b1, b2⟩ := mant_bounds hm p false
  have hb := bl_mono h
  have u1 : unitP n p = max (-1074) (p + bl n - 53) := rfl
  have u2 : unitP m p = max (-1074) (p + bl m - 53) := rfl
  have key : (unitP n p + 1074).toNat * 4503599627370496 + mantN n p false ≤ (unitP m p + 1074).toNat * 4503599627370496 + mantN m p false := by
    rcases Int.lt_or_le (unitP n p) (unitP m p) with h1 | h1
    · have h3 := b2 (by omega)
      have h4 : (unitP n p + 1074).toNat + 1 ≤ (unitP m p + 1074).toNat := by omega
      generalize (unitP n p + 1074).toNat = k1 at *
      generalize (unitP m p + 1074).toNat = k2 at *
      generalize mantN n p false = x at *
      generalize mantN m p false = y at *
      clear u1 u2 a2 b2 h1
      omega
    · have he : unitP m p = unitP n p := by omega
      have h2 : mantN n p false ≤ mantN m p false := by
        rw [mant_rhe hn, mant_rhe hm, he]
        exact rhe_mono (Nat.mul_le_mul_right _ h) _
      rw [he]
      exact Nat.add_le_add_left h2 _
  unfold rungN
  exact Nat.le_min.2 ⟨Nat.le_trans (Nat.min_le_left _ _) key, Nat.min_le_right _ _⟩

theorem fval_wd (s : Bool) {r : Nat} (h : r ≤ 9218868437227405312) : fval (wd s r) = sg s (vr r) := by
  unfold fval sg
  rw [wd_frg s (by omega), wd_fsg s (by omega)]

/-- Integers that stand in an order have floats that do. -/
theorem flI_mono {x y : Int} (h : x ≤ y) (M : Int) : fval (flI x M) ≤ fval (flI y M) := by
  have key : ∀ z : Int, fval (flI z M) = if z = 0 then 0 else sg (decide (z < 0)) (vr (rungN z.natAbs M)) := by
    intro z
    unfold flI
    split
    · rename_i hz; subst hz
      show fval (nearW false 0 M) = 0
      unfold nearW
      simp only [if_true]
      decide
    · rename_i hz
      rw [near_rung _ (by omega), fval_wd _ (rung_le _ _)]
  rw [key, key]
  have v0 : ∀ n, 0 ≤ (vr n : Int) := fun n => by omega
  by_cases hx : x = 0
  · rw [if_pos hx]
    by_cases hy : y = 0
    · rw [if_pos hy]; exact Int.le_refl _
    · rw [if_neg hy, show decide (y < 0) = false by simp; omega, sg_f]; omega
  · rw [if_neg hx]
    by_cases hy : y = 0
    · rw [if_pos hy, show decide (x < 0) = true by simp; omega, sg_t]; omega
    · rw [if_neg hy]
      by_cases h1 : x < 0
      · rw [show decide (x < 0) = true by simpa using h1, sg_t]
        by_cases h2 : y < 0
        · rw [show decide (y < 0) = true by simpa using h2, sg_t]
          have := vr_le_iff.2 (rung_mono (n := y.natAbs) (m := x.natAbs) (by omega) (by omega) M)
          omega
        · rw [show decide (y < 0) = false by simpa using h2, sg_f]; omega
      · rw [show decide (x < 0) = false by simpa using h1, show decide (y < 0) = false by simp; omega, sg_f, sg_f]
        have := vr_le_iff.2 (rung_mono (n := x.natAbs) (m := y.natAbs) (by omega) (by omega) M)
        omega

theorem flI_neg {z : Int} (hz : z ≠ 0) (M : Int) : fval (flI (-z) M) = -fval (flI z M) := by
  unfold flI
  rw [near_rung _ (by omega), near_rung _ (by omega), fval_wd _ (rung_le _ _), fval_wd _ (rung_le _ _), Int.natAbs_neg]
  by_cases h : z < 0
  · rw [show decide (-z < 0) = false by simp; omega, show decide (z < 0) = true by simpa using h, sg_f, sg_t]; omega
  · rw [show decide (-z < 0) = true by simp; omega, show decide (z < 0) = false by simpa using h, sg_f, sg_t]

/-! ### How near -/
theorem rhe_err (n d : Nat) : 2 * (rhe n d * 2 ^ d) ≤ 2 * n + 2 ^ d ∧ 2 * n ≤ 2 * (rhe n d * 2 ^ d) + 2 ^ d := by
  have h := Nat.div_add_mod n (2 ^ d)
  have hr := Nat.mod_lt n (Nat.two_pow_pos d)
  unfold rhe
  rw [Nat.mul_comm] at h
  generalize 2 ^ d = g at *
  split
  · have e : (n / g + 1) * g = n / g * g + g := by rw [Nat.add_mul, Nat.one_mul]
    rw [e]
    generalize n / g * g = q at *
    omega
  · generalize n / g * g = q at *
    omega
/-- What a rung of a mantissa comes to. -/
theorem vr_mant {m : Nat} {k : Nat} (hm : m ≤ 9007199254740992) (h : k ≠ 0 → 4503599627370496 ≤ m) : vr (k * 4503599627370496 + m) = m * 2 ^ k := by
  unfold vr mg pl
  rcases Nat.lt_or_ge m 4503599627370496 with h1 | h1
  · have hk : k = 0 := by
      rcases Nat.eq_zero_or_pos k with h2 | h2
      · exact h2
      · have := h (by omega); omega
    subst hk
    rw [if_pos (by omega), show (0 * 4503599627370496 + m) / 4503599627370496 - 1 = 0 by omega]; simp
  · rw [if_neg (by omega)]
    rcases Nat.lt_or_ge m 9007199254740992 with h2 | h2
    · have e1 : (k * 4503599627370496 + m) % 4503599627370496 = m - 4503599627370496 := by omega
      have e2 : (k * 4503599627370496 + m) / 4503599627370496 - 1 = k := by omega
      rw [e1, e2, show 4503599627370496 + (m - 4503599627370496) = m by omega]
    · have hm2 : m = 9007199254740992 := by omega
      subst hm2
      have e1 : (k * 4503599627370496 + 9007199254740992) % 4503599627370496 = 0 := by omega
      have e2 : (k * 4503599627370496 + 9007199254740992) / 4503599627370496 - 1 = k + 1 := by omega
      rw [e1, e2, Nat.pow_succ]; omega
end Go.Proofs.Nt
/- Floats: the float of a mantissa and an exponent. -/
set_option linter.unusedVariables false
set_option maxRecDepth 20000
set_option linter.unusedSimpArgs false
namespace Go.Proofs.Nt
open Go Go.Proofs Go.Proofs.Va Go.RowKit

theorem nearW_word (m : Nat) (p : Int) : ∃ r, r ≤ 9218868437227405312 ∧ ∀ s, nearW s m p = wd s r := by
  unfold nearW
  by_cases h : m = 0
  · exact ⟨0, by omega, fun s => by rw [if_pos h]; rfl⟩
  · exact ⟨_, Nat.min_le_right _ _, fun s => by rw [if_neg h]; rfl⟩
theorem nearW_sign (s : Bool) (m : Nat) (p : Int) : nearW s m p = wd s (frg (nearW false m p)) := by
  obtain ⟨r, h1, h2⟩ := nearW_word m p
  rw [h2, h2, wd_frg _ (by omega)]
theorem nearW_lt (s : Bool) (m : Nat) (p : Int) : nearW s m p < 18446744073709551616 := by
  obtain ⟨r, h1, h2⟩ := nearW_word m p
  rw [h2]; exact wd_lt s (by omega)
theorem nearW_frg (s : Bool) (m : Nat) (p : Int) : frg (nearW s m p) ≤ 9218868437227405312 := by
  obtain ⟨r, h1, h2⟩ := nearW_word m p
  rw [h2, wd_frg _ (by omega)]; exact h1

/-- A number of few digits, made a float, and that times a power of two. -/
theorem whole_ld {m : Nat} (h0 : m ≠ 0) (h : m < 9007199254740992) (k : Int) : frg (nearW false m 0) < 9218868437227405312 ∧ ldW (nearW false m 0) k = nearW false m k := by
  have h1 := Nat.log2_self_le h0
  have h2 := log2_lt m
  have hl : m.log2 < 53 := (Nat.log2_lt h0).2 h
  have h3 : 4503599627370496 ≤ m * 2 ^ (52 - m.log2) := by
    have := Nat.mul_le_mul_right (2 ^ (52 - m.log2)) h1
    rwa [← Nat.pow_add, show m.log2 + (52 - m.log2) = 52 by omega] at this
  have h4 : m * 2 ^ (52 - m.log2) < 9007199254740992 := by
    have := Nat.mul_lt_mul_of_pos_right h2 (Nat.two_pow_pos (52 - m.log2))
    rwa [← Nat.pow_add, show m.log2 + 1 + (52 - m.log2) = 53 by omega] at this
  obtain ⟨g, hg⟩ : ∃ g, g = 52 - m.log2 := ⟨_, rfl⟩
  rw [← hg] at h3 h4
  have e1 := nearW_scale false m g 0
  have e2 := nearW_scale false m g k
  have e3 : nearW false m 0 = (1074 - g) * 4503599627370496 + m * 2 ^ g := by
    rw [← e1, nearW_norm false h3 h4 (by omega), show ((0 : Int) - (g : Int) + 1074).toNat = 1074 - g by omega, Nat.min_eq_left (by omega)]
    rfl
  rw [e3]
  generalize m * 2 ^ g = M at *
  have hf : frg ((1074 - g) * 4503599627370496 + M) = (1074 - g) * 4503599627370496 + M := Nat.mod_eq_of_lt (by omega)
  have hs : fsg ((1074 - g) * 4503599627370496 + M) = false := by rw [← hf]; exact fsg_frg _
  refine ⟨by rw [hf]; omega, ?_⟩
  have em : mg ((1074 - g) * 4503599627370496 + M) = M := by unfold mg; rw [if_neg (by omega)]; omega
  have ep : pl ((1074 - g) * 4503599627370496 + M) = 1074 - g := by unfold pl; omega
  unfold ldW
  rw [hf, hs, em, ep, show -1074 + ((1074 - g : Nat) : Int) + k = k - (g : Int) by omega, e2]

theorem copysign2_ctr {b c : Nat} (hb : b < 18446744073709551616) (hc : c < 18446744073709551616) : Ctr Tryz.prog 87 [fl b, fl c] (fun r => r = fl (wd (fsg c) (frg b))) := by
  refine ctr_val Tryz.func87 rfl (by kernel_rfl) rfl (by simp) fun K hK => ?_
  simp [Tryz.f87] at hK ⊢
  refine acall_by (bits_ctr b) (by simp) ?_
  rintro _ rfl
  simp
  refine acall_by (bits_ctr c) (by simp) ?_
  rintro _ rfl
  have hl := frg_lt b
  have e0 : bAndNot .u64 (b : Int) 9223372036854775808 = ((frg b : Nat) : Int) := by
    have := andNot_u64 (x := b) (m := 9223372036854775808) (c := 9223372036854775807) hb (by decide)
    rw [and_rung] at this; exact this
  have hx : c &&& 9223372036854775808 = wd (fsg c) 0 := by
    have hl := frg_lt c
    have hs := wd_self hc
    generalize fsg c = s at *
    generalize frg c = r at *
    rw [← hs]
    cases s
    · rw [wd_false, wd_false]; exact and_hi hl
    · rw [wd_true, wd_true, hi_or hl]
      show (2 ^ 63 ||| r) &&& 2 ^ 63 = _
      rw [Nat.and_or_distrib_right, Nat.and_self, and_hi hl]; rfl
  have e1 : bAnd .u64 (c : Int) 9223372036854775808 = ((wd (fsg c) 0 : Nat) : Int) := by
    have := bAnd_u64 (x := c) (y := 9223372036854775808) hc (by decide)
    rw [hx] at this
    exact this
  have hw := wd_lt (fsg c) (show 0 < 9223372036854775808 by decide)
  have hw2 := wd_lt (fsg c) hl
  have e2 : bOr .u64 ((frg b : Nat) : Int) ((wd (fsg c) 0 : Nat) : Int) = ((wd (fsg c) (frg b) : Nat) : Int) := by
    have := bOr_u64 (x := frg b) (y := wd (fsg c) 0) (by omega) hw
    rw [this]
    congr 1
    generalize fsg c = s
    cases s
    · rw [wd_false, wd_false, Nat.or_zero]
    · rw [wd_true, wd_true, hi_or hl, Nat.or_comm]
  simp [e0, e1, wu' hw, wu' (show frg b < 18446744073709551616 by omega), e2, wu' hw2]
  refine acall_by (frombits_ctr _) (by simp) ?_
  rintro _ rfl
  simp
  exact hK _

theorem and_one {q : Nat} (h : q < 18446744073709551616) : IntKind.u64.wrap (bAnd .u64 (q : Int) 1) = ((q % 2 : Nat) : Int) := by
  have := bAnd_u64 (x := q) (y := 1) h (by decide)
  rw [show (1 : Int) = ((1 : Nat) : Int) from rfl, this, Nat.and_one_is_mod, wu' (by omega)]

/-- A number that fits, shifted till it does. -/
def fitPost (m : Nat) (e : Int) (r : AV) : Prop := ∃ q : Nat, ∃ j : Nat, q ≠ 0 ∧ q < 9007199254740992 ∧ m = q * 2 ^ j ∧ r = .tup [u q, i (e + j), bo (decide (¬ (m = 9007199254740992 ∧ e = 971)))]

theorem fit_ctr {m : Nat} {e : Int} (h0 : m ≠ 0) (hm : m ≤ 9007199254740992) (he : -1074 ≤ e ∧ e ≤ 971) : Ctr Tryz.prog 85 [u m, i e] (fitPost m e) := by
  refine ctr_in Tryz.func85 rfl (by kernel_rfl) rfl fun K hK => ?_
  simp [Tryz.f85]
  have small : ∀ q j, m = q * 2 ^ j → j ≤ 53 := by
    intro q j h
    rcases Nat.lt_or_ge 53 j with h1 | h1
    · have h2 : 2 ^ 54 ≤ 2 ^ j := Nat.pow_le_pow_right (by decide) h1
      have h3 : q ≠ 0 := by intro h4; subst h4; omega
      have h4 : 1 * 2 ^ j ≤ q * 2 ^ j := Nat.mul_le_mul_right _ (by omega)
      have h5 : (2 : Nat) ^ 54 = 18014398509481984 := rfl
      omega
    · exact h1
  refine loop_on (γ := Nat × Nat) 36 (fun g => [(0, u g.1), (1, i (e + g.2))]) (fun _ => []) (fun g => m = g.1 * 2 ^ g.2) (fun g => g.1) (m, 0) (by simp) (Wk.lst (by simp) (by simp)) ?_
  rintro ⟨q, j⟩ hq L hL
  have hq : m = q * 2 ^ j := hq
  have hj := small q j hq
  have hq0 : q ≠ 0 := by intro h; subst h; omega
  have hqm : q ≤ m := by rw [hq]; exact Nat.le_mul_of_pos_right _ (Nat.two_pow_pos j)
  have ha := and_one (q := q) (by omega)
  have hw : IntKind.i64.wrap (e + (j : Int) + 1) = e + ((j + 1 : Nat) : Int) := by rw [w64 _ (by omega) (by omega)]; omega
  simp only
  rcases Nat.mod_two_eq_zero_or_one q with h2 | h2
  · rw [h2] at ha
    have hd : IntKind.u64.wrap (((q / 2 : Nat) : Int)) = ((q / 2 : Nat) : Int) := wu' (by omega)
    simp [ha]
    refine hL (q / 2, j + 1) _ _ ?_ (Wk.lst (by simp [hw]) (by simp)) ?_
    · show m = q / 2 * 2 ^ (j + 1)
      rw [Nat.pow_succ, Nat.mul_comm (2 ^ j) 2, ← Nat.mul_assoc, show q / 2 * 2 = q by omega]; exact hq
    · show q / 2 < q; omega
  · rw [h2] at ha
    simp [ha]
    refine loop_on (γ := Nat × Nat) 36 (fun g => [(0, u g.1), (1, i (e + g.2))]) (fun _ => []) (fun g => m = g.1 * 2 ^ g.2 ∧ g.1 < 9007199254740992) (fun g => g.2) (q, j) ⟨hq, by omega⟩ (Wk.lst (by simp) (by simp)) ?_
    clear hL ha h2 hw hqm hq0 hj hq
    rintro ⟨q, j⟩ ⟨hq, hq2⟩ L hL
    simp only at hq hq2
    have hj := small q j hq
    have hq0 : q ≠ 0 := by intro h; subst h; omega
    have hw : j ≠ 0 → IntKind.i64.wrap (e + (j : Int) - 1) = e + ((j - 1 : Nat) : Int) := fun h => by rw [w64 _ (by omega) (by omega)]; omega
    simp only
    by_cases c1 : 971 < e + (j : Int)
    · have hj0 : j ≠ 0 := by omega
      obtain ⟨k, rfl⟩ : ∃ k, j = k + 1 := ⟨j - 1, by omega⟩
      have hw := hw hj0
      rw [show k + 1 - 1 = k by omega] at hw
      by_cases c2 : q < 4503599627370496
      · have c2' : (q : Int) < 4503599627370496 := by omega
        have hu : IntKind.u64.wrap ((q : Int) * 2) = ((q * 2 : Nat) : Int) := by rw [show (q : Int) * 2 = ((q * 2 : Nat) : Int) by omega]; exact wu' (by omega)
        rw [Int.natCast_add, show ((1 : Nat) : Int) = 1 from rfl] at c1 hw
        simp [c1, c2', hu, hw]
        refine hL (q * 2, k) _ _ ⟨?_, ?_⟩ (Wk.lst (by simp [hu, hw]) (by simp)) (by show k < k + 1; omega)
        · show m = q * 2 * 2 ^ k
          rw [hq, Nat.pow_succ, Nat.mul_assoc, Nat.mul_comm 2]
        · show q * 2 < _; omega
      · have c2' : ¬ (q : Int) < 4503599627370496 := by omega
        have hbig : m = 9007199254740992 ∧ e = 971 := by
          have h3 : 2 ^ 1 ≤ 2 ^ (k + 1) := Nat.pow_le_pow_right (by decide) (by omega)
          have h4 : 4503599627370496 * 2 ^ (k + 1) ≤ q * 2 ^ (k + 1) := Nat.mul_le_mul_right _ (by omega)
          have h6 : k = 0 := by
            rcases Nat.eq_zero_or_pos k with h5 | h5
            · exact h5
            · have h7 : 2 ^ 2 ≤ 2 ^ (k + 1) := Nat.pow_le_pow_right (by decide) (by omega)
              omega
          subst h6
          omega
        rw [Int.natCast_add, show ((1 : Nat) : Int) = 1 from rfl] at c1
        have c3 : (q : Int) < 9007199254740992 := by omega
        have c4 : ¬ e + ((k : Int) + 1) ≤ 971 := by omega
        have c5 : -1074 ≤ e + ((k : Int) + 1) := by omega
        simp [c1, c2', c3, c4, c5]
        exact hK _ _ _ (.same _ (pu_tup (by simp))) ⟨q, k + 1, hq0, hq2, hq, by simp [hbig]⟩
    · have c3 : (q : Int) < 9007199254740992 := by omega
      have c4 : e + (j : Int) ≤ 971 := by omega
      have c5 : -1074 ≤ e + (j : Int) := by omega
      have hnot : ¬ (m = 9007199254740992 ∧ e = 971) := by
        rintro ⟨h5, h6⟩
        have hj0 : j = 0 := by omega
        subst hj0
        omega
      simp [c1, c3, c4, c5]
      exact hK _ _ _ (.same _ (pu_tup (by simp))) ⟨q, j, hq0, hq2, hq, by simp [hnot]⟩

/-- The float of a mantissa, if it may be. -/
def makeV (neg : Bool) (m : Nat) (e : Int) : AV := if m = 9007199254740992 ∧ e = 971 then .tup [fl 0, bo false] else .tup [fl (nearW neg m e), bo true]
theorem pu_make (neg : Bool) (m : Nat) (e : Int) : Pu (makeV neg m e) := by
  unfold makeV; split <;> exact pu_tup (by simp)

theorem make_ctr {m : Nat} {e : Int} (neg : Bool) (hm : m ≤ 9007199254740992) (he : -1074 ≤ e ∧ e ≤ 971) : Ctr Tryz.prog 77 [bo neg, u m, i e] (fun r => r = makeV neg m e) := by
  refine ctr_val Tryz.func77 rfl (by kernel_rfl) rfl (pu_make neg m e) fun K hK => ?_
  have hs : fsg 13830554455654793216 = true := by decide
  have h1 : ¬ e < -5000 := by omega
  have h2 : ¬ 5000 < e := by omega
  by_cases h0 : m = 0
  · subst h0
    have e0 : ∀ s, nearW s 0 e = wd s 0 := fun s => by unfold nearW; simp only [if_true]; rfl
    unfold makeV at hK
    rw [if_neg (by omega), e0] at hK
    cases neg
    · simp [Tryz.f77] at hK ⊢
      exact hK _
    · simp [Tryz.f77] at hK ⊢
      refine acall_by (copysign2_ctr (b := 0) (c := 13830554455654793216) (by decide) (by decide)) (by simp) ?_
      rintro _ rfl
      rw [hs, show frg 0 = 0 from rfl]
      simp
      exact hK _
  · have h0' : ¬ (m : Int) = 0 := by omega
    simp [Tryz.f77, h0, h1, h2]
    refine acall_by (fit_ctr h0 hm he) (by simp) ?_
    rintro _ ⟨q, j, hq0, hq, hqm, rfl⟩
    unfold makeV at hK
    by_cases hb : m = 9007199254740992 ∧ e = 971
    · rw [if_pos hb] at hK
      simp [hb] at hK ⊢
      exact hK _
    · rw [if_neg hb] at hK
      obtain ⟨w1, w2⟩ := whole_ld hq0 hq (e + j)
      have hj : (j : Int) ≤ 100 := by
        rcases Nat.lt_or_ge 53 j with h1 | h1
        · have h2 : 2 ^ 54 ≤ 2 ^ j := Nat.pow_le_pow_right (by decide) h1
          have h4 : 1 * 2 ^ j ≤ q * 2 ^ j := Nat.mul_le_mul_right _ (by omega)
          have h5 : (2 : Nat) ^ 54 = 18014398509481984 := rfl
          omega
        · omega
      have hnw : FloatKind.f64.nearest (q : Int) = nearW false q 0 := by
        show Ieee.double.nearest (decide ((q : Int) < 0)) (q : Int).natAbs 0 = _
        rw [nearest_eq, show decide ((q : Int) < 0) = false by simp, Int.natAbs_natCast]
      have hsc : ∀ s, nearW s q (e + j) = nearW s m e := by
        intro s
        have := nearW_scale s q j (e + j)
        rw [← hqm, show e + (j : Int) - (j : Int) = e by omega] at this
        exact this.symm
      rw [show decide (¬ (m = 9007199254740992 ∧ e = 971)) = true from decide_eq_true hb]
      simp [hnw]
      refine acall_by (ldexp2_ctr (b := nearW false q 0) (k := e + j) (nearW_lt _ _ _) w1 (by omega)) (by simp) ?_
      rintro _ rfl
      rw [w2, hsc]
      cases neg
      · simp at hK ⊢
        exact hK _
      · simp at hK ⊢
        refine acall_by (copysign2_ctr (b := nearW false m e) (c := 13830554455654793216) (nearW_lt _ _ _) (by decide)) (by simp) ?_
        rintro _ rfl
        rw [hs, ← nearW_sign]
        simp
        exact hK _

theorem rmake_ctr {m : Nat} {e : Int} (neg : Bool) (hm : m ≤ 9007199254740992) (he : -1074 ≤ e ∧ e ≤ 971) : Ctr Tryz.prog 63 [bo neg, u m, i e] (fun r => r = makeV neg m e) := by
  refine ctr_val Tryz.func63 rfl (by kernel_rfl) rfl (pu_make neg m e) fun K hK => ?_
  have h1 : ¬ e < -2000 := by omega
  have h2 : ¬ 2000 < e := by omega
  by_cases h0 : m = 0
  · subst h0
    have e0 : ∀ s, nearW s 0 e = wd s 0 := fun s => by unfold nearW; simp only [if_true]; rfl
    unfold makeV at hK
    rw [if_neg (by omega), e0] at hK
    cases neg
    · simp [Tryz.f63] at hK ⊢
      refine acall_by (frombits_ctr 0) (by simp) ?_
      rintro _ rfl
      simp
      exact hK _
    · simp [Tryz.f63] at hK ⊢
      refine acall_by (frombits_ctr 9223372036854775808) (by simp) ?_
      rintro _ rfl
      simp
      exact hK _
  · -- the sign's weight
    obtain ⟨B, hB⟩ : ∃ B : Nat, B = wd neg 0 := ⟨_, rfl⟩
    have hBr : ∀ r, wd neg r = B + r := by intro r; rw [hB]; cases neg <;> simp [wd_false, wd_true]
    have hBl : B ≤ 9223372036854775808 := by rw [hB]; cases neg <;> simp [wd_false, wd_true]
    -- what the second loop comes to
    have tail : ∀ M0 : Nat, ∀ E0 : Int, M0 ≠ 0 → M0 < 9007199254740992 → -1074 ≤ E0 → E0 ≤ 972 → (E0 = 972 ↔ (m = 9007199254740992 ∧ e = 971)) → nearW neg M0 E0 = nearW neg m e → (E0 = 972 → 4503599627370496 ≤ M0) →
        ∀ g : Nat, M0 * 2 ^ g < 9007199254740992 → (g : Int) ≤ E0 + 1074 → 4503599627370496 ≤ M0 * 2 ^ g ∨ E0 - (g : Int) = -1074 →
        (971 < E0 - (g : Int) → makeV neg m e = .tup [fl 0, bo false]) ∧ (E0 - (g : Int) ≤ 971 → M0 * 2 ^ g < 4503599627370496 → makeV neg m e = .tup [fl (B + M0 * 2 ^ g), bo true]) ∧
        (E0 - (g : Int) ≤ 971 → 4503599627370496 ≤ M0 * 2 ^ g → makeV neg m e = .tup [fl (B + ((E0 - (g : Int) + 1074).toNat * 4503599627370496 + M0 * 2 ^ g)), bo true]) := by
      intro M0 E0 hM0 hM hE1 hE2 hiff hn htop g hg1 hg2 hg3
      have hsc : nearW neg (M0 * 2 ^ g) (E0 - (g : Int)) = nearW neg m e := by rw [nearW_scale, hn]
      have hpos : 0 < M0 * 2 ^ g := Nat.mul_pos (by omega) (Nat.two_pow_pos g)
      refine ⟨fun h => ?_, fun h h3 => ?_, fun h h3 => ?_⟩
      · have : m = 9007199254740992 ∧ e = 971 := hiff.1 (by omega)
        unfold makeV; rw [if_pos this]
      · have hne : ¬ (m = 9007199254740992 ∧ e = 971) := by
          intro h4
          have h5 := htop (hiff.2 h4)
          have h6 : M0 * 1 ≤ M0 * 2 ^ g := Nat.mul_le_mul_left _ (Nat.two_pow_pos g)
          omega
        unfold makeV
        rw [if_neg hne, ← hsc]
        have hE : E0 - (g : Int) = -1074 := by omega
        rw [hE, nearW_sub neg h3]
        show AV.tup [fl (wd neg _), _] = _
        rw [hBr]
      · have hne : ¬ (m = 9007199254740992 ∧ e = 971) := by
          intro h4
          have h5 := htop (hiff.2 h4)
          have h7 := hiff.2 h4
          rcases Nat.eq_zero_or_pos g with h8 | h8
          · subst h8; omega
          · have h9 : 2 ^ 1 ≤ 2 ^ g := Nat.pow_le_pow_right (by decide) h8
            have h6 : M0 * 2 ^ 1 ≤ M0 * 2 ^ g := Nat.mul_le_mul_left _ h9
            omega
        unfold makeV
        rw [if_neg hne, ← hsc, nearW_norm neg h3 hg1 (by omega), Nat.min_eq_left (by omega)]
        show AV.tup [fl (wd neg _), _] = _
        rw [hBr]
    obtain ⟨M0, E0, hM0, hM, hE1, hE2, hiff, hn, htop, hM2, hE3⟩ : ∃ M0 : Nat, ∃ E0 : Int, M0 ≠ 0 ∧ M0 < 9007199254740992 ∧ -1074 ≤ E0 ∧ E0 ≤ 972 ∧ (E0 = 972 ↔ (m = 9007199254740992 ∧ e = 971)) ∧ nearW neg M0 E0 = nearW neg m e ∧ (E0 = 972 → 4503599627370496 ≤ M0) ∧
        (∀ j : Nat, (j = 0 ∨ (j = 1 ∧ m = 9007199254740992)) → ¬ (m = 9007199254740992 ∧ j = 0) → m / 2 ^ j = M0) ∧ (∀ j : Nat, (j = 0 ∨ (j = 1 ∧ m = 9007199254740992)) → ¬ (m = 9007199254740992 ∧ j = 0) → e + (j : Int) = E0) := by
      by_cases hb : m = 9007199254740992
      · have e2 := nearW_scale neg 4503599627370496 1 (e + 1)
        rw [show e + 1 - ((1 : Nat) : Int) = e by omega] at e2
        refine ⟨4503599627370496, e + 1, by omega, by omega, by omega, by omega, by omega, by rw [hb, ← e2], by omega, ?_, ?_⟩
        · intro j h3 h4
          have : j = 1 := by omega
          subst this; rw [hb]
        · intro j h3 h4
          have : j = 1 := by omega
          subst this; rfl
      · refine ⟨m, e, h0, by omega, by omega, by omega, by omega, rfl, by omega, ?_, ?_⟩
        · intro j h3 h4
          have : j = 0 := by omega
          subst this; simp
        · intro j h3 h4
          have : j = 0 := by omega
          subst this; simp
    have tail2 := tail M0 E0 hM0 hM hE1 hE2 hiff hn htop
    clear hiff hn htop tail
    obtain ⟨V, hV⟩ : ∃ V, V = makeV neg m e := ⟨_, rfl⟩
    rw [← hV] at hK tail2
    cases neg
    case' false => have hB' : (B : Int) = 0 := by rw [hB]; rfl
    case' true => have hB' : (B : Int) = 9223372036854775808 := by rw [hB]; rfl
    all_goals
      clear hB hBr hV
      simp [Tryz.f63, h0, h1, h2]
      refine loop_on (γ := Nat) 71 (fun j => [(1, u (m / 2 ^ j)), (2, i (e + j)), (8, u B)]) (fun _ => []) (fun j => j = 0 ∨ (j = 1 ∧ m = 9007199254740992)) (fun j => 1 - j) 0 (.inl rfl) (Wk.lst (by simp [hB']) (by simp)) ?_
      intro j hj L hL
      by_cases hst : m = 9007199254740992 ∧ j = 0
      · obtain ⟨hm1, rfl⟩ := hst
        have hw : IntKind.i64.wrap (e + 1) = e + 1 := w64 _ (by omega) (by omega)
        have hw52 : IntKind.u64.wrap 4503599627370496 = 4503599627370496 := wu' (n := 4503599627370496) (by decide)
        simp [hm1]
        exact hL 1 _ _ (.inr ⟨rfl, hm1⟩) (Wk.lst (by simp [hm1, hw, hw52]) (by simp)) (by decide)
      · rw [hM2 j hj hst, hE3 j hj hst]
        have c1 : ¬ 9007199254740992 ≤ (M0 : Int) := by omega
        have c2 : ¬ E0 < -1074 := by omega
        by_cases hpar : (M0 : Int) % 2 = 0
        all_goals
          simp [hpar, c1, c2]
          refine loop_on (γ := Nat) 71 (fun g => [(1, u (M0 * 2 ^ g)), (2, i (E0 - g)), (8, u B)]) (fun _ => []) (fun g => M0 * 2 ^ g < 9007199254740992 ∧ (g : Int) ≤ E0 + 1074) (fun g => (E0 + 1074).toNat - g) 0 ⟨by omega, by omega⟩ (Wk.lst (by simp) (by simp)) ?_
          clear hL hst hj L j hM2 hE3 c1 c2 hpar
          rintro g ⟨hg1, hg2⟩ L hL
          have ht := tail2 g hg1 hg2
          have hpw : M0 * 2 ^ (g + 1) = M0 * 2 ^ g * 2 := by rw [Nat.pow_succ, Nat.mul_assoc]
          have hLg := hL (g + 1)
          simp only [hpw] at hLg
          have hpos : 0 < M0 * 2 ^ g := Nat.mul_pos (by omega) (Nat.two_pow_pos g)
          simp only [u]
          generalize M0 * 2 ^ g = M at *
          obtain ⟨E, hE⟩ : ∃ E : Int, E = E0 - (g : Int) := ⟨_, rfl⟩
          rw [← hE] at ht
          have hLE : ∀ T' : Tm, (∀ p ∈ ([(1, u (M * 2)), (2, i (E - 1)), (8, u B)] : Tm), wk1 p.2 (Va.look T' p.1)) → (-1074 < E) → M * 2 < 9007199254740992 → L ⟨Va.lst 71 T', []⟩ := by
            intro T' h3 h4 h5
            refine hLg T' [] ⟨h5, by omega⟩ ?_ (by omega)
            rw [show E0 - ((g + 1 : Nat) : Int) = E - 1 by omega]
            exact Wk.lst h3 (by simp)
          rw [← hE]
          have c3 : ¬ 9007199254740992 ≤ (M : Int) := by omega
          have c4 : ¬ E < -1074 := by omega
          have hl : E ≤ 972 := by omega
          have hE5 : -1074 ≤ E := by omega
          clear hL hLg hE
          by_cases c1 : (M : Int) < 4503599627370496
          · by_cases c2 : -1074 < E
            · have w1 : IntKind.u64.wrap ((M : Int) * 2) = ((M * 2 : Nat) : Int) := by rw [show (M : Int) * 2 = ((M * 2 : Nat) : Int) by omega]; exact wu' (by omega)
              have w2 : IntKind.i64.wrap (E - 1) = E - 1 := w64 _ (by omega) (by omega)
              simp [c1, c2]
              exact hLE _ (by simp [w1, w2]) c2 (by omega)
            · have c5 : ¬ 971 < E := by omega
              obtain ⟨-, h4, -⟩ := ht (.inr (by omega))
              rw [h4 (by omega) (by omega)] at hK
              have w3 : IntKind.u64.wrap ((B : Int) + (M : Int)) = ((B + M : Nat) : Int) := by rw [← Int.natCast_add]; exact wu' (by omega)
              simp [c1, c2, c3, c4, c5, w3]
              refine acall_by (frombits_ctr (B + M)) (by simp) ?_
              rintro _ rfl
              simp at hK ⊢
              exact hK _
          · obtain ⟨h3, -, h5⟩ := ht (.inl (by omega))
            by_cases c5 : 971 < E
            · rw [h3 c5] at hK
              simp [c1, c3, c4, c5] at hK ⊢
              exact hK _
            · have h5 := h5 (by omega) (by omega)
              rw [h5] at hK
              obtain ⟨q, hq⟩ : ∃ q : Nat, E + 1074 = (q : Int) := ⟨(E + 1074).toNat, by omega⟩
              have w0 : IntKind.i64.wrap (E + 1075) = ((q + 1 : Nat) : Int) := by rw [w64 _ (by omega) (by omega)]; omega
              have w1 : IntKind.u64.wrap ((q + 1 : Nat) : Int) = ((q + 1 : Nat) : Int) := wu' (by omega)
              have w2 : IntKind.u64.wrap (((q + 1 : Nat) : Int) * 4503599627370496) = (((q + 1) * 4503599627370496 : Nat) : Int) := by
                rw [show ((q + 1 : Nat) : Int) * 4503599627370496 = (((q + 1) * 4503599627370496 : Nat) : Int) by omega]; exact wu' (by omega)
              have w3 : IntKind.u64.wrap ((B : Int) + (((q + 1) * 4503599627370496 : Nat) : Int)) = ((B + (q + 1) * 4503599627370496 : Nat) : Int) := by rw [← Int.natCast_add]; exact wu' (by omega)
              have w4 : IntKind.u64.wrap ((M : Int) - 4503599627370496) = ((M - 4503599627370496 : Nat) : Int) := by
                rw [show (M : Int) - 4503599627370496 = ((M - 4503599627370496 : Nat) : Int) by omega]; exact wu' (by omega)
              have w5 : IntKind.u64.wrap (((B + (q + 1) * 4503599627370496 : Nat) : Int) + ((M - 4503599627370496 : Nat) : Int)) = ((B + (q * 4503599627370496 + M) : Nat) : Int) := by
                rw [← Int.natCast_add, wu' (by omega)]; omega
              rw [show (E + 1074).toNat = q by omega] at hK
              simp [c1, c3, c4, c5, w0, w1, w2, w3, w4, w5, -Int.natCast_add, -Int.natCast_mul]
              refine acall_by (frombits_ctr (B + (q * 4503599627370496 + M))) (by simp) ?_
              rintro _ rfl
              simp [-Int.natCast_add, -Int.natCast_mul] at hK ⊢
              exact hK _
end Go.Proofs.Nt
/- Round: the float of a part. -/
set_option linter.unusedVariables false
set_option maxRecDepth 20000
set_option linter.unusedSimpArgs false
namespace Go.Proofs.Nt
open Go Go.Proofs Go.Proofs.Va Go.RowKit

/-- A part, as a value. -/
def pt (neg nl : Bool) (a : List Nat) (cap : Option Nat) (e : Int) (r : Bool) : AV := .agg [bo neg, sl nl a cap, i e, bo r]
theorem cells_pt (neg nl : Bool) (a : List Nat) (cap : Option Nat) (e : Int) (r : Bool) : cellsOf (pt neg nl a cap e r) = some [bo neg, sl nl a cap, i e, bo r] := rfl
theorem cells_pt2 (neg nl : Bool) (a : List Nat) (cap : Option Nat) (e : Int) (r : Bool) : cellsOf (AV.agg [AV.v (.bool neg), sl nl a cap, AV.v (.int .i64 e), AV.v (.bool r)]) = some [AV.v (.bool neg), sl nl a cap, AV.v (.int .i64 e), AV.v (.bool r)] := rfl
theorem pu_pt4 (neg nl : Bool) (a : List Nat) (cap : Option Nat) (e : Int) (r : Bool) : Pu (pt neg nl a cap e r) := pu_agg (by simp [sl])

theorem shl_half {n : Nat} {e u : Int} (h : u - 1 ≤ e) (h2 : e - (u - 1) ≤ 100000) : shlN n (e - (u - 1)) = ofN (halfN n e u) := by
  unfold shlN halfN
  rw [if_neg (by omega), if_pos h]

theorem and_two {q : Nat} (h : q < 18446744073709551616) : IntKind.u64.wrap (bAnd .u64 (q : Int) 2) = ((q / 2 % 2 * 2 : Nat) : Int) := by
  have := bAnd_u64 (x := q) (y := 2) h (by decide)
  have e1 : q &&& 2 = q / 2 % 2 * 2 := by
    apply Nat.eq_of_testBit_eq
    intro i
    rw [Nat.testBit_and, show (2 : Nat) = 2 ^ 1 from rfl, Nat.testBit_two_pow, Nat.testBit_mul_two_pow]
    rcases i with _ | _ | i
    · simp
    · simp [Nat.testBit_eq_decide_div_mod_eq]
    · have h3 : q / 2 % 2 < 2 ^ (i + 1) := Nat.lt_of_lt_of_le (Nat.mod_lt _ (by decide)) (by rw [Nat.pow_succ]; have := Nat.two_pow_pos i; omega)
      simp [Nat.testBit_lt_two_pow h3]
  rw [show (2 : Int) = ((2 : Nat) : Int) from rfl, this, e1, wu' (by omega)]

theorem up_eq (h : Nat) (r : Bool) : upN h r = if h % 2 = 1 ∧ (r = true ∨ h / 2 % 2 = 1) then h / 2 + 1 else h / 2 := rfl

end Go.Proofs.Nt
/- Round: the float of a number, by definition; sticky; Same of floats. -/
set_option linter.unusedVariables false
set_option maxRecDepth 20000
set_option linter.unusedSimpArgs false
namespace Go.Proofs.Nt
open Go Go.Proofs Go.Proofs.Va Go.RowKit

/-- Whether two floats are the same: by their words, but that all NaNs are. -/
def sameF (x y : Nat) : Prop := (9218868437227405312 < frg x ∧ 9218868437227405312 < frg y) ∨ x = y
theorem kind_nan (b : Nat) : (fkind b : Int) = 3 ↔ 9218868437227405312 < frg b := by
  unfold fkind
  split
  · simp [*]
  · split
    · simp; omega
    · split <;> (simp; omega)
end Go.Proofs.Nt
/- Round: may, Float, Quo. -/
set_option linter.unusedVariables false
set_option maxRecDepth 20000
set_option linter.unusedSimpArgs false
namespace Go.Proofs.Nt
open Go Go.Proofs Go.Proofs.Va Go.RowKit

set_option linter.unnecessarySimpa false
/-- The digits of a dyad that may be are those of its number. -/
theorem ok_ofN {d : Dy} (h : dOK d) : d.2.1 = ofN (val d.2.1) := by
  obtain ⟨g, a, e⟩ := d
  obtain ⟨h, ha⟩ := h
  simp only at h ha ⊢
  by_cases h0 : a = []
  · subst h0; simp [val, ofN]
  · rw [dOk, if_neg h0] at h
    simp only [Bool.and_eq_true, decide_eq_true_eq, beq_iff_eq] at h
    rw [← trim_ofN ha, h.1.1.1]
theorem ok_zero_iff {d : Dy} (h : dOK d) : d.2.1 = [] ↔ val d.2.1 = 0 := by
  refine ⟨fun h0 => by rw [h0]; rfl, fun h0 => by rw [ok_ofN h, h0]; simp [ofN]⟩
theorem ok_zero_eq {d : Dy} (h : dOK d) (h0 : val d.2.1 = 0) : d = zeroD := by
  have h1 := (ok_zero_iff h).2 h0
  obtain ⟨g, a, e⟩ := d
  simp only at h1
  subst h1
  obtain ⟨rfl, rfl⟩ := zero_of h.1
  rfl

theorem near_zero (s : Bool) (e : Int) : nearW s 0 e = wd s 0 := by unfold nearW; simp only [if_true]; rfl
theorem float_rnd {d : Dy} (h : dOK d) : (if val d.2.1 = 0 then 0 else rnd d.1 (val d.2.1) d.2.2 false) = floatD d := by
  split
  · rename_i h0
    rw [ok_zero_eq h h0]
    unfold floatD
    exact (near_zero false 0).symm
  · rename_i h0
    exact rnd_near _ h0 _

theorem cells_pt3 (neg nl : Bool) (a : List Nat) (cap : Option Nat) (e : Int) (r : Bool) : AV.agg [AV.v (.bool neg), sl nl a cap, AV.v (.int .i64 e), AV.v (.bool r)] = pt neg nl a cap e r := rfl

/-! ### Quotients -/
/-- The float of a quotient: how many places there are beyond those that the numbers have. -/
def quoK (c n m : Nat) : Nat := c + bl m - bl n
def quoW (A B : Dy) : Nat := if val A.2.1 = 0 then 0 else
  rnd (A.1 != B.1) (val A.2.1 * 2 ^ quoK 70 (val A.2.1) (val B.2.1) / val B.2.1) (A.2.2 - B.2.2 - (quoK 70 (val A.2.1) (val B.2.1) : Nat)) (decide (val A.2.1 * 2 ^ quoK 70 (val A.2.1) (val B.2.1) % val B.2.1 ≠ 0))
theorem quo_two (neg : Bool) {n m : Nat} (hn : n ≠ 0) (hm : m ≠ 0) (E : Int) :
    rnd neg (2 * (n * 2 ^ quoK 66 n m / m) + (decide (n * 2 ^ quoK 66 n m % m ≠ 0)).toNat) (E - (quoK 66 n m : Nat) - 1) false = rnd neg (n * 2 ^ quoK 70 n m / m) (E - (quoK 70 n m : Nat)) (decide (n * 2 ^ quoK 70 n m % m ≠ 0)) := by
  have hb : 54 ≤ bl (n * 2 ^ quoK 66 n m / m) := quo_bits hn hm (by unfold quoK; omega)
  rw [sticky_same neg _ _ hb]
  have h := quo_same neg (a := n) (b := m) (k := quoK 66 n m) (j := quoK 70 n m - quoK 66 n m) E (by omega) hb
  rw [show quoK 66 n m + (quoK 70 n m - quoK 66 n m) = quoK 70 n m by unfold quoK; omega] at h
  exact h.symm

theorem quo_len {n m k : Nat} (hn : (ofN n).length ≤ 1000) (hk : k ≤ 32100) : (ofN (n * 2 ^ k)).length ≤ 2100 := by
  have h1 := val_lt (dig_ofN n)
  rw [val_ofN] at h1
  obtain ⟨j, hj⟩ : ∃ j, j = 1004 := ⟨_, rfl⟩
  refine Nat.le_trans (ofN_le (j := (ofN n).length + j) ?_ (Nat.le_refl _)) (by omega)
  have h2 : 2 ^ k ≤ 4294967296 ^ j := by rw [base_pow]; exact Nat.pow_le_pow_right (by decide) (by omega)
  rw [Nat.pow_add]
  exact Nat.lt_of_lt_of_le (Nat.mul_lt_mul_of_pos_right h1 (Nat.two_pow_pos k)) (Nat.mul_le_mul_left _ h2)

end Go.Proofs.Nt
/- Round: Root. -/
set_option linter.unusedVariables false
set_option maxRecDepth 20000
set_option linter.unusedSimpArgs false
set_option linter.unnecessarySimpa false
namespace Go.Proofs.Nt
open Go Go.Proofs Go.Proofs.Va Go.RowKit

theorem and_one_i (x : Int) : IntKind.i64.wrap (bAnd .i64 x 1) = x % 2 := by
  have h : bAnd .i64 x 1 = x % 2 := by
    show (((BitVec.ofInt 64 x &&& BitVec.ofInt 64 1 : BitVec 64).toNat : Nat) : Int) = _
    rw [BitVec.toNat_and, BitVec.toNat_ofInt, show (BitVec.ofInt 64 1).toNat = 1 from rfl, Nat.and_one_is_mod]
    omega
  rw [h]; exact w64 _ (by omega) (by omega)

/-- By how many places a number is shifted ahead of its root. -/
def rootK (c n : Nat) (e : Int) : Nat := (c - bl n) + ((e - ((c - bl n : Nat) : Int)) % 2).toNat
theorem rootK_even (c n : Nat) (e : Int) : (e - (rootK c n e : Int)) % 2 = 0 := by unfold rootK; omega
/-- The float of a root. -/
def rootP (c : Nat) (d : Dy) (w : Nat) : Prop := ∃ s, IsRoot (val d.2.1 * 2 ^ rootK c (val d.2.1) d.2.2) s ∧
  w = if val d.2.1 = 0 then 0 else rnd false s ((d.2.2 - (rootK c (val d.2.1) d.2.2 : Int)) / 2) (decide (s * s ≠ val d.2.1 * 2 ^ rootK c (val d.2.1) d.2.2))

theorem root_bits {m s : Nat} (h : IsRoot m s) (hm : 107 ≤ bl m) : 54 ≤ bl s := by
  rcases Nat.lt_or_ge (bl s) 54 with h1 | h1
  · have h2 := bl_high s
    have h3 : 2 ^ bl s ≤ 2 ^ 53 := Nat.pow_le_pow_right (by decide) (by omega)
    have h4 : s + 1 ≤ 2 ^ 53 := by omega
    have h5 := Nat.mul_le_mul h4 h4
    have h6 := h.2
    have h0 : m ≠ 0 := by intro h; rw [h, bl_zero] at hm; omega
    have h7 := bl_low h0
    have h8 : 2 ^ 106 ≤ 2 ^ (bl m - 1) := Nat.pow_le_pow_right (by decide) (by omega)
    have h9 : (2 : Nat) ^ 106 = 2 ^ 53 * 2 ^ 53 := by decide
    omega
  · exact h1
theorem root_eq {c1 c2 : Nat} (hc : c2 ≤ c1) (h2 : 107 ≤ c2) {d : Dy} {w1 w2 : Nat} (p1 : rootP c1 d w1) (p2 : rootP c2 d w2) : w1 = w2 := by
  obtain ⟨s1, r1, rfl⟩ := p1
  obtain ⟨s2, r2, rfl⟩ := p2
  by_cases h0 : val d.2.1 = 0
  · rw [if_pos h0, if_pos h0]
  rw [if_neg h0, if_neg h0]
  have k1 := rootK_even c1 (val d.2.1) d.2.2
  have k2 := rootK_even c2 (val d.2.1) d.2.2
  have hk : rootK c2 (val d.2.1) d.2.2 ≤ rootK c1 (val d.2.1) d.2.2 := by unfold rootK; omega
  have hk2 : c2 ≤ bl (val d.2.1) + rootK c2 (val d.2.1) d.2.2 := by unfold rootK; omega
  have hb := bl_mul_pow h0 (rootK c2 (val d.2.1) d.2.2)
  generalize rootK c1 (val d.2.1) d.2.2 = a1 at *
  generalize rootK c2 (val d.2.1) d.2.2 = a2 at *
  generalize val d.2.1 = n at *
  obtain ⟨j, hj⟩ : ∃ j : Nat, a1 = a2 + 2 * j := ⟨(a1 - a2) / 2, by omega⟩
  subst hj
  have hb2 := root_bits r2 (by omega)
  rw [Nat.pow_add, ← Nat.mul_assoc] at r1 ⊢
  have h := root_same false ((d.2.2 - (a2 : Int)) / 2) r2 r1 hb2
  rw [← h]
  congr 1
  omega

theorem root_lt {m s : Nat} (h : IsRoot m s) : s ≤ m := by
  rcases Nat.eq_zero_or_pos s with h1 | h1
  · omega
  · exact Nat.le_trans (Nat.le_mul_of_pos_left s h1) h.1
theorem root_pos {m s : Nat} (h : IsRoot m s) (hm : m ≠ 0) : s ≠ 0 := by
  rintro rfl
  have := h.2
  omega

theorem cmp3_zero (a b : Nat) : cmp3 (a : Int) (b : Int) = 0 ↔ a = b := by
  unfold cmp3
  split
  · omega
  · split <;> omega

end Go.Proofs.Nt
/- Round: Within. -/
set_option linter.unusedVariables false
set_option maxRecDepth 20000
set_option linter.unusedSimpArgs false
set_option linter.unnecessarySimpa false
namespace Go.Proofs.Nt
open Go Go.Proofs Go.Proofs.Va Go.RowKit

/-- Half of the least float, in the units that dyads are counted in here. -/
def bigE : Nat := 18925
def big : Nat := 2 ^ bigE
theorem big_pos : 0 < big := Nat.two_pow_pos bigE
theorem big_from {j : Nat} {t : Nat} (h : t = 18925 + j) : 2 ^ t = big * 2 ^ j := by
  have h : t = bigE + j := h
  rw [h, Nat.pow_add, big]

def absX (d : Dy) : Dy := absD d.1 d.2.1 d.2.2
theorem ok_absX (d : Dy) : dOK (absX d) := ok_norm _ _ _
theorem bd_absX {L H : Int} {d : Dy} (h : Bd L H d) : Bd L H (absX d) := bd_abs h
theorem iv_absX {d : Dy} (o : dOK d) {M : Int} (hM : M ≤ -20000) : iv (absX d) M = ((iv d M).natAbs : Int) := by
  have h := iv_abs (neg := d.1) (e := d.2.2) o.2 hM
  rwa [may_of_ok o.1] at h
theorem iv_shift {d : Dy} {M : Int} (j : Nat) (hM : M ≤ d.2.2) : iv d (M - j) = iv d M * ((2 ^ j : Nat) : Int) := by
  have h : up (val d.2.1) d.2.2 (M - j) = up (val d.2.1) d.2.2 M * 2 ^ j := by
    unfold up
    rw [Nat.mul_assoc, ← Nat.pow_add, show (d.2.2 - (M - (j : Int))).toNat = (d.2.2 - M).toNat + j by omega]
  unfold iv
  rw [h]
  cases d.1
  · rw [sg_f, sg_f, Int.natCast_mul]
  · rw [sg_t, sg_t, Int.natCast_mul, Int.neg_mul]

theorem bd_num {n : Nat} {e : Int} (h : bl n ≤ 60) : Bd e (e + 60) (normD false n e) := bd_norm false (.inr ⟨Int.le_refl _, by omega⟩)

/-- Whether a float is near to a dyad. -/
def nearB (b : Nat) (d : Dy) (k : Int) : Bool := decide (9007199254740992 * (2 * (fval b * (big : Int)) - iv d (-20000)).natAbs ≤ k.toNat * (iv d (-20000)).natAbs + 9007199254740992 * big)
def withinB (b : Nat) (d : Dy) (k : Int) : Bool := fin b && decide (0 ≤ k) && decide (k ≤ 1000000) && nearB b d k

/-- What Within compares comes to that. -/
theorem within_iv {b : Nat} {d : Dy} {k : Int} (hf : fin b = true) (o : dOK d) (hb : Bd (-9000) 9000 d) (hk : 0 ≤ k ∧ k ≤ 1000000) :
    decide (sgnD (addD (absX (addD (fromD b) (oppD d))) (oppD (addD (mulD (normD false k.toNat (-53)) (absX d)) (normD false 1 (-1075))))) ≤ 0) = nearB b d k := by
  have hex := ok_exp o.1
  have bk : bl k.toNat ≤ 60 := bl_le (Nat.lt_of_le_of_lt (show k.toNat ≤ 1000000 by omega) (by decide))
  have b1 := bd_num (n := k.toNat) (e := -53) bk
  have b2 := bd_num (n := 1) (e := -1075) (by decide)
  have bm := bd_mul b1 (bd_absX hb)
  have o1 := ok_norm false k.toNat (-53)
  have o2 := ok_norm false 1 (-1075)
  have bA := bd_add (ok_mul _ _) o2 (bm.mono (L' := -9100) (H' := 9100) (by omega) (by omega)) (b2.mono (L' := -9100) (H' := 9100) (by omega) (by omega)) (by omega)
  have bf := (from_bd b).mono (L' := -9000) (H' := 9000) (by omega) (by omega)
  have bS := bd_add (ok_from b) (ok_opp d) bf (bd_opp hb) (by omega)
  rw [cmp_agree (ok_absX _) (ok_add _ _) ((bd_absX bS).mono (L' := -9100) (H' := 9101) (by omega) (by omega)) (bA.mono (by omega) (by omega)) (by omega) (by omega) (by omega),
    cmpD_iv (ok_absX _) (ok_add _ _) (M := -20053) (by omega)]
  rw [iv_absX (ok_add _ _) (by omega), iv_add (ok_from b) (ok_opp d) bf (bd_opp hb) (by omega) (by omega) (by omega) (by omega), iv_opp o (by omega),
    iv_add (ok_mul _ _) o2 (bm.mono (L' := -9100) (H' := 9100) (by omega) (by omega)) (b2.mono (L' := -9100) (H' := 9100) (by omega) (by omega)) (by omega) (by omega) (by omega) (by omega)]
  have ok2 := ok_exp (ok_absX d).1
  have e0 : (-20053 : Int) = -53 + -20000 := by omega
  have hn : -53 ≤ (normD false k.toNat (-53)).2.2 := by
    unfold normD
    split
    · decide
    · show -53 ≤ (-53 : Int) + _; omega
  have e1 : iv (mulD (normD false k.toNat (-53)) (absX d)) (-20053) = ((k.toNat * (iv d (-20000)).natAbs : Nat) : Int) := by
    rw [e0, iv_mul b1 (bd_absX hb) (by omega) (by omega) hn (by omega), iv_absX o (by omega), iv_norm (by omega) (.inr (by omega)), up_self, sg_f, Int.natCast_mul]
  have e2 : iv (normD false 1 (-1075)) (-20053) = ((9007199254740992 * big : Nat) : Int) := by
    have h1 : up 1 (-1075) (-20053) = 9007199254740992 * big := by
      unfold up
      rw [big_from (j := 53) (by decide), Nat.one_mul, Nat.mul_comm]
    rw [iv_norm (by omega) (.inr (by have : bl 1 ≤ 1 := bl_le (by decide); omega)), h1, sg_f]
  have e3 : iv (fromD b) (-20053) = 2 * (fval b * (big : Int)) * ((2 ^ 53 : Nat) : Int) := by
    rw [iv_from hf (by omega), big_from (j := 54) (by decide), Int.natCast_mul]
    have : ((2 ^ 54 : Nat) : Int) = 2 * ((2 ^ 53 : Nat) : Int) := by decide
    rw [this]
    generalize ((2 ^ 53 : Nat) : Int) = p
    rw [Int.mul_assoc 2, Int.mul_assoc (fval b), Int.mul_left_comm (big : Int) 2 p, Int.mul_left_comm (fval b) 2]
  have e4 : iv d (-20053) = iv d (-20000) * ((2 ^ 53 : Nat) : Int) := by
    have := iv_shift (d := d) (M := -20000) 53 (by omega)
    rw [← this]; congr 1
  rw [e1, e2, e3, e4]
  unfold nearB
  generalize iv d (-20000) = y at *
  generalize fval b * (big : Int) = x at *
  have e5 : (2 * x * ((2 ^ 53 : Nat) : Int) + -(y * ((2 ^ 53 : Nat) : Int))).natAbs = 9007199254740992 * (2 * x - y).natAbs := by
    rw [← Int.sub_eq_add_neg, ← Int.sub_mul, Int.natAbs_mul, Int.natAbs_natCast, Nat.mul_comm]
  rw [e5]
  rw [decide_eq_decide]
  unfold cmp3
  generalize k.toNat * y.natAbs = p
  generalize 9007199254740992 * big = q
  generalize 9007199254740992 * (2 * x - y).natAbs = r
  split
  · omega
  · split <;> omega

theorem told_ex (d : Dy) : dTold d (dy d.1 true d.2.1 (some 0) d.2.2) := ⟨true, some 0, rfl⟩
theorem toldN_ex (a : List Nat) : Told a (sl true a (some 0)) := ⟨true, some 0, rfl⟩
end Go.Proofs.Nt
/- Plain mathematics: the float of an integer is near to it; a float's own dyad. -/
set_option linter.unusedVariables false
set_option maxRecDepth 20000
set_option linter.unusedSimpArgs false
namespace Go.Proofs.Nt
open Go Go.Proofs

/-- What the float of an integer comes to, if it is a number. -/
theorem fl_near {y : Int} (hf : frg (flI y (-20000)) < 9218868437227405312) : 9007199254740992 * (2 * (fval (flI y (-20000)) * (big : Int)) - y).natAbs ≤ 1 * y.natAbs + 9007199254740992 * big := by
  by_cases h0 : y = 0
  · subst h0
    have e : flI 0 (-20000) = 0 := by unfold flI; exact near_zero false _
    rw [e, show fval 0 = 0 by decide]
    simp
  have hn : y.natAbs ≠ 0 := by omega
  unfold flI at hf ⊢
  rw [near_rung _ hn] at hf ⊢
  have hle := rung_le y.natAbs (-20000)
  rw [wd_frg _ (by omega)] at hf
  rw [fval_wd _ hle]
  obtain ⟨b1, b2⟩ := mant_bounds hn (-20000) false
  have hm := mant_rhe hn (-20000)
  have hu : unitP y.natAbs (-20000) = max (-1074) ((-20000 : Int) + (bl y.natAbs : Int) - 53) := rfl
  have hlow := bl_low hn
  unfold rungN at hf ⊢
  generalize unitP y.natAbs (-20000) = U at *
  generalize mantN y.natAbs (-20000) false = m at *
  rw [Nat.min_eq_left (by omega)]
  obtain ⟨k, hk⟩ : ∃ k : Nat, U + 1074 = (k : Int) := ⟨(U + 1074).toNat, by omega⟩
  rw [show (U + 1074).toNat = k by omega, vr_mant b1 (fun h => b2 (by omega))]
  rw [show (-20000 - U).toNat = 0 by omega, Nat.pow_zero, Nat.mul_one] at hm
  obtain ⟨e1, e2⟩ := rhe_err y.natAbs (U - -20000).toNat
  rw [← hm] at e1 e2
  have hd : (U - -20000).toNat = k + 18926 := by omega
  have hp : 2 ^ (U - -20000).toNat = 2 * (2 ^ k * big) := by
    rw [hd, Nat.add_comm, show 18926 + k = 18925 + (1 + k) by omega, big_from rfl, Nat.pow_add]
    rw [Nat.pow_one, Nat.mul_left_comm, Nat.mul_comm big]
  have hbig : 9007199254740992 * (2 ^ k * big) ≤ y.natAbs + 9007199254740992 * big := by
    rcases Nat.eq_zero_or_pos k with h | h
    · subst h; rw [Nat.pow_zero, Nat.one_mul]; omega
    · have h1 : bl y.natAbs - 1 = 53 + (18925 + k) := by omega
      have h2 : 2 ^ (bl y.natAbs - 1) = 9007199254740992 * (2 ^ k * big) := by
        rw [h1, Nat.pow_add, big_from rfl, Nat.mul_comm big]
      omega
  rw [hp] at e1 e2
  have hs : 2 * (sg (decide (y < 0)) (m * 2 ^ k) * (big : Int)) - y = if y < 0 then -(2 * ((m * (2 ^ k * big) : Nat) : Int)) - y else 2 * ((m * (2 ^ k * big) : Nat) : Int) - y := by
    rw [← Nat.mul_assoc, Int.natCast_mul (m * 2 ^ k)]
    split
    · rename_i h; rw [decide_eq_true h, sg_t, Int.neg_mul, Int.mul_neg]
    · rename_i h; rw [decide_eq_false h, sg_f]
  rw [hs]
  have e3 : m * (2 * (2 ^ k * big)) = 2 * (m * (2 ^ k * big)) := Nat.mul_left_comm _ _ _
  rw [e3] at e1 e2
  generalize m * (2 ^ k * big) = A at *
  generalize 2 ^ k * big = B at *
  generalize big = G at *
  split <;> omega

/-- A float is the float of its own dyad. -/
theorem float_from {x : Nat} (hx : fin x = true) (hb : x < 18446744073709551616) : floatD (fromD x) = if frg x = 0 then 0 else x := by
  have h : frg x < 9218868437227405312 := by simpa [fin] using hx
  have hm : mg (frg x) < 2 ^ 53 := by
    have : (2 : Nat) ^ 53 = 9007199254740992 := rfl
    unfold mg; split <;> omega
  have h2 := bl_le hm
  have h3 : pl (frg x) ≤ 2045 := by unfold pl; omega
  have hiv := iv_from hx (M := -20000) (by omega)
  have hex := ok_exp (ok_from x).1
  rw [floatD_iv (ok_from x) (M := -20000) (by omega), hiv]
  split
  · rename_i h0
    rw [fval_zero.2 h0, Int.zero_mul]
    unfold flI; exact near_zero false _
  · rename_i h0
    have hv : vr (frg x) ≠ 0 := by
      intro h4; exact h0 (vr_inj (by rw [h4, vr_zero]))
    have hp := Nat.two_pow_pos (-1074 - (-20000 : Int)).toNat
    have hf : fval x = if fsg x then -(vr (frg x) : Int) else vr (frg x) := rfl
    have key : flI (fval x * ((2 ^ (-1074 - (-20000 : Int)).toNat : Nat) : Int)) (-20000) = nearW (fsg x) (mg (frg x)) (-1074 + (pl (frg x) : Nat)) := by
      have e : vr (frg x) * 2 ^ (-1074 - (-20000 : Int)).toNat = up (mg (frg x)) (-1074 + (pl (frg x) : Nat)) (-20000) := by
        unfold up vr
        rw [Nat.mul_assoc, ← Nat.pow_add]
        congr 2; omega
      rw [← nearW_up (fsg x) (n := mg (frg x)) (e := -1074 + (pl (frg x) : Nat)) (M := -20000) (by omega), ← e]
      generalize 2 ^ (-1074 - (-20000 : Int)).toNat = c at *
      have hvc : vr (frg x) * c ≠ 0 := Nat.mul_ne_zero hv (by omega)
      unfold flI
      rw [hf]
      cases fsg x
      · simp only [Bool.false_eq_true, if_false]
        rw [← Int.natCast_mul, show decide (((vr (frg x) * c : Nat) : Int) < 0) = false by simp; omega, Int.natAbs_natCast]
      · simp only [if_true]
        rw [Int.neg_mul, ← Int.natCast_mul, show decide (-((vr (frg x) * c : Nat) : Int) < 0) = true by simp; omega, Int.natAbs_neg, Int.natAbs_natCast]
    rw [key, nearW_rung _ (by omega), word_self hb]
end Go.Proofs.Nt
/- Plain mathematics: Go's sum, difference and product of floats. -/
set_option linter.unusedVariables false
set_option maxRecDepth 20000
set_option linter.unusedSimpArgs false
namespace Go.Proofs.Nt
open Go Go.Proofs

theorem flI_scale (z : Int) (k : Nat) (p : Int) : flI (z * ((2 ^ k : Nat) : Int)) (p - k) = flI z p := by
  have hp := Nat.two_pow_pos k
  have hc : (0 : Int) < ((2 ^ k : Nat) : Int) := by omega
  have hs : z * ((2 ^ k : Nat) : Int) < 0 ↔ z < 0 := by
    have := Int.mul_lt_mul_right (a := ((2 ^ k : Nat) : Int)) (b := z) (c := 0) hc
    rw [Int.zero_mul] at this; exact this
  unfold flI
  have e : decide (z * ((2 ^ k : Nat) : Int) < 0) = decide (z < 0) := by rw [decide_eq_decide]; exact hs
  rw [e, Int.natAbs_mul, Int.natAbs_natCast, nearW_scale]
theorem near_zero_val (s : Bool) (p : Int) : fval (nearW s 0 p) = 0 := by
  have h : nearW s 0 p = Ieee.double.word s 0 := by unfold nearW; simp only [if_true]
  rw [h]
  show fval (wd s 0) = 0
  rw [fval_wd s (by omega), vr_zero]
  cases s
  · rw [sg_f]; rfl
  · rw [sg_t]; rfl
theorem flI_zero (p : Int) : fval (flI 0 p) = 0 := near_zero_val _ _
theorem flI_frg (z : Int) (p : Int) : frg (flI z p) ≤ 9218868437227405312 := nearW_frg _ _ _
theorem flI_lt (z : Int) (p : Int) : flI z p < 18446744073709551616 := nearW_lt _ _ _

/-- A word that is no NaN, of some value. -/
def Wv (w : Nat) (z : Int) (p : Int) : Prop := w < 18446744073709551616 ∧ frg w ≤ 9218868437227405312 ∧ fval w = fval (flI z p)

theorem total_word (s : Bool) (z : Int) (p : Int) : Wv (nearW (if z = 0 then s else decide (z < 0)) z.natAbs p) z p := by
  refine ⟨nearW_lt _ _ _, nearW_frg _ _ _, ?_⟩
  split
  · rename_i h; subst h
    rw [flI_zero]; exact near_zero_val _ _
  · rfl

theorem sum_word {sx sy : Bool} {m n : Nat} {i j : Int} : ∃ w, ((Ieee.Datum.number sx m i).sum (Ieee.Datum.number sy n j)).map Ieee.double.write = some w ∧
    Wv w (Ieee.signed sx m (i - min i j).toNat + Ieee.signed sy n (j - min i j).toNat) (min i j) := by
  simp only [Ieee.Datum.sum, Option.map_some, Ieee.Format.write, nearest_eq]
  exact ⟨_, rfl, total_word _ _ _⟩

theorem fval_read {x : Nat} (L : Int) (h1 : -1074 ≤ L) (h : L ≤ -1074 + (pl (frg x) : Nat)) : fval x = Ieee.signed (fsg x) (mg (frg x)) (-1074 + ((pl (frg x) : Nat) : Int) - L).toNat * ((2 ^ (L + 1074).toNat : Nat) : Int) :=
  fval_scale (by omega)

theorem add_word {x y : Nat} (hx : fin x = true) (hy : fin y = true) : ∃ w, Ieee.double.add x y = some w ∧ Wv w (fval x + fval y) (-1074) := by
  have hx' : frg x < 9218868437227405312 := by simpa [fin] using hx
  have hy' : frg y < 9218868437227405312 := by simpa [fin] using hy
  unfold Ieee.Format.add
  rw [read_num hx', read_num hy']
  obtain ⟨w, h1, h2, h3, h4⟩ := sum_word (sx := fsg x) (sy := fsg y) (m := mg (frg x)) (n := mg (frg y)) (i := -1074 + ((pl (frg x) : Nat) : Int)) (j := -1074 + ((pl (frg y) : Nat) : Int))
  refine ⟨w, h1, h2, h3, ?_⟩
  rw [h4]
  have ex := fval_read (x := x) (min (-1074 + ((pl (frg x) : Nat) : Int)) (-1074 + ((pl (frg y) : Nat) : Int))) (by omega) (by omega)
  have ey := fval_read (x := y) (min (-1074 + ((pl (frg x) : Nat) : Int)) (-1074 + ((pl (frg y) : Nat) : Int))) (by omega) (by omega)
  rw [ex, ey, ← Int.add_mul]
  generalize Ieee.signed (fsg x) (mg (frg x)) _ + Ieee.signed (fsg y) (mg (frg y)) _ = z
  have hb : -1074 ≤ min (-1074 + ((pl (frg x) : Nat) : Int)) (-1074 + ((pl (frg y) : Nat) : Int)) := by omega
  generalize min (-1074 + ((pl (frg x) : Nat) : Int)) (-1074 + ((pl (frg y) : Nat) : Int)) = b at *
  have := flI_scale z (b + 1074).toNat b
  rw [show b - ((b + 1074).toNat : Int) = -1074 by omega] at this
  rw [this]

theorem opp_read {y : Nat} (hb : y < 18446744073709551616) (hy : frg y < 9218868437227405312) : (Ieee.double.read y).opposite = Ieee.double.read (Op.negFloat .f64 y) := by
  rw [negf hb, read_num hy, read_num (b := wd (!fsg y) (frg y)) (by rw [wd_frg _ (frg_lt y)]; exact hy), wd_frg _ (frg_lt y), wd_fsg _ (frg_lt y)]
  rfl
theorem sub_word {x y : Nat} (hx : fin x = true) (hy : fin y = true) (hb : y < 18446744073709551616) : ∃ w, Ieee.double.sub x y = some w ∧ Wv w (fval x - fval y) (-1074) := by
  have hy' : frg y < 9218868437227405312 := by simpa [fin] using hy
  obtain ⟨h1, h2, h3⟩ := from_neg hy hb
  obtain ⟨w, q1, q2⟩ := add_word hx h2
  refine ⟨w, ?_, by rw [h3] at q2; exact q2⟩
  rw [← q1]
  unfold Ieee.Format.sub Ieee.Format.add
  rw [opp_read hb hy']

theorem mul_word {x y : Nat} (hx : fin x = true) (hy : fin y = true) : ∃ w, Ieee.double.mul x y = some w ∧ Wv w (fval x * fval y) (-2148) := by
  have hx' : frg x < 9218868437227405312 := by simpa [fin] using hx
  have hy' : frg y < 9218868437227405312 := by simpa [fin] using hy
  unfold Ieee.Format.mul
  rw [read_num hx', read_num hy']
  simp only [Ieee.Datum.product, Option.map_some, Ieee.Format.write, nearest_eq]
  refine ⟨_, rfl, nearW_lt _ _ _, nearW_frg _ _ _, ?_⟩
  have e : fval x * fval y = sg (fsg x != fsg y) (vr (frg x) * vr (frg y)) := by
    rw [sg_mul]; unfold fval sg; rfl
  have e2 : vr (frg x) * vr (frg y) = up (mg (frg x) * mg (frg y)) (-1074 + ((pl (frg x) : Nat) : Int) + (-1074 + ((pl (frg y) : Nat) : Int))) (-2148) := by
    unfold vr up
    rw [Nat.mul_mul_mul_comm, ← Nat.pow_add]
    congr 2; omega
  have e3 : (fsg x ^^ fsg y) = (fsg x != fsg y) := by cases fsg x <;> cases fsg y <;> rfl
  rw [e, e2, e3]
  have hu := nearW_up (fsg x != fsg y) (n := mg (frg x) * mg (frg y)) (e := -1074 + ((pl (frg x) : Nat) : Int) + (-1074 + ((pl (frg y) : Nat) : Int))) (M := -2148) (by omega)
  rw [← hu]
  generalize up (mg (frg x) * mg (frg y)) _ _ = n
  generalize (fsg x != fsg y) = s
  rcases Nat.eq_zero_or_pos n with h | h
  · subst h
    rw [near_zero_val]
    have : sg s 0 = 0 := by cases s <;> rfl
    rw [this, flI_zero]
  · unfold flI
    cases s
    · rw [sg_f, show decide (((n : Nat) : Int) < 0) = false by simp, Int.natAbs_natCast]
    · rw [sg_t, show decide (-((n : Nat) : Int) < 0) = true by simp; omega, Int.natAbs_neg, Int.natAbs_natCast]

theorem Wv.eq {w : Nat} {z p : Int} (h : Wv w z p) : (Ieee.double.order (flI z p) w == some .eq) = true := by
  obtain ⟨_, h2, h3⟩ := h
  rw [order_val (flI_frg z p) h2, h3, cmpInt, if_neg (by omega), if_pos rfl]; rfl

/-- The float of a dyad that comes to some sum or product of floats' values. -/
theorem floatD_at {d : Dy} (o : dOK d) {M : Int} (hM : M ≤ -20000) {z : Int} {p : Int} (hp : M ≤ p) (h : iv d M = z * ((2 ^ (p - M).toNat : Nat) : Int)) : floatD d = flI z p := by
  have hex := ok_exp o.1
  rw [floatD_iv o (M := M) (by omega), h]
  have := flI_scale z (p - M).toNat p
  rwa [show p - ((p - M).toNat : Int) = M by omega] at this
theorem float_add {x y : Nat} (hx : fin x = true) (hy : fin y = true) : floatD (addD (fromD x) (fromD y)) = flI (fval x + fval y) (-1074) := by
  refine floatD_at (ok_add _ _) (M := -20000) (Int.le_refl _) (by omega) ?_
  rw [iv_add (ok_from x) (ok_from y) (from_bd x) (from_bd y) (by omega) (by omega) (by omega) (by omega), iv_from hx (by omega), iv_from hy (by omega), Int.add_mul]
theorem float_sub {x y : Nat} (hx : fin x = true) (hy : fin y = true) : floatD (addD (fromD x) (oppD (fromD y))) = flI (fval x - fval y) (-1074) := by
  refine floatD_at (ok_add _ _) (M := -20000) (Int.le_refl _) (by omega) ?_
  rw [iv_add (ok_from x) (ok_opp _) (from_bd x) (bd_opp (from_bd y)) (by omega) (by omega) (by omega) (by omega), iv_opp (ok_from y) (by omega), iv_from hx (by omega), iv_from hy (by omega), Int.sub_mul]
  omega
theorem from_exp (x : Nat) : -1074 ≤ (fromD x).2.2 := by
  rcases from_bd x with h | h
  · rw [ok_zero_eq (ok_from x) h]; decide
  · exact h.1
theorem float_mul {x y : Nat} (hx : fin x = true) (hy : fin y = true) : floatD (mulD (fromD x) (fromD y)) = flI (fval x * fval y) (-2148) := by
  refine floatD_at (ok_mul _ _) (M := -40000) (by omega) (by omega) ?_
  have ex := from_exp x
  have ey := from_exp y
  rw [show (-40000 : Int) = -20000 + -20000 by omega, iv_mul (from_bd x) (from_bd y) (by omega) (by omega) (by omega) (by omega), iv_from hx (by omega), iv_from hy (by omega)]
  have e : (2 ^ (-2148 - (-20000 + -20000 : Int)).toNat : Nat) = 2 ^ (-1074 - (-20000 : Int)).toNat * 2 ^ (-1074 - (-20000 : Int)).toNat := by
    rw [← Nat.pow_add]; congr 1
  rw [e, Int.natCast_mul]
  generalize ((2 ^ (-1074 - (-20000 : Int)).toNat : Nat) : Int) = c
  rw [Int.mul_assoc, Int.mul_assoc, Int.mul_left_comm c]
end Go.Proofs.Nt
/- Plain mathematics: Go's quotient and root of floats. -/
set_option linter.unusedVariables false
set_option maxRecDepth 20000
set_option linter.unusedSimpArgs false
namespace Go.Proofs.Nt
open Go Go.Proofs

theorem from_parts {x : Nat} (hx : fin x = true) (h0 : frg x ≠ 0) : ∃ t : Nat, mg (frg x) = val (fromD x).2.1 * 2 ^ t ∧ (fromD x).2.2 = -1074 + ((pl (frg x) : Nat) : Int) + t ∧ (fromD x).1 = fsg x ∧ val (fromD x).2.1 ≠ 0 := by
  have h : frg x < 9218868437227405312 := by simpa [fin] using hx
  have hm : mg (frg x) < 2 ^ 53 := by
    have : (2 : Nat) ^ 53 = 9007199254740992 := rfl
    unfold mg; split <;> omega
  have hm0 : mg (frg x) ≠ 0 := by unfold mg; split <;> omega
  have h2 := bl_le hm
  have h3 : pl (frg x) ≤ 2045 := by unfold pl; omega
  have ht := tz_lt hm0
  have hp := Nat.two_pow_pos (tz (mg (frg x)))
  unfold fromD
  rw [if_pos h, normD, if_neg (by omega)]
  have hd : mg (frg x) / 2 ^ tz (mg (frg x)) * 2 ^ tz (mg (frg x)) = mg (frg x) := Nat.div_mul_cancel (Nat.dvd_of_mod_eq_zero (tz_mod _))
  refine ⟨tz (mg (frg x)), ?_, rfl, rfl, ?_⟩
  · rw [val_ofN, hd]
  · rw [val_ofN]
    intro h4; rw [h4, Nat.zero_mul] at hd; exact hm0 hd.symm

theorem quo_any (neg : Bool) {a b k1 k2 : Nat} (E : Int) (hb : 0 < b) (h1 : 54 ≤ bl (a * 2 ^ k1 / b)) (h2 : 54 ≤ bl (a * 2 ^ k2 / b)) :
    rnd neg (a * 2 ^ k1 / b) (E - k1) (decide (a * 2 ^ k1 % b ≠ 0)) = rnd neg (a * 2 ^ k2 / b) (E - k2) (decide (a * 2 ^ k2 % b ≠ 0)) := by
  rcases Nat.le_total k1 k2 with h | h
  · have := quo_same neg (a := a) (b := b) (k := k1) (j := k2 - k1) E hb h1
    rw [show k1 + (k2 - k1) = k2 by omega] at this
    exact this.symm
  · have := quo_same neg (a := a) (b := b) (k := k2) (j := k1 - k2) E hb h2
    rw [show k2 + (k1 - k2) = k1 by omega] at this
    exact this

theorem quo_word {x y : Nat} (hx : fin x = true) (hy : fin y = true) (h0 : frg y ≠ 0) : ∃ w, Ieee.double.div x y = some w ∧ w < 18446744073709551616 ∧ frg w ≤ 9218868437227405312 ∧ fval w = fval (quoW (fromD x) (fromD y)) := by
  have hx' : frg x < 9218868437227405312 := by simpa [fin] using hx
  have hy' : frg y < 9218868437227405312 := by simpa [fin] using hy
  have hn0 : mg (frg y) ≠ 0 := by unfold mg; split <;> omega
  unfold Ieee.Format.div
  rw [read_num hx', read_num hy']
  simp only [Ieee.Datum.quotient, dbl_fb]
  rw [if_neg hn0]
  simp only [Option.map_some, Ieee.Format.write, nearest_eq, Nat.shiftLeft_eq]
  refine ⟨_, rfl, nearW_lt _ _ _, nearW_frg _ _ _, ?_⟩
  by_cases hx0 : frg x = 0
  · have e1 : mg (frg x) = 0 := by rw [hx0]; rfl
    have e2 : fromD x = zeroD := by
      rw [fromD, if_pos hx', e1, normD, if_pos (.inl rfl)]; rfl
    rw [e1, e2]
    have e3 : quoW zeroD (fromD y) = 0 := by unfold quoW; exact if_pos (show val zeroD.2.1 = 0 from rfl)
    rw [e3, Nat.zero_mul, Nat.zero_div, Nat.zero_mod]
    show fval (nearW _ 0 _) = _
    rw [near_zero_val]; decide
  obtain ⟨ta, a1, a2, a3, a4⟩ := from_parts hx hx0
  obtain ⟨tb, b1, b2, b3, b4⟩ := from_parts hy h0
  have hm0 : mg (frg x) ≠ 0 := by unfold mg; split <;> omega
  have lm := bl_log hm0
  have ln := bl_log hn0
  unfold quoW
  rw [if_neg a4, a2, b2, a3, b3]
  have e3 : (fsg x ^^ fsg y) = (fsg x != fsg y) := by cases fsg x <;> cases fsg y <;> rfl
  rw [e3]
  generalize (fsg x != fsg y) = s
  generalize -1074 + ((pl (frg x) : Nat) : Int) = i at *
  generalize -1074 + ((pl (frg y) : Nat) : Int) = j at *
  have hmore : 54 + bl (mg (frg y)) ≤ bl (mg (frg x)) + (54 + (mg (frg y)).log2 - (mg (frg x)).log2) := by omega
  rw [show 52 + 2 = 54 from rfl]
  generalize 54 + (mg (frg y)).log2 - (mg (frg x)).log2 = more at *
  have hq1 : 54 ≤ bl (mg (frg x) * 2 ^ more / mg (frg y)) := quo_bits hm0 hn0 hmore
  have hq2 : 54 ≤ bl (mg (frg x) * 2 ^ (more + tb) / mg (frg y)) := quo_bits hm0 hn0 (by omega)
  have hst : (mg (frg x) * 2 ^ more % mg (frg y) != 0) = decide (mg (frg x) * 2 ^ more % mg (frg y) ≠ 0) := by
    by_cases h : mg (frg x) * 2 ^ more % mg (frg y) = 0 <;> simp [h]
  rw [hst]
  have hnz : 2 * (mg (frg x) * 2 ^ more / mg (frg y)) + (decide (mg (frg x) * 2 ^ more % mg (frg y) ≠ 0)).toNat ≠ 0 := by
    intro h
    have : mg (frg x) * 2 ^ more / mg (frg y) = 0 := by omega
    rw [this, bl_zero] at hq1; omega
  rw [← rnd_near s hnz, sticky_same s _ _ hq1]
  have s1 := quo_same s (a := mg (frg x)) (b := mg (frg y)) (k := more) (j := tb) (i - j) (by omega) hq1
  rw [← s1]
  have ex : mg (frg x) * 2 ^ (more + tb) = val (fromD x).2.1 * 2 ^ (ta + more) * 2 ^ tb := by
    conv => lhs; rw [a1]
    rw [Nat.mul_assoc, Nat.mul_assoc, ← Nat.pow_add, ← Nat.pow_add]
    congr 2; omega
  have hpb := Nat.two_pow_pos tb
  have ed : mg (frg x) * 2 ^ (more + tb) / mg (frg y) = val (fromD x).2.1 * 2 ^ (ta + more) / val (fromD y).2.1 := by
    rw [ex]; conv => lhs; rw [b1]
    exact Nat.mul_div_mul_right _ _ hpb
  have em : mg (frg x) * 2 ^ (more + tb) % mg (frg y) = val (fromD x).2.1 * 2 ^ (ta + more) % val (fromD y).2.1 * 2 ^ tb := by
    rw [ex]; conv => lhs; rw [b1]
    exact Nat.mul_mod_mul_right _ _ _
  have ez : decide (mg (frg x) * 2 ^ (more + tb) % mg (frg y) ≠ 0) = decide (val (fromD x).2.1 * 2 ^ (ta + more) % val (fromD y).2.1 ≠ 0) := by
    rw [em, decide_eq_decide]
    exact ⟨fun h h2 => h (by rw [h2, Nat.zero_mul]), fun h h2 => h (by rcases Nat.mul_eq_zero.1 h2 with h3 | h3 <;> omega)⟩
  rw [ed] at hq2
  rw [ed, ez]
  have hq3 : 54 ≤ bl (val (fromD x).2.1 * 2 ^ quoK 70 (val (fromD x).2.1) (val (fromD y).2.1) / val (fromD y).2.1) := quo_bits a4 b4 (by unfold quoK; omega)
  have := quo_any s (a := val (fromD x).2.1) (b := val (fromD y).2.1) (k1 := ta + more) (k2 := quoK 70 (val (fromD x).2.1) (val (fromD y).2.1)) (i + ta - (j + tb)) (by omega) hq2 hq3
  rw [← this]
  congr 2
  omega

/-! ### Roots -/
theorem rootFrom_ok (n : Nat) : ∀ (todo root : Nat), root * root ≤ n → n < (root + 2 ^ todo) * (root + 2 ^ todo) → IsRoot n (Ieee.Datum.rootFrom n todo root)
  | 0, root, h1, h2 => by simp only [Ieee.Datum.rootFrom]; exact ⟨h1, by simpa using h2⟩
  | todo + 1, root, h1, h2 => by
    have e : root + 1 <<< todo = root + 2 ^ todo := by rw [Nat.one_shiftLeft]
    simp only [Ieee.Datum.rootFrom, e]
    have e2 : root + 2 ^ (todo + 1) = root + 2 ^ todo + 2 ^ todo := by rw [Nat.pow_succ]; omega
    rw [e2] at h2
    split
    · rename_i h; exact rootFrom_ok n todo _ h h2
    · rename_i h; exact rootFrom_ok n todo _ h1 (by omega)
theorem rootFrom_all (n : Nat) : IsRoot n (Ieee.Datum.rootFrom n (n.log2 / 2 + 1) 0) := by
  refine rootFrom_ok n _ 0 (by omega) ?_
  have h := log2_lt n
  rw [Nat.zero_add, ← Nat.pow_add]
  exact Nat.lt_of_lt_of_le h (Nat.pow_le_pow_right (by decide) (by omega))

theorem root_any {a k1 k2 s1 s2 : Nat} (e : Int) (h1 : IsRoot (a * 2 ^ k1) s1) (h2 : IsRoot (a * 2 ^ k2) s2) (p1 : (e - (k1 : Int)) % 2 = 0) (p2 : (e - (k2 : Int)) % 2 = 0) (q1 : 54 ≤ bl s1) (q2 : 54 ≤ bl s2) :
    rnd false s1 ((e - (k1 : Int)) / 2) (decide (s1 * s1 ≠ a * 2 ^ k1)) = rnd false s2 ((e - (k2 : Int)) / 2) (decide (s2 * s2 ≠ a * 2 ^ k2)) := by
  have key : ∀ k1 k2 s1 s2 : Nat, k1 ≤ k2 → IsRoot (a * 2 ^ k1) s1 → IsRoot (a * 2 ^ k2) s2 → (e - (k1 : Int)) % 2 = 0 → (e - (k2 : Int)) % 2 = 0 → 54 ≤ bl s1 →
      rnd false s2 ((e - (k2 : Int)) / 2) (decide (s2 * s2 ≠ a * 2 ^ k2)) = rnd false s1 ((e - (k1 : Int)) / 2) (decide (s1 * s1 ≠ a * 2 ^ k1)) := by
    intro k1 k2 s1 s2 hk r1 r2 e1 e2 hb
    obtain ⟨j, hj⟩ : ∃ j : Nat, k2 = k1 + 2 * j := ⟨(k2 - k1) / 2, by omega⟩
    subst hj
    rw [Nat.pow_add, ← Nat.mul_assoc] at r2 ⊢
    have h := root_same false ((e - (k1 : Int)) / 2) r1 r2 hb
    rw [← h]
    congr 1
    omega
  rcases Nat.le_total k1 k2 with h | h
  · exact (key _ _ _ _ h h1 h2 p1 p2 q1).symm
  · exact key _ _ _ _ h h2 h1 p2 p1 q2

theorem root_word {x : Nat} (hx : fin x = true) (hs : fsg x = false ∨ frg x = 0) : ∃ w, Ieee.double.sqrt x = some w ∧ w < 18446744073709551616 ∧ frg w ≤ 9218868437227405312 ∧ ∀ w', rootP 140 (fromD x) w' → fval w' = fval w := by
  have hx' : frg x < 9218868437227405312 := by simpa [fin] using hx
  unfold Ieee.Format.sqrt
  rw [read_num hx']
  simp only [Ieee.Datum.root, dbl_fb]
  by_cases hx0 : frg x = 0
  · have e1 : mg (frg x) = 0 := by rw [hx0]; rfl
    have e2 : fromD x = zeroD := by
      rw [fromD, if_pos hx', e1, normD, if_pos (.inl rfl)]; rfl
    rw [if_pos e1, e1, e2]
    simp only [Option.map_some, Ieee.Format.write, nearest_eq]
    refine ⟨_, rfl, nearW_lt _ _ _, nearW_frg _ _ _, ?_⟩
    rintro w' ⟨s, _, rfl⟩
    rw [if_pos (show val zeroD.2.1 = 0 from rfl), near_zero_val]; decide
  have hs' : fsg x = false := hs.resolve_right hx0
  have hm0 : mg (frg x) ≠ 0 := by unfold mg; split <;> omega
  obtain ⟨ta, a1, a2, a3, a4⟩ := from_parts hx hx0
  rw [if_neg hm0, hs', if_neg (by decide)]
  simp only [Option.map_some, Ieee.Format.write, nearest_eq, Nat.shiftLeft_eq]
  refine ⟨_, rfl, nearW_lt _ _ _, nearW_frg _ _ _, ?_⟩
  rintro w' ⟨s, hr, rfl⟩
  rw [if_neg a4]
  rw [show 2 * (52 + 2) = 108 from rfl]
  have lm := bl_log hm0
  generalize hi : -1074 + ((pl (frg x) : Nat) : Int) = i at *
  obtain ⟨m0, hm0d⟩ : ∃ m0, m0 = 108 - (mg (frg x)).log2 := ⟨_, rfl⟩
  rw [← hm0d]
  obtain ⟨more, hmore⟩ : ∃ more, more = m0 + ((i - (m0 : Int)) % 2).toNat := ⟨_, rfl⟩
  rw [← hmore]
  have par : (i - (more : Int)) % 2 = 0 := by omega
  have hbn := bl_mul_pow hm0 more
  have hR := rootFrom_all (mg (frg x) * 2 ^ more)
  generalize Ieee.Datum.rootFrom (mg (frg x) * 2 ^ more) _ 0 = whole at *
  have hb1 := root_bits hR (by omega)
  have hst : (whole * whole != mg (frg x) * 2 ^ more) = decide (whole * whole ≠ mg (frg x) * 2 ^ more) := by
    by_cases h : whole * whole = mg (frg x) * 2 ^ more <;> simp [h]
  rw [hst]
  have hnz : 2 * whole + (decide (whole * whole ≠ mg (frg x) * 2 ^ more)).toNat ≠ 0 := by
    intro h
    have : whole = 0 := by omega
    rw [this, bl_zero] at hb1; omega
  rw [← rnd_near false hnz, sticky_same false _ _ hb1]
  have ex : mg (frg x) * 2 ^ more = val (fromD x).2.1 * 2 ^ (ta + more) := by
    conv => lhs; rw [a1]
    rw [Nat.mul_assoc, ← Nat.pow_add]
  rw [ex] at hR ⊢
  have kev := rootK_even 140 (val (fromD x).2.1) (fromD x).2.2
  have kbl : 140 ≤ bl (val (fromD x).2.1) + rootK 140 (val (fromD x).2.1) (fromD x).2.2 := by unfold rootK; omega
  have hb2 := bl_mul_pow a4 (rootK 140 (val (fromD x).2.1) (fromD x).2.2)
  generalize rootK 140 (val (fromD x).2.1) (fromD x).2.2 = K at *
  have hb3 := root_bits hr (by omega)
  rw [a2] at kev ⊢
  have h := root_any (i + (ta : Int)) hr hR kev (by omega) hb3 hb1
  rw [h]
  congr 2
  omega
end Go.Proofs.Nt
/- Round: the root of Go's library; the answers that the document gives. -/
set_option linter.unusedVariables false
set_option maxRecDepth 20000
set_option linter.unusedSimpArgs false
set_option linter.unnecessarySimpa false
namespace Go.Proofs.Nt
open Go Go.Proofs Go.Proofs.Va Go.RowKit

theorem isinf1_ctr {b : Nat} (hb : b = 9218868437227405312) : Ctr Tryz.prog 96 [fl b, i 1] (fun r => r = bo true) := by
  refine ctr_val Tryz.func96 rfl (by kernel_rfl) rfl (by simp) fun K hK => ?_
  have h : (Ieee.double.order b 9218868437227405311 == some .gt) = true := by rw [hb]; decide
  simp [Tryz.f96, h] at hK ⊢
  exact hK _

theorem f_1 : fromD 4607182418800017408 = (false, [1], 0) := fromD_val (k := 52) (by decide) (by decide) (by decide) (by decide) (by decide) (by decide) (by decide) (by decide)
theorem ok_1 : dOk false [1] 0 = true := by simp [dOk, trimL, at']
theorem ok_3 : dOk false [3] 0 = true := by simp [dOk, trimL, at']
theorem ok_9 : dOk false [9] (-2) = true := by simp [dOk, trimL, at']
theorem nv9 : normD false 9 (-2) = (false, [9], -2) := norm_val false (m := 9) (k := 0) (by decide) (by decide) (by decide) (by decide) (by decide) (by decide)
theorem nvo : normD false 1 0 = (false, [1], 0) := norm_val false (m := 1) (k := 0) (by decide) (by decide) (by decide) (by decide) (by decide) (by decide)
theorem nvh : normD false 1 1024 = (false, [1], 1024) := norm_val false (m := 1) (k := 0) (by decide) (by decide) (by decide) (by decide) (by decide) (by decide)
theorem nvl : normD false 1 (-1075) = (false, [1], -1075) := norm_val false (m := 1) (k := 0) (by decide) (by decide) (by decide) (by decide) (by decide) (by decide)
theorem neg_1 : negD false [1] 0 = (true, [1], 0) := by
  have h : normD true 1 0 = (true, [1], 0) := norm_val true (m := 1) (k := 0) (by decide) (by decide) (by decide) (by decide) (by decide) (by decide)
  simp [negD, mayD, ok_1, val, h]
theorem ofN_two' {m : Nat} (h1 : 4294967296 ≤ m) (h2 : m < 18446744073709551616) : ofN m = [m % 4294967296, m / 4294967296] := by
  rw [ofN_pos (by omega), ofN_one (by omega) (by omega)]
theorem nvb (g : Bool) (lo : Nat) (h : lo < 4294967296) (ho : lo % 2 = 1) : normD g (val [lo, 2097152]) 0 = (g, [lo, 2097152], 0) := by
  have hv : val [lo, 2097152] = lo + 9007199254740992 := by simp [val]
  rw [hv, normD, tz_odd (by omega), if_neg (by omega), Nat.pow_zero, Nat.div_one, ofN_two' (by omega) (by omega)]
  have e1 : (lo + 9007199254740992) % 4294967296 = lo := by omega
  have e2 : (lo + 9007199254740992) / 4294967296 = 2097152 := by omega
  rw [e1, e2]; simp
theorem okb (g : Bool) {lo : Nat} (ho : lo % 2 = 1) : dOk g [lo, 2097152] 0 = true := by simp [dOk, trimL, at', ho]
theorem dig2 {lo : Nat} (h : lo < 4294967296) : Dig [lo, 2097152] := by
  intro x hx; simp at hx; rcases hx with rfl | rfl
  · exact h
  · decide

theorem quo_13 : quoW (false, [1], 0) (false, [3], 0) = 4599676419421066581 := by decide +kernel
theorem float_b1 : floatD (true, [1, 2097152], 0) = 14069245235905429504 := by decide +kernel
theorem float_b3 : floatD (false, [3, 2097152], 0) = 4845873199050653698 := by decide +kernel
theorem float_h : floatD (false, [1], 1024) = 9218868437227405312 := by decide +kernel
theorem float_l : floatD (false, [1], -1075) = 0 := by decide +kernel
theorem within_q : withinB 4599676419421066581 (false, [1], 0) 0 = false := by decide +kernel
theorem within_1 : withinB 4607182418800017408 (false, [1], 0) 0 = true := by decide +kernel
theorem root_9 {w : Nat} (h : rootP 140 (false, [9], -2) w) : w = 4609434218613702656 := by
  obtain ⟨s, hs, rfl⟩ := h
  have hr : IsRoot (val [9] * 2 ^ rootK 140 (val [9]) (-2)) (3 * 2 ^ 68) := by unfold IsRoot; decide +kernel
  have := hs.unique hr
  subst this
  decide +kernel
theorem bd_1 : Bd (-9000) 9000 (false, [1], 0) := .inr ⟨by decide, by decide +kernel⟩

end Go.Proofs.Nt
/- The laws RoundParts, RoundStays, RoundAdds as contracts. -/
set_option linter.unusedVariables false
set_option maxRecDepth 20000
set_option linter.unusedSimpArgs false
set_option linter.unnecessarySimpa false
namespace Go.Proofs.Nt
open Go Go.Proofs Go.Proofs.Va Go.RowKit

theorem rnd_lt (s : Bool) (n : Nat) (e : Int) (r : Bool) : rnd s n e r < 18446744073709551616 := by
  unfold rnd; split
  · exact wd_lt s (by omega)
  · exact nearW_lt _ _ _
theorem rnd_frg (s : Bool) (n : Nat) (e : Int) (r : Bool) : frg (rnd s n e r) ≤ 9218868437227405312 := by
  unfold rnd; split
  · rw [wd_frg s (by omega)]; omega
  · exact nearW_frg _ _ _
theorem quoW_lt (A B : Dy) : quoW A B < 18446744073709551616 := by
  unfold quoW; split
  · omega
  · exact rnd_lt _ _ _ _
theorem quoW_frg (A B : Dy) : frg (quoW A B) ≤ 9218868437227405312 := by
  unfold quoW; split
  · decide
  · exact rnd_frg _ _ _ _
theorem rootP_lt {c : Nat} {d : Dy} {w : Nat} (h : rootP c d w) : w < 18446744073709551616 := by
  obtain ⟨s, _, rfl⟩ := h
  split
  · omega
  · exact rnd_lt _ _ _ _
theorem rootP_frg {c : Nat} {d : Dy} {w : Nat} (h : rootP c d w) : frg w ≤ 9218868437227405312 := by
  obtain ⟨s, _, rfl⟩ := h
  split
  · decide
  · exact rnd_frg _ _ _ _
theorem same_self (x : Nat) : sameF x x := .inr rfl
theorem feq_of {x y : Nat} (hx : frg x ≤ 9218868437227405312) (hy : frg y ≤ 9218868437227405312) (h : fval x = fval y) : (Ieee.double.order x y == some .eq) = true := by
  rw [order_val hx hy, h, cmpInt, if_neg (by omega), if_pos rfl]; rfl

end Go.Proofs.Nt
