/- Digits and their number: plain mathematics, more. -/
import Derived.Test.YtmfnjmcgmogncaaVn8
set_option linter.unusedVariables false
set_option linter.unusedSimpArgs false
namespace Go.Proofs.Nt

/-! ### How many bits -/
def bl (n : Nat) : Nat := if n = 0 then 0 else Nat.log2 n + 1
theorem bl_zero : bl 0 = 0 := rfl
theorem bl_eq {n k : Nat} (h1 : 2 ^ k ≤ n) (h2 : n < 2 ^ (k + 1)) : bl n = k + 1 := by
  have h0 : n ≠ 0 := by have := Nat.two_pow_pos k; omega
  unfold bl
  rw [if_neg h0]
  have := (Nat.log2_lt h0).2 h2
  have := (Nat.le_log2 h0).2 h1
  omega
theorem bl_low {n : Nat} (h : n ≠ 0) : 2 ^ (bl n - 1) ≤ n := by
  unfold bl; rw [if_neg h]; exact (Nat.le_log2 h).1 (Nat.le_refl _)
theorem bl_high (n : Nat) : n < 2 ^ bl n := by
  unfold bl
  split
  · omega
  · rename_i h; exact (Nat.log2_lt h).1 (Nat.lt_succ_self _)
theorem bl_pos {n : Nat} (h : n ≠ 0) : 0 < bl n := by unfold bl; rw [if_neg h]; omega
theorem bl_half {n : Nat} (h : n ≠ 0) : bl n = bl (n / 2) + 1 := by
  by_cases h1 : n / 2 = 0
  · have : n = 1 := by omega
    subst this; rfl
  · have l := bl_low h1
    have u := bl_high (n / 2)
    have p := bl_pos h1
    obtain ⟨k, hk⟩ : ∃ k, bl (n / 2) = k + 1 := ⟨bl (n / 2) - 1, by omega⟩
    rw [hk] at l u ⊢
    simp only [Nat.add_sub_cancel] at l
    refine bl_eq (k := k + 1) ?_ ?_
    · rw [Nat.pow_succ]; omega
    · rw [Nat.pow_succ]; omega
theorem bl_shift {x t m : Nat} (hx : x < 2 ^ m) (ht : t ≠ 0) : bl (x + 2 ^ m * t) = m + bl t := by
  have l := bl_low ht
  have u := bl_high t
  have p := bl_pos ht
  obtain ⟨k, hk⟩ : ∃ k, bl t = k + 1 := ⟨bl t - 1, by omega⟩
  rw [hk] at l u ⊢
  simp only [Nat.add_sub_cancel] at l
  refine bl_eq (k := m + k) ?_ ?_
  · rw [Nat.pow_add]
    have := Nat.mul_le_mul_left (2 ^ m) l
    omega
  · rw [Nat.add_assoc, Nat.pow_add]
    have : 2 ^ m * (t + 1) ≤ 2 ^ m * 2 ^ (k + 1) := Nat.mul_le_mul_left _ (by omega)
    rw [Nat.mul_add] at this
    omega
theorem bl_le {n k : Nat} (h : n < 2 ^ k) : bl n ≤ k := by
  rcases Nat.lt_or_ge k (bl n) with h1 | h1
  · exfalso
    have h0 : n ≠ 0 := fun hh => by subst hh; simp [bl_zero] at h1
    have l := bl_low h0
    have : 2 ^ k ≤ 2 ^ (bl n - 1) := Nat.pow_le_pow_right (by decide) (by omega)
    omega
  · exact h1

theorem base_pow (k : Nat) : 4294967296 ^ k = 2 ^ (32 * k) := by rw [Nat.pow_mul]

/-- The last of a number's digits. -/
theorem bl_digits {a : List Nat} (hd : Dig a) {m : Nat} (hm : a.length = m + 1) (h : a[m] ≠ 0) : bl (val a) = 32 * m + bl a[m] := by
  have e : a = a.take m ++ [a[m]] := by
    have := List.take_append_drop m a
    conv => lhs; rw [← this]
    congr 1
    rw [List.drop_eq_getElem_cons (by omega), List.drop_of_length_le (by omega)]
  have e2 : val a = val (a.take m) + 4294967296 ^ m * a[m] := by
    conv => lhs; rw [e]
    rw [val_snoc, List.length_take, Nat.min_eq_left (by omega)]
  have h3 := val_lt (dig_take hd m)
  rw [List.length_take, Nat.min_eq_left (by omega)] at h3
  rw [e2, base_pow]
  rw [base_pow] at h3
  exact bl_shift h3 h

/-! ### How two stand -/
theorem len_lt {m n : Nat} (h : (ofN m).length < (ofN n).length) : m < n := by
  rcases Nat.lt_or_ge m n with h1 | h1
  · exact h1
  · have h2 := (len_ofN m (ofN m).length).1 (Nat.le_refl _)
    have := (len_ofN n (ofN m).length).2 (by omega)
    omega
theorem val_split (a : List Nat) (k : Nat) (hk : k ≤ a.length) : val a = val (a.take k) + 4294967296 ^ k * val (a.drop k) := by
  have := val_append (a.take k) (a.drop k)
  rw [List.take_append_drop, List.length_take, Nat.min_eq_left hk] at this
  exact this
theorem val_lt_of {x y : List Nat} (hx : Dig x) (hy : Dig y) {k : Nat} (h1 : k < x.length) (h2 : k < y.length) (hd : x.drop (k + 1) = y.drop (k + 1)) (hlt : x[k] < y[k]) : val x < val y := by
  rw [val_split x k (by omega), val_split y k (by omega), List.drop_eq_getElem_cons h1, List.drop_eq_getElem_cons h2]
  simp only [val]
  rw [hd]
  have h3 := val_lt (dig_take hx k)
  rw [List.length_take, Nat.min_eq_left (by omega)] at h3
  generalize 4294967296 ^ k = P at *
  generalize val (y.drop (k + 1)) = D at *
  have : P * (x[k] + 4294967296 * D + 1) ≤ P * (y[k] + 4294967296 * D) := Nat.mul_le_mul_left _ (by omega)
  rw [Nat.mul_add _ _ 1] at this
  omega
theorem ofN_inj {m n : Nat} (h : ofN m = ofN n) : m = n := by rw [← val_ofN m, h, val_ofN]

theorem or_add {x y : Nat} (hy : y < 4294967296) : x * 4294967296 ||| y = x * 4294967296 + y := by
  have := Nat.shiftLeft_add_eq_or_of_lt (i := 32) (b := y) (by omega) x
  rw [Nat.shiftLeft_eq] at this
  exact this.symm

/-! ### Less -/
theorem sub_step {P A C c x y v : Nat} (hx : x < 4294967296) (hy : y < 4294967296) (hc : c ≤ 1) (hv : v + C = A + P * c) :
    v + P * ((x + 18446744073709551616 - y - c) % 4294967296) + (C + P * y) = A + P * x + P * 4294967296 * (if y + c ≤ x then 0 else 1) := by
  split
  · rename_i h
    have : (x + 18446744073709551616 - y - c) % 4294967296 = x - y - c := by omega
    rw [this]
    have : P * x = P * (x - y - c) + P * y + P * c := by rw [← Nat.mul_add, ← Nat.mul_add]; congr 1; omega
    omega
  · rename_i h
    have : (x + 18446744073709551616 - y - c) % 4294967296 = x + 4294967296 - y - c := by omega
    rw [this]
    have : P * x + P * 4294967296 = P * (x + 4294967296 - y - c) + P * y + P * c := by rw [← Nat.mul_add, ← Nat.mul_add, ← Nat.mul_add]; congr 1; omega
    omega

theorem ofN_shift (v m : Nat) (h : v ≠ 0) : List.replicate m 0 ++ ofN v = ofN (4294967296 ^ m * v) := by
  induction m with
  | zero => simp
  | succ m ih =>
    have hp : 4294967296 ^ m * v ≠ 0 := Nat.mul_ne_zero (Nat.pos_iff_ne_zero.1 (Nat.pow_pos (by decide))) h
    have e : 4294967296 ^ (m + 1) * v = 0 + 4294967296 * (4294967296 ^ m * v) := by rw [Nat.pow_succ]; simp [Nat.mul_comm, Nat.mul_left_comm]
    rw [e, ofN_cons (by decide) (by simp [hp]), List.replicate_succ, List.cons_append, ih]
end Go.Proofs.Nt
