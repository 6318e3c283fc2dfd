/- Digits and their number: plain mathematics. -/
import Derived.Test.YtmfnjmcgmogncaaVn2
set_option linter.unusedVariables false
set_option linter.unusedSimpArgs false
namespace Go.Proofs.Nt

def val : List Nat → Nat
  | [] => 0
  | x :: a => x + 4294967296 * val a

/-- Without zeros at the end. -/
def trimL : List Nat → List Nat
  | [] => []
  | x :: a => if trimL a = [] ∧ x = 0 then [] else x :: trimL a

/-- A number's digits. -/
def ofN (n : Nat) : List Nat := if h : n = 0 then [] else n % 4294967296 :: ofN (n / 4294967296)
termination_by n
decreasing_by exact Nat.div_lt_self (by omega) (by decide)

theorem ofN_zero : ofN 0 = [] := by rw [ofN]; simp
theorem ofN_pos {n : Nat} (h : n ≠ 0) : ofN n = n % 4294967296 :: ofN (n / 4294967296) := by rw [ofN]; simp [h]
theorem ofN_nil {n : Nat} : ofN n = [] ↔ n = 0 := by
  constructor
  · intro h
    by_cases hn : n = 0
    · exact hn
    · rw [ofN_pos hn] at h; cases h
  · rintro rfl; exact ofN_zero

theorem ofN_cons {x v : Nat} (hx : x < 4294967296) (h : ¬ (v = 0 ∧ x = 0)) : ofN (x + 4294967296 * v) = x :: ofN v := by
  have hne : x + 4294967296 * v ≠ 0 := by omega
  rw [ofN_pos hne]
  have h1 : (x + 4294967296 * v) % 4294967296 = x := by omega
  have h2 : (x + 4294967296 * v) / 4294967296 = v := by omega
  rw [h1, h2]

theorem trim_ofN {a : List Nat} (h : Dig a) : trimL a = ofN (val a) := by
  induction a with
  | nil => simp [trimL, val, ofN_zero]
  | cons x a ih =>
    have ih := ih (fun y hy => h y (by simp [hy]))
    have hx := h x (by simp)
    simp only [trimL, val]
    rw [ih]
    by_cases hz : val a = 0 ∧ x = 0
    · rw [if_pos ⟨ofN_nil.2 hz.1, hz.2⟩, hz.1, hz.2]; simp [ofN_zero]
    · rw [if_neg (fun hh => hz ⟨ofN_nil.1 hh.1, hh.2⟩), ofN_cons hx hz]

theorem val_ofN (n : Nat) : val (ofN n) = n := by
  induction n using Nat.strongRecOn with
  | _ n ih =>
    by_cases h : n = 0
    · subst h; simp [ofN_zero, val]
    · rw [ofN_pos h, val, ih (n / 4294967296) (Nat.div_lt_self (by omega) (by decide))]; omega

theorem dig_ofN (n : Nat) : Dig (ofN n) := by
  induction n using Nat.strongRecOn with
  | _ n ih =>
    by_cases h : n = 0
    · subst h; simp [ofN_zero, Dig]
    · rw [ofN_pos h]
      intro x hx
      rcases List.mem_cons.1 hx with rfl | hx
      · exact Nat.mod_lt _ (by decide)
      · exact ih _ (Nat.div_lt_self (by omega) (by decide)) x hx

theorem len_ofN (n k : Nat) : (ofN n).length ≤ k ↔ n < 4294967296 ^ k := by
  induction k generalizing n with
  | zero =>
    rw [Nat.pow_zero, Nat.lt_one_iff, Nat.le_zero, List.length_eq_zero_iff]
    exact ofN_nil
  | succ k ih =>
    by_cases h : n = 0
    · subst h; simp only [ofN_zero, List.length_nil, Nat.zero_le, true_iff]; exact Nat.pow_pos (by decide)
    · rw [ofN_pos h, List.length_cons, Nat.succ_le_succ_iff, ih, Nat.pow_succ]
      constructor
      · intro h; have := Nat.div_lt_iff_lt_mul (x := n) (y := 4294967296 ^ k) (k := 4294967296) (by decide); exact this.1 h
      · intro h; exact (Nat.div_lt_iff_lt_mul (by decide)).2 h

theorem ofN_low {m n k : Nat} (h : m ≤ n) (hk : (ofN n).length ≤ k) : (ofN m).length ≤ k := (len_ofN m k).2 (Nat.lt_of_le_of_lt h ((len_ofN n k).1 hk))
theorem ofN_le {n j k : Nat} (h : n < 4294967296 ^ j) (hk : j ≤ k) : (ofN n).length ≤ k := Nat.le_trans ((len_ofN n j).2 h) hk

theorem val_lt {a : List Nat} (h : Dig a) : val a < 4294967296 ^ a.length := by
  induction a with
  | nil => simp [val]
  | cons x a ih =>
    have ih := ih (fun y hy => h y (by simp [hy]))
    have hx := h x (by simp)
    rw [val, List.length_cons, Nat.pow_succ]
    omega

theorem trim_len (a : List Nat) : (trimL a).length ≤ a.length := by
  induction a with
  | nil => simp [trimL]
  | cons x a ih =>
    simp only [trimL]
    split
    · simp
    · simp; exact ih

theorem trim_zeros {a : List Nat} (h : ∀ k (hk : k < a.length), a[k] = 0) : trimL a = [] := by
  induction a with
  | nil => rfl
  | cons x a ih =>
    have h0 := h 0 (by simp)
    have ih := ih (fun k hk => by have := h (k + 1) (by simpa using hk); simpa using this)
    simp only [trimL]
    rw [if_pos ⟨ih, by simpa using h0⟩]

theorem trim_take {a : List Nat} {k : Nat} (hk : k < a.length) (hx : a[k] ≠ 0) (h : ∀ j (hj : j < a.length), k < j → a[j] = 0) : trimL a = a.take (k + 1) := by
  induction a generalizing k with
  | nil => simp at hk
  | cons x a ih =>
    simp only [trimL]
    cases k with
    | zero =>
      have hz : trimL a = [] := trim_zeros fun j hj => by have := h (j + 1) (by simpa using hj) (by omega); simpa using this
      rw [hz, if_neg (by simpa using hx)]; simp
    | succ k =>
      have ih := ih (k := k) (by simpa using hk) (by simpa using hx) (fun j hj hkj => by have := h (j + 1) (by simpa using hj) (by omega); simpa using this)
      have hne : trimL a ≠ [] := by
        rw [ih]; intro hh
        rw [List.take_eq_nil_iff] at hh
        rcases hh with hh | hh
        · omega
        · rw [hh] at hk; simp at hk
      rw [if_neg (fun hh => hne hh.1), ih]; simp

theorem val_append (a b : List Nat) : val (a ++ b) = val a + 4294967296 ^ a.length * val b := by
  induction a with
  | nil => simp [val]
  | cons x a ih =>
    simp only [List.cons_append, val, ih, List.length_cons, Nat.pow_succ, Nat.mul_add]
    rw [Nat.add_assoc]
    congr 2
    rw [← Nat.mul_assoc, Nat.mul_comm 4294967296]

theorem dig_append {a b : List Nat} (ha : Dig a) (hb : Dig b) : Dig (a ++ b) := fun x hx => (List.mem_append.1 hx).elim (ha x) (hb x)
theorem dig_nil : Dig [] := fun x hx => by simp at hx
theorem dig_take {a : List Nat} (h : Dig a) (k : Nat) : Dig (a.take k) := fun x hx => h x (List.mem_of_mem_take hx)
theorem val_trim {a : List Nat} (h : Dig a) : val (trimL a) = val a := by rw [trim_ofN h, val_ofN]
theorem dig_trim {a : List Nat} (h : Dig a) : Dig (trimL a) := by rw [trim_ofN h]; exact dig_ofN _
theorem dig_one (x : Nat) : Dig [x % 4294967296] := fun y hy => by
  rw [List.mem_singleton] at hy; subst hy; exact Nat.mod_lt _ (by decide)
theorem trim_ofN_self (n : Nat) : trimL (ofN n) = ofN n := by rw [trim_ofN (dig_ofN n), val_ofN]
end Go.Proofs.Nt
