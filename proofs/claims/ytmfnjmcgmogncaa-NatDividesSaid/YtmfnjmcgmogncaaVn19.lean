/- The naturals: Root. -/
import Derived.Test.YtmfnjmcgmogncaaVn17
set_option linter.unusedVariables false
set_option maxRecDepth 20000
set_option linter.unusedSimpArgs false
namespace Go.Proofs.Nt
open Go Go.Proofs Go.Proofs.Va

theorem ofN_add {m n k : Nat} (h1 : (ofN m).length ≤ k) (h2 : (ofN n).length ≤ k) : (ofN (m + n)).length ≤ k + 1 := by
  rw [len_ofN] at *
  rw [Nat.pow_succ]
  omega

/-- r is m's root. -/
def IsRoot (m r : Nat) : Prop := r * r ≤ m ∧ m < (r + 1) * (r + 1)
theorem IsRoot.unique {m r s : Nat} (h : IsRoot m r) (k : IsRoot m s) : r = s := by
  rcases Nat.lt_trichotomy r s with h1 | h1 | h1
  · have : (r + 1) * (r + 1) ≤ s * s := Nat.mul_le_mul h1 h1
    have := h.2; have := k.1; omega
  · exact h1
  · have : (s + 1) * (s + 1) ≤ r * r := Nat.mul_le_mul h1 h1
    have := k.2; have := h.1; omega

/-- Heron's step. -/
theorem heron_ge {m r : Nat} (hr : 0 < r) : m < ((r + m / r) / 2 + 1) * ((r + m / r) / 2 + 1) := by
  obtain ⟨q, hq⟩ : ∃ q, q = m / r := ⟨_, rfl⟩
  obtain ⟨s, hs⟩ : ∃ s, s = (r + q) / 2 := ⟨_, rfl⟩
  rw [← hq, ← hs]
  have h1 : m < r * (q + 1) := by
    have h2 := Nat.div_add_mod m r
    have h3 := Nat.mod_lt m hr
    rw [← hq] at h2
    rw [Nat.mul_add]; omega
  have h4 : r + (q + 1) ≤ 2 * (s + 1) := by omega
  have key : ∀ x y t : Nat, x + y ≤ 2 * t → x * y ≤ t * t := by
    intro x y t h
    rcases Nat.le_total x t with hx | hx
    · obtain ⟨d, rfl⟩ : ∃ d, t = x + d := ⟨t - x, by omega⟩
      have hy : y ≤ x + 2 * d := by omega
      calc x * y ≤ x * (x + 2 * d) := Nat.mul_le_mul_left _ hy
        _ ≤ (x + d) * (x + d) := by rw [Nat.add_mul, Nat.mul_add, Nat.mul_add, Nat.mul_add, Nat.mul_left_comm x 2, Nat.mul_comm d x]; omega
    · obtain ⟨d, rfl⟩ : ∃ d, x = t + d := ⟨x - t, by omega⟩
      have hy : y ≤ t - d := by omega
      calc (t + d) * y ≤ (t + d) * (t - d) := Nat.mul_le_mul_left _ hy
        _ ≤ t * t := by
          rcases Nat.le_total d t with hd | hd
          · obtain ⟨e, rfl⟩ : ∃ e, t = d + e := ⟨t - d, by omega⟩
            rw [show d + e - d = e by omega, Nat.add_mul, Nat.add_mul, Nat.add_mul, Nat.mul_add, Nat.mul_add, Nat.mul_comm e d]; omega
          · rw [Nat.sub_eq_zero_of_le hd]; simp
  exact Nat.lt_of_lt_of_le h1 (key _ _ _ h4)
theorem heron_stop {m r : Nat} (hr : 0 < r) (h : r ≤ (r + m / r) / 2) : r * r ≤ m := by
  have : r ≤ m / r := by omega
  exact (Nat.le_div_iff_mul_le hr).1 this

theorem root_start {m : Nat} (hm : m ≠ 0) : 0 < 2 ^ ((bl m + 1) / 2) ∧ m < (2 ^ ((bl m + 1) / 2) + 1) * (2 ^ ((bl m + 1) / 2) + 1) := by
  refine ⟨Nat.two_pow_pos _, ?_⟩
  have h1 := bl_high m
  have h2 : 2 ^ bl m ≤ 2 ^ ((bl m + 1) / 2) * 2 ^ ((bl m + 1) / 2) := by
    rw [← Nat.pow_add]; exact Nat.pow_le_pow_right (by decide) (by omega)
  generalize 2 ^ ((bl m + 1) / 2) = t at *
  rw [Nat.add_mul, Nat.mul_add]; omega

theorem root_ctr (nl : Bool) (a : List Nat) (cap : Option Nat) (ha : Dig a) (hl : a.length ≤ 3000) : Ctr Try.prog 37 [sl nl a cap] (fun r => ∃ s, IsRoot (val a) s ∧ Told (ofN s) r) := by
  refine ctr_in Try.func37 rfl (by kernel_rfl) rfl fun K hK => ?_
  simp [Try.f37]
  refine acall_by (len_ctr nl a cap ha (by omega)) (by simp [sl]) ?_
  rintro _ rfl
  by_cases hm : val a = 0
  · simp [hm, bl]
    exact hK _ _ _ (.same _ (by simp)) ⟨0, by rw [hm]; exact ⟨by decide, by decide⟩, by rw [ofN_zero]; exact told_nil⟩
  · have hbp := bl_pos hm
    have hbl : bl (val a) ≤ 32 * a.length := bl_le (by rw [← base_pow]; exact val_lt ha)
    have hb0 : ¬ bl (val a) = 0 := by omega
    simp [hb0]
    refine acall_by (from_ctr 1 (by decide)) (by simp) ?_
    rintro _ ⟨n1, c1, rfl⟩
    simp
    refine acall_by (len_ctr nl a cap ha (by omega)) (by simp [sl]) ?_
    rintro _ rfl
    obtain ⟨e, he⟩ : ∃ e, e = (bl (val a) + 1) / 2 := ⟨_, rfl⟩
    have hw : IntKind.i64.wrap (IntKind.i64.wrap ((bl (val a) : Int) + 1) / 2) = (e : Int) := by rw [w64 (_ + 1) (by omega) (by omega), w64 _ (by omega) (by omega)]; omega
    have hw1 : IntKind.i64.wrap ((bl (val a) : Int) + 1) = ((bl (val a) + 1 : Nat) : Int) := w64 _ (by omega) (by omega)
    have hw2 : IntKind.i64.wrap (((bl (val a) + 1 : Nat) : Int).tdiv 2) = (e : Int) := by
      rw [Int.tdiv_eq_ediv_of_nonneg (by omega), w64 _ (by omega) (by omega)]; omega
    simp
    rw [hw1, hw2]
    refine acall_by (shl_ctr n1 (ofN 1) c1 e (dig_ofN 1) (ofN_le (j := 1) (by decide) (by decide))) (by simp [sl]) ?_
    rintro _ ⟨n2, c2, rfl⟩
    rw [shlN, if_neg (by omega), Int.toNat_natCast, val_ofN, Nat.one_mul]
    obtain ⟨hs1, hs2⟩ := root_start hm
    rw [← he] at hs1 hs2
    have hsz : (ofN (2 ^ e)).length ≤ 1501 := ofN_le (j := e / 32 + 1) (by rw [base_pow]; exact Nat.pow_lt_pow_right (by decide) (by omega)) (by omega)
    simp
    refine loop_on (γ := Nat × Bool × Option Nat) 38 (fun g => [(0, sl nl a cap), (3, sl g.2.1 (ofN g.1) g.2.2)]) (fun _ => []) (fun g => 0 < g.1 ∧ val a < (g.1 + 1) * (g.1 + 1) ∧ (ofN g.1).length ≤ 1501) (fun g => g.1)
      (2 ^ e, n2, c2) ⟨hs1, hs2, hsz⟩ (Wk.lst (by simp [sl]) (by simp)) ?_
    rintro ⟨r, n3, c3⟩ ⟨hr0, hr1, hr2⟩ L hL
    simp only at hr0 hr1 hr2
    have hrl : (ofN r).length ≤ 1501 := hr2
    simp
    refine acall_by (div_ctr nl n3 a (ofN r) cap c3 ha (dig_ofN r) (by omega) (by omega)) (by simp [sl]) ?_
    intro y hy
    rw [divPost, val_ofN, if_neg (by omega)] at hy
    obtain ⟨n4, c4, n5, c5, rfl⟩ := hy
    simp
    have hql : (ofN (val a / r)).length ≤ 3000 := by
      exact ofN_le (Nat.lt_of_le_of_lt (Nat.div_le_self _ _) (val_lt ha)) hl
    refine acall_by (add_ctr n3 n4 (ofN r) (ofN (val a / r)) c3 c4 (dig_ofN _) (dig_ofN _) (by omega) (by omega)) (by simp [sl]) ?_
    rintro _ ⟨n6, c6, rfl⟩
    rw [val_ofN, val_ofN]
    have hsl : (ofN (r + val a / r)).length ≤ 3001 := by
      exact ofN_add (k := 3000) (by omega) hql
    simp
    refine acall_by (shr_ctr n6 (ofN (r + val a / r)) c6 1 (dig_ofN _) (by omega)) (by simp [sl]) ?_
    intro y hy
    rw [shrPost, if_neg (by decide), val_ofN] at hy
    obtain ⟨n7, c7, rfl⟩ := hy
    have e1 : (r + val a / r) / 2 ^ (1 : Int).toNat = (r + val a / r) / 2 := rfl
    rw [e1]
    obtain ⟨s, hs⟩ : ∃ s, s = (r + val a / r) / 2 := ⟨_, rfl⟩
    rw [← hs]
    have hsn : (ofN s).length ≤ 3001 := by
      rw [len_ofN] at hsl ⊢
      omega
    simp
    refine acall_by (cmp_ctr n7 n3 (ofN s) (ofN r) c7 c3 (dig_ofN _) (dig_ofN _) (by omega) (by omega)) (by simp [sl]) ?_
    rintro _ rfl
    rw [val_ofN, val_ofN, cmp3_nat]
    by_cases hle : r ≤ s
    · have e2 : (0 : Int) ≤ (if s < r then -1 else if r < s then 1 else 0) := by rw [if_neg (by omega)]; split <;> omega
      simp [e2]
      exact hK _ _ _ (.same _ (by simp [sl])) ⟨r, ⟨heron_stop hr0 (by omega), hr1⟩, ⟨_, _, rfl⟩⟩
    · have e2 : ¬ (0 : Int) ≤ (if s < r then -1 else if r < s then 1 else 0) := by rw [if_pos (by omega)]; decide
      simp [e2]
      refine hL (s, n7, c7) _ _ ⟨?_, by show val a < (s + 1) * (s + 1); rw [hs]; exact heron_ge hr0, ofN_low (Nat.le_of_lt (Nat.lt_of_not_le hle)) hr2⟩ (Wk.lst (by simp [sl]) (by simp)) (by show s < r; omega)
      show 0 < s
      have h7 := heron_ge (m := val a) hr0
      rw [← hs] at h7
      rcases Nat.eq_zero_or_pos s with h8 | h8
      · rw [h8] at h7; omega
      · exact h8
end Go.Proofs.Nt
