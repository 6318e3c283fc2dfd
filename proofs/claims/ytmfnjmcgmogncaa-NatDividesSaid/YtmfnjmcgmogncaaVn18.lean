/- The naturals: the document's Div. -/
import Derived.Test.YtmfnjmcgmogncaaVn19
set_option linter.unusedVariables false
set_option maxRecDepth 20000
set_option linter.unusedSimpArgs false
namespace Go.Proofs.Nt
open Go Go.Proofs Go.Proofs.Va

theorem bit_at {a : List Nat} (ha : Dig a) (p : Nat) : at' a (p / 32) / 2 ^ (p % 32) % 2 = val a / 2 ^ p % 2 := by
  rw [shr_fin ha, val_drop_one]
  have h := pow_rest (p % 32) (by omega)
  obtain ⟨E, hE⟩ : ∃ E, 2 ^ (32 - p % 32) = 2 * E := ⟨2 ^ (31 - p % 32), by rw [← Nat.pow_succ']; congr 1; omega⟩
  rw [← h, hE, Nat.mul_assoc, Nat.add_mul_div_left _ _ (Nat.two_pow_pos _), Nat.mul_assoc 2]
  omega
theorem half_step (V j : Nat) : V / 2 ^ j = 2 * (V / 2 ^ (j + 1)) + V / 2 ^ j % 2 := by
  have : V / 2 ^ (j + 1) = V / 2 ^ j / 2 := by rw [Nat.pow_succ, Nat.div_div_eq_div_mul]
  rw [this]; omega
theorem bit_step {A n c : Nat} (hn : 0 < n) (hc : c ≤ 1) : (2 * A + c) / n = (if 2 * (A % n) + c < n then 2 * (A / n) else 2 * (A / n) + 1) ∧ (2 * A + c) % n = (if 2 * (A % n) + c < n then 2 * (A % n) + c else 2 * (A % n) + c - n) := by
  have h := Nat.mod_add_div A n
  have hm := Nat.mod_lt A hn
  have e : 2 * A + c = (2 * (A % n) + c) + n * (2 * (A / n)) := by
    conv => lhs; rw [← h]
    rw [Nat.mul_add, Nat.mul_left_comm n]; omega
  split
  · rename_i hlt
    rw [e, Nat.add_mul_div_left _ _ hn, Nat.add_mul_mod_self_left, Nat.div_eq_of_lt hlt, Nat.mod_eq_of_lt hlt, Nat.zero_add]
    exact ⟨rfl, rfl⟩
  · rename_i hlt
    have e2 : 2 * (A % n) + c = (2 * (A % n) + c - n) + n * 1 := by omega
    have h3 : 2 * (A % n) + c - n < n := by omega
    rw [e, Nat.add_mul_div_left _ _ hn, Nat.add_mul_mod_self_left]
    constructor
    · rw [e2, Nat.add_mul_div_left _ _ hn, Nat.div_eq_of_lt h3]; omega
    · rw [e2, Nat.add_mul_mod_self_left, Nat.mod_eq_of_lt h3]; omega

theorem len_of_lt {m : Nat} {k : Nat} {l : List Nat} (hd : Dig l) (h : m ≤ val l) (hl : l.length ≤ k) : (ofN m).length ≤ k := by
  exact ofN_le (Nat.lt_of_le_of_lt h (val_lt hd)) hl

theorem shl_one (m : Nat) : shlN m 1 = ofN (m * 2) := by rw [shlN, if_neg (by decide)]; rfl

theorem rdiv_ctr (nl nl' : Bool) (a b : List Nat) (cap cap' : Option Nat) (ha : Dig a) (hb : Dig b) (hl : a.length ≤ 20000) (hl' : b.length ≤ 20000) : Ctr Try.prog 36 [sl nl a cap, sl nl' b cap'] (divPost (val a) (val b)) := by
  refine ctr_in Try.func36 rfl (by kernel_rfl) rfl fun K hK => ?_
  simp [Try.f36]
  refine acall_by (rtrim_ctr nl' b cap' (by omega)) (by simp [sl]) ?_
  rintro _ ⟨n1, c1, rfl⟩
  rw [trim_ofN hb]
  by_cases hb0 : ofN (val b) = []
  · have hv0 := ofN_nil.1 hb0
    simp [sl, hb0]
    exact hK _ _ _ (.same _ (pu_tup (by simp))) (by rw [divPost, if_pos hv0]; rfl)
  · have hv0 : val b ≠ 0 := fun h => hb0 (ofN_nil.2 h)
    have hn0 : 0 < val b := by omega
    simp [sl, hb0]
    refine acall_by (rlen_ctr nl a cap ha (by omega)) (by simp [sl]) ?_
    rintro _ rfl
    have hbl : bl (val a) ≤ 32 * a.length := bl_le (by rw [← base_pow]; exact val_lt ha)
    have hw : IntKind.i64.wrap ((bl (val a) : Int) - 1) = (bl (val a) : Int) - 1 := w64 _ (by omega) (by omega)
    simp [hw]
    refine loop_on (γ := Nat × Bool × Option Nat × Bool × Option Nat) 55 (fun g => [(0, sl nl a cap), (1, sl nl' b cap'), (7, sl g.2.1 (ofN (val a / 2 ^ g.1 / val b)) g.2.2.1), (8, sl g.2.2.2.1 (ofN (val a / 2 ^ g.1 % val b)) g.2.2.2.2), (9, i ((g.1 : Int) - 1))]) (fun _ => [])
      (fun g => g.1 ≤ bl (val a)) (fun g => g.1)
      (bl (val a), true, some 0, true, some 0) (Nat.le_refl _) (Wk.lst (by simp [sl, Nat.div_eq_of_lt (bl_high (val a)), ofN_zero]) (by simp)) ?_
    rintro ⟨j, n2, c2, n3, c3⟩ hj L hL
    simp only at hj
    rcases Nat.eq_zero_or_pos j with h0 | h0
    · subst h0
      simp
      refine acall_by (rtrim_ctr n2 _ c2 (len_of_lt ha (Nat.div_le_self _ _) (by omega))) (by simp [sl]) ?_
      rintro _ ⟨n4, c4, rfl⟩
      simp
      refine acall_by (rtrim_ctr n3 _ c3 (len_of_lt ha (Nat.mod_le _ _) (by omega))) (by simp [sl]) ?_
      rintro _ ⟨n5, c5, rfl⟩
      rw [trim_ofN_self, trim_ofN_self]
      simp
      exact hK _ _ _ (.same _ (pu_tup (by simp [sl]))) (by rw [divPost, if_neg hv0]; exact ⟨_, _, _, _, rfl⟩)
    · obtain ⟨p, hp⟩ : ∃ p, j = p + 1 := ⟨j - 1, by omega⟩
      subst hp
      obtain ⟨A, hA⟩ : ∃ A, A = val a / 2 ^ (p + 1) := ⟨_, rfl⟩
      have hAa : A ≤ val a := by rw [hA]; exact Nat.div_le_self _ _
      rw [← hA]
      have hhs := half_step (val a) p
      rw [← hA] at hhs
      have hbit := bit_at ha p
      have hpl : p / 32 < a.length := by omega
      have hat : at' a (p / 32) = a[p / 32] := by simp [at', hpl]
      rw [hat] at hbit
      obtain ⟨c, hc⟩ : ∃ c, c = val a / 2 ^ p % 2 := ⟨_, rfl⟩
      rw [← hc] at hhs hbit
      have hc1 : c ≤ 1 := by omega
      obtain ⟨st1, st2⟩ := bit_step (A := A) hn0 hc1
      rw [← hhs] at st1 st2
      have hAb : A % val b < val b := Nat.mod_lt _ hn0
      have hrl : (ofN (A % val b)).length ≤ 20000 := len_of_lt hb (by omega) hl'
      have hql : (ofN (A / val b)).length ≤ 20000 := len_of_lt ha (Nat.le_trans (Nat.div_le_self _ _) hAa) hl
      have e1 : ((p + 1 : Nat) : Int) - 1 = (p : Int) := by omega
      rw [e1]
      simp
      refine acall_by (rshl_ctr n3 _ c3 1 (dig_ofN _) (by omega)) (by simp [sl]) ?_
      rintro _ ⟨n4, c4, rfl⟩
      rw [shl_one, val_ofN]
      simp
      refine acall_by (rshl_ctr n2 _ c2 1 (dig_ofN _) (by omega)) (by simp [sl]) ?_
      rintro _ ⟨n5, c5, rfl⟩
      rw [shl_one, val_ofN]
      have hq : IntKind.i64.wrap ((p : Int) / 32) = ((p / 32 : Nat) : Int) := by rw [w64 _ (by omega) (by omega)]; omega
      obtain ⟨P, hP⟩ : ∃ P, P = p / 32 := ⟨_, rfl⟩
      rw [← hP] at hq
      simp only [← hP] at hpl hbit
      have hs : min (p % 32) 32 = p % 32 := by omega
      have hcc : (((a[P] : Nat) : Int).fdiv (2 ^ (p % 32))).tmod 2 = (c : Int) := by
        have h2 : (0 : Int) ≤ 2 ^ (p % 32) := Int.le_of_lt (Int.pow_pos (by decide))
        rw [← hbit, Int.fdiv_eq_ediv_of_nonneg _ h2, Int.tmod_eq_emod_of_nonneg (Int.ediv_nonneg (by omega) h2), Int.natCast_emod, Int.natCast_ediv, Int.natCast_pow]
        rfl
      have hwp : IntKind.i64.wrap ((p : Int) - 1) = (p : Int) - 1 := w64 _ (by omega) (by omega)
      have hbv : (ofN (val b)).length ≤ 20000 := len_of_lt hb (Nat.le_refl _) hl'
      have hav : (ofN (val a)).length ≤ 20000 := len_of_lt ha (Nat.le_refl _) hl
      have hqa : A / val b ≤ val a := Nat.le_trans (Nat.div_le_self _ _) hAa
      have hq2l : (ofN (A / val b * 2)).length ≤ 20001 := ofN_low (n := val a + val a) (by omega) (ofN_add hav hav)
      have hr2l : (ofN (A % val b * 2)).length ≤ 20001 := ofN_low (n := val b + val b) (by omega) (ofN_add hbv hbv)
      rcases (by omega : c = 0 ∨ c = 1) with rfl | rfl
      · simp [sl, hq, hpl, hs, hcc]
        have hZl : (ofN (A % val b * 2)).length ≤ 20001 := ofN_low (n := val b + val b) (by omega) (ofN_add hbv hbv)
        refine acall_by (rsub_ctr n4 nl' _ b c4 cap' (dig_ofN (A % val b * 2)) hb (by omega) (by omega)) (by simp [sl]) ?_
        intro y hy
        rw [subPost, val_ofN] at hy
        by_cases hlt : A % val b * 2 < val b
        · rw [if_pos hlt] at hy
          subst hy
          have q1 : val a / 2 ^ p / val b = A / val b * 2 := by rw [st1, if_pos (by omega)]; omega
          have q2 : val a / 2 ^ p % val b = A % val b * 2 := by rw [st2, if_pos (by omega)]; omega
          simp [hwp]
          exact hL (p, n5, c5, n4, c4) _ _ (by show p ≤ _; omega) (Wk.lst (by simp [sl, q1, q2]) (by simp)) (by show p < p + 1; omega)
        · rw [if_neg hlt] at hy
          obtain ⟨n7, c7, rfl⟩ := hy
          have q1 : val a / 2 ^ p / val b = A / val b * 2 + 1 := by rw [st1, if_neg (by omega)]; omega
          have q2 : val a / 2 ^ p % val b = A % val b * 2 - val b := by rw [st2, if_neg (by omega)]; omega
          simp
          refine acall_by (rfrom_ctr 1 (by decide)) (by simp) ?_
          rintro _ ⟨n8, c8, rfl⟩
          simp
          refine acall_by (radd_ctr n5 n8 _ _ c5 c8 (dig_ofN (A / val b * 2)) (dig_ofN 1) (by omega) (ofN_le (j := 1) (by decide) (by decide))) (by simp [sl]) ?_
          rintro _ ⟨n9, c9, rfl⟩
          rw [val_ofN, val_ofN]
          simp [hwp]
          exact hL (p, n9, c9, n7, c7) _ _ (by show p ≤ _; omega) (Wk.lst (by simp [sl, q1, q2]) (by simp)) (by show p < p + 1; omega)
      · simp [sl, hq, hpl, hs, hcc]
        refine acall_by (rfrom_ctr 1 (by decide)) (by simp) ?_
        rintro _ ⟨n10, c10, rfl⟩
        simp
        refine acall_by (radd_ctr n4 n10 _ _ c4 c10 (dig_ofN (A % val b * 2)) (dig_ofN 1) (by omega) (ofN_le (j := 1) (by decide) (by decide))) (by simp [sl]) ?_
        rintro _ ⟨n6, c6, rfl⟩
        rw [val_ofN, val_ofN]
        simp
        have hZl : (ofN (A % val b * 2 + 1)).length ≤ 20001 := ofN_low (n := val b + val b) (by omega) (ofN_add hbv hbv)
        refine acall_by (rsub_ctr n6 nl' _ b c6 cap' (dig_ofN (A % val b * 2 + 1)) hb (by omega) (by omega)) (by simp [sl]) ?_
        intro y hy
        rw [subPost, val_ofN] at hy
        by_cases hlt : A % val b * 2 + 1 < val b
        · rw [if_pos hlt] at hy
          subst hy
          have q1 : val a / 2 ^ p / val b = A / val b * 2 := by rw [st1, if_pos (by omega)]; omega
          have q2 : val a / 2 ^ p % val b = A % val b * 2 + 1 := by rw [st2, if_pos (by omega)]; omega
          simp [hwp]
          exact hL (p, n5, c5, n6, c6) _ _ (by show p ≤ _; omega) (Wk.lst (by simp [sl, q1, q2]) (by simp)) (by show p < p + 1; omega)
        · rw [if_neg hlt] at hy
          obtain ⟨n7, c7, rfl⟩ := hy
          have q1 : val a / 2 ^ p / val b = A / val b * 2 + 1 := by rw [st1, if_neg (by omega)]; omega
          have q2 : val a / 2 ^ p % val b = A % val b * 2 + 1 - val b := by rw [st2, if_neg (by omega)]; omega
          simp
          refine acall_by (rfrom_ctr 1 (by decide)) (by simp) ?_
          rintro _ ⟨n8, c8, rfl⟩
          simp
          refine acall_by (radd_ctr n5 n8 _ _ c5 c8 (dig_ofN (A / val b * 2)) (dig_ofN 1) (by omega) (ofN_le (j := 1) (by decide) (by decide))) (by simp [sl]) ?_
          rintro _ ⟨n9, c9, rfl⟩
          rw [val_ofN, val_ofN]
          simp [hwp]
          exact hL (p, n9, c9, n7, c7) _ _ (by show p ≤ _; omega) (Wk.lst (by simp [sl, q1, q2]) (by simp)) (by show p < p + 1; omega)
end Go.Proofs.Nt
