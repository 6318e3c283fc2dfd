/- The naturals: the document's Root; the law NatDivides. -/
import Derived.Test.YtmfnjmcgmogncaaVn23
import Derived.Test.YtmfnjmcgmogncaaVn18
set_option linter.unusedVariables false
set_option maxRecDepth 20000
set_option linter.unusedSimpArgs false
namespace Go.Proofs.Nt
open Go Go.Proofs Go.Proofs.Va Go.RowKit

theorem rroot_ctr (nl : Bool) (a : List Nat) (cap : Option Nat) (ha : Dig a) (hl : a.length ≤ 3000) : Ctr Try.prog 38 [sl nl a cap] (fun r => ∃ s, IsRoot (val a) s ∧ Told (ofN s) r) := by
  refine ctr_in Try.func38 rfl (by kernel_rfl) rfl fun K hK => ?_
  simp [Try.f38]
  refine acall_by (rlen_ctr nl a cap ha (by omega)) (by simp [sl]) ?_
  rintro _ rfl
  have hbl : bl (val a) ≤ 32 * a.length := bl_le (by rw [← base_pow]; exact val_lt ha)
  have hbh := bl_high (val a)
  obtain ⟨e, he⟩ : ∃ e, e = bl (val a) / 2 := ⟨_, rfl⟩
  have hw : IntKind.i64.wrap (((bl (val a) : Nat) : Int).tdiv 2) = (e : Int) := by
    rw [Int.tdiv_eq_ediv_of_nonneg (by omega), w64 _ (by omega) (by omega)]; omega
  have hoa := ofN_val_le ha hl
  have hst : val a < (0 + 2 ^ (e + 1)) * (0 + 2 ^ (e + 1)) := by
    rw [Nat.zero_add, ← Nat.pow_add]
    exact Nat.lt_of_lt_of_le hbh (Nat.pow_le_pow_right (by decide) (by omega))
  have hw2 : IntKind.i64.wrap ((bl (val a) : Int) / 2) = (e : Int) := by rw [w64 _ (by omega) (by omega)]; omega
  simp [hw, hw2]
  refine loop_on (γ := Nat × Nat × Bool × Option Nat) 27 (fun g => [(0, sl nl a cap), (3, sl g.2.2.1 (ofN g.2.1) g.2.2.2), (4, i ((g.1 : Int) - 1))]) (fun _ => [])
    (fun g => g.1 ≤ e + 1 ∧ g.2.1 * g.2.1 ≤ val a ∧ val a < (g.2.1 + 2 ^ g.1) * (g.2.1 + 2 ^ g.1)) (fun g => g.1)
    (e + 1, 0, true, some 0) ⟨Nat.le_refl _, by simp, hst⟩ (Wk.lst (by simp [sl, ofN_zero]) (by simp)) ?_
  rintro ⟨j, r, n1, c1⟩ ⟨hj, hr1, hr2⟩ L hL
  simp only at hj hr1 hr2
  have hrm : r ≤ val a := Nat.le_trans (Nat.le_mul_self r) hr1
  have hrl : (ofN r).length ≤ 3000 := ofN_low hrm hoa
  rcases Nat.eq_zero_or_pos j with h0 | h0
  · subst h0
    simp
    refine acall_by (rtrim_ctr n1 _ c1 (by omega)) (by simp [sl]) ?_
    rintro _ ⟨n2, c2, rfl⟩
    rw [trim_ofN_self]
    simp
    exact hK _ _ _ (.same _ (by simp [sl])) ⟨r, ⟨hr1, by simpa using hr2⟩, ⟨_, _, rfl⟩⟩
  · obtain ⟨p, hp⟩ : ∃ p, j = p + 1 := ⟨j - 1, by omega⟩
    subst hp
    have e1 : ((p + 1 : Nat) : Int) - 1 = (p : Int) := by omega
    have hwp : IntKind.i64.wrap ((p : Int) - 1) = (p : Int) - 1 := w64 _ (by omega) (by omega)
    have hpl : (ofN (2 ^ p)).length ≤ 1501 := ofN_le (j := p / 32 + 1) (by rw [base_pow]; exact Nat.pow_lt_pow_right (by decide) (by omega)) (by omega)
    rw [e1]
    simp
    refine acall_by (rfrom_ctr 1 (by decide)) (by simp) ?_
    rintro _ ⟨n2, c2, rfl⟩
    simp
    refine acall_by (rshl_ctr n2 (ofN 1) c2 p (dig_ofN 1) (lz _ (by decide) _ (by decide))) (by simp [sl]) ?_
    rintro _ ⟨n3, c3, rfl⟩
    rw [shlN, if_neg (by omega), Int.toNat_natCast, val_ofN, Nat.one_mul]
    simp
    refine acall_by (radd_ctr n1 n3 _ _ c1 c3 (dig_ofN r) (dig_ofN (2 ^ p)) (by omega) (by omega)) (by simp [sl]) ?_
    rintro _ ⟨n4, c4, rfl⟩
    rw [val_ofN, val_ofN]
    have htl := ofN_add (k := 3000) hrl (Nat.le_trans hpl (by decide))
    obtain ⟨t, ht⟩ : ∃ t, t = r + 2 ^ p := ⟨_, rfl⟩
    rw [← ht] at htl ⊢
    simp
    refine acall_by (rmul_ctr n4 n4 _ _ c4 c4 (dig_ofN t) (dig_ofN t) (by omega) (by omega)) (by simp [sl]) ?_
    rintro _ ⟨n5, c5, rfl⟩
    rw [val_ofN]
    have htt := ofN_mul htl htl
    simp
    refine acall_by (rcmp_ctr n5 nl _ a c5 cap (dig_ofN (t * t)) ha (by omega) (by omega)) (by simp [sl]) ?_
    rintro _ rfl
    rw [val_ofN]
    by_cases hle : t * t ≤ val a
    · obtain ⟨z, hz, hz0⟩ := cmp_le hle
      rw [hz]
      simp [hz0, hwp]
      refine hL (p, t, n4, c4) _ _ ⟨by show p ≤ _; omega, hle, ?_⟩ (Wk.lst (by simp [sl]) (by simp)) (by show p < p + 1; omega)
      show val a < (t + 2 ^ p) * (t + 2 ^ p)
      have : t + 2 ^ p = r + 2 ^ (p + 1) := by rw [ht, Nat.pow_succ]; omega
      rw [this]; exact hr2
    · rw [cmp_gt (by omega)]
      simp [hwp]
      refine hL (p, r, n1, c1) _ _ ⟨by show p ≤ _; omega, hr1, ?_⟩ (Wk.lst (by simp [sl]) (by simp)) (by show p < p + 1; omega)
      show val a < (r + 2 ^ p) * (r + 2 ^ p)
      rw [← ht]; omega

theorem div_form {m n : Nat} {r : AV} (h : divPost m n r) : ∃ n1 c1 n2 c2, r = .tup [sl n1 (ofN (if n = 0 then 0 else m / n)) c1, sl n2 (ofN (if n = 0 then 0 else m % n)) c2, bo (!decide (n = 0))] := by
  rw [divPost] at h
  split at h
  · rename_i h1
    exact ⟨true, some 0, true, some 0, by rw [h, if_pos h1, if_pos h1, ofN_zero, decide_eq_true h1]; simp [sl]⟩
  · rename_i h1
    obtain ⟨n1, c1, n2, c2, h⟩ := h
    exact ⟨n1, c1, n2, c2, by rw [h, if_neg h1, if_neg h1, decide_eq_false h1]; rfl⟩

theorem divides_ctr (nl nl' : Bool) (a b : List Nat) (cap cap' : Option Nat) (ha : Dig a) (hb : Dig b) : Ctr Try.prog 5 [sl nl a cap, sl nl' b cap'] (fun r => r = bo true) := by
  refine ctr_in Try.func5 rfl (by kernel_rfl) rfl fun K hK => ?_
  simp only [Try.f5, List.append_eq, List.cons_append, List.nil_append]
  have stop : ∀ σ, K (bo true) σ := fun σ => hK _ _ _ (.same _ (by simp)) rfl
  by_cases h1 : (12 : Int) < a.length
  · simp [aLen_sl, h1]
    refine acall_by live_ctr (by simp) ?_
    rintro _ rfl
    simp
    exact stop _
  by_cases h2 : (12 : Int) < b.length
  · simp [aLen_sl, h1, h2]
    refine acall_by live_ctr (by simp) ?_
    rintro _ rfl
    simp
    exact stop _
  have hla : a.length ≤ 12 := by omega
  have hlb : b.length ≤ 12 := by omega
  have oa := ofN_val_le ha hla
  simp [aLen_sl, h1, h2]
  refine acall_by (div_ctr nl nl' a b cap cap' ha hb (by omega) (by omega)) (by simp [sl]) ?_
  intro y hy
  obtain ⟨n1, c1, n2, c2, rfl⟩ := div_form hy
  simp only
  generalize hq : (if val b = 0 then 0 else val a / val b) = q
  generalize hm : (if val b = 0 then 0 else val a % val b) = m
  generalize hth : (!decide (val b = 0)) = t
  have hql : (ofN q).length ≤ 12 := ofN_low (by rw [← hq]; split <;> first | omega | exact Nat.div_le_self _ _) oa
  have hml : (ofN m).length ≤ 12 := ofN_low (by rw [← hm]; split <;> first | omega | exact Nat.mod_le _ _) oa
  simp
  refine acall_by (rdiv_ctr nl nl' a b cap cap' ha hb (by omega) (by omega)) (by simp [sl]) ?_
  intro y hy
  obtain ⟨n3, c3, n4, c4, rfl⟩ := div_form hy
  rw [hq, hm, hth]
  simp
  refine acall_by (same_ctr n1 n3 _ _ c1 c3 (by omega) (by omega)) (by simp [sl]) ?_
  rintro _ rfl
  simp
  refine acall_by (same_ctr n2 n4 _ _ c2 c4 (by omega) (by omega)) (by simp [sl]) ?_
  rintro _ rfl
  simp
  refine acall_by (root_ctr nl a cap ha (by omega)) (by simp [sl]) ?_
  rintro _ ⟨s, hs, n5, c5, rfl⟩
  simp
  refine acall_by (rroot_ctr nl a cap ha (by omega)) (by simp [sl]) ?_
  rintro _ ⟨s', hs', n6, c6, rfl⟩
  obtain rfl := hs.unique hs'
  have hsl : (ofN s).length ≤ 12 := ofN_low (Nat.le_trans (Nat.le_mul_self s) hs.1) oa
  simp
  refine acall_by (same_ctr n5 n6 _ _ c5 c6 (by omega) (by omega)) (by simp [sl]) ?_
  rintro _ rfl
  simp
  refine acall_by live_ctr (by simp) ?_
  rintro _ rfl
  simp
  exact stop _

theorem divides_walk (a0 : Option Addr) (len0 cap0 : Nat) (z0 : List Int) (a1 : Option Addr) (len1 cap1 : Nat) (z1 : List Int) (w : World) (w0 : IsRow .u32 w a0 len0 cap0 z0) (w1 : IsRow .u32 w a1 len1 cap1 z1) :
    Calls Try.prog 5 #[.slice a0 len0 cap0, .slice a1 len1 cap1] w fun e w' => e = .returned (.bool true) ∧ Below w.heap.size w w' := by
  obtain ⟨n0, l0, hd0, hr0⟩ := row_rp w0
  obtain ⟨n1, l1, hd1, hr1⟩ := row_rp w1
  exact ctr_calls Try.func5 rfl (by kernel_rfl) (divides_ctr n0 n1 l0 l1 none none hd0 hd1) (rpl_two hr0 hr1)
end Go.Proofs.Nt
