/- The naturals: Len, Cmp. -/
import Derived.Test.YtmfnjmcgmogncaaVn9
set_option linter.unusedVariables false
set_option maxRecDepth 20000
set_option linter.unusedSimpArgs false
namespace Go.Proofs.Nt
open Go Go.Proofs Go.Proofs.Va

theorem ofN_last {n : Nat} (h : ofN n ≠ []) : ∃ m, ∃ hm : (ofN n).length = m + 1, (ofN n)[m]'(by omega) ≠ 0 := by
  have hp : 0 < (ofN n).length := List.length_pos_iff.2 h
  refine ⟨(ofN n).length - 1, by omega, ?_⟩
  have h1 := trim_last (a := ofN n) (by rw [trim_ofN_self]; exact h) (by rw [trim_ofN_self]; exact hp)
  simpa only [trim_ofN_self] using h1

theorem rlen_ctr (nl : Bool) (a : List Nat) (cap : Option Nat) (ha : Dig a) (hl : a.length ≤ 1000000) : Ctr Try.prog 22 [sl nl a cap] (fun r => r = i (bl (val a))) := by
  refine ctr_val Try.func22 rfl (by kernel_rfl) rfl (by simp) fun K hK => ?_
  simp [Try.f22]
  refine acall_by (rtrim_ctr nl a cap hl) (by simp [sl]) ?_
  rintro _ ⟨nl', cap', rfl⟩
  rw [trim_ofN ha]
  have hll : (ofN (val a)).length ≤ 1000000 := by rw [← trim_ofN ha]; exact Nat.le_trans (trim_len a) hl
  by_cases h0 : ofN (val a) = []
  · have : val a = 0 := ofN_nil.1 h0
    simpa [sl, h0, this, bl, ofN_zero] using hK []
  · have hd := dig_ofN (val a)
    obtain ⟨m, hm, hx⟩ := ofN_last h0
    have hv : bl (val a) = 32 * m + bl (ofN (val a))[m] := by
      have := bl_digits hd hm hx
      rwa [val_ofN] at this
    have hxx := hd.at (show m < (ofN (val a)).length by omega)
    obtain ⟨b, hb⟩ : ∃ b, b = ofN (val a) := ⟨_, rfl⟩
    generalize hxe : (ofN (val a))[m]'(by omega) = x at *
    rw [← hb] at hm hll h0 ⊢
    have e1 : IntKind.i64.wrap ((b.length : Int) - 1) = (m : Int) := by rw [w64 _ (by omega) (by omega)]; omega
    have e2 : IntKind.i64.wrap (32 * (m : Int)) = ((32 * m : Nat) : Int) := by rw [w64 _ (by omega) (by omega)]; omega
    have hml : m < b.length := by omega
    have hbx : b[m] = x := by subst hb; exact hxe
    simp [sl, h0, e1, e2, hml, hbx, -Int.natCast_mul]
    refine loop_on (γ := Nat × Nat) 28 (fun g => [(4, i g.1), (5, dg g.2)]) (fun _ => []) (fun g => g.1 + bl g.2 = bl (val a) ∧ g.2 < 4294967296) (fun g => g.2)
      (32 * m, x) ⟨hv.symm, hxx⟩ (Wk.lst (by simp) (by simp)) ?_
    rintro ⟨k, t⟩ ⟨hk, ht⟩ L hL
    simp only at hk ht
    by_cases h1 : 0 < t
    · have hb1 := bl_half (n := t) (by omega)
      have hbb : bl (val a) ≤ 32 * m + 32 := by rw [hv]; have := bl_le (k := 32) hxx; omega
      have e3 : IntKind.u32.wrap ((t : Int) / 2) = (t : Int) / 2 := by
        rw [show ((t : Int) / 2) = ((t / 2 : Nat) : Int) by omega, w32' (t / 2) (by omega)]
      have e4 : IntKind.i64.wrap ((k : Int) + 1) = ((k + 1 : Nat) : Int) := w64 _ (by omega) (by omega)
      simp [h1, e3, e4]
      exact hL (k + 1, t / 2) _ _ ⟨by show k + 1 + bl (t / 2) = _; omega, by show t / 2 < _; omega⟩ (Wk.lst (by simp) (by simp)) (by show t / 2 < t; omega)
    · have h2 : t = 0 := by omega
      subst h2
      rw [bl_zero, Nat.add_zero] at hk
      subst hk
      simpa using hK []

theorem len_ctr (nl : Bool) (a : List Nat) (cap : Option Nat) (ha : Dig a) (hl : a.length ≤ 1000000) : Ctr Try.prog 21 [sl nl a cap] (fun r => r = i (bl (val a))) := by
  refine ctr_val Try.func21 rfl (by kernel_rfl) rfl (by simp) fun K hK => ?_
  simp [Try.f21]
  refine acall_by (trim_ctr nl a cap ha hl) (by simp [sl]) ?_
  rintro _ ⟨nl', cap', rfl⟩
  rw [trim_ofN ha]
  have hll : (ofN (val a)).length ≤ 1000000 := by rw [← trim_ofN ha]; exact Nat.le_trans (trim_len a) hl
  by_cases h0 : ofN (val a) = []
  · have : val a = 0 := ofN_nil.1 h0
    simpa [sl, h0, this, bl, ofN_zero] using hK []
  · have hd := dig_ofN (val a)
    obtain ⟨m, hm, hx⟩ := ofN_last h0
    have hv : bl (val a) = 32 * m + bl (ofN (val a))[m] := by
      have := bl_digits hd hm hx
      rwa [val_ofN] at this
    have hxx := hd.at (show m < (ofN (val a)).length by omega)
    obtain ⟨b, hb⟩ : ∃ b, b = ofN (val a) := ⟨_, rfl⟩
    generalize hxe : (ofN (val a))[m]'(by omega) = x at *
    rw [← hb] at hm hll h0 ⊢
    have e1 : IntKind.i64.wrap ((b.length : Int) - 1) = (m : Int) := by rw [w64 _ (by omega) (by omega)]; omega
    have e2 : IntKind.i64.wrap (32 * (m : Int)) = ((32 * m : Nat) : Int) := by rw [w64 _ (by omega) (by omega)]; omega
    have hml : m < b.length := by omega
    have hbx : b[m] = x := by subst hb; exact hxe
    simp [sl, h0, e1, hml, hbx, -Int.natCast_mul]
    refine loop_on (γ := Nat × Nat) 27 (fun g => [(0, sl nl' b cap'), (2, i g.1), (3, dg g.2)]) (fun _ => []) (fun g => g.1 + bl g.2 = bl x ∧ g.2 < 4294967296) (fun g => g.2)
      (0, x) ⟨by simp, hxx⟩ (Wk.lst (by simp [sl]) (by simp)) ?_
    rintro ⟨k, t⟩ ⟨hk, ht⟩ L hL
    simp only at hk ht
    have hbb : bl x ≤ 32 := bl_le (k := 32) hxx
    by_cases h1 : t = 0
    · subst h1
      rw [bl_zero, Nat.add_zero] at hk
      subst hk
      have e3 : IntKind.i64.wrap ((bl x : Int) + ((32 * m : Nat) : Int)) = (bl (val a) : Int) := by rw [w64 _ (by omega) (by omega)]; omega
      simpa [sl, e1, e2, e3, -Int.natCast_mul] using hK []
    · have hb1 := bl_half (n := t) (by omega)
      have e4 : IntKind.i64.wrap ((k : Int) + 1) = ((k + 1 : Nat) : Int) := w64 _ (by omega) (by omega)
      simp [h1, e4]
      exact hL (k + 1, t / 2) _ _ ⟨by show k + 1 + bl (t / 2) = _; omega, by show t / 2 < _; omega⟩ (Wk.lst (by simp [sl]) (by simp)) (by show t / 2 < t; omega)

/-! ### Cmp -/
theorem cmp3_nat (a b : Nat) : cmp3 (a : Int) (b : Int) = if a < b then -1 else if b < a then 1 else 0 := by
  unfold cmp3; simp only [Int.ofNat_lt]

theorem rcmp_ctr (nl nl' : Bool) (a b : List Nat) (cap cap' : Option Nat) (ha : Dig a) (hb : Dig b) (hl : a.length ≤ 1000000) (hl' : b.length ≤ 1000000) : Ctr Try.prog 24 [sl nl a cap, sl nl' b cap'] (fun r => r = i (cmp3 (val a) (val b))) := by
  refine ctr_val Try.func24 rfl (by kernel_rfl) rfl (by simp) fun K hK => ?_
  simp [Try.f24]
  refine acall_by (rtrim_ctr nl a cap hl) (by simp [sl]) ?_
  rintro _ ⟨n1, c1, rfl⟩
  simp
  refine acall_by (rtrim_ctr nl' b cap' hl') (by simp [sl]) ?_
  rintro _ ⟨n2, c2, rfl⟩
  rw [trim_ofN ha, trim_ofN hb]
  rw [cmp3_nat] at hK
  have hx := dig_ofN (val a)
  have hy := dig_ofN (val b)
  have hlx : (ofN (val a)).length ≤ 1000000 := by rw [← trim_ofN ha]; exact Nat.le_trans (trim_len a) hl
  have hxy := @len_lt (val a) (val b)
  have hyx := @len_lt (val b) (val a)
  have hvx : val (ofN (val a)) = val a := val_ofN _
  have hvy : val (ofN (val b)) = val b := val_ofN _
  generalize ofN (val a) = x at *
  generalize ofN (val b) = y at *
  by_cases h1 : x.length = y.length
  · have e1 : IntKind.i64.wrap ((y.length : Int) - 1) = (y.length : Int) - 1 := w64 _ (by omega) (by omega)
    simp [sl, h1, e1]
    refine loop_on (γ := Nat) 47 (fun k => [(5, sl n1 x c1), (6, sl n2 y c2), (7, i ((y.length : Int) - 1 - k))]) (fun _ => []) (fun k => k ≤ x.length ∧ x.drop (x.length - k) = y.drop (x.length - k)) (fun k => x.length - k)
      0 ⟨Nat.zero_le _, by simp [h1]⟩ (Wk.lst (by simp [sl, h1]) (by simp)) ?_
    rintro k ⟨hk, hz⟩ L hL
    by_cases hkn : k < x.length
    · obtain ⟨m, hm⟩ : ∃ m, m = x.length - 1 - k := ⟨_, rfl⟩
      have e : (y.length : Int) - 1 - k = (m : Int) := by omega
      have hmx : m < x.length := by omega
      have hmy : m < y.length := by omega
      have hz' : x.drop (m + 1) = y.drop (m + 1) := by rw [show m + 1 = x.length - k by omega]; exact hz
      rw [e]
      simp [sl]
      refine draw_on [0, 0, 1, 1, 0, 0, 1, 1, 0] orders (by decide) ?_
      simp [hmx, hmy]
      by_cases h2 : x[m] < y[m]
      · have := val_lt_of hx hy hmx hmy hz' h2
        rw [hvx, hvy] at this
        simpa [h2, this] using hK []
      · simp [h2]
        refine draw_on [0, 0, 1, 1, 0, 0, 1, 1, 0] orders (by decide) ?_
        simp [hmx, hmy]
        by_cases h3 : y[m] < x[m]
        · have h4 := val_lt_of hy hx hmy hmx hz'.symm h3
          rw [hvx, hvy] at h4
          have h5 : ¬ val a < val b := by omega
          simpa [h3, h4, h5] using hK []
        · simp [h3]
          refine hL (k + 1) _ _ ⟨by omega, ?_⟩ (Wk.lst (by simp [sl]; rw [w64 _ (by omega) (by omega)]; omega) (by simp)) (by omega)
          have h4 : x[m] = y[m] := by omega
          rw [show x.length - (k + 1) = m by omega, List.drop_eq_getElem_cons hmx, List.drop_eq_getElem_cons hmy, hz', h4]
    · have : k = x.length := by omega
      subst this
      have hzz : x = y := by simpa using hz
      have h5 : val a = val b := by rw [← hvx, ← hvy, hzz]
      have e : (y.length : Int) - 1 - x.length = -1 := by omega
      rw [e]
      have hK2 := hK []
      rw [if_neg (by omega), if_neg (by omega)] at hK2
      simp [sl]
      exact hK2
  · by_cases h2 : x.length < y.length
    · have := hxy h2
      simpa [sl, h1, h2, this] using hK []
    · have h3 := hyx (by omega)
      have h4 : ¬ val a < val b := by omega
      simpa [sl, h1, h2, h3, h4] using hK []
end Go.Proofs.Nt
