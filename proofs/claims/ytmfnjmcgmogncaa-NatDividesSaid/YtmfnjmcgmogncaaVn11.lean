/- The naturals: Cmp; Sub. -/
import Derived.Test.YtmfnjmcgmogncaaVn10
set_option linter.unusedVariables false
set_option maxRecDepth 20000
set_option linter.unusedSimpArgs false
namespace Go.Proofs.Nt
open Go Go.Proofs Go.Proofs.Va

theorem cmp_ctr (nl nl' : Bool) (a b : List Nat) (cap cap' : Option Nat) (ha : Dig a) (hb : Dig b) (hl : a.length ≤ 1000000) (hl' : b.length ≤ 1000000) : Ctr Try.prog 23 [sl nl a cap, sl nl' b cap'] (fun r => r = i (cmp3 (val a) (val b))) := by
  refine ctr_val Try.func23 rfl (by kernel_rfl) rfl (by simp) fun K hK => ?_
  simp [Try.f23]
  refine draw_on [0, 3, 1, 3, 0, 4] orders (by decide) ?_
  simp
  refine acall_by (trim_ctr nl a cap ha hl) (by simp [sl]) ?_
  rintro _ ⟨n1, c1, rfl⟩
  simp [sl]
  refine acall_by (trim_ctr nl' b cap' hb hl') (by simp [sl]) ?_
  rintro _ ⟨n2, c2, rfl⟩
  rw [trim_ofN ha, trim_ofN hb]
  rw [cmp3_nat] at hK
  have hx := dig_ofN (val a)
  have hy := dig_ofN (val b)
  have hlx : (ofN (val a)).length ≤ 1000000 := by rw [← trim_ofN ha]; exact Nat.le_trans (trim_len a) hl
  have hxy := @len_lt (val a) (val b)
  have hyx := @len_lt (val b) (val a)
  have hvx : val (ofN (val a)) = val a := val_ofN _
  have hvy : val (ofN (val b)) = val b := val_ofN _
  generalize ofN (val a) = x at *
  generalize ofN (val b) = y at *
  simp [sl]
  refine acall_by (compare_int x.length y.length) (by simp) ?_
  rintro _ rfl
  rw [cmp3_nat]
  by_cases h1 : x.length = y.length
  · simp [sl, h1]
    refine backward_call rfl ?_
    simp
    refine range_on (lb := [.po 2 0 0]) (by simp) Try.func83 rfl (by kernel_rfl) ?_
    refine back_iter_pl (nl := n1) (a := x) (cap := c1) (by omega) (fun k σ' => σ' = ([⟨.own, 0, [sl n2 y c2]⟩, ⟨.own, 0, [i 0]⟩, ⟨.own, 0, [sl n1 x c1]⟩] : AHeap) ∧ x.drop (x.length - k) = y.drop (x.length - k)) (by simp [sl, h1]) ?_ ?_ ?_
    · rintro k _ ⟨rfl, _⟩; simp [sl]
    · rintro k _ hk ⟨rfl, hz⟩ Kt hKt
      obtain ⟨m, hm⟩ : ∃ m, m = x.length - 1 - k := ⟨_, rfl⟩
      have hmx : m < x.length := by omega
      have hmy : m < y.length := by omega
      have hz' : x.drop (m + 1) = y.drop (m + 1) := by rw [show m + 1 = x.length - k by omega]; exact hz
      simp only [← hm]
      simp [bodyW, sl, hmy]
      refine acall_by (compare_u32 x[m] y[m]) (by simp) ?_
      rintro _ rfl
      rw [cmp3_nat]
      by_cases h2 : x[m] < y[m]
      · have := val_lt_of hx hy hmx hmy hz' h2
        rw [hvx, hvy] at this
        simpa [h2, this, jumps] using hK _
      · by_cases h3 : y[m] < x[m]
        · have h4 := val_lt_of hy hx hmy hmx hz'.symm h3
          rw [hvx, hvy] at h4
          have h5 : ¬ val a < val b := by omega
          simpa [h2, h3, h4, h5, jumps] using hK _
        · simp [h2, h3]
          refine hKt _ ⟨by simp [sl], ?_⟩
          have h4 : x[m] = y[m] := by omega
          rw [show x.length - (k + 1) = m by omega, List.drop_eq_getElem_cons hmx, List.drop_eq_getElem_cons hmy, hz', h4]
    · rintro _ ⟨rfl, hz⟩
      have hzz : x = y := by simpa using hz
      have h5 : val a = val b := by rw [← hvx, ← hvy, hzz]
      have hK2 := hK ([⟨.own, 0, [sl n2 y c2]⟩, ⟨.own, 0, [i 0]⟩, ⟨.own, 0, [sl n1 x c1]⟩] : AHeap)
      rw [if_neg (by omega), if_neg (by omega)] at hK2
      simpa using hK2
  · by_cases h2 : x.length < y.length
    · have := hxy h2
      simpa [sl, h1, h2, this] using hK _
    · have h3' : y.length < x.length := by omega
      have h3 := hyx h3'
      have h4 : ¬ val a < val b := by omega
      simpa [sl, h1, h2, h3', h3, h4] using hK _

/-! ### Sub -/
def subPost (m n : Nat) (r : AV) : Prop := if m < n then r = .tup [.pl true [] 0 (some 0), bo false] else ∃ nl cap, r = .tup [sl nl (ofN (m - n)) cap, bo true]

theorem wsub {x y c : Nat} (hx : x < 4294967296) (hy : y < 4294967296) (hc : c ≤ 1) : IntKind.u64.wrap (IntKind.u64.wrap ((x : Int) - (y : Int)) - (c : Int)) = (((x + 18446744073709551616 - y - c) % 18446744073709551616 : Nat) : Int) := by
  rw [Va.wrap64u, Va.wrap64u]; omega

theorem sub_ctr (nl nl' : Bool) (a b : List Nat) (cap cap' : Option Nat) (ha : Dig a) (hb : Dig b) (hl : a.length ≤ 100000) (hl' : b.length ≤ 100000) : Ctr Try.prog 25 [sl nl a cap, sl nl' b cap'] (subPost (val a) (val b)) := by
  refine ctr_in Try.func25 rfl (by kernel_rfl) rfl fun K hK => ?_
  simp [Try.f25]
  refine acall_by (cmp_ctr nl nl' a b cap cap' ha hb (by omega) (by omega)) (by simp [sl]) ?_
  rintro _ rfl
  rw [cmp3_nat]
  by_cases h0 : val a < val b
  · simp [h0]
    exact hK _ _ _ (.same _ (pu_tup (by simp))) (by rw [subPost, if_pos h0]; rfl)
  · have hneg : ¬ ((if val a < val b then -1 else if val b < val a then 1 else 0 : Int) < 0) := by rw [if_neg h0]; split <;> omega
    simp [hneg, sl]
    refine loop_on (γ := Nat × Nat × List Nat × AHeap) 34 (fun g => [(0, sl nl a cap), (1, sl nl' b cap'), (6, .po 0 0 0), (7, u g.2.1), (15, i a.length), (16, i g.1)]) (fun g => g.2.2.2)
      (fun g => g.1 ≤ a.length ∧ g.2.1 ≤ 1 ∧ g.2.2.1.length = g.1 ∧ Dig g.2.2.1 ∧ val g.2.2.1 + val (b.take g.1) = val (a.take g.1) + 4294967296 ^ g.1 * g.2.1 ∧ DS g.2.2.2 0 g.2.2.1) (fun g => a.length - g.1)
      (0, 0, [], _) ⟨Nat.zero_le _, Nat.zero_le _, rfl, dig_nil, by simp [val], .nil rfl⟩ (Wk.lst (by simp [sl]) (by simp)) ?_
    rintro ⟨k, c, l, σ⟩ ⟨hk, hc, hlen, hd, hv, hD⟩ L hL
    simp only at hk hc hlen hd hv hD
    by_cases hkn : k < a.length
    · simp [hkn, sl]
      refine acall_by (digit_ctr nl a cap k ha) (by simp [sl]) ?_
      rintro _ rfl
      simp
      refine acall_by (digit_ctr nl' b cap' k hb) (by simp [sl]) ?_
      rintro _ rfl
      have h1 := at'_lt ha k
      have h2 := at'_lt hb k
      have hw := wsub h1 h2 hc
      obtain ⟨X, hX⟩ : ∃ X, X = (at' a k + 18446744073709551616 - at' b k - c) % 18446744073709551616 := ⟨_, rfl⟩
      rw [← hX] at hw
      simp [hw]
      refine lay_call hD (by omega) fun σ' hD' => ?_
      simp
      have hst := sub_step h1 h2 hc hv
      have hXm : X % 4294967296 = (at' a k + 18446744073709551616 - at' b k - c) % 4294967296 := by omega
      rw [← hXm] at hst
      have hXd : X / 9223372036854775808 = if at' b k + c ≤ at' a k then 0 else 1 := by split <;> omega
      rw [← hXd] at hst
      refine hL (k + 1, X / 9223372036854775808, l ++ [X % 4294967296], σ') _ _ ⟨by show k + 1 ≤ _; omega, by show _ / _ ≤ 1; omega, by simp [hlen], dig_snoc hd _, ?_, hD'⟩ (Wk.lst (by simp [sl]; rw [w64 _ (by omega) (by omega)]) (by simp)) (by show _ - (k + 1) < _ - k; omega)
      rw [val_snoc, val_take_succ, val_take_succ, hlen, Nat.pow_succ]
      exact hst
    · simp [hkn]
      have : k = a.length := by omega
      subst this
      refine number_call hD.dn (by omega) fun r σ2 hr => ?_
      obtain ⟨nl2, cap2, hr⟩ := hr
      have hva := val_lt ha
      have hvl := val_lt hd
      have hsp := val_append (b.take a.length) (b.drop a.length)
      rw [List.take_append_drop] at hsp
      rw [List.take_of_length_le (Nat.le_refl _)] at hv
      rw [hlen] at hvl
      have e : val l = val a - val b := by
        rcases Nat.lt_or_ge b.length a.length with h3 | h3
        · rw [List.take_of_length_le (by omega)] at hv
          generalize 4294967296 ^ a.length = P at *
          have hc0 : c = 0 := by
            rcases Nat.eq_zero_or_pos c with h4 | h4
            · exact h4
            · have : c = 1 := by omega
              subst this; omega
          subst hc0
          omega
        · rw [List.length_take, Nat.min_eq_left h3] at hsp
          generalize 4294967296 ^ a.length = P at *
          have hz : val (b.drop a.length) = 0 := by
            rcases Nat.eq_zero_or_pos (val (b.drop a.length)) with h4 | h4
            · exact h4
            · have : P * 1 ≤ P * val (b.drop a.length) := Nat.mul_le_mul_left _ h4
              omega
          rw [hz] at hsp
          have hc0 : c = 0 := by
            rcases Nat.eq_zero_or_pos c with h4 | h4
            · exact h4
            · have : c = 1 := by omega
              subst this; omega
          subst hc0
          omega
      rw [trim_ofN hd, e] at hr
      simp
      exact hK _ _ (.tup [sl nl2 (ofN (val a - val b)) cap2, bo true]) (.tup _ _ rfl fun j hj => by match j with | 0 => exact hr | 1 => exact .same _ (by simp)) (by rw [subPost, if_neg h0]; exact ⟨_, _, rfl⟩)
end Go.Proofs.Nt
