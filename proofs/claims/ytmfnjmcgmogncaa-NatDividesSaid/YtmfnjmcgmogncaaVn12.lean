/- The naturals: the document's Sub; Shl, Shr. -/
import Derived.Test.YtmfnjmcgmogncaaVn11
set_option linter.unusedVariables false
set_option maxRecDepth 20000
set_option linter.unusedSimpArgs false
namespace Go.Proofs.Nt
open Go Go.Proofs Go.Proofs.Va

theorem take_max {a : List Nat} {N : Nat} (h : a.length ≤ N) : a.take N = a := List.take_of_length_le h

theorem sub_fin {a b l : List Nat} {N c : Nat} (ha : Dig a) (hd : Dig l) (hN : a.length ≤ N) (hb : b.length ≤ N) (hlen : l.length = N) (hc : c ≤ 1) (hv : val l + val (b.take N) = val (a.take N) + 4294967296 ^ N * c) (h0 : ¬ val a < val b) : val l = val a - val b := by
  rw [take_max hN, take_max hb] at hv
  have hvl := val_lt hd
  rw [hlen] at hvl
  generalize 4294967296 ^ N = P at *
  have hc0 : c = 0 := by
    rcases Nat.eq_zero_or_pos c with h4 | h4
    · exact h4
    · have : c = 1 := by omega
      subst this; omega
  subst hc0
  omega

theorem rsub_ctr (nl nl' : Bool) (a b : List Nat) (cap cap' : Option Nat) (ha : Dig a) (hb : Dig b) (hl : a.length ≤ 100000) (hl' : b.length ≤ 100000) : Ctr Try.prog 26 [sl nl a cap, sl nl' b cap'] (subPost (val a) (val b)) := by
  refine ctr_in Try.func26 rfl (by kernel_rfl) rfl fun K hK => ?_
  simp [Try.f26]
  refine acall_by (rcmp_ctr nl nl' a b cap cap' ha hb (by omega) (by omega)) (by simp [sl]) ?_
  rintro _ rfl
  rw [cmp3_nat]
  by_cases h0 : val a < val b
  · simp [h0]
    exact hK _ _ _ (.same _ (pu_tup (by simp))) (by rw [subPost, if_pos h0]; rfl)
  · have hneg : ¬ ((if val a < val b then -1 else if val b < val a then 1 else 0 : Int) < 0) := by rw [if_neg h0]; split <;> omega
    obtain ⟨N, hN⟩ : ∃ N, N = max a.length b.length := ⟨_, rfl⟩
    simp [hneg, sl]
    refine loop_on (γ := Nat × Nat × List Nat × AV × AHeap) 46 (fun g => [(0, sl nl a cap), (1, sl nl' b cap'), (6, g.2.2.2.1), (7, u g.2.1), (8, i g.1)]) (fun g => g.2.2.2.2)
      (fun g => g.1 ≤ N ∧ g.2.1 ≤ 1 ∧ g.2.2.1.length = g.1 ∧ Dig g.2.2.1 ∧ val g.2.2.1 + val (b.take g.1) = val (a.take g.1) + 4294967296 ^ g.1 * g.2.1 ∧ OL g.2.2.2.2 g.2.2.2.1 g.2.2.1) (fun g => N - g.1)
      (0, 0, [], _, _) ⟨Nat.zero_le _, Nat.zero_le _, rfl, dig_nil, by simp [val], .nil⟩ (Wk.lst (by simp [sl]) (by simp)) ?_
    rintro ⟨k, c, l, r, σ⟩ ⟨hk, hc, hlen, hd, hv, hD⟩ L hL
    simp only at hk hc hlen hd hv hD
    by_cases hkn : k < N
    · have h1 := at'_lt ha k
      have h2 := at'_lt hb k
      have hw0 : IntKind.u64.wrap ((at' a k : Int) + 4294967296) = ((at' a k + 4294967296 : Nat) : Int) := by rw [wrap64u]; omega
      have hw : IntKind.u64.wrap (IntKind.u64.wrap (((at' a k + 4294967296 : Nat) : Int) - (at' b k : Int)) - (c : Int)) = ((at' a k + 4294967296 - at' b k - c : Nat) : Int) := by rw [wrap64u, wrap64u]; omega
      obtain ⟨X, hX⟩ : ∃ X, X = at' a k + 4294967296 - at' b k - c := ⟨_, rfl⟩
      rw [← hX] at hw
      have hw3 : IntKind.u64.wrap (1 - ((X / 4294967296 : Nat) : Int)) = ((1 - X / 4294967296 : Nat) : Int) := by rw [wrap64u]; omega
      have hst := sub_step h1 h2 hc hv
      have hXm : X % 4294967296 = (at' a k + 18446744073709551616 - at' b k - c) % 4294967296 := by omega
      rw [← hXm] at hst
      have hXd : 1 - X / 4294967296 = if at' b k + c ≤ at' a k then 0 else 1 := by split <;> omega
      rw [← hXd] at hst
      have hw4 : IntKind.i64.wrap ((k : Int) + 1) = (k : Int) + 1 := w64 _ (by omega) (by omega)
      have hcase : (k < a.length) ∨ (¬ k < a.length ∧ k < b.length) := by omega
      rcases hcase with g1 | ⟨g1, g2⟩
      all_goals
        simp [sl, *, -aAppend]
        refine acall_by (at_ctr nl a cap k ha) (by simp [sl]) ?_
        rintro _ rfl
        simp
        refine acall_by (at_ctr nl' b cap' k hb) (by simp [sl]) ?_
        rintro _ rfl
        simp [-aAppend]
        rw [hw0, hw, w32]
        refine append_one hD (by omega) fun r' σ' h => ?_
        simp
        refine hL (k + 1, 1 - X / 4294967296, l ++ [X % 4294967296], r', σ') _ _ ⟨by show k + 1 ≤ _; omega, by show 1 - _ ≤ 1; omega, by simp [hlen], dig_snoc hd _, ?_, h⟩ (Wk.lst (by simp [sl, hw4]; exact hw3.symm) (by simp)) (by show _ - (k + 1) < _ - k; omega)
        rw [val_snoc, val_take_succ, val_take_succ, hlen, Nat.pow_succ]
        exact hst
    · have : k = N := by omega
      subst this
      have g1 : ¬ k < a.length := by omega
      have g2 : ¬ k < b.length := by omega
      simp [sl, g1, g2, -aAppend]
      refine call_lie hD.lie (fun nl cap => rtrim_ctr nl l cap (by omega)) ?_
      rintro _ σ' ⟨nl2, cap2, rfl⟩
      have e := sub_fin ha hd (by omega) (by omega) hlen hc hv h0
      rw [trim_ofN hd, e]
      simp
      exact hK _ _ _ (.same _ (pu_tup (by simp [sl]))) (by rw [subPost, if_neg h0]; exact ⟨_, _, rfl⟩)
end Go.Proofs.Nt
