/- The naturals: Add. -/
import Derived.Test.YtmfnjmcgmogncaaVn4
set_option linter.unusedVariables false
set_option maxRecDepth 20000
set_option linter.unusedSimpArgs false
namespace Go.Proofs.Nt
open Go Go.Proofs Go.Proofs.Va

theorem val_snoc (l : List Nat) (x : Nat) : val (l ++ [x]) = val l + 4294967296 ^ l.length * x := by rw [val_append]; simp [val]
theorem val_take_succ (a : List Nat) (k : Nat) : val (a.take (k + 1)) = val (a.take k) + 4294967296 ^ k * at' a k := by
  unfold at'
  rcases Nat.lt_or_ge k a.length with hk | hk
  · rw [List.take_add_one, List.getElem?_eq_getElem hk]
    simp only [Option.toList_some, val_snoc, List.length_take, Nat.min_eq_left (Nat.le_of_lt hk)]
    rw [List.getD_eq_getElem?_getD, List.getElem?_eq_getElem hk]; rfl
  · rw [List.take_of_length_le (by omega), List.take_of_length_le (by omega), List.getD_eq_getElem?_getD, List.getElem?_eq_none hk]; simp
theorem dig_snoc {l : List Nat} (h : Dig l) (x : Nat) : Dig (l ++ [x % 4294967296]) := dig_append h (dig_one x)

theorem wu (x : Nat) (h : x < 18446744073709551616) : IntKind.u64.wrap (x : Int) = (x : Int) := IntWalk.u64_in _ (by omega)

theorem wuc (x y : Int) (h0 : 0 ≤ x + y) (h : x + y < 18446744073709551616) : IntKind.u64.wrap (x + y) = x + y := IntWalk.u64_in _ (by omega)

theorem carry_step {P m q s : Nat} (h : m + 4294967296 * q = s) : P * m + P * 4294967296 * q = P * s := by
  rw [← h, Nat.mul_add, Nat.mul_assoc]
theorem sum_step {P A B c x y v : Nat} (hv : v + P * c = A + B) : v + P * ((x + y + c) % 4294967296) + P * 4294967296 * ((x + y + c) / 4294967296) = A + P * x + (B + P * y) := by
  have h := carry_step (P := P) (Nat.mod_add_div (x + y + c) 4294967296)
  rw [Nat.mul_add, Nat.mul_add] at h
  omega
theorem add_step {a b l : List Nat} {k c : Nat} (hlen : l.length = k) (hv : val l + 4294967296 ^ k * c = val (a.take k) + val (b.take k)) :
    val (l ++ [(at' a k + at' b k + c) % 4294967296]) + 4294967296 ^ (k + 1) * ((at' a k + at' b k + c) / 4294967296) = val (a.take (k + 1)) + val (b.take (k + 1)) := by
  rw [val_snoc, val_take_succ, val_take_succ, hlen, Nat.pow_succ]
  exact sum_step hv

theorem add_ctr (nl nl' : Bool) (a b : List Nat) (cap cap' : Option Nat) (ha : Dig a) (hb : Dig b) (hl : a.length ≤ 100000) (hl' : b.length ≤ 100000) : Ctr Try.prog 29 [sl nl a cap, sl nl' b cap'] (Told (ofN (val a + val b))) := by
  refine ctr_in Try.func29 rfl (by kernel_rfl) rfl fun K hK => ?_
  simp [Try.f29, sl]
  obtain ⟨N, hN⟩ : ∃ N, N = max a.length b.length := ⟨_, rfl⟩
  have hNi : (if a.length < b.length then (b.length : Int) else a.length) = (N : Int) := by split <;> omega
  rw [hNi]
  refine loop_on (γ := Nat × Nat × List Nat × AHeap) 30 (fun g => [(0, sl nl a cap), (1, sl nl' b cap'), (5, .po 0 0 0), (6, u g.2.1), (12, i N), (13, i g.1)]) (fun g => g.2.2.2)
    (fun g => g.1 ≤ N ∧ g.2.1 ≤ 1 ∧ g.2.2.1.length = g.1 ∧ Dig g.2.2.1 ∧ val g.2.2.1 + 4294967296 ^ g.1 * g.2.1 = val (a.take g.1) + val (b.take g.1) ∧ DS g.2.2.2 0 g.2.2.1) (fun g => N - g.1)
    (0, 0, [], _) ⟨Nat.zero_le _, Nat.zero_le _, rfl, dig_nil, by simp [val], .nil rfl⟩ (Wk.lst (by simp [sl]) (by simp)) ?_
  rintro ⟨k, c, l, σ⟩ ⟨hk, hc, hlen, hd, hv, hD⟩ L hL
  simp only at hk hc hlen hd hv hD
  by_cases hkn : k < N
  · simp [hkn, sl]
    refine acall_by (digit_ctr nl a cap k ha) (by simp [sl]) ?_
    rintro _ rfl
    try simp
    refine acall_by (digit_ctr nl' b cap' k hb) (by simp [sl]) ?_
    rintro _ rfl
    have h1 := at'_lt ha k
    have h2 := at'_lt hb k
    have hw1 : IntKind.u64.wrap ((at' a k : Int) + (at' b k : Int)) = ((at' a k + at' b k : Nat) : Int) := wuc _ _ (by omega) (by omega)
    have hw2 : IntKind.u64.wrap (((at' a k + at' b k : Nat) : Int) + (c : Int)) = ((at' a k + at' b k + c : Nat) : Int) := wuc _ _ (by omega) (by omega)
    simp [-Int.natCast_add, hw1, hw2]
    refine lay_call hD (by omega) fun σ' hD' => ?_
    try simp
    refine hL (k + 1, (at' a k + at' b k + c) / 4294967296, l ++ [(at' a k + at' b k + c) % 4294967296], σ') _ _ ⟨by show k + 1 ≤ _; omega, by show _ / _ ≤ 1; omega, by simp [hlen], dig_snoc hd _, ?_, hD'⟩ (Wk.lst (by simp [sl]; rw [w64 _ (by omega) (by omega)]) (by simp)) (by show _ - (k + 1) < _ - k; omega)
    exact add_step hlen hv
  · simp [hkn]
    have : k = N := by omega
    subst this
    refine lay_call hD (by omega) fun σ' hD' => ?_
    try simp
    refine number_call hD'.dn (by simp; omega) fun r σ2 hr => ?_
    obtain ⟨nl2, cap2, hr⟩ := hr
    have e : trimL (l ++ [c % 4294967296]) = ofN (val a + val b) := by
      rw [trim_ofN (dig_snoc hd _), val_snoc, hlen, Nat.mod_eq_of_lt (by omega), hv, List.take_of_length_le (by omega), List.take_of_length_le (by omega)]
    rw [e] at hr
    simp
    exact hK _ _ _ hr ⟨nl2, cap2, rfl⟩
end Go.Proofs.Nt
