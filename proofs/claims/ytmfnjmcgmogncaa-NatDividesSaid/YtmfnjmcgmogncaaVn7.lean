/- The naturals: scale; the document's Same, Add. -/
import Derived.Test.YtmfnjmcgmogncaaVn6
set_option linter.unusedVariables false
set_option maxRecDepth 20000
set_option linter.unusedSimpArgs false
namespace Go.Proofs.Nt
open Go Go.Proofs Go.Proofs.Va

theorem scale_ctr (nl : Bool) (a : List Nat) (cap : Option Nat) (y : Nat) (ha : Dig a) (hl : a.length ≤ 100000) (hy : y < 4294967296) : Ctr Try.prog 75 [sl nl a cap, u y] (Told (ofN (val a * y))) := by
  refine ctr_in Try.func75 rfl (by kernel_rfl) rfl fun K hK => ?_
  simp [Try.f75, sl]
  refine loop_on (γ := Nat × Nat × List Nat × AHeap) 26 (fun g => [(1, u y), (5, .po 0 0 0), (6, u g.2.1), (9, sl nl a cap), (10, i a.length), (11, i g.1)]) (fun g => g.2.2.2)
    (fun g => g.1 ≤ a.length ∧ g.2.1 < 4294967296 ∧ g.2.2.1.length = g.1 ∧ Dig g.2.2.1 ∧ val g.2.2.1 + 4294967296 ^ g.1 * g.2.1 = val (a.take g.1) * y ∧ DS g.2.2.2 0 g.2.2.1) (fun g => a.length - g.1)
    (0, 0, [], _) ⟨Nat.zero_le _, by decide, rfl, dig_nil, by simp [val], .nil rfl⟩ (Wk.lst (by simp [sl]) (by simp)) ?_
  rintro ⟨k, c, l, σ⟩ ⟨hk, hc, hlen, hd, hv, hD⟩ L hL
  simp only at hk hc hlen hd hv hD
  by_cases hkn : k < a.length
  · have hx := ha.at hkn
    have hxy : a[k] * y ≤ 4294967295 * 4294967295 := Nat.mul_le_mul (by omega) (by omega)
    have hw0 : IntKind.u64.wrap (a[k] : Int) = (a[k] : Int) := wu _ (by omega)
    have hm : ((a[k] : Int) * (y : Int)) = ((a[k] * y : Nat) : Int) := by simp
    have hw1 : IntKind.u64.wrap ((a[k] * y : Nat) : Int) = ((a[k] * y : Nat) : Int) := wu _ (by omega)
    have hw2 : IntKind.u64.wrap (((a[k] * y : Nat) : Int) + (c : Int)) = ((a[k] * y + c : Nat) : Int) := wuc _ _ (by omega) (by omega)
    simp [hkn, sl, hw0, hm, hw1, hw2, -Int.natCast_mul, -Int.natCast_add]
    refine lay_call hD (by omega) fun σ' hD' => ?_
    try simp
    refine hL (k + 1, (a[k] * y + c) / 4294967296, l ++ [(a[k] * y + c) % 4294967296], σ') _ _ ⟨by show k + 1 ≤ _; omega, by show _ / _ < 4294967296; omega, by simp [hlen], dig_snoc hd _, ?_, hD'⟩ (Wk.lst (by simp [sl]; rw [w64 _ (by omega) (by omega)]) (by simp)) (by show _ - (k + 1) < _ - k; omega)
    have hat : at' a k = a[k] := by simp [at', hkn]
    rw [val_snoc, val_take_succ, hlen, Nat.pow_succ, hat, Nat.add_mul, ← hv]
    have h3 := carry_step (P := 4294967296 ^ k) (Nat.mod_add_div (a[k] * y + c) 4294967296)
    rw [Nat.mul_add] at h3
    rw [Nat.add_assoc, h3, Nat.mul_assoc, ← Nat.add_assoc]
    omega
  · simp [hkn, sl]
    have : k = a.length := by omega
    subst this
    refine lay_call hD (by omega) fun σ' hD' => ?_
    try simp
    refine number_call hD'.dn (by simp; omega) fun r σ2 hr => ?_
    obtain ⟨nl2, cap2, hr⟩ := hr
    have e : trimL (l ++ [c % 4294967296]) = ofN (val a * y) := by
      rw [trim_ofN (dig_snoc hd _), val_snoc, hlen, Nat.mod_eq_of_lt (by omega), hv, List.take_of_length_le (by omega)]
    rw [e] at hr
    simp
    exact hK _ _ _ hr ⟨nl2, cap2, rfl⟩

theorem same_ctr (nl nl' : Bool) (a b : List Nat) (cap cap' : Option Nat) (hl : a.length ≤ 1000000) (hl' : b.length ≤ 1000000) : Ctr Try.prog 18 [sl nl a cap, sl nl' b cap'] (fun r => r = bo (a == b)) := by
  refine ctr_val Try.func18 rfl (by kernel_rfl) rfl (by simp) fun K hK => ?_
  by_cases hab : a.length = b.length
  · simp [Try.f18, sl, hab]
    refine loop_on (γ := Nat) 26 (fun k => [(0, sl nl a cap), (1, sl nl' b cap'), (5, i k)]) (fun k => []) (fun k => k ≤ a.length ∧ ∀ j (hj : j < a.length) (hj' : j < b.length), j < k → a[j] = b[j]) (fun k => a.length - k)
      0 ⟨Nat.zero_le _, fun j hj hj' h => by omega⟩ (Wk.lst (by simp [sl, hab]) (by simp)) ?_
    rintro k ⟨hk, hz⟩ L hL
    by_cases hkn : k < a.length
    · have hkb : k < b.length := by omega
      simp [hkn, hkb, sl]
      refine draw_on [0, 0, 1, 1, 0, 0, 1, 1, 0] orders (by decide) ?_
      simp [hkn, hkb]
      by_cases h : a[k] = b[k]
      · simp [h]
        refine hL (k + 1) _ _ ⟨by omega, fun j hj hj' hjk => ?_⟩ (Wk.lst (by simp [sl]; rw [w64 _ (by omega) (by omega)]) (by simp)) (by omega)
        by_cases hjk' : j < k
        · exact hz j hj hj' hjk'
        · have : j = k := by omega
          subst this; exact h
      · have hne : a ≠ b := fun hh => h (by subst hh; rfl)
        simpa [h, hne, beq_false_of_ne hne] using hK []
    · have : a = b := List.ext_getElem hab fun j h1 h2 => hz j h1 h2 (by omega)
      subst this
      simpa [hkn, sl] using hK _
  · have : a ≠ b := fun h => hab (by rw [h])
    simpa [Try.f18, sl, hab, this, beq_false_of_ne this] using hK []
end Go.Proofs.Nt
