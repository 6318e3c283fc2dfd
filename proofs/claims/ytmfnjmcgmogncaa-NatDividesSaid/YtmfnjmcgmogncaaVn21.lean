/- The laws of the naturals: NatTells, NatCounts. -/
import Derived.Test.YtmfnjmcgmogncaaVn20
import Derived.Test.YtmfnjmcgmogncaaVn16
set_option linter.unusedVariables false
set_option maxRecDepth 20000
set_option linter.unusedSimpArgs false
namespace Go.Proofs.Nt
open Go Go.Proofs Go.Proofs.Va

theorem aLen_sl (k : Bool) (l : List Nat) (c : Option Nat) (σ : AHeap) (K : AV → AHeap → Prop) : aLen Try.prog 23 (sl k l c) σ K = K (i l.length) σ := by simp [sl]

theorem tells_ctr (nl nl' : Bool) (a b : List Nat) (cap cap' : Option Nat) (x : Nat) (ha : Dig a) (hb : Dig b) (hx : x < 18446744073709551616) : Ctr Try.prog 3 [sl nl a cap, sl nl' b cap', u x] (fun r => r = bo true) := by
  refine ctr_in Try.func3 rfl (by kernel_rfl) rfl fun K hK => ?_
  simp only [Try.f3, List.append_eq, List.cons_append, List.nil_append]
  have stop : ∀ σ, K (bo true) σ := fun σ => hK _ _ _ (.same _ (by simp)) rfl
  by_cases h1 : (60 : Int) < a.length
  · simp [aLen_sl, h1]
    refine acall_by live_ctr (by simp) ?_
    rintro _ rfl
    simp
    exact stop _
  by_cases h2 : (60 : Int) < b.length
  · simp [aLen_sl, h1, h2]
    refine acall_by live_ctr (by simp) ?_
    rintro _ rfl
    simp
    exact stop _
  have hla : a.length ≤ 60 := by omega
  have hlb : b.length ≤ 60 := by omega
  simp [aLen_sl, h1, h2]
  refine acall_by (low_ctr nl a cap ha (by omega)) (by simp [sl]) ?_
  intro y hy
  obtain ⟨z1, z2, hz⟩ : ∃ z1 z2, y = .tup [u z1, bo z2] := by rw [lowPost] at hy; split at hy <;> exact ⟨_, _, hy⟩
  have hz' : lowPost (val a) (.tup [u z1, bo z2]) := hz ▸ hy
  subst hz
  simp
  refine acall_by (rlow_ctr nl a cap ha (by omega)) (by simp [sl]) ?_
  intro y hy
  rw [lowPost] at hy hz'
  rw [← hz'] at hy
  subst hy
  simp
  refine acall_by (check_ctr nl a cap (by omega)) (by simp [sl]) ?_
  rintro _ rfl
  simp
  refine acall_by (rcheck_ctr nl a cap (by omega)) (by simp [sl]) ?_
  rintro _ rfl
  simp
  refine acall_by (from_ctr x hx) (by simp) ?_
  rintro _ ⟨n1, c1, rfl⟩
  simp
  refine acall_by (rfrom_ctr x hx) (by simp) ?_
  rintro _ ⟨n2, c2, rfl⟩
  simp
  have hlx : (ofN x).length ≤ 4 := (len_ofN x 4).2 (Nat.lt_of_lt_of_le hx (by decide))
  refine acall_by (same_ctr n1 n2 (ofN x) (ofN x) c1 c2 (by omega) (by omega)) (by simp [sl]) ?_
  rintro _ rfl
  simp
  refine acall_by (len_ctr nl a cap ha (by omega)) (by simp [sl]) ?_
  rintro _ rfl
  simp
  refine acall_by (rlen_ctr nl a cap ha (by omega)) (by simp [sl]) ?_
  rintro _ rfl
  simp
  refine acall_by (cmp_ctr nl nl' a b cap cap' ha hb (by omega) (by omega)) (by simp [sl]) ?_
  rintro _ rfl
  simp
  refine acall_by (rcmp_ctr nl nl' a b cap cap' ha hb (by omega) (by omega)) (by simp [sl]) ?_
  rintro _ rfl
  simp
  refine acall_by live_ctr (by simp) ?_
  rintro _ rfl
  simp
  exact stop _

theorem sub_form {m n : Nat} {r : AV} (h : subPost m n r) : ∃ nl c, r = .tup [sl nl (ofN (m - n)) c, bo (decide (n ≤ m))] := by
  rw [subPost] at h
  split at h
  · rename_i h1
    exact ⟨true, some 0, by rw [h, show m - n = 0 by omega, ofN_zero, decide_eq_false (by omega)]; simp [sl]⟩
  · rename_i h1
    obtain ⟨nl, c, h⟩ := h
    exact ⟨nl, c, by rw [h, decide_eq_true (by omega)]⟩

def shrOut (n : Nat) (k : Int) : Nat := if k < 0 ∨ 100000 < k then 0 else n / 2 ^ k.toNat
def shrIs (n : Nat) (k : Int) : Bool := if k < 0 ∨ 100000 < k then false else n % 2 ^ k.toNat == 0
theorem shr_form {n : Nat} {k : Int} {r : AV} (h : shrPost n k r) : ∃ nl c, r = .tup [sl nl (ofN (shrOut n k)) c, bo (shrIs n k)] := by
  rw [shrPost] at h
  rw [shrOut, shrIs]
  split at h
  · rename_i h1
    rw [if_pos h1, if_pos h1, ofN_zero]
    exact ⟨true, some 0, by rw [h]; simp [sl]⟩
  · rename_i h1
    rw [if_neg h1, if_neg h1]
    exact h
theorem shrOut_le (n : Nat) (k : Int) : shrOut n k ≤ n := by
  rw [shrOut]; split
  · omega
  · exact Nat.div_le_self _ _
theorem ofN_mono {m n k : Nat} (h : m ≤ n) (hk : (ofN n).length ≤ k) : (ofN m).length ≤ k := (len_ofN m k).2 (Nat.lt_of_le_of_lt h ((len_ofN n k).1 hk))
theorem ofN_val_le {a : List Nat} (ha : Dig a) {k : Nat} (hk : a.length ≤ k) : (ofN (val a)).length ≤ k := by
  rw [← trim_ofN ha]; exact Nat.le_trans (trim_len a) hk

theorem counts_ctr (nl nl' : Bool) (a b : List Nat) (cap cap' : Option Nat) (k : Int) (ha : Dig a) (hb : Dig b) : Ctr Try.prog 4 [sl nl a cap, sl nl' b cap', i k] (fun r => r = bo true) := by
  refine ctr_in Try.func4 rfl (by kernel_rfl) rfl fun K hK => ?_
  simp only [Try.f4, List.append_eq, List.cons_append, List.nil_append]
  have stop : ∀ σ, K (bo true) σ := fun σ => hK _ _ _ (.same _ (by simp)) rfl
  by_cases h1 : (60 : Int) < a.length
  · simp [aLen_sl, h1]
    refine acall_by live_ctr (by simp) ?_
    rintro _ rfl
    simp
    exact stop _
  by_cases h2 : (60 : Int) < b.length
  · simp [aLen_sl, h1, h2]
    refine acall_by live_ctr (by simp) ?_
    rintro _ rfl
    simp
    exact stop _
  have hla : a.length ≤ 60 := by omega
  have hlb : b.length ≤ 60 := by omega
  simp [aLen_sl, h1, h2]
  refine acall_by (sub_ctr nl nl' a b cap cap' ha hb (by omega) (by omega)) (by simp [sl]) ?_
  intro y hy
  obtain ⟨n1, c1, rfl⟩ := sub_form hy
  simp
  refine acall_by (rsub_ctr nl nl' a b cap cap' ha hb (by omega) (by omega)) (by simp [sl]) ?_
  intro y hy
  obtain ⟨n2, c2, rfl⟩ := sub_form hy
  simp
  refine acall_by (shr_ctr nl a cap k ha (by omega)) (by simp [sl]) ?_
  intro y hy
  obtain ⟨n3, c3, rfl⟩ := shr_form hy
  simp
  refine acall_by (rshr_ctr nl a cap k ha (by omega)) (by simp [sl]) ?_
  intro y hy
  obtain ⟨n4, c4, rfl⟩ := shr_form hy
  simp
  have hs1 : (ofN (val a - val b)).length ≤ 60 := ofN_mono (Nat.sub_le _ _) (ofN_val_le ha hla)
  have hs2 : (ofN (shrOut (val a) k)).length ≤ 60 := ofN_mono (shrOut_le _ _) (ofN_val_le ha hla)
  refine acall_by (same_ctr n1 n2 _ _ c1 c2 (by omega) (by omega)) (by simp [sl]) ?_
  rintro _ rfl
  simp
  refine acall_by (same_ctr n3 n4 _ _ c3 c4 (by omega) (by omega)) (by simp [sl]) ?_
  rintro _ rfl
  simp
  refine acall_by (add_ctr nl nl' a b cap cap' ha hb (by omega) (by omega)) (by simp [sl]) ?_
  rintro _ ⟨n5, c5, rfl⟩
  simp
  refine acall_by (radd_ctr nl nl' a b cap cap' ha hb (by omega) (by omega)) (by simp [sl]) ?_
  rintro _ ⟨n6, c6, rfl⟩
  simp
  have hs3 : (ofN (val a + val b)).length ≤ 61 := by
    rw [len_ofN, Nat.pow_succ]
    have h1 := Nat.lt_of_lt_of_le (val_lt ha) (Nat.pow_le_pow_right (n := 4294967296) (by decide) hla)
    have h2 := Nat.lt_of_lt_of_le (val_lt hb) (Nat.pow_le_pow_right (n := 4294967296) (by decide) hlb)
    omega
  refine acall_by (same_ctr n5 n6 _ _ c5 c6 (by omega) (by omega)) (by simp [sl]) ?_
  rintro _ rfl
  simp
  refine acall_by (mul_ctr nl nl' a b cap cap' ha hb (by omega) (by omega)) (by simp [sl]) ?_
  rintro _ ⟨n7, c7, rfl⟩
  simp
  refine acall_by (rmul_ctr nl nl' a b cap cap' ha hb (by omega) (by omega)) (by simp [sl]) ?_
  rintro _ ⟨n8, c8, rfl⟩
  simp
  have hs4 : (ofN (val a * val b)).length ≤ 120 := by
    rw [len_ofN]
    have h1 := Nat.lt_of_lt_of_le (val_lt ha) (Nat.pow_le_pow_right (n := 4294967296) (by decide) hla)
    have h2 := Nat.lt_of_lt_of_le (val_lt hb) (Nat.pow_le_pow_right (n := 4294967296) (by decide) hlb)
    exact Nat.lt_of_lt_of_eq (Nat.mul_lt_mul'' h1 h2) (Nat.pow_add _ _ _).symm
  refine acall_by (same_ctr n7 n8 _ _ c7 c8 (by omega) (by omega)) (by simp [sl]) ?_
  rintro _ rfl
  simp
  refine acall_by (shl_ctr nl a cap k ha (by omega)) (by simp [sl]) ?_
  rintro _ ⟨n9, c9, rfl⟩
  simp
  refine acall_by (rshl_ctr nl a cap k ha (by omega)) (by simp [sl]) ?_
  rintro _ ⟨n10, c10, rfl⟩
  simp
  have hs5 : (shlN (val a) k).length ≤ 1000000 := by
    rw [shlN]; split
    · simp
    · rename_i h5
      have h3 := Nat.lt_of_lt_of_le (val_lt ha) (Nat.pow_le_pow_right (n := 4294967296) (by decide) hla)
      refine ofN_le (j := 60 + k.toNat) ?_ (by omega)
      rw [Nat.pow_add]
      exact Nat.mul_lt_mul_of_lt_of_le h3 (Nat.pow_le_pow_left (by decide : 2 ≤ 4294967296) k.toNat) (Nat.pow_pos (by decide))
  refine acall_by (same_ctr n9 n10 _ _ c9 c10 (by omega) (by omega)) (by simp [sl]) ?_
  rintro _ rfl
  simp
  refine acall_by live_ctr (by simp) ?_
  rintro _ rfl
  simp
  exact stop _
end Go.Proofs.Nt
