/- The naturals: Shr. -/
import Derived.Test.YtmfnjmcgmogncaaVn13
set_option linter.unusedVariables false
set_option maxRecDepth 20000
set_option linter.unusedSimpArgs false
namespace Go.Proofs.Nt
open Go Go.Proofs Go.Proofs.Va

theorem dig_drop {a : List Nat} (h : Dig a) (k : Nat) : Dig (a.drop k) := fun x hx => h x (List.mem_of_mem_drop hx)
theorem val_div {b : List Nat} (hd : Dig b) (k : Nat) : val b / 4294967296 ^ k = val (b.drop k) := by
  rcases Nat.lt_or_ge b.length k with h | h
  · rw [List.drop_of_length_le (by omega)]
    have h1 := val_lt hd
    have h2 : 4294967296 ^ b.length ≤ 4294967296 ^ k := Nat.pow_le_pow_right (by decide) (by omega)
    exact Nat.div_eq_of_lt (by omega)
  · rw [val_split b k h]
    have h1 := val_lt (dig_take hd k)
    rw [List.length_take, Nat.min_eq_left h] at h1
    rw [Nat.add_mul_div_left _ _ (Nat.pow_pos (by decide)), Nat.div_eq_of_lt h1, Nat.zero_add]
theorem val_mod {b : List Nat} (hd : Dig b) (k : Nat) : val b % 4294967296 ^ k = val (b.take k) := by
  have h1 := Nat.mod_add_div (val b) (4294967296 ^ k)
  rw [val_div hd] at h1
  have h2 := val_append (b.take k) (b.drop k)
  rw [List.take_append_drop, List.length_take] at h2
  rcases Nat.lt_or_ge b.length k with h | h
  · rw [List.drop_of_length_le (by omega)] at h1
    rw [List.take_of_length_le (by omega)]
    simpa [val] using h1
  · rw [Nat.min_eq_left h] at h2; omega
theorem val_drop_one (b : List Nat) (k : Nat) : val (b.drop k) = at' b k + 4294967296 * val (b.drop (k + 1)) := by
  unfold at'
  rcases Nat.lt_or_ge k b.length with h | h
  · rw [List.drop_eq_getElem_cons h, val, List.getD_eq_getElem?_getD, List.getElem?_eq_getElem h]; rfl
  · rw [List.drop_of_length_le h, List.drop_of_length_le (by omega), List.getD_eq_getElem?_getD, List.getElem?_eq_none h]; rfl
theorem at'_drop (a : List Nat) (q k : Nat) : at' (a.drop q) k = at' a (q + k) := by
  unfold at'
  rw [List.getD_eq_getElem?_getD, List.getD_eq_getElem?_getD, List.getElem?_drop]
theorem digit_mod (D E x y R : Nat) (hD : 0 < D) (h : D * E = 4294967296) : ((x + 4294967296 * (y + 4294967296 * R)) / D) % 4294967296 = ((x + 4294967296 * y) / D) % 4294967296 := by
  have e : x + 4294967296 * (y + 4294967296 * R) = (x + 4294967296 * y) + D * (4294967296 * (E * R)) := by
    have : D * (4294967296 * (E * R)) = D * E * (4294967296 * R) := by rw [Nat.mul_assoc D E, Nat.mul_left_comm E]
    rw [this, h, Nat.mul_add]; try omega
  rw [e, Nat.add_mul_div_left _ _ hD]
  omega
theorem pow_rest (s : Nat) (h : s < 32) : 2 ^ s * 2 ^ (32 - s) = 4294967296 := by
  rw [← Nat.pow_add, show s + (32 - s) = 32 by omega]

/-- One digit more of a number that is shifted. -/
theorem shr_step {b l : List Nat} {k s : Nat} (hd : Dig b) (hs : s < 32) (hlen : l.length = k) (hv : val l = val b / 2 ^ s % 4294967296 ^ k) :
    val (l ++ [(at' b k + 4294967296 * at' b (k + 1)) / 2 ^ s % 4294967296]) = val b / 2 ^ s % 4294967296 ^ (k + 1) := by
  rw [val_snoc, hlen, hv, Nat.mod_pow_succ]
  congr 2
  have e : val b / 2 ^ s / 4294967296 ^ k = val (b.drop k) / 2 ^ s := by rw [Nat.div_div_eq_div_mul, Nat.mul_comm (2 ^ s), ← Nat.div_div_eq_div_mul, val_div hd]
  rw [e, val_drop_one b k, val_drop_one b (k + 1)]
  exact (digit_mod _ _ _ _ _ (Nat.two_pow_pos s) (pow_rest s hs)).symm

theorem shr_fin {a : List Nat} (ha : Dig a) (m : Nat) : val a / 2 ^ m = val (a.drop (m / 32)) / 2 ^ (m % 32) := by
  rw [pow_split m, ← Nat.div_div_eq_div_mul, val_div ha]
theorem shr_mod {a : List Nat} (ha : Dig a) (m : Nat) : val a % 2 ^ m = val (a.take (m / 32)) + 4294967296 ^ (m / 32) * (at' a (m / 32) % 2 ^ (m % 32)) := by
  have h1 : val a % (4294967296 ^ (m / 32) * 2 ^ (m % 32)) = val a % 4294967296 ^ (m / 32) + 4294967296 ^ (m / 32) * (val a / 4294967296 ^ (m / 32) % 2 ^ (m % 32)) := Nat.mod_mul
  rw [pow_split m, h1, val_mod ha, val_div ha, val_drop_one]
  congr 2
  have := pow_rest (m % 32) (by omega)
  rw [← this, Nat.mul_assoc, Nat.add_mul_mod_self_left]

def shrPost (n : Nat) (k : Int) (r : AV) : Prop := if k < 0 ∨ 100000 < k then r = .tup [.pl true [] 0 (some 0), bo false] else ∃ nl cap, r = .tup [sl nl (ofN (n / 2 ^ k.toNat)) cap, bo (n % 2 ^ k.toNat == 0)]

theorem rshr_ctr (nl : Bool) (a : List Nat) (cap : Option Nat) (k : Int) (ha : Dig a) (hl : a.length ≤ 90000) : Ctr Try.prog 28 [sl nl a cap, i k] (shrPost (val a) k) := by
  refine ctr_in Try.func28 rfl (by kernel_rfl) rfl fun K hK => ?_
  by_cases h0 : k < 0
  · simp [Try.f28, h0]
    exact hK _ _ _ (.same _ (pu_tup (by simp))) (by rw [shrPost, if_pos (.inl h0)]; rfl)
  by_cases h1 : 100000 < k
  · simp [Try.f28, h0, h1]
    exact hK _ _ _ (.same _ (pu_tup (by simp))) (by rw [shrPost, if_pos (.inr h1)]; rfl)
  obtain ⟨m, rfl⟩ : ∃ m : Nat, k = m := ⟨k.toNat, by omega⟩
  have hP : ∀ r, shrPost (val a) m r ↔ ∃ nl cap, r = .tup [sl nl (ofN (val a / 2 ^ m)) cap, bo (val a % 2 ^ m == 0)] := fun r => by
    rw [shrPost, if_neg (by omega), Int.toNat_natCast]
  have hm : m ≤ 100000 := by omega
  have hs : min (m % 32) 64 = m % 32 := by omega
  obtain ⟨Q, hQ⟩ : ∃ Q, Q = m / 32 := ⟨_, rfl⟩
  have hq : IntKind.i64.wrap ((m : Int) / 32) = (Q : Int) := by rw [w64 _ (by omega) (by omega)]; omega
  obtain ⟨b, hb⟩ : ∃ b, b = a.drop Q := ⟨_, rfl⟩
  have hbd : Dig b := by rw [hb]; exact dig_drop ha Q
  have hbl : b.length = a.length - Q := by rw [hb]; simp
  have hbk : ∀ k, at' b k = at' a (Q + k) := fun k => by rw [hb]; exact at'_drop a Q k
  simp [Try.f28, Nat.not_lt.2 hm, hq]
  refine loop_on (γ := Nat × List Nat × AV × AHeap) 52 (fun g => [(0, sl nl a cap), (1, i m), (6, g.2.2.1), (7, i ((Q + g.1 : Nat) : Int))]) (fun g => g.2.2.2)
    (fun g => g.1 ≤ b.length ∧ g.2.1.length = g.1 ∧ Dig g.2.1 ∧ val g.2.1 = val b / 2 ^ (m % 32) % 4294967296 ^ g.1 ∧ OL g.2.2.2 g.2.2.1 g.2.1) (fun g => b.length - g.1)
    (0, [], _, _) ⟨Nat.zero_le _, rfl, dig_nil, by simp [val, Nat.mod_one], .nil⟩ (Wk.lst (by simp [sl]) (by simp)) ?_
  rintro ⟨k, l, r, σ⟩ ⟨hk, hlen, hd, hv, hD⟩ L hL
  simp only at hk hlen hd hv hD
  by_cases hkn : k < b.length
  · have hQk : Q + k < a.length := by omega
    have hx := ha.at hQk
    have hat : at' a (Q + k) = a[Q + k] := by simp [at', hQk]
    have hy := at'_lt ha (Q + k + 1)
    obtain ⟨P, hP'⟩ : ∃ P, P = Q + k := ⟨_, rfl⟩
    have hst := shr_step (s := m % 32) hbd (by omega) hlen hv
    rw [hbk, hbk, ← Nat.add_assoc] at hst
    simp only [← hP'] at hQk hx hat hy hst ⊢
    have hw1 : IntKind.i64.wrap ((P : Int) + 1) = ((P + 1 : Nat) : Int) := w64 _ (by omega) (by omega)
    obtain ⟨P1, hP1⟩ : ∃ P1, P1 = P + 1 := ⟨_, rfl⟩
    rw [← hP1] at hw1 hy hst
    simp [hQk, sl, hw1]
    refine draw_on [0, 0, 0, 3, 0, 0, 0, 1, 1, 0, 0, 0, 0, 0, 0] orders (by decide) ?_
    simp [hw1]
    refine acall_by (at_ctr nl a cap P1 ha) (by simp [sl]) ?_
    rintro _ rfl
    have hw2 : IntKind.u64.wrap (a[P] : Int) = (a[P] : Int) := wu _ (by omega)
    have hw3 : IntKind.u64.wrap ((at' a P1 : Int) * 4294967296) = ((at' a P1 * 4294967296 : Nat) : Int) := by rw [wrap64u]; omega
    have hw4 : IntKind.u64.wrap (((at' a P1 * 4294967296 : Nat) : Int) + (a[P] : Int)) = ((a[P] + 4294967296 * at' a P1 : Nat) : Int) := by rw [wrap64u]; omega
    simp [hQk, hs, hw2, -aAppend]
    rw [hw3, hw4]
    have hyI : (2 : Int) ^ (m % 32) = ((2 ^ (m % 32) : Nat) : Int) := by simp
    have hw5 : (((a[P] + 4294967296 * at' a P1 : Nat) : Int)).fdiv ((2 : Int) ^ (m % 32)) = (((a[P] + 4294967296 * at' a P1) / 2 ^ (m % 32) : Nat) : Int) := by rw [hyI, fdiv_nat]
    rw [hw5, w32]
    rw [hat] at hst
    obtain ⟨X, hX⟩ : ∃ X, X = (a[P] + 4294967296 * at' a P1) / 2 ^ (m % 32) := ⟨_, rfl⟩
    rw [← hX] at hst ⊢
    refine append_one hD (by omega) fun r' σ' h => ?_
    simp [hw1]
    refine hL (k + 1, l ++ [X % 4294967296], r', σ') _ _ ⟨by show k + 1 ≤ _; omega, by simp [hlen], dig_snoc hd _, hst, h⟩ (Wk.lst (by simp [sl]; omega) (by simp)) (by show _ - (k + 1) < _ - k; omega)
  · have : k = b.length := by omega
    subst this
    have e1 : ¬ (Q + b.length < a.length) := by omega
    have hval : val l = val a / 2 ^ m := by
      rw [hv, shr_fin ha, ← hQ, ← hb]
      refine Nat.mod_eq_of_lt (Nat.lt_of_le_of_lt (Nat.div_le_self _ _) (val_lt hbd))
    simp [sl, e1]
    simp only [← Int.natCast_add, Int.ofNat_lt, e1, if_false]
    refine call_lie hD.lie (fun nl cap => rtrim_ctr nl l cap (by omega)) ?_
    rintro _ σ' ⟨nl2, cap2, rfl⟩
    rw [trim_ofN hd, hval]
    simp
    have hlx : (ofN (val a / 2 ^ m)).length ≤ 100000 := by
      rw [← hval, ← trim_ofN hd]; exact Nat.le_trans (trim_len l) (by omega)
    refine acall_by (rshl_ctr nl2 (ofN (val a / 2 ^ m)) cap2 m (dig_ofN _) hlx) (by simp [sl]) ?_
    rintro _ ⟨nl3, cap3, rfl⟩
    rw [shlN, if_neg (by omega), Int.toNat_natCast, val_ofN]
    simp
    refine acall_by (rcmp_ctr nl3 nl (ofN (val a / 2 ^ m * 2 ^ m)) a cap3 cap (dig_ofN _) ha ?_ (by omega)) (by simp [sl]) ?_
    · exact ofN_le (Nat.lt_of_le_of_lt (Nat.div_mul_le_self _ _) (val_lt ha)) (by omega)
    rintro _ rfl
    simp
    have hdm := Nat.div_add_mod (val a) (2 ^ m)
    rw [Nat.mul_comm] at hdm
    have e2 : (cmp3 ((val (ofN (val a / 2 ^ m * 2 ^ m)) : Nat) : Int) (val a : Int) == 0) = (val a % 2 ^ m == 0) := by
      rw [val_ofN, cmp3_nat]
      by_cases h : val a % 2 ^ m = 0
      · rw [if_neg (by omega), if_neg (by omega), h]; rfl
      · rw [if_pos (by omega), beq_false_of_ne h]; rfl
    refine hK _ _ _ (.same _ (pu_tup (by simp [sl]))) ((hP _).2 ⟨nl2, cap2, ?_⟩)
    rw [← e2]; rfl

/-! ### The program's -/
@[simp] theorem cast_bne0 (m : Nat) : ((m : Int) != 0) = (m != 0) := by rw [Bool.eq_iff_iff]; simp
@[simp] theorem cast_beq0 (m : Nat) : ((m : Int) == 0) = (m == 0) := by rw [Bool.eq_iff_iff]; simp
theorem and_mask {x : Nat} : x &&& 4294967295 = x % 4294967296 := Nat.and_two_pow_sub_one_eq_mod x 32
theorem and_low (x s : Nat) : x &&& (2 ^ s - 1) = x % 2 ^ s := Nat.and_two_pow_sub_one_eq_mod x s
theorem val_zero_take {a : List Nat} (k : Nat) : (val (a.take (k + 1)) != 0) = (val (a.take k) != 0 || at' a k != 0) := by
  rw [val_take_succ]
  by_cases h1 : val (a.take k) = 0
  · by_cases h2 : at' a k = 0
    · simp [h1, h2]
    · have : 4294967296 ^ k * at' a k ≠ 0 := Nat.mul_ne_zero (Nat.pos_iff_ne_zero.1 (Nat.pow_pos (by decide))) h2
      rw [h1, Nat.zero_add, bne, bne, bne, beq_false_of_ne this, beq_false_of_ne h2]; rfl
  · have : val (a.take k) + 4294967296 ^ k * at' a k ≠ 0 := by omega
    rw [bne, bne, bne, beq_false_of_ne this, beq_false_of_ne h1]; rfl

theorem shr_ctr (nl : Bool) (a : List Nat) (cap : Option Nat) (k : Int) (ha : Dig a) (hl : a.length ≤ 90000) : Ctr Try.prog 27 [sl nl a cap, i k] (shrPost (val a) k) := by
  refine ctr_in Try.func27 rfl (by kernel_rfl) rfl fun K hK => ?_
  by_cases h0 : k < 0
  · simp [Try.f27, h0]
    exact hK _ _ _ (.same _ (pu_tup (by simp))) (by rw [shrPost, if_pos (.inl h0)]; rfl)
  by_cases h1 : 100000 < k
  · simp [Try.f27, h0, h1]
    exact hK _ _ _ (.same _ (pu_tup (by simp))) (by rw [shrPost, if_pos (.inr h1)]; rfl)
  obtain ⟨m, rfl⟩ : ∃ m : Nat, k = m := ⟨k.toNat, by omega⟩
  have hP : ∀ r, shrPost (val a) m r ↔ ∃ nl cap, r = .tup [sl nl (ofN (val a / 2 ^ m)) cap, bo (val a % 2 ^ m == 0)] := fun r => by
    rw [shrPost, if_neg (by omega), Int.toNat_natCast]
  have hm : m ≤ 100000 := by omega
  have hs : min (m % 32) 64 = m % 32 := by omega
  have hs2 : min (m % 32) 32 = m % 32 := by omega
  obtain ⟨Q, hQ⟩ : ∃ Q, Q = m / 32 := ⟨_, rfl⟩
  have hq : IntKind.i64.wrap ((m : Int) / 32) = (Q : Int) := by rw [w64 _ (by omega) (by omega)]; omega
  obtain ⟨M, hM⟩ : ∃ M, M = min Q a.length := ⟨_, rfl⟩
  have hMi : (if (a.length : Int) < (Q : Int) then (a.length : Int) else (Q : Int)) = (M : Int) := by split <;> omega
  simp [Try.f27, Nat.not_lt.2 hm, hq, sl]
  simp only [← Int.ofNat_lt] 
  rw [hMi]
  refine loop_on (γ := Nat) 80 (fun g => [(0, sl nl a cap), (1, i m), (6, bo (val (a.take g) != 0)), (21, i M), (22, i g)]) (fun _ => []) (fun g => g ≤ M) (fun g => M - g)
    0 (Nat.zero_le _) (Wk.lst (by simp [sl, val]) (by simp)) ?_
  intro k hk L hL
  by_cases hkn : k < M
  · have hka : k < a.length := by omega
    have hat : at' a k = a[k] := by simp [at', hka]
    have hz := val_zero_take (a := a) k
    rw [hat] at hz
    have hw1 : IntKind.i64.wrap ((k : Int) + 1) = (k : Int) + 1 := w64 _ (by omega) (by omega)
    by_cases hv : val (a.take k) = 0
    · simp [hkn, sl, hv, hka, hw1]
      refine hL (k + 1) _ _ (by omega) (Wk.lst (by simp [sl, hz, hv]) (by simp)) (by omega)
    · have hv' : (val (a.take k) != 0) = true := by simp [hv]
      simp [hkn, sl, hv, hka, hw1]
      refine hL (k + 1) _ _ (by omega) (Wk.lst (by simp [sl, hz, hv]) (by simp)) (by omega)
  · have : k = M := by omega
    subst this
    by_cases hQa : a.length ≤ Q
    · have hka : k = a.length := by omega
      subst hka
      have hz : val a / 2 ^ m = 0 := by
        rw [shr_fin ha, ← hQ, List.drop_of_length_le hQa]; simp [val]
      have hz2 : val a % 2 ^ m = val a := by
        have := Nat.div_add_mod (val a) (2 ^ m); rw [hz] at this; omega
      simp [hq, hQa, sl]
      refine hK _ _ _ (.same _ (pu_tup (by simp))) ((hP _).2 ⟨true, some 0, ?_⟩)
      rw [hz, hz2, ofN_zero]
      simp [sl, bne]
    · have hkQ : k = Q := by omega
      subst hkQ
      have hQa' : k < a.length := by omega
      obtain ⟨b, hb⟩ : ∃ b, b = a.drop k := ⟨_, rfl⟩
      have hbd : Dig b := by rw [hb]; exact dig_drop ha k
      have hbl : b.length = a.length - k := by rw [hb]; simp
      have hb0 : 0 < b.length := by omega
      have hbe : b.isEmpty = false := by cases b with | nil => simp at hb0 | cons => rfl
      have hx0 := hbd.at hb0
      have hp := pow_small (m % 32) (by omega)
      have hp1 := Nat.two_pow_pos (m % 32)
      obtain ⟨y, hy⟩ : ∃ y, y = 2 ^ (m % 32) := ⟨_, rfl⟩
      have hw : IntKind.u32.wrap ((2 : Int) ^ (m % 32)) = (y : Int) := by
        have e : (y : Int) = (2 : Int) ^ (m % 32) := by rw [hy]; simp
        rw [← e, w32' _ (by omega)]
      have hw2 : IntKind.u32.wrap ((y : Int) - 1) = ((y - 1 : Nat) : Int) := by rw [show (y : Int) - 1 = ((y - 1 : Nat) : Int) by omega, w32' _ (by omega)]
      have hand : bAnd .u32 (b[0] : Int) ((y - 1 : Nat) : Int) = ((b[0] % y : Nat) : Int) := by
        rw [bAnd_u32 hx0 (by omega), hy, and_low]
      have hlt : b[0] % y < 4294967296 := Nat.lt_of_le_of_lt (Nat.mod_le _ _) hx0
      obtain ⟨Z, hZ⟩ : ∃ Z, Z = b[0] % y := ⟨_, rfl⟩
      rw [← hZ] at hand hlt
      have hw3 : IntKind.u32.wrap (Z : Int) = (Z : Int) := w32' _ hlt
      have hmod : (val a % 2 ^ m == 0) = !(val (a.take k) != 0 || Z != 0) := by
        have := shr_mod ha m
        rw [← hQ, ← hy] at this
        have hat : at' a k = b[0] := by simp [at', hb, hQa']
        rw [hat, ← hZ] at this
        rw [this]
        by_cases g1 : val (a.take k) = 0
        · by_cases g2 : Z = 0
          · simp [g1, g2]
          · have : 4294967296 ^ k * (Z) ≠ 0 := Nat.mul_ne_zero (Nat.pos_iff_ne_zero.1 (Nat.pow_pos (by decide))) g2
            rw [g1, Nat.zero_add, bne, bne, beq_false_of_ne this, beq_false_of_ne g2]; rfl
        · have : val (a.take k) + 4294967296 ^ k * (Z) ≠ 0 := by omega
          rw [bne, bne, beq_false_of_ne this, beq_false_of_ne g1]; rfl
      have hae : a.isEmpty = false := by cases a with | nil => simp at hQa' | cons => rfl
      have hsl : List.take (a.length - k) (List.drop k (List.map dg a)) = b.map dg := by
        rw [hb, List.map_drop, List.take_of_length_le (by simp)]
      have hln : ((a.length : Int) - (k : Int)).toNat = b.length := by omega
      have hnn : (0 : Int) ≤ (a.length : Int) - (k : Int) := by omega
      have hbk : ∀ j, at' b j = at' a (k + j) := fun j => by rw [hb]; exact at'_drop a k j
      obtain ⟨S, hS⟩ : ∃ S, S = m % 32 := ⟨_, rfl⟩
      have hSi : (m : Int) % 32 = (S : Int) := by omega
      have hS1 : min S 32 = S := by omega
      have hS2 : min S 64 = S := by omega
      rw [← hS] at hw hs hs2 hp hp1 hy
      have hv0 : (val (a.take k) = 0 ∧ (val (a.take k) != 0) = false) ∨ (val (a.take k) ≠ 0 ∧ (val (a.take k) != 0) = true) := by
        by_cases h : val (a.take k) = 0
        · exact .inl ⟨h, by simp [h]⟩
        · exact .inr ⟨h, by simp [h]⟩
      have rest : ∀ (lost : Bool) (T : Tm) (Q' : Exit → AState → Prop), True := fun _ _ _ => trivial
      simp [hq, hQa', sl, hae, hQa, hSi, Nat.le_of_lt hQa']
      refine draw_on [0, 0, 0, 1, 1, 0, 0, 0, 0, 0, 0, 0] orders (by decide) ?_
      rcases hv0 with ⟨hv0, hv1⟩ | ⟨hv0, hv1⟩
      all_goals
        simp [hv0, hv1, hsl, hln, hb0, hS1, hw, hw2, hand, hw3]
        try refine ⟨by omega, ?_⟩
        refine loop_on (γ := Nat × List Nat × AHeap) 80 (fun g => [(0, sl false b (cap.map (· - k))), (6, bo (val (a.take k) != 0 || Z != 0)), (8, i S), (9, .po 0 0 0), (59, i b.length), (60, i g.1)]) (fun g => g.2.2)
          (fun g => g.1 ≤ b.length ∧ g.2.1.length = g.1 ∧ Dig g.2.1 ∧ val g.2.1 = val b / 2 ^ S % 4294967296 ^ g.1 ∧ DS g.2.2 0 g.2.1) (fun g => b.length - g.1)
          (0, [], _) ⟨Nat.zero_le _, rfl, dig_nil, by simp [val, Nat.mod_one], .nil rfl⟩ (Wk.lst (by simp [sl, hbl, hv0, hv1]) (by simp)) ?_
        rintro ⟨j, l, σ⟩ ⟨hj, hlen, hd, hv, hD⟩ L2 hL2
        simp only at hj hlen hd hv hD
        by_cases hjb : j < b.length
        · simp [hjb]
          refine acall_by (digit_ctr false b (cap.map (· - k)) j hbd) (by simp [sl]) ?_
          rintro _ rfl
          have hw1 : IntKind.i64.wrap ((j : Int) + 1) = ((j + 1 : Nat) : Int) := w64 _ (by omega) (by omega)
          obtain ⟨j1, hj1⟩ : ∃ j1, j1 = j + 1 := ⟨_, rfl⟩
          rw [← hj1] at hw1
          simp [hw1]
          refine acall_by (digit_ctr false b (cap.map (· - k)) j1 hbd) (by simp [sl]) ?_
          rintro _ rfl
          have hst := shr_step (s := S) hbd (by omega) hlen hv
          rw [← hj1] at hst
          have d1 := at'_lt hbd j
          have d2 := at'_lt hbd j1
          have w1 : IntKind.u64.wrap ((at' b j1 : Int) * 4294967296) = ((at' b j1 * 4294967296 : Nat) : Int) := by rw [wrap64u]; omega
          have w2 : bOr .u64 (at' b j) ((at' b j1 * 4294967296 : Nat) : Int) = ((at' b j + 4294967296 * at' b j1 : Nat) : Int) := by
            rw [bOr_u64 (by omega) (by omega), Nat.or_comm, or_add d1, Nat.add_comm, Nat.mul_comm (at' b j1)]
          obtain ⟨X, hX⟩ : ∃ X, X = (at' b j + 4294967296 * at' b j1) / 2 ^ S := ⟨_, rfl⟩
          have w3 := wu (at' b j + 4294967296 * at' b j1) (by omega)
          have w4 : (((at' b j + 4294967296 * at' b j1 : Nat) : Int)).fdiv ((2 : Int) ^ S) = (X : Int) := by
            have e : (2 : Int) ^ S = ((2 ^ S : Nat) : Int) := by simp
            rw [e, fdiv_nat, hX]
          have hXl : X < 18446744073709551616 := by rw [hX]; exact Nat.lt_of_le_of_lt (Nat.div_le_self _ _) (by omega)
          have w5 : bAnd .u64 (X : Int) 4294967295 = ((X % 4294967296 : Nat) : Int) := by
            have h := bAnd_u64 (x := X) (y := 4294967295) hXl (by decide)
            rw [and_mask] at h
            exact h
          have w6 := wu (X % 4294967296) (by omega)
          simp [hS2]
          rw [w1, w2, w3, w4, w5, w6]
          refine lay_call hD (by omega) fun σ' hD' => ?_
          simp [← hj1]
          rw [Nat.mod_mod] at hD'
          rw [← hX] at hst
          exact hL2 (j1, l ++ [X % 4294967296], σ') _ _ ⟨by show j1 ≤ _; omega, by simp [hlen, hj1], dig_snoc hd _, by rw [hj1] at hst ⊢; exact hst, hD'⟩ (Wk.lst (by simp [sl, hw1, hj1]) (by simp)) (by show _ - j1 < _ - j; omega)
        · have : j = b.length := by omega
          subst this
          simp
          refine number_call hD.dn (by omega) fun r σ2 hr => ?_
          obtain ⟨nl2, cap2, hr⟩ := hr
          have hval : val l = val a / 2 ^ m := by
            rw [hv, shr_fin ha, ← hQ, ← hb, hS]
            refine Nat.mod_eq_of_lt (Nat.lt_of_le_of_lt (Nat.div_le_self _ _) (val_lt hbd))
          rw [trim_ofN hd, hval] at hr
          simp
          refine hK _ _ (.tup [sl nl2 (ofN (val a / 2 ^ m)) cap2, bo (val a % 2 ^ m == 0)]) (.tup _ _ rfl fun j hj => ?_) ((hP _).2 ⟨_, _, rfl⟩)
          match j with
          | 0 => exact hr
          | 1 => exact (by rw [hmod]; simp [hv0, hv1])
end Go.Proofs.Nt
