/- The naturals: Shl. -/
import Derived.Test.YtmfnjmcgmogncaaVn12
set_option linter.unusedVariables false
set_option maxRecDepth 20000
set_option linter.unusedSimpArgs false
namespace Go.Proofs.Nt
open Go Go.Proofs Go.Proofs.Va

/-- Digits that are appended to, in whatever slice. -/
inductive OX (σ : AHeap) : AV → List Nat → Prop
  | nil : OX σ (.pl true [] 0 (some 0)) []
  | so (j v : Nat) (l : List Nat) : σ[j]? = some ⟨.own, v, l.map dg⟩ → OX σ (.so j v 0 l.length 1 none) l
  | sc (j v c : Nat) (l : List Nat) : σ[j]? = some ⟨.own, v, l.map dg ++ List.replicate (c - l.length) (dg 0)⟩ → l.length ≤ c → OX σ (.so j v 0 l.length 1 (some c)) l

theorem OX.lie {σ : AHeap} {r : AV} {l : List Nat} (h : OX σ r l) : Lie σ r l := by
  cases h with
  | nil => exact .nil rfl rfl
  | so j v l hj => exact .so j v none [] rfl (by simpa using hj)
  | sc j v c l hj hc => exact .so j v (some c) _ rfl hj

theorem append_ox {σ : AHeap} {r : AV} {l : List Nat} {x : Nat} {K : AV → AHeap → Prop} (h : OX σ r l) (hl : l.length ≤ 1000000) (hK : ∀ r' σ', OX σ' r' (l ++ [x]) → K r' σ') :
    aAppend Try.prog 22 22 r (.so σ.length 0 0 1 1 (some 1)) (σ ++ ([⟨.own, 0, [.v (.int .u32 x)]⟩] : AHeap)) K := by
  cases h with
  | nil =>
    simp
    have := hK (.so (σ.length + 1) 0 0 1 1 none) (σ ++ ([⟨.own, 0, [dg x]⟩, ⟨.own, 0, [dg x]⟩] : AHeap)) (.so _ _ [x] (by simp))
    simpa using this
  | so j v l hj =>
    have hlt := (List.getElem?_eq_some_iff.1 hj).1
    simp [List.getElem?_append_left hlt, hj]
    refine ⟨by omega, ?_⟩
    have := hK (.so j (v + 1) 0 (l ++ [x]).length 1 none) (List.set (σ ++ ([⟨.own, 0, [dg x]⟩] : AHeap)) j ⟨.own, v + 1, l.map dg ++ [dg x]⟩) (.so _ _ _ (by rw [List.getElem?_set_self (by simp; omega)]; simp))
    have e : List.take l.length (List.map dg l) = List.map dg l := List.take_of_length_le (by simp)
    rw [e]
    simpa using this
  | sc j v c l hj hc =>
    have hlt := (List.getElem?_eq_some_iff.1 hj).1
    simp [List.getElem?_append_left hlt, hj]
    have e : List.take l.length (List.map dg l) = List.map dg l := List.take_of_length_le (by simp)
    have e2 : List.take l.length (List.map dg l ++ List.replicate (c - l.length) (dg 0)) = List.map dg l := by rw [List.take_append_of_le_length (by simp)]; exact e
    refine ⟨by omega, ite_and.2 ⟨fun h => ?_, fun h c' hc' => ?_⟩⟩
    · have := hK (.so j (v + 1) 0 (l ++ [x]).length 1 none) (List.set (σ ++ ([⟨.own, 0, [dg x]⟩] : AHeap)) j ⟨.own, v + 1, l.map dg ++ [dg x]⟩) (.so _ _ _ (by rw [List.getElem?_set_self (by simp; omega)]; simp))
      simpa [e, e2] using this
    · have := hK (.so (σ.length + 1) 0 0 (l ++ [x]).length 1 (some c')) (σ ++ ([⟨.own, 0, [dg x]⟩, ⟨.own, 0, (l ++ [x]).map dg ++ List.replicate (c' - (l ++ [x]).length) (dg 0)⟩] : AHeap)) (.sc _ _ _ _ (by simp) (by simpa using hc'))
      simpa [e, e2] using this

/-! ### Shl -/
def shlN (m : Nat) (k : Int) : List Nat := if k < 0 ∨ 100000 < k then [] else ofN (m * 2 ^ k.toNat)
theorem told_nil : Told [] (.pl true [] 0 (some 0)) := ⟨true, some 0, by simp [sl]⟩
theorem pow_split (k : Nat) : 2 ^ k = 4294967296 ^ (k / 32) * 2 ^ (k % 32) := by
  rw [base_pow, ← Nat.pow_add]; congr 1; omega
theorem pow_small (s : Nat) (h : s < 32) : 2 ^ s ≤ 2147483648 := by
  have : 2 ^ s ≤ 2 ^ 31 := Nat.pow_le_pow_right (by decide) (by omega)
  simpa using this

theorem wpow (s : Nat) (h : s < 32) : IntKind.u64.wrap ((2 : Int) ^ s) = ((2 ^ s : Nat) : Int) := by
  have hp := pow_small s h
  have e : ((2 ^ s : Nat) : Int) = (2 : Int) ^ s := by simp
  rw [← e, wu _ (by omega)]

theorem shl_ctr (nl : Bool) (a : List Nat) (cap : Option Nat) (k : Int) (ha : Dig a) (hl : a.length ≤ 100000) : Ctr Try.prog 33 [sl nl a cap, i k] (Told (shlN (val a) k)) := by
  refine ctr_in Try.func33 rfl (by kernel_rfl) rfl fun K hK => ?_
  by_cases h0 : k < 0
  · simp [Try.f33, h0]
    exact hK _ _ _ (.same _ (by simp)) (by rw [shlN, if_pos (.inl h0)]; exact told_nil)
  by_cases h1 : 100000 < k
  · simp [Try.f33, h0, h1]
    exact hK _ _ _ (.same _ (by simp)) (by rw [shlN, if_pos (.inr h1)]; exact told_nil)
  obtain ⟨m, rfl⟩ : ∃ m : Nat, k = m := ⟨k.toNat, by omega⟩
  rw [shlN, if_neg (by omega)] at hK
  simp only [Int.toNat_natCast] at hK
  have hm : m ≤ 100000 := by omega
  have hs : min (m % 32) 64 = m % 32 := by omega
  have hp := pow_small (m % 32) (by omega)
  obtain ⟨y, hy⟩ : ∃ y, y = 2 ^ (m % 32) := ⟨_, rfl⟩
  rw [← hy] at hp
  have hw := wpow (m % 32) (by omega)
  rw [← hy] at hw
  obtain ⟨Q, hQ⟩ : ∃ Q, Q = m / 32 := ⟨_, rfl⟩
  have hq : IntKind.i64.wrap ((m : Int) / 32) = (Q : Int) := by rw [w64 _ (by omega) (by omega)]; omega
  have hy0 : y ≠ 0 := by rw [hy]; exact Nat.pos_iff_ne_zero.1 (Nat.two_pow_pos _)
  simp [Try.f33, Nat.not_lt.2 hm, hs, hw]
  refine acall_by (scale_ctr nl a cap y ha hl (by omega)) (by simp [sl]) ?_
  rintro _ ⟨n1, c1, rfl⟩
  have hmul : val a * 2 ^ m = 4294967296 ^ (m / 32) * (val a * y) := by rw [pow_split m, hy, Nat.mul_left_comm]
  rw [← hQ] at hmul
  rw [hmul] at hK
  by_cases hz : val a * y = 0
  · rw [hz, Nat.mul_zero] at hK
    simp [hz, ofN_zero, sl]
    exact hK _ _ _ (.same _ (by simp)) (by rw [ofN_zero]; exact told_nil)
  · rw [← ofN_shift _ _ hz] at hK
    have hne : ofN (val a * y) ≠ [] := fun h => hz (ofN_nil.1 h)
    have hlen : (ofN (val a * y)).length ≤ 100001 := by
      refine ofN_le (j := a.length + 1) ?_ (by omega)
      rw [Nat.pow_succ]
      exact Nat.mul_lt_mul'' (val_lt ha) (by omega)
    generalize ofN (val a * y) = x at *
    obtain ⟨S, hS⟩ : ∃ S, S = Q + x.length := ⟨_, rfl⟩
    have hwl : IntKind.i64.wrap ((Q : Int) + (x.length : Int)) = (S : Int) := by rw [w64 _ (by omega) (by omega)]; omega
    have hQS : Q ≤ S := by omega
    simp [hne, sl, hq, hwl, hQS, ← hS]
    refine ⟨by omega, by omega, ?_⟩
    refine hK _ _ _ (isSl_so (a := List.replicate Q 0 ++ x) rfl (fun h => by cases h) (by simp; omega) (by simp) (fun l hl => ?_)) ⟨false, none, rfl⟩
    have e : ([.v (.int .u32 0)] : List AV) = [dg 0] := rfl
    have e2 : List.replicate Q (AV.v (Value.int IntKind.u32 0)) ++ List.map dg x = List.map dg (List.replicate Q 0 ++ x) := by simp
    have hl' : l < (List.replicate Q 0 ++ x).length := hl
    simp only [Nat.zero_add]
    rw [e2, List.getElem?_map, List.getElem?_eq_getElem hl']; rfl

theorem scale_step {a l : List Nat} {k c y : Nat} (hlen : l.length = k) (hv : val l + 4294967296 ^ k * c = val (a.take k) * y) :
    val (l ++ [(at' a k * y + c) % 4294967296]) + 4294967296 ^ (k + 1) * ((at' a k * y + c) / 4294967296) = val (a.take (k + 1)) * y := by
  rw [val_snoc, val_take_succ, hlen, Nat.pow_succ, Nat.add_mul, ← hv]
  have h3 := carry_step (P := 4294967296 ^ k) (Nat.mod_add_div (at' a k * y + c) 4294967296)
  rw [Nat.mul_add] at h3
  rw [Nat.add_assoc, h3, Nat.mul_assoc, ← Nat.add_assoc]
  omega

theorem rshl_ctr (nl : Bool) (a : List Nat) (cap : Option Nat) (k : Int) (ha : Dig a) (hl : a.length ≤ 100000) : Ctr Try.prog 34 [sl nl a cap, i k] (Told (shlN (val a) k)) := by
  refine ctr_in Try.func34 rfl (by kernel_rfl) rfl fun K hK => ?_
  by_cases h0 : k < 0
  · simp [Try.f34, h0]
    exact hK _ _ _ (.same _ (by simp)) (by rw [shlN, if_pos (.inl h0)]; exact told_nil)
  by_cases h1 : 100000 < k
  · simp [Try.f34, h0, h1]
    exact hK _ _ _ (.same _ (by simp)) (by rw [shlN, if_pos (.inr h1)]; exact told_nil)
  obtain ⟨m, rfl⟩ : ∃ m : Nat, k = m := ⟨k.toNat, by omega⟩
  rw [shlN, if_neg (by omega)] at hK
  simp only [Int.toNat_natCast] at hK
  have hm : m ≤ 100000 := by omega
  have hs : min (m % 32) 64 = m % 32 := by omega
  have hp := pow_small (m % 32) (by omega)
  obtain ⟨y, hy⟩ : ∃ y, y = 2 ^ (m % 32) := ⟨_, rfl⟩
  have hyI : (2 : Int) ^ (m % 32) = (y : Int) := by rw [hy]; simp
  rw [← hy] at hp
  have hy0 : y ≠ 0 := by rw [hy]; exact Nat.pos_iff_ne_zero.1 (Nat.two_pow_pos _)
  obtain ⟨Q, hQ⟩ : ∃ Q, Q = m / 32 := ⟨_, rfl⟩
  have hq : IntKind.i64.wrap ((m : Int) / 32) = (Q : Int) := by rw [w64 _ (by omega) (by omega)]; omega
  have hmul : val a * 2 ^ m = 4294967296 ^ Q * (val a * y) := by rw [pow_split m, hy, Nat.mul_left_comm, hQ]
  rw [hmul] at hK
  simp [Try.f34, Nat.not_lt.2 hm, hq]
  refine ⟨⟨by omega, by omega⟩, ?_⟩
  refine loop_on (γ := Nat × Nat × List Nat × AV × AHeap) 48 (fun g => [(0, sl nl a cap), (1, i m), (5, g.2.2.2.1), (6, u g.2.1), (7, i g.1)]) (fun g => g.2.2.2.2)
    (fun g => g.1 ≤ a.length ∧ g.2.1 < y ∧ g.2.2.1.length = g.1 ∧ Dig g.2.2.1 ∧ val g.2.2.1 + 4294967296 ^ g.1 * g.2.1 = val (a.take g.1) * y ∧ OX g.2.2.2.2 g.2.2.2.1 (List.replicate Q 0 ++ g.2.2.1)) (fun g => a.length - g.1)
    (0, 0, [], _, _) ⟨Nat.zero_le _, by show 0 < y; omega, rfl, dig_nil, by simp [val], ?_⟩ (Wk.lst (by simp [sl]; exact wk1_refl _) (by simp)) ?_
  · have := OX.sc (σ := ([⟨.own, 0, List.replicate Q (dg 0)⟩] : AHeap)) 0 0 Q (List.replicate Q 0) (by simp) (by simp)
    simpa using this
  rintro ⟨k, c, l, r, σ⟩ ⟨hk, hc, hlen, hd, hv, hD⟩ L hL
  simp only at hk hc hlen hd hv hD
  have hz : Dig (List.replicate Q 0) := fun x hx => by rw [List.mem_replicate] at hx; omega
  by_cases hkn : k < a.length
  · have hx := ha.at hkn
    have hat : at' a k = a[k] := by simp [at', hkn]
    have hmx : a[k] * y ≤ 4294967295 * 2147483648 := Nat.mul_le_mul (by omega) hp
    have hmx2 : a[k] * y + y ≤ 4294967296 * y := by have := Nat.mul_le_mul_right y (show a[k] + 1 ≤ 4294967296 by omega); rw [Nat.add_mul, Nat.one_mul] at this; exact this
    have hcy : (a[k] * y + c) / 4294967296 < y := (Nat.div_lt_iff_lt_mul (by decide)).2 (by rw [Nat.mul_comm y]; omega)
    have hw1 : IntKind.u64.wrap (a[k] : Int) = (a[k] : Int) := wu _ (by omega)
    have hw2 : IntKind.u64.wrap ((a[k] : Int) * (y : Int)) = ((a[k] * y : Nat) : Int) := by rw [← Int.natCast_mul, wu _ (by omega)]
    have hw3 : IntKind.u64.wrap (((a[k] * y : Nat) : Int) + (c : Int)) = ((a[k] * y + c : Nat) : Int) := wuc _ _ (by omega) (by omega)
    have hst := scale_step (a := a) hlen hv
    rw [hat] at hst
    obtain ⟨X, hX⟩ : ∃ X, X = a[k] * y + c := ⟨_, rfl⟩
    rw [← hX] at hw3 hst hcy
    simp [hkn, sl, -aAppend, hs, hyI, hw1]
    rw [hw2, hw3, w32]
    refine append_ox hD (by simp; omega) fun r' σ' h => ?_
    simp
    refine hL (k + 1, X / 4294967296, l ++ [X % 4294967296], r', σ') _ _ ⟨by show k + 1 ≤ _; omega, hcy, by simp [hlen], dig_snoc hd _, hst, by simpa using h⟩ (Wk.lst (by simp [sl]; rw [w64 _ (by omega) (by omega)]) (by simp)) (by show _ - (k + 1) < _ - k; omega)
  · have : k = a.length := by omega
    subst this
    rw [take_max (Nat.le_refl _)] at hv
    have hcc : IntKind.u32.wrap (c : Int) = (c : Int) := w32' c (by omega)
    simp [sl, -aAppend, hcc]
    refine append_ox (x := c) hD (by simp; omega) fun r' σ' h => ?_
    simp
    refine call_lie h.lie (fun nl cap => rtrim_ctr nl _ cap (by simp; omega)) ?_
    rintro _ σ' ⟨nl2, cap2, rfl⟩
    have e : trimL (List.replicate Q 0 ++ l ++ [c]) = ofN (4294967296 ^ Q * (val a * y)) := by
      have hdc : Dig [c] := fun x hx => by rw [List.mem_singleton] at hx; omega
      rw [trim_ofN (dig_append (dig_append hz hd) hdc), val_snoc, val_append]
      have hz0 : ∀ n, val (List.replicate n 0) = 0 := fun n => by induction n with
        | zero => rfl
        | succ n ih => rw [List.replicate_succ, val, ih]
      rw [hz0, List.length_append, List.length_replicate, hlen, Nat.pow_add, Nat.zero_add, Nat.mul_assoc, ← Nat.mul_add, hv]
    rw [e]
    simp
    exact hK _ _ _ (.same _ (by simp [sl])) ⟨_, _, rfl⟩
end Go.Proofs.Nt
