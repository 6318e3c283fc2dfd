import Derived.Test.YtnhhlamecljhhaaGreatWa
import Derived.Test.YtnhhlamecljhhaaGreatWb
import Derived.Test.YtnhhlamecljhhaaGreatWc
import Derived.Test.YtnhhlamecljhhaaGreatWd
import Derived.Laws.FloatArith
/- Dyads: what is told of their type; Check, Same, Small. -/
set_option linter.unusedVariables false
set_option maxRecDepth 20000
set_option linter.unusedSimpArgs false
namespace Go.Proofs.Nt
open Go Go.Proofs Go.Proofs.Va Go.RowKit

@[simp] theorem fldD0 : fldT Tryz.prog 49 0 = some (4, 0) := by kernel_rfl
@[simp] theorem fldD1 : fldT Tryz.prog 49 1 = some (47, 1) := by kernel_rfl
@[simp] theorem fldD2 : fldT Tryz.prog 49 2 = some (3, 2) := by kernel_rfl
@[simp] theorem szD : szT Tryz.prog 49 = some 3 := by kernel_rfl
@[simp] theorem szB : szT Tryz.prog 4 = some 1 := by kernel_rfl
@[simp] theorem aggD : aggT Tryz.prog 49 = some true := by kernel_rfl
@[simp] theorem aggB : aggT Tryz.prog 4 = some false := by kernel_rfl
@[simp] theorem zcD : zcT Tryz.prog 49 = some [.v (.bool false), .pl true [] 0 (some 0), .v (.int .i64 0)] := by kernel_rfl

/-- A dyad, as a value. -/
def dy (neg nl : Bool) (a : List Nat) (cap : Option Nat) (e : Int) : AV := .agg [bo neg, sl nl a cap, i e]

theorem cells_dy (neg nl : Bool) (a : List Nat) (cap : Option Nat) (e : Int) : cellsOf (dy neg nl a cap e) = some [bo neg, sl nl a cap, i e] := rfl
theorem cells_sl (nl : Bool) (a : List Nat) (cap : Option Nat) : cellsOf (sl nl a cap) = some [sl nl a cap] := rfl

/-- Whether a dyad may be. -/
def dOk (neg : Bool) (a : List Nat) (e : Int) : Bool := if a = [] then !neg && decide (e = 0) else (trimL a == a) && decide (at' a 0 % 2 = 1) && decide (-20000 ≤ e) && decide (e ≤ 20000)

theorem same3_ctr (neg nl neg' nl' : Bool) (a b : List Nat) (cap cap' : Option Nat) (e e' : Int) (hl : a.length ≤ 1000000) (hl' : b.length ≤ 1000000) :
    Ctr Tryz.prog 15 [dy neg nl a cap e, dy neg' nl' b cap' e'] (fun r => r = bo (neg == neg' && decide (e = e') && (a == b))) := by
  refine ctr_in Tryz.func15 rfl (by kernel_rfl) rfl fun K hK => ?_
  simp only [Tryz.f15, List.append_eq, List.cons_append, List.nil_append]
  by_cases h1 : neg = neg'
  · subst h1
    by_cases h2 : e = e'
    · subst h2
      simp [cells_dy, cells_sl, aLen_sl, -cellsOf]
      refine acall_by (same_ctr nl nl' a b cap cap' hl hl') (by simp [sl]) ?_
      rintro _ rfl
      simp
      exact hK _ _ _ (.same _ (by simp)) (by simp)
    · simp [cells_dy, cells_sl, aLen_sl, h2, -cellsOf]
      exact hK _ _ _ (.same _ (by simp)) (by simp [h2])
  · simp [cells_dy, cells_sl, aLen_sl, h1, -cellsOf]
    exact hK _ _ _ (.same _ (by simp)) (by simp [h1])

theorem dcheck_ctr (neg nl : Bool) (a : List Nat) (cap : Option Nat) (e : Int) (ha : Dig a) (hl : a.length ≤ 1000000) : Ctr Tryz.prog 84 [dy neg nl a cap e] (fun r => r = bo (dOk neg a e)) := by
  refine ctr_in Tryz.func84 rfl (by kernel_rfl) rfl fun K hK => ?_
  simp only [Tryz.f84, List.append_eq, List.cons_append, List.nil_append]
  rcases a with _ | ⟨x, l⟩
  · cases neg
    · by_cases h2 : e = 0
      · simp [cells_dy, cells_sl, aLen_sl, h2, -cellsOf]
        exact hK _ _ _ (.same _ (by simp)) (by simp [h2, dOk])
      · simp [cells_dy, cells_sl, aLen_sl, h2, -cellsOf]
        exact hK _ _ _ (.same _ (by simp)) (by simp [h2, dOk])
    · simp [cells_dy, cells_sl, aLen_sl, -cellsOf]
      exact hK _ _ _ (.same _ (by simp)) (by simp [dOk])
  · have hx : x < 4294967296 := ha x (by simp)
    have h0 : ¬ ((l.length : Int) + 1 = 0) := by omega
    simp [cells_dy, cells_sl, aLen_sl, h0, -cellsOf]
    refine acall_by (check_ctr nl (x :: l) cap hl) (by simp [sl]) ?_
    rintro _ rfl
    have hat : at' (x :: l) 0 = x := by simp [at']
    have hnd : IntKind.u32.wrap (bAnd .u32 (x : Int) 1) = ((x % 2 : Nat) : Int) := by
      rw [show (1 : Int) = ((1 : Nat) : Int) from rfl, bAnd_u32 hx (by decide), Nat.and_one_is_mod, w32' _ (by omega)]
    have hp1 : ((x % 2 : Nat) : Int) = 1 ↔ x % 2 = 1 := by omega
    by_cases ht : trimL (x :: l) = x :: l
    · by_cases hp : x % 2 = 1
      · by_cases h2 : -20000 ≤ e
        · simp [sl, ht, hnd, hp1, hp, h2, -Int.natCast_emod]
          exact hK _ _ _ (.same _ (by simp)) (by simp [dOk, hat, ht, hp, h2])
        · simp [sl, ht, hnd, hp1, hp, h2, -Int.natCast_emod]
          exact hK _ _ _ (.same _ (by simp)) (by simp [dOk, hat, ht, hp, h2])
      · simp [sl, ht, hnd, hp1, hp, -Int.natCast_emod]
        exact hK _ _ _ (.same _ (by simp)) (by simp [dOk, hat, ht, hp])
    · simp [ht]
      exact hK _ _ _ (.same _ (by simp)) (by simp [dOk, ht])

end Go.Proofs.Nt
/- Dyads: may. -/
set_option linter.unusedVariables false
set_option maxRecDepth 20000
set_option linter.unusedSimpArgs false
namespace Go.Proofs.Nt
open Go Go.Proofs Go.Proofs.Va Go.RowKit

@[simp] theorem placesD : placesT Tryz.prog 49 = some [(0, 1), (1, 1), (2, 1)] := by kernel_rfl
theorem cells_ag (neg nl : Bool) (a : List Nat) (cap : Option Nat) (e : Int) : cellsOf (AV.agg [AV.v (.bool neg), sl nl a cap, AV.v (.int .i64 e)]) = some [AV.v (.bool neg), sl nl a cap, AV.v (.int .i64 e)] := rfl
theorem cells_ag0 : cellsOf (AV.agg [AV.v (.bool false), .pl true [] 0 (some 0), AV.v (.int .i64 0)]) = some [AV.v (.bool false), .pl true [] 0 (some 0), AV.v (.int .i64 0)] := rfl
theorem pu_dy (neg nl : Bool) (a : List Nat) (cap : Option Nat) (e : Int) : Pu (dy neg nl a cap e) := pu_agg (by simp [sl])

/-- A dyad that is told. -/
def dTold (d : Bool × List Nat × Int) (r : AV) : Prop := ∃ nl cap, r = dy d.1 nl d.2.1 cap d.2.2
def mayD (neg : Bool) (a : List Nat) (e : Int) : Bool × List Nat × Int := if dOk neg a e = true then (neg, a, e) else (false, [], 0)

theorem may_ctr (neg nl : Bool) (a : List Nat) (cap : Option Nat) (e : Int) (ha : Dig a) (hl : a.length ≤ 1000000) : Ctr Tryz.prog 74 [dy neg nl a cap e] (dTold (mayD neg a e)) := by
  refine ctr_in Tryz.func74 rfl (by kernel_rfl) rfl fun K hK => ?_
  simp only [Tryz.f74, List.append_eq, List.cons_append, List.nil_append]
  simp [cells_dy, cells_sl, -cellsOf]
  refine acall_by (dcheck_ctr neg nl a cap e ha hl) (by simpa [dy] using pu_dy neg nl a cap e) ?_
  rintro _ rfl
  by_cases hk : dOk neg a e = true
  · simp [hk, cells_dy, cells_sl, cells_ag, wr, -cellsOf]
    exact hK _ _ _ (.same _ (pu_dy neg nl a cap e)) ⟨nl, cap, by rw [mayD, if_pos hk]; rfl⟩
  · simp [hk, cells_dy, cells_sl, cells_ag0, wr, -cellsOf]
    exact hK _ _ _ (.same _ (pu_dy false true [] (some 0) 0)) ⟨true, some 0, by rw [mayD, if_neg hk]; rfl⟩

end Go.Proofs.Nt
/- Plain mathematics: how often a number can be halved. -/
set_option linter.unusedVariables false
set_option linter.unusedSimpArgs false
namespace Go.Proofs.Nt
open Go Go.Proofs

/-- How often a number above 0 can be halved. -/
def tz (n : Nat) : Nat := if h : n = 0 ∨ n % 2 = 1 then 0 else tz (n / 2) + 1
termination_by n
decreasing_by omega

theorem tz_odd {n : Nat} (h : n % 2 = 1) : tz n = 0 := by rw [tz, dif_pos (.inr h)]
theorem tz_even {n : Nat} (h0 : n ≠ 0) (h : n % 2 = 0) : tz n = tz (n / 2) + 1 := by rw [tz, dif_neg (by omega)]

theorem tz_top {n : Nat} (h : n ≠ 0) : n / 2 ^ tz n % 2 = 1 := by
  induction n using Nat.strongRecOn with
  | _ n ih =>
    by_cases h1 : n % 2 = 1
    · rw [tz_odd h1, Nat.pow_zero, Nat.div_one]; exact h1
    · rw [tz_even h (by omega), Nat.pow_succ, Nat.mul_comm, ← Nat.div_div_eq_div_mul]
      exact ih (n / 2) (by omega) (by omega)

theorem tz_low {n p : Nat} (h : p < tz n) : n / 2 ^ p % 2 = 0 := by
  induction p generalizing n with
  | zero =>
    rw [Nat.pow_zero, Nat.div_one]
    rcases Nat.mod_two_eq_zero_or_one n with h1 | h1
    · exact h1
    · rw [tz_odd h1] at h; omega
  | succ p ih =>
    by_cases h0 : n = 0 ∨ n % 2 = 1
    · rw [tz, dif_pos h0] at h; omega
    · rw [tz_even (by omega) (by omega)] at h
      rw [Nat.pow_succ, Nat.mul_comm, ← Nat.div_div_eq_div_mul]
      exact ih (by omega)

theorem tz_mod (n : Nat) : n % 2 ^ tz n = 0 := by
  induction n using Nat.strongRecOn with
  | _ n ih =>
    by_cases h0 : n = 0 ∨ n % 2 = 1
    · rw [tz, dif_pos h0, Nat.pow_zero, Nat.mod_one]
    · rw [tz_even (by omega) (by omega), Nat.pow_succ, Nat.mul_comm, Nat.mod_mul, ih (n / 2) (by omega)]
      omega

theorem tz_eq {n : Nat} : n = 2 ^ tz n * (n / 2 ^ tz n) := by
  have := Nat.div_add_mod n (2 ^ tz n)
  rw [tz_mod, Nat.add_zero] at this
  exact this.symm

theorem tz_mul {m : Nat} (k : Nat) (h : m ≠ 0) : tz (2 ^ k * m) = k + tz m := by
  induction k with
  | zero => simp
  | succ k ih =>
    have hp : 2 ^ k * m ≠ 0 := Nat.mul_ne_zero (Nat.pos_iff_ne_zero.1 (Nat.two_pow_pos k)) h
    have e : 2 ^ (k + 1) * m = 2 * (2 ^ k * m) := by rw [Nat.pow_succ, Nat.mul_comm (2 ^ k), Nat.mul_assoc]
    rw [e, tz_even (by omega) (by omega), Nat.mul_div_cancel_left _ (by decide), ih]
    omega

theorem tz_lt {n : Nat} (h : n ≠ 0) : tz n < bl n := by
  have h1 := bl_high n
  rcases Nat.lt_or_ge (tz n) (bl n) with h2 | h2
  · exact h2
  · have h3 : n < 2 ^ tz n := Nat.lt_of_lt_of_le h1 (Nat.pow_le_pow_right (by decide) h2)
    have h4 := tz_top h
    rw [Nat.div_eq_of_lt h3] at h4
    omega
end Go.Proofs.Nt
/- Dyads: twos, Norm. -/
set_option linter.unusedVariables false
set_option maxRecDepth 20000
set_option linter.unusedSimpArgs false
namespace Go.Proofs.Nt
open Go Go.Proofs Go.Proofs.Va Go.RowKit

theorem cells_vb (b : Bool) : cellsOf (AV.v (.bool b)) = some [AV.v (.bool b)] := rfl
theorem cells_vi (k : IntKind) (n : Int) : cellsOf (AV.v (.int k n)) = some [AV.v (.int k n)] := rfl

theorem twos_ctr (nl : Bool) (a : List Nat) (cap : Option Nat) (ha : Dig a) (hv : val a ≠ 0) (hl : a.length ≤ 100000) : Ctr Tryz.prog 101 [sl nl a cap] (fun r => r = i (tz (val a))) := by
  refine ctr_in Tryz.func101 rfl (by kernel_rfl) rfl fun K hK => ?_
  simp [Tryz.f101]
  have hbl : bl (val a) ≤ 32 * a.length := bl_le (by rw [← base_pow]; exact val_lt ha)
  have htb := tz_lt hv
  refine loop_on (γ := Nat) 17 (fun g => [(0, sl nl a cap), (3, i (g : Int))]) (fun _ => []) (fun g => g ≤ tz (val a)) (fun g => tz (val a) - g)
    0 (Nat.zero_le _) (Wk.lst (by simp [sl]) (by simp)) ?_
  intro p hp L hL
  have hbit := bit_at ha p
  have hpl : p / 32 < a.length := by omega
  have hat : at' a (p / 32) = a[p / 32] := by simp [at', hpl]
  rw [hat] at hbit
  have hxx : a[p / 32] < 4294967296 := ha.at hpl
  have hq : IntKind.i64.wrap ((p : Int) / 32) = ((p / 32 : Nat) : Int) := by rw [w64 _ (by omega) (by omega)]; omega
  have hw1 : IntKind.i64.wrap ((p : Int) + 1) = ((p + 1 : Nat) : Int) := w64 _ (by omega) (by omega)
  obtain ⟨P, hP⟩ : ∃ P, P = p / 32 := ⟨_, rfl⟩
  rw [← hP] at hq
  simp only [← hP] at hpl hbit hxx
  have hs : min (p % 32) 32 = p % 32 := by omega
  have hcc : IntKind.u32.wrap (bAnd .u32 (((a[P] : Nat) : Int).fdiv (2 ^ (p % 32))) 1) = ((val a / 2 ^ p % 2 : Nat) : Int) := by
    have h2 : (0 : Int) ≤ 2 ^ (p % 32) := Int.le_of_lt (Int.pow_pos (by decide))
    have h3 : ((a[P] : Nat) : Int).fdiv (2 ^ (p % 32)) = ((a[P] / 2 ^ (p % 32) : Nat) : Int) := by
      rw [Int.fdiv_eq_ediv_of_nonneg _ h2, Int.natCast_ediv, Int.natCast_pow]; rfl
    have h4 : a[P] / 2 ^ (p % 32) ≤ a[P] := Nat.div_le_self _ _
    rw [h3, show (1 : Int) = ((1 : Nat) : Int) from rfl, bAnd_u32 (by omega) (by decide), Nat.and_one_is_mod, hbit, w32' _ (by omega)]
  rcases (by omega : p < tz (val a) ∨ p = tz (val a)) with h | h
  · have hz : val a / 2 ^ p % 2 = 0 := tz_low h
    rw [hz] at hcc
    simp [sl, hq, hpl, hs, hcc]
    exact hL (p + 1) _ _ (by omega) (Wk.lst (by simp [sl, hw1]) (by simp)) (by omega)
  · have hz : val a / 2 ^ p % 2 = 1 := by rw [h]; exact tz_top hv
    rw [hz] at hcc
    simp [sl, hq, hpl, hs, hcc]
    exact hK _ _ _ (.same _ (by simp)) (by rw [h]; rfl)

/-- The dyad of a number, times a power of two. -/
def normD (neg : Bool) (n : Nat) (e : Int) : Bool × List Nat × Int :=
  if n = 0 ∨ e < -1000000 ∨ 1000000 < e ∨ e + tz n < -20000 ∨ 20000 < e + tz n then (false, [], 0) else (neg, ofN (n / 2 ^ tz n), e + tz n)

theorem norm_ctr (neg nl : Bool) (a : List Nat) (cap : Option Nat) (e : Int) (ha : Dig a) (hl : a.length ≤ 3000) : Ctr Tryz.prog 72 [bo neg, sl nl a cap, i e] (dTold (normD neg (val a) e)) := by
  refine ctr_in Tryz.func72 rfl (by kernel_rfl) rfl fun K hK => ?_
  simp only [Tryz.f72, List.append_eq, List.cons_append, List.nil_append]
  have hbl : bl (val a) ≤ 32 * a.length := bl_le (by rw [← base_pow]; exact val_lt ha)
  simp
  refine acall_by (len_ctr nl a cap ha (by omega)) (by simp [sl]) ?_
  rintro _ rfl
  by_cases h0 : val a = 0
  · rw [h0, show bl 0 = 0 from bl_zero]
    simp [cells_ag0, wr, -cellsOf]
    exact hK _ _ _ (.same _ (pu_dy false true [] (some 0) 0)) ⟨true, some 0, by rw [normD, if_pos (.inl h0)]; rfl⟩
  have hb0 : ¬ bl (val a) = 0 := by have := bl_pos h0; omega
  by_cases h1 : e < -1000000
  · simp [hb0, h1, cells_ag0, wr, -cellsOf]
    exact hK _ _ _ (.same _ (pu_dy false true [] (some 0) 0)) ⟨true, some 0, by rw [normD, if_pos (.inr (.inl h1))]; rfl⟩
  by_cases h2 : 1000000 < e
  · simp [hb0, h1, h2, cells_ag0, wr, -cellsOf]
    exact hK _ _ _ (.same _ (pu_dy false true [] (some 0) 0)) ⟨true, some 0, by rw [normD, if_pos (.inr (.inr (.inl h2)))]; rfl⟩
  have htb := tz_lt h0
  have hw : IntKind.i64.wrap (e + (tz (val a) : Int)) = e + tz (val a) := w64 _ (by omega) (by omega)
  simp [hb0, h1, h2]
  refine acall_by (twos_ctr nl a cap ha h0 (by omega)) (by simp [sl]) ?_
  rintro _ rfl
  simp
  refine acall_by (shr_ctr nl a cap _ ha (by omega)) (by simp [sl]) ?_
  intro y hy
  rw [shrPost, if_neg (by omega), Int.toNat_natCast] at hy
  obtain ⟨n1, c1, rfl⟩ := hy
  by_cases h3 : e + (tz (val a) : Int) < -20000
  · simp [hw, h3, cells_ag0, wr, -cellsOf]
    exact hK _ _ _ (.same _ (pu_dy false true [] (some 0) 0)) ⟨true, some 0, by rw [normD, if_pos (.inr (.inr (.inr (.inl h3))))]; rfl⟩
  by_cases h4 : 20000 < e + (tz (val a) : Int)
  · simp [hw, h3, h4, cells_ag0, wr, -cellsOf]
    exact hK _ _ _ (.same _ (pu_dy false true [] (some 0) 0)) ⟨true, some 0, by rw [normD, if_pos (.inr (.inr (.inr (.inr h4))))]; rfl⟩
  simp [hw, h3, h4, cells_sl, cells_ag, cells_vb, cells_vi, wr, -cellsOf]
  exact hK _ _ _ (.same _ (pu_dy neg n1 (ofN (val a / 2 ^ tz (val a))) c1 (e + tz (val a)))) ⟨n1, c1, by rw [normD, if_neg (by omega)]; rfl⟩
end Go.Proofs.Nt
/- Dyads: the document's Norm. -/
set_option linter.unusedVariables false
set_option maxRecDepth 20000
set_option linter.unusedSimpArgs false
namespace Go.Proofs.Nt
open Go Go.Proofs Go.Proofs.Va Go.RowKit

theorem halve {V m j : Nat} (k : Nat) (hk : 0 < k) (h : m % 2 ^ k = 0) (hm0 : m ≠ 0) (hm : V = 2 ^ j * m) : (m / 2 ^ k ≠ 0 ∧ V = 2 ^ (j + k) * (m / 2 ^ k)) ∧ m / 2 ^ k < m := by
  have e := Nat.div_add_mod m (2 ^ k)
  rw [h, Nat.add_zero] at e
  have hq : m / 2 ^ k ≠ 0 := fun h0 => hm0 (by rw [← e, h0, Nat.mul_zero])
  refine ⟨⟨hq, ?_⟩, Nat.div_lt_self (by omega) (Nat.one_lt_two_pow (by omega))⟩
  rw [Nat.pow_add, Nat.mul_assoc, e, hm]

theorem rnorm_ctr (neg nl : Bool) (a : List Nat) (cap : Option Nat) (e : Int) (ha : Dig a) (hl : a.length ≤ 3000) : Ctr Tryz.prog 16 [bo neg, sl nl a cap, i e] (dTold (normD neg (val a) e)) := by
  refine ctr_in Tryz.func16 rfl (by kernel_rfl) rfl fun K hK => ?_
  simp only [Tryz.f16, List.append_eq, List.cons_append, List.nil_append]
  have hbl : bl (val a) ≤ 32 * a.length := bl_le (by rw [← base_pow]; exact val_lt ha)
  simp
  refine acall_by (rtrim_ctr nl a cap (by omega)) (by simp [sl]) ?_
  rintro _ ⟨n1, c1, rfl⟩
  rw [trim_ofN ha]
  by_cases h0 : val a = 0
  · simp [aLen_sl, h0, ofN_zero, cells_ag0, wr, -cellsOf]
    exact hK _ _ _ (.same _ (pu_dy false true [] (some 0) 0)) ⟨true, some 0, by rw [normD, if_pos (.inl h0)]; rfl⟩
  have hb0 : ¬ ofN (val a) = [] := fun h => h0 (ofN_nil.1 h)
  by_cases h1 : e < -1000000
  · simp [aLen_sl, hb0, h1, cells_ag0, wr, -cellsOf]
    exact hK _ _ _ (.same _ (pu_dy false true [] (some 0) 0)) ⟨true, some 0, by rw [normD, if_pos (.inr (.inl h1))]; rfl⟩
  by_cases h2 : 1000000 < e
  · simp [aLen_sl, hb0, h1, h2, cells_ag0, wr, -cellsOf]
    exact hK _ _ _ (.same _ (pu_dy false true [] (some 0) 0)) ⟨true, some 0, by rw [normD, if_pos (.inr (.inr (.inl h2)))]; rfl⟩
  have htb := tz_lt h0
  have hoa := ofN_val_le ha hl
  simp [aLen_sl, hb0, h1, h2]
  refine loop_on (γ := Nat × Nat × Bool × Option Nat) 55 (fun g => [(0, bo neg), (2, i (e + (g.2.1 : Int))), (6, .po 0 0 0), (7, sl g.2.2.1 (ofN g.1) g.2.2.2)]) (fun _ => [⟨.own, 0, [.v (.bool false), .pl true [] 0 (some 0), .v (.int .i64 0)]⟩])
    (fun g => g.1 ≠ 0 ∧ val a = 2 ^ g.2.1 * g.1) (fun g => g.1)
    (val a, 0, n1, c1) ⟨h0, by simp⟩ (Wk.lst (by simp [sl]) (by simp)) ?_
  rintro ⟨m, j, n2, c2⟩ ⟨hm0, hm⟩ L hL
  simp only at hm0 hm
  have htz : tz (val a) = j + tz m := by rw [hm]; exact tz_mul j hm0
  have hma : m ≤ val a := by rw [hm]; exact Nat.le_mul_of_pos_left _ (Nat.two_pow_pos j)
  have hml := ofN_low hma hoa
  have hof := ofN_pos hm0
  obtain ⟨x, l, hxl⟩ : ∃ x l, ofN m = x :: l := ⟨_, _, hof⟩
  have hx : x = m % 4294967296 := by rw [hof] at hxl; exact (List.cons.inj hxl).1.symm
  have hd : Dig (x :: l) := hxl ▸ dig_ofN m
  have hv : val (x :: l) = m := by rw [← hxl, val_ofN]
  rw [hxl] at hml ⊢
  rw [show sl n2 (x :: l) c2 = sl false (x :: l) c2 by simp [sl]]
  by_cases hodd : m % 2 = 1
  · have hx2 : ¬ ((x : Int) % 2 = 0) := by omega
    have hj : tz (val a) = j := by rw [htz, tz_odd hodd, Nat.add_zero]
    have hdm : val a / 2 ^ tz (val a) = m := by rw [hj, hm, Nat.mul_div_cancel_left _ (Nat.two_pow_pos j)]
    by_cases h3 : e + (j : Int) < -20000
    · simp [sl, hx2, h3, cells_ag0, wr, -cellsOf]
      exact hK _ _ _ (.same _ (pu_dy false true [] (some 0) 0)) ⟨true, some 0, by rw [normD, if_pos (.inr (.inr (.inr (.inl (by omega)))))]; rfl⟩
    by_cases h4 : 20000 < e + (j : Int)
    · simp [sl, hx2, h3, h4, cells_ag0, wr, -cellsOf]
      exact hK _ _ _ (.same _ (pu_dy false true [] (some 0) 0)) ⟨true, some 0, by rw [normD, if_pos (.inr (.inr (.inr (.inr (by omega)))))]; rfl⟩
    simp [sl, hx2, h3, h4, wr]
    exact hK _ _ _ (.same _ (pu_dy neg false (x :: l) c2 (e + j))) ⟨false, c2, by rw [normD, if_neg (by omega), hdm, hj, hxl]; rfl⟩
  · have hx2 : (x : Int) % 2 = 0 := by omega
    by_cases hz : x = 0
    · subst hz
      have hwj : IntKind.i64.wrap (e + (j : Int) + 32) = e + (j : Int) + 32 := w64 _ (by omega) (by omega)
      simp [sl, hx2]
      refine acall_by (rshr_ctr false (0 :: l) c2 32 hd (by omega)) (by simp [sl]) ?_
      intro y hy
      rw [shrPost, if_neg (by decide), hv, show (32 : Int).toNat = 32 from rfl] at hy
      obtain ⟨n3, c3, rfl⟩ := hy
      simp [hwj]
      obtain ⟨i1, i2⟩ := halve 32 (by decide) (by omega) hm0 hm
      exact hL (m / 2 ^ 32, j + 32, n3, c3) _ _ i1 (Wk.lst (by simp [sl, Int.add_assoc]) (by simp)) i2
    · have hwj : IntKind.i64.wrap (e + (j : Int) + 1) = e + (j : Int) + 1 := w64 _ (by omega) (by omega)
      simp [sl, hx2, hz]
      refine acall_by (rshr_ctr false (x :: l) c2 1 hd (by omega)) (by simp [sl, hz]) ?_
      intro y hy
      rw [shrPost, if_neg (by decide), hv, show (1 : Int).toNat = 1 from rfl] at hy
      obtain ⟨n3, c3, rfl⟩ := hy
      simp [hwj]
      obtain ⟨i1, i2⟩ := halve 1 (by decide) (by omega) hm0 hm
      exact hL (m / 2 ^ 1, j + 1, n3, c3) _ _ i1 (Wk.lst (by simp [sl, Int.add_assoc]) (by simp)) i2
end Go.Proofs.Nt
/- Dyads: Neg, Abs. -/
set_option linter.unusedVariables false
set_option maxRecDepth 20000
set_option linter.unusedSimpArgs false
namespace Go.Proofs.Nt
open Go Go.Proofs Go.Proofs.Va Go.RowKit

theorem may_ok (neg : Bool) (a : List Nat) (e : Int) : dOk (mayD neg a e).1 (mayD neg a e).2.1 (mayD neg a e).2.2 = true := by
  rw [mayD]; split
  · assumption
  · simp [dOk]
theorem may_dig {neg : Bool} {a : List Nat} {e : Int} (ha : Dig a) : Dig (mayD neg a e).2.1 := by
  rw [mayD]; split
  · exact ha
  · exact dig_nil
theorem may_len {neg : Bool} {a : List Nat} {e : Int} {k : Nat} (hl : a.length ≤ k) : (mayD neg a e).2.1.length ≤ k := by
  rw [mayD]; split
  · exact hl
  · simp

theorem val_odd {a : List Nat} (ha : Dig a) : val a % 2 = at' a 0 % 2 := by
  cases a with
  | nil => simp [val, at']
  | cons x l => simp [val, at']; omega

/-- A dyad that may be is the dyad of its own number. -/
theorem norm_ok {neg : Bool} {a : List Nat} {e : Int} (ha : Dig a) (h : dOk neg a e = true) (g : Bool) : normD g (val a) e = if a = [] then (false, [], 0) else (g, a, e) := by
  rw [dOk] at h
  split at h
  · rename_i h0
    rw [if_pos h0, normD, if_pos (.inl (by rw [h0]; rfl))]
  · rename_i h0
    simp only [Bool.and_eq_true, decide_eq_true_eq, beq_iff_eq] at h
    obtain ⟨⟨⟨h1, h2⟩, h3⟩, h4⟩ := h
    have ho : val a % 2 = 1 := by rw [val_odd ha, h2]
    have ht := tz_odd ho
    rw [if_neg h0, normD, if_neg (by omega), ht, Nat.pow_zero, Nat.div_one, ← trim_ofN ha, h1]
    simp

def negD (neg : Bool) (a : List Nat) (e : Int) : Bool × List Nat × Int := normD (!(mayD neg a e).1) (val (mayD neg a e).2.1) (mayD neg a e).2.2
def absD (neg : Bool) (a : List Nat) (e : Int) : Bool × List Nat × Int := normD false (val (mayD neg a e).2.1) (mayD neg a e).2.2

theorem abs_ctr (neg nl : Bool) (a : List Nat) (cap : Option Nat) (e : Int) (ha : Dig a) (hl : a.length ≤ 3000) : Ctr Tryz.prog 65 [dy neg nl a cap e] (dTold (absD neg a e)) := by
  refine ctr_in Tryz.func65 rfl (by kernel_rfl) rfl fun K hK => ?_
  simp only [Tryz.f65, List.append_eq, List.cons_append, List.nil_append]
  simp [cells_dy, cells_sl, -cellsOf]
  refine acall_by (may_ctr neg nl a cap e ha (by omega)) (by simpa [dy] using pu_dy neg nl a cap e) ?_
  have hd := may_dig (neg := neg) (e := e) ha
  have hok := may_ok neg a e
  rw [absD, norm_ok hd hok] at hK
  generalize mayD neg a e = d at *
  obtain ⟨g, b, f⟩ := d
  rintro _ ⟨n1, c1, rfl⟩
  simp [cells_dy, cells_sl, cells_ag, cells_vb, wr, -cellsOf]
  refine hK _ _ _ (.same _ (pu_dy false n1 b c1 f)) ?_
  simp only at hok ⊢
  split
  · rename_i h0
    subst h0
    simp [dOk] at hok
    exact ⟨n1, c1, by rw [hok.2]; rfl⟩
  · exact ⟨n1, c1, rfl⟩

theorem neg_ctr (neg nl : Bool) (a : List Nat) (cap : Option Nat) (e : Int) (ha : Dig a) (hl : a.length ≤ 3000) : Ctr Tryz.prog 95 [dy neg nl a cap e] (dTold (negD neg a e)) := by
  refine ctr_in Tryz.func95 rfl (by kernel_rfl) rfl fun K hK => ?_
  simp only [Tryz.f95, List.append_eq, List.cons_append, List.nil_append]
  simp [cells_dy, cells_sl, -cellsOf]
  refine acall_by (may_ctr neg nl a cap e ha (by omega)) (by simpa [dy] using pu_dy neg nl a cap e) ?_
  have hd := may_dig (neg := neg) (e := e) ha
  have hok := may_ok neg a e
  rw [negD, norm_ok hd hok] at hK
  generalize mayD neg a e = d at *
  obtain ⟨g, b, f⟩ := d
  rintro _ ⟨n1, c1, rfl⟩
  simp only at hok hK
  by_cases h0 : b = []
  · subst h0
    simp [dOk] at hok
    obtain ⟨rfl, rfl⟩ := hok
    simp [cells_dy, cells_sl, cells_ag, cells_vb, aLen_sl, wr, -cellsOf]
    exact hK _ _ _ (.same _ (pu_dy false n1 [] c1 0)) ⟨n1, c1, rfl⟩
  · have h1 : 0 < b.length := List.length_pos_iff.2 h0
    simp [cells_dy, cells_sl, cells_ag, cells_vb, aLen_sl, h0, h1, wr, -cellsOf]
    rw [if_neg h0] at hK
    exact hK _ _ _ (.same _ (pu_dy (!g) n1 b c1 f)) ⟨n1, c1, rfl⟩
end Go.Proofs.Nt
/- Dyads: Mul. -/
set_option linter.unusedVariables false
set_option maxRecDepth 20000
set_option linter.unusedSimpArgs false
namespace Go.Proofs.Nt
open Go Go.Proofs Go.Proofs.Va Go.RowKit

def mulD (d1 d2 : Bool × List Nat × Int) : Bool × List Nat × Int := normD (d1.1 != d2.1) (val d1.2.1 * val d2.2.1) (d1.2.2 + d2.2.2)

theorem ok_exp {neg : Bool} {a : List Nat} {e : Int} (h : dOk neg a e = true) : -20000 ≤ e ∧ e ≤ 20000 := by
  rw [dOk] at h
  split at h
  · simp at h; omega
  · simp at h; omega

theorem mul3_ctr (neg nl neg' nl' : Bool) (a b : List Nat) (cap cap' : Option Nat) (e e' : Int) (ha : Dig a) (hb : Dig b) (hl : a.length ≤ 1000) (hl' : b.length ≤ 1000) :
    Ctr Tryz.prog 31 [dy neg nl a cap e, dy neg' nl' b cap' e'] (dTold (mulD (mayD neg a e) (mayD neg' b e'))) := by
  refine ctr_in Tryz.func31 rfl (by kernel_rfl) rfl fun K hK => ?_
  simp only [Tryz.f31, List.append_eq, List.cons_append, List.nil_append]
  simp [cells_dy, cells_sl, -cellsOf]
  refine draw_on [1, 3, 1, 3, 4, 4] orders (by decide) ?_
  simp [cells_dy, cells_sl, -cellsOf]
  refine acall_by (may_ctr neg nl a cap e ha (by omega)) (by simpa [dy] using pu_dy neg nl a cap e) ?_
  have hd := may_dig (neg := neg) (e := e) ha
  have hm := may_len (neg := neg) (e := e) hl
  have hok := may_ok neg a e
  have hd' := may_dig (neg := neg') (e := e') hb
  have hm' := may_len (neg := neg') (e := e') hl'
  have hok' := may_ok neg' b e'
  generalize mayD neg a e = d at *
  generalize hdd : mayD neg' b e' = d' at *
  obtain ⟨g, c, f⟩ := d
  rintro _ ⟨n1, c1, rfl⟩
  simp [cells_dy, cells_sl, wr, -cellsOf]
  refine acall_by (may_ctr neg' nl' b cap' e' hb (by omega)) (by simpa [dy] using pu_dy neg' nl' b cap' e') ?_
  rw [hdd]
  obtain ⟨g', c', f'⟩ := d'
  rintro _ ⟨n2, c2, rfl⟩
  simp [cells_dy, cells_sl, wr, -cellsOf]
  refine draw_on [1, 1, 1, 1, 0, 1, 1, 1, 1, 3, 1, 1, 1, 1, 0, 3, 4] orders (by decide) ?_
  simp [cells_dy, cells_sl, wr, -cellsOf]
  simp only at hd hm hok hd' hm' hok'
  have hf := ok_exp hok
  have hf' := ok_exp hok'
  have hw : IntKind.i64.wrap (f + f') = f + f' := w64 _ (by omega) (by omega)
  refine acall_by (mul_ctr n1 n2 c c' c1 c2 hd hd' (by omega) (by omega)) (by simp [sl]) ?_
  rintro _ ⟨n3, c3, rfl⟩
  have hml := ofN_mul (ofN_val_le hd hm) (ofN_val_le hd' hm')
  simp [hw]
  refine acall_by (norm_ctr (g != g') n3 _ c3 (f + f') (dig_ofN (val c * val c')) (by omega)) (by simp [sl]) ?_
  rw [val_ofN]
  rw [mulD] at hK
  simp only at hK
  generalize normD (g != g') (val c * val c') (f + f') = d2 at *
  obtain ⟨g2, b2, f2⟩ := d2
  rintro _ ⟨n4, c4, rfl⟩
  simp [cells_dy, cells_sl, wr, -cellsOf]
  exact hK _ _ _ (.same _ (pu_dy g2 n4 b2 c4 f2)) ⟨n4, c4, rfl⟩
end Go.Proofs.Nt
/- Dyads: level. -/
set_option linter.unusedVariables false
set_option maxRecDepth 20000
set_option linter.unusedSimpArgs false
namespace Go.Proofs.Nt
open Go Go.Proofs Go.Proofs.Va Go.RowKit

/-- The lower one of two exponents; a number over a lower power of two. -/
def lvl (f f' : Int) : Int := if f' < f then f' else f
def up (n : Nat) (f m : Int) : Nat := n * 2 ^ (f - m).toNat

theorem shlN_up {n : Nat} {f m : Int} (h : m ≤ f) (h2 : f - m ≤ 100000) : shlN n (f - m) = ofN (up n f m) := by
  rw [shlN, if_neg (by omega), up]

theorem level_ctr (neg nl neg' nl' : Bool) (a b : List Nat) (cap cap' : Option Nat) (e e' : Int) (ha : Dig a) (hb : Dig b) (hl : a.length ≤ 3000) (hl' : b.length ≤ 3000) (he : -20000 ≤ e ∧ e ≤ 20000) (he' : -20000 ≤ e' ∧ e' ≤ 20000) :
    Ctr Tryz.prog 110 [dy neg nl a cap e, dy neg' nl' b cap' e'] (fun r => ∃ n1 c1 n2 c2, r = .tup [sl n1 (ofN (up (val a) e (lvl e e'))) c1, sl n2 (ofN (up (val b) e' (lvl e e'))) c2, i (lvl e e')]) := by
  refine ctr_in Tryz.func110 rfl (by kernel_rfl) rfl fun K hK => ?_
  simp only [Tryz.f110, List.append_eq, List.cons_append, List.nil_append]
  have h1 : lvl e e' ≤ e := by rw [lvl]; split <;> omega
  have h2 : lvl e e' ≤ e' := by rw [lvl]; split <;> omega
  have h3 : -20000 ≤ lvl e e' := by rw [lvl]; split <;> omega
  simp [cells_dy, cells_sl, -cellsOf]
  have hm : (if e' < e then e' else e) = lvl e e' := rfl
  simp only [hm]
  generalize lvl e e' = m at *
  have hw : IntKind.i64.wrap (e - m) = e - m := w64 _ (by omega) (by omega)
  have hw' : IntKind.i64.wrap (e' - m) = e' - m := w64 _ (by omega) (by omega)
  refine draw_on [1, 1, 1, 1, 0, 0, 3, 1, 1, 1, 1, 0, 0, 3, 0, 0, 0, 0] orders (by decide) ?_
  simp [cells_dy, cells_sl, hw, hw', -cellsOf]
  refine acall_by (shl_ctr nl a cap (e - m) ha (by omega)) (by simp [sl]) ?_
  rw [shlN_up h1 (by omega)]
  rintro _ ⟨n1, c1, rfl⟩
  simp [hw, hw']
  refine acall_by (shl_ctr nl' b cap' (e' - m) hb (by omega)) (by simp [sl]) ?_
  rw [shlN_up h2 (by omega)]
  rintro _ ⟨n2, c2, rfl⟩
  simp
  exact hK _ _ _ (.same _ (pu_tup (by simp [sl]))) ⟨n1, c1, n2, c2, rfl⟩
end Go.Proofs.Nt
/- Dyads: the document's Add and Sub. -/
set_option linter.unusedVariables false
set_option maxRecDepth 20000
set_option linter.unusedSimpArgs false
namespace Go.Proofs.Nt
open Go Go.Proofs Go.Proofs.Va Go.RowKit

/-- Two dyads, together. -/
def addD (d1 d2 : Bool × List Nat × Int) : Bool × List Nat × Int :=
  if d1.1 = d2.1 then normD d1.1 (up (val d1.2.1) d1.2.2 (lvl d1.2.2 d2.2.2) + up (val d2.2.1) d2.2.2 (lvl d1.2.2 d2.2.2)) (lvl d1.2.2 d2.2.2)
  else if up (val d1.2.1) d1.2.2 (lvl d1.2.2 d2.2.2) < up (val d2.2.1) d2.2.2 (lvl d1.2.2 d2.2.2) then
    normD d2.1 (up (val d2.2.1) d2.2.2 (lvl d1.2.2 d2.2.2) - up (val d1.2.1) d1.2.2 (lvl d1.2.2 d2.2.2)) (lvl d1.2.2 d2.2.2)
  else normD d1.1 (up (val d1.2.1) d1.2.2 (lvl d1.2.2 d2.2.2) - up (val d2.2.1) d2.2.2 (lvl d1.2.2 d2.2.2)) (lvl d1.2.2 d2.2.2)

theorem up_len {n : Nat} {f m : Int} {k : Nat} (hk : (ofN n).length ≤ k) (h : f - m ≤ 40000) : (ofN (up n f m)).length ≤ k + 1251 := by
  rw [up]
  refine ofN_mul hk ?_
  exact ofN_le (j := (f - m).toNat / 32 + 1) (by rw [base_pow]; exact Nat.pow_lt_pow_right (by decide) (by omega)) (by omega)

/-- What Norm tells may be. -/
theorem norm_may (g : Bool) (n : Nat) (e : Int) : dOk (normD g n e).1 (normD g n e).2.1 (normD g n e).2.2 = true := by
  rw [normD]; split
  · simp [dOk]
  · rename_i h
    have h0 : n ≠ 0 := by omega
    have ho := tz_top h0
    have hne : ofN (n / 2 ^ tz n) ≠ [] := fun hh => by rw [ofN_nil.1 hh] at ho; omega
    have hod := val_odd (dig_ofN (n / 2 ^ tz n))
    rw [val_ofN, ho] at hod
    simp only [dOk, if_neg hne, check_ofN, Bool.true_and, Bool.and_eq_true, decide_eq_true_eq]
    omega
theorem may_of_ok {d : Bool × List Nat × Int} (h : dOk d.1 d.2.1 d.2.2 = true) : mayD d.1 d.2.1 d.2.2 = d := by rw [mayD, if_pos h]
theorem norm_dig (g : Bool) (n : Nat) (e : Int) : Dig (normD g n e).2.1 := by
  rw [normD]; split
  · exact dig_nil
  · exact dig_ofN _
theorem norm_len {g : Bool} {n : Nat} {e : Int} {k : Nat} (h : (ofN n).length ≤ k) : (normD g n e).2.1.length ≤ k := by
  rw [normD]; split
  · simp
  · exact ofN_low (Nat.div_le_self _ _) h

end Go.Proofs.Nt
/- Dyads: the document's Cmp. -/
set_option linter.unusedVariables false
set_option maxRecDepth 20000
set_option linter.unusedSimpArgs false
namespace Go.Proofs.Nt
open Go Go.Proofs Go.Proofs.Va Go.RowKit

/-- How two dyads stand. -/
def cmpD (d1 d2 : Bool × List Nat × Int) : Int :=
  if d1.1 = d2.1 then
    (if d1.1 = true then cmp3 (up (val d2.2.1) d2.2.2 (lvl d1.2.2 d2.2.2) : Nat) (up (val d1.2.1) d1.2.2 (lvl d1.2.2 d2.2.2) : Nat)
    else cmp3 (up (val d1.2.1) d1.2.2 (lvl d1.2.2 d2.2.2) : Nat) (up (val d2.2.1) d2.2.2 (lvl d1.2.2 d2.2.2) : Nat))
  else if d1.1 = true then -1 else 1

end Go.Proofs.Nt
/- Plain mathematics: what a float's word stands for, and how two stand. -/
set_option linter.unusedVariables false
set_option linter.unusedSimpArgs false
namespace Go.Proofs.Nt
open Go Go.Proofs

@[simp] theorem dbl_sw : Ieee.double.signWeight = 9223372036854775808 := (rfl)
@[simp] theorem dbl_bin : Ieee.double.binade = 4503599627370496 := (rfl)
@[simp] theorem dbl_inf : Ieee.double.infRung = 9218868437227405312 := (rfl)
@[simp] theorem dbl_lp : Ieee.double.leastPlace = -1074 := (rfl)
@[simp] theorem dbl_fb : Ieee.double.fractionBits = 52 := (rfl)
/-- The sign of a word, its rung; a rung's number of units, and their place above the least one. -/
def fsg (b : Nat) : Bool := b / 9223372036854775808 % 2 == 1
def frg (b : Nat) : Nat := b % 9223372036854775808
def mg (r : Nat) : Nat := if r < 4503599627370496 then r else 4503599627370496 + r % 4503599627370496
def pl (r : Nat) : Nat := r / 4503599627370496 - 1
/-- What a rung comes to, in least units. -/
def vr (r : Nat) : Nat := mg r * 2 ^ pl r
def fval (b : Nat) : Int := if fsg b then -(vr (frg b) : Int) else vr (frg b)

theorem frg_lt (b : Nat) : frg b < 9223372036854775808 := Nat.mod_lt _ (by decide)

theorem read_num {b : Nat} (h : frg b < 9218868437227405312) : Ieee.double.read b = .number (fsg b) (mg (frg b)) (-1074 + (pl (frg b) : Nat)) := by
  unfold Ieee.Format.read
  simp only [dbl_sw, dbl_bin, dbl_inf, dbl_lp]
  have hr : b % 9223372036854775808 = frg b := rfl
  have hs : (b / 9223372036854775808 % 2 == 1) = fsg b := rfl
  rw [hr, hs]
  by_cases h1 : frg b < 4503599627370496
  · rw [if_pos h1]
    have h2 : pl (frg b) = 0 := by unfold pl; omega
    simp [mg, h1, h2]
  · rw [if_neg h1, if_pos h]
    simp [mg, h1, pl]
theorem read_inf {b : Nat} (h : frg b = 9218868437227405312) : Ieee.double.read b = .infinity (fsg b) := by
  unfold Ieee.Format.read
  simp only [dbl_sw, dbl_bin, dbl_inf, dbl_lp]
  have hr : b % 9223372036854775808 = frg b := rfl
  have hs : (b / 9223372036854775808 % 2 == 1) = fsg b := rfl
  rw [hr, hs, h]; rfl
theorem read_nan {b : Nat} (h : 9218868437227405312 < frg b) : Ieee.double.read b = .nan (fsg b) (frg b - 9218868437227405312) := by
  unfold Ieee.Format.read
  simp only [dbl_sw, dbl_bin, dbl_inf, dbl_lp]
  have hr : b % 9223372036854775808 = frg b := rfl
  have hs : (b / 9223372036854775808 % 2 == 1) = fsg b := rfl
  rw [hr, hs, if_neg (by omega), if_neg (by omega), if_neg (by omega)]

theorem vr_step (r : Nat) : vr r < vr (r + 1) := by
  unfold vr
  by_cases h1 : r + 1 < 4503599627370496
  · have : pl r = 0 := by unfold pl; omega
    have : pl (r + 1) = 0 := by unfold pl; omega
    simp [mg, h1, show r < 4503599627370496 by omega, *]
  · by_cases h2 : r < 4503599627370496
    · have h3 : r = 4503599627370495 := by omega
      subst h3; decide
    · by_cases h3 : (r + 1) % 4503599627370496 = 0
      · have h4 : pl (r + 1) = pl r + 1 := by unfold pl; omega
        have h5 : r % 4503599627370496 = 4503599627370495 := by omega
        simp only [mg, if_neg h1, if_neg h2, h3, h4, h5, Nat.pow_succ]
        have := Nat.two_pow_pos (pl r)
        omega
      · have h4 : pl (r + 1) = pl r := by unfold pl; omega
        have h5 : (r + 1) % 4503599627370496 = r % 4503599627370496 + 1 := by omega
        simp only [mg, if_neg h1, if_neg h2, h4, h5]
        exact Nat.mul_lt_mul_of_pos_right (by omega) (Nat.two_pow_pos _)
theorem vr_lt {r s : Nat} (h : r < s) : vr r < vr s := by
  induction s with
  | zero => omega
  | succ s ih =>
    rcases Nat.lt_or_ge r s with h1 | h1
    · exact Nat.lt_trans (ih h1) (vr_step s)
    · have : r = s := by omega
      subst this; exact vr_step r
theorem vr_zero : vr 0 = 0 := by simp [vr, mg]
theorem vr_inj {r s : Nat} (h : vr r = vr s) : r = s := by
  rcases Nat.lt_trichotomy r s with h1 | h1 | h1
  · have := vr_lt h1; omega
  · exact h1
  · have := vr_lt h1; omega
theorem vr_lt_iff {r s : Nat} : vr r < vr s ↔ r < s := by
  refine ⟨fun h => ?_, vr_lt⟩
  rcases Nat.lt_trichotomy r s with h1 | h1 | h1
  · exact h1
  · subst h1; omega
  · have := vr_lt h1; omega
theorem vr_le_iff {r s : Nat} : vr r ≤ vr s ↔ r ≤ s := by
  have := vr_lt_iff (r := s) (s := r); omega

theorem fval_zero {b : Nat} : fval b = 0 ↔ frg b = 0 := by
  have h := vr_inj (r := frg b) (s := 0)
  rw [vr_zero] at h
  have h2 : frg b = 0 → vr (frg b) = 0 := fun h => by rw [h, vr_zero]
  unfold fval; split <;> omega

theorem cmpInt (a b : Int) : compare a b = if a < b then .lt else if a = b then .eq else .gt := rfl
theorem cmp_mul {a b : Int} {c : Int} (hc : 0 < c) : compare (a * c) (b * c) = compare a b := by
  rw [cmpInt, cmpInt]
  have h1 : a * c < b * c ↔ a < b := Int.mul_lt_mul_right hc
  have h2 : a * c = b * c ↔ a = b := ⟨fun h => Int.eq_of_mul_eq_mul_right (by omega) h, fun h => by rw [h]⟩
  simp only [h1, h2]

theorem fval_scale {b k m : Nat} (h : pl (frg b) = k + m) : fval b = Ieee.signed (fsg b) (mg (frg b)) k * ((2 ^ m : Nat) : Int) := by
  unfold fval Ieee.signed vr
  rw [h, Nat.shiftLeft_eq, Nat.pow_add, ← Nat.mul_assoc]
  split
  · rw [Int.natCast_mul, Int.neg_mul]
  · rw [Int.natCast_mul]

theorem fval_bounds {b : Nat} (h : frg b < 9218868437227405312) : -(vr 9218868437227405312 : Int) < fval b ∧ fval b < vr 9218868437227405312 := by
  have := vr_lt h
  unfold fval; split <;> omega
theorem fval_inf {b : Nat} (h : frg b = 9218868437227405312) : fval b = if fsg b then -(vr 9218868437227405312 : Int) else vr 9218868437227405312 := by
  unfold fval; rw [h]

/-- How two words stand that are no NaN. -/
theorem order_val {x y : Nat} (hx : frg x ≤ 9218868437227405312) (hy : frg y ≤ 9218868437227405312) : Ieee.double.order x y = some (compare (fval x) (fval y)) := by
  have h0 := vr_lt (show 0 < 9218868437227405312 by decide)
  unfold Ieee.Format.order
  rcases Nat.lt_or_ge (frg x) 9218868437227405312 with h1 | h1
  · rw [read_num h1]
    have b1 := fval_bounds h1
    rcases Nat.lt_or_ge (frg y) 9218868437227405312 with h2 | h2
    · rw [read_num h2]
      simp only [Ieee.Datum.order, Option.some.injEq]
      have e1 : pl (frg x) = ((-1074 + (pl (frg x) : Int)) - min (-1074 + (pl (frg x) : Int)) (-1074 + (pl (frg y) : Int))).toNat + min (pl (frg x)) (pl (frg y)) := by omega
      have e2 : pl (frg y) = ((-1074 + (pl (frg y) : Int)) - min (-1074 + (pl (frg x) : Int)) (-1074 + (pl (frg y) : Int))).toNat + min (pl (frg x)) (pl (frg y)) := by omega
      rw [fval_scale e1, fval_scale e2, cmp_mul (by have := Nat.two_pow_pos (min (pl (frg x)) (pl (frg y))); omega)]
    · have h3 : frg y = 9218868437227405312 := by omega
      have b2 := fval_inf h3
      rw [read_inf h3]
      simp only [Ieee.Datum.order, Option.some.injEq]
      rw [cmpInt]
      cases hs : fsg y
      · rw [hs] at b2; simp only [Bool.false_eq_true, if_false] at b2 ⊢
        rw [if_pos (by omega)]
      · rw [hs] at b2; simp only [if_true] at b2 ⊢
        rw [if_neg (by omega), if_neg (by omega)]
  · have h3 : frg x = 9218868437227405312 := by omega
    have b1 := fval_inf h3
    rw [read_inf h3]
    rcases Nat.lt_or_ge (frg y) 9218868437227405312 with h2 | h2
    · rw [read_num h2]
      have b2 := fval_bounds h2
      simp only [Ieee.Datum.order, Option.some.injEq]
      rw [cmpInt]
      cases hs : fsg x
      · rw [hs] at b1; simp only [Bool.false_eq_true, if_false] at b1 ⊢
        rw [if_neg (by omega), if_neg (by omega)]
      · rw [hs] at b1; simp only [if_true] at b1 ⊢
        rw [if_pos (by omega)]
    · have h4 : frg y = 9218868437227405312 := by omega
      have b2 := fval_inf h4
      rw [read_inf h4]
      simp only [Ieee.Datum.order, Option.some.injEq]
      rw [cmpInt, b1, b2]
      generalize vr 9218868437227405312 = V at *
      cases fsg x <;> cases fsg y <;> simp <;> first | rfl | (rw [if_neg (by omega), if_neg (by omega)]; rfl) | (rw [if_pos (by omega)]; rfl) | skip
theorem order_nan {x y : Nat} (h : 9218868437227405312 < frg x ∨ 9218868437227405312 < frg y) : Ieee.double.order x y = none := by
  unfold Ieee.Format.order
  rcases h with h | h
  · rw [read_nan h]; rfl
  · rw [read_nan h]
    generalize Ieee.double.read x = d
    cases d <;> rfl
end Go.Proofs.Nt
/- Plain mathematics: rounding to the nearest float. -/
set_option linter.unusedVariables false
set_option linter.unusedSimpArgs false
namespace Go.Proofs.Nt
open Go Go.Proofs

/-- A number without its last digits, to the nearest one, to the even one of two. -/
def rhe (n d : Nat) : Nat := if 2 ^ d < 2 * (n % 2 ^ d) ∨ (2 ^ d = 2 * (n % 2 ^ d) ∧ n / 2 ^ d % 2 = 1) then n / 2 ^ d + 1 else n / 2 ^ d

theorem rhe_zero (n : Nat) : rhe n 0 = n := by
  unfold rhe
  rw [Nat.pow_zero, Nat.mod_one, Nat.div_one, if_neg (by omega)]
theorem rhe_scale (n d e : Nat) : rhe (n * 2 ^ d) (e + d) = rhe n e := by
  have hd := Nat.two_pow_pos d
  have h1 : n * 2 ^ d / (2 ^ e * 2 ^ d) = n / 2 ^ e := Nat.mul_div_mul_right _ _ hd
  have h2 : n * 2 ^ d % (2 ^ e * 2 ^ d) = n % 2 ^ e * 2 ^ d := Nat.mul_mod_mul_right _ _ _
  unfold rhe
  rw [Nat.pow_add, h1, h2]
  generalize n % 2 ^ e = r
  generalize 2 ^ e = g
  generalize 2 ^ d = c at *
  have h3 : g * c < 2 * (r * c) ↔ g < 2 * r := by rw [← Nat.mul_assoc]; exact Nat.mul_lt_mul_right hd
  have h4 : g * c = 2 * (r * c) ↔ g = 2 * r := by rw [← Nat.mul_assoc]; exact Nat.mul_left_inj (by omega)
  simp only [h3, h4]
theorem rhe_whole (n d : Nat) : rhe (n * 2 ^ d) d = n := by
  have := rhe_scale n d 0
  rwa [Nat.zero_add, rhe_zero] at this
theorem rhe_small {n d : Nat} (h : 2 * n < 2 ^ d) : rhe n d = 0 := by
  unfold rhe
  rw [Nat.mod_eq_of_lt (by omega), Nat.div_eq_of_lt (by omega), if_neg (by omega)]
theorem log2_lt (n : Nat) : n < 2 ^ (n.log2 + 1) := Nat.lt_log2_self
theorem cut_rhe (neg : Bool) (n d : Nat) : Ieee.Toward.even.cut neg n d = rhe n d := by
  have key : Ieee.Toward.even.cut neg n d = (let gap := 1 <<< min d (n.log2 + 2); let low := n / gap; let rest := n % gap; low + (gap < 2 * rest || (gap == 2 * rest && low % 2 == 1) : Bool).toNat) := rfl
  rw [key]
  simp only [Nat.one_shiftLeft]
  have small : ∀ k, k = min d (n.log2 + 2) → (n / 2 ^ k + ((decide (2 ^ k < 2 * (n % 2 ^ k)) || (2 ^ k == 2 * (n % 2 ^ k) && n / 2 ^ k % 2 == 1)) : Bool).toNat) = rhe n k := by
    intro k _
    unfold rhe
    by_cases h1 : 2 ^ k < 2 * (n % 2 ^ k)
    · simp [h1]
    · by_cases h2 : 2 ^ k = 2 * (n % 2 ^ k)
      · by_cases h3 : n / 2 ^ k % 2 = 1
        · rw [if_pos (.inr ⟨h2, h3⟩)]
          rw [← h2]; simp [h3]
        · rw [if_neg (by omega)]
          rw [← h2]; simp [h3]
      · rw [if_neg (by omega)]; simp [h1, h2]
  rw [small _ rfl]
  rcases Nat.le_total d (n.log2 + 2) with h | h
  · rw [Nat.min_eq_left h]
  · rw [Nat.min_eq_right h]
    have h1 := log2_lt n
    have h2 : 2 * n < 2 ^ (n.log2 + 2) := by rw [Nat.pow_succ]; omega
    rw [rhe_small h2, rhe_small (Nat.lt_of_lt_of_le h2 (Nat.pow_le_pow_right (by decide) h))]

/-- The word nearest to a number. -/
def lastP (m : Nat) (p : Int) : Int := max (p + m.log2 - 52) (-1074)
def nearW (neg : Bool) (m : Nat) (p : Int) : Nat :=
  if m = 0 then Ieee.double.word neg 0 else
    Ieee.double.word neg (min ((lastP m p + 1074).toNat * 4503599627370496 + rhe (m * 2 ^ (p - lastP m p).toNat) (lastP m p - p).toNat) 9218868437227405312)
theorem nearest_eq (neg : Bool) (m : Nat) (p : Int) : Ieee.double.nearest neg m p = nearW neg m p := by
  unfold Ieee.Format.nearest nearW
  simp only [dbl_fb, dbl_lp, dbl_bin, dbl_inf, cut_rhe, Nat.shiftLeft_eq]
  rfl

theorem log2_mul {m : Nat} (h : m ≠ 0) (d : Nat) : (m * 2 ^ d).log2 = m.log2 + d := by
  have h1 : m * 2 ^ d ≠ 0 := Nat.mul_ne_zero h (by have := Nat.two_pow_pos d; omega)
  have h2 := Nat.log2_self_le h
  have h3 := log2_lt m
  rw [Nat.log2_eq_iff h1, Nat.pow_add, Nat.pow_succ, Nat.pow_add, Nat.mul_assoc, Nat.mul_comm (2 ^ d) 2, ← Nat.mul_assoc, ← Nat.pow_succ]
  exact ⟨Nat.mul_le_mul_right _ h2, Nat.mul_lt_mul_of_pos_right h3 (Nat.two_pow_pos d)⟩

/-- Only what a number comes to is of moment. -/
theorem nearW_scale (neg : Bool) (m d : Nat) (p : Int) : nearW neg (m * 2 ^ d) (p - d) = nearW neg m p := by
  by_cases h0 : m = 0
  · subst h0; rw [Nat.zero_mul]; simp only [nearW, if_true]
  have h1 : m * 2 ^ d ≠ 0 := Nat.mul_ne_zero h0 (by have := Nat.two_pow_pos d; omega)
  have hl : lastP (m * 2 ^ d) (p - d) = lastP m p := by
    unfold lastP
    rw [log2_mul h0]
    have : p - (d : Int) + ((m.log2 + d : Nat) : Int) - 52 = p + (m.log2 : Int) - 52 := by omega
    rw [this]
  unfold nearW
  rw [if_neg h0, if_neg h1, hl]
  generalize lastP m p = l
  have key : rhe (m * 2 ^ d * 2 ^ (p - (d : Int) - l).toNat) (l - (p - (d : Int))).toNat = rhe (m * 2 ^ (p - l).toNat) (l - p).toNat := by
    rcases Int.le_total l p with h | h
    · have e1 : (l - p).toNat = 0 := by omega
      rw [e1, rhe_zero]
      rcases Int.le_total l (p - d) with h2 | h2
      · have e2 : (l - (p - (d : Int))).toNat = 0 := by omega
        have e3 : (p - l).toNat = d + (p - (d : Int) - l).toNat := by omega
        rw [e2, rhe_zero, e3, Nat.pow_add, Nat.mul_assoc]
      · have e2 : (p - (d : Int) - l).toNat = 0 := by omega
        have e3 : d = (p - l).toNat + (l - (p - (d : Int))).toNat := by omega
        rw [e2, Nat.pow_zero, Nat.mul_one]
        generalize (l - (p - (d : Int))).toNat = k at *
        rw [e3, Nat.pow_add, ← Nat.mul_assoc, rhe_whole]
    · have e1 : (p - l).toNat = 0 := by omega
      have e2 : (p - (d : Int) - l).toNat = 0 := by omega
      have e3 : (l - (p - (d : Int))).toNat = (l - p).toNat + d := by omega
      rw [e1, e2, e3, Nat.pow_zero, Nat.mul_one, Nat.mul_one, rhe_scale]
  rw [key]

/-- A float's own number. -/
theorem nearW_norm (neg : Bool) {m : Nat} {p : Int} (h1 : 4503599627370496 ≤ m) (h2 : m < 9007199254740992) (hp : -1074 ≤ p) : nearW neg m p = Ieee.double.word neg (min ((p + 1074).toNat * 4503599627370496 + m) 9218868437227405312) := by
  have hl : m.log2 = 52 := (Nat.log2_eq_iff (by omega)).2 ⟨h1, h2⟩
  have hP : lastP m p = p := by unfold lastP; rw [hl]; omega
  unfold nearW
  rw [if_neg (by omega), hP, show (p - p).toNat = 0 by omega, rhe_zero, Nat.pow_zero, Nat.mul_one]
theorem nearW_sub (neg : Bool) {m : Nat} (h2 : m < 4503599627370496) : nearW neg m (-1074) = Ieee.double.word neg m := by
  unfold nearW
  by_cases h0 : m = 0
  · rw [if_pos h0, h0]
  have hl : m.log2 < 52 := (Nat.log2_lt h0).2 h2
  have hP : lastP m (-1074) = -1074 := by unfold lastP; omega
  rw [if_neg h0, hP, show ((-1074 : Int) - -1074).toNat = 0 by omega, rhe_zero, Nat.pow_zero, Nat.mul_one, show ((-1074 : Int) + 1074).toNat = 0 by omega, Nat.zero_mul, Nat.zero_add, Nat.min_eq_left (by omega)]
theorem nearW_rung (neg : Bool) {r : Nat} (h : r ≤ 9218868437227405312) : nearW neg (mg r) (-1074 + (pl r : Nat)) = Ieee.double.word neg r := by
  by_cases h1 : r < 4503599627370496
  · have : pl r = 0 := by unfold pl; omega
    rw [this, mg, if_pos h1]
    exact nearW_sub neg h1
  · rw [mg, if_neg h1, nearW_norm neg (by omega) (by omega) (by omega)]
    have : (-1074 + ((pl r : Nat) : Int) + 1074).toNat * 4503599627370496 + (4503599627370496 + r % 4503599627370496) = r := by
      unfold pl; omega
    rw [this, Nat.min_eq_left h]
theorem word_self {b : Nat} (h : b < 18446744073709551616) : Ieee.double.word (fsg b) (frg b) = b := by
  unfold Ieee.Format.word fsg frg
  rw [dbl_sw]
  have h2 : b / 9223372036854775808 < 2 := by omega
  split
  · rename_i h3
    have : b / 9223372036854775808 % 2 = 1 := by simpa using h3
    omega
  · rename_i h3
    have : ¬ b / 9223372036854775808 % 2 = 1 := by simpa using h3
    omega
theorem word_frg (neg : Bool) {r : Nat} (h : r < 9223372036854775808) : frg (Ieee.double.word neg r) = r := by
  unfold Ieee.Format.word frg
  rw [dbl_sw]
  split <;> omega
theorem word_fsg (neg : Bool) {r : Nat} (h : r < 9223372036854775808) : fsg (Ieee.double.word neg r) = neg := by
  unfold Ieee.Format.word fsg
  rw [dbl_sw]
  cases neg
  · simp; omega
  · simp; omega

/-- One times a float is the float. -/
theorem mul_one_f {b : Nat} (hb : b < 18446744073709551616) (h : frg b < 9218868437227405312) : Ieee.double.mul 4607182418800017408 b = some b := by
  unfold Ieee.Format.mul
  rw [read_num h, read_num (b := 4607182418800017408) (by decide)]
  have e1 : fsg 4607182418800017408 = false := by decide
  have e2 : mg (frg 4607182418800017408) = 4503599627370496 := by decide
  have e3 : pl (frg 4607182418800017408) = 1022 := by decide
  rw [e1, e2, e3]
  simp only [Ieee.Datum.product, Option.map_some, Ieee.Format.write, nearest_eq, Option.some.injEq]
  have e4 : -1074 + ((1022 : Nat) : Int) + (-1074 + (pl (frg b) : Int)) = -1074 + (pl (frg b) : Int) - (52 : Nat) := by omega
  have e5 : 4503599627370496 * mg (frg b) = mg (frg b) * 2 ^ 52 := by rw [Nat.mul_comm]
  rw [e4, e5, nearW_scale, nearW_rung _ (by omega)]
  simp [word_self hb]

/-- A float below the normal ones, 2 ^ 52 times. -/
theorem mul_sub_f {r : Nat} (h0 : r ≠ 0) (h : r < 4503599627370496) (neg : Bool) : Ieee.double.mul (Ieee.double.word neg r) 4841369599423283200 = some (Ieee.double.word neg (r.log2 * 4503599627370496 + r * 2 ^ (52 - r.log2))) := by
  have hf := word_frg neg (show r < 9223372036854775808 by omega)
  have hs := word_fsg neg (show r < 9223372036854775808 by omega)
  unfold Ieee.Format.mul
  rw [read_num (b := Ieee.double.word neg r) (by omega), read_num (b := 4841369599423283200) (by decide), hf, hs]
  have e1 : fsg 4841369599423283200 = false := by decide
  have e2 : mg (frg 4841369599423283200) = 4503599627370496 := by decide
  have e3 : pl (frg 4841369599423283200) = 1074 := by decide
  have e4 : pl r = 0 := by unfold pl; omega
  have e5 : mg r = r := by rw [mg, if_pos h]
  rw [e1, e2, e3, e4, e5]
  simp only [Ieee.Datum.product, Option.map_some, Ieee.Format.write, nearest_eq, Option.some.injEq, Bool.xor_false]
  have hl : r.log2 < 52 := (Nat.log2_lt h0).2 h
  have h1 := Nat.log2_self_le h0
  have h2 := log2_lt r
  have e6 : r * 4503599627370496 = r * 2 ^ (52 - r.log2) * 2 ^ r.log2 := by
    rw [Nat.mul_assoc, ← Nat.pow_add, show 52 - r.log2 + r.log2 = 52 by omega]
  have e7 : -1074 + ((0 : Nat) : Int) + (-1074 + ((1074 : Nat) : Int)) = (-1074 + (r.log2 : Int)) - (r.log2 : Int) := by omega
  rw [e6, e7, nearW_scale]
  have h3 : 4503599627370496 ≤ r * 2 ^ (52 - r.log2) := by
    have := Nat.mul_le_mul_right (2 ^ (52 - r.log2)) h1
    rwa [← Nat.pow_add, show r.log2 + (52 - r.log2) = 52 by omega] at this
  have h4 : r * 2 ^ (52 - r.log2) < 9007199254740992 := by
    have := Nat.mul_lt_mul_of_pos_right h2 (Nat.two_pow_pos (52 - r.log2))
    rwa [← Nat.pow_add, show r.log2 + 1 + (52 - r.log2) = 53 by omega] at this
  rw [nearW_norm neg h3 h4 (by omega), show (-1074 + (r.log2 : Int) + 1074).toNat = r.log2 by omega, Nat.min_eq_left (by omega)]
end Go.Proofs.Nt
/- Floats: the functions of package math that look at their words. -/
set_option linter.unusedVariables false
set_option maxRecDepth 20000
set_option linter.unusedSimpArgs false
namespace Go.Proofs.Nt
open Go Go.Proofs Go.Proofs.Va Go.RowKit

/-- A function that the model stands in for. -/
theorem ctr_ext {P : Program} {g : FuncId} {fn : Func} {e : Array Value → Sem Value} (hf : P.funcs[g]? = some fn) (hb : fn.body = none) (hname : (fn.name == "runtime.NumGoroutine") = false)
    (hn : Extern.findNext fn = none) (he : Extern.find fn = some e) {args : List AV} {Post : AV → Prop} (h : ∀ fz w vs, RpL fz w args vs → ∃ v r, (e vs).run P w = .ok v w ∧ Post r ∧ Rp fz w r v) : Ctr P g args Post := by
  intro fz w vs hf' hr
  obtain ⟨v, r, h1, h2, h3⟩ := h fz w vs hr
  refine .inr ⟨v, w, r, fz, ?_, h2, h3, Below.refl _ _, fun _ h => h, hf', fun k h => .inl h⟩
  unfold callFunc
  have hq : ¬ fn.name = "runtime.NumGoroutine" := by simpa using hname
  simp [hf, hq, hb, hn, he, h1]

theorem rpl_one {fz : Nat → Prop} {w : World} {x : Value} {vs : Array Value} (h : RpL fz w [.v x] vs) : vs = #[x] := by
  obtain ⟨h1, h2⟩ := h
  have hs : vs.size = 1 := h1
  have h3 := h2 0 (by simp)
  have h4 : vs.getD 0 undef = x := by cases h3; rfl
  apply Array.ext (by simp [hs])
  intro i hi _
  have : i = 0 := by omega
  subst this
  simpa [Array.getD, hs] using h4

/-- A float, as a value. -/
@[simp] def fl (b : Nat) : AV := .v (.float .f64 b)

theorem bits_ctr (b : Nat) : Ctr Tryz.prog 70 [fl b] (fun r => r = u b) :=
  ctr_ext (fn := Tryz.f70) (e := Extern.MathFloatBits.float64bits) Tryz.func70 rfl (by kernel_rfl) (by kernel_rfl) (by kernel_rfl) fun fz w vs h => by
    rw [rpl_one h]
    exact ⟨_, _, rfl, rfl, .v _⟩
theorem frombits_ctr (n : Nat) : Ctr Tryz.prog 115 [u n] (fun r => r = fl n) :=
  ctr_ext (fn := Tryz.f115) (e := Extern.MathFloatBits.float64frombits) Tryz.func115 rfl (by kernel_rfl) (by kernel_rfl) (by kernel_rfl) fun fz w vs h => by
    rw [rpl_one h]
    exact ⟨_, _, rfl, by simp, .v _⟩

@[simp] theorem aggF : aggT Tryz.prog 25 = some false := by kernel_rfl

/-! ### Bits -/
theorem andNot_u64 {x m c : Nat} (hx : x < 18446744073709551616) (hc : (~~~ BitVec.ofNat 64 m).toNat = c) : bAndNot .u64 x m = ((x &&& c : Nat) : Int) := by
  show (((BitVec.ofInt 64 x &&& ~~~ BitVec.ofInt 64 m : BitVec 64).toNat : Nat) : Int) = _
  rw [BitVec.ofInt_natCast, BitVec.ofInt_natCast, BitVec.toNat_and, BitVec.toNat_ofNat, hc, Nat.mod_eq_of_lt (by omega)]
theorem and_rung (b : Nat) : b &&& 9223372036854775807 = frg b := Nat.and_two_pow_sub_one_eq_mod b 63
theorem and_frac (b : Nat) : b &&& 4503599627370495 = b % 4503599627370496 := Nat.and_two_pow_sub_one_eq_mod b 52
theorem and_exp (b : Nat) : b &&& 2047 = b % 2048 := Nat.and_two_pow_sub_one_eq_mod b 11
/-- The word of a sign and of what lies below it. -/
def wd (s : Bool) (r : Nat) : Nat := Ieee.double.word s r
theorem wd_false (r : Nat) : wd false r = r := rfl
theorem wd_true (r : Nat) : wd true r = 9223372036854775808 + r := rfl
theorem wd_lt (s : Bool) {r : Nat} (h : r < 9223372036854775808) : wd s r < 18446744073709551616 := by cases s <;> simp [wd_false, wd_true] <;> omega
theorem wd_self {b : Nat} (h : b < 18446744073709551616) : wd (fsg b) (frg b) = b := word_self h
theorem wd_frg (s : Bool) {r : Nat} (h : r < 9223372036854775808) : frg (wd s r) = r := word_frg s h
theorem wd_fsg (s : Bool) {r : Nat} (h : r < 9223372036854775808) : fsg (wd s r) = s := word_fsg s h
theorem and_hi {r : Nat} (h : r < 2 ^ 63) : r &&& 2 ^ 63 = 0 := by
  apply Nat.eq_of_testBit_eq
  intro i
  rw [Nat.testBit_and, Nat.testBit_two_pow]
  by_cases hi : 63 = i
  · subst hi; rw [Nat.testBit_lt_two_pow h]; simp
  · simp [hi]
theorem hi_or {f : Nat} (hf : f < 9223372036854775808) : 9223372036854775808 + f = 2 ^ 63 ||| f := by
  have h2 := Nat.two_pow_add_eq_or_of_lt (i := 63) (b := f) hf 1
  rw [Nat.mul_one] at h2
  exact h2
theorem and_sf (s : Bool) {r : Nat} (h : r < 9223372036854775808) : wd s r &&& 9227875636482146303 = wd s (r % 4503599627370496) := by
  have e : 9227875636482146303 = 2 ^ 63 ||| 4503599627370495 := by decide
  rw [e, Nat.and_or_distrib_left, and_frac]
  cases s
  · rw [wd_false, wd_false, and_hi h, Nat.zero_or]
  · rw [wd_true, wd_true, show (9223372036854775808 + r) % 4503599627370496 = r % 4503599627370496 by omega, hi_or (f := r % 4503599627370496) (by omega), hi_or h, Nat.and_or_distrib_right, Nat.and_self, and_hi h, Nat.or_zero]
/-- An exponent, laid beside a sign and a fraction. -/
theorem or_exp (s : Bool) {f e : Nat} (hf : f < 4503599627370496) (he : e < 2048) : wd s f ||| e * 4503599627370496 = wd s (e * 4503599627370496 + f) := by
  have h1 := Nat.two_pow_add_eq_or_of_lt (i := 52) hf e
  rw [Nat.mul_comm, show (2 : Nat) ^ 52 = 4503599627370496 from rfl] at h1
  cases s
  · rw [wd_false, wd_false, h1, Nat.or_comm]
  · rw [wd_true, wd_true]
    rw [hi_or (by omega), hi_or (by omega), h1, Nat.or_assoc, Nat.or_comm f]

theorem fabs_ctr {b : Nat} (hb : b < 18446744073709551616) : Ctr Tryz.prog 87 [fl b] (fun r => r = fl (frg b)) := by
  refine ctr_val Tryz.func87 rfl (by kernel_rfl) rfl (by simp) fun K hK => ?_
  have h := andNot_u64 (x := b) (m := 9223372036854775808) (c := 9223372036854775807) hb (by decide)
  rw [and_rung] at h
  have h2 := frg_lt b
  have h3 : IntKind.u64.wrap (frg b : Int) = (frg b : Int) := IntWalk.u64_in _ (by omega)
  simp [Tryz.f87] at hK ⊢
  refine acall_by (bits_ctr b) (by simp) ?_
  rintro _ rfl
  simp at h ⊢
  rw [h, h3]
  refine acall_by (frombits_ctr _) (by simp) ?_
  rintro _ rfl
  simp
  exact hK _

theorem signbit_ctr {b : Nat} (hb : b < 18446744073709551616) : Ctr Tryz.prog 28 [fl b] (fun r => r = bo (fsg b)) := by
  refine ctr_val Tryz.func28 rfl (by kernel_rfl) rfl (by simp) fun K hK => ?_
  simp [Tryz.f28] at hK ⊢
  refine acall_by (bits_ctr b) (by simp) ?_
  rintro _ rfl
  have h : decide (IntKind.i64.wrap (b : Int) < 0) = fsg b := by
    have h1 : IntKind.i64.wrap (b : Int) = if b < 9223372036854775808 then (b : Int) else (b : Int) - 18446744073709551616 := by
      simp only [IntKind.wrap, IntKind.signed, IntKind.bits]
      simp
      split <;> split <;> omega
    rw [h1]
    unfold fsg
    split
    · have h2 : b / 9223372036854775808 = 0 := by omega
      rw [h2]; simp
    · have h2 : b / 9223372036854775808 = 1 := by omega
      rw [h2]; simp; omega
  simp [h]
  exact hK _

theorem order_self {b : Nat} (h : frg b ≤ 9218868437227405312) : Ieee.double.order b b = some .eq := by
  rw [order_val h h, cmpInt, if_neg (by omega), if_pos rfl]
theorem ne_self (b : Nat) : (Ieee.double.order b b != some .eq) = decide (9218868437227405312 < frg b) := by
  rcases Nat.lt_or_ge 9218868437227405312 (frg b) with h | h
  · rw [order_nan (.inl h)]; simp [h]
  · rw [order_self h]; simp; omega
theorem eq_zero_f (b : Nat) : (Ieee.double.order b 0 == some .eq) = decide (frg b = 0) := by
  rcases Nat.lt_or_ge 9218868437227405312 (frg b) with h | h
  · rw [order_nan (.inl h)]; simp; omega
  · rw [order_val h (by decide), cmpInt]
    have h1 := fval_zero (b := b)
    have h2 : fval 0 = 0 := by decide
    rw [h2]
    by_cases h3 : frg b = 0
    · rw [if_neg (by omega), if_pos (by omega)]; simp [h3]
    · have : ¬ fval b = 0 := fun h => h3 (h1.1 h)
      simp only [h3, if_neg this]
      split <;> rfl
theorem fval_pos {b : Nat} (h : fsg b = false) : fval b = vr (frg b) := by unfold fval; rw [h]; rfl
theorem frg_idem (b : Nat) : frg (frg b) = frg b := Nat.mod_mod _ _
theorem fsg_frg (b : Nat) : fsg (frg b) = false := by
  unfold fsg
  have := frg_lt b
  rw [Nat.div_eq_of_lt this]; rfl
/-- Two floats of no sign stand as their rungs do. -/
theorem order_rung {r s : Nat} (hr : r ≤ 9218868437227405312) (hs : s ≤ 9218868437227405312) : Ieee.double.order r s = some (if r < s then .lt else if r = s then .eq else .gt) := by
  have h1 : frg r = r := Nat.mod_eq_of_lt (by omega)
  have h2 : frg s = s := Nat.mod_eq_of_lt (by omega)
  have h3 : fsg r = false := by rw [← h1]; exact fsg_frg r
  have h4 : fsg s = false := by rw [← h2]; exact fsg_frg s
  rw [order_val (by omega) (by omega), fval_pos h3, fval_pos h4, h1, h2, cmpInt]
  have h5 := vr_lt_iff (r := r) (s := s)
  have h6 : vr r = vr s ↔ r = s := ⟨vr_inj, fun h => by rw [h]⟩
  simp only [Int.ofNat_lt, Int.ofNat_inj, h5, h6]

theorem isinf_ctr {b : Nat} (hb : b < 18446744073709551616) : Ctr Tryz.prog 92 [fl b, i 0] (fun r => r = bo (decide (frg b = 9218868437227405312))) := by
  refine ctr_val Tryz.func92 rfl (by kernel_rfl) rfl (by simp) fun K hK => ?_
  simp [Tryz.f92] at hK ⊢
  refine acall_by (fabs_ctr hb) (by simp) ?_
  rintro _ rfl
  have h : (Ieee.double.order (frg b) 9218868437227405311 == some .gt) = decide (frg b = 9218868437227405312) := by
    rcases Nat.lt_or_ge 9218868437227405312 (frg b) with h | h
    · rw [order_nan (.inl (by rw [frg_idem]; exact h))]; simp; omega
    · rw [order_rung h (by decide)]
      by_cases h1 : frg b < 9218868437227405311
      · rw [if_pos h1]; simp; omega
      · rw [if_neg h1]
        by_cases h2 : frg b = 9218868437227405311
        · rw [if_pos h2]; simp; omega
        · rw [if_neg h2]; simp; omega
  simp [h]
  exact hK _
theorem isnan_ctr (b : Nat) : Ctr Tryz.prog 135 [fl b] (fun r => r = bo (decide (9218868437227405312 < frg b))) := by
  refine ctr_val Tryz.func135 rfl (by kernel_rfl) rfl (by simp) fun K hK => ?_
  simp [Tryz.f135, ne_self] at hK ⊢
  exact hK _

/-- The kinds of floats. -/
def fkind (b : Nat) : Nat := if 9218868437227405312 < frg b then 3 else if frg b = 9218868437227405312 then 2 else if frg b = 0 then 0 else 1
theorem kind_ctr {b : Nat} (hb : b < 18446744073709551616) : Ctr Tryz.prog 97 [fl b] (fun r => r = i (fkind b)) := by
  refine ctr_val Tryz.func97 rfl (by kernel_rfl) rfl (by simp) fun K hK => ?_
  simp [Tryz.f97, ne_self, fkind] at hK ⊢
  by_cases h1 : 9218868437227405312 < frg b
  · simp [h1] at hK ⊢; exact hK _
  · simp [h1] at hK ⊢
    refine acall_by (isinf_ctr hb) (by simp) ?_
    rintro _ rfl
    by_cases h2 : frg b = 9218868437227405312
    · simp [h2] at hK ⊢; exact hK _
    · simp [h2, eq_zero_f] at hK ⊢
      by_cases h3 : frg b = 0
      · simp [h3] at hK ⊢; exact hK _
      · simp [h3] at hK ⊢; exact hK _
end Go.Proofs.Nt
/- Floats: normalize, Frexp, Ldexp, Split. -/
set_option linter.unusedVariables false
set_option maxRecDepth 20000
set_option linter.unusedSimpArgs false
namespace Go.Proofs.Nt
open Go Go.Proofs Go.Proofs.Va Go.RowKit

/-- The rung of a float that is made a normal one, and by how much its exponent is too great then. -/
def nrung (r : Nat) : Nat := if r < 4503599627370496 then r.log2 * 4503599627370496 + r * 2 ^ (52 - r.log2) else r
def nadj (r : Nat) : Int := if r < 4503599627370496 then -52 else 0

theorem sub_top {r : Nat} (h0 : r ≠ 0) (h : r < 4503599627370496) : r.log2 < 52 ∧ 4503599627370496 ≤ r * 2 ^ (52 - r.log2) ∧ r * 2 ^ (52 - r.log2) < 9007199254740992 := by
  have hl : r.log2 < 52 := (Nat.log2_lt h0).2 h
  have h1 := Nat.log2_self_le h0
  have h2 := log2_lt r
  have h3 : 4503599627370496 ≤ r * 2 ^ (52 - r.log2) := by
    have := Nat.mul_le_mul_right (2 ^ (52 - r.log2)) h1
    rwa [← Nat.pow_add, show r.log2 + (52 - r.log2) = 52 by omega] at this
  have h4 : r * 2 ^ (52 - r.log2) < 9007199254740992 := by
    have := Nat.mul_lt_mul_of_pos_right h2 (Nat.two_pow_pos (52 - r.log2))
    rwa [← Nat.pow_add, show r.log2 + 1 + (52 - r.log2) = 53 by omega] at this
  exact ⟨hl, h3, h4⟩

theorem nrung_ok {r : Nat} (h0 : r ≠ 0) (h : r < 9218868437227405312) : 4503599627370496 ≤ nrung r ∧ nrung r < 9218868437227405312 ∧
    ∀ s (p : Int), nearW s (mg r) (-1074 + (pl r : Nat) + p) = nearW s (4503599627370496 + nrung r % 4503599627370496) (((nrung r / 4503599627370496 : Nat) : Int) - 1075 + nadj r + p) := by
  unfold nrung nadj
  by_cases h1 : r < 4503599627370496
  · obtain ⟨hl, h2, h3⟩ := sub_top h0 h1
    rw [if_pos h1, if_pos h1]
    refine ⟨by omega, by omega, fun s p => ?_⟩
    have e1 : (r.log2 * 4503599627370496 + r * 2 ^ (52 - r.log2)) % 4503599627370496 = r * 2 ^ (52 - r.log2) - 4503599627370496 := by omega
    have e2 : (r.log2 * 4503599627370496 + r * 2 ^ (52 - r.log2)) / 4503599627370496 = r.log2 + 1 := by omega
    have e3 : pl r = 0 := by unfold pl; omega
    have e4 : ((r.log2 + 1 : Nat) : Int) - 1075 + -52 + p = -1074 + ((0 : Nat) : Int) + p - ((52 - r.log2 : Nat) : Int) := by omega
    have e5 : 4503599627370496 + (r * 2 ^ (52 - r.log2) - 4503599627370496) = r * 2 ^ (52 - r.log2) := by omega
    rw [e1, e2, e3, mg, if_pos h1, e4, e5, nearW_scale s r (52 - r.log2)]
  · rw [if_neg h1, if_neg h1]
    refine ⟨by omega, h, fun s p => ?_⟩
    have e4 : ((r / 4503599627370496 : Nat) : Int) - 1075 + 0 + p = -1074 + ((pl r : Nat) : Int) + p := by unfold pl; omega
    rw [mg, if_neg h1, e4]

theorem normalize_ctr {b : Nat} (hb : b < 18446744073709551616) (h0 : frg b ≠ 0) (h : frg b < 9218868437227405312) : Ctr Tryz.prog 136 [fl b] (fun r => r = .tup [fl (wd (fsg b) (nrung (frg b))), i (nadj (frg b))]) := by
  refine ctr_val Tryz.func136 rfl (by kernel_rfl) rfl (pu_tup (by simp)) fun K hK => ?_
  simp [Tryz.f136] at hK ⊢
  refine acall_by (fabs_ctr hb) (by simp) ?_
  rintro _ rfl
  have ho : (Ieee.double.order (frg b) 4503599627370496 == some .lt) = decide (frg b < 4503599627370496) := by
    rw [order_rung (by omega) (by decide)]
    by_cases h1 : frg b < 4503599627370496
    · simp [h1]
    · rw [if_neg h1]; simp only [h1]; split <;> rfl
  unfold nrung nadj at hK
  by_cases h1 : frg b < 4503599627370496
  · have hm := mul_sub_f h0 h1 (fsg b)
    rw [word_self hb] at hm
    simp [ho, h1, hm]
    rw [if_pos h1, if_pos h1] at hK
    exact hK _
  · simp [ho, h1]
    rw [if_neg h1, if_neg h1, wd_self hb] at hK
    exact hK _

theorem wu' {n : Nat} (h : n < 18446744073709551616) : IntKind.u64.wrap (n : Int) = (n : Int) := IntWalk.u64_in _ (by omega)
theorem wi' {n : Nat} (h : n < 9223372036854775808) : IntKind.i64.wrap (n : Int) = (n : Int) := IntWalk.i64_in _ (by omega)
theorem bAnd_i64 {x y : Nat} (hx : x < 18446744073709551616) (hy : y < 18446744073709551616) : bAnd .i64 x y = ((x &&& y : Nat) : Int) := bAnd_u64 hx hy

/-- The exponent's field. -/
theorem wd_exp (s : Bool) {r : Nat} (h : r < 9223372036854775808) : wd s r / 4503599627370496 % 2048 = r / 4503599627370496 := by
  cases s
  · rw [wd_false]; omega
  · rw [wd_true]; omega
theorem frexp_ctr {b : Nat} (hb : b < 18446744073709551616) (h0 : frg b ≠ 0) (h : frg b < 9218868437227405312) :
    Ctr Tryz.prog 120 [fl b] (fun r => r = .tup [fl (wd (fsg b) (4602678819172646912 + nrung (frg b) % 4503599627370496)), i (((nrung (frg b) / 4503599627370496 : Nat) : Int) + nadj (frg b) - 1022)]) := by
  refine ctr_val Tryz.func120 rfl (by kernel_rfl) rfl (pu_tup (by simp)) fun K hK => ?_
  obtain ⟨h1, h2, _⟩ := nrung_ok h0 h
  have ha : nadj (frg b) = -52 ∨ nadj (frg b) = 0 := by unfold nadj; split <;> simp
  simp [Tryz.f120, eq_zero_f, h0] at hK ⊢
  refine acall_by (isinf_ctr hb) (by simp) ?_
  rintro _ rfl
  simp [show ¬ frg b = 9218868437227405312 by omega]
  refine acall_by (isnan_ctr b) (by simp) ?_
  rintro _ rfl
  simp [show ¬ 9218868437227405312 < frg b by omega]
  refine acall_by (normalize_ctr hb h0 h) (by simp) ?_
  rintro _ rfl
  simp
  generalize nrung (frg b) = r at *
  generalize nadj (frg b) = a at *
  generalize fsg b = s at *
  have hw := wd_lt s (show r < 9223372036854775808 by omega)
  refine acall_by (bits_ctr _) (by simp) ?_
  rintro _ rfl
  have e1 : bAnd .u64 ((wd s r / 4503599627370496 : Nat) : Int) 2047 = ((r / 4503599627370496 : Nat) : Int) := by
    have := bAnd_u64 (x := wd s r / 4503599627370496) (y := 2047) (by omega) (by decide)
    rw [and_exp, wd_exp s (by omega)] at this
    exact this
  have e2 : bAndNot .u64 ((wd s r : Nat) : Int) 9218868437227405312 = ((wd s (r % 4503599627370496) : Nat) : Int) := by
    have := andNot_u64 (x := wd s r) (m := 9218868437227405312) (c := 9227875636482146303) hw (by decide)
    rw [and_sf s (by omega)] at this
    exact this
  have hw2 := wd_lt s (show r % 4503599627370496 < 9223372036854775808 by omega)
  have e3 : bOr .u64 ((wd s (r % 4503599627370496) : Nat) : Int) 4602678819172646912 = ((wd s (4602678819172646912 + r % 4503599627370496) : Nat) : Int) := by
    have := bOr_u64 (x := wd s (r % 4503599627370496)) (y := 4602678819172646912) hw2 (by decide)
    rw [show (4602678819172646912 : Nat) = 1022 * 4503599627370496 from rfl, or_exp s (by omega) (by decide)] at this
    exact this
  have hw3 := wd_lt s (show 4602678819172646912 + r % 4503599627370496 < 9223372036854775808 by omega)
  have w1 : IntKind.u64.wrap ((r / 4503599627370496 : Nat) : Int) = ((r / 4503599627370496 : Nat) : Int) := wu' (by omega)
  have w2 : IntKind.i64.wrap ((r / 4503599627370496 : Nat) : Int) = ((r / 4503599627370496 : Nat) : Int) := wi' (by omega)
  have w3 : IntKind.i64.wrap (((r / 4503599627370496 : Nat) : Int) - 1023) = ((r / 4503599627370496 : Nat) : Int) - 1023 := w64 _ (by omega) (by omega)
  have w4 : IntKind.i64.wrap (((r / 4503599627370496 : Nat) : Int) - 1023 + 1) = ((r / 4503599627370496 : Nat) : Int) - 1022 := by rw [w64 _ (by omega) (by omega)]; omega
  have w5 : IntKind.i64.wrap (a + (((r / 4503599627370496 : Nat) : Int) - 1022)) = ((r / 4503599627370496 : Nat) : Int) + a - 1022 := by rw [w64 _ (by omega) (by omega)]; omega
  have hs : min (52 : Nat) 64 = 52 := rfl
  simp [e1, e2, e3, w1, w2, w3, w4, w5, wu' hw2, wu' hw3, -Int.natCast_ediv]
  refine acall_by (frombits_ctr _) (by simp) ?_
  rintro _ rfl
  simp [-Int.natCast_ediv]
  exact hK _
theorem frexp2_ctr {b : Nat} (hb : b < 18446744073709551616) (h0 : frg b ≠ 0) (h : frg b < 9218868437227405312) :
    Ctr Tryz.prog 98 [fl b] (fun r => r = .tup [fl (wd (fsg b) (4602678819172646912 + nrung (frg b) % 4503599627370496)), i (((nrung (frg b) / 4503599627370496 : Nat) : Int) + nadj (frg b) - 1022)]) := by
  refine ctr_val Tryz.func98 rfl (by kernel_rfl) rfl (pu_tup (by simp)) fun K hK => ?_
  simp [Tryz.f98, -Int.natCast_ediv] at hK ⊢
  refine acall_by (frexp_ctr hb h0 h) (by simp) ?_
  rintro _ rfl
  simp [-Int.natCast_ediv]
  exact hK _

theorem copysign_ctr {b : Nat} (hb : b < 18446744073709551616) : Ctr Tryz.prog 130 [fl 0, fl b] (fun r => r = fl (wd (fsg b) 0)) := by
  refine ctr_val Tryz.func130 rfl (by kernel_rfl) rfl (by simp) fun K hK => ?_
  simp [Tryz.f130] at hK ⊢
  refine acall_by (bits_ctr 0) (by simp) ?_
  rintro _ rfl
  simp
  refine acall_by (bits_ctr b) (by simp) ?_
  rintro _ rfl
  have e0 : bAndNot .u64 (0 : Int) 9223372036854775808 = 0 := by
    have := andNot_u64 (x := 0) (m := 9223372036854775808) (c := 9223372036854775807) (by decide) (by decide)
    rw [Nat.zero_and] at this; exact this
  have hx : b &&& 9223372036854775808 = wd (fsg b) 0 := by
    have hl := frg_lt b
    have hs := wd_self hb
    generalize fsg b = s at *
    generalize frg b = r at *
    rw [← hs]
    cases s
    · rw [wd_false, wd_false]; exact and_hi hl
    · rw [wd_true, wd_true, hi_or hl]
      show (2 ^ 63 ||| r) &&& 2 ^ 63 = _
      rw [Nat.and_or_distrib_right, Nat.and_self, and_hi hl]; rfl
  have e1 : bAnd .u64 (b : Int) 9223372036854775808 = ((wd (fsg b) 0 : Nat) : Int) := by
    have := bAnd_u64 (x := b) (y := 9223372036854775808) hb (by decide)
    rw [hx] at this
    exact this
  have hw := wd_lt (fsg b) (show 0 < 9223372036854775808 by decide)
  have e2 : bOr .u64 (0 : Int) ((wd (fsg b) 0 : Nat) : Int) = ((wd (fsg b) 0 : Nat) : Int) := by
    have := bOr_u64 (x := 0) (y := wd (fsg b) 0) (by decide) hw
    rw [Nat.zero_or] at this; exact this
  simp [e0, e1, wu' hw, e2, show IntKind.u64.wrap 0 = 0 from rfl]
  refine acall_by (frombits_ctr _) (by simp) ?_
  rintro _ rfl
  simp
  exact hK _

theorem inf_ctr (s : Bool) : Ctr Tryz.prog 137 [i (if s then -1 else 1)] (fun r => r = fl (wd s 9218868437227405312)) := by
  refine ctr_val Tryz.func137 rfl (by kernel_rfl) rfl (by simp) fun K hK => ?_
  cases s
  · simp [Tryz.f137] at hK ⊢
    refine acall_by (frombits_ctr 9218868437227405312) (by simp) ?_
    rintro _ rfl
    simp
    exact hK _
  · simp [Tryz.f137] at hK ⊢
    refine acall_by (frombits_ctr 18442240474082181120) (by simp) ?_
    rintro _ rfl
    simp
    exact hK _

theorem nearW_tiny (s : Bool) {m : Nat} {p : Int} (h1 : 4503599627370496 ≤ m) (h2 : m < 9007199254740992) (hp : p + 52 < -1075) : nearW s m p = wd s 0 := by
  have hl : m.log2 = 52 := (Nat.log2_eq_iff (by omega)).2 ⟨h1, h2⟩
  have hP : lastP m p = -1074 := by unfold lastP; rw [hl]; omega
  unfold nearW
  rw [if_neg (by omega), hP, show (p - -1074).toNat = 0 by omega, Nat.pow_zero, Nat.mul_one, rhe_small, show (-1074 + 1074 : Int).toNat = 0 by omega]
  · rfl
  · obtain ⟨k, hk⟩ : ∃ k, (-1074 - p).toNat = 54 + k := ⟨(-1074 - p).toNat - 54, by omega⟩
    rw [hk, Nat.pow_add]
    have := Nat.two_pow_pos k
    have h3 : 2 * m < 2 ^ 54 := by have : (2 : Nat) ^ 54 = 18014398509481984 := rfl; omega
    exact Nat.lt_of_lt_of_le h3 (Nat.le_mul_of_pos_right _ this)

theorem neg_f {s : Bool} {r : Nat} (h0 : r ≠ 0) (h : r < 9218868437227405312) : (Ieee.double.order (wd s r) 0 == some .lt) = s := by
  have h1 := wd_frg s (show r < 9223372036854775808 by omega)
  have h2 := wd_fsg s (show r < 9223372036854775808 by omega)
  rw [order_val (by omega) (by decide), cmpInt, show fval 0 = 0 by decide]
  have h3 := vr_lt (show 0 < r by omega)
  rw [vr_zero] at h3
  cases s
  · have hv : ¬ fval (wd false r) < 0 := by rw [fval_pos h2]; omega
    rw [if_neg hv]; split <;> rfl
  · have hv : fval (wd true r) < 0 := by unfold fval; rw [h1, h2]; simp; omega
    rw [if_pos hv]; rfl

/-- A float times a power of two, rounded. -/
def ldW (b : Nat) (k : Int) : Nat := nearW (fsg b) (mg (frg b)) (-1074 + (pl (frg b) : Nat) + k)

theorem ldexp_ctr {b : Nat} {k : Int} (hb : b < 18446744073709551616) (h : frg b < 9218868437227405312) (hk : -1000000 ≤ k ∧ k ≤ 1000000) :
    Ctr Tryz.prog 122 [fl b, i k] (fun r => r = fl (ldW b k)) := by
  refine ctr_val Tryz.func122 rfl (by kernel_rfl) rfl (by simp) fun K hK => ?_
  by_cases h0 : frg b = 0
  · have e : ldW b k = b := by
      unfold ldW nearW
      rw [h0]
      simp only [show mg 0 = 0 from rfl, if_true]
      rw [← h0]; exact word_self hb
    rw [e] at hK
    simp [Tryz.f122, eq_zero_f, h0] at hK ⊢
    exact hK _
  obtain ⟨h1, h2, h3⟩ := nrung_ok h0 h
  have ha : nadj (frg b) = -52 ∨ nadj (frg b) = 0 := by unfold nadj; split <;> simp
  simp [Tryz.f122, eq_zero_f, h0] at hK ⊢
  refine acall_by (isinf_ctr hb) (by simp) ?_
  rintro _ rfl
  simp [show ¬ frg b = 9218868437227405312 by omega]
  refine acall_by (isnan_ctr b) (by simp) ?_
  rintro _ rfl
  simp [show ¬ 9218868437227405312 < frg b by omega]
  refine acall_by (normalize_ctr hb h0 h) (by simp) ?_
  rintro _ rfl
  simp
  unfold ldW at hK
  rw [h3] at hK
  generalize nrung (frg b) = r at *
  generalize nadj (frg b) = a at *
  generalize fsg b = s at *
  have hw := wd_lt s (show r < 9223372036854775808 by omega)
  have w0 : IntKind.i64.wrap (k + a) = k + a := w64 _ (by omega) (by omega)
  simp [w0]
  refine acall_by (bits_ctr _) (by simp) ?_
  rintro _ rfl
  have w1 : IntKind.i64.wrap ((wd s r / 4503599627370496 : Nat) : Int) = ((wd s r / 4503599627370496 : Nat) : Int) := wi' (by omega)
  have e1 : bAnd .i64 ((wd s r / 4503599627370496 : Nat) : Int) 2047 = ((r / 4503599627370496 : Nat) : Int) := by
    have := bAnd_i64 (x := wd s r / 4503599627370496) (y := 2047) (by omega) (by decide)
    rw [and_exp, wd_exp s (by omega)] at this
    exact this
  have w2 : IntKind.i64.wrap ((r / 4503599627370496 : Nat) : Int) = ((r / 4503599627370496 : Nat) : Int) := wi' (by omega)
  have w3 : IntKind.i64.wrap (((r / 4503599627370496 : Nat) : Int) - 1023) = ((r / 4503599627370496 : Nat) : Int) - 1023 := w64 _ (by omega) (by omega)
  obtain ⟨E, hE⟩ : ∃ E : Int, E = k + a + (((r / 4503599627370496 : Nat) : Int) - 1023) := ⟨_, rfl⟩
  have w4 : IntKind.i64.wrap (k + a + (((r / 4503599627370496 : Nat) : Int) - 1023)) = E := by rw [w64 _ (by omega) (by omega)]; exact hE.symm
  have hm1 : 4503599627370496 ≤ 4503599627370496 + r % 4503599627370496 := by omega
  have hm2 : 4503599627370496 + r % 4503599627370496 < 9007199254740992 := by omega
  rw [show ((r / 4503599627370496 : Nat) : Int) - 1075 + a + k = E - 52 by omega] at hK
  have e2 : bAndNot .u64 ((wd s r : Nat) : Int) 9218868437227405312 = ((wd s (r % 4503599627370496) : Nat) : Int) := by
    have := andNot_u64 (x := wd s r) (m := 9218868437227405312) (c := 9227875636482146303) hw (by decide)
    rw [and_sf s (by omega)] at this
    exact this
  have hw2 := wd_lt s (show r % 4503599627370496 < 9223372036854775808 by omega)
  by_cases c1 : E < -1075
  · simp [w0, w1, e1, w2, w3, w4, c1, -Int.natCast_ediv]
    refine acall_by (copysign_ctr hw) (by simp) ?_
    rintro _ rfl
    rw [wd_fsg s (by omega)]
    simp
    rw [nearW_tiny s hm1 hm2 (by omega)] at hK
    exact hK _
  by_cases c2 : 1023 < E
  · have hn := neg_f (s := s) (show r ≠ 0 by omega) h2
    rw [nearW_norm s hm1 hm2 (by omega), Nat.min_eq_right (by omega)] at hK
    cases s
    · simp [w0, w1, e1, w2, w3, w4, c1, c2, hn, -Int.natCast_ediv]
      refine acall_by (inf_ctr false) (by simp) ?_
      rintro _ rfl
      simp
      exact hK _
    · simp [w0, w1, e1, w2, w3, w4, c1, c2, hn, -Int.natCast_ediv]
      refine acall_by (inf_ctr true) (by simp) ?_
      rintro _ rfl
      simp
      exact hK _
  by_cases c3 : E < -1022
  · obtain ⟨q, hq⟩ : ∃ q : Nat, E + 53 + 1023 = (q : Int) := ⟨(E + 53 + 1023).toNat, by omega⟩
    have w5 : IntKind.i64.wrap (E + 53) = E + 53 := w64 _ (by omega) (by omega)
    have w6 : IntKind.i64.wrap (E + 53 + 1023) = (q : Int) := by rw [w64 _ (by omega) (by omega)]; exact hq
    have w7 : IntKind.u64.wrap (q : Int) = (q : Int) := wu' (by omega)
    have w8 : IntKind.u64.wrap ((q : Int) * 4503599627370496) = ((q * 4503599627370496 : Nat) : Int) := by
      rw [show (q : Int) * 4503599627370496 = ((q * 4503599627370496 : Nat) : Int) by omega]; exact wu' (by omega)
    have e3 : bOr .u64 ((wd s (r % 4503599627370496) : Nat) : Int) ((q * 4503599627370496 : Nat) : Int) = ((wd s (q * 4503599627370496 + r % 4503599627370496) : Nat) : Int) := by
      rw [bOr_u64 hw2 (by omega), or_exp s (by omega) (by omega)]
    have hf := wd_frg s (show q * 4503599627370496 + r % 4503599627370496 < 9223372036854775808 by omega)
    have hs := wd_fsg s (show q * 4503599627370496 + r % 4503599627370496 < 9223372036854775808 by omega)
    have hw3 := wd_lt s (show q * 4503599627370496 + r % 4503599627370496 < 9223372036854775808 by omega)
    have hmul : Ieee.double.mul 4368491638549381120 (wd s (q * 4503599627370496 + r % 4503599627370496)) = some (nearW s (4503599627370496 + r % 4503599627370496) (E - 52)) := by
      unfold Ieee.Format.mul
      rw [read_num (b := wd s _) (by omega), read_num (b := 4368491638549381120) (by decide), hf, hs]
      have e1 : fsg 4368491638549381120 = false := by decide
      have e2 : mg (frg 4368491638549381120) = 4503599627370496 := by decide
      have e3 : pl (frg 4368491638549381120) = 969 := by decide
      have e4 : pl (q * 4503599627370496 + r % 4503599627370496) = q - 1 := by unfold pl; omega
      have e5 : mg (q * 4503599627370496 + r % 4503599627370496) = 4503599627370496 + r % 4503599627370496 := by unfold mg; rw [if_neg (by omega)]; omega
      rw [e1, e2, e3, e4, e5]
      simp only [Ieee.Datum.product, Option.map_some, Ieee.Format.write, nearest_eq, Option.some.injEq, Bool.false_xor]
      rw [← nearW_scale s _ 52 (E - 52), Nat.mul_comm 4503599627370496 (4503599627370496 + _)]
      have e6 : -1074 + ((969 : Nat) : Int) + (-1074 + ((q - 1 : Nat) : Int)) = E - 52 - ((52 : Nat) : Int) := by omega
      rw [e6]
    simp [w0, w1, e1, w2, w3, w4, c1, c2, c3, e2, wu' hw2, w5, w6, w7, w8, e3, wu' hw3, -Int.natCast_ediv, -Int.natCast_mul]
    refine acall_by (frombits_ctr _) (by simp) ?_
    rintro _ rfl
    simp [hmul]
    exact hK _
  · obtain ⟨q, hq⟩ : ∃ q : Nat, E + 1023 = (q : Int) := ⟨(E + 1023).toNat, by omega⟩
    have w6 : IntKind.i64.wrap (E + 1023) = (q : Int) := by rw [w64 _ (by omega) (by omega)]; exact hq
    have w7 : IntKind.u64.wrap (q : Int) = (q : Int) := wu' (by omega)
    have w8 : IntKind.u64.wrap ((q : Int) * 4503599627370496) = ((q * 4503599627370496 : Nat) : Int) := by
      rw [show (q : Int) * 4503599627370496 = ((q * 4503599627370496 : Nat) : Int) by omega]; exact wu' (by omega)
    have e3 : bOr .u64 ((wd s (r % 4503599627370496) : Nat) : Int) ((q * 4503599627370496 : Nat) : Int) = ((wd s (q * 4503599627370496 + r % 4503599627370496) : Nat) : Int) := by
      rw [bOr_u64 hw2 (by omega), or_exp s (by omega) (by omega)]
    have hf := wd_frg s (show q * 4503599627370496 + r % 4503599627370496 < 9223372036854775808 by omega)
    have hw3 := wd_lt s (show q * 4503599627370496 + r % 4503599627370496 < 9223372036854775808 by omega)
    have hmul := mul_one_f hw3 (by omega)
    rw [nearW_norm s hm1 hm2 (by omega), Nat.min_eq_left (by omega), show (E - 52 + 1074).toNat * 4503599627370496 + (4503599627370496 + r % 4503599627370496) = q * 4503599627370496 + r % 4503599627370496 by omega] at hK
    simp [w0, w1, e1, w2, w3, w4, c1, c2, c3, e2, wu' hw2, w6, w7, w8, e3, wu' hw3, -Int.natCast_ediv, -Int.natCast_mul]
    refine acall_by (frombits_ctr _) (by simp) ?_
    rintro _ rfl
    simp [hmul]
    exact hK _
theorem ldexp2_ctr {b : Nat} {k : Int} (hb : b < 18446744073709551616) (h : frg b < 9218868437227405312) (hk : -1000000 ≤ k ∧ k ≤ 1000000) :
    Ctr Tryz.prog 99 [fl b, i k] (fun r => r = fl (ldW b k)) := by
  refine ctr_val Tryz.func99 rfl (by kernel_rfl) rfl (by simp) fun K hK => ?_
  simp [Tryz.f99] at hK ⊢
  refine acall_by (ldexp_ctr hb h hk) (by simp) ?_
  rintro _ rfl
  simp
  exact hK _
end Go.Proofs.Nt
/- Floats: Split, and the dyad of a float. -/
set_option linter.unusedVariables false
set_option maxRecDepth 20000
set_option linter.unusedSimpArgs false
namespace Go.Proofs.Nt
open Go Go.Proofs Go.Proofs.Va Go.RowKit

/-- A float, split. -/
def splitV (b : Nat) : AV := .tup [bo (if 9218868437227405312 < frg b then false else fsg b), u (if frg b < 9218868437227405312 then mg (frg b) else 0),
  i (if frg b < 9218868437227405312 ∧ frg b ≠ 0 then -1074 + (pl (frg b) : Nat) else 0), i (fkind b)]

theorem splitV_nan {b : Nat} (h : 9218868437227405312 < frg b) : splitV b = .tup [bo false, u 0, i 0, i 3] := by
  unfold splitV fkind
  rw [if_pos h, if_neg (by omega), if_neg (by omega), if_pos h]; rfl
theorem splitV_inf {b : Nat} (h : frg b = 9218868437227405312) : splitV b = .tup [bo (fsg b), u 0, i 0, i 2] := by
  unfold splitV fkind
  rw [if_neg (by omega), if_neg (by omega), if_neg (by omega), if_neg (by omega), if_pos h]; rfl
theorem splitV_zero {b : Nat} (h : frg b = 0) : splitV b = .tup [bo (fsg b), u 0, i 0, i 0] := by
  unfold splitV fkind
  rw [if_neg (by omega), if_pos (by omega), if_neg (by omega), if_neg (by omega), if_neg (by omega), if_pos h, h]; rfl
theorem splitV_num {b : Nat} (h0 : frg b ≠ 0) (h : frg b < 9218868437227405312) : splitV b = .tup [bo (fsg b), u (mg (frg b)), i (-1074 + (pl (frg b) : Nat)), i 1] := by
  unfold splitV fkind
  rw [if_neg (by omega), if_pos (by omega), if_pos ⟨h, h0⟩, if_neg (by omega), if_neg (by omega), if_neg (by omega)]; rfl

/-- A whole float as an integer. -/
theorem toInt_whole {r : Nat} (h1 : 4503599627370496 ≤ r) (h2 : r < 9218868437227405312) (hp : r / 4503599627370496 = 1075) : floatToIntVal .f64 r .u64 = some ((4503599627370496 + r % 4503599627370496 : Nat) : Int) := by
  have hf : frg r = r := Nat.mod_eq_of_lt (by omega)
  have hs : fsg r = false := by rw [← hf]; exact fsg_frg r
  have e1 : pl r = 1074 := by unfold pl; omega
  have e2 : mg r = 4503599627370496 + r % 4503599627370496 := by unfold mg; rw [if_neg (by omega)]
  have hd : FloatKind.f64.decode r = .number false (4503599627370496 + r % 4503599627370496) 0 := by
    show Ieee.double.read r = _
    rw [read_num (by omega), hf, hs, e1, e2]
    rfl
  unfold floatToIntVal
  rw [hd]
  have hm : (4503599627370496 + r % 4503599627370496) < 9007199254740992 := by omega
  generalize 4503599627370496 + r % 4503599627370496 = m at *
  have hi : Ieee.Datum.toInt .zero (.number false m 0) = some (m : Int) := by
    have hc : ∀ k, k = Ieee.Toward.zero.cut false (m <<< (0 : Int).toNat) (-(0 : Int)).toNat → k = m := by
      intro k hk
      rw [hk]
      unfold Ieee.Toward.cut
      simp
    have := hc _ rfl
    unfold Ieee.Datum.toInt Ieee.Datum.integral
    simp only [this]
    unfold Ieee.signed
    simp
  rw [hi]
  have hmin : IntKind.u64.min = 0 := rfl
  have hmax : IntKind.u64.max = 18446744073709551615 := rfl
  simp only [hmin, hmax]
  rw [if_pos (by omega)]

theorem split_ctr {b : Nat} (hb : b < 18446744073709551616) : Ctr Tryz.prog 71 [fl b] (fun r => r = splitV b) := by
  refine ctr_val Tryz.func71 rfl (by kernel_rfl) rfl (pu_tup (by simp)) fun K hK => ?_
  simp [Tryz.f71]
  refine acall_by (signbit_ctr hb) (by simp) ?_
  rintro _ rfl
  simp
  refine acall_by (kind_ctr hb) (by simp) ?_
  rintro _ rfl
  rcases (by omega : 9218868437227405312 < frg b ∨ frg b = 9218868437227405312 ∨ frg b = 0 ∨ (frg b ≠ 0 ∧ frg b < 9218868437227405312)) with h | h | h | ⟨h0, h⟩
  · have q : fkind b = 3 := by unfold fkind; rw [if_pos h]
    rw [splitV_nan h] at hK
    simp [q]
    exact hK _
  · have q : fkind b = 2 := by unfold fkind; rw [if_neg (by omega), if_pos h]
    rw [splitV_inf h] at hK
    simp [q]
    exact hK _
  · have q : fkind b = 0 := by unfold fkind; rw [if_neg (by omega), if_neg (by omega), if_pos h]
    rw [splitV_zero h] at hK
    simp [q]
    exact hK _
  · have q : fkind b = 1 := by unfold fkind; rw [if_neg (by omega), if_neg (by omega), if_neg h0]
    rw [splitV_num h0 h] at hK
    have hl := frg_lt b
    simp [q]
    refine acall_by (fabs_ctr hb) (by simp) ?_
    rintro _ rfl
    simp
    refine acall_by (frexp2_ctr (b := frg b) (by omega) (by rw [frg_idem]; exact h0) (by rw [frg_idem]; exact h)) (by simp) ?_
    rintro _ rfl
    rw [frg_idem, fsg_frg, wd_false]
    obtain ⟨n1, n2, _⟩ := nrung_ok h0 h
    have ha : nadj (frg b) = -52 ∨ nadj (frg b) = 0 := by unfold nadj; split <;> simp
    -- the float of the number's digits
    obtain ⟨g0, hg1, hg2, hg3⟩ : ∃ g : Nat, 4503599627370496 + nrung (frg b) % 4503599627370496 = mg (frg b) * 2 ^ g ∧ ((nrung (frg b) / 4503599627370496 : Nat) : Int) + nadj (frg b) - 1022 - 53 = -1074 + (pl (frg b) : Nat) - (g : Int) ∧ (g ≤ 52 ∧ (g = 0 ∨ pl (frg b) = 0)) := by
      unfold nrung nadj
      by_cases h1 : frg b < 4503599627370496
      · obtain ⟨hl, h2, h3⟩ := sub_top h0 h1
        refine ⟨52 - (frg b).log2, ?_, ?_, by omega, .inr (by unfold pl; omega)⟩
        · rw [if_pos h1, mg, if_pos h1]; omega
        · rw [if_pos h1, if_pos h1]
          have : (frg b).log2 * 4503599627370496 + frg b * 2 ^ (52 - (frg b).log2) = ((frg b).log2 + 1) * 4503599627370496 + (frg b * 2 ^ (52 - (frg b).log2) - 4503599627370496) := by omega
          have e3 : pl (frg b) = 0 := by unfold pl; omega
          omega
      · refine ⟨0, ?_, ?_, by omega, .inl rfl⟩
        · rw [if_neg h1, mg, if_neg h1, Nat.pow_zero, Nat.mul_one]
        · rw [if_neg h1, if_neg h1]; unfold pl; omega
    generalize nrung (frg b) = r at *
    generalize nadj (frg b) = a at *
    have hfr : frg (4602678819172646912 + r % 4503599627370496) = 4602678819172646912 + r % 4503599627370496 := Nat.mod_eq_of_lt (by omega)
    have hld : ldW (4602678819172646912 + r % 4503599627370496) 53 = 4841369599423283200 + r % 4503599627370496 := by
      have hfs : fsg (4602678819172646912 + r % 4503599627370496) = false := by rw [← hfr]; exact fsg_frg _
      have e1 : pl (4602678819172646912 + r % 4503599627370496) = 1021 := by unfold pl; omega
      have e2 : mg (4602678819172646912 + r % 4503599627370496) = 4503599627370496 + r % 4503599627370496 := by unfold mg; rw [if_neg (by omega)]; omega
      unfold ldW
      rw [hfr, hfs, e1, e2, nearW_norm false (by omega) (by omega) (by omega)]
      show min _ _ = _
      omega
    simp [-Int.natCast_ediv]
    refine acall_by (ldexp2_ctr (b := 4602678819172646912 + r % 4503599627370496) (k := 53) (by omega) (by omega) (by omega)) (by simp) ?_
    rintro _ rfl
    rw [hld]
    have hti := toInt_whole (r := 4841369599423283200 + r % 4503599627370496) (by omega) (by omega) (by omega)
    rw [show (4841369599423283200 + r % 4503599627370496) % 4503599627370496 = r % 4503599627370496 by omega, hg1] at hti
    have hml : mg (frg b) * 2 ^ g0 < 9007199254740992 := by omega
    generalize mg (frg b) = M at *
    generalize pl (frg b) = E at *
    have hEl : (E : Int) ≤ 5000 := by omega
    have w1 : IntKind.i64.wrap (((r / 4503599627370496 : Nat) : Int) + a - 1022 - 53) = -1074 + (E : Int) - (g0 : Int) := by rw [hg2]; exact w64 _ (by omega) (by omega)
    simp [hti, w1, -Int.natCast_ediv, -Int.natCast_mul]
    refine loop_on (γ := Nat) 43 (fun g => [(6, bo (fsg b)), (9, i (-1074 + (E : Int) - (g : Int))), (10, u (M * 2 ^ g))]) (fun _ => []) (fun g => g ≤ g0) (fun g => g) g0 (Nat.le_refl _) (Wk.lst (by simp [-Int.natCast_mul]) (by simp)) ?_
    intro g hg L hL
    rcases Nat.eq_zero_or_pos g with hz | hz
    · subst hz
      have hlt : ¬ (-1074 + (E : Int) - ((0 : Nat) : Int) < -1074) := by omega
      have hE0 : -1074 + (E : Int) - ((0 : Nat) : Int) = -1074 + (E : Int) := by omega
      rw [hE0] at hlt
      simp only [hE0, Nat.pow_zero, Nat.mul_one]
      simp [hlt]
      exact hK _
    · have hE0 : E = 0 := by omega
      subst hE0
      obtain ⟨k, rfl⟩ : ∃ k, g = k + 1 := ⟨g - 1, by omega⟩
      have hlt : -1074 + ((0 : Nat) : Int) - ((k + 1 : Nat) : Int) < -1074 := by omega
      have hle : M * 2 ^ (k + 1) ≤ M * 2 ^ g0 := Nat.mul_le_mul_left _ (Nat.pow_le_pow_right (by decide) hg)
      have hdv : M * 2 ^ (k + 1) / 2 = M * 2 ^ k := by rw [Nat.pow_succ, ← Nat.mul_assoc, Nat.mul_div_cancel _ (by decide)]
      have w2 : IntKind.i64.wrap (-1074 + ((0 : Nat) : Int) - ((k + 1 : Nat) : Int) + 1) = -1074 + ((0 : Nat) : Int) - (k : Int) := by rw [w64 _ (by omega) (by omega)]; omega
      simp only [u]
      generalize hA : -1074 + ((0 : Nat) : Int) - ((k + 1 : Nat) : Int) = A at *
      generalize M * 2 ^ (k + 1) = B at *
      simp [hlt, hdv, w2]
      exact hL k _ _ (by show k ≤ g0; omega) (Wk.lst (by simp [hdv]) (by simp)) (by omega)
end Go.Proofs.Nt
/- Dyads: slices of them; total. -/
set_option linter.unusedVariables false
set_option maxRecDepth 20000
set_option linter.unusedSimpArgs false
namespace Go.Proofs.Va
open Go Go.RowKit

theorem look_all {Q : AV → Prop} (h0 : Q .any) : ∀ {T : Tm}, (∀ p ∈ T, Q p.2) → ∀ i, Q (look T i)
  | [], _, _ => h0
  | p :: T, h, i => by
    simp only [look]
    by_cases hi : i = p.1
    · rw [if_pos hi]; exact h p (by simp)
    · rw [if_neg hi]; exact look_all h0 (fun q hq => h q (by simp [hq])) i

/-- Blocks that nobody names any more are left. -/
theorem Wk.lst_drop {n0 n : Nat} {T T' : Tm} {σ σ2 : AHeap} (k : Nat) (he : σ2.take k = σ) (h : ∀ p ∈ T', wk1 p.2 (look T p.1)) (hn : n0 ≤ σ.length) (hs : ∀ p ∈ T', Sc σ.length p.2)
    (hb : ∀ b ∈ σ, b.kind ≠ .dead → ∀ x ∈ b.cells, Sc σ.length x) : Wk n0 ⟨Va.lst n T, σ2⟩ ⟨Va.lst n T', σ⟩ := by
  have e : σ2 = σ ++ σ2.drop k := by rw [← he, List.take_append_drop]
  rw [e]
  refine Wk.drop _ (wkL_lst h) hn ?_ hb
  intro x hx
  unfold Va.lst at hx
  obtain ⟨i, _, rfl⟩ := List.mem_map.1 hx
  exact look_all (.any) hs i

attribute [simp] Sc.v Sc.any Sc.nan Sc.pl Sc.pp
@[simp] theorem sc_po {n i v o : Nat} : Sc n (.po i v o) ↔ i < n := ⟨fun h => by cases h; assumption, fun h => .po _ _ _ h⟩
@[simp] theorem sc_so {n i v o k z : Nat} {c : Option Nat} : Sc n (.so i v o k z c) ↔ i < n := ⟨fun h => by cases h; assumption, fun h => .so _ _ _ _ _ _ h⟩
end Go.Proofs.Va
namespace Go.Proofs.Nt
open Go Go.Proofs Go.Proofs.Va Go.RowKit

@[simp] theorem elTD : elT Tryz.prog 27 = some (49, ⟨3, 40, [.v (.bool false), .pl true [] 0 (some 0), .v (.int .i64 0)]⟩) := by kernel_rfl
/-- A dyad that lies somewhere. -/
structure DV where
  neg : Bool
  nl : Bool
  a : List Nat
  cap : Option Nat
  e : Int
def DV.cs (d : DV) : List AV := [bo d.neg, sl d.nl d.a d.cap, i d.e]
def DV.av (d : DV) : AV := dy d.neg d.nl d.a d.cap d.e
abbrev Dy := Bool × List Nat × Int
def DV.m (d : DV) : Dy := mayD d.neg d.a d.e
def dcs (l : List DV) : List AV := l.flatMap DV.cs
/-- Dyads, as a slice that nobody writes. -/
def dsl (nl : Bool) (l : List DV) (cap : Option Nat) : AV := .pl (nl && l.isEmpty) (dcs l) l.length cap

theorem dcs_len (l : List DV) : (dcs l).length = l.length * 3 := by
  induction l with
  | nil => rfl
  | cons d l ih => show (DV.cs d ++ dcs l).length = _; simp [DV.cs, ih]; omega
theorem dcs_at : ∀ {l : List DV} {k : Nat} (h : k < l.length), ((dcs l).drop (k * 3)).take 3 = l[k].cs
  | d :: l, 0, _ => by show (DV.cs d ++ dcs l).take 3 = _; simp [DV.cs]
  | d :: l, k + 1, h => by
    show ((DV.cs d ++ dcs l).drop ((k + 1) * 3)).take 3 = _
    rw [show (k + 1) * 3 = 3 + k * 3 by omega, ← List.drop_drop]
    have : (DV.cs d ++ dcs l).drop 3 = dcs l := by simp [DV.cs]
    rw [this]
    exact dcs_at (l := l) (k := k) (by simpa using h)

def zeroD : Dy := (false, [], 0)
/-- Dyads, together. -/
def totD (l : List Dy) : Dy := l.foldl addD zeroD
theorem totD_snoc (l : List Dy) (d : Dy) : totD (l ++ [d]) = addD (totD l) d := by simp [totD]

def dOK (d : Dy) : Prop := dOk d.1 d.2.1 d.2.2 = true ∧ Dig d.2.1
theorem ok_zero : dOK zeroD := ⟨by simp [zeroD, dOk], dig_nil⟩
theorem ok_norm (g : Bool) (n : Nat) (e : Int) : dOK (normD g n e) := ⟨norm_may g n e, norm_dig g n e⟩
theorem ok_add (d1 d2 : Dy) : dOK (addD d1 d2) := by
  unfold addD; split
  · exact ok_norm _ _ _
  · split <;> exact ok_norm _ _ _
theorem ok_tot (l : List Dy) : dOK (totD l) := by
  rcases List.eq_nil_or_concat l with rfl | ⟨l', d, rfl⟩
  · exact ok_zero
  · rw [List.concat_eq_append, totD_snoc]; exact ok_add _ _
theorem ok_may {neg : Bool} {a : List Nat} {e : Int} (ha : Dig a) : dOK (mayD neg a e) := ⟨may_ok _ _ _, may_dig ha⟩

theorem total_ctr (nl : Bool) (l : List DV) (cap : Option Nat) (hl : l.length ≤ 100000) (hd : ∀ d ∈ l, Dig d.a ∧ d.a.length ≤ 1000)
    (hs : ∀ k, k < l.length → (totD ((l.take k).map DV.m)).2.1.length ≤ 1000) : Ctr Tryz.prog 77 [dsl nl l cap] (dTold (totD (l.map DV.m))) := by
  refine ctr_in Tryz.func77 rfl (by kernel_rfl) rfl fun K hK => ?_
  simp only [Tryz.f77, List.append_eq, List.cons_append, List.nil_append]
  simp [dsl]
  refine loop_on (γ := Nat × Bool × Option Nat) 59 (fun g => [(0, dsl nl l cap), (2, .po 0 0 0), (3, .po 1 0 0), (12, dsl nl l cap), (13, i l.length), (14, i g.1)])
    (fun g => [⟨.own, 0, [.v (.bool false), .pl true [] 0 (some 0), .v (.int .i64 0)]⟩, ⟨.own, 0, [bo (totD ((l.take g.1).map DV.m)).1, sl g.2.1 (totD ((l.take g.1).map DV.m)).2.1 g.2.2, i (totD ((l.take g.1).map DV.m)).2.2]⟩])
    (fun g => g.1 ≤ l.length) (fun g => l.length - g.1)
    (0, true, some 0) (Nat.zero_le _) (Wk.lst (by simp [dsl]) (by simp)) ?_
  rintro ⟨k, n0, c0⟩ hk L hL
  have hk : k ≤ l.length := hk
  simp only
  by_cases hkn : k < l.length
  · have hdk := hd _ (List.getElem_mem hkn)
    have hsk := hs k hkn
    have hok := ok_tot ((l.take k).map DV.m)
    have hat := dcs_at hkn
    have hnext : totD ((l.take (k + 1)).map DV.m) = addD (totD ((l.take k).map DV.m)) l[k].m := by
      rw [List.take_add_one, List.getElem?_eq_getElem hkn]
      simp only [Option.toList_some, List.map_append, List.map_cons, List.map_nil]
      rw [totD_snoc]
    have hoff : k * 3 < (dcs l).length := by rw [dcs_len]; omega
    have hoff3 : k * 3 + 3 ≤ (dcs l).length := by rw [dcs_len]; omega
    have hw1 : IntKind.i64.wrap ((k : Int) + 1) = ((k + 1 : Nat) : Int) := w64 _ (by omega) (by omega)
    have hLe := fun n1 c1 => hL (k + 1, n1, c1)
    simp only [hnext] at hLe
    generalize totD ((l.take k).map DV.m) = s at *
    obtain ⟨gs, ns, es⟩ := s
    obtain ⟨hok1, hok2⟩ := hok
    simp only at hok1 hok2 hsk
    have hes := ok_exp hok1
    obtain ⟨hdig, hlen⟩ := hdk
    generalize l[k] = d at *
    obtain ⟨g, nd, a, cd, e⟩ := d
    simp only at hdig hlen
    have hag : AV.agg (List.take 3 (List.drop (k * 3) (dcs l))) = dy g nd a cd e := by rw [hat]; rfl
    simp [hkn, dsl, hoff, hoff3, hag, cells_dy, cells_sl, wr, -cellsOf]
    refine acall_by (may_ctr g nd a cd e hdig (by omega)) (by simpa [dy] using pu_dy g nd a cd e) ?_
    have hm : DV.m ⟨g, nd, a, cd, e⟩ = mayD g a e := rfl
    rw [hm] at hLe
    have hd' := may_dig (neg := g) (e := e) hdig
    have hm' := may_len (neg := g) (e := e) hlen
    have hok' := may_ok g a e
    generalize mayD g a e = d' at *
    obtain ⟨g', a', e'⟩ := d'
    simp only at hd' hm' hok'
    have hes' := ok_exp hok'
    rintro _ ⟨n1, c1, rfl⟩
    simp [cells_dy, cells_sl, wr, -cellsOf]
    refine acall_by (level_ctr gs n0 g' n1 ns a' c0 c1 es e' hok2 hd' (by omega) (by omega) hes hes') (by simpa [dy] using ⟨pu_dy gs n0 ns c0 es, pu_dy g' n1 a' c1 e'⟩) ?_
    rintro _ ⟨n3, c3, n4, c4, rfl⟩
    have h1 : lvl es e' ≤ es := by rw [lvl]; split <;> omega
    have h2 : lvl es e' ≤ e' := by rw [lvl]; split <;> omega
    have h3 : -20000 ≤ lvl es e' := by rw [lvl]; split <;> omega
    simp only [addD] at hLe
    generalize lvl es e' = m at *
    have l3 := up_len (m := m) (ofN_val_le hok2 hsk) (by omega : es - m ≤ 40000)
    have l4 := up_len (m := m) (ofN_val_le hd' hm') (by omega : e' - m ≤ 40000)
    generalize up (val ns) es m = x at *
    generalize up (val a') e' m = y at *
    simp [cells_dy, cells_sl, wr, -cellsOf]
    by_cases hg : gs = g'
    · subst hg
      rw [if_pos rfl] at hLe
      simp [cells_dy, cells_sl, wr, -cellsOf]
      refine acall_by (add_ctr n3 n4 _ _ c3 c4 (dig_ofN x) (dig_ofN y) (by omega) (by omega)) (by simp [sl]) ?_
      rintro _ ⟨n5, c5, rfl⟩
      rw [val_ofN, val_ofN]
      have l5 := ofN_add l3 l4
      simp [cells_dy, cells_sl, wr, -cellsOf]
      refine acall_by (norm_ctr gs n5 _ c5 m (dig_ofN (x + y)) (by omega)) (by simp [sl]) ?_
      rw [val_ofN]
      generalize normD gs (x + y) m = d2 at *
      obtain ⟨g2, b2, f2⟩ := d2
      rintro _ ⟨n6, c6, rfl⟩
      simp [cells_dy, cells_sl, wr, hw1, -cellsOf]
      exact hLe n6 c6 _ _ (by omega) (Wk.lst_drop 2 rfl (by simp [dsl, hw1]) (by simp) (by simp [dsl]) (by simp [sl])) (by show _ - (k + 1) < _ - k; omega)
    · rw [if_neg hg] at hLe
      simp [hg, cells_dy, cells_sl, wr, -cellsOf]
      refine acall_by (sub_ctr n3 n4 _ _ c3 c4 (dig_ofN x) (dig_ofN y) (by omega) (by omega)) (by simp [sl]) ?_
      intro z hz
      rw [subPost, val_ofN, val_ofN] at hz
      by_cases hlt : x < y
      · rw [if_pos hlt] at hz hLe
        subst hz
        simp [cells_dy, cells_sl, wr, -cellsOf]
        refine acall_by (sub_ctr n4 n3 _ _ c4 c3 (dig_ofN y) (dig_ofN x) (by omega) (by omega)) (by simp [sl]) ?_
        intro z hz
        rw [subPost, val_ofN, val_ofN, if_neg (by omega)] at hz
        obtain ⟨n5, c5, rfl⟩ := hz
        have l5 := ofN_low (Nat.sub_le y x) l4
        simp [cells_dy, cells_sl, wr, -cellsOf]
        refine acall_by (norm_ctr g' n5 _ c5 m (dig_ofN (y - x)) (by omega)) (by simp [sl]) ?_
        rw [val_ofN]
        generalize normD g' (y - x) m = d2 at *
        obtain ⟨g2, b2, f2⟩ := d2
        rintro _ ⟨n6, c6, rfl⟩
        simp [cells_dy, cells_sl, wr, hw1, -cellsOf]
        exact hLe n6 c6 _ _ (by omega) (Wk.lst_drop 2 rfl (by simp [dsl, hw1]) (by simp) (by simp [dsl]) (by simp [sl])) (by show _ - (k + 1) < _ - k; omega)
      · rw [if_neg hlt] at hz hLe
        obtain ⟨n5, c5, rfl⟩ := hz
        have l5 := ofN_low (Nat.sub_le x y) l3
        simp [cells_dy, cells_sl, wr, -cellsOf]
        refine acall_by (norm_ctr gs n5 _ c5 m (dig_ofN (x - y)) (by omega)) (by simp [sl]) ?_
        rw [val_ofN]
        generalize normD gs (x - y) m = d2 at *
        obtain ⟨g2, b2, f2⟩ := d2
        rintro _ ⟨n6, c6, rfl⟩
        simp [cells_dy, cells_sl, wr, hw1, -cellsOf]
        exact hLe n6 c6 _ _ (by omega) (Wk.lst_drop 2 rfl (by simp [dsl, hw1]) (by simp) (by simp [dsl]) (by simp [sl])) (by show _ - (k + 1) < _ - k; omega)
  · have hke : k = l.length := by omega
    subst hke
    rw [List.take_length]
    generalize totD (l.map DV.m) = s at *
    obtain ⟨gs, ns, es⟩ := s
    simp [wr, cells_ag, -cellsOf]
    exact hK _ _ _ (.same _ (pu_dy gs n0 ns c0 es)) ⟨n0, c0, rfl⟩
end Go.Proofs.Nt
/- Dyads: Add, Sub, Cmp; the dyad of a float. -/
set_option linter.unusedVariables false
set_option maxRecDepth 20000
set_option linter.unusedSimpArgs false
namespace Go.Proofs.Nt
open Go Go.Proofs Go.Proofs.Va Go.RowKit

theorem normD_up {g : Bool} {a : List Nat} {e m : Int} (ha : Dig a) (h : dOk g a e = true) (h0 : a ≠ []) (hm : m ≤ e) (hm2 : -1000000 ≤ m) : normD g (up (val a) e m) m = (g, a, e) := by
  have he := ok_exp h
  rw [dOk, if_neg h0] at h
  simp only [Bool.and_eq_true, decide_eq_true_eq, beq_iff_eq] at h
  obtain ⟨⟨⟨h1, h2⟩, h3⟩, h4⟩ := h
  have ho : val a % 2 = 1 := by rw [val_odd ha, h2]
  have hv : val a ≠ 0 := by omega
  have hp := Nat.two_pow_pos (e - m).toNat
  have ht : tz (up (val a) e m) = (e - m).toNat := by rw [up, Nat.mul_comm, tz_mul _ hv, tz_odd ho, Nat.add_zero]
  have hu : up (val a) e m ≠ 0 := by rw [up]; exact Nat.mul_ne_zero hv (by omega)
  rw [normD, if_neg (by rw [ht]; omega), ht, up, Nat.mul_div_cancel _ hp, ← trim_ofN ha, h1, show m + ((e - m).toNat : Int) = e by omega]

theorem zero_of {g : Bool} {e : Int} (h : dOk g [] e = true) : g = false ∧ e = 0 := by
  simp [dOk] at h; exact h
theorem up_pos {a : List Nat} {g : Bool} {e m : Int} (ha : Dig a) (h : dOk g a e = true) (h0 : a ≠ []) : 0 < up (val a) e m := by
  rw [dOk, if_neg h0] at h
  simp only [Bool.and_eq_true, decide_eq_true_eq, beq_iff_eq] at h
  have ho : val a % 2 = 1 := by rw [val_odd ha, h.1.1.2]
  rw [up]; exact Nat.mul_pos (by omega) (Nat.two_pow_pos _)

theorem addD_zero {d : Dy} (h : dOK d) : addD zeroD d = d := by
  obtain ⟨g, a, e⟩ := d
  obtain ⟨h, ha⟩ := h
  simp only at h ha
  by_cases h0 : a = []
  · subst h0
    obtain ⟨rfl, rfl⟩ := zero_of h
    rfl
  · have he := ok_exp h
    have hl : lvl 0 e ≤ e := by rw [lvl]; split <;> omega
    have hl2 : -1000000 ≤ lvl 0 e := by rw [lvl]; split <;> omega
    have hz : up (val ([] : List Nat)) 0 (lvl 0 e) = 0 := by simp [up, val]
    have hn := fun g (h : dOk g a e = true) => normD_up ha h h0 hl hl2
    have hp := up_pos (m := lvl 0 e) ha h h0
    unfold addD zeroD
    simp only
    rw [hz]
    cases g
    · rw [if_pos rfl, Nat.zero_add]; exact hn _ h
    · rw [if_neg (by decide), if_pos hp, Nat.sub_zero]; exact hn _ h

theorem totD_two {d1 d2 : Dy} (h : dOK d1) : totD [d1, d2] = addD d1 d2 := by
  show addD (addD zeroD d1) d2 = _
  rw [addD_zero h]

theorem pur_dsl {σ : AHeap} {S : Nat → Prop} {j v : Nat} {l : List DV} {n : Nat} {cap : Option Nat} {k : BK} (hb : σ[j]? = some ⟨k, v, dcs l⟩) (hk : k ≠ .dead) (hn : n = l.length) (hS : S j) : Pur σ S (.so j v 0 n 3 cap) (dsl false l cap) := by
  subst hn
  refine .so j v 0 l.length 3 cap ⟨k, v, dcs l⟩ _ hb rfl hk hS (by simp [dcs_len]) (by simp [dcs_len]) fun q hq => ?_
  have e : (dcs l).getD (0 + q) .any = (dcs l)[q] := by rw [Nat.zero_add]; exact getD_eq hq
  show Pur σ S ((dcs l).getD (0 + q) .any) _
  rw [e]
  refine .same _ ?_
  have hm : ∀ x ∈ dcs l, Pu x := by
    intro x hx
    obtain ⟨d, _, hx⟩ := List.mem_flatMap.1 hx
    simp [DV.cs] at hx
    rcases hx with rfl | rfl | rfl <;> simp [sl]
  exact hm _ (List.getElem_mem hq)

theorem pu_ag0 : Pu (AV.agg [AV.v (.bool false), .pl true [] 0 (some 0), AV.v (.int .i64 0)]) := pu_agg (by simp)

theorem add3_ctr (neg nl neg' nl' : Bool) (a b : List Nat) (cap cap' : Option Nat) (e e' : Int) (ha : Dig a) (hb : Dig b) (hl : a.length ≤ 1000) (hl' : b.length ≤ 1000) :
    Ctr Tryz.prog 35 [dy neg nl a cap e, dy neg' nl' b cap' e'] (dTold (addD (mayD neg a e) (mayD neg' b e'))) := by
  refine ctr_in Tryz.func35 rfl (by kernel_rfl) rfl fun K hK => ?_
  simp only [Tryz.f35, List.append_eq, List.cons_append, List.nil_append]
  simp [cells_dy, cells_sl, cells_ag, wr, -cellsOf]
  have hT := total_ctr false [⟨neg, nl, a, cap, e⟩, ⟨neg', nl', b, cap', e'⟩] (some 2) (by simp) (by simp; exact ⟨⟨ha, hl⟩, hb, hl'⟩) (by
    intro k hk
    have : k = 0 ∨ k = 1 := by simp at hk; omega
    rcases this with rfl | rfl
    · simp [totD, zeroD]
    · show (totD [mayD neg a e]).2.1.length ≤ 1000
      show (addD zeroD (mayD neg a e)).2.1.length ≤ 1000
      rw [addD_zero (ok_may ha)]
      exact may_len hl)
  refine acall_froze [3] hT rfl ?_ ?_
  · intro j hj
    simp at hj
    subst hj
    exact pur_dsl (k := .own) (by rfl) (by decide) rfl (by simp)
  · have e2 : totD ([⟨neg, nl, a, cap, e⟩, ⟨neg', nl', b, cap', e'⟩].map DV.m) = addD (mayD neg a e) (mayD neg' b e') := totD_two (ok_may ha)
    rw [e2]
    generalize addD (mayD neg a e) (mayD neg' b e') = d2 at *
    obtain ⟨g2, b2, f2⟩ := d2
    rintro _ ⟨n6, c6, rfl⟩
    simp [froze, cells_dy, cells_sl, wr, -cellsOf]
    exact hK _ _ _ (.same _ (pu_dy g2 n6 b2 c6 f2)) ⟨n6, c6, rfl⟩

theorem ok_neg {neg : Bool} {a : List Nat} {e : Int} : dOK (negD neg a e) := ok_norm _ _ _
theorem neg_len {neg : Bool} {a : List Nat} {e : Int} {k : Nat} (ha : Dig a) (hl : a.length ≤ k) : (negD neg a e).2.1.length ≤ k := norm_len (ofN_val_le (may_dig ha) (may_len hl))

theorem same_pre {N : Nat} {σ σ' : AHeap} (h1 : N ≤ σ.length) (h2 : N ≤ σ'.length) (h : σ.take N = σ'.take N) : Same N σ σ' := by
  refine ⟨h1, h2, fun i hi => ?_⟩
  have h3 : (σ.take N)[i]? = (σ'.take N)[i]? := by rw [h]
  rw [List.getElem?_take_of_lt hi, List.getElem?_take_of_lt hi] at h3
  exact h3.symm

theorem sub3_ctr (neg nl neg' nl' : Bool) (a b : List Nat) (cap cap' : Option Nat) (e e' : Int) (ha : Dig a) (hb : Dig b) (hl : a.length ≤ 1000) (hl' : b.length ≤ 1000) :
    Ctr Tryz.prog 66 [dy neg nl a cap e, dy neg' nl' b cap' e'] (dTold (addD (mayD neg a e) (negD neg' b e'))) := by
  refine ctr_in Tryz.func66 rfl (by kernel_rfl) rfl fun K hK => ?_
  simp only [Tryz.f66, List.append_eq, List.cons_append, List.nil_append]
  simp [cells_dy, cells_sl, cells_ag, wr, -cellsOf]
  refine draw_on [1, 1, 3, 3, 3, 4] orders (by decide) ?_
  simp [cells_dy, cells_sl, cells_ag, wr, -cellsOf]
  refine acall_by (neg_ctr neg' nl' b cap' e' hb (by omega)) (by simpa [dy] using pu_dy neg' nl' b cap' e') ?_
  have hno : dOK (negD neg' b e') := ok_neg
  have hnl := neg_len (neg := neg') (e := e') hb hl'
  have hmy : mayD (negD neg' b e').1 (negD neg' b e').2.1 (negD neg' b e').2.2 = negD neg' b e' := may_of_ok hno.1
  generalize negD neg' b e' = d at *
  obtain ⟨g, c, f⟩ := d
  rintro _ ⟨n1, c1, rfl⟩
  simp only at hnl hmy
  simp [cells_dy, cells_sl, cells_ag, wr, -cellsOf]
  refine ⟨same_pre (by simp) (by simp) rfl, ?_⟩
  have hT := total_ctr false [⟨neg, nl, a, cap, e⟩, ⟨g, n1, c, c1, f⟩] (some 2) (by simp) (by simp; exact ⟨⟨ha, hl⟩, hno.2, hnl⟩) (by
    intro k hk
    have : k = 0 ∨ k = 1 := by simp at hk; omega
    rcases this with rfl | rfl
    · simp [totD, zeroD]
    · show (addD zeroD (mayD neg a e)).2.1.length ≤ 1000
      rw [addD_zero (ok_may ha)]
      exact may_len hl)
  refine acall_froze [3] hT rfl ?_ ?_
  · intro j hj
    simp at hj
    subst hj
    exact pur_dsl (k := .own) (by rfl) (by decide) rfl (by simp)
  · have e2 : totD ([⟨neg, nl, a, cap, e⟩, ⟨g, n1, c, c1, f⟩].map DV.m) = addD (mayD neg a e) (g, c, f) := by
      rw [← hmy]; exact totD_two (ok_may ha)
    rw [e2]
    generalize addD (mayD neg a e) (g, c, f) = d2 at *
    obtain ⟨g2, b2, f2⟩ := d2
    rintro _ ⟨n6, c6, rfl⟩
    simp [froze, cells_dy, cells_sl, wr, -cellsOf]
    refine ⟨same_pre (by simp) (by simp) rfl, ?_⟩
    exact hK _ _ _ (.same _ (pu_dy g2 n6 b2 c6 f2)) ⟨n6, c6, rfl⟩

/-- How a dyad stands to zero. -/
def sgnD (d : Dy) : Int := if d.2.1 = [] then 0 else if d.1 = true then -1 else 1
theorem dcmp_ctr (neg nl neg' nl' : Bool) (a b : List Nat) (cap cap' : Option Nat) (e e' : Int) (ha : Dig a) (hb : Dig b) (hl : a.length ≤ 1000) (hl' : b.length ≤ 1000) :
    Ctr Tryz.prog 67 [dy neg nl a cap e, dy neg' nl' b cap' e'] (fun r => r = i (sgnD (addD (mayD neg a e) (negD neg' b e')))) := by
  refine ctr_in Tryz.func67 rfl (by kernel_rfl) rfl fun K hK => ?_
  simp only [Tryz.f67, List.append_eq, List.cons_append, List.nil_append]
  simp [cells_dy, cells_sl, cells_ag, wr, -cellsOf]
  refine acall_by (sub3_ctr neg nl neg' nl' a b cap cap' e e' ha hb hl hl') (by simpa [dy] using ⟨pu_dy neg nl a cap e, pu_dy neg' nl' b cap' e'⟩) ?_
  generalize addD (mayD neg a e) (negD neg' b e') = d2 at *
  obtain ⟨g2, b2, f2⟩ := d2
  rintro _ ⟨n6, c6, rfl⟩
  by_cases h0 : b2 = []
  · simp [aLen_sl, h0, cells_dy, cells_sl, wr, -cellsOf]
    exact hK _ _ _ (.same _ (by simp)) (by simp [sgnD, h0])
  · cases g2
    · simp [aLen_sl, h0, cells_dy, cells_sl, wr, -cellsOf]
      exact hK _ _ _ (.same _ (by simp)) (by simp [sgnD, h0])
    · simp [aLen_sl, h0, cells_dy, cells_sl, wr, -cellsOf]
      exact hK _ _ _ (.same _ (by simp)) (by simp [sgnD, h0])

/-- The dyad of a float. -/
def fromD (b : Nat) : Dy := if frg b < 9218868437227405312 then normD (fsg b) (mg (frg b)) (-1074 + (pl (frg b) : Nat)) else (false, [], 0)
def fTold (b : Nat) (r : AV) : Prop := ∃ nl cap, r = .tup [dy (fromD b).1 nl (fromD b).2.1 cap (fromD b).2.2, bo (decide (frg b < 9218868437227405312))]
theorem mg_lt {r : Nat} (h : r < 9218868437227405312) : mg r < 18446744073709551616 := by unfold mg; split <;> omega
theorem ofN_u64 {x : Nat} (h : x < 18446744073709551616) : (ofN x).length ≤ 2 := ofN_le (j := 2) (by omega) (Nat.le_refl _)
theorem ok_from (b : Nat) : dOK (fromD b) := by
  unfold fromD; split
  · exact ok_norm _ _ _
  · exact ok_zero
theorem from3_ctr {b : Nat} (hb : b < 18446744073709551616) : Ctr Tryz.prog 30 [fl b] (fTold b) := by
  refine ctr_in Tryz.func30 rfl (by kernel_rfl) rfl fun K hK => ?_
  simp [Tryz.f30, cells_ag0, -cellsOf]
  refine acall_by (split_ctr hb) (by simp) ?_
  rintro _ rfl
  rcases (by omega : 9218868437227405312 < frg b ∨ frg b = 9218868437227405312 ∨ frg b = 0 ∨ (frg b ≠ 0 ∧ frg b < 9218868437227405312)) with h | h | h | ⟨h0, h⟩
  · rw [splitV_nan h]
    simp [cells_ag0, wr, -cellsOf]
    exact hK _ _ _ (.same _ (pu_tup (by simpa using pu_ag0))) ⟨true, some 0, by rw [fromD, if_neg (by omega)]; simp [show ¬ frg b < 9218868437227405312 by omega]; rfl⟩
  · rw [splitV_inf h]
    simp [cells_ag0, wr, -cellsOf]
    exact hK _ _ _ (.same _ (pu_tup (by simpa using pu_ag0))) ⟨true, some 0, by rw [fromD, if_neg (by omega)]; simp [show ¬ frg b < 9218868437227405312 by omega]; rfl⟩
  · rw [splitV_zero h]
    have hz : fromD b = (false, [], 0) := by rw [fromD, if_pos (by omega), normD, if_pos (.inl (by rw [h]; rfl))]
    simp [cells_ag0, wr, -cellsOf]
    refine acall_by (from_ctr 0 (by decide)) (by simp) ?_
    rintro _ ⟨n1, c1, rfl⟩
    simp
    refine acall_by (norm_ctr false n1 _ c1 0 (dig_ofN 0) (by simp [ofN_zero])) (by simp [sl]) ?_
    rw [val_ofN, show normD false 0 0 = (false, [], 0) from if_pos (.inl rfl)]
    rintro _ ⟨n2, c2, rfl⟩
    simp [cells_dy, cells_sl, cells_ag, wr, -cellsOf]
    exact hK _ _ _ (.same _ (pu_tup (by simpa [dy] using pu_dy false n2 [] c2 0))) ⟨n2, c2, by rw [hz]; simp [show frg b < 9218868437227405312 by omega]; rfl⟩
  · rw [splitV_num h0 h]
    have hz : fromD b = normD (fsg b) (mg (frg b)) (-1074 + (pl (frg b) : Nat)) := by rw [fromD, if_pos h]
    have hm := mg_lt h
    simp [cells_ag0, wr, -cellsOf]
    refine acall_by (from_ctr _ hm) (by simp) ?_
    rintro _ ⟨n1, c1, rfl⟩
    simp
    have hl := ofN_u64 hm
    refine acall_by (norm_ctr (fsg b) n1 _ c1 _ (dig_ofN _) (by omega)) (by simp [sl]) ?_
    rw [val_ofN, ← hz]
    have hT : fTold b = fun r => ∃ nl cap, r = .tup [dy (fromD b).1 nl (fromD b).2.1 cap (fromD b).2.2, bo (decide (frg b < 9218868437227405312))] := rfl
    rw [hT] at hK
    generalize fromD b = d2 at *
    obtain ⟨g2, b2, f2⟩ := d2
    rintro _ ⟨n2, c2, rfl⟩
    simp [cells_dy, cells_sl, cells_ag, wr, -cellsOf]
    exact hK _ _ _ (.same _ (pu_tup (by simpa [dy] using pu_dy g2 n2 b2 c2 f2))) ⟨n2, c2, by simp [h]; rfl⟩
end Go.Proofs.Nt
/- Plain mathematics: what dyads come to, without any error. -/
set_option linter.unusedVariables false
set_option linter.unusedSimpArgs false
namespace Go.Proofs.Nt
open Go Go.Proofs

/-- A number with a sign. -/
def sg (g : Bool) (n : Nat) : Int := if g then -(n : Int) else n
theorem sg_f (n : Nat) : sg false n = n := (rfl)
theorem sg_t (n : Nat) : sg true n = -(n : Int) := (rfl)
/-- What a dyad comes to, in units of a power of two. -/
def iv (d : Dy) (L : Int) : Int := sg d.1 (up (val d.2.1) d.2.2 L)

theorem up_up {n : Nat} {f m L : Int} (h1 : L ≤ m) (h2 : m ≤ f) : up (up n f m) m L = up n f L := by
  unfold up
  rw [Nat.mul_assoc, ← Nat.pow_add]
  congr 2; omega
theorem up_zero (f L : Int) : up 0 f L = 0 := by unfold up; rw [Nat.zero_mul]
theorem up_pos' {n : Nat} (h : n ≠ 0) (f L : Int) : up n f L ≠ 0 := by
  unfold up; exact Nat.mul_ne_zero h (by have := Nat.two_pow_pos (f - L).toNat; omega)
theorem up_add (a b : Nat) (f L : Int) : up (a + b) f L = up a f L + up b f L := by unfold up; rw [Nat.add_mul]
theorem up_lt_iff {a b : Nat} (f L : Int) : up a f L < up b f L ↔ a < b := by
  unfold up; exact Nat.mul_lt_mul_right (Nat.two_pow_pos _)
theorem up_mul {a b : Nat} {f g L M : Int} (h1 : L ≤ f) (h2 : M ≤ g) : up a f L * up b g M = up (a * b) (f + g) (L + M) := by
  unfold up
  have e : (f + g - (L + M)).toNat = (f - L).toNat + (g - M).toNat := by omega
  rw [e, Nat.pow_add, Nat.mul_mul_mul_comm]

theorem bl_div {n t : Nat} (h : t ≤ bl n) : bl (n / 2 ^ t) + t ≤ bl n := by
  have h1 := bl_high n
  have h2 : n / 2 ^ t < 2 ^ (bl n - t) := by
    rw [Nat.div_lt_iff_lt_mul (Nat.two_pow_pos t), ← Nat.pow_add, show bl n - t + t = bl n by omega]; exact h1
  have := bl_le h2
  omega
theorem up_lt {n : Nat} {f m H : Int} (h : n = 0 ∨ f + bl n ≤ H) (hm : m ≤ f) (hH : m ≤ H) : up n f m < 2 ^ (H - m).toNat := by
  rcases h with rfl | h
  · rw [up_zero]; exact Nat.two_pow_pos _
  · unfold up
    have h1 := bl_high n
    have h2 : n * 2 ^ (f - m).toNat < 2 ^ bl n * 2 ^ (f - m).toNat := Nat.mul_lt_mul_of_pos_right h1 (Nat.two_pow_pos _)
    rw [← Nat.pow_add] at h2
    exact Nat.lt_of_lt_of_le h2 (Nat.pow_le_pow_right (by decide) (by omega))

/-! ### How great a dyad is -/
def Bn (L H : Int) (n : Nat) (e : Int) : Prop := n = 0 ∨ (L ≤ e ∧ e + bl n ≤ H)
def Bd (L H : Int) (d : Dy) : Prop := Bn L H (val d.2.1) d.2.2

theorem Bd.mono {L H L' H' : Int} {d : Dy} (h : Bd L H d) (h1 : L' ≤ L) (h2 : H ≤ H') : Bd L' H' d := by
  rcases h with h | h
  · exact .inl h
  · exact .inr (by omega)
theorem bd_norm {L H : Int} (g : Bool) {n : Nat} {e : Int} (h : Bn L H n e) : Bd L H (normD g n e) := by
  unfold normD
  split
  · exact .inl rfl
  · rename_i h0
    have hn : n ≠ 0 := by omega
    have ht := tz_lt hn
    have := bl_div (n := n) (t := tz n) (by omega)
    rcases h with h | h
    · exact absurd h hn
    · refine .inr ?_
      rw [val_ofN]
      show L ≤ e + (tz n : Int) ∧ e + (tz n : Int) + (bl (n / 2 ^ tz n) : Int) ≤ H
      omega
theorem bd_zero (L H : Int) : Bd L H zeroD := .inl rfl

theorem lvl_le1 (e e' : Int) : lvl e e' ≤ e := by rw [lvl]; split <;> omega
theorem lvl_le2 (e e' : Int) : lvl e e' ≤ e' := by rw [lvl]; split <;> omega
theorem lvl_or (e e' : Int) : lvl e e' = e ∨ lvl e e' = e' := by rw [lvl]; split <;> omega

theorem ok_zero_e {d : Dy} (h : dOK d) (h0 : val d.2.1 = 0) : d = zeroD := by
  obtain ⟨g, a, e⟩ := d
  obtain ⟨h, ha⟩ := h
  simp only at h ha h0
  by_cases ha0 : a = []
  · subst ha0
    obtain ⟨rfl, rfl⟩ := zero_of h
    rfl
  · have := up_pos (m := 0) ha h ha0
    rw [h0, up_zero] at this; omega

/-- The two numbers that are added are not too great. -/
theorem add_room {L H : Int} {d1 d2 : Dy} (o1 : dOK d1) (o2 : dOK d2) (h1 : Bd L H d1) (h2 : Bd L H d2) (hL : L ≤ 0) :
    L ≤ lvl d1.2.2 d2.2.2 ∧ ∀ n, n ≤ up (val d1.2.1) d1.2.2 (lvl d1.2.2 d2.2.2) + up (val d2.2.1) d2.2.2 (lvl d1.2.2 d2.2.2) → Bn L (H + 1) n (lvl d1.2.2 d2.2.2) := by
  have a1 := lvl_le1 d1.2.2 d2.2.2
  have a2 := lvl_le2 d1.2.2 d2.2.2
  have a3 := lvl_or d1.2.2 d2.2.2
  have z1 : val d1.2.1 = 0 → d1.2.2 = 0 := fun h => by rw [ok_zero_e o1 h]; rfl
  have z2 : val d2.2.1 = 0 → d2.2.2 = 0 := fun h => by rw [ok_zero_e o2 h]; rfl
  have l1 : L ≤ d1.2.2 := by
    rcases h1 with h | h
    · have := z1 h; omega
    · exact h.1
  have l2 : L ≤ d2.2.2 := by
    rcases h2 with h | h
    · have := z2 h; omega
    · exact h.1
  generalize lvl d1.2.2 d2.2.2 = m at *
  have hm : L ≤ m := by omega
  refine ⟨hm, fun n hn => ?_⟩
  rcases Nat.eq_zero_or_pos n with h0 | h0
  · exact .inl h0
  · refine .inr ⟨hm, ?_⟩
    have hH : m ≤ H := by
      rcases h1 with h | h
      · rcases h2 with h' | h'
        · rw [h, h', up_zero, up_zero] at hn; omega
        · omega
      · omega
    have u1 := up_lt (m := m) (H := H) (by rcases h1 with h | h; exact .inl h; exact .inr h.2) a1 hH
    have u2 := up_lt (m := m) (H := H) (by rcases h2 with h | h; exact .inl h; exact .inr h.2) a2 hH
    have h3 : n < 2 ^ ((H - m).toNat + 1) := by rw [Nat.pow_succ]; omega
    have := bl_le h3
    omega
theorem bd_add {L H : Int} {d1 d2 : Dy} (o1 : dOK d1) (o2 : dOK d2) (h1 : Bd L H d1) (h2 : Bd L H d2) (hL : L ≤ 0) : Bd L (H + 1) (addD d1 d2) := by
  obtain ⟨_, h⟩ := add_room o1 o2 h1 h2 hL
  unfold addD
  split
  · exact bd_norm _ (h _ (Nat.le_refl _))
  · split
    · exact bd_norm _ (h _ (by omega))
    · exact bd_norm _ (h _ (by omega))
theorem bd_mul {L H L' H' : Int} {d1 d2 : Dy} (h1 : Bd L H d1) (h2 : Bd L' H' d2) : Bd (L + L') (H + H') (mulD d1 d2) := by
  unfold mulD
  refine bd_norm _ ?_
  rcases h1 with h | h
  · exact .inl (by rw [h, Nat.zero_mul])
  · rcases h2 with h' | h'
    · exact .inl (by rw [h', Nat.mul_zero])
    · refine .inr ⟨by omega, ?_⟩
      have h3 : val d1.2.1 * val d2.2.1 < 2 ^ (bl (val d1.2.1) + bl (val d2.2.1)) := by
        rw [Nat.pow_add]; exact Nat.mul_lt_mul'' (bl_high _) (bl_high _)
      have := bl_le h3
      omega
theorem bd_may {L H : Int} {neg : Bool} {a : List Nat} {e : Int} (h : Bn L H (val a) e) : Bd L H (mayD neg a e) := by
  unfold mayD; split
  · exact h
  · exact .inl rfl
theorem bd_neg {L H : Int} {neg : Bool} {a : List Nat} {e : Int} (h : Bn L H (val a) e) : Bd L H (negD neg a e) := bd_norm _ (bd_may (neg := neg) h)
theorem bd_abs {L H : Int} {neg : Bool} {a : List Nat} {e : Int} (h : Bn L H (val a) e) : Bd L H (absD neg a e) := bd_norm _ (bd_may (neg := neg) h)
theorem bd_len {L H : Int} {d : Dy} (o : dOK d) (h : Bd L H d) {k : Nat} (hk : H - L ≤ 32 * (k : Int)) : d.2.1.length ≤ k := by
  have e : d.2.1 = ofN (val d.2.1) := by
    obtain ⟨g, a, e⟩ := d
    obtain ⟨o, ha⟩ := o
    simp only at o ha ⊢
    rw [dOk] at o
    split at o
    · rename_i h0; rw [h0]; simp [val, ofN_zero]
    · simp only [Bool.and_eq_true, beq_iff_eq] at o
      rw [← trim_ofN ha, o.1.1.1]
  rw [e]
  rcases h with h | h
  · rw [h, ofN_zero]; simp
  · refine ofN_le (j := k) ?_ (Nat.le_refl _)
    rw [base_pow]
    exact Nat.lt_of_lt_of_le (bl_high _) (Nat.pow_le_pow_right (by decide) (by omega))

/-! ### What counting comes to -/
theorem iv_norm {g : Bool} {n : Nat} {e L : Int} (hL : L ≤ e) (h : n = 0 ∨ (-20000 ≤ e ∧ e + bl n ≤ 20000)) : iv (normD g n e) L = sg g (up n e L) := by
  unfold normD
  by_cases h0 : n = 0
  · rw [if_pos (.inl h0), h0]
    show sg false (up 0 0 L) = sg g (up 0 e L)
    rw [up_zero, up_zero]; cases g <;> rfl
  · have ht := tz_lt h0
    rw [if_neg (by omega)]
    show sg g (up (val (ofN (n / 2 ^ tz n))) (e + (tz n : Int)) L) = sg g (up n e L)
    rw [val_ofN]
    unfold up
    have e1 : (e + (tz n : Int) - L).toNat = tz n + (e - L).toNat := by omega
    have e2 := tz_eq (n := n)
    rw [e1, Nat.pow_add, ← Nat.mul_assoc, Nat.mul_comm (n / 2 ^ tz n), ← e2]

theorem iv_level {g : Bool} {a : List Nat} {e m L : Int} (h1 : L ≤ m) (h2 : m ≤ e) : iv (g, a, e) L = sg g (up (up (val a) e m) m L) := by
  rw [up_up h1 h2]; rfl

theorem iv_add {L H M : Int} {d1 d2 : Dy} (o1 : dOK d1) (o2 : dOK d2) (h1 : Bd L H d1) (h2 : Bd L H d2) (hL : L ≤ 0) (hL2 : -20000 ≤ L) (hH : H < 20000) (hM : M ≤ L) :
    iv (addD d1 d2) M = iv d1 M + iv d2 M := by
  obtain ⟨r1, r2⟩ := add_room o1 o2 h1 h2 hL
  have a1 := lvl_le1 d1.2.2 d2.2.2
  have a2 := lvl_le2 d1.2.2 d2.2.2
  obtain ⟨g, a, e⟩ := d1
  obtain ⟨g', a', e'⟩ := d2
  simp only at r1 r2 a1 a2
  unfold addD
  simp only
  rw [iv_level (g := g) (show M ≤ lvl e e' by omega) a1, iv_level (g := g') (show M ≤ lvl e e' by omega) a2]
  generalize lvl e e' = m at *
  generalize up (val a) e m = x at *
  generalize up (val a') e' m = y at *
  have q : ∀ n, n ≤ x + y → n = 0 ∨ (-20000 ≤ m ∧ m + bl n ≤ 20000) := fun n hn => by
    rcases r2 n hn with h | h
    · exact .inl h
    · exact .inr (by omega)
  by_cases hg : g = g'
  · subst hg
    rw [if_pos rfl, iv_norm (by omega) (q _ (by omega)), up_add]
    cases g
    · simp only [sg_f]; omega
    · simp only [sg_t]; omega
  · rw [if_neg hg]
    by_cases hxy : x < y
    · rw [if_pos hxy, iv_norm (by omega) (q _ (by omega))]
      have e1 : up y m M = up (y - x) m M + up x m M := by rw [← up_add, Nat.sub_add_cancel (by omega)]
      cases g <;> cases g' <;> first | exact absurd rfl hg | skip
      · simp only [sg_f, sg_t]; omega
      · simp only [sg_f, sg_t]; omega
    · rw [if_neg hxy, iv_norm (by omega) (q _ (by omega))]
      have e1 : up x m M = up (x - y) m M + up y m M := by rw [← up_add, Nat.sub_add_cancel (by omega)]
      cases g <;> cases g' <;> first | exact absurd rfl hg | skip
      · simp only [sg_f, sg_t]; omega
      · simp only [sg_f, sg_t]; omega

theorem sg_mul (g g' : Bool) (a b : Nat) : sg (g != g') (a * b) = sg g a * sg g' b := by
  cases g <;> cases g' <;> simp [sg, Int.neg_mul, Int.mul_neg]
theorem iv_mul {L H L' H' M M' : Int} {d1 d2 : Dy} (h1 : Bd L H d1) (h2 : Bd L' H' d2) (hL : -20000 ≤ L + L') (hH : H + H' ≤ 20000) (hM : M ≤ d1.2.2) (hM' : M' ≤ d2.2.2) :
    iv (mulD d1 d2) (M + M') = iv d1 M * iv d2 M' := by
  unfold mulD
  rw [iv_norm (by omega)]
  · unfold iv
    rw [← sg_mul, up_mul hM hM']
  · rcases h1 with h | h
    · exact .inl (by rw [h, Nat.zero_mul])
    · rcases h2 with h' | h'
      · exact .inl (by rw [h', Nat.mul_zero])
      · refine .inr ⟨by omega, ?_⟩
        have h3 : val d1.2.1 * val d2.2.1 < 2 ^ (bl (val d1.2.1) + bl (val d2.2.1)) := by
          rw [Nat.pow_add]; exact Nat.mul_lt_mul'' (bl_high _) (bl_high _)
        have := bl_le h3
        omega

theorem iv_norm_ok {g g' : Bool} {a : List Nat} {e M : Int} (o : dOK (g, a, e)) (hM : M ≤ e) : iv (normD g' (val a) e) M = sg g' (up (val a) e M) := by
  by_cases h0 : a = []
  · subst h0
    show iv (normD g' 0 e) M = sg g' (up 0 e M)
    exact iv_norm hM (.inl rfl)
  · have h := norm_ok o.2 o.1 g'
    simp only at h
    rw [if_neg h0] at h
    rw [h]; rfl
theorem sg_not (g : Bool) (n : Nat) : sg (!g) n = -sg g n := by cases g <;> simp [sg]
theorem iv_neg {neg : Bool} {a : List Nat} {e M : Int} (ha : Dig a) (hM : M ≤ -20000) : iv (negD neg a e) M = -iv (mayD neg a e) M := by
  have o := ok_may (neg := neg) (e := e) ha
  have he := ok_exp o.1
  unfold negD
  generalize mayD neg a e = d at *
  obtain ⟨g, b, f⟩ := d
  rw [iv_norm_ok o (by simp only at he ⊢; omega), sg_not]; rfl
theorem iv_abs {neg : Bool} {a : List Nat} {e M : Int} (ha : Dig a) (hM : M ≤ -20000) : iv (absD neg a e) M = ((iv (mayD neg a e) M).natAbs : Int) := by
  have o := ok_may (neg := neg) (e := e) ha
  have he := ok_exp o.1
  unfold absD
  generalize mayD neg a e = d at *
  obtain ⟨g, b, f⟩ := d
  rw [iv_norm_ok o (by simp only at he ⊢; omega)]
  unfold iv
  cases g <;> simp [sg]

theorem iv_zero (M : Int) : iv zeroD M = 0 := by show sg false (up 0 0 M) = 0; rw [up_zero]; rfl
theorem iv_zero_iff {d : Dy} (o : dOK d) (M : Int) : iv d M = 0 ↔ d = zeroD := by
  constructor
  · intro h
    refine ok_zero_e o ?_
    have h1 : up (val d.2.1) d.2.2 M = 0 := by
      unfold iv sg at h; split at h <;> omega
    rcases Nat.eq_zero_or_pos (val d.2.1) with h2 | h2
    · exact h2
    · exact absurd h1 (up_pos' (by omega) _ _)
  · rintro rfl; exact iv_zero M

theorem odd_of {d : Dy} (o : dOK d) (h0 : d ≠ zeroD) : val d.2.1 % 2 = 1 ∧ d.2.1 = ofN (val d.2.1) := by
  obtain ⟨g, a, e⟩ := d
  obtain ⟨o, ha⟩ := o
  simp only at o ha ⊢
  by_cases ha0 : a = []
  · subst ha0
    obtain ⟨rfl, rfl⟩ := zero_of o
    exact absurd rfl h0
  · rw [dOk, if_neg ha0] at o
    simp only [Bool.and_eq_true, decide_eq_true_eq, beq_iff_eq] at o
    exact ⟨by rw [val_odd ha, o.1.1.2], by rw [← trim_ofN ha, o.1.1.1]⟩

/-- One dyad that may be is there of each number. -/
theorem iv_inj {d1 d2 : Dy} (o1 : dOK d1) (o2 : dOK d2) {M : Int} (hM : M ≤ -20000) (h : iv d1 M = iv d2 M) : d1 = d2 := by
  by_cases z1 : d1 = zeroD
  · subst z1
    rw [iv_zero] at h
    exact ((iv_zero_iff o2 M).1 h.symm).symm
  · have z2 : d2 ≠ zeroD := by
      intro z2
      subst z2
      rw [iv_zero] at h
      exact z1 ((iv_zero_iff o1 M).1 h)
    obtain ⟨p1, q1⟩ := odd_of o1 z1
    obtain ⟨p2, q2⟩ := odd_of o2 z2
    have e1 := ok_exp o1.1
    have e2 := ok_exp o2.1
    obtain ⟨g, a, e⟩ := d1
    obtain ⟨g', a', e'⟩ := d2
    simp only at p1 q1 p2 q2 e1 e2
    have u1 := up_pos' (n := val a) (by omega) e M
    have u2 := up_pos' (n := val a') (by omega) e' M
    have hg : g = g' := by
      unfold iv at h
      simp only at h
      cases g <;> cases g' <;> first | rfl | skip
      · simp only [sg_f, sg_t] at h; omega
      · simp only [sg_f, sg_t] at h; omega
    subst hg
    have hu : up (val a) e M = up (val a') e' M := by
      unfold iv at h
      simp only at h
      cases g
      · simp only [sg_f] at h; omega
      · simp only [sg_t] at h; omega
    have t1 : tz (up (val a) e M) = (e - M).toNat := by rw [up, Nat.mul_comm, tz_mul _ (by omega), tz_odd p1, Nat.add_zero]
    have t2 : tz (up (val a') e' M) = (e' - M).toNat := by rw [up, Nat.mul_comm, tz_mul _ (by omega), tz_odd p2, Nat.add_zero]
    have he : e = e' := by rw [hu] at t1; omega
    subst he
    have hv : val a = val a' := by
      unfold up at hu
      exact Nat.eq_of_mul_eq_mul_right (Nat.two_pow_pos _) hu
    rw [q1, q2, hv]

theorem sgnD_iv {d : Dy} (o : dOK d) (M : Int) : sgnD d = cmp3 (iv d M) 0 := by
  by_cases z : d = zeroD
  · subst z; rw [iv_zero]; rfl
  · obtain ⟨p, q⟩ := odd_of o z
    have hne : d.2.1 ≠ [] := fun h => by rw [h] at p; simp [val] at p
    have u1 := up_pos' (n := val d.2.1) (by omega) d.2.2 M
    unfold sgnD cmp3 iv
    rw [if_neg hne]
    cases d.1
    · simp only [sg_f, Bool.false_eq_true, if_false]
      rw [if_neg (by omega), if_pos (by omega)]
    · simp only [sg_t, if_true]
      rw [if_pos (by omega)]

theorem cmp3_congr {a b c d : Int} (h1 : a < b ↔ c < d) (h2 : b < a ↔ d < c) : cmp3 a b = cmp3 c d := by
  unfold cmp3; simp only [h1, h2]

theorem cmpD_iv {d1 d2 : Dy} (o1 : dOK d1) (o2 : dOK d2) {M : Int} (hM : M ≤ -20000) : cmpD d1 d2 = cmp3 (iv d1 M) (iv d2 M) := by
  have e1 := ok_exp o1.1
  have e2 := ok_exp o2.1
  have a1 := lvl_le1 d1.2.2 d2.2.2
  have a2 := lvl_le2 d1.2.2 d2.2.2
  have a3 := lvl_or d1.2.2 d2.2.2
  have n1 : d1.1 = true → up (val d1.2.1) d1.2.2 M ≠ 0 := fun h => by
    by_cases z : d1 = zeroD
    · subst z; cases h
    · exact up_pos' (by have := (odd_of o1 z).1; omega) _ _
  have n2 : d2.1 = true → up (val d2.2.1) d2.2.2 M ≠ 0 := fun h => by
    by_cases z : d2 = zeroD
    · subst z; cases h
    · exact up_pos' (by have := (odd_of o2 z).1; omega) _ _
  obtain ⟨g, a, e⟩ := d1
  obtain ⟨g', a', e'⟩ := d2
  simp only at e1 e2 a1 a2 a3 n1 n2
  unfold cmpD
  simp only
  have i1 : up (up (val a) e (lvl e e')) (lvl e e') M = up (val a) e M := up_up (by omega) a1
  have i2 : up (up (val a') e' (lvl e e')) (lvl e e') M = up (val a') e' M := up_up (by omega) a2
  have l1 := up_lt_iff (a := up (val a) e (lvl e e')) (b := up (val a') e' (lvl e e')) (lvl e e') M
  have l2 := up_lt_iff (a := up (val a') e' (lvl e e')) (b := up (val a) e (lvl e e')) (lvl e e') M
  rw [i1, i2] at l1 l2
  unfold iv
  simp only
  generalize up (val a) e (lvl e e') = x at *
  generalize up (val a') e' (lvl e e') = y at *
  generalize up (val a) e M = X at *
  generalize up (val a') e' M = Y at *
  by_cases hg : g = g'
  · subst hg
    rw [if_pos rfl]
    cases g
    · simp only [sg_f, Bool.false_eq_true, if_false]
      exact cmp3_congr (by omega) (by omega)
    · simp only [sg_t, if_true]
      exact cmp3_congr (by omega) (by omega)
  · rw [if_neg hg]
    cases g <;> cases g' <;> first | exact absurd rfl hg | skip
    · simp only [sg_f, sg_t, Bool.false_eq_true, if_false, cmp3]
      have := n2 rfl
      rw [if_neg (by omega), if_pos (by omega)]
    · simp only [sg_f, sg_t, if_true, cmp3]
      have := n1 rfl
      rw [if_pos (by omega)]
end Go.Proofs.Nt
/- Dyads: Sum both. -/
set_option linter.unusedVariables false
set_option maxRecDepth 20000
set_option linter.unusedSimpArgs false
namespace Go.Proofs.Va
open Go Go.RowKit

/-- What is said of blocks, less of it. -/
@[simp] def wkH : AHeap → AHeap → Prop
  | [], _ => True
  | b' :: σ', b :: σ => b'.ver = b.ver ∧ b'.kind = b.kind ∧ wkL b'.cells b.cells ∧ wkH σ' σ
  | _ :: _, [] => False
@[simp] theorem wkL_self : ∀ (l : List AV), wkL l l ↔ True
  | [] => by simp
  | x :: l => by simp [wkL, wk1_refl, wkL_self l]
theorem wkH_at : ∀ {σ' σ : AHeap}, wkH σ' σ → ∀ (i : Nat) (b' : ABlk), σ'[i]? = some b' → ∃ b, σ[i]? = some b ∧ b'.ver = b.ver ∧ b'.kind = b.kind ∧ wkL b'.cells b.cells
  | [], _, _, i, b', h => by simp at h
  | b1 :: σ', b2 :: σ, h, 0, b', hb => by
    simp at hb; subst hb
    exact ⟨b2, rfl, h.1, h.2.1, h.2.2.1⟩
  | b1 :: σ', b2 :: σ, h, i + 1, b', hb => wkH_at (σ' := σ') (σ := σ) h.2.2.2 i b' (by simpa using hb)
theorem wkH_len : ∀ {σ' σ : AHeap}, wkH σ' σ → σ'.length ≤ σ.length
  | [], _, _ => Nat.zero_le _
  | b1 :: σ', b2 :: σ, h => by have := wkH_len (σ' := σ') (σ := σ) h.2.2.2; simp; omega
theorem Wk.lst_of {n0 n : Nat} {T T' : Tm} {σ σ' : AHeap} (h : ∀ p ∈ T', wk1 p.2 (look T p.1)) (hn : n0 ≤ σ'.length) (hb : wkH σ' σ) (hs : ∀ p ∈ T', Sc σ'.length p.2)
    (hs2 : ∀ b ∈ σ', ∀ x ∈ b.cells, Sc σ'.length x) : Wk n0 ⟨Va.lst n T, σ⟩ ⟨Va.lst n T', σ'⟩ := by
  have h0 := Wk.lst (n0 := 0) (n := n) (σ := σ) h (Nat.zero_le _)
  refine ⟨h0.len, h0.t, hn, wkH_len hb, fun i b' hi => ?_, fun _ => ⟨fun x hx => ?_, fun b hb _ => hs2 b hb⟩⟩
  · obtain ⟨b, h1, h2, h3, h4⟩ := wkH_at hb i b' hi
    obtain ⟨h5, h6⟩ := wkL_at h4
    exact ⟨b, h1, h2, fun _ => h3, fun _ => ⟨by omega, h6⟩⟩
  · unfold Va.lst at hx
    obtain ⟨i, _, rfl⟩ := List.mem_map.1 hx
    exact look_all (.any) hs i
end Go.Proofs.Va
namespace Go.Proofs.Nt
open Go Go.Proofs Go.Proofs.Va Go.RowKit

@[simp] theorem elTF : elT Tryz.prog 22 = some (25, ⟨1, 8, [.v (.float .f64 0)]⟩) := by kernel_rfl
@[simp] theorem srcDs : srcT Tryz.prog 27 = some false := by kernel_rfl

/-- Floats, as a slice that nobody writes. -/
def fsl (nl : Bool) (l : List Nat) (cap : Option Nat) : AV := .pl (nl && l.isEmpty) (l.map fl) l.length cap
def Fl (l : List Nat) : Prop := ∀ b ∈ l, b < 18446744073709551616
def DV.d (d : DV) : Dy := (d.neg, d.a, d.e)
/-- A dyad, and whether it is told. -/
def pTold (d : Dy) (q : Bool) (r : AV) : Prop := ∃ nl cap, r = .tup [dy d.1 nl d.2.1 cap d.2.2, bo q]
def fin (b : Nat) : Bool := decide (frg b < 9218868437227405312)
theorem fTold_eq (b : Nat) : fTold b = pTold (fromD b) (fin b) := rfl
theorem from_bd (b : Nat) : Bd (-1074) 1024 (fromD b) := by
  unfold fromD; split
  · rename_i h
    refine bd_norm _ (.inr ⟨by omega, ?_⟩)
    have h1 : mg (frg b) < 2 ^ 53 := by
      have : (2 : Nat) ^ 53 = 9007199254740992 := rfl
      unfold mg; split <;> omega
    have h2 := bl_le h1
    have h3 : pl (frg b) ≤ 2045 := by unfold pl; omega
    omega
  · exact .inl rfl

theorem dcs_snoc (l : List DV) (d : DV) : dcs (l ++ [d]) = dcs l ++ d.cs := by simp [dcs]

theorem sc_dcs (n : Nat) (l : List DV) : ∀ x ∈ dcs l, Sc n x := by
  intro x hx
  obtain ⟨d, _, hx⟩ := List.mem_flatMap.1 hx
  simp [DV.cs] at hx
  rcases hx with rfl | rfl | rfl <;> simp [sl]

end Go.Proofs.Nt
/- Dyads: the document's Sum; Dot both. -/
set_option linter.unusedVariables false
set_option maxRecDepth 20000
set_option linter.unusedSimpArgs false
namespace Go.Proofs.Nt
open Go Go.Proofs Go.Proofs.Va Go.RowKit

theorem take_snoc {α : Type} {l : List α} {k : Nat} (h : k < l.length) : l.take (k + 1) = l.take k ++ [l[k]] := by
  rw [List.take_add_one, List.getElem?_eq_getElem h]; rfl
/-! ### Dot -/
theorem ok_mul (d1 d2 : Dy) : dOK (mulD d1 d2) := ok_norm _ _ _
end Go.Proofs.Nt
/- Dyads: Dot. -/
set_option linter.unusedVariables false
set_option maxRecDepth 20000
set_option linter.unusedSimpArgs false
namespace Go.Proofs.Nt
open Go Go.Proofs Go.Proofs.Va Go.RowKit

end Go.Proofs.Nt
