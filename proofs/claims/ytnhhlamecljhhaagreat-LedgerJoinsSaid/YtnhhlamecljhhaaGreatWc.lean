import Derived.Test.YtnhhlamecljhhaaGreatWa
import Derived.Test.YtnhhlamecljhhaaGreatWb
import Derived.Test.YtnhhlamecljhhaaGreatProg
import Derived.KernelRfl
import Derived.Lib.Overlaps
/- The naturals: what is told of types; digits as values. -/
set_option linter.unusedVariables false
set_option maxRecDepth 20000
set_option linter.unusedSimpArgs false
namespace Go.Proofs.Nt
open Go Go.Proofs Go.Proofs.Va

@[simp] theorem elT23 : elT Tryz.prog 47 = some (51, ⟨1, 4, [.v (.int .u32 0)]⟩) := by kernel_rfl
@[simp] theorem elT22 : elT Tryz.prog 46 = some (51, ⟨1, 4, [.v (.int .u32 0)]⟩) := by kernel_rfl
@[simp] theorem aggT44 : aggT Tryz.prog 51 = some false := by kernel_rfl
@[simp] theorem aggT23 : aggT Tryz.prog 47 = some false := by kernel_rfl
@[simp] theorem aggT3 : aggT Tryz.prog 3 = some false := by kernel_rfl
@[simp] theorem und22 : Tryz.prog.underlying 46 = some (.slice 51) := by kernel_rfl
@[simp] theorem src22 : srcT Tryz.prog 46 = some false := by kernel_rfl
@[simp] theorem src23 : srcT Tryz.prog 47 = some false := by kernel_rfl
@[simp] theorem isS23 : isSliceT Tryz.prog 47 = true := by kernel_rfl
@[simp] theorem isB4 : isBoolT Tryz.prog 4 = true := by kernel_rfl
@[simp] theorem sz44 : szT Tryz.prog 51 = some 1 := by kernel_rfl
@[simp] theorem sz23 : szT Tryz.prog 47 = some 1 := by kernel_rfl
@[simp] theorem sz3 : szT Tryz.prog 3 = some 1 := by kernel_rfl
@[simp] theorem zc23 : zcT Tryz.prog 47 = some [.pl true [] 0 (some 0)] := by kernel_rfl
@[simp] theorem zc3 : zcT Tryz.prog 3 = some [.v (.int .i64 0)] := by kernel_rfl
@[simp] theorem zc51 : zcT Tryz.prog 135 = some [.pl true [] 0 (some 0)] := by kernel_rfl
@[simp] theorem fld51 : fldT Tryz.prog 135 0 = some (47, 0) := by kernel_rfl
theorem orders : Tryz.prog.follows .mixedOrders = true := by kernel_rfl

/-- A digit, as a value. -/
@[simp] def dg (x : Nat) : AV := .v (.int .u32 (x : Int))
@[simp] def u (x : Nat) : AV := .v (.int .u64 (x : Int))
@[simp] def i (x : Int) : AV := .v (.int .i64 x)
@[simp] def bo (b : Bool) : AV := .v (.bool b)
/-- Digits, as a slice that nobody writes. -/
def sl (nl : Bool) (a : List Nat) (cap : Option Nat) : AV := .pl (nl && a.isEmpty) (a.map dg) a.length cap

def Dig (a : List Nat) : Prop := ∀ x ∈ a, x < 4294967296
theorem Dig.at {a : List Nat} (h : Dig a) {k : Nat} (hk : k < a.length) : a[k] < 4294967296 := h _ (List.getElem_mem hk)

/-- The digit at a place; 0 behind all. -/
def at' (a : List Nat) (k : Nat) : Nat := a.getD k 0
theorem at'_lt {a : List Nat} (h : Dig a) (k : Nat) : at' a k < 4294967296 := by
  unfold at'
  rcases Nat.lt_or_ge k a.length with hk | hk
  · rw [List.getD_eq_getElem?_getD, List.getElem?_eq_getElem hk]; exact h.at hk
  · rw [List.getD_eq_getElem?_getD, List.getElem?_eq_none hk]; decide

theorem digit_ctr (nl : Bool) (a : List Nat) (cap : Option Nat) (k : Nat) (ha : Dig a) : Ctr Tryz.prog 124 [sl nl a cap, i k] (fun r => r = u (at' a k)) := by
  refine ctr_val Tryz.func124 rfl (by kernel_rfl) rfl (by simp) fun K hK => ?_
  unfold sl
  by_cases hk : k < a.length
  · have hx := ha.at hk
    have hw : IntKind.u64.wrap (a[k] : Int) = (a[k] : Int) := IntWalk.u64_in _ (by omega)
    simp [Tryz.f124, hk, hw, at'] at hK ⊢
    exact hK _
  · simp [Tryz.f124, hk, at'] at hK ⊢
    exact hK _
theorem at_ctr (nl : Bool) (a : List Nat) (cap : Option Nat) (k : Nat) (ha : Dig a) : Ctr Tryz.prog 80 [sl nl a cap, i k] (fun r => r = u (at' a k)) := by
  refine ctr_val Tryz.func80 rfl (by kernel_rfl) rfl (by simp) fun K hK => ?_
  unfold sl
  by_cases hk : k < a.length
  · have hx := ha.at hk
    have hw : IntKind.u64.wrap (a[k] : Int) = (a[k] : Int) := IntWalk.u64_in _ (by omega)
    simp [Tryz.f80, hk, Nat.not_le.2 hk, hw, at'] at hK ⊢
    exact hK _
  · simp [Tryz.f80, hk, Nat.le_of_not_lt hk, at'] at hK ⊢
    exact hK _

/-! ### Compare -/
theorem isNaN_int (k : Int) : Ctr Tryz.prog 143 [i k] (fun r => r = bo false) := by
  refine ctr_val Tryz.func143 rfl (by kernel_rfl) rfl (by simp) fun K hK => ?_
  simp [Tryz.f143] at hK ⊢
  exact hK _
theorem isNaN_u32 (k : Nat) : Ctr Tryz.prog 144 [dg k] (fun r => r = bo false) := by
  refine ctr_val Tryz.func144 rfl (by kernel_rfl) rfl (by simp) fun K hK => ?_
  simp [Tryz.f144] at hK ⊢
  exact hK _
def cmp3 (a b : Int) : Int := if a < b then -1 else if b < a then 1 else 0
theorem compare_int (a b : Int) : Ctr Tryz.prog 139 [i a, i b] (fun r => r = i (cmp3 a b)) := by
  refine ctr_val Tryz.func139 rfl (by kernel_rfl) rfl (by simp) fun K hK => ?_
  simp [Tryz.f139, cmp3] at hK ⊢
  refine acall_by (isNaN_int a) (by simp) ?_
  rintro _ rfl
  simp
  refine acall_by (isNaN_int b) (by simp) ?_
  rintro _ rfl
  simp
  by_cases h1 : a < b
  · simpa [h1] using hK []
  · by_cases h2 : b < a <;> simpa [h1, h2] using hK []
theorem compare_u32 (a b : Nat) : Ctr Tryz.prog 140 [dg a, dg b] (fun r => r = i (cmp3 a b)) := by
  refine ctr_val Tryz.func140 rfl (by kernel_rfl) rfl (by simp) fun K hK => ?_
  simp [Tryz.f140, cmp3] at hK ⊢
  refine acall_by (isNaN_u32 a) (by simp) ?_
  rintro _ rfl
  simp
  refine acall_by (isNaN_u32 b) (by simp) ?_
  rintro _ rfl
  simp
  by_cases h1 : a < b
  · simpa [h1] using hK []
  · by_cases h2 : b < a <;> simpa [h1, h2] using hK []
end Go.Proofs.Nt
/- The naturals: slices.Backward. -/
set_option linter.unusedVariables false
set_option maxRecDepth 20000
set_option linter.unusedSimpArgs false
namespace Go.Proofs.Nt
open Go Go.Proofs Go.Proofs.Va

theorem w64 (x : Int) (h1 : -9223372036854775808 ≤ x) (h2 : x ≤ 9223372036854775807) : IntKind.i64.wrap x = x := IntWalk.i64_in _ ⟨h1, h2⟩

theorem backward_call {x : AV} {σ : AHeap} {K : AV → AHeap → Prop} (hx : cellsOf x = some [x]) (h : K (.fn (.func 125) [] [.po σ.length 0 0]) (σ ++ [⟨.own, 0, [x]⟩])) : ACall Tryz.prog 105 [x] σ K := by
  refine acall_in Tryz.func105 rfl (by kernel_rfl) rfl ?_
  simp [Tryz.f105, -cellsOf, hx]
  exact h

theorem back_iter_pl {nl : Bool} {a : List Nat} {cap : Option Nat} {b : Nat} {σ : AHeap} {Y : List AV → AHeap → (AHeap → Prop) → (Exit → AHeap → Prop) → Prop} {D : AHeap → Prop} {X : Exit → AHeap → Prop}
    (hn : a.length ≤ 1000000) (Inv : Nat → AHeap → Prop) (h0 : Inv 0 σ) (hb : ∀ k σ', Inv k σ' → σ'[b]? = some ⟨.own, 0, [sl nl a cap]⟩) (hy : ∀ k σ' (h : k < a.length), Inv k σ' → ∀ Kt : AHeap → Prop, (∀ σ2, Inv (k + 1) σ2 → Kt σ2) → Y [i ((a.length - 1 - k : Nat) : Int), dg (a[a.length - 1 - k]'(by omega))] σ' Kt X)
    (hd : ∀ σ', Inv a.length σ' → D σ') : AIter Tryz.prog 125 [.po b 0 0] σ Y D X := by
  refine aiter_in Tryz.func125 rfl rfl rfl fun l => ?_
  have hb0 := hb 0 σ h0; unfold sl at hb0
  have hw0 : IntKind.i64.wrap ((a.length : Int) - 1) = (a.length : Int) - 1 := w64 _ (by omega) (by omega)
  refine awi_seq (awi_reg ?_)
  simp [argT, Tryz.f125, hb0, hw0]
  refine awi_block (awi_loop_on (γ := Nat × AHeap) 19 (fun g => [(0, .fn (.yield l) [] []), (1, .po b 0 0), (3, .v (.int .i64 ((a.length : Int) - 1 - g.1)))]) (fun g => g.2)
    (fun g => g.1 ≤ a.length ∧ Inv g.1 g.2) (fun g => a.length - g.1) (0, σ) ⟨Nat.zero_le _, h0⟩ rfl (by simp) ?_)
  rintro ⟨k, σ1⟩ ⟨hk, hI⟩ L hL
  have hk : k ≤ a.length := hk
  have hI : Inv k σ1 := hI
  have hbk := hb k σ1 hI
  unfold sl at hbk
  refine awi_seq (awi_seq (awi_reg ?_))
  simp
  by_cases hka : k < a.length
  · have e : (a.length : Int) - 1 - k = ((a.length - 1 - k : Nat) : Int) := by omega
    refine awi_cond (q := true) (by simp; omega) (fun _ => awi_skip ?_) (fun h => by cases h)
    simp
    refine awi_seq (awi_block (awi_yield_at 6 rfl rfl rfl rfl rfl rfl rfl rfl ?_))
    rw [e]
    have hlt : a.length - 1 - k < a.length := by omega
    simp [hbk, hlt]
    refine hy k σ1 hka hI _ fun σ2 hI2 => ?_
    simp [put_lst]
    refine awi_reg ?_
    have hw1 : IntKind.i64.wrap (((a.length - 1 - k : Nat) : Int) - 1) = (a.length : Int) - 1 - (k + 1 : Nat) := by rw [w64 _ (by omega) (by omega)]; omega
    simp [hw1]
    exact hL (k + 1, σ2) _ _ ⟨by show k + 1 ≤ a.length; omega, hI2⟩ rfl (by simp) (by show a.length - (k + 1) < a.length - k; omega)
  · refine awi_cond (q := false) (by simp; omega) (fun h => by cases h) (fun _ => awi_exit ?_)
    simp
    have : k = a.length := by omega
    subst this
    exact hd _ hI

theorem back_iter_so {j v : Nat} {a : List Nat} {cap : Option Nat} {more : List AV} {b : Nat} {σ : AHeap} {Y : List AV → AHeap → (AHeap → Prop) → (Exit → AHeap → Prop) → Prop} {D : AHeap → Prop} {X : Exit → AHeap → Prop}
    (hn : a.length ≤ 1000000) (Inv : Nat → AHeap → Prop) (h0 : Inv 0 σ) (hb : ∀ k σ', Inv k σ' → σ'[b]? = some ⟨.own, 0, [.so j v 0 a.length 1 cap]⟩ ∧ σ'[j]? = some ⟨.own, v, a.map dg ++ more⟩) (hy : ∀ k σ' (h : k < a.length), Inv k σ' → ∀ Kt : AHeap → Prop, (∀ σ2, Inv (k + 1) σ2 → Kt σ2) → Y [i ((a.length - 1 - k : Nat) : Int), dg (a[a.length - 1 - k]'(by omega))] σ' Kt X)
    (hd : ∀ σ', Inv a.length σ' → D σ') : AIter Tryz.prog 125 [.po b 0 0] σ Y D X := by
  refine aiter_in Tryz.func125 rfl rfl rfl fun l => ?_
  obtain ⟨hb0, hj0⟩ := hb 0 σ h0
  have hw0 : IntKind.i64.wrap ((a.length : Int) - 1) = (a.length : Int) - 1 := w64 _ (by omega) (by omega)
  refine awi_seq (awi_reg ?_)
  simp [argT, Tryz.f125, hb0, hj0, hw0]
  refine awi_block (awi_loop_on (γ := Nat × AHeap) 19 (fun g => [(0, .fn (.yield l) [] []), (1, .po b 0 0), (3, .v (.int .i64 ((a.length : Int) - 1 - g.1)))]) (fun g => g.2)
    (fun g => g.1 ≤ a.length ∧ Inv g.1 g.2) (fun g => a.length - g.1) (0, σ) ⟨Nat.zero_le _, h0⟩ rfl (by simp) ?_)
  rintro ⟨k, σ1⟩ ⟨hk, hI⟩ L hL
  have hk : k ≤ a.length := hk
  have hI : Inv k σ1 := hI
  obtain ⟨hbk, hjk⟩ := hb k σ1 hI
  refine awi_seq (awi_seq (awi_reg ?_))
  simp
  by_cases hka : k < a.length
  · have e : (a.length : Int) - 1 - k = ((a.length - 1 - k : Nat) : Int) := by omega
    refine awi_cond (q := true) (by simp; omega) (fun _ => awi_skip ?_) (fun h => by cases h)
    simp
    refine awi_seq (awi_block (awi_yield_at 6 rfl rfl rfl rfl rfl rfl rfl rfl ?_))
    rw [e]
    have hlt : a.length - 1 - k < a.length := by omega
    simp [hbk, hjk, hlt, List.getElem?_append_left (show a.length - 1 - k < (a.map dg).length by simpa using hlt)]
    refine hy k σ1 hka hI _ fun σ2 hI2 => ?_
    simp [put_lst]
    refine awi_reg ?_
    have hw1 : IntKind.i64.wrap (((a.length - 1 - k : Nat) : Int) - 1) = (a.length : Int) - 1 - (k + 1 : Nat) := by rw [w64 _ (by omega) (by omega)]; omega
    simp [hw1]
    exact hL (k + 1, σ2) _ _ ⟨by show k + 1 ≤ a.length; omega, hI2⟩ rfl (by simp) (by show a.length - (k + 1) < a.length - k; omega)
  · refine awi_cond (q := false) (by simp; omega) (fun h => by cases h) (fun _ => awi_exit ?_)
    simp
    have : k = a.length := by omega
    subst this
    exact hd _ hI
end Go.Proofs.Nt
/- Digits and their number: plain mathematics. -/
set_option linter.unusedVariables false
set_option linter.unusedSimpArgs false
namespace Go.Proofs.Nt

def val : List Nat → Nat
  | [] => 0
  | x :: a => x + 4294967296 * val a

/-- Without zeros at the end. -/
def trimL : List Nat → List Nat
  | [] => []
  | x :: a => if trimL a = [] ∧ x = 0 then [] else x :: trimL a

/-- A number's digits. -/
def ofN (n : Nat) : List Nat := if h : n = 0 then [] else n % 4294967296 :: ofN (n / 4294967296)
termination_by n
decreasing_by exact Nat.div_lt_self (by omega) (by decide)

theorem ofN_zero : ofN 0 = [] := by rw [ofN]; simp
theorem ofN_pos {n : Nat} (h : n ≠ 0) : ofN n = n % 4294967296 :: ofN (n / 4294967296) := by rw [ofN]; simp [h]
theorem ofN_nil {n : Nat} : ofN n = [] ↔ n = 0 := by
  constructor
  · intro h
    by_cases hn : n = 0
    · exact hn
    · rw [ofN_pos hn] at h; cases h
  · rintro rfl; exact ofN_zero

theorem ofN_cons {x v : Nat} (hx : x < 4294967296) (h : ¬ (v = 0 ∧ x = 0)) : ofN (x + 4294967296 * v) = x :: ofN v := by
  have hne : x + 4294967296 * v ≠ 0 := by omega
  rw [ofN_pos hne]
  have h1 : (x + 4294967296 * v) % 4294967296 = x := by omega
  have h2 : (x + 4294967296 * v) / 4294967296 = v := by omega
  rw [h1, h2]

theorem trim_ofN {a : List Nat} (h : Dig a) : trimL a = ofN (val a) := by
  induction a with
  | nil => simp [trimL, val, ofN_zero]
  | cons x a ih =>
    have ih := ih (fun y hy => h y (by simp [hy]))
    have hx := h x (by simp)
    simp only [trimL, val]
    rw [ih]
    by_cases hz : val a = 0 ∧ x = 0
    · rw [if_pos ⟨ofN_nil.2 hz.1, hz.2⟩, hz.1, hz.2]; simp [ofN_zero]
    · rw [if_neg (fun hh => hz ⟨ofN_nil.1 hh.1, hh.2⟩), ofN_cons hx hz]

theorem val_ofN (n : Nat) : val (ofN n) = n := by
  induction n using Nat.strongRecOn with
  | _ n ih =>
    by_cases h : n = 0
    · subst h; simp [ofN_zero, val]
    · rw [ofN_pos h, val, ih (n / 4294967296) (Nat.div_lt_self (by omega) (by decide))]; omega

theorem dig_ofN (n : Nat) : Dig (ofN n) := by
  induction n using Nat.strongRecOn with
  | _ n ih =>
    by_cases h : n = 0
    · subst h; simp [ofN_zero, Dig]
    · rw [ofN_pos h]
      intro x hx
      rcases List.mem_cons.1 hx with rfl | hx
      · exact Nat.mod_lt _ (by decide)
      · exact ih _ (Nat.div_lt_self (by omega) (by decide)) x hx

theorem len_ofN (n k : Nat) : (ofN n).length ≤ k ↔ n < 4294967296 ^ k := by
  induction k generalizing n with
  | zero =>
    rw [Nat.pow_zero, Nat.lt_one_iff, Nat.le_zero, List.length_eq_zero_iff]
    exact ofN_nil
  | succ k ih =>
    by_cases h : n = 0
    · subst h; simp only [ofN_zero, List.length_nil, Nat.zero_le, true_iff]; exact Nat.pow_pos (by decide)
    · rw [ofN_pos h, List.length_cons, Nat.succ_le_succ_iff, ih, Nat.pow_succ]
      constructor
      · intro h; have := Nat.div_lt_iff_lt_mul (x := n) (y := 4294967296 ^ k) (k := 4294967296) (by decide); exact this.1 h
      · intro h; exact (Nat.div_lt_iff_lt_mul (by decide)).2 h

theorem ofN_low {m n k : Nat} (h : m ≤ n) (hk : (ofN n).length ≤ k) : (ofN m).length ≤ k := (len_ofN m k).2 (Nat.lt_of_le_of_lt h ((len_ofN n k).1 hk))
theorem ofN_le {n j k : Nat} (h : n < 4294967296 ^ j) (hk : j ≤ k) : (ofN n).length ≤ k := Nat.le_trans ((len_ofN n j).2 h) hk

theorem val_lt {a : List Nat} (h : Dig a) : val a < 4294967296 ^ a.length := by
  induction a with
  | nil => simp [val]
  | cons x a ih =>
    have ih := ih (fun y hy => h y (by simp [hy]))
    have hx := h x (by simp)
    rw [val, List.length_cons, Nat.pow_succ]
    omega

theorem trim_len (a : List Nat) : (trimL a).length ≤ a.length := by
  induction a with
  | nil => simp [trimL]
  | cons x a ih =>
    simp only [trimL]
    split
    · simp
    · simp; exact ih

theorem trim_zeros {a : List Nat} (h : ∀ k (hk : k < a.length), a[k] = 0) : trimL a = [] := by
  induction a with
  | nil => rfl
  | cons x a ih =>
    have h0 := h 0 (by simp)
    have ih := ih (fun k hk => by have := h (k + 1) (by simpa using hk); simpa using this)
    simp only [trimL]
    rw [if_pos ⟨ih, by simpa using h0⟩]

theorem trim_take {a : List Nat} {k : Nat} (hk : k < a.length) (hx : a[k] ≠ 0) (h : ∀ j (hj : j < a.length), k < j → a[j] = 0) : trimL a = a.take (k + 1) := by
  induction a generalizing k with
  | nil => simp at hk
  | cons x a ih =>
    simp only [trimL]
    cases k with
    | zero =>
      have hz : trimL a = [] := trim_zeros fun j hj => by have := h (j + 1) (by simpa using hj) (by omega); simpa using this
      rw [hz, if_neg (by simpa using hx)]; simp
    | succ k =>
      have ih := ih (k := k) (by simpa using hk) (by simpa using hx) (fun j hj hkj => by have := h (j + 1) (by simpa using hj) (by omega); simpa using this)
      have hne : trimL a ≠ [] := by
        rw [ih]; intro hh
        rw [List.take_eq_nil_iff] at hh
        rcases hh with hh | hh
        · omega
        · rw [hh] at hk; simp at hk
      rw [if_neg (fun hh => hne hh.1), ih]; simp

theorem val_append (a b : List Nat) : val (a ++ b) = val a + 4294967296 ^ a.length * val b := by
  induction a with
  | nil => simp [val]
  | cons x a ih =>
    simp only [List.cons_append, val, ih, List.length_cons, Nat.pow_succ, Nat.mul_add]
    rw [Nat.add_assoc]
    congr 2
    rw [← Nat.mul_assoc, Nat.mul_comm 4294967296]

theorem dig_append {a b : List Nat} (ha : Dig a) (hb : Dig b) : Dig (a ++ b) := fun x hx => (List.mem_append.1 hx).elim (ha x) (hb x)
theorem dig_nil : Dig [] := fun x hx => by simp at hx
theorem dig_take {a : List Nat} (h : Dig a) (k : Nat) : Dig (a.take k) := fun x hx => h x (List.mem_of_mem_take hx)
theorem dig_one (x : Nat) : Dig [x % 4294967296] := fun y hy => by
  rw [List.mem_singleton] at hy; subst hy; exact Nat.mod_lt _ (by decide)
theorem trim_ofN_self (n : Nat) : trimL (ofN n) = ofN n := by rw [trim_ofN (dig_ofN n), val_ofN]
end Go.Proofs.Nt
/- The naturals: digits are laid, and told as a number. -/
set_option linter.unusedVariables false
set_option maxRecDepth 20000
set_option linter.unusedSimpArgs false
namespace Go.Proofs.Nt
open Go Go.Proofs Go.Proofs.Va

/-- The digits a lie in the list of the struct in block d. -/
inductive DS (σ : AHeap) (d : Nat) : List Nat → Prop
  | nil : σ[d]? = some ⟨.own, 0, [.pl true [] 0 (some 0)]⟩ → DS σ d []
  | so (j v : Nat) (a : List Nat) : σ[d]? = some ⟨.own, 0, [.so j v 0 a.length 1 none]⟩ → σ[j]? = some ⟨.own, v, a.map dg⟩ → j ≠ d → DS σ d a

@[simp] theorem aggT61 : aggT Tryz.prog 154 = some false := by kernel_rfl
attribute [simp] jumps

/-- The like, for what is only read. -/
inductive DN (σ : AHeap) (d : Nat) : List Nat → Prop
  | nil : σ[d]? = some ⟨.own, 0, [.pl true [] 0 (some 0)]⟩ → DN σ d []
  | so (j v : Nat) (a : List Nat) (cap : Option Nat) (more : List AV) : σ[d]? = some ⟨.own, 0, [.so j v 0 a.length 1 cap]⟩ → σ[j]? = some ⟨.own, v, a.map dg ++ more⟩ → j ≠ d → a.length ≤ cap.getD a.length → DN σ d a

theorem DS.dn {σ : AHeap} {d : Nat} {a : List Nat} (h : DS σ d a) : DN σ d a := by
  cases h with
  | nil h => exact .nil h
  | so j v a h hj hjd => exact .so j v a none [] h (by simpa using hj) hjd (by simp)

theorem w32 (x : Nat) : IntKind.u32.wrap (x : Int) = ((x % 4294967296 : Nat) : Int) := by rw [IntKind.wrap_u32]; omega

theorem lay_call {σ : AHeap} {d : Nat} {a : List Nat} {x : Nat} {K : AV → AHeap → Prop} (hd : DS σ d a) (ha : a.length ≤ 1000000) (hK : ∀ σ', DS σ' d (a ++ [x % 4294967296]) → K (u (x / 4294967296)) σ') : ACall Tryz.prog 103 [.po d 0 0, u x] σ K := by
  refine acall_in Tryz.func103 rfl (by kernel_rfl) rfl ?_
  cases hd with
  | nil h =>
    have hlt := (List.getElem?_eq_some_iff.1 h).1
    simp [Tryz.f103, h, w32, List.getElem?_append_left hlt]
    have := hK _ (.so (σ.length + 1) 0 [x % 4294967296] (σ := (σ ++ ([⟨.own, 0, [dg (x % 4294967296)]⟩, ⟨.own, 0, [dg (x % 4294967296)]⟩] : AHeap)).set d ⟨.own, 0, [.so (σ.length + 1) 0 0 1 1 none]⟩) (d := d)
      (by rw [List.getElem?_set_self (by simp; omega)]; rfl) (by rw [List.getElem?_set_ne (by omega)]; simp) (by omega))
    simpa using this
  | so j v a h hj hjd =>
    have hlt := (List.getElem?_eq_some_iff.1 h).1
    have hltj := (List.getElem?_eq_some_iff.1 hj).1
    simp [Tryz.f103, h, hj, w32, List.getElem?_append_left hlt, List.getElem?_append_left hltj, hjd, Ne.symm hjd]
    refine ⟨by omega, ?_⟩
    have := hK _ (.so j (v + 1) (a ++ [x % 4294967296]) (σ := (List.set (σ ++ ([⟨.own, 0, [dg (x % 4294967296)]⟩] : AHeap)) j ⟨.own, v + 1, a.map dg ++ [dg (x % 4294967296)]⟩).set d ⟨.own, 0, [.so j (v + 1) 0 (a.length + 1) 1 none]⟩) (d := d)
      (by rw [List.getElem?_set_self (by simp; omega)]; simp) (by rw [List.getElem?_set_ne (Ne.symm hjd), List.getElem?_set_self (by simp; omega)]; simp) hjd)
    have e : List.take a.length (List.map dg a) = List.map dg a := List.take_of_length_le (by simp)
    rw [e]
    simpa using this

/-- The answer is a slice of these digits. -/
def IsSl (σ : AHeap) (r : AV) (a : List Nat) : Prop := ∃ nl cap, Pur σ (fun _ => True) r (sl nl a cap)

theorem number_call {σ : AHeap} {d : Nat} {a : List Nat} {K : AV → AHeap → Prop} (hd : DN σ d a) (ha : a.length ≤ 1000000) (hK : ∀ r σ', IsSl σ' r (trimL a) → K r σ') : ACall Tryz.prog 104 [.po d 0 0] σ K := by
  refine acall_in Tryz.func104 rfl (by kernel_rfl) rfl ?_
  cases hd with
  | nil h =>
    have hlt := (List.getElem?_eq_some_iff.1 h).1
    simp [Tryz.f104, h, List.getElem?_append_left hlt]
    refine backward_call rfl ?_
    simp
    refine range_on (lb := [.po (σ.length + 2) 0 0]) (by simp) Tryz.func125 rfl (by kernel_rfl) ?_
    refine back_iter_pl (nl := true) (a := []) (cap := some 0) (by simp) (fun k σ' => σ' = σ ++ ([⟨.own, 0, [.po d 0 0]⟩, ⟨.own, 0, [.pl true [] 0 (some 0)]⟩, ⟨.own, 0, [.pl true [] 0 (some 0)]⟩] : AHeap)) (by simp) ?_ ?_ ?_
    · rintro k _ rfl; simp [sl]
    · intro k σ' hk; simp at hk
    · rintro _ rfl
      simp
      exact hK _ _ ⟨true, some 0, by simp [sl, trimL]⟩
  | so j v a cap more h hj hjd hcap =>
    have hlt := (List.getElem?_eq_some_iff.1 h).1
    have hltj := (List.getElem?_eq_some_iff.1 hj).1
    simp [Tryz.f104, h, hj, List.getElem?_append_left hlt, List.getElem?_append_left hltj]
    refine backward_call rfl ?_
    simp
    refine range_on (lb := [.po (σ.length + 2) 0 0]) (by simp) Tryz.func125 rfl (by kernel_rfl) ?_
    refine back_iter_so (j := j) (v := v) (a := a) (cap := cap) (more := more) ha (fun k σ' => σ' = σ ++ ([⟨.own, 0, [.po d 0 0]⟩, ⟨.own, 0, [.pl true [] 0 (some 0)]⟩, ⟨.own, 0, [.so j v 0 a.length 1 cap]⟩] : AHeap) ∧ ∀ l (hl : l < a.length), a.length - k ≤ l → a[l] = 0) ?_ ?_ ?_ ?_
    · simp; omega
    · rintro k _ ⟨rfl, _⟩; simp [hj, List.getElem?_append_left hltj]
    · rintro k _ hk ⟨rfl, hz⟩ Kt hKt
      simp [bodyW, h, hj, List.getElem?_append_left hlt, List.getElem?_append_left hltj]
      have e : (((a.length - 1 - k : Nat) : Int) + 1) = ((a.length - k : Nat) : Int) := by omega
      rw [e, w64 _ (by omega) (by omega)]
      refine ite_and.2 ⟨fun hx => hKt _ ⟨rfl, ?_⟩, fun hx => ⟨⟨by omega, by omega⟩, ?_⟩⟩
      rotate_left
      · have ht : trimL a = a.take (a.length - 1 - k + 1) := trim_take (k := a.length - 1 - k) (by omega) hx (fun l hl hkl => hz l hl (by omega))
        rw [show a.length - 1 - k + 1 = a.length - k by omega] at ht
        refine ⟨hcap, hK _ _ ⟨false, cap, ?_⟩⟩
        rw [ht]
        have e2 : sl false (a.take (a.length - k)) cap = .pl false ((a.map dg).take (a.length - k)) (a.length - k) cap := by
          simp [sl, List.map_take]
        rw [e2]
        refine .so j v 0 (a.length - k) 1 cap ⟨.own, v, a.map dg ++ more⟩ _ (by simp [List.getElem?_append_left hltj, hj]) rfl (fun h => by cases h) trivial (by simp; omega) (by simp) fun l hl => ?_
        simp at hl
        have hla : l < a.length := by omega
        have hlk : l < a.length - k := by omega
        simp [hla, hlk, List.getElem?_append_left (show l < (a.map dg).length by simpa using hla)]
      · intro l hl hkl
        by_cases hlk : a.length - k ≤ l
        · exact hz l hl hlk
        · have : l = a.length - 1 - k := by omega
          subst this; exact hx
    · rintro _ ⟨rfl, hz⟩
      simp
      exact hK _ _ ⟨true, some 0, by simp [sl, trim_zeros (fun k hk => hz k hk (by omega))]⟩
end Go.Proofs.Nt
/- The naturals: trim, From, Check. -/
set_option linter.unusedVariables false
set_option maxRecDepth 20000
set_option linter.unusedSimpArgs false
namespace Go.Proofs.Nt
open Go Go.Proofs Go.Proofs.Va

/-- An own slice of these digits, in a block from n on; or nil. -/
inductive Own (σ : AHeap) (n : Nat) (r : AV) (a : List Nat) : Prop
  | nil : r = .pl true [] 0 (some 0) → a = [] → Own σ n r a
  | so (j v : Nat) (cap : Option Nat) (more : List AV) : r = .so j v 0 a.length 1 cap → σ[j]? = some ⟨.own, v, a.map dg ++ more⟩ → n ≤ j →
      (cap = none ∧ more = []) ∨ (∃ c, cap = some c ∧ a.length ≤ c ∧ more = List.replicate (c - a.length) (dg 0)) → Own σ n r a

theorem same_app {σ more : AHeap} {n : Nat} (h : n ≤ σ.length) : Same n σ (σ ++ more) := ⟨h, by simp; omega, fun i hi => List.getElem?_append_left (by omega)⟩

theorem clone_call {σ : AHeap} {nl : Bool} {a : List Nat} {cap : Option Nat} {K : AV → AHeap → Prop} (ha : a.length ≤ 1000000)
    (hK : ∀ r σ', Own σ' σ.length r a → Same σ.length σ σ' → K r σ') : ACall Tryz.prog 108 [sl nl a cap] σ K := by
  refine acall_in Tryz.func108 rfl (by kernel_rfl) rfl ?_
  unfold sl
  simp [Tryz.f108]
  refine ite_and.2 ⟨fun h => hK _ _ (.nil rfl h.2) (Same.refl (Nat.le_refl _)), fun _ => ⟨by omega, ite_and.2 ⟨fun h => hK _ _ (.so σ.length 1 none [] rfl (by simp) (Nat.le_refl _) (.inl ⟨rfl, rfl⟩)) (same_app (Nat.le_refl _)), fun h c hc => ?_⟩⟩⟩
  exact hK _ _ (.so (σ.length + 1) 0 (some c) (List.replicate (c - a.length) (dg 0)) rfl (by simp) (by omega) (.inr ⟨c, rfl, hc, rfl⟩)) (same_app (Nat.le_refl _))

@[simp] theorem places51 : placesT Tryz.prog 135 = some [(0, 1)] := by kernel_rfl
@[simp] theorem sz51 : szT Tryz.prog 135 = some 1 := by kernel_rfl

theorem w32' (x : Nat) (h : x < 4294967296) : IntKind.u32.wrap (x : Int) = (x : Int) := by rw [w32, Nat.mod_eq_of_lt h]

/-- What a function that tells digits promises. -/
def Told (a : List Nat) (r : AV) : Prop := ∃ nl cap, r = sl nl a cap

theorem trim_ctr (nl : Bool) (a : List Nat) (cap : Option Nat) (ha : Dig a) (hl : a.length ≤ 1000000) : Ctr Tryz.prog 123 [sl nl a cap] (Told (trimL a)) := by
  refine ctr_in Tryz.func123 rfl (by kernel_rfl) rfl fun K hK => ?_
  simp [Tryz.f123]
  refine clone_call hl fun r σ hr hs => ?_
  cases hr with
  | nil h0 h1 =>
    subst h0
    simp
    refine number_call (a := a) (by rw [h1]; exact .nil (by simp)) hl fun r σ' h => ?_
    obtain ⟨nl, cap, h⟩ := h
    simp
    exact hK _ _ _ h ⟨nl, cap, rfl⟩
  | so j v cap more h0 hj hn hc =>
    subst h0
    have hlt := (List.getElem?_eq_some_iff.1 hj).1
    simp
    refine number_call (a := a) (.so j v a cap more (by simp) (by rw [List.getElem?_append_left hlt]; exact hj) (by omega) ?_) hl fun r σ' h => ?_
    · rcases hc with ⟨rfl, _⟩ | ⟨c, rfl, hc, _⟩
      · simp
      · simpa using hc
    obtain ⟨nl, cap, h⟩ := h
    simp
    exact hK _ _ _ h ⟨nl, cap, rfl⟩

theorem val_two (x y : Nat) : val [x, y] = x + 4294967296 * y := by simp [val]

theorem from_ctr (x : Nat) (hx : x < 18446744073709551616) : Ctr Tryz.prog 73 [u x] (Told (ofN x)) := by
  refine ctr_in Tryz.func73 rfl (by kernel_rfl) rfl fun K hK => ?_
  simp [Tryz.f73]
  refine lay_call (.nil rfl) (by simp) fun σ1 h1 => ?_
  try simp
  refine lay_call h1 (by simp) fun σ2 h2 => ?_
  try simp
  refine number_call h2.dn (by simp) fun r σ3 h3 => ?_
  obtain ⟨nl, cap, h⟩ := h3
  have e : trimL ([] ++ [x % 4294967296] ++ [x / 4294967296 % 4294967296]) = ofN x := by
    rw [trim_ofN (dig_append (dig_append dig_nil (dig_one _)) (dig_one _))]
    simp only [List.nil_append, List.singleton_append, val_two]
    congr 1; omega
  rw [e] at h
  simp
  exact hK _ _ _ h ⟨nl, cap, rfl⟩

theorem trim_last {a : List Nat} (h : trimL a ≠ []) : ∀ (hp : 0 < (trimL a).length), (trimL a)[(trimL a).length - 1] ≠ 0 := by
  induction a with
  | nil => exact absurd rfl h
  | cons x a ih =>
    simp only [trimL] at h ⊢
    split
    · rename_i hh; rw [if_pos hh] at h; exact absurd rfl h
    · rename_i hh
      intro hp
      by_cases ht : trimL a = []
      · simp only [ht, List.length_singleton, Nat.sub_self, List.getElem_cons_zero]
        exact fun hx => hh ⟨ht, hx⟩
      · have hl : 0 < (trimL a).length := List.length_pos_iff.2 ht
        have := ih ht hl
        simp only [List.length_cons, Nat.add_sub_cancel]
        rw [List.getElem_cons]
        rw [dif_neg (by omega)]
        exact this

theorem check_eq {a : List Nat} (ha : a ≠ []) : (trimL a == a) = !(a[a.length - 1]'(by have := List.length_pos_iff.2 ha; omega) == 0) := by
  have hp : 0 < a.length := List.length_pos_iff.2 ha
  have hlt : a.length - 1 < a.length := by omega
  by_cases hz : a[a.length - 1] = 0
  · have hne : trimL a ≠ a := fun hh => by
      have h2 := trim_last (a := a) (by rw [hh]; exact ha) (by rw [hh]; exact hp)
      simp only [hh] at h2
      exact h2 hz
    simp [hz, hne]
  · have he : trimL a = a := by
      rw [trim_take hlt hz (fun j hj hkj => by omega)]
      exact List.take_of_length_le (by omega)
    simp [hz, he]

theorem check_ctr (nl : Bool) (a : List Nat) (cap : Option Nat) (hl : a.length ≤ 1000000) : Ctr Tryz.prog 114 [sl nl a cap] (fun r => r = bo (trimL a == a)) := by
  refine ctr_val Tryz.func114 rfl (by kernel_rfl) rfl (by simp) fun K hK => ?_
  unfold sl
  by_cases ha : a = []
  · subst ha
    simpa [Tryz.f114, trimL] using hK []
  · have hp : 0 < a.length := List.length_pos_iff.2 ha
    have e : ((a.length : Int) - 1) = ((a.length - 1 : Nat) : Int) := by omega
    have hw : IntKind.i64.wrap ((a.length : Int) - 1) = ((a.length - 1 : Nat) : Int) := by rw [e, w64 _ (by omega) (by omega)]
    have hlt : a.length - 1 < a.length := by omega
    have h1 := check_eq ha
    have h2 : ((a[a.length - 1] : Int) != 0) = (trimL a == a) := by
      rw [h1, bne]; congr 1
      rw [Bool.eq_iff_iff]; simp
    rw [← h2] at hK
    simp [Tryz.f114, ha, hw, hlt]
    exact hK _
end Go.Proofs.Nt
/- The naturals: Add. -/
set_option linter.unusedVariables false
set_option maxRecDepth 20000
set_option linter.unusedSimpArgs false
namespace Go.Proofs.Nt
open Go Go.Proofs Go.Proofs.Va

theorem val_snoc (l : List Nat) (x : Nat) : val (l ++ [x]) = val l + 4294967296 ^ l.length * x := by rw [val_append]; simp [val]
theorem val_take_succ (a : List Nat) (k : Nat) : val (a.take (k + 1)) = val (a.take k) + 4294967296 ^ k * at' a k := by
  unfold at'
  rcases Nat.lt_or_ge k a.length with hk | hk
  · rw [List.take_add_one, List.getElem?_eq_getElem hk]
    simp only [Option.toList_some, val_snoc, List.length_take, Nat.min_eq_left (Nat.le_of_lt hk)]
    rw [List.getD_eq_getElem?_getD, List.getElem?_eq_getElem hk]; rfl
  · rw [List.take_of_length_le (by omega), List.take_of_length_le (by omega), List.getD_eq_getElem?_getD, List.getElem?_eq_none hk]; simp
theorem dig_snoc {l : List Nat} (h : Dig l) (x : Nat) : Dig (l ++ [x % 4294967296]) := dig_append h (dig_one x)

theorem wu (x : Nat) (h : x < 18446744073709551616) : IntKind.u64.wrap (x : Int) = (x : Int) := IntWalk.u64_in _ (by omega)

theorem wuc (x y : Int) (h0 : 0 ≤ x + y) (h : x + y < 18446744073709551616) : IntKind.u64.wrap (x + y) = x + y := IntWalk.u64_in _ (by omega)

theorem carry_step {P m q s : Nat} (h : m + 4294967296 * q = s) : P * m + P * 4294967296 * q = P * s := by
  rw [← h, Nat.mul_add, Nat.mul_assoc]
theorem sum_step {P A B c x y v : Nat} (hv : v + P * c = A + B) : v + P * ((x + y + c) % 4294967296) + P * 4294967296 * ((x + y + c) / 4294967296) = A + P * x + (B + P * y) := by
  have h := carry_step (P := P) (Nat.mod_add_div (x + y + c) 4294967296)
  rw [Nat.mul_add, Nat.mul_add] at h
  omega
theorem add_step {a b l : List Nat} {k c : Nat} (hlen : l.length = k) (hv : val l + 4294967296 ^ k * c = val (a.take k) + val (b.take k)) :
    val (l ++ [(at' a k + at' b k + c) % 4294967296]) + 4294967296 ^ (k + 1) * ((at' a k + at' b k + c) / 4294967296) = val (a.take (k + 1)) + val (b.take (k + 1)) := by
  rw [val_snoc, val_take_succ, val_take_succ, hlen, Nat.pow_succ]
  exact sum_step hv

theorem add_ctr (nl nl' : Bool) (a b : List Nat) (cap cap' : Option Nat) (ha : Dig a) (hb : Dig b) (hl : a.length ≤ 100000) (hl' : b.length ≤ 100000) : Ctr Tryz.prog 106 [sl nl a cap, sl nl' b cap'] (Told (ofN (val a + val b))) := by
  refine ctr_in Tryz.func106 rfl (by kernel_rfl) rfl fun K hK => ?_
  simp [Tryz.f106, sl]
  obtain ⟨N, hN⟩ : ∃ N, N = max a.length b.length := ⟨_, rfl⟩
  have hNi : (if a.length < b.length then (b.length : Int) else a.length) = (N : Int) := by split <;> omega
  rw [hNi]
  refine loop_on (γ := Nat × Nat × List Nat × AHeap) 30 (fun g => [(0, sl nl a cap), (1, sl nl' b cap'), (5, .po 0 0 0), (6, u g.2.1), (12, i N), (13, i g.1)]) (fun g => g.2.2.2)
    (fun g => g.1 ≤ N ∧ g.2.1 ≤ 1 ∧ g.2.2.1.length = g.1 ∧ Dig g.2.2.1 ∧ val g.2.2.1 + 4294967296 ^ g.1 * g.2.1 = val (a.take g.1) + val (b.take g.1) ∧ DS g.2.2.2 0 g.2.2.1) (fun g => N - g.1)
    (0, 0, [], _) ⟨Nat.zero_le _, Nat.zero_le _, rfl, dig_nil, by simp [val], .nil rfl⟩ (Wk.lst (by simp [sl]) (by simp)) ?_
  rintro ⟨k, c, l, σ⟩ ⟨hk, hc, hlen, hd, hv, hD⟩ L hL
  simp only at hk hc hlen hd hv hD
  by_cases hkn : k < N
  · simp [hkn, sl]
    refine acall_by (digit_ctr nl a cap k ha) (by simp [sl]) ?_
    rintro _ rfl
    try simp
    refine acall_by (digit_ctr nl' b cap' k hb) (by simp [sl]) ?_
    rintro _ rfl
    have h1 := at'_lt ha k
    have h2 := at'_lt hb k
    have hw1 : IntKind.u64.wrap ((at' a k : Int) + (at' b k : Int)) = ((at' a k + at' b k : Nat) : Int) := wuc _ _ (by omega) (by omega)
    have hw2 : IntKind.u64.wrap (((at' a k + at' b k : Nat) : Int) + (c : Int)) = ((at' a k + at' b k + c : Nat) : Int) := wuc _ _ (by omega) (by omega)
    simp [-Int.natCast_add, hw1, hw2]
    refine lay_call hD (by omega) fun σ' hD' => ?_
    try simp
    refine hL (k + 1, (at' a k + at' b k + c) / 4294967296, l ++ [(at' a k + at' b k + c) % 4294967296], σ') _ _ ⟨by show k + 1 ≤ _; omega, by show _ / _ ≤ 1; omega, by simp [hlen], dig_snoc hd _, ?_, hD'⟩ (Wk.lst (by simp [sl]; rw [w64 _ (by omega) (by omega)]) (by simp)) (by show _ - (k + 1) < _ - k; omega)
    exact add_step hlen hv
  · simp [hkn]
    have : k = N := by omega
    subst this
    refine lay_call hD (by omega) fun σ' hD' => ?_
    try simp
    refine number_call hD'.dn (by simp; omega) fun r σ2 hr => ?_
    obtain ⟨nl2, cap2, hr⟩ := hr
    have e : trimL (l ++ [c % 4294967296]) = ofN (val a + val b) := by
      rw [trim_ofN (dig_snoc hd _), val_snoc, hlen, Nat.mod_eq_of_lt (by omega), hv, List.take_of_length_le (by omega), List.take_of_length_le (by omega)]
    rw [e] at hr
    simp
    exact hK _ _ _ hr ⟨nl2, cap2, rfl⟩
end Go.Proofs.Nt
/- The naturals: the document's Trim, Same; scale. -/
set_option linter.unusedVariables false
set_option maxRecDepth 20000
set_option linter.unusedSimpArgs false
namespace Go.Proofs.Nt
open Go Go.Proofs Go.Proofs.Va

theorem trim_take' {a : List Nat} {k : Nat} (hk : k ≤ a.length) (hx : ∀ (h : 0 < k), a[k - 1] ≠ 0) (h : ∀ j (hj : j < a.length), k ≤ j → a[j] = 0) : trimL a = a.take k := by
  rcases Nat.eq_zero_or_pos k with h0 | h0
  · subst h0; rw [trim_zeros (fun j hj => h j hj (Nat.zero_le _))]; simp
  · have := trim_take (a := a) (k := k - 1) (by omega) (hx h0) (fun j hj hkj => h j hj (by omega))
    rwa [show k - 1 + 1 = k by omega] at this

theorem isSl_so {σ : AHeap} {S : Nat → Prop} {j v off n : Nat} {cap : Option Nat} {b : ABlk} {a : List Nat} (hb : σ[j]? = some b) (hk : b.kind ≠ .dead) (hn : n = a.length) (ho : off ≤ b.cells.length) (h : ∀ l (hl : l < a.length), b.cells[off + l]? = some (dg a[l])) (hv : b.ver = v := by rfl) (hS : S j := by trivial) :
    Pur σ S (.so j v off n 1 cap) (sl false a cap) := by
  have hlen : off + a.length ≤ b.cells.length := by
    rcases Nat.eq_zero_or_pos a.length with h0 | h0
    · omega
    · have := (List.getElem?_eq_some_iff.1 (h (a.length - 1) (by omega))).1; omega
  subst hn
  refine .so j v off a.length 1 cap b _ hb hv hk hS (by omega) (by simp) fun l hl => ?_
  simp only [List.length_map] at hl
  have := h l hl
  rw [List.getD_eq_getElem?_getD, this]
  simp

theorem rtrim_ctr (nl : Bool) (a : List Nat) (cap : Option Nat) (hl : a.length ≤ 1000000) : Ctr Tryz.prog 46 [sl nl a cap] (Told (trimL a)) := by
  refine ctr_in Tryz.func46 rfl (by kernel_rfl) rfl fun K hK => ?_
  simp [Tryz.f46, sl]
  refine loop_on (γ := Nat) 23 (fun k => [(0, sl nl a cap), (3, i k)]) (fun k => []) (fun k => k ≤ a.length ∧ ∀ j (hj : j < a.length), k ≤ j → a[j] = 0) (fun k => k)
    a.length ⟨Nat.le_refl _, fun j hj h => by omega⟩ (Wk.lst (by simp [sl]) (by simp)) ?_
  rintro k ⟨hk, hz⟩ L hL
  have fin : (∀ (h : 0 < k), a[k - 1] ≠ 0) → (aAppend Tryz.prog 47 47 (.so 0 0 0 0 1 (some 0)) (.pl (nl && a.isEmpty) ((a.map dg).take k) k cap) ([⟨.own, 0, []⟩] : AHeap) K) := by
    intro hx
    rw [trim_take' hk hx hz] at hK
    have hlk : (a.take k).length = k := by simp; omega
    simp [hk]
    refine ⟨by omega, ite_and.2 ⟨fun h => ?_, fun h c hc => ?_⟩⟩
    · refine hK _ _ _ (isSl_so (a := a.take k) rfl (fun h => by cases h) (by simp; omega) (by simp) (fun l hl => ?_)) ⟨false, none, rfl⟩
      simp at hl; omega
    · refine hK _ _ _ (isSl_so (a := a.take k) rfl (fun h => by cases h) (by simp; omega) (by simp) (fun l hl => ?_)) ⟨false, some c, rfl⟩
      simp only [List.length_take] at hl
      have hja : l < a.length := by omega
      have hjk : l < k := by omega
      simp [List.getElem?_append, hja, hjk]
      intro h; omega
  rcases Nat.eq_zero_or_pos k with h0 | h0
  · subst h0
    have := fin (fun h => absurd h (by omega))
    simp [sl] at this ⊢
    exact this
  · have hkk : k - 1 < a.length := by omega
    have e : IntKind.i64.wrap ((k : Int) - 1) = ((k - 1 : Nat) : Int) := by rw [w64 _ (by omega) (by omega)]; omega
    by_cases hx : a[k - 1] = 0
    · simp [h0, e, sl, hkk, hx]
      refine hL (k - 1) _ _ ⟨by omega, fun j hj h => ?_⟩ (Wk.lst (by simp [sl]) (by simp)) (by omega)
      by_cases hjk : k ≤ j
      · exact hz j hj hjk
      · have : j = k - 1 := by omega
        subst this; exact hx
    · have := fin (fun _ => hx)
      simp [h0, e, sl, hkk, hx] at this ⊢
      exact ⟨hk, this⟩
end Go.Proofs.Nt
/- The naturals: scale; the document's Same, Add. -/
set_option linter.unusedVariables false
set_option maxRecDepth 20000
set_option linter.unusedSimpArgs false
namespace Go.Proofs.Nt
open Go Go.Proofs Go.Proofs.Va

theorem scale_ctr (nl : Bool) (a : List Nat) (cap : Option Nat) (y : Nat) (ha : Dig a) (hl : a.length ≤ 100000) (hy : y < 4294967296) : Ctr Tryz.prog 109 [sl nl a cap, u y] (Told (ofN (val a * y))) := by
  refine ctr_in Tryz.func109 rfl (by kernel_rfl) rfl fun K hK => ?_
  simp [Tryz.f109, sl]
  refine loop_on (γ := Nat × Nat × List Nat × AHeap) 26 (fun g => [(1, u y), (5, .po 0 0 0), (6, u g.2.1), (9, sl nl a cap), (10, i a.length), (11, i g.1)]) (fun g => g.2.2.2)
    (fun g => g.1 ≤ a.length ∧ g.2.1 < 4294967296 ∧ g.2.2.1.length = g.1 ∧ Dig g.2.2.1 ∧ val g.2.2.1 + 4294967296 ^ g.1 * g.2.1 = val (a.take g.1) * y ∧ DS g.2.2.2 0 g.2.2.1) (fun g => a.length - g.1)
    (0, 0, [], _) ⟨Nat.zero_le _, by decide, rfl, dig_nil, by simp [val], .nil rfl⟩ (Wk.lst (by simp [sl]) (by simp)) ?_
  rintro ⟨k, c, l, σ⟩ ⟨hk, hc, hlen, hd, hv, hD⟩ L hL
  simp only at hk hc hlen hd hv hD
  by_cases hkn : k < a.length
  · have hx := ha.at hkn
    have hxy : a[k] * y ≤ 4294967295 * 4294967295 := Nat.mul_le_mul (by omega) (by omega)
    have hw0 : IntKind.u64.wrap (a[k] : Int) = (a[k] : Int) := wu _ (by omega)
    have hm : ((a[k] : Int) * (y : Int)) = ((a[k] * y : Nat) : Int) := by simp
    have hw1 : IntKind.u64.wrap ((a[k] * y : Nat) : Int) = ((a[k] * y : Nat) : Int) := wu _ (by omega)
    have hw2 : IntKind.u64.wrap (((a[k] * y : Nat) : Int) + (c : Int)) = ((a[k] * y + c : Nat) : Int) := wuc _ _ (by omega) (by omega)
    simp [hkn, sl, hw0, hm, hw1, hw2, -Int.natCast_mul, -Int.natCast_add]
    refine lay_call hD (by omega) fun σ' hD' => ?_
    try simp
    refine hL (k + 1, (a[k] * y + c) / 4294967296, l ++ [(a[k] * y + c) % 4294967296], σ') _ _ ⟨by show k + 1 ≤ _; omega, by show _ / _ < 4294967296; omega, by simp [hlen], dig_snoc hd _, ?_, hD'⟩ (Wk.lst (by simp [sl]; rw [w64 _ (by omega) (by omega)]) (by simp)) (by show _ - (k + 1) < _ - k; omega)
    have hat : at' a k = a[k] := by simp [at', hkn]
    rw [val_snoc, val_take_succ, hlen, Nat.pow_succ, hat, Nat.add_mul, ← hv]
    have h3 := carry_step (P := 4294967296 ^ k) (Nat.mod_add_div (a[k] * y + c) 4294967296)
    rw [Nat.mul_add] at h3
    rw [Nat.add_assoc, h3, Nat.mul_assoc, ← Nat.add_assoc]
    omega
  · simp [hkn, sl]
    have : k = a.length := by omega
    subst this
    refine lay_call hD (by omega) fun σ' hD' => ?_
    try simp
    refine number_call hD'.dn (by simp; omega) fun r σ2 hr => ?_
    obtain ⟨nl2, cap2, hr⟩ := hr
    have e : trimL (l ++ [c % 4294967296]) = ofN (val a * y) := by
      rw [trim_ofN (dig_snoc hd _), val_snoc, hlen, Nat.mod_eq_of_lt (by omega), hv, List.take_of_length_le (by omega)]
    rw [e] at hr
    simp
    exact hK _ _ _ hr ⟨nl2, cap2, rfl⟩

theorem same_ctr (nl nl' : Bool) (a b : List Nat) (cap cap' : Option Nat) (hl : a.length ≤ 1000000) (hl' : b.length ≤ 1000000) : Ctr Tryz.prog 45 [sl nl a cap, sl nl' b cap'] (fun r => r = bo (a == b)) := by
  refine ctr_val Tryz.func45 rfl (by kernel_rfl) rfl (by simp) fun K hK => ?_
  by_cases hab : a.length = b.length
  · simp [Tryz.f45, sl, hab]
    refine loop_on (γ := Nat) 26 (fun k => [(0, sl nl a cap), (1, sl nl' b cap'), (5, i k)]) (fun k => []) (fun k => k ≤ a.length ∧ ∀ j (hj : j < a.length) (hj' : j < b.length), j < k → a[j] = b[j]) (fun k => a.length - k)
      0 ⟨Nat.zero_le _, fun j hj hj' h => by omega⟩ (Wk.lst (by simp [sl, hab]) (by simp)) ?_
    rintro k ⟨hk, hz⟩ L hL
    by_cases hkn : k < a.length
    · have hkb : k < b.length := by omega
      simp [hkn, hkb, sl]
      refine draw_on [0, 0, 1, 1, 0, 0, 1, 1, 0] orders (by decide) ?_
      simp [hkn, hkb]
      by_cases h : a[k] = b[k]
      · simp [h]
        refine hL (k + 1) _ _ ⟨by omega, fun j hj hj' hjk => ?_⟩ (Wk.lst (by simp [sl]; rw [w64 _ (by omega) (by omega)]) (by simp)) (by omega)
        by_cases hjk' : j < k
        · exact hz j hj hj' hjk'
        · have : j = k := by omega
          subst this; exact h
      · have hne : a ≠ b := fun hh => h (by subst hh; rfl)
        simpa [h, hne, beq_false_of_ne hne] using hK []
    · have : a = b := List.ext_getElem hab fun j h1 h2 => hz j h1 h2 (by omega)
      subst this
      simpa [hkn, sl] using hK _
  · have : a ≠ b := fun h => hab (by rw [h])
    simpa [Tryz.f45, sl, hab, this, beq_false_of_ne this] using hK []
end Go.Proofs.Nt
/- The naturals: the document's Add. -/
set_option linter.unusedVariables false
set_option maxRecDepth 20000
set_option linter.unusedSimpArgs false
namespace Go.Proofs.Nt
open Go Go.Proofs Go.Proofs.Va

/-- Digits that are appended to, one by one. -/
inductive OL (σ : AHeap) : AV → List Nat → Prop
  | nil : OL σ (.pl true [] 0 (some 0)) []
  | so (j v : Nat) (l : List Nat) : σ[j]? = some ⟨.own, v, l.map dg⟩ → OL σ (.so j v 0 l.length 1 none) l

theorem append_one {σ : AHeap} {r : AV} {l : List Nat} {x : Nat} {K : AV → AHeap → Prop} (h : OL σ r l) (hl : l.length ≤ 1000000) (hK : ∀ r' σ', OL σ' r' (l ++ [x]) → K r' σ') :
    aAppend Tryz.prog 46 46 r (.so σ.length 0 0 1 1 (some 1)) (σ ++ ([⟨.own, 0, [.v (.int .u32 x)]⟩] : AHeap)) K := by
  cases h with
  | nil =>
    simp
    have := hK (.so (σ.length + 1) 0 0 1 1 none) (σ ++ ([⟨.own, 0, [dg x]⟩, ⟨.own, 0, [dg x]⟩] : AHeap)) (.so _ _ [x] (by simp))
    simpa using this
  | so j v l hj =>
    have hlt := (List.getElem?_eq_some_iff.1 hj).1
    simp [List.getElem?_append_left hlt, hj]
    refine ⟨by omega, ?_⟩
    have := hK (.so j (v + 1) 0 (l ++ [x]).length 1 none) (List.set (σ ++ ([⟨.own, 0, [dg x]⟩] : AHeap)) j ⟨.own, v + 1, l.map dg ++ [dg x]⟩) (.so _ _ _ (by rw [List.getElem?_set_self (by simp; omega)]; simp))
    have e : List.take l.length (List.map dg l) = List.map dg l := List.take_of_length_le (by simp)
    rw [e]
    simpa using this

end Go.Proofs.Nt
/- Digits and their number: plain mathematics, more. -/
set_option linter.unusedVariables false
set_option linter.unusedSimpArgs false
namespace Go.Proofs.Nt

/-! ### How many bits -/
def bl (n : Nat) : Nat := if n = 0 then 0 else Nat.log2 n + 1
theorem bl_zero : bl 0 = 0 := rfl
theorem bl_eq {n k : Nat} (h1 : 2 ^ k ≤ n) (h2 : n < 2 ^ (k + 1)) : bl n = k + 1 := by
  have h0 : n ≠ 0 := by have := Nat.two_pow_pos k; omega
  unfold bl
  rw [if_neg h0]
  have := (Nat.log2_lt h0).2 h2
  have := (Nat.le_log2 h0).2 h1
  omega
theorem bl_low {n : Nat} (h : n ≠ 0) : 2 ^ (bl n - 1) ≤ n := by
  unfold bl; rw [if_neg h]; exact (Nat.le_log2 h).1 (Nat.le_refl _)
theorem bl_high (n : Nat) : n < 2 ^ bl n := by
  unfold bl
  split
  · omega
  · rename_i h; exact (Nat.log2_lt h).1 (Nat.lt_succ_self _)
theorem bl_pos {n : Nat} (h : n ≠ 0) : 0 < bl n := by unfold bl; rw [if_neg h]; omega
theorem bl_half {n : Nat} (h : n ≠ 0) : bl n = bl (n / 2) + 1 := by
  by_cases h1 : n / 2 = 0
  · have : n = 1 := by omega
    subst this; rfl
  · have l := bl_low h1
    have u := bl_high (n / 2)
    have p := bl_pos h1
    obtain ⟨k, hk⟩ : ∃ k, bl (n / 2) = k + 1 := ⟨bl (n / 2) - 1, by omega⟩
    rw [hk] at l u ⊢
    simp only [Nat.add_sub_cancel] at l
    refine bl_eq (k := k + 1) ?_ ?_
    · rw [Nat.pow_succ]; omega
    · rw [Nat.pow_succ]; omega
theorem bl_shift {x t m : Nat} (hx : x < 2 ^ m) (ht : t ≠ 0) : bl (x + 2 ^ m * t) = m + bl t := by
  have l := bl_low ht
  have u := bl_high t
  have p := bl_pos ht
  obtain ⟨k, hk⟩ : ∃ k, bl t = k + 1 := ⟨bl t - 1, by omega⟩
  rw [hk] at l u ⊢
  simp only [Nat.add_sub_cancel] at l
  refine bl_eq (k := m + k) ?_ ?_
  · rw [Nat.pow_add]
    have := Nat.mul_le_mul_left (2 ^ m) l
    omega
  · rw [Nat.add_assoc, Nat.pow_add]
    have : 2 ^ m * (t + 1) ≤ 2 ^ m * 2 ^ (k + 1) := Nat.mul_le_mul_left _ (by omega)
    rw [Nat.mul_add] at this
    omega
theorem bl_le {n k : Nat} (h : n < 2 ^ k) : bl n ≤ k := by
  rcases Nat.lt_or_ge k (bl n) with h1 | h1
  · exfalso
    have h0 : n ≠ 0 := fun hh => by subst hh; simp [bl_zero] at h1
    have l := bl_low h0
    have : 2 ^ k ≤ 2 ^ (bl n - 1) := Nat.pow_le_pow_right (by decide) (by omega)
    omega
  · exact h1

theorem base_pow (k : Nat) : 4294967296 ^ k = 2 ^ (32 * k) := by rw [Nat.pow_mul]

/-- The last of a number's digits. -/
theorem bl_digits {a : List Nat} (hd : Dig a) {m : Nat} (hm : a.length = m + 1) (h : a[m] ≠ 0) : bl (val a) = 32 * m + bl a[m] := by
  have e : a = a.take m ++ [a[m]] := by
    have := List.take_append_drop m a
    conv => lhs; rw [← this]
    congr 1
    rw [List.drop_eq_getElem_cons (by omega), List.drop_of_length_le (by omega)]
  have e2 : val a = val (a.take m) + 4294967296 ^ m * a[m] := by
    conv => lhs; rw [e]
    rw [val_snoc, List.length_take, Nat.min_eq_left (by omega)]
  have h3 := val_lt (dig_take hd m)
  rw [List.length_take, Nat.min_eq_left (by omega)] at h3
  rw [e2, base_pow]
  rw [base_pow] at h3
  exact bl_shift h3 h

/-! ### How two stand -/
theorem len_lt {m n : Nat} (h : (ofN m).length < (ofN n).length) : m < n := by
  rcases Nat.lt_or_ge m n with h1 | h1
  · exact h1
  · have h2 := (len_ofN m (ofN m).length).1 (Nat.le_refl _)
    have := (len_ofN n (ofN m).length).2 (by omega)
    omega
theorem val_split (a : List Nat) (k : Nat) (hk : k ≤ a.length) : val a = val (a.take k) + 4294967296 ^ k * val (a.drop k) := by
  have := val_append (a.take k) (a.drop k)
  rw [List.take_append_drop, List.length_take, Nat.min_eq_left hk] at this
  exact this
theorem val_lt_of {x y : List Nat} (hx : Dig x) (hy : Dig y) {k : Nat} (h1 : k < x.length) (h2 : k < y.length) (hd : x.drop (k + 1) = y.drop (k + 1)) (hlt : x[k] < y[k]) : val x < val y := by
  rw [val_split x k (by omega), val_split y k (by omega), List.drop_eq_getElem_cons h1, List.drop_eq_getElem_cons h2]
  simp only [val]
  rw [hd]
  have h3 := val_lt (dig_take hx k)
  rw [List.length_take, Nat.min_eq_left (by omega)] at h3
  generalize 4294967296 ^ k = P at *
  generalize val (y.drop (k + 1)) = D at *
  have : P * (x[k] + 4294967296 * D + 1) ≤ P * (y[k] + 4294967296 * D) := Nat.mul_le_mul_left _ (by omega)
  rw [Nat.mul_add _ _ 1] at this
  omega
theorem or_add {x y : Nat} (hy : y < 4294967296) : x * 4294967296 ||| y = x * 4294967296 + y := by
  have := Nat.shiftLeft_add_eq_or_of_lt (i := 32) (b := y) (by omega) x
  rw [Nat.shiftLeft_eq] at this
  exact this.symm

/-! ### Less -/
theorem sub_step {P A C c x y v : Nat} (hx : x < 4294967296) (hy : y < 4294967296) (hc : c ≤ 1) (hv : v + C = A + P * c) :
    v + P * ((x + 18446744073709551616 - y - c) % 4294967296) + (C + P * y) = A + P * x + P * 4294967296 * (if y + c ≤ x then 0 else 1) := by
  split
  · rename_i h
    have : (x + 18446744073709551616 - y - c) % 4294967296 = x - y - c := by omega
    rw [this]
    have : P * x = P * (x - y - c) + P * y + P * c := by rw [← Nat.mul_add, ← Nat.mul_add]; congr 1; omega
    omega
  · rename_i h
    have : (x + 18446744073709551616 - y - c) % 4294967296 = x + 4294967296 - y - c := by omega
    rw [this]
    have : P * x + P * 4294967296 = P * (x + 4294967296 - y - c) + P * y + P * c := by rw [← Nat.mul_add, ← Nat.mul_add, ← Nat.mul_add]; congr 1; omega
    omega

theorem ofN_shift (v m : Nat) (h : v ≠ 0) : List.replicate m 0 ++ ofN v = ofN (4294967296 ^ m * v) := by
  induction m with
  | zero => simp
  | succ m ih =>
    have hp : 4294967296 ^ m * v ≠ 0 := Nat.mul_ne_zero (Nat.pos_iff_ne_zero.1 (Nat.pow_pos (by decide))) h
    have e : 4294967296 ^ (m + 1) * v = 0 + 4294967296 * (4294967296 ^ m * v) := by rw [Nat.pow_succ]; simp [Nat.mul_comm, Nat.mul_left_comm]
    rw [e, ofN_cons (by decide) (by simp [hp]), List.replicate_succ, List.cons_append, ih]
end Go.Proofs.Nt
/- The naturals: the document's From; Low, Len, Cmp. -/
set_option linter.unusedVariables false
set_option maxRecDepth 20000
set_option linter.unusedSimpArgs false
namespace Go.Proofs.Nt
open Go Go.Proofs Go.Proofs.Va

/-- These digits lie there. -/
inductive Lie (σ : AHeap) (r : AV) (a : List Nat) : Prop
  | nil : r = .pl true [] 0 (some 0) → a = [] → Lie σ r a
  | so (j v : Nat) (cap : Option Nat) (more : List AV) : r = .so j v 0 a.length 1 cap → σ[j]? = some ⟨.own, v, a.map dg ++ more⟩ → Lie σ r a

theorem dgs_get {a : List Nat} {more : List AV} {m : Nat} (hm : m < a.length) : (List.map dg a ++ more)[m]? = some (dg a[m]) := by
  rw [List.getElem?_append_left (by simpa using hm)]; simp [hm]
theorem call_lie {g : FuncId} {σ : AHeap} {r : AV} {l : List Nat} {Post : AV → Prop} {K : AV → AHeap → Prop} (h : Lie σ r l) (hc : ∀ nl cap, Ctr Tryz.prog g [sl nl l cap] Post) (hK : ∀ r σ', Post r → K r σ') : ACall Tryz.prog g [r] σ K := by
  cases h with
  | nil h1 h2 => subst h1; subst h2; exact acall_by (hc true (some 0)) (by simp [Nt.sl]) fun r hr => hK r _ hr
  | so j v cap more h1 hj =>
    subst h1
    refine acall_froze [j] (hc false cap) rfl (fun k hk => ?_) fun r hr => hK r _ hr
    simp at hk
    subst hk
    exact isSl_so hj (fun h => by cases h) rfl (by simp) (fun m hm => by simp [dgs_get hm]) rfl (by simp)

theorem OL.lie {σ : AHeap} {r : AV} {l : List Nat} (h : OL σ r l) : Lie σ r l := by
  cases h with
  | nil => exact .nil rfl rfl
  | so j v l hj => exact .so j v none [] rfl (by simpa using hj)

/-! ### Low -/
end Go.Proofs.Nt
/- The naturals: Len, Cmp. -/
set_option linter.unusedVariables false
set_option maxRecDepth 20000
set_option linter.unusedSimpArgs false
namespace Go.Proofs.Nt
open Go Go.Proofs Go.Proofs.Va

theorem ofN_last {n : Nat} (h : ofN n ≠ []) : ∃ m, ∃ hm : (ofN n).length = m + 1, (ofN n)[m]'(by omega) ≠ 0 := by
  have hp : 0 < (ofN n).length := List.length_pos_iff.2 h
  refine ⟨(ofN n).length - 1, by omega, ?_⟩
  have h1 := trim_last (a := ofN n) (by rw [trim_ofN_self]; exact h) (by rw [trim_ofN_self]; exact hp)
  simpa only [trim_ofN_self] using h1

theorem len_ctr (nl : Bool) (a : List Nat) (cap : Option Nat) (ha : Dig a) (hl : a.length ≤ 1000000) : Ctr Tryz.prog 100 [sl nl a cap] (fun r => r = i (bl (val a))) := by
  refine ctr_val Tryz.func100 rfl (by kernel_rfl) rfl (by simp) fun K hK => ?_
  simp [Tryz.f100]
  refine acall_by (trim_ctr nl a cap ha hl) (by simp [sl]) ?_
  rintro _ ⟨nl', cap', rfl⟩
  rw [trim_ofN ha]
  have hll : (ofN (val a)).length ≤ 1000000 := by rw [← trim_ofN ha]; exact Nat.le_trans (trim_len a) hl
  by_cases h0 : ofN (val a) = []
  · have : val a = 0 := ofN_nil.1 h0
    simpa [sl, h0, this, bl, ofN_zero] using hK []
  · have hd := dig_ofN (val a)
    obtain ⟨m, hm, hx⟩ := ofN_last h0
    have hv : bl (val a) = 32 * m + bl (ofN (val a))[m] := by
      have := bl_digits hd hm hx
      rwa [val_ofN] at this
    have hxx := hd.at (show m < (ofN (val a)).length by omega)
    obtain ⟨b, hb⟩ : ∃ b, b = ofN (val a) := ⟨_, rfl⟩
    generalize hxe : (ofN (val a))[m]'(by omega) = x at *
    rw [← hb] at hm hll h0 ⊢
    have e1 : IntKind.i64.wrap ((b.length : Int) - 1) = (m : Int) := by rw [w64 _ (by omega) (by omega)]; omega
    have e2 : IntKind.i64.wrap (32 * (m : Int)) = ((32 * m : Nat) : Int) := by rw [w64 _ (by omega) (by omega)]; omega
    have hml : m < b.length := by omega
    have hbx : b[m] = x := by subst hb; exact hxe
    simp [sl, h0, e1, hml, hbx, -Int.natCast_mul]
    refine loop_on (γ := Nat × Nat) 27 (fun g => [(0, sl nl' b cap'), (2, i g.1), (3, dg g.2)]) (fun _ => []) (fun g => g.1 + bl g.2 = bl x ∧ g.2 < 4294967296) (fun g => g.2)
      (0, x) ⟨by simp, hxx⟩ (Wk.lst (by simp [sl]) (by simp)) ?_
    rintro ⟨k, t⟩ ⟨hk, ht⟩ L hL
    simp only at hk ht
    have hbb : bl x ≤ 32 := bl_le (k := 32) hxx
    by_cases h1 : t = 0
    · subst h1
      rw [bl_zero, Nat.add_zero] at hk
      subst hk
      have e3 : IntKind.i64.wrap ((bl x : Int) + ((32 * m : Nat) : Int)) = (bl (val a) : Int) := by rw [w64 _ (by omega) (by omega)]; omega
      simpa [sl, e1, e2, e3, -Int.natCast_mul] using hK []
    · have hb1 := bl_half (n := t) (by omega)
      have e4 : IntKind.i64.wrap ((k : Int) + 1) = ((k + 1 : Nat) : Int) := w64 _ (by omega) (by omega)
      simp [h1, e4]
      exact hL (k + 1, t / 2) _ _ ⟨by show k + 1 + bl (t / 2) = _; omega, by show t / 2 < _; omega⟩ (Wk.lst (by simp [sl]) (by simp)) (by show t / 2 < t; omega)

/-! ### Cmp -/
theorem cmp3_nat (a b : Nat) : cmp3 (a : Int) (b : Int) = if a < b then -1 else if b < a then 1 else 0 := by
  unfold cmp3; simp only [Int.ofNat_lt]

theorem rcmp_ctr (nl nl' : Bool) (a b : List Nat) (cap cap' : Option Nat) (ha : Dig a) (hb : Dig b) (hl : a.length ≤ 1000000) (hl' : b.length ≤ 1000000) : Ctr Tryz.prog 81 [sl nl a cap, sl nl' b cap'] (fun r => r = i (cmp3 (val a) (val b))) := by
  refine ctr_val Tryz.func81 rfl (by kernel_rfl) rfl (by simp) fun K hK => ?_
  simp [Tryz.f81]
  refine acall_by (rtrim_ctr nl a cap hl) (by simp [sl]) ?_
  rintro _ ⟨n1, c1, rfl⟩
  simp
  refine acall_by (rtrim_ctr nl' b cap' hl') (by simp [sl]) ?_
  rintro _ ⟨n2, c2, rfl⟩
  rw [trim_ofN ha, trim_ofN hb]
  rw [cmp3_nat] at hK
  have hx := dig_ofN (val a)
  have hy := dig_ofN (val b)
  have hlx : (ofN (val a)).length ≤ 1000000 := by rw [← trim_ofN ha]; exact Nat.le_trans (trim_len a) hl
  have hxy := @len_lt (val a) (val b)
  have hyx := @len_lt (val b) (val a)
  have hvx : val (ofN (val a)) = val a := val_ofN _
  have hvy : val (ofN (val b)) = val b := val_ofN _
  generalize ofN (val a) = x at *
  generalize ofN (val b) = y at *
  by_cases h1 : x.length = y.length
  · have e1 : IntKind.i64.wrap ((y.length : Int) - 1) = (y.length : Int) - 1 := w64 _ (by omega) (by omega)
    simp [sl, h1, e1]
    refine loop_on (γ := Nat) 47 (fun k => [(5, sl n1 x c1), (6, sl n2 y c2), (7, i ((y.length : Int) - 1 - k))]) (fun _ => []) (fun k => k ≤ x.length ∧ x.drop (x.length - k) = y.drop (x.length - k)) (fun k => x.length - k)
      0 ⟨Nat.zero_le _, by simp [h1]⟩ (Wk.lst (by simp [sl, h1]) (by simp)) ?_
    rintro k ⟨hk, hz⟩ L hL
    by_cases hkn : k < x.length
    · obtain ⟨m, hm⟩ : ∃ m, m = x.length - 1 - k := ⟨_, rfl⟩
      have e : (y.length : Int) - 1 - k = (m : Int) := by omega
      have hmx : m < x.length := by omega
      have hmy : m < y.length := by omega
      have hz' : x.drop (m + 1) = y.drop (m + 1) := by rw [show m + 1 = x.length - k by omega]; exact hz
      rw [e]
      simp [sl]
      refine draw_on [0, 0, 1, 1, 0, 0, 1, 1, 0] orders (by decide) ?_
      simp [hmx, hmy]
      by_cases h2 : x[m] < y[m]
      · have := val_lt_of hx hy hmx hmy hz' h2
        rw [hvx, hvy] at this
        simpa [h2, this] using hK []
      · simp [h2]
        refine draw_on [0, 0, 1, 1, 0, 0, 1, 1, 0] orders (by decide) ?_
        simp [hmx, hmy]
        by_cases h3 : y[m] < x[m]
        · have h4 := val_lt_of hy hx hmy hmx hz'.symm h3
          rw [hvx, hvy] at h4
          have h5 : ¬ val a < val b := by omega
          simpa [h3, h4, h5] using hK []
        · simp [h3]
          refine hL (k + 1) _ _ ⟨by omega, ?_⟩ (Wk.lst (by simp [sl]; rw [w64 _ (by omega) (by omega)]; omega) (by simp)) (by omega)
          have h4 : x[m] = y[m] := by omega
          rw [show x.length - (k + 1) = m by omega, List.drop_eq_getElem_cons hmx, List.drop_eq_getElem_cons hmy, hz', h4]
    · have : k = x.length := by omega
      subst this
      have hzz : x = y := by simpa using hz
      have h5 : val a = val b := by rw [← hvx, ← hvy, hzz]
      have e : (y.length : Int) - 1 - x.length = -1 := by omega
      rw [e]
      have hK2 := hK []
      rw [if_neg (by omega), if_neg (by omega)] at hK2
      simp [sl]
      exact hK2
  · by_cases h2 : x.length < y.length
    · have := hxy h2
      simpa [sl, h1, h2, this] using hK []
    · have h3 := hyx (by omega)
      have h4 : ¬ val a < val b := by omega
      simpa [sl, h1, h2, h3, h4] using hK []
end Go.Proofs.Nt
/- The naturals: Cmp; Sub. -/
set_option linter.unusedVariables false
set_option maxRecDepth 20000
set_option linter.unusedSimpArgs false
namespace Go.Proofs.Nt
open Go Go.Proofs Go.Proofs.Va

theorem cmp_ctr (nl nl' : Bool) (a b : List Nat) (cap cap' : Option Nat) (ha : Dig a) (hb : Dig b) (hl : a.length ≤ 1000000) (hl' : b.length ≤ 1000000) : Ctr Tryz.prog 128 [sl nl a cap, sl nl' b cap'] (fun r => r = i (cmp3 (val a) (val b))) := by
  refine ctr_val Tryz.func128 rfl (by kernel_rfl) rfl (by simp) fun K hK => ?_
  simp [Tryz.f128]
  refine draw_on [0, 3, 1, 3, 0, 4] orders (by decide) ?_
  simp
  refine acall_by (trim_ctr nl a cap ha hl) (by simp [sl]) ?_
  rintro _ ⟨n1, c1, rfl⟩
  simp [sl]
  refine acall_by (trim_ctr nl' b cap' hb hl') (by simp [sl]) ?_
  rintro _ ⟨n2, c2, rfl⟩
  rw [trim_ofN ha, trim_ofN hb]
  rw [cmp3_nat] at hK
  have hx := dig_ofN (val a)
  have hy := dig_ofN (val b)
  have hlx : (ofN (val a)).length ≤ 1000000 := by rw [← trim_ofN ha]; exact Nat.le_trans (trim_len a) hl
  have hxy := @len_lt (val a) (val b)
  have hyx := @len_lt (val b) (val a)
  have hvx : val (ofN (val a)) = val a := val_ofN _
  have hvy : val (ofN (val b)) = val b := val_ofN _
  generalize ofN (val a) = x at *
  generalize ofN (val b) = y at *
  simp [sl]
  refine acall_by (compare_int x.length y.length) (by simp) ?_
  rintro _ rfl
  rw [cmp3_nat]
  by_cases h1 : x.length = y.length
  · simp [sl, h1]
    refine backward_call rfl ?_
    simp
    refine range_on (lb := [.po 2 0 0]) (by simp) Tryz.func125 rfl (by kernel_rfl) ?_
    refine back_iter_pl (nl := n1) (a := x) (cap := c1) (by omega) (fun k σ' => σ' = ([⟨.own, 0, [sl n2 y c2]⟩, ⟨.own, 0, [i 0]⟩, ⟨.own, 0, [sl n1 x c1]⟩] : AHeap) ∧ x.drop (x.length - k) = y.drop (x.length - k)) (by simp [sl, h1]) ?_ ?_ ?_
    · rintro k _ ⟨rfl, _⟩; simp [sl]
    · rintro k _ hk ⟨rfl, hz⟩ Kt hKt
      obtain ⟨m, hm⟩ : ∃ m, m = x.length - 1 - k := ⟨_, rfl⟩
      have hmx : m < x.length := by omega
      have hmy : m < y.length := by omega
      have hz' : x.drop (m + 1) = y.drop (m + 1) := by rw [show m + 1 = x.length - k by omega]; exact hz
      simp only [← hm]
      simp [bodyW, sl, hmy]
      refine acall_by (compare_u32 x[m] y[m]) (by simp) ?_
      rintro _ rfl
      rw [cmp3_nat]
      by_cases h2 : x[m] < y[m]
      · have := val_lt_of hx hy hmx hmy hz' h2
        rw [hvx, hvy] at this
        simpa [h2, this, jumps] using hK _
      · by_cases h3 : y[m] < x[m]
        · have h4 := val_lt_of hy hx hmy hmx hz'.symm h3
          rw [hvx, hvy] at h4
          have h5 : ¬ val a < val b := by omega
          simpa [h2, h3, h4, h5, jumps] using hK _
        · simp [h2, h3]
          refine hKt _ ⟨by simp [sl], ?_⟩
          have h4 : x[m] = y[m] := by omega
          rw [show x.length - (k + 1) = m by omega, List.drop_eq_getElem_cons hmx, List.drop_eq_getElem_cons hmy, hz', h4]
    · rintro _ ⟨rfl, hz⟩
      have hzz : x = y := by simpa using hz
      have h5 : val a = val b := by rw [← hvx, ← hvy, hzz]
      have hK2 := hK ([⟨.own, 0, [sl n2 y c2]⟩, ⟨.own, 0, [i 0]⟩, ⟨.own, 0, [sl n1 x c1]⟩] : AHeap)
      rw [if_neg (by omega), if_neg (by omega)] at hK2
      simpa using hK2
  · by_cases h2 : x.length < y.length
    · have := hxy h2
      simpa [sl, h1, h2, this] using hK _
    · have h3' : y.length < x.length := by omega
      have h3 := hyx h3'
      have h4 : ¬ val a < val b := by omega
      simpa [sl, h1, h2, h3', h3, h4] using hK _

/-! ### Sub -/
def subPost (m n : Nat) (r : AV) : Prop := if m < n then r = .tup [.pl true [] 0 (some 0), bo false] else ∃ nl cap, r = .tup [sl nl (ofN (m - n)) cap, bo true]

theorem wsub {x y c : Nat} (hx : x < 4294967296) (hy : y < 4294967296) (hc : c ≤ 1) : IntKind.u64.wrap (IntKind.u64.wrap ((x : Int) - (y : Int)) - (c : Int)) = (((x + 18446744073709551616 - y - c) % 18446744073709551616 : Nat) : Int) := by
  rw [Va.wrap64u, Va.wrap64u]; omega

theorem sub_ctr (nl nl' : Bool) (a b : List Nat) (cap cap' : Option Nat) (ha : Dig a) (hb : Dig b) (hl : a.length ≤ 100000) (hl' : b.length ≤ 100000) : Ctr Tryz.prog 111 [sl nl a cap, sl nl' b cap'] (subPost (val a) (val b)) := by
  refine ctr_in Tryz.func111 rfl (by kernel_rfl) rfl fun K hK => ?_
  simp [Tryz.f111]
  refine acall_by (cmp_ctr nl nl' a b cap cap' ha hb (by omega) (by omega)) (by simp [sl]) ?_
  rintro _ rfl
  rw [cmp3_nat]
  by_cases h0 : val a < val b
  · simp [h0]
    exact hK _ _ _ (.same _ (pu_tup (by simp))) (by rw [subPost, if_pos h0]; rfl)
  · have hneg : ¬ ((if val a < val b then -1 else if val b < val a then 1 else 0 : Int) < 0) := by rw [if_neg h0]; split <;> omega
    simp [hneg, sl]
    refine loop_on (γ := Nat × Nat × List Nat × AHeap) 34 (fun g => [(0, sl nl a cap), (1, sl nl' b cap'), (6, .po 0 0 0), (7, u g.2.1), (15, i a.length), (16, i g.1)]) (fun g => g.2.2.2)
      (fun g => g.1 ≤ a.length ∧ g.2.1 ≤ 1 ∧ g.2.2.1.length = g.1 ∧ Dig g.2.2.1 ∧ val g.2.2.1 + val (b.take g.1) = val (a.take g.1) + 4294967296 ^ g.1 * g.2.1 ∧ DS g.2.2.2 0 g.2.2.1) (fun g => a.length - g.1)
      (0, 0, [], _) ⟨Nat.zero_le _, Nat.zero_le _, rfl, dig_nil, by simp [val], .nil rfl⟩ (Wk.lst (by simp [sl]) (by simp)) ?_
    rintro ⟨k, c, l, σ⟩ ⟨hk, hc, hlen, hd, hv, hD⟩ L hL
    simp only at hk hc hlen hd hv hD
    by_cases hkn : k < a.length
    · simp [hkn, sl]
      refine acall_by (digit_ctr nl a cap k ha) (by simp [sl]) ?_
      rintro _ rfl
      simp
      refine acall_by (digit_ctr nl' b cap' k hb) (by simp [sl]) ?_
      rintro _ rfl
      have h1 := at'_lt ha k
      have h2 := at'_lt hb k
      have hw := wsub h1 h2 hc
      obtain ⟨X, hX⟩ : ∃ X, X = (at' a k + 18446744073709551616 - at' b k - c) % 18446744073709551616 := ⟨_, rfl⟩
      rw [← hX] at hw
      simp [hw]
      refine lay_call hD (by omega) fun σ' hD' => ?_
      simp
      have hst := sub_step h1 h2 hc hv
      have hXm : X % 4294967296 = (at' a k + 18446744073709551616 - at' b k - c) % 4294967296 := by omega
      rw [← hXm] at hst
      have hXd : X / 9223372036854775808 = if at' b k + c ≤ at' a k then 0 else 1 := by split <;> omega
      rw [← hXd] at hst
      refine hL (k + 1, X / 9223372036854775808, l ++ [X % 4294967296], σ') _ _ ⟨by show k + 1 ≤ _; omega, by show _ / _ ≤ 1; omega, by simp [hlen], dig_snoc hd _, ?_, hD'⟩ (Wk.lst (by simp [sl]; rw [w64 _ (by omega) (by omega)]) (by simp)) (by show _ - (k + 1) < _ - k; omega)
      rw [val_snoc, val_take_succ, val_take_succ, hlen, Nat.pow_succ]
      exact hst
    · simp [hkn]
      have : k = a.length := by omega
      subst this
      refine number_call hD.dn (by omega) fun r σ2 hr => ?_
      obtain ⟨nl2, cap2, hr⟩ := hr
      have hva := val_lt ha
      have hvl := val_lt hd
      have hsp := val_append (b.take a.length) (b.drop a.length)
      rw [List.take_append_drop] at hsp
      rw [List.take_of_length_le (Nat.le_refl _)] at hv
      rw [hlen] at hvl
      have e : val l = val a - val b := by
        rcases Nat.lt_or_ge b.length a.length with h3 | h3
        · rw [List.take_of_length_le (by omega)] at hv
          generalize 4294967296 ^ a.length = P at *
          have hc0 : c = 0 := by
            rcases Nat.eq_zero_or_pos c with h4 | h4
            · exact h4
            · have : c = 1 := by omega
              subst this; omega
          subst hc0
          omega
        · rw [List.length_take, Nat.min_eq_left h3] at hsp
          generalize 4294967296 ^ a.length = P at *
          have hz : val (b.drop a.length) = 0 := by
            rcases Nat.eq_zero_or_pos (val (b.drop a.length)) with h4 | h4
            · exact h4
            · have : P * 1 ≤ P * val (b.drop a.length) := Nat.mul_le_mul_left _ h4
              omega
          rw [hz] at hsp
          have hc0 : c = 0 := by
            rcases Nat.eq_zero_or_pos c with h4 | h4
            · exact h4
            · have : c = 1 := by omega
              subst this; omega
          subst hc0
          omega
      rw [trim_ofN hd, e] at hr
      simp
      exact hK _ _ (.tup [sl nl2 (ofN (val a - val b)) cap2, bo true]) (.tup _ _ rfl fun j hj => by match j with | 0 => exact hr | 1 => exact .same _ (by simp)) (by rw [subPost, if_neg h0]; exact ⟨_, _, rfl⟩)
end Go.Proofs.Nt
/- The naturals: the document's Sub; Shl, Shr. -/
set_option linter.unusedVariables false
set_option maxRecDepth 20000
set_option linter.unusedSimpArgs false
namespace Go.Proofs.Nt
open Go Go.Proofs Go.Proofs.Va

theorem take_max {a : List Nat} {N : Nat} (h : a.length ≤ N) : a.take N = a := List.take_of_length_le h

end Go.Proofs.Nt
/- The naturals: Shl. -/
set_option linter.unusedVariables false
set_option maxRecDepth 20000
set_option linter.unusedSimpArgs false
namespace Go.Proofs.Nt
open Go Go.Proofs Go.Proofs.Va

/-- Digits that are appended to, in whatever slice. -/
inductive OX (σ : AHeap) : AV → List Nat → Prop
  | nil : OX σ (.pl true [] 0 (some 0)) []
  | so (j v : Nat) (l : List Nat) : σ[j]? = some ⟨.own, v, l.map dg⟩ → OX σ (.so j v 0 l.length 1 none) l
  | sc (j v c : Nat) (l : List Nat) : σ[j]? = some ⟨.own, v, l.map dg ++ List.replicate (c - l.length) (dg 0)⟩ → l.length ≤ c → OX σ (.so j v 0 l.length 1 (some c)) l

theorem OX.lie {σ : AHeap} {r : AV} {l : List Nat} (h : OX σ r l) : Lie σ r l := by
  cases h with
  | nil => exact .nil rfl rfl
  | so j v l hj => exact .so j v none [] rfl (by simpa using hj)
  | sc j v c l hj hc => exact .so j v (some c) _ rfl hj

theorem append_ox {σ : AHeap} {r : AV} {l : List Nat} {x : Nat} {K : AV → AHeap → Prop} (h : OX σ r l) (hl : l.length ≤ 1000000) (hK : ∀ r' σ', OX σ' r' (l ++ [x]) → K r' σ') :
    aAppend Tryz.prog 46 46 r (.so σ.length 0 0 1 1 (some 1)) (σ ++ ([⟨.own, 0, [.v (.int .u32 x)]⟩] : AHeap)) K := by
  cases h with
  | nil =>
    simp
    have := hK (.so (σ.length + 1) 0 0 1 1 none) (σ ++ ([⟨.own, 0, [dg x]⟩, ⟨.own, 0, [dg x]⟩] : AHeap)) (.so _ _ [x] (by simp))
    simpa using this
  | so j v l hj =>
    have hlt := (List.getElem?_eq_some_iff.1 hj).1
    simp [List.getElem?_append_left hlt, hj]
    refine ⟨by omega, ?_⟩
    have := hK (.so j (v + 1) 0 (l ++ [x]).length 1 none) (List.set (σ ++ ([⟨.own, 0, [dg x]⟩] : AHeap)) j ⟨.own, v + 1, l.map dg ++ [dg x]⟩) (.so _ _ _ (by rw [List.getElem?_set_self (by simp; omega)]; simp))
    have e : List.take l.length (List.map dg l) = List.map dg l := List.take_of_length_le (by simp)
    rw [e]
    simpa using this
  | sc j v c l hj hc =>
    have hlt := (List.getElem?_eq_some_iff.1 hj).1
    simp [List.getElem?_append_left hlt, hj]
    have e : List.take l.length (List.map dg l) = List.map dg l := List.take_of_length_le (by simp)
    have e2 : List.take l.length (List.map dg l ++ List.replicate (c - l.length) (dg 0)) = List.map dg l := by rw [List.take_append_of_le_length (by simp)]; exact e
    refine ⟨by omega, ite_and.2 ⟨fun h => ?_, fun h c' hc' => ?_⟩⟩
    · have := hK (.so j (v + 1) 0 (l ++ [x]).length 1 none) (List.set (σ ++ ([⟨.own, 0, [dg x]⟩] : AHeap)) j ⟨.own, v + 1, l.map dg ++ [dg x]⟩) (.so _ _ _ (by rw [List.getElem?_set_self (by simp; omega)]; simp))
      simpa [e, e2] using this
    · have := hK (.so (σ.length + 1) 0 0 (l ++ [x]).length 1 (some c')) (σ ++ ([⟨.own, 0, [dg x]⟩, ⟨.own, 0, (l ++ [x]).map dg ++ List.replicate (c' - (l ++ [x]).length) (dg 0)⟩] : AHeap)) (.sc _ _ _ _ (by simp) (by simpa using hc'))
      simpa [e, e2] using this

/-! ### Shl -/
def shlN (m : Nat) (k : Int) : List Nat := if k < 0 ∨ 100000 < k then [] else ofN (m * 2 ^ k.toNat)
theorem told_nil : Told [] (.pl true [] 0 (some 0)) := ⟨true, some 0, by simp [sl]⟩
theorem pow_split (k : Nat) : 2 ^ k = 4294967296 ^ (k / 32) * 2 ^ (k % 32) := by
  rw [base_pow, ← Nat.pow_add]; congr 1; omega
theorem pow_small (s : Nat) (h : s < 32) : 2 ^ s ≤ 2147483648 := by
  have : 2 ^ s ≤ 2 ^ 31 := Nat.pow_le_pow_right (by decide) (by omega)
  simpa using this

theorem wpow (s : Nat) (h : s < 32) : IntKind.u64.wrap ((2 : Int) ^ s) = ((2 ^ s : Nat) : Int) := by
  have hp := pow_small s h
  have e : ((2 ^ s : Nat) : Int) = (2 : Int) ^ s := by simp
  rw [← e, wu _ (by omega)]

theorem shl_ctr (nl : Bool) (a : List Nat) (cap : Option Nat) (k : Int) (ha : Dig a) (hl : a.length ≤ 100000) : Ctr Tryz.prog 117 [sl nl a cap, i k] (Told (shlN (val a) k)) := by
  refine ctr_in Tryz.func117 rfl (by kernel_rfl) rfl fun K hK => ?_
  by_cases h0 : k < 0
  · simp [Tryz.f117, h0]
    exact hK _ _ _ (.same _ (by simp)) (by rw [shlN, if_pos (.inl h0)]; exact told_nil)
  by_cases h1 : 100000 < k
  · simp [Tryz.f117, h0, h1]
    exact hK _ _ _ (.same _ (by simp)) (by rw [shlN, if_pos (.inr h1)]; exact told_nil)
  obtain ⟨m, rfl⟩ : ∃ m : Nat, k = m := ⟨k.toNat, by omega⟩
  rw [shlN, if_neg (by omega)] at hK
  simp only [Int.toNat_natCast] at hK
  have hm : m ≤ 100000 := by omega
  have hs : min (m % 32) 64 = m % 32 := by omega
  have hp := pow_small (m % 32) (by omega)
  obtain ⟨y, hy⟩ : ∃ y, y = 2 ^ (m % 32) := ⟨_, rfl⟩
  rw [← hy] at hp
  have hw := wpow (m % 32) (by omega)
  rw [← hy] at hw
  obtain ⟨Q, hQ⟩ : ∃ Q, Q = m / 32 := ⟨_, rfl⟩
  have hq : IntKind.i64.wrap ((m : Int) / 32) = (Q : Int) := by rw [w64 _ (by omega) (by omega)]; omega
  have hy0 : y ≠ 0 := by rw [hy]; exact Nat.pos_iff_ne_zero.1 (Nat.two_pow_pos _)
  simp [Tryz.f117, Nat.not_lt.2 hm, hs, hw]
  refine acall_by (scale_ctr nl a cap y ha hl (by omega)) (by simp [sl]) ?_
  rintro _ ⟨n1, c1, rfl⟩
  have hmul : val a * 2 ^ m = 4294967296 ^ (m / 32) * (val a * y) := by rw [pow_split m, hy, Nat.mul_left_comm]
  rw [← hQ] at hmul
  rw [hmul] at hK
  by_cases hz : val a * y = 0
  · rw [hz, Nat.mul_zero] at hK
    simp [hz, ofN_zero, sl]
    exact hK _ _ _ (.same _ (by simp)) (by rw [ofN_zero]; exact told_nil)
  · rw [← ofN_shift _ _ hz] at hK
    have hne : ofN (val a * y) ≠ [] := fun h => hz (ofN_nil.1 h)
    have hlen : (ofN (val a * y)).length ≤ 100001 := by
      refine ofN_le (j := a.length + 1) ?_ (by omega)
      rw [Nat.pow_succ]
      exact Nat.mul_lt_mul'' (val_lt ha) (by omega)
    generalize ofN (val a * y) = x at *
    obtain ⟨S, hS⟩ : ∃ S, S = Q + x.length := ⟨_, rfl⟩
    have hwl : IntKind.i64.wrap ((Q : Int) + (x.length : Int)) = (S : Int) := by rw [w64 _ (by omega) (by omega)]; omega
    have hQS : Q ≤ S := by omega
    simp [hne, sl, hq, hwl, hQS, ← hS]
    refine ⟨by omega, by omega, ?_⟩
    refine hK _ _ _ (isSl_so (a := List.replicate Q 0 ++ x) rfl (fun h => by cases h) (by simp; omega) (by simp) (fun l hl => ?_)) ⟨false, none, rfl⟩
    have e : ([.v (.int .u32 0)] : List AV) = [dg 0] := rfl
    have e2 : List.replicate Q (AV.v (Value.int IntKind.u32 0)) ++ List.map dg x = List.map dg (List.replicate Q 0 ++ x) := by simp
    have hl' : l < (List.replicate Q 0 ++ x).length := hl
    simp only [Nat.zero_add]
    rw [e2, List.getElem?_map, List.getElem?_eq_getElem hl']; rfl

theorem scale_step {a l : List Nat} {k c y : Nat} (hlen : l.length = k) (hv : val l + 4294967296 ^ k * c = val (a.take k) * y) :
    val (l ++ [(at' a k * y + c) % 4294967296]) + 4294967296 ^ (k + 1) * ((at' a k * y + c) / 4294967296) = val (a.take (k + 1)) * y := by
  rw [val_snoc, val_take_succ, hlen, Nat.pow_succ, Nat.add_mul, ← hv]
  have h3 := carry_step (P := 4294967296 ^ k) (Nat.mod_add_div (at' a k * y + c) 4294967296)
  rw [Nat.mul_add] at h3
  rw [Nat.add_assoc, h3, Nat.mul_assoc, ← Nat.add_assoc]
  omega

theorem rshl_ctr (nl : Bool) (a : List Nat) (cap : Option Nat) (k : Int) (ha : Dig a) (hl : a.length ≤ 100000) : Ctr Tryz.prog 82 [sl nl a cap, i k] (Told (shlN (val a) k)) := by
  refine ctr_in Tryz.func82 rfl (by kernel_rfl) rfl fun K hK => ?_
  by_cases h0 : k < 0
  · simp [Tryz.f82, h0]
    exact hK _ _ _ (.same _ (by simp)) (by rw [shlN, if_pos (.inl h0)]; exact told_nil)
  by_cases h1 : 100000 < k
  · simp [Tryz.f82, h0, h1]
    exact hK _ _ _ (.same _ (by simp)) (by rw [shlN, if_pos (.inr h1)]; exact told_nil)
  obtain ⟨m, rfl⟩ : ∃ m : Nat, k = m := ⟨k.toNat, by omega⟩
  rw [shlN, if_neg (by omega)] at hK
  simp only [Int.toNat_natCast] at hK
  have hm : m ≤ 100000 := by omega
  have hs : min (m % 32) 64 = m % 32 := by omega
  have hp := pow_small (m % 32) (by omega)
  obtain ⟨y, hy⟩ : ∃ y, y = 2 ^ (m % 32) := ⟨_, rfl⟩
  have hyI : (2 : Int) ^ (m % 32) = (y : Int) := by rw [hy]; simp
  rw [← hy] at hp
  have hy0 : y ≠ 0 := by rw [hy]; exact Nat.pos_iff_ne_zero.1 (Nat.two_pow_pos _)
  obtain ⟨Q, hQ⟩ : ∃ Q, Q = m / 32 := ⟨_, rfl⟩
  have hq : IntKind.i64.wrap ((m : Int) / 32) = (Q : Int) := by rw [w64 _ (by omega) (by omega)]; omega
  have hmul : val a * 2 ^ m = 4294967296 ^ Q * (val a * y) := by rw [pow_split m, hy, Nat.mul_left_comm, hQ]
  rw [hmul] at hK
  simp [Tryz.f82, Nat.not_lt.2 hm, hq]
  refine ⟨⟨by omega, by omega⟩, ?_⟩
  refine loop_on (γ := Nat × Nat × List Nat × AV × AHeap) 48 (fun g => [(0, sl nl a cap), (1, i m), (5, g.2.2.2.1), (6, u g.2.1), (7, i g.1)]) (fun g => g.2.2.2.2)
    (fun g => g.1 ≤ a.length ∧ g.2.1 < y ∧ g.2.2.1.length = g.1 ∧ Dig g.2.2.1 ∧ val g.2.2.1 + 4294967296 ^ g.1 * g.2.1 = val (a.take g.1) * y ∧ OX g.2.2.2.2 g.2.2.2.1 (List.replicate Q 0 ++ g.2.2.1)) (fun g => a.length - g.1)
    (0, 0, [], _, _) ⟨Nat.zero_le _, by show 0 < y; omega, rfl, dig_nil, by simp [val], ?_⟩ (Wk.lst (by simp [sl]; exact wk1_refl _) (by simp)) ?_
  · have := OX.sc (σ := ([⟨.own, 0, List.replicate Q (dg 0)⟩] : AHeap)) 0 0 Q (List.replicate Q 0) (by simp) (by simp)
    simpa using this
  rintro ⟨k, c, l, r, σ⟩ ⟨hk, hc, hlen, hd, hv, hD⟩ L hL
  simp only at hk hc hlen hd hv hD
  have hz : Dig (List.replicate Q 0) := fun x hx => by rw [List.mem_replicate] at hx; omega
  by_cases hkn : k < a.length
  · have hx := ha.at hkn
    have hat : at' a k = a[k] := by simp [at', hkn]
    have hmx : a[k] * y ≤ 4294967295 * 2147483648 := Nat.mul_le_mul (by omega) hp
    have hmx2 : a[k] * y + y ≤ 4294967296 * y := by have := Nat.mul_le_mul_right y (show a[k] + 1 ≤ 4294967296 by omega); rw [Nat.add_mul, Nat.one_mul] at this; exact this
    have hcy : (a[k] * y + c) / 4294967296 < y := (Nat.div_lt_iff_lt_mul (by decide)).2 (by rw [Nat.mul_comm y]; omega)
    have hw1 : IntKind.u64.wrap (a[k] : Int) = (a[k] : Int) := wu _ (by omega)
    have hw2 : IntKind.u64.wrap ((a[k] : Int) * (y : Int)) = ((a[k] * y : Nat) : Int) := by rw [← Int.natCast_mul, wu _ (by omega)]
    have hw3 : IntKind.u64.wrap (((a[k] * y : Nat) : Int) + (c : Int)) = ((a[k] * y + c : Nat) : Int) := wuc _ _ (by omega) (by omega)
    have hst := scale_step (a := a) hlen hv
    rw [hat] at hst
    obtain ⟨X, hX⟩ : ∃ X, X = a[k] * y + c := ⟨_, rfl⟩
    rw [← hX] at hw3 hst hcy
    simp [hkn, sl, -aAppend, hs, hyI, hw1]
    rw [hw2, hw3, w32]
    refine append_ox hD (by simp; omega) fun r' σ' h => ?_
    simp
    refine hL (k + 1, X / 4294967296, l ++ [X % 4294967296], r', σ') _ _ ⟨by show k + 1 ≤ _; omega, hcy, by simp [hlen], dig_snoc hd _, hst, by simpa using h⟩ (Wk.lst (by simp [sl]; rw [w64 _ (by omega) (by omega)]) (by simp)) (by show _ - (k + 1) < _ - k; omega)
  · have : k = a.length := by omega
    subst this
    rw [take_max (Nat.le_refl _)] at hv
    have hcc : IntKind.u32.wrap (c : Int) = (c : Int) := w32' c (by omega)
    simp [sl, -aAppend, hcc]
    refine append_ox (x := c) hD (by simp; omega) fun r' σ' h => ?_
    simp
    refine call_lie h.lie (fun nl cap => rtrim_ctr nl _ cap (by simp; omega)) ?_
    rintro _ σ' ⟨nl2, cap2, rfl⟩
    have e : trimL (List.replicate Q 0 ++ l ++ [c]) = ofN (4294967296 ^ Q * (val a * y)) := by
      have hdc : Dig [c] := fun x hx => by rw [List.mem_singleton] at hx; omega
      rw [trim_ofN (dig_append (dig_append hz hd) hdc), val_snoc, val_append]
      have hz0 : ∀ n, val (List.replicate n 0) = 0 := fun n => by induction n with
        | zero => rfl
        | succ n ih => rw [List.replicate_succ, val, ih]
      rw [hz0, List.length_append, List.length_replicate, hlen, Nat.pow_add, Nat.zero_add, Nat.mul_assoc, ← Nat.mul_add, hv]
    rw [e]
    simp
    exact hK _ _ _ (.same _ (by simp [sl])) ⟨_, _, rfl⟩
end Go.Proofs.Nt
/- The naturals: Shr. -/
set_option linter.unusedVariables false
set_option maxRecDepth 20000
set_option linter.unusedSimpArgs false
namespace Go.Proofs.Nt
open Go Go.Proofs Go.Proofs.Va

theorem dig_drop {a : List Nat} (h : Dig a) (k : Nat) : Dig (a.drop k) := fun x hx => h x (List.mem_of_mem_drop hx)
theorem val_div {b : List Nat} (hd : Dig b) (k : Nat) : val b / 4294967296 ^ k = val (b.drop k) := by
  rcases Nat.lt_or_ge b.length k with h | h
  · rw [List.drop_of_length_le (by omega)]
    have h1 := val_lt hd
    have h2 : 4294967296 ^ b.length ≤ 4294967296 ^ k := Nat.pow_le_pow_right (by decide) (by omega)
    exact Nat.div_eq_of_lt (by omega)
  · rw [val_split b k h]
    have h1 := val_lt (dig_take hd k)
    rw [List.length_take, Nat.min_eq_left h] at h1
    rw [Nat.add_mul_div_left _ _ (Nat.pow_pos (by decide)), Nat.div_eq_of_lt h1, Nat.zero_add]
theorem val_mod {b : List Nat} (hd : Dig b) (k : Nat) : val b % 4294967296 ^ k = val (b.take k) := by
  have h1 := Nat.mod_add_div (val b) (4294967296 ^ k)
  rw [val_div hd] at h1
  have h2 := val_append (b.take k) (b.drop k)
  rw [List.take_append_drop, List.length_take] at h2
  rcases Nat.lt_or_ge b.length k with h | h
  · rw [List.drop_of_length_le (by omega)] at h1
    rw [List.take_of_length_le (by omega)]
    simpa [val] using h1
  · rw [Nat.min_eq_left h] at h2; omega
theorem val_drop_one (b : List Nat) (k : Nat) : val (b.drop k) = at' b k + 4294967296 * val (b.drop (k + 1)) := by
  unfold at'
  rcases Nat.lt_or_ge k b.length with h | h
  · rw [List.drop_eq_getElem_cons h, val, List.getD_eq_getElem?_getD, List.getElem?_eq_getElem h]; rfl
  · rw [List.drop_of_length_le h, List.drop_of_length_le (by omega), List.getD_eq_getElem?_getD, List.getElem?_eq_none h]; rfl
theorem at'_drop (a : List Nat) (q k : Nat) : at' (a.drop q) k = at' a (q + k) := by
  unfold at'
  rw [List.getD_eq_getElem?_getD, List.getD_eq_getElem?_getD, List.getElem?_drop]
theorem digit_mod (D E x y R : Nat) (hD : 0 < D) (h : D * E = 4294967296) : ((x + 4294967296 * (y + 4294967296 * R)) / D) % 4294967296 = ((x + 4294967296 * y) / D) % 4294967296 := by
  have e : x + 4294967296 * (y + 4294967296 * R) = (x + 4294967296 * y) + D * (4294967296 * (E * R)) := by
    have : D * (4294967296 * (E * R)) = D * E * (4294967296 * R) := by rw [Nat.mul_assoc D E, Nat.mul_left_comm E]
    rw [this, h, Nat.mul_add]; try omega
  rw [e, Nat.add_mul_div_left _ _ hD]
  omega
theorem pow_rest (s : Nat) (h : s < 32) : 2 ^ s * 2 ^ (32 - s) = 4294967296 := by
  rw [← Nat.pow_add, show s + (32 - s) = 32 by omega]

/-- One digit more of a number that is shifted. -/
theorem shr_step {b l : List Nat} {k s : Nat} (hd : Dig b) (hs : s < 32) (hlen : l.length = k) (hv : val l = val b / 2 ^ s % 4294967296 ^ k) :
    val (l ++ [(at' b k + 4294967296 * at' b (k + 1)) / 2 ^ s % 4294967296]) = val b / 2 ^ s % 4294967296 ^ (k + 1) := by
  rw [val_snoc, hlen, hv, Nat.mod_pow_succ]
  congr 2
  have e : val b / 2 ^ s / 4294967296 ^ k = val (b.drop k) / 2 ^ s := by rw [Nat.div_div_eq_div_mul, Nat.mul_comm (2 ^ s), ← Nat.div_div_eq_div_mul, val_div hd]
  rw [e, val_drop_one b k, val_drop_one b (k + 1)]
  exact (digit_mod _ _ _ _ _ (Nat.two_pow_pos s) (pow_rest s hs)).symm

theorem shr_fin {a : List Nat} (ha : Dig a) (m : Nat) : val a / 2 ^ m = val (a.drop (m / 32)) / 2 ^ (m % 32) := by
  rw [pow_split m, ← Nat.div_div_eq_div_mul, val_div ha]
theorem shr_mod {a : List Nat} (ha : Dig a) (m : Nat) : val a % 2 ^ m = val (a.take (m / 32)) + 4294967296 ^ (m / 32) * (at' a (m / 32) % 2 ^ (m % 32)) := by
  have h1 : val a % (4294967296 ^ (m / 32) * 2 ^ (m % 32)) = val a % 4294967296 ^ (m / 32) + 4294967296 ^ (m / 32) * (val a / 4294967296 ^ (m / 32) % 2 ^ (m % 32)) := Nat.mod_mul
  rw [pow_split m, h1, val_mod ha, val_div ha, val_drop_one]
  congr 2
  have := pow_rest (m % 32) (by omega)
  rw [← this, Nat.mul_assoc, Nat.add_mul_mod_self_left]

def shrPost (n : Nat) (k : Int) (r : AV) : Prop := if k < 0 ∨ 100000 < k then r = .tup [.pl true [] 0 (some 0), bo false] else ∃ nl cap, r = .tup [sl nl (ofN (n / 2 ^ k.toNat)) cap, bo (n % 2 ^ k.toNat == 0)]

theorem rshr_ctr (nl : Bool) (a : List Nat) (cap : Option Nat) (k : Int) (ha : Dig a) (hl : a.length ≤ 90000) : Ctr Tryz.prog 47 [sl nl a cap, i k] (shrPost (val a) k) := by
  refine ctr_in Tryz.func47 rfl (by kernel_rfl) rfl fun K hK => ?_
  by_cases h0 : k < 0
  · simp [Tryz.f47, h0]
    exact hK _ _ _ (.same _ (pu_tup (by simp))) (by rw [shrPost, if_pos (.inl h0)]; rfl)
  by_cases h1 : 100000 < k
  · simp [Tryz.f47, h0, h1]
    exact hK _ _ _ (.same _ (pu_tup (by simp))) (by rw [shrPost, if_pos (.inr h1)]; rfl)
  obtain ⟨m, rfl⟩ : ∃ m : Nat, k = m := ⟨k.toNat, by omega⟩
  have hP : ∀ r, shrPost (val a) m r ↔ ∃ nl cap, r = .tup [sl nl (ofN (val a / 2 ^ m)) cap, bo (val a % 2 ^ m == 0)] := fun r => by
    rw [shrPost, if_neg (by omega), Int.toNat_natCast]
  have hm : m ≤ 100000 := by omega
  have hs : min (m % 32) 64 = m % 32 := by omega
  obtain ⟨Q, hQ⟩ : ∃ Q, Q = m / 32 := ⟨_, rfl⟩
  have hq : IntKind.i64.wrap ((m : Int) / 32) = (Q : Int) := by rw [w64 _ (by omega) (by omega)]; omega
  obtain ⟨b, hb⟩ : ∃ b, b = a.drop Q := ⟨_, rfl⟩
  have hbd : Dig b := by rw [hb]; exact dig_drop ha Q
  have hbl : b.length = a.length - Q := by rw [hb]; simp
  have hbk : ∀ k, at' b k = at' a (Q + k) := fun k => by rw [hb]; exact at'_drop a Q k
  simp [Tryz.f47, Nat.not_lt.2 hm, hq]
  refine loop_on (γ := Nat × List Nat × AV × AHeap) 52 (fun g => [(0, sl nl a cap), (1, i m), (6, g.2.2.1), (7, i ((Q + g.1 : Nat) : Int))]) (fun g => g.2.2.2)
    (fun g => g.1 ≤ b.length ∧ g.2.1.length = g.1 ∧ Dig g.2.1 ∧ val g.2.1 = val b / 2 ^ (m % 32) % 4294967296 ^ g.1 ∧ OL g.2.2.2 g.2.2.1 g.2.1) (fun g => b.length - g.1)
    (0, [], _, _) ⟨Nat.zero_le _, rfl, dig_nil, by simp [val, Nat.mod_one], .nil⟩ (Wk.lst (by simp [sl]) (by simp)) ?_
  rintro ⟨k, l, r, σ⟩ ⟨hk, hlen, hd, hv, hD⟩ L hL
  simp only at hk hlen hd hv hD
  by_cases hkn : k < b.length
  · have hQk : Q + k < a.length := by omega
    have hx := ha.at hQk
    have hat : at' a (Q + k) = a[Q + k] := by simp [at', hQk]
    have hy := at'_lt ha (Q + k + 1)
    obtain ⟨P, hP'⟩ : ∃ P, P = Q + k := ⟨_, rfl⟩
    have hst := shr_step (s := m % 32) hbd (by omega) hlen hv
    rw [hbk, hbk, ← Nat.add_assoc] at hst
    simp only [← hP'] at hQk hx hat hy hst ⊢
    have hw1 : IntKind.i64.wrap ((P : Int) + 1) = ((P + 1 : Nat) : Int) := w64 _ (by omega) (by omega)
    obtain ⟨P1, hP1⟩ : ∃ P1, P1 = P + 1 := ⟨_, rfl⟩
    rw [← hP1] at hw1 hy hst
    simp [hQk, sl, hw1]
    refine draw_on [0, 0, 0, 3, 0, 0, 0, 1, 1, 0, 0, 0, 0, 0, 0] orders (by decide) ?_
    simp [hw1]
    refine acall_by (at_ctr nl a cap P1 ha) (by simp [sl]) ?_
    rintro _ rfl
    have hw2 : IntKind.u64.wrap (a[P] : Int) = (a[P] : Int) := wu _ (by omega)
    have hw3 : IntKind.u64.wrap ((at' a P1 : Int) * 4294967296) = ((at' a P1 * 4294967296 : Nat) : Int) := by rw [wrap64u]; omega
    have hw4 : IntKind.u64.wrap (((at' a P1 * 4294967296 : Nat) : Int) + (a[P] : Int)) = ((a[P] + 4294967296 * at' a P1 : Nat) : Int) := by rw [wrap64u]; omega
    simp [hQk, hs, hw2, -aAppend]
    rw [hw3, hw4]
    have hyI : (2 : Int) ^ (m % 32) = ((2 ^ (m % 32) : Nat) : Int) := by simp
    have hw5 : (((a[P] + 4294967296 * at' a P1 : Nat) : Int)).fdiv ((2 : Int) ^ (m % 32)) = (((a[P] + 4294967296 * at' a P1) / 2 ^ (m % 32) : Nat) : Int) := by rw [hyI, fdiv_nat]
    rw [hw5, w32]
    rw [hat] at hst
    obtain ⟨X, hX⟩ : ∃ X, X = (a[P] + 4294967296 * at' a P1) / 2 ^ (m % 32) := ⟨_, rfl⟩
    rw [← hX] at hst ⊢
    refine append_one hD (by omega) fun r' σ' h => ?_
    simp [hw1]
    refine hL (k + 1, l ++ [X % 4294967296], r', σ') _ _ ⟨by show k + 1 ≤ _; omega, by simp [hlen], dig_snoc hd _, hst, h⟩ (Wk.lst (by simp [sl]; omega) (by simp)) (by show _ - (k + 1) < _ - k; omega)
  · have : k = b.length := by omega
    subst this
    have e1 : ¬ (Q + b.length < a.length) := by omega
    have hval : val l = val a / 2 ^ m := by
      rw [hv, shr_fin ha, ← hQ, ← hb]
      refine Nat.mod_eq_of_lt (Nat.lt_of_le_of_lt (Nat.div_le_self _ _) (val_lt hbd))
    simp [sl, e1]
    simp only [← Int.natCast_add, Int.ofNat_lt, e1, if_false]
    refine call_lie hD.lie (fun nl cap => rtrim_ctr nl l cap (by omega)) ?_
    rintro _ σ' ⟨nl2, cap2, rfl⟩
    rw [trim_ofN hd, hval]
    simp
    have hlx : (ofN (val a / 2 ^ m)).length ≤ 100000 := by
      rw [← hval, ← trim_ofN hd]; exact Nat.le_trans (trim_len l) (by omega)
    refine acall_by (rshl_ctr nl2 (ofN (val a / 2 ^ m)) cap2 m (dig_ofN _) hlx) (by simp [sl]) ?_
    rintro _ ⟨nl3, cap3, rfl⟩
    rw [shlN, if_neg (by omega), Int.toNat_natCast, val_ofN]
    simp
    refine acall_by (rcmp_ctr nl3 nl (ofN (val a / 2 ^ m * 2 ^ m)) a cap3 cap (dig_ofN _) ha ?_ (by omega)) (by simp [sl]) ?_
    · exact ofN_le (Nat.lt_of_le_of_lt (Nat.div_mul_le_self _ _) (val_lt ha)) (by omega)
    rintro _ rfl
    simp
    have hdm := Nat.div_add_mod (val a) (2 ^ m)
    rw [Nat.mul_comm] at hdm
    have e2 : (cmp3 ((val (ofN (val a / 2 ^ m * 2 ^ m)) : Nat) : Int) (val a : Int) == 0) = (val a % 2 ^ m == 0) := by
      rw [val_ofN, cmp3_nat]
      by_cases h : val a % 2 ^ m = 0
      · rw [if_neg (by omega), if_neg (by omega), h]; rfl
      · rw [if_pos (by omega), beq_false_of_ne h]; rfl
    refine hK _ _ _ (.same _ (pu_tup (by simp [sl]))) ((hP _).2 ⟨nl2, cap2, ?_⟩)
    rw [← e2]; rfl

/-! ### The program's -/
@[simp] theorem cast_bne0 (m : Nat) : ((m : Int) != 0) = (m != 0) := by rw [Bool.eq_iff_iff]; simp
@[simp] theorem cast_beq0 (m : Nat) : ((m : Int) == 0) = (m == 0) := by rw [Bool.eq_iff_iff]; simp
theorem and_mask {x : Nat} : x &&& 4294967295 = x % 4294967296 := Nat.and_two_pow_sub_one_eq_mod x 32
theorem and_low (x s : Nat) : x &&& (2 ^ s - 1) = x % 2 ^ s := Nat.and_two_pow_sub_one_eq_mod x s
theorem val_zero_take {a : List Nat} (k : Nat) : (val (a.take (k + 1)) != 0) = (val (a.take k) != 0 || at' a k != 0) := by
  rw [val_take_succ]
  by_cases h1 : val (a.take k) = 0
  · by_cases h2 : at' a k = 0
    · simp [h1, h2]
    · have : 4294967296 ^ k * at' a k ≠ 0 := Nat.mul_ne_zero (Nat.pos_iff_ne_zero.1 (Nat.pow_pos (by decide))) h2
      rw [h1, Nat.zero_add, bne, bne, bne, beq_false_of_ne this, beq_false_of_ne h2]; rfl
  · have : val (a.take k) + 4294967296 ^ k * at' a k ≠ 0 := by omega
    rw [bne, bne, bne, beq_false_of_ne this, beq_false_of_ne h1]; rfl

theorem shr_ctr (nl : Bool) (a : List Nat) (cap : Option Nat) (k : Int) (ha : Dig a) (hl : a.length ≤ 90000) : Ctr Tryz.prog 102 [sl nl a cap, i k] (shrPost (val a) k) := by
  refine ctr_in Tryz.func102 rfl (by kernel_rfl) rfl fun K hK => ?_
  by_cases h0 : k < 0
  · simp [Tryz.f102, h0]
    exact hK _ _ _ (.same _ (pu_tup (by simp))) (by rw [shrPost, if_pos (.inl h0)]; rfl)
  by_cases h1 : 100000 < k
  · simp [Tryz.f102, h0, h1]
    exact hK _ _ _ (.same _ (pu_tup (by simp))) (by rw [shrPost, if_pos (.inr h1)]; rfl)
  obtain ⟨m, rfl⟩ : ∃ m : Nat, k = m := ⟨k.toNat, by omega⟩
  have hP : ∀ r, shrPost (val a) m r ↔ ∃ nl cap, r = .tup [sl nl (ofN (val a / 2 ^ m)) cap, bo (val a % 2 ^ m == 0)] := fun r => by
    rw [shrPost, if_neg (by omega), Int.toNat_natCast]
  have hm : m ≤ 100000 := by omega
  have hs : min (m % 32) 64 = m % 32 := by omega
  have hs2 : min (m % 32) 32 = m % 32 := by omega
  obtain ⟨Q, hQ⟩ : ∃ Q, Q = m / 32 := ⟨_, rfl⟩
  have hq : IntKind.i64.wrap ((m : Int) / 32) = (Q : Int) := by rw [w64 _ (by omega) (by omega)]; omega
  obtain ⟨M, hM⟩ : ∃ M, M = min Q a.length := ⟨_, rfl⟩
  have hMi : (if (a.length : Int) < (Q : Int) then (a.length : Int) else (Q : Int)) = (M : Int) := by split <;> omega
  simp [Tryz.f102, Nat.not_lt.2 hm, hq, sl]
  simp only [← Int.ofNat_lt] 
  rw [hMi]
  refine loop_on (γ := Nat) 80 (fun g => [(0, sl nl a cap), (1, i m), (6, bo (val (a.take g) != 0)), (21, i M), (22, i g)]) (fun _ => []) (fun g => g ≤ M) (fun g => M - g)
    0 (Nat.zero_le _) (Wk.lst (by simp [sl, val]) (by simp)) ?_
  intro k hk L hL
  by_cases hkn : k < M
  · have hka : k < a.length := by omega
    have hat : at' a k = a[k] := by simp [at', hka]
    have hz := val_zero_take (a := a) k
    rw [hat] at hz
    have hw1 : IntKind.i64.wrap ((k : Int) + 1) = (k : Int) + 1 := w64 _ (by omega) (by omega)
    by_cases hv : val (a.take k) = 0
    · simp [hkn, sl, hv, hka, hw1]
      refine hL (k + 1) _ _ (by omega) (Wk.lst (by simp [sl, hz, hv]) (by simp)) (by omega)
    · have hv' : (val (a.take k) != 0) = true := by simp [hv]
      simp [hkn, sl, hv, hka, hw1]
      refine hL (k + 1) _ _ (by omega) (Wk.lst (by simp [sl, hz, hv]) (by simp)) (by omega)
  · have : k = M := by omega
    subst this
    by_cases hQa : a.length ≤ Q
    · have hka : k = a.length := by omega
      subst hka
      have hz : val a / 2 ^ m = 0 := by
        rw [shr_fin ha, ← hQ, List.drop_of_length_le hQa]; simp [val]
      have hz2 : val a % 2 ^ m = val a := by
        have := Nat.div_add_mod (val a) (2 ^ m); rw [hz] at this; omega
      simp [hq, hQa, sl]
      refine hK _ _ _ (.same _ (pu_tup (by simp))) ((hP _).2 ⟨true, some 0, ?_⟩)
      rw [hz, hz2, ofN_zero]
      simp [sl, bne]
    · have hkQ : k = Q := by omega
      subst hkQ
      have hQa' : k < a.length := by omega
      obtain ⟨b, hb⟩ : ∃ b, b = a.drop k := ⟨_, rfl⟩
      have hbd : Dig b := by rw [hb]; exact dig_drop ha k
      have hbl : b.length = a.length - k := by rw [hb]; simp
      have hb0 : 0 < b.length := by omega
      have hbe : b.isEmpty = false := by cases b with | nil => simp at hb0 | cons => rfl
      have hx0 := hbd.at hb0
      have hp := pow_small (m % 32) (by omega)
      have hp1 := Nat.two_pow_pos (m % 32)
      obtain ⟨y, hy⟩ : ∃ y, y = 2 ^ (m % 32) := ⟨_, rfl⟩
      have hw : IntKind.u32.wrap ((2 : Int) ^ (m % 32)) = (y : Int) := by
        have e : (y : Int) = (2 : Int) ^ (m % 32) := by rw [hy]; simp
        rw [← e, w32' _ (by omega)]
      have hw2 : IntKind.u32.wrap ((y : Int) - 1) = ((y - 1 : Nat) : Int) := by rw [show (y : Int) - 1 = ((y - 1 : Nat) : Int) by omega, w32' _ (by omega)]
      have hand : bAnd .u32 (b[0] : Int) ((y - 1 : Nat) : Int) = ((b[0] % y : Nat) : Int) := by
        rw [bAnd_u32 hx0 (by omega), hy, and_low]
      have hlt : b[0] % y < 4294967296 := Nat.lt_of_le_of_lt (Nat.mod_le _ _) hx0
      obtain ⟨Z, hZ⟩ : ∃ Z, Z = b[0] % y := ⟨_, rfl⟩
      rw [← hZ] at hand hlt
      have hw3 : IntKind.u32.wrap (Z : Int) = (Z : Int) := w32' _ hlt
      have hmod : (val a % 2 ^ m == 0) = !(val (a.take k) != 0 || Z != 0) := by
        have := shr_mod ha m
        rw [← hQ, ← hy] at this
        have hat : at' a k = b[0] := by simp [at', hb, hQa']
        rw [hat, ← hZ] at this
        rw [this]
        by_cases g1 : val (a.take k) = 0
        · by_cases g2 : Z = 0
          · simp [g1, g2]
          · have : 4294967296 ^ k * (Z) ≠ 0 := Nat.mul_ne_zero (Nat.pos_iff_ne_zero.1 (Nat.pow_pos (by decide))) g2
            rw [g1, Nat.zero_add, bne, bne, beq_false_of_ne this, beq_false_of_ne g2]; rfl
        · have : val (a.take k) + 4294967296 ^ k * (Z) ≠ 0 := by omega
          rw [bne, bne, beq_false_of_ne this, beq_false_of_ne g1]; rfl
      have hae : a.isEmpty = false := by cases a with | nil => simp at hQa' | cons => rfl
      have hsl : List.take (a.length - k) (List.drop k (List.map dg a)) = b.map dg := by
        rw [hb, List.map_drop, List.take_of_length_le (by simp)]
      have hln : ((a.length : Int) - (k : Int)).toNat = b.length := by omega
      have hnn : (0 : Int) ≤ (a.length : Int) - (k : Int) := by omega
      have hbk : ∀ j, at' b j = at' a (k + j) := fun j => by rw [hb]; exact at'_drop a k j
      obtain ⟨S, hS⟩ : ∃ S, S = m % 32 := ⟨_, rfl⟩
      have hSi : (m : Int) % 32 = (S : Int) := by omega
      have hS1 : min S 32 = S := by omega
      have hS2 : min S 64 = S := by omega
      rw [← hS] at hw hs hs2 hp hp1 hy
      have hv0 : (val (a.take k) = 0 ∧ (val (a.take k) != 0) = false) ∨ (val (a.take k) ≠ 0 ∧ (val (a.take k) != 0) = true) := by
        by_cases h : val (a.take k) = 0
        · exact .inl ⟨h, by simp [h]⟩
        · exact .inr ⟨h, by simp [h]⟩
      have rest : ∀ (lost : Bool) (T : Tm) (Q' : Exit → AState → Prop), True := fun _ _ _ => trivial
      simp [hq, hQa', sl, hae, hQa, hSi, Nat.le_of_lt hQa']
      refine draw_on [0, 0, 0, 1, 1, 0, 0, 0, 0, 0, 0, 0] orders (by decide) ?_
      rcases hv0 with ⟨hv0, hv1⟩ | ⟨hv0, hv1⟩
      all_goals
        simp [hv0, hv1, hsl, hln, hb0, hS1, hw, hw2, hand, hw3]
        try refine ⟨by omega, ?_⟩
        refine loop_on (γ := Nat × List Nat × AHeap) 80 (fun g => [(0, sl false b (cap.map (· - k))), (6, bo (val (a.take k) != 0 || Z != 0)), (8, i S), (9, .po 0 0 0), (59, i b.length), (60, i g.1)]) (fun g => g.2.2)
          (fun g => g.1 ≤ b.length ∧ g.2.1.length = g.1 ∧ Dig g.2.1 ∧ val g.2.1 = val b / 2 ^ S % 4294967296 ^ g.1 ∧ DS g.2.2 0 g.2.1) (fun g => b.length - g.1)
          (0, [], _) ⟨Nat.zero_le _, rfl, dig_nil, by simp [val, Nat.mod_one], .nil rfl⟩ (Wk.lst (by simp [sl, hbl, hv0, hv1]) (by simp)) ?_
        rintro ⟨j, l, σ⟩ ⟨hj, hlen, hd, hv, hD⟩ L2 hL2
        simp only at hj hlen hd hv hD
        by_cases hjb : j < b.length
        · simp [hjb]
          refine acall_by (digit_ctr false b (cap.map (· - k)) j hbd) (by simp [sl]) ?_
          rintro _ rfl
          have hw1 : IntKind.i64.wrap ((j : Int) + 1) = ((j + 1 : Nat) : Int) := w64 _ (by omega) (by omega)
          obtain ⟨j1, hj1⟩ : ∃ j1, j1 = j + 1 := ⟨_, rfl⟩
          rw [← hj1] at hw1
          simp [hw1]
          refine acall_by (digit_ctr false b (cap.map (· - k)) j1 hbd) (by simp [sl]) ?_
          rintro _ rfl
          have hst := shr_step (s := S) hbd (by omega) hlen hv
          rw [← hj1] at hst
          have d1 := at'_lt hbd j
          have d2 := at'_lt hbd j1
          have w1 : IntKind.u64.wrap ((at' b j1 : Int) * 4294967296) = ((at' b j1 * 4294967296 : Nat) : Int) := by rw [wrap64u]; omega
          have w2 : bOr .u64 (at' b j) ((at' b j1 * 4294967296 : Nat) : Int) = ((at' b j + 4294967296 * at' b j1 : Nat) : Int) := by
            rw [bOr_u64 (by omega) (by omega), Nat.or_comm, or_add d1, Nat.add_comm, Nat.mul_comm (at' b j1)]
          obtain ⟨X, hX⟩ : ∃ X, X = (at' b j + 4294967296 * at' b j1) / 2 ^ S := ⟨_, rfl⟩
          have w3 := wu (at' b j + 4294967296 * at' b j1) (by omega)
          have w4 : (((at' b j + 4294967296 * at' b j1 : Nat) : Int)).fdiv ((2 : Int) ^ S) = (X : Int) := by
            have e : (2 : Int) ^ S = ((2 ^ S : Nat) : Int) := by simp
            rw [e, fdiv_nat, hX]
          have hXl : X < 18446744073709551616 := by rw [hX]; exact Nat.lt_of_le_of_lt (Nat.div_le_self _ _) (by omega)
          have w5 : bAnd .u64 (X : Int) 4294967295 = ((X % 4294967296 : Nat) : Int) := by
            have h := bAnd_u64 (x := X) (y := 4294967295) hXl (by decide)
            rw [and_mask] at h
            exact h
          have w6 := wu (X % 4294967296) (by omega)
          simp [hS2]
          rw [w1, w2, w3, w4, w5, w6]
          refine lay_call hD (by omega) fun σ' hD' => ?_
          simp [← hj1]
          rw [Nat.mod_mod] at hD'
          rw [← hX] at hst
          exact hL2 (j1, l ++ [X % 4294967296], σ') _ _ ⟨by show j1 ≤ _; omega, by simp [hlen, hj1], dig_snoc hd _, by rw [hj1] at hst ⊢; exact hst, hD'⟩ (Wk.lst (by simp [sl, hw1, hj1]) (by simp)) (by show _ - j1 < _ - j; omega)
        · have : j = b.length := by omega
          subst this
          simp
          refine number_call hD.dn (by omega) fun r σ2 hr => ?_
          obtain ⟨nl2, cap2, hr⟩ := hr
          have hval : val l = val a / 2 ^ m := by
            rw [hv, shr_fin ha, ← hQ, ← hb, hS]
            refine Nat.mod_eq_of_lt (Nat.lt_of_le_of_lt (Nat.div_le_self _ _) (val_lt hbd))
          rw [trim_ofN hd, hval] at hr
          simp
          refine hK _ _ (.tup [sl nl2 (ofN (val a / 2 ^ m)) cap2, bo (val a % 2 ^ m == 0)]) (.tup _ _ rfl fun j hj => ?_) ((hP _).2 ⟨_, _, rfl⟩)
          match j with
          | 0 => exact hr
          | 1 => exact (by rw [hmod]; simp [hv0, hv1])
end Go.Proofs.Nt
/- The naturals: slices.Insert at the front; Mul. -/
set_option linter.unusedVariables false
set_option maxRecDepth 20000
set_option linter.unusedSimpArgs false
namespace Go.Proofs.Nt
open Go Go.Proofs Go.Proofs.Va

/-- A row that nobody writes and a block of the call's own share nothing. -/
theorem overlaps_call {n j v' n' off : Nat} {nl : Bool} {cs : List AV} {k1 k : Nat} {σ : AHeap} {b' : ABlk} {K : AV → AHeap → Prop} (hb' : σ[j]? = some b') (ho' : b'.kind = .own) (hv' : b'.ver = v') (hcs : 0 < cs.length) (hk : 0 < k)
    (h : K (bo false) σ) : ACall Tryz.prog 126 [.pl nl cs n (some k1), .so j v' off n' 1 (some k)] σ K := by
  intro w0 ρ fz w vs hh hr
  obtain ⟨hl, hR⟩ := hr
  have h0 := hR 0 (by simp)
  have h1 := hR 1 (by simp)
  obtain ⟨a1, c1, bb, oo, us, e1, _, _, _, _, ha1, hfz, _, _, _, hfr⟩ := R.pl_inv' h0
  obtain ⟨_, q2, _, _, h1⟩ := R.so_inv h1
  rw [hb'] at q2; cases q2
  obtain ⟨a2, c2, e2, l2, p2, g2, cells2, el2, fr2, r2, s2⟩ := h1 hv' (by rw [ho']; decide)
  have hc2 := p2 k rfl
  have ha2 := g2 (by omega)
  have ha1 := ha1 hcs
  subst ha1
  obtain ⟨cells1, el1, w1⟩ := hfr _ rfl hcs
  obtain ⟨_, _, _, q3, q4, q5, _⟩ := hh.blk j b' hb' (by rw [ho']; decide)
  have hne : bb ≠ (ρ j).1 := fun hh' => q5 ho' (hh' ▸ hfz hcs)
  have hvs : vs = #[.slice (some ⟨bb, oo, none⟩) n c1, .slice (some a2) n' c2] := by
    apply Array.ext
    · simpa using hl
    · intro q hq1 hq2
      have : q = 0 ∨ q = 1 := by simp at hl; omega
      rcases this with rfl | rfl
      · simpa [Array.getD, hq1] using e1
      · simpa [Array.getD, hq1] using e2
  have hrun : (callFunc 126 vs).run Tryz.prog w = .ok (.value (.bool false)) w := by
    rw [hvs, run_callFunc_extern Tryz.func126 (by kernel_rfl) (by kernel_rfl) (by kernel_rfl) (e := Extern.SlicesOverlaps.overlaps #[46, 46] #[4]) (by kernel_rfl),
      Lib.run_overlaps_apart w 46 4 51 und22 1 (fun w => run_szT sz44 w) ⟨bb, oo, none⟩ a2 n c1 n' c2 (by rw [ha2]; exact hne) el1 el2 cells1.size cells2.size (by simp [World.shape?, w1]) (by rw [ha2]; simp [World.shape?, r2]) (by omega) (by simp [World.frozen?, w1]) (by simp [World.frozen?, w1])]
    rfl
  exact .inr ⟨.bool false, w, bo false, σ, ρ, fz, hrun, h, hh, .pure _ _ (.v _), Ev.refl _ _ _ _ (Nat.le_refl _)⟩

/-- What Clone gives and Insert takes. -/
inductive Cl (σ : AHeap) (n0 : Nat) : AV → List Nat → Prop
  | nil : Cl σ n0 (.pl true [] 0 (some 0)) []
  | e (j v : Nat) : σ[j]? = some ⟨.own, v, []⟩ → n0 ≤ j → Cl σ n0 (.so j v 0 0 1 none) []
  | sc (j v c : Nat) (l : List Nat) : σ[j]? = some ⟨.own, v, l.map dg ++ List.replicate (c - l.length) (dg 0)⟩ → l.length ≤ c → l ≠ [] → n0 ≤ j → Cl σ n0 (.so j v 0 l.length 1 (some c)) l

theorem clone_cl {σ : AHeap} {nl : Bool} {a : List Nat} {cap : Option Nat} {K : AV → AHeap → Prop} (ha : a.length ≤ 1000000)
    (hK : ∀ r more, Cl (σ ++ more) σ.length r a → K r (σ ++ more)) : ACall Tryz.prog 108 [sl nl a cap] σ K := by
  refine acall_in Tryz.func108 rfl (by kernel_rfl) rfl ?_
  unfold sl
  by_cases h0 : a = []
  · subst h0
    cases nl
    · simp [Tryz.f108]
      have := hK (.so σ.length 1 0 0 1 none) ([⟨.own, 1, []⟩] : AHeap) (.e _ _ (by simp) (Nat.le_refl _))
      simpa using this
    · simp [Tryz.f108]
      have := hK (.pl true [] 0 (some 0)) ([] : AHeap) .nil
      simpa using this
  · have hp : 0 < a.length := List.length_pos_iff.2 h0
    simp [Tryz.f108, h0]
    refine ⟨by omega, fun c hc => ?_⟩
    have := hK (.so (σ.length + 1) 0 0 a.length 1 (some c)) ([⟨.own, 0, []⟩, ⟨.own, 0, a.map dg ++ List.replicate (c - a.length) (dg 0)⟩] : AHeap) (.sc _ _ _ _ (by simp) hc h0 (by omega))
    simpa using this

theorem take_tail {X Z : List AV} (h : 0 < X.length) : (X.take 1 ++ Z).tail = Z := by
  cases X with
  | nil => simp at h
  | cons x X => simp
set_option maxHeartbeats 1000000 in
theorem insert_call {σ : AHeap} {r : AV} {a : List Nat} {N : Nat} {K : AV → AHeap → Prop} (hr : Cl σ N r a) (ha : a.length ≤ 1000000) (hN : N ≤ σ.length)
    (hK : ∀ r' σ', Lie σ' r' (0 :: a) → (∀ j v n c, r' = .so j v 0 n 1 c → N ≤ j) → Same N σ σ' → K r' σ') : ACall Tryz.prog 107 [r, i 0, .pl false [dg 0] 1 (some 1)] σ K := by
  refine acall_in Tryz.func107 rfl (by kernel_rfl) rfl ?_
  have w1 : IntKind.i64.wrap 1 = 1 := w64 _ (by omega) (by omega)
  have bnd : ∀ (j v n : Nat) (c : Option Nat), N ≤ j → ∀ j' v' n' c', AV.so j v 0 n 1 c = .so j' v' 0 n' 1 c' → N ≤ j' := fun j v n c h j' v' n' c' e => by cases e; exact h
  cases hr with
  | nil =>
    simp [Tryz.f107]
    have := hK (.so σ.length 0 0 1 1 none) (σ ++ ([⟨.own, 0, [dg 0]⟩] : AHeap)) (.so _ _ none [] rfl (by simp)) (bnd _ _ _ _ hN) (same_app hN)
    simpa using this
  | e j v hj hNj =>
    have hlt := (List.getElem?_eq_some_iff.1 hj).1
    simp [Tryz.f107, hj]
    refine hK _ _ (.so j (v + 1) none [] rfl (by rw [List.getElem?_set_self hlt]; simp)) (bnd _ _ _ _ hNj) ⟨hN, by simpa using hN, fun k hk => ?_⟩
    rw [List.getElem?_set_ne (by omega)]
  | sc j v c l hj hc h0 hNj =>
    have hlt := (List.getElem?_eq_some_iff.1 hj).1
    have hp : 0 < a.length := List.length_pos_iff.2 h0
    have hp' : ¬ (0 = a.length) := by omega
    obtain ⟨m, hm⟩ : ∃ m, m = a.length + 1 := ⟨_, rfl⟩
    have hw : IntKind.i64.wrap ((a.length : Int) + 1) = (m : Int) := by rw [w64 _ (by omega) (by omega)]; omega
    have hwm : IntKind.i64.wrap (m : Int) = (m : Int) := w64 _ (by omega) (by omega)
    have hm1 : 1 ≤ m := by omega
    by_cases hcm : c < m
    · simp [Tryz.f107, hj, h0, hp', hw, hcm, hwm, hc]
      refine ⟨by omega, fun c' hc' => ⟨hc', ?_⟩⟩
      have h1m : (1 : Int) ≤ (m : Int) := by omega
      have hmt : ((m : Int) - 1).toNat = a.length := by omega
      refine draw_on [0, 0, 0, 0, 1, 0, 0, 1, 4] orders (by decide) ?_
      simp [List.getElem?_append_left hlt, hj, w1, h1m, hmt, hm1, hc]
      refine ⟨by omega, by omega, by omega, ?_⟩
      refine hK _ _ (.so σ.length 0 (some c') (List.replicate (c' - m) (dg 0)) (by simp [hm]) ?_) (bnd _ _ _ _ hN) (same_app hN)
      have e1 : List.take a.length (List.map dg a) = List.map dg a := List.take_of_length_le (by simp)
      have e2 : 1 + a.length = m := by omega
      have e3 : List.drop m (AV.v (Value.int IntKind.u32 0) :: List.replicate (m + (c' - m) - 1) (AV.v (Value.int IntKind.u32 0))) = List.replicate (c' - m) (dg 0) := by
        rw [← List.replicate_succ, List.drop_replicate]
        show List.replicate _ (dg 0) = _
        congr 1; omega
      rw [e1, e2, e3]
      simp
    · have hcm' : m ≤ c := by omega
      have hs1 : ∀ (x : ABlk), (List.set σ j x)[j]? = some x := fun x => by rw [List.getElem?_set_self hlt]
      simp [Tryz.f107, hj, h0, hp', hw, hcm, hcm', w1, hc, hm1]
      refine overlaps_call hj rfl rfl (by simp) (by omega) ?_
      simp
      refine draw_on [0, 0, 0, 0, 1, 0, 0, 1, 4] orders (by decide) ?_
      simp [hj, w1, hm1, hcm', hc, hs1, -getElem?_pos]
      have e1 : List.take (m - 1) (List.take m (List.map dg a ++ List.replicate (c - a.length) (dg 0))) = List.map dg a := by
        rw [List.take_take, show min (m - 1) m = a.length by omega, List.take_append_of_le_length (by simp), List.take_of_length_le (by simp)]
      have e2 := take_tail (X := List.map dg a ++ List.replicate (c - a.length) (dg 0)) (Z := List.take (m - 1) (List.take m (List.map dg a ++ List.replicate (c - a.length) (dg 0))) ++ List.drop m (List.map dg a ++ List.replicate (c - a.length) (dg 0))) (by simp; omega)
      have ed : dg 0 = AV.v (Value.int IntKind.u32 0) := rfl
      refine ⟨by omega, by omega, hK _ _ (.so j v (some c) (List.drop m (List.map dg a ++ List.replicate (c - a.length) (dg 0))) (by simp [hm]) ?_) (bnd _ _ _ _ hNj) ⟨hN, by simpa using hN, fun k hk => ?_⟩⟩
      · rw [List.getElem?_set_self hlt]
        rw [e1] at e2
        rw [ed] at e1 e2 ⊢
        rw [e1, e2]; rfl
      · rw [List.getElem?_set_ne (by omega)]

/-! ### Mul -/
theorem call_lie2 {g : FuncId} {σ : AHeap} {r y : AV} {l : List Nat} {N : Nat} {Post : AV → Prop} {K : AV → AHeap → Prop} (h : Lie σ r l) (hN : ∀ j v n c, r = .so j v 0 n 1 c → N ≤ j) (hNσ : N ≤ σ.length) (hy : Pu y) (hc : ∀ nl cap, Ctr Tryz.prog g [sl nl l cap, y] Post) (hK : ∀ r σ', Post r → Same N σ σ' → K r σ') : ACall Tryz.prog g [r, y] σ K := by
  cases h with
  | nil h1 h2 => subst h1; subst h2; exact acall_by (hc true (some 0)) (by simp [Nt.sl, hy]) fun r hr => hK r _ hr (Same.refl hNσ)
  | so j v cap more h1 hj =>
    subst h1
    have hjN := hN _ _ _ _ rfl
    refine acall_froze [j] (hc false cap) rfl (fun k hk => ?_) fun r hr => hK r _ hr ⟨hNσ, by rw [froze_length]; exact hNσ, fun i hi => ?_⟩
    · simp at hk
      have : k = 0 ∨ k = 1 := by omega
      rcases this with rfl | rfl
      · exact isSl_so hj (fun h => by cases h) rfl (by simp) (fun m hm => by simp [dgs_get hm]) rfl (by simp)
      · exact .same _ hy
    · rw [froze_get]
      cases σ[i]? with
      | none => rfl
      | some b => simp; omega

theorem mul_ctr (nl nl' : Bool) (a b : List Nat) (cap cap' : Option Nat) (ha : Dig a) (hb : Dig b) (hl : a.length ≤ 40000) (hl' : b.length ≤ 40000) : Ctr Tryz.prog 75 [sl nl a cap, sl nl' b cap'] (Told (ofN (val a * val b))) := by
  refine ctr_in Tryz.func75 rfl (by kernel_rfl) rfl fun K hK => ?_
  have hcb : cellsOf (sl nl' b cap') = some [sl nl' b cap'] := rfl
  simp [Tryz.f75, hcb, -cellsOf]
  refine backward_call rfl ?_
  simp
  refine range_on (lb := [.po 2 0 0]) (by simp) Tryz.func125 rfl (by kernel_rfl) ?_
  refine back_iter_pl (nl := nl) (a := a) (cap := cap) (by omega) (fun k σ' => 3 ≤ σ'.length ∧ σ'[0]? = some ⟨.own, 0, [sl nl' b cap']⟩ ∧ (∃ n2 c2, σ'[1]? = some ⟨.own, 0, [sl n2 (ofN (val (a.drop (a.length - k)) * val b)) c2]⟩) ∧ σ'[2]? = some ⟨.own, 0, [sl nl a cap]⟩) ?_ ?_ ?_ ?_
  · refine ⟨by simp, by simp, ⟨true, some 0, ?_⟩, by simp [sl]⟩
    simp [sl, val, ofN_zero]
  · rintro k σ' ⟨_, _, _, h⟩; exact h
  · rintro k σ0 hk ⟨h3, g0, ⟨n2, c2, g1⟩, g2⟩ Kt hKt
    obtain ⟨m, hm⟩ : ∃ m, m = a.length - 1 - k := ⟨_, rfl⟩
    have hml : m < a.length := by omega
    have hx := ha.at hml
    have e1 : a.length - k = m + 1 := by omega
    have e2 : a.length - (k + 1) = m := by omega
    rw [e2] at hKt
    rw [e1] at g1
    simp only [← hm]
    obtain ⟨S, hS⟩ : ∃ S, S = val (a.drop (m + 1)) * val b := ⟨_, rfl⟩
    rw [← hS] at g1
    have hSl : (ofN S).length ≤ 90000 := by
      refine ofN_le (j := (a.drop (m + 1)).length + b.length) ?_ (by simp; omega)
      rw [Nat.pow_add, hS]
      exact Nat.mul_lt_mul'' (val_lt (dig_drop ha (m + 1))) (val_lt hb)
    have hw : IntKind.u64.wrap (a[m] : Int) = (a[m] : Int) := wu _ (by omega)
    have hstep : val (0 :: ofN S) + val (ofN (val b * a[m])) = val (a.drop m) * val b := by
      rw [val, val_ofN, val_ofN, hS, List.drop_eq_getElem_cons hml, val, Nat.add_mul, Nat.mul_comm (val b), Nat.zero_add, Nat.add_comm, Nat.mul_assoc]
    have hd0 : Dig (0 :: ofN S) := fun x hx => by
      rcases List.mem_cons.1 hx with rfl | hx
      · decide
      · exact dig_ofN _ x hx
    have hbl : (ofN (val b * a[m])).length ≤ 90000 := by
      refine ofN_le (j := b.length + 1) ?_ (by omega)
      rw [Nat.pow_succ]
      exact Nat.mul_lt_mul'' (val_lt hb) hx
    have gl : ∀ σ', Same σ0.length σ0 σ' → σ'[0]? = some ⟨.own, 0, [sl nl' b cap']⟩ ∧ σ'[1]? = some ⟨.own, 0, [sl n2 (ofN S) c2]⟩ ∧ σ'[2]? = some ⟨.own, 0, [sl nl a cap]⟩ := fun σ' h =>
      ⟨(h.eq 0 (by omega)).trans g0, (h.eq 1 (by omega)).trans g1, (h.eq 2 (by omega)).trans g2⟩
    simp [bodyW]
    refine draw_on [1, 3, 0, 3, 1, 0, 0, 3, 3, 4] orders (by decide) ?_
    have l0 : 0 < σ0.length := by omega
    have l1 : 1 < σ0.length := by omega
    simp [g1, l1, -getElem?_pos]
    refine clone_cl (a := ofN S) (by omega) fun r more' hr => ?_
    simp
    refine insert_call (N := σ0.length) hr (by omega) (by simp) fun r' σ' hr' hN' hS' => ?_
    have hSS : Same σ0.length σ0 σ' := (same_app (Nat.le_refl _)).trans hS'
    obtain ⟨q0, q1, q2⟩ := gl σ' hSS
    simp [hS', l0, q0, hw, -getElem?_pos]
    refine acall_by (scale_ctr nl' b cap' a[m] hb (by omega) (by omega)) (by simp [sl]) ?_
    rintro _ ⟨n3, c3, rfl⟩
    simp [hSS.lo']
    refine call_lie2 hr' hN' hSS.lo' (by simp [sl]) (fun nl4 cap4 => add_ctr nl4 n3 _ _ cap4 c3 hd0 (dig_ofN _) (by simp; omega) (by omega)) ?_
    rintro _ σ4 ⟨n5, c5, rfl⟩ hS4
    obtain ⟨p0, p1, p2⟩ := gl σ4 (hSS.trans hS4)
    rw [hstep]
    have hcs : cellsOf (sl n5 (ofN (val (a.drop m) * val b)) c5) = some [sl n5 (ofN (val (a.drop m) * val b)) c5] := rfl
    simp [hS4, p1, -getElem?_pos, hcs, -cellsOf]
    refine hKt _ ⟨by have := hS4.lo'; rw [List.length_set]; omega, ?_, ⟨n5, c5, ?_⟩, ?_⟩
    · rw [List.getElem?_set_ne (by omega)]; exact p0
    · rw [List.getElem?_set_self (by have := hS4.lo'; omega)]
    · rw [List.getElem?_set_ne (by omega)]; exact p2
  · rintro σ0 ⟨h3, g0, ⟨n2, c2, g1⟩, g2⟩
    simp [g1]
    refine hK _ _ _ (.same _ (by simp [sl])) ⟨n2, c2, rfl⟩
end Go.Proofs.Nt
/- The naturals: the document's Mul. -/
set_option linter.unusedVariables false
set_option maxRecDepth 20000
set_option linter.unusedSimpArgs false
namespace Go.Proofs.Nt
open Go Go.Proofs Go.Proofs.Va

end Go.Proofs.Nt
/- The naturals: share, Div. -/
set_option linter.unusedVariables false
set_option maxRecDepth 20000
set_option linter.unusedSimpArgs false
namespace Go.Proofs.Nt
open Go Go.Proofs Go.Proofs.Va

theorem share_ctr (nl nl' : Bool) (a b : List Nat) (cap cap' : Option Nat) (ha : Dig a) (hb : Dig b) (hl : a.length ≤ 90000) (hl' : b.length ≤ 90000) (hlt : val a < 4294967296 * val b) : Ctr Tryz.prog 141 [sl nl a cap, sl nl' b cap'] (fun r => r = u (val a / val b)) := by
  refine ctr_val Tryz.func141 rfl (by kernel_rfl) rfl (by simp) fun K hK => ?_
  have hb0 : 0 < val b := by
    rcases Nat.eq_zero_or_pos (val b) with h | h
    · rw [h] at hlt; omega
    · exact h
  simp [Tryz.f141]
  refine loop_on (γ := Nat × Nat) 25 (fun g => [(0, sl nl a cap), (1, sl nl' b cap'), (5, u g.1), (6, u g.2)]) (fun _ => [])
    (fun g => g.1 < g.2 ∧ g.2 ≤ 4294967296 ∧ val b * g.1 ≤ val a ∧ val a < val b * g.2) (fun g => g.2 - g.1)
    (0, 4294967296) ⟨by decide, Nat.le_refl _, by simp, by rw [Nat.mul_comm]; exact hlt⟩ (Wk.lst (by simp [sl]) (by simp)) ?_
  rintro ⟨lo, hi⟩ ⟨h1, h2, h3, h4⟩ L hL
  simp only at h1 h2 h3 h4
  have hw1 : IntKind.u64.wrap ((hi : Int) - (lo : Int)) = ((hi - lo : Nat) : Int) := by rw [wrap64u]; omega
  obtain ⟨d, hd⟩ : ∃ d, d = hi - lo := ⟨_, rfl⟩
  rw [← hd] at hw1
  by_cases hd1 : 1 < d
  · obtain ⟨m, hm⟩ : ∃ m, m = (lo + hi) / 2 := ⟨_, rfl⟩
    have hw2 : IntKind.u64.wrap (IntKind.u64.wrap ((lo : Int) + (hi : Int)) / 2) = (m : Int) := by rw [wrap64u, wrap64u]; omega
    have hw3 : IntKind.u64.wrap ((lo : Int) + (hi : Int)) = ((lo + hi : Nat) : Int) := by rw [wrap64u]; omega
    have hw4 : IntKind.u64.wrap ((((lo + hi : Nat) : Int)).tdiv 2) = (m : Int) := by
      rw [Int.tdiv_eq_ediv_of_nonneg (by omega), wrap64u]; omega
    simp [hw1, hd1]
    rw [hw3, hw4]
    refine acall_by (scale_ctr nl' b cap' m hb (by omega) (by omega)) (by simp [sl]) ?_
    rintro _ ⟨n2, c2, rfl⟩
    simp
    refine acall_by (cmp_ctr n2 nl (ofN (val b * m)) a c2 cap (dig_ofN _) ha ?_ (by omega)) (by simp [sl]) ?_
    · refine ofN_le (j := b.length + 1) ?_ (by omega)
      rw [Nat.pow_succ]
      exact Nat.mul_lt_mul'' (val_lt hb) (show m < 4294967296 by omega)
    rintro _ rfl
    rw [val_ofN, cmp3_nat]
    by_cases hle : val b * m ≤ val a
    · have e : ((if val b * m < val a then -1 else if val a < val b * m then 1 else 0 : Int) ≤ 0) := by split; omega; split <;> omega
      simp [e]
      exact hL (m, hi) _ _ ⟨by show m < hi; omega, h2, hle, h4⟩ (Wk.lst (by simp [sl]) (by simp)) (by show hi - m < hi - lo; omega)
    · have e : ¬ ((if val b * m < val a then -1 else if val a < val b * m then 1 else 0 : Int) ≤ 0) := by rw [if_neg (by omega), if_pos (by omega)]; decide
      simp [e]
      exact hL (lo, m) _ _ ⟨by show lo < m; omega, by show m ≤ _; omega, h3, by show _ < val b * m; omega⟩ (Wk.lst (by simp [sl]) (by simp)) (by show m - lo < hi - lo; omega)
  · have e : val a / val b = lo := by
      have : hi = lo + 1 := by omega
      subst this
      refine Nat.div_eq_of_lt_le (by rw [Nat.mul_comm]; exact h3) (by rw [Nat.mul_comm]; exact h4)
    rw [e] at hK
    simp [hw1, hd1]
    exact hK _

/-- Some blocks of the call's own are written no more from here on. -/
theorem aw_froze {P : Program} {n0 : Nat} {top : Bool} {c : Code} {Q : Exit → AState → Prop} {t : List AV} {σ : AHeap} (ids : List Nat) (h : AW P n0 top c Q ⟨t, froze σ ids⟩) : AW P n0 top c Q ⟨t, σ⟩ := by
  intro F n hF ht w0 nb ρ fz a w hs hn hb1 hb2
  obtain ⟨hh1, hE1⟩ := hs.h.froze ids
  refine wpIn_mono (h F n hF ht w0 nb ρ _ a w ⟨hh1, hs.t.ev' (n0 := σ.length) hE1, hs.m⟩ (by show n0 ≤ (froze σ ids).length; rw [froze_length]; exact hn) hb1 hb2) ?_
  intro e a' w' hq
  exact hq.from (hE1.lower hn)
theorem froze_ne {σ : AHeap} {ids : List Nat} {k : Nat} (h : k ∉ ids) : (froze σ ids)[k]? = σ[k]? := by
  rw [froze_get]
  cases σ[k]? with
  | none => rfl
  | some b => simp [h]
theorem froze_at {σ : AHeap} {k : Nat} {v : Nat} {cs : List AV} (h : σ[k]? = some ⟨.own, v, cs⟩) : (froze σ [k])[k]? = some ⟨.ro, v, cs⟩ := by
  rw [froze_get, h]; simp
theorem froze_self {σ : AHeap} {k : Nat} {v : Nat} {cs : List AV} (h : σ[k]? = some ⟨.ro, v, cs⟩) : froze σ [k] = σ := by
  apply List.ext_getElem?
  intro i
  by_cases hi : i = k
  · subst hi; rw [froze_get, h]; simp
  · exact froze_ne (by simpa using hi)

/-! ### Div -/
theorem acall_freeze {P : Program} {g : FuncId} {args args' : List AV} {σ : AHeap} {K : AV → AHeap → Prop} (ids : List Nat) (h : ACall P g args' (froze σ ids) K) (hl : args'.length = args.length)
    (hp : ∀ j (hj : j < args'.length), args.getD j .any = args'[j] ∨ Pur σ (· ∈ ids) (args.getD j .any) args'[j]) : ACall P g args σ K := by
  intro w0 ρ fz w vs hh hr
  obtain ⟨hh1, hE1⟩ := hh.froze ids
  have hargs : RL ρ (froze σ ids) (fzS ρ σ fz (· ∈ ids)) w args' vs := ⟨by rw [hr.1, hl], fun j hj => by
    have hR : R ρ σ fz w (args.getD j .any) (vs.getD j undef) := by rw [getD_eq (by omega)]; exact hr.2 j (by omega)
    rcases hp j hj with e | e
    · rw [← e]; exact hR.ev hE1 hR.sc
    · exact .pure _ _ (e.ok hh hR)⟩
  rcases h w0 ρ _ w vs hh1 hargs with ⟨h1, h2⟩ | ⟨v, w', r, σ', ρ', fz', h1, h2, h3, h4, h5⟩
  · refine .inl ⟨h1, h2.mono ?_⟩
    rintro e w' ⟨v, r, σ', ρ', fz', rfl, hK, hH, hR, hE⟩
    exact ⟨v, r, σ', ρ', fz', rfl, hK, hH, hR, hE1.trans (hE.lower (by rw [froze_length]; exact Nat.le_refl _))⟩
  · exact .inr ⟨v, w', r, σ', ρ', fz', h1, h2, h3, h4, hE1.trans (h5.lower (by rw [froze_length]; exact Nat.le_refl _))⟩

theorem Cl.more {σ more : AHeap} {N : Nat} {r : AV} {a : List Nat} (h : Cl σ N r a) : Cl (σ ++ more) N r a := by
  cases h with
  | nil => exact .nil
  | e j v h1 h2 => exact .e j v (by rw [List.getElem?_append_left (List.getElem?_eq_some_iff.1 h1).1]; exact h1) h2
  | sc j v c l h1 h2 h3 h4 => exact .sc j v c _ (by rw [List.getElem?_append_left (List.getElem?_eq_some_iff.1 h1).1]; exact h1) h2 h3 h4

theorem insert_call2 {σ : AHeap} {r : AV} {a : List Nat} {N : Nat} {K : AV → AHeap → Prop} (hr : Cl σ N r a) (ha : a.length ≤ 1000000) (hN : N ≤ σ.length)
    (hK : ∀ r' σ', Lie σ' r' (0 :: a) → (∀ j v n c, r' = .so j v 0 n 1 c → N ≤ j) → Same N σ σ' → K r' σ') : ACall Tryz.prog 107 [r, i 0, .so σ.length 0 0 1 1 (some 1)] (σ ++ ([⟨.own, 0, [dg 0]⟩] : AHeap)) K := by
  refine acall_freeze [σ.length] (args' := [r, i 0, .pl false [dg 0] 1 (some 1)]) ?_ rfl ?_
  · have e : froze (σ ++ ([⟨.own, 0, [dg 0]⟩] : AHeap)) [σ.length] = σ ++ ([⟨.ro, 0, [dg 0]⟩] : AHeap) := by
      apply List.ext_getElem?
      intro k
      rw [froze_get]
      rcases Nat.lt_or_ge k σ.length with h1 | h1
      · rw [List.getElem?_append_left h1, List.getElem?_append_left h1]
        cases σ[k]? with
        | none => rfl
        | some b => simp; omega
      · rw [List.getElem?_append_right h1, List.getElem?_append_right h1]
        rcases Nat.eq_or_lt_of_le h1 with h2 | h2
        · subst h2; simp
        · have : k - σ.length = (k - σ.length - 1) + 1 := by omega
          rw [this]; simp
    rw [e]
    exact insert_call hr.more ha (by simp; omega) fun r' σ' h1 h2 h3 => hK r' σ' h1 h2 ((same_app hN).trans h3)
  · intro j hj
    simp at hj
    have : j = 0 ∨ j = 1 ∨ j = 2 := by omega
    rcases this with rfl | rfl | rfl
    · exact .inl rfl
    · exact .inl rfl
    · refine .inr ?_
      exact isSl_so (j := σ.length) (off := 0) (a := [0]) (b := ⟨.own, 0, [dg 0]⟩) (by simp) (fun h => by cases h) rfl (by simp) (fun m hm => by simp at hm; subst hm; simp) rfl (by simp)

def divPost (m n : Nat) (r : AV) : Prop := if n = 0 then r = .tup [.pl true [] 0 (some 0), .pl true [] 0 (some 0), bo false] else ∃ n1 c1 n2 c2, r = .tup [sl n1 (ofN (m / n)) c1, sl n2 (ofN (m % n)) c2, bo true]

theorem div_step (D n x : Nat) (hn : 0 < n) : (4294967296 * (D % n) + x) / n + 4294967296 * (D / n) = (x + 4294967296 * D) / n ∧ (4294967296 * (D % n) + x) % n = (x + 4294967296 * D) % n := by
  have h := Nat.mod_add_div D n
  have e : x + 4294967296 * D = (4294967296 * (D % n) + x) + n * (4294967296 * (D / n)) := by
    conv => lhs; rw [← h]
    rw [Nat.mul_add, Nat.mul_left_comm n]; omega
  rw [e, Nat.add_mul_div_left _ _ hn, Nat.add_mul_mod_self_left]
  exact ⟨rfl, rfl⟩

theorem div_ctr (nl nl' : Bool) (a b : List Nat) (cap cap' : Option Nat) (ha : Dig a) (hb : Dig b) (hl : a.length ≤ 40000) (hl' : b.length ≤ 40000) : Ctr Tryz.prog 134 [sl nl a cap, sl nl' b cap'] (divPost (val a) (val b)) := by
  refine ctr_in Tryz.func134 rfl (by kernel_rfl) rfl fun K hK => ?_
  have hc : ∀ n l c, cellsOf (sl n l c) = some [sl n l c] := fun _ _ _ => rfl
  simp [Tryz.f134, hc, -cellsOf]
  refine acall_by (trim_ctr nl' b cap' hb (by omega)) (by simp [sl]) ?_
  rintro _ ⟨n1, c1, rfl⟩
  have hbl : (trimL b).length ≤ 40000 := Nat.le_trans (trim_len b) hl'
  rw [trim_ofN hb] at hbl ⊢
  simp [hc, -cellsOf]
  by_cases hb0 : ofN (val b) = []
  · have hv0 := ofN_nil.1 hb0
    simp [sl, hb0]
    exact hK _ _ _ (.same _ (pu_tup (by simp))) (by rw [divPost, if_pos hv0]; rfl)
  · have hv0 : val b ≠ 0 := fun h => hb0 (ofN_nil.2 h)
    have hlen0 : ¬ (ofN (val b)).length = 0 := fun h => hb0 (List.eq_nil_of_length_eq_zero h)
    have hlb : ∀ k σ (K : AV → AHeap → Prop), aLen Tryz.prog 47 (sl k (ofN (val b)) c1) σ K = K (i (ofN (val b)).length) σ := fun k σ K => by simp [sl]
    simp [hlb, hb0]
    refine acall_by (trim_ctr nl a cap ha (by omega)) (by simp [sl]) ?_
    rintro _ ⟨n2, c2, rfl⟩
    have hal : (trimL a).length ≤ 40000 := Nat.le_trans (trim_len a) hl
    rw [trim_ofN ha] at hal ⊢
    have had := dig_ofN (val a)
    have hav := val_ofN (val a)
    generalize ofN (val a) = x at *
    have hlx : ∀ k σ (K : AV → AHeap → Prop), aLen Tryz.prog 47 (sl k x c2) σ K = K (i x.length) σ := fun k σ K => by simp [sl]
    have hc2 : ∀ i v o n z c, cellsOf (AV.so i v o n z c) = some [AV.so i v o n z c] := fun _ _ _ _ _ _ => rfl
    simp [hlx, hc, hc2, -cellsOf]
    refine ⟨by omega, ?_⟩
    refine backward_call rfl ?_
    simp
    refine range_on (lb := [.po 4 0 0]) (by simp) Tryz.func125 rfl (by kernel_rfl) ?_
    refine back_iter_pl (nl := n2) (a := x) (cap := c2) (by omega) (fun k σ' => 5 ≤ σ'.length ∧ σ'[0]? = some ⟨.own, 0, [sl n1 (ofN (val b)) c1]⟩ ∧ (∃ Q, Q.length = k ∧ Dig Q ∧ val Q = val (x.drop (x.length - k)) / val b ∧ σ'[1]? = some ⟨.own, 0, (List.replicate (x.length - k) 0 ++ Q).map dg⟩) ∧
      σ'[2]? = some ⟨.own, 0, [.so 1 0 0 x.length 1 (some x.length)]⟩ ∧ (∃ n3 c3, σ'[3]? = some ⟨.own, 0, [sl n3 (ofN (val (x.drop (x.length - k)) % val b)) c3]⟩) ∧ σ'[4]? = some ⟨.own, 0, [sl n2 x c2]⟩) ?_ ?_ ?_ ?_
    · refine ⟨by simp, by simp, ⟨[], rfl, dig_nil, by simp [val], by simp⟩, by simp, ⟨true, some 0, by simp [val, ofN_zero, sl]⟩, by simp⟩
    · rintro k σ' ⟨_, _, _, _, _, h⟩; exact h
    · rintro k σ0 hk ⟨h5, g0, ⟨Q, hQl, hQd, hQv, g1⟩, g2, ⟨n3, c3, g3⟩, g4⟩ Kt hKt
      obtain ⟨m, hm⟩ : ∃ m, m = x.length - 1 - k := ⟨_, rfl⟩
      have hml : m < x.length := by omega
      have hx := had.at hml
      have e1 : x.length - k = m + 1 := by omega
      have e2 : x.length - (k + 1) = m := by omega
      rw [e2] at hKt
      rw [e1] at g1 g3 hQv
      simp only [← hm]
      obtain ⟨D, hD⟩ : ∃ D, D = val (x.drop (m + 1)) := ⟨_, rfl⟩
      have hD' : val (x.drop m) = x[m] + 4294967296 * D := by rw [List.drop_eq_getElem_cons hml, val, hD]
      rw [← hD] at g3 hQv
      rw [hD'] at hKt
      have hn0 : 0 < val b := by omega
      obtain ⟨st1, st2⟩ := div_step D (val b) x[m] hn0
      have hmod : D % val b < val b := Nat.mod_lt _ hn0
      obtain ⟨R, hR⟩ : ∃ R, R = 4294967296 * (D % val b) + x[m] := ⟨_, rfl⟩
      rw [← hR] at st1 st2
      have hRlt : R < 4294967296 * val b := by omega
      have hRl : (ofN R).length ≤ 45000 := by
        refine ofN_le (j := b.length + 1) ?_ (by omega)
        have h1 := val_lt hb
        rw [Nat.pow_succ]
        omega
      have hDl : (ofN (D % val b)).length ≤ 45000 := by
        exact ofN_le (Nat.lt_trans hmod (val_lt hb)) (by omega)
      have gl : ∀ σ', Same σ0.length σ0 σ' → σ'[0]? = some ⟨.own, 0, [sl n1 (ofN (val b)) c1]⟩ ∧ σ'[1]? = some ⟨.own, 0, (List.replicate (m + 1) 0 ++ Q).map dg⟩ ∧ σ'[2]? = some ⟨.own, 0, [.so 1 0 0 x.length 1 (some x.length)]⟩ ∧ σ'[3]? = some ⟨.own, 0, [sl n3 (ofN (D % val b)) c3]⟩ ∧ σ'[4]? = some ⟨.own, 0, [sl n2 x c2]⟩ := fun σ' h =>
        ⟨(h.eq 0 (by omega)).trans g0, (h.eq 1 (by omega)).trans g1, (h.eq 2 (by omega)).trans g2, (h.eq 3 (by omega)).trans g3, (h.eq 4 (by omega)).trans g4⟩
      have hw : IntKind.u64.wrap (x[m] : Int) = (x[m] : Int) := wu _ (by omega)
      have hd0 : Dig (0 :: ofN (D % val b)) := fun y hy => by
        rcases List.mem_cons.1 hy with rfl | hy
        · decide
        · exact dig_ofN _ y hy
      have hv0' : val (0 :: ofN (D % val b)) + val (ofN x[m]) = R := by rw [val, val_ofN, val_ofN, hR]; omega
      have hxl : (ofN x[m]).length ≤ 2 := by rw [len_ofN]; exact Nat.lt_of_lt_of_le hx (by decide)
      simp [bodyW, g3, -getElem?_pos]
      refine clone_cl (a := ofN (D % val b)) (by omega) fun r more' hr => ?_
      have hS1 : Same σ0.length σ0 (σ0 ++ more') := same_app (Nat.le_refl _)
      generalize σ0 ++ more' = σ1 at hr hS1 ⊢
      simp
      refine insert_call2 hr (by omega) hS1.lo' fun r' σ2 hr' hN' hS2 => ?_
      have hS2' := hS1.trans hS2
      simp [hw]
      refine acall_by (from_ctr x[m] (by omega)) (by simp) ?_
      rintro _ ⟨n4, c4, rfl⟩
      simp
      refine call_lie2 hr' hN' hS2'.lo' (by simp [sl]) (fun nl5 cap5 => add_ctr nl5 n4 _ _ cap5 c4 hd0 (dig_ofN _) (by simp; omega) (by omega)) ?_
      rintro _ σ3 ⟨n5, c5, rfl⟩ hS3
      rw [hv0']
      have hS3' := hS2'.trans hS3
      have hl3 := hS3'.lo'
      obtain ⟨p0, p1, p2, p3, p4⟩ := gl σ3 hS3'
      have s3 : ∀ y : ABlk, (σ3.set 3 y)[3]? = some y := fun y => List.getElem?_set_self (by omega)
      have s0 : ∀ y : ABlk, (σ3.set 3 y)[0]? = some ⟨.own, 0, [sl n1 (ofN (val b)) c1]⟩ := fun y => (List.getElem?_set_ne (by decide)).trans p0
      have s1 : ∀ y : ABlk, (σ3.set 3 y)[1]? = some ⟨.own, 0, (List.replicate (m + 1) 0 ++ Q).map dg⟩ := fun y => (List.getElem?_set_ne (by decide)).trans p1
      have s2 : ∀ y : ABlk, (σ3.set 3 y)[2]? = some ⟨.own, 0, [.so 1 0 0 x.length 1 (some x.length)]⟩ := fun y => (List.getElem?_set_ne (by decide)).trans p2
      have s4 : ∀ y : ABlk, (σ3.set 3 y)[4]? = some ⟨.own, 0, [sl n2 x c2]⟩ := fun y => (List.getElem?_set_ne (by decide)).trans p4
      have s5 : ∀ y : ABlk, (σ3.set 3 y).length = σ3.length := fun y => List.length_set
      simp [p3, hc, -cellsOf, -getElem?_pos]
      generalize hσ4 : σ3.set 3 _ = σ4
      have q3 := s3 ⟨.own, 0, [sl n5 (ofN R) c5]⟩
      have q0 := s0 ⟨.own, 0, [sl n5 (ofN R) c5]⟩
      have q1 := s1 ⟨.own, 0, [sl n5 (ofN R) c5]⟩
      have q2 := s2 ⟨.own, 0, [sl n5 (ofN R) c5]⟩
      have q4 := s4 ⟨.own, 0, [sl n5 (ofN R) c5]⟩
      have q5 := s5 ⟨.own, 0, [sl n5 (ofN R) c5]⟩
      rw [hσ4] at q3 q0 q1 q2 q4 q5
      simp [q3, p0, -getElem?_pos]
      refine acall_by (share_ctr n5 n1 (ofN R) (ofN (val b)) c5 c1 (dig_ofN _) (dig_ofN _) (by omega) (by omega) (by rw [val_ofN, val_ofN]; exact hRlt)) (by simp [sl]) ?_
      rintro _ rfl
      rw [val_ofN, val_ofN]
      obtain ⟨q, hq⟩ : ∃ q, q = R / val b := ⟨_, rfl⟩
      rw [← hq] at st1 ⊢
      have hqB : q < 4294967296 := by rw [hq]; exact (Nat.div_lt_iff_lt_mul hn0).2 hRlt
      have hqc : IntKind.u32.wrap (q : Int) = (q : Int) := w32' q hqB
      have hqR : val b * q ≤ R := by rw [hq]; exact Nat.mul_div_le _ _
      have hqm : R - val b * q = R % val b := by have := Nat.div_add_mod R (val b); rw [← hq] at this; omega
      obtain ⟨Z, hZ⟩ : ∃ Z, Z = List.replicate (m + 1) 0 ++ Q := ⟨_, rfl⟩
      rw [← hZ] at q1
      have hset : (Z.map dg).set m (AV.v (Value.int IntKind.u32 (q : Int))) = (List.replicate m 0 ++ q :: Q).map dg := by
        have e : (List.replicate (m + 1) 0 ++ Q).set m q = List.replicate m 0 ++ q :: Q := by
          have e3 : List.replicate (m + 1) 0 = List.replicate m 0 ++ [0] := List.replicate_succ'
          rw [e3, List.append_assoc, List.set_append_right _ _ (by simp)]
          simp
        rw [← e, List.map_set, hZ]; rfl
      have hmQ : m + 1 ≤ Z.length := by rw [hZ]; simp
      simp [q2, q1, hqc, hml, -getElem?_pos, List.getElem?_cons_zero, hmQ]
      rw [hset]
      generalize hσ5 : σ4.set 1 _ = σ5
      have r1 : σ5[1]? = some ⟨.own, 0, (List.replicate m 0 ++ q :: Q).map dg⟩ := by rw [← hσ5]; exact List.getElem?_set_self (by omega)
      have r0 : σ5[0]? = some ⟨.own, 0, [sl n1 (ofN (val b)) c1]⟩ := by rw [← hσ5]; exact (List.getElem?_set_ne (by decide)).trans q0
      have r2 : σ5[2]? = some ⟨.own, 0, [.so 1 0 0 x.length 1 (some x.length)]⟩ := by rw [← hσ5]; exact (List.getElem?_set_ne (by decide)).trans q2
      have r3 : σ5[3]? = some ⟨.own, 0, [sl n5 (ofN R) c5]⟩ := by rw [← hσ5]; exact (List.getElem?_set_ne (by decide)).trans q3
      have r4 : σ5[4]? = some ⟨.own, 0, [sl n2 x c2]⟩ := by rw [← hσ5]; exact (List.getElem?_set_ne (by decide)).trans q4
      have r5 : σ5.length = σ3.length := by rw [← hσ5, List.length_set]; exact q5
      refine draw_on [1, 1, 0, 3, 3, 0, 0, 0, 4] orders (by decide) ?_
      have l0 : 0 < σ5.length := by omega
      have l3 : 3 < σ5.length := by omega
      simp [r3, r0, l0, l3, -getElem?_pos]
      refine acall_by (scale_ctr n1 (ofN (val b)) c1 q (dig_ofN _) (by omega) (by omega)) (by simp [sl]) ?_
      rintro _ ⟨n6, c6, rfl⟩
      have hpl : (ofN (val b * q)).length ≤ 45000 := by
        rw [len_ofN]
        exact Nat.lt_of_le_of_lt hqR ((len_ofN R 45000).1 hRl)
      rw [val_ofN]
      simp
      refine acall_by (sub_ctr n5 n6 (ofN R) (ofN (val b * q)) c5 c6 (dig_ofN _) (dig_ofN _) (by omega) (by omega)) (by simp [sl]) ?_
      intro y hy
      rw [subPost, val_ofN, val_ofN, if_neg (by omega), hqm, st2] at hy
      obtain ⟨n7, c7, rfl⟩ := hy
      simp [hc, -cellsOf, r3, -getElem?_pos, List.getElem?_cons_zero]
      refine hKt _ ⟨by rw [List.length_set]; omega, ?_, ⟨q :: Q, by simp [hQl], ?_, ?_, ?_⟩, ?_, ⟨n7, c7, ?_⟩, ?_⟩
      · exact (List.getElem?_set_ne (by decide)).trans r0
      · intro y hy
        rcases List.mem_cons.1 hy with rfl | hy
        · exact hqB
        · exact hQd y hy
      · rw [val, hQv]; exact st1
      · exact (List.getElem?_set_ne (by decide)).trans r1
      · exact (List.getElem?_set_ne (by decide)).trans r2
      · exact List.getElem?_set_self l3
      · exact (List.getElem?_set_ne (by decide)).trans r4
    · rintro σ0 ⟨h5, g0, ⟨Q, hQl, hQd, hQv, g1⟩, g2, ⟨n3, c3, g3⟩, g4⟩
      simp only [Nat.sub_self, List.drop_zero, List.replicate_zero, List.nil_append] at g1 g3 hQv
      rw [hav] at g3 hQv
      have l2 : 2 < σ0.length := by omega
      have l3 : 3 < σ0.length := by omega
      simp
      refine aw_froze [1] ?_
      have f0 := froze_at g1
      have f2 : (froze σ0 [1])[2]? = _ := (froze_ne (by decide)).trans g2
      have f3 : (froze σ0 [1])[3]? = _ := (froze_ne (by decide)).trans g3
      have fl : (froze σ0 [1]).length = σ0.length := froze_length _
      generalize froze σ0 [1] = σ1 at f0 f2 f3 fl ⊢
      rw [← fl] at l2 l3
      refine draw_on [1, 3, 1, 0, 0, 0] orders (by decide) ?_
      simp [f2, l2, -getElem?_pos, List.getElem?_cons_zero]
      refine acall_froze [1] (trim_ctr false Q (some x.length) hQd (by omega)) rfl (fun k hk => ?_) ?_
      · simp at hk
        subst hk
        exact isSl_so f0 (fun h => by cases h) hQl.symm (by simp) (fun m hm => by simp [hm]) rfl (by simp)
      rintro _ ⟨n8, c8, rfl⟩
      rw [froze_self f0, trim_ofN hQd, hQv]
      simp [f3, l3, -getElem?_pos]
      exact hK _ _ _ (.same _ (pu_tup (by simp [sl]))) (by rw [divPost, if_neg hv0]; exact ⟨_, _, _, _, rfl⟩)
end Go.Proofs.Nt
/- The naturals: Root. -/
set_option linter.unusedVariables false
set_option maxRecDepth 20000
set_option linter.unusedSimpArgs false
namespace Go.Proofs.Nt
open Go Go.Proofs Go.Proofs.Va

theorem ofN_add {m n k : Nat} (h1 : (ofN m).length ≤ k) (h2 : (ofN n).length ≤ k) : (ofN (m + n)).length ≤ k + 1 := by
  rw [len_ofN] at *
  rw [Nat.pow_succ]
  omega

/-- r is m's root. -/
def IsRoot (m r : Nat) : Prop := r * r ≤ m ∧ m < (r + 1) * (r + 1)
theorem IsRoot.unique {m r s : Nat} (h : IsRoot m r) (k : IsRoot m s) : r = s := by
  rcases Nat.lt_trichotomy r s with h1 | h1 | h1
  · have : (r + 1) * (r + 1) ≤ s * s := Nat.mul_le_mul h1 h1
    have := h.2; have := k.1; omega
  · exact h1
  · have : (s + 1) * (s + 1) ≤ r * r := Nat.mul_le_mul h1 h1
    have := k.2; have := h.1; omega

/-- Heron's step. -/
theorem heron_ge {m r : Nat} (hr : 0 < r) : m < ((r + m / r) / 2 + 1) * ((r + m / r) / 2 + 1) := by
  obtain ⟨q, hq⟩ : ∃ q, q = m / r := ⟨_, rfl⟩
  obtain ⟨s, hs⟩ : ∃ s, s = (r + q) / 2 := ⟨_, rfl⟩
  rw [← hq, ← hs]
  have h1 : m < r * (q + 1) := by
    have h2 := Nat.div_add_mod m r
    have h3 := Nat.mod_lt m hr
    rw [← hq] at h2
    rw [Nat.mul_add]; omega
  have h4 : r + (q + 1) ≤ 2 * (s + 1) := by omega
  have key : ∀ x y t : Nat, x + y ≤ 2 * t → x * y ≤ t * t := by
    intro x y t h
    rcases Nat.le_total x t with hx | hx
    · obtain ⟨d, rfl⟩ : ∃ d, t = x + d := ⟨t - x, by omega⟩
      have hy : y ≤ x + 2 * d := by omega
      calc x * y ≤ x * (x + 2 * d) := Nat.mul_le_mul_left _ hy
        _ ≤ (x + d) * (x + d) := by rw [Nat.add_mul, Nat.mul_add, Nat.mul_add, Nat.mul_add, Nat.mul_left_comm x 2, Nat.mul_comm d x]; omega
    · obtain ⟨d, rfl⟩ : ∃ d, x = t + d := ⟨x - t, by omega⟩
      have hy : y ≤ t - d := by omega
      calc (t + d) * y ≤ (t + d) * (t - d) := Nat.mul_le_mul_left _ hy
        _ ≤ t * t := by
          rcases Nat.le_total d t with hd | hd
          · obtain ⟨e, rfl⟩ : ∃ e, t = d + e := ⟨t - d, by omega⟩
            rw [show d + e - d = e by omega, Nat.add_mul, Nat.add_mul, Nat.add_mul, Nat.mul_add, Nat.mul_add, Nat.mul_comm e d]; omega
          · rw [Nat.sub_eq_zero_of_le hd]; simp
  exact Nat.lt_of_lt_of_le h1 (key _ _ _ h4)
theorem heron_stop {m r : Nat} (hr : 0 < r) (h : r ≤ (r + m / r) / 2) : r * r ≤ m := by
  have : r ≤ m / r := by omega
  exact (Nat.le_div_iff_mul_le hr).1 this

theorem root_start {m : Nat} (hm : m ≠ 0) : 0 < 2 ^ ((bl m + 1) / 2) ∧ m < (2 ^ ((bl m + 1) / 2) + 1) * (2 ^ ((bl m + 1) / 2) + 1) := by
  refine ⟨Nat.two_pow_pos _, ?_⟩
  have h1 := bl_high m
  have h2 : 2 ^ bl m ≤ 2 ^ ((bl m + 1) / 2) * 2 ^ ((bl m + 1) / 2) := by
    rw [← Nat.pow_add]; exact Nat.pow_le_pow_right (by decide) (by omega)
  generalize 2 ^ ((bl m + 1) / 2) = t at *
  rw [Nat.add_mul, Nat.mul_add]; omega

theorem root_ctr (nl : Bool) (a : List Nat) (cap : Option Nat) (ha : Dig a) (hl : a.length ≤ 3000) : Ctr Tryz.prog 118 [sl nl a cap] (fun r => ∃ s, IsRoot (val a) s ∧ Told (ofN s) r) := by
  refine ctr_in Tryz.func118 rfl (by kernel_rfl) rfl fun K hK => ?_
  simp [Tryz.f118]
  refine acall_by (len_ctr nl a cap ha (by omega)) (by simp [sl]) ?_
  rintro _ rfl
  by_cases hm : val a = 0
  · simp [hm, bl]
    exact hK _ _ _ (.same _ (by simp)) ⟨0, by rw [hm]; exact ⟨by decide, by decide⟩, by rw [ofN_zero]; exact told_nil⟩
  · have hbp := bl_pos hm
    have hbl : bl (val a) ≤ 32 * a.length := bl_le (by rw [← base_pow]; exact val_lt ha)
    have hb0 : ¬ bl (val a) = 0 := by omega
    simp [hb0]
    refine acall_by (from_ctr 1 (by decide)) (by simp) ?_
    rintro _ ⟨n1, c1, rfl⟩
    simp
    refine acall_by (len_ctr nl a cap ha (by omega)) (by simp [sl]) ?_
    rintro _ rfl
    obtain ⟨e, he⟩ : ∃ e, e = (bl (val a) + 1) / 2 := ⟨_, rfl⟩
    have hw : IntKind.i64.wrap (IntKind.i64.wrap ((bl (val a) : Int) + 1) / 2) = (e : Int) := by rw [w64 (_ + 1) (by omega) (by omega), w64 _ (by omega) (by omega)]; omega
    have hw1 : IntKind.i64.wrap ((bl (val a) : Int) + 1) = ((bl (val a) + 1 : Nat) : Int) := w64 _ (by omega) (by omega)
    have hw2 : IntKind.i64.wrap (((bl (val a) + 1 : Nat) : Int).tdiv 2) = (e : Int) := by
      rw [Int.tdiv_eq_ediv_of_nonneg (by omega), w64 _ (by omega) (by omega)]; omega
    simp
    rw [hw1, hw2]
    refine acall_by (shl_ctr n1 (ofN 1) c1 e (dig_ofN 1) (ofN_le (j := 1) (by decide) (by decide))) (by simp [sl]) ?_
    rintro _ ⟨n2, c2, rfl⟩
    rw [shlN, if_neg (by omega), Int.toNat_natCast, val_ofN, Nat.one_mul]
    obtain ⟨hs1, hs2⟩ := root_start hm
    rw [← he] at hs1 hs2
    have hsz : (ofN (2 ^ e)).length ≤ 1501 := ofN_le (j := e / 32 + 1) (by rw [base_pow]; exact Nat.pow_lt_pow_right (by decide) (by omega)) (by omega)
    simp
    refine loop_on (γ := Nat × Bool × Option Nat) 38 (fun g => [(0, sl nl a cap), (3, sl g.2.1 (ofN g.1) g.2.2)]) (fun _ => []) (fun g => 0 < g.1 ∧ val a < (g.1 + 1) * (g.1 + 1) ∧ (ofN g.1).length ≤ 1501) (fun g => g.1)
      (2 ^ e, n2, c2) ⟨hs1, hs2, hsz⟩ (Wk.lst (by simp [sl]) (by simp)) ?_
    rintro ⟨r, n3, c3⟩ ⟨hr0, hr1, hr2⟩ L hL
    simp only at hr0 hr1 hr2
    have hrl : (ofN r).length ≤ 1501 := hr2
    simp
    refine acall_by (div_ctr nl n3 a (ofN r) cap c3 ha (dig_ofN r) (by omega) (by omega)) (by simp [sl]) ?_
    intro y hy
    rw [divPost, val_ofN, if_neg (by omega)] at hy
    obtain ⟨n4, c4, n5, c5, rfl⟩ := hy
    simp
    have hql : (ofN (val a / r)).length ≤ 3000 := by
      exact ofN_le (Nat.lt_of_le_of_lt (Nat.div_le_self _ _) (val_lt ha)) hl
    refine acall_by (add_ctr n3 n4 (ofN r) (ofN (val a / r)) c3 c4 (dig_ofN _) (dig_ofN _) (by omega) (by omega)) (by simp [sl]) ?_
    rintro _ ⟨n6, c6, rfl⟩
    rw [val_ofN, val_ofN]
    have hsl : (ofN (r + val a / r)).length ≤ 3001 := by
      exact ofN_add (k := 3000) (by omega) hql
    simp
    refine acall_by (shr_ctr n6 (ofN (r + val a / r)) c6 1 (dig_ofN _) (by omega)) (by simp [sl]) ?_
    intro y hy
    rw [shrPost, if_neg (by decide), val_ofN] at hy
    obtain ⟨n7, c7, rfl⟩ := hy
    have e1 : (r + val a / r) / 2 ^ (1 : Int).toNat = (r + val a / r) / 2 := rfl
    rw [e1]
    obtain ⟨s, hs⟩ : ∃ s, s = (r + val a / r) / 2 := ⟨_, rfl⟩
    rw [← hs]
    have hsn : (ofN s).length ≤ 3001 := by
      rw [len_ofN] at hsl ⊢
      omega
    simp
    refine acall_by (cmp_ctr n7 n3 (ofN s) (ofN r) c7 c3 (dig_ofN _) (dig_ofN _) (by omega) (by omega)) (by simp [sl]) ?_
    rintro _ rfl
    rw [val_ofN, val_ofN, cmp3_nat]
    by_cases hle : r ≤ s
    · have e2 : (0 : Int) ≤ (if s < r then -1 else if r < s then 1 else 0) := by rw [if_neg (by omega)]; split <;> omega
      simp [e2]
      exact hK _ _ _ (.same _ (by simp [sl])) ⟨r, ⟨heron_stop hr0 (by omega), hr1⟩, ⟨_, _, rfl⟩⟩
    · have e2 : ¬ (0 : Int) ≤ (if s < r then -1 else if r < s then 1 else 0) := by rw [if_pos (by omega)]; decide
      simp [e2]
      refine hL (s, n7, c7) _ _ ⟨?_, by show val a < (s + 1) * (s + 1); rw [hs]; exact heron_ge hr0, ofN_low (Nat.le_of_lt (Nat.lt_of_not_le hle)) hr2⟩ (Wk.lst (by simp [sl]) (by simp)) (by show s < r; omega)
      show 0 < s
      have h7 := heron_ge (m := val a) hr0
      rw [← hs] at h7
      rcases Nat.eq_zero_or_pos s with h8 | h8
      · rw [h8] at h7; omega
      · exact h8
end Go.Proofs.Nt
/- The naturals: the document's Div. -/
set_option linter.unusedVariables false
set_option maxRecDepth 20000
set_option linter.unusedSimpArgs false
namespace Go.Proofs.Nt
open Go Go.Proofs Go.Proofs.Va

theorem bit_at {a : List Nat} (ha : Dig a) (p : Nat) : at' a (p / 32) / 2 ^ (p % 32) % 2 = val a / 2 ^ p % 2 := by
  rw [shr_fin ha, val_drop_one]
  have h := pow_rest (p % 32) (by omega)
  obtain ⟨E, hE⟩ : ∃ E, 2 ^ (32 - p % 32) = 2 * E := ⟨2 ^ (31 - p % 32), by rw [← Nat.pow_succ']; congr 1; omega⟩
  rw [← h, hE, Nat.mul_assoc, Nat.add_mul_div_left _ _ (Nat.two_pow_pos _), Nat.mul_assoc 2]
  omega
end Go.Proofs.Nt
/- The answers that the document gives: 'live' answers true. -/
set_option linter.unusedVariables false
set_option linter.unusedSimpArgs false
namespace Go.Proofs.Nt
open Go Go.Proofs Go.Proofs.Va
set_option maxRecDepth 20000

end Go.Proofs.Nt
/- The laws of the naturals: NatTells, NatCounts. -/
set_option linter.unusedVariables false
set_option maxRecDepth 20000
set_option linter.unusedSimpArgs false
namespace Go.Proofs.Nt
open Go Go.Proofs Go.Proofs.Va

theorem aLen_sl (k : Bool) (l : List Nat) (c : Option Nat) (σ : AHeap) (K : AV → AHeap → Prop) : aLen Tryz.prog 47 (sl k l c) σ K = K (i l.length) σ := by simp [sl]

theorem ofN_val_le {a : List Nat} (ha : Dig a) {k : Nat} (hk : a.length ≤ k) : (ofN (val a)).length ≤ k := by
  rw [← trim_ofN ha]; exact Nat.le_trans (trim_len a) hk

end Go.Proofs.Nt
