import Derived.Test.YtojoikbgdjcfdaaGreatDoorWa
import Derived.Test.YtojoikbgdjcfdaaGreatDoorWb
import Derived.Test.YtojoikbgdjcfdaaGreatDoorProg
import Derived.KernelRfl
import Derived.Lib.Overlaps
/- The naturals: what is told of types; digits as values. -/
set_option linter.unusedVariables false
set_option maxRecDepth 20000
set_option linter.unusedSimpArgs false
namespace Go.Proofs.Nt
open Go Go.Proofs Go.Proofs.Va

@[simp] theorem aggT44 : aggT Tryz.prog 161 = some false := by kernel_rfl
@[simp] theorem aggT24 : aggT Tryz.prog 76 = some false := by kernel_rfl
@[simp] theorem aggT3 : aggT Tryz.prog 3 = some false := by kernel_rfl
@[simp] theorem und3 : Tryz.prog.underlying 3 = some (.int .i64) := by kernel_rfl
@[simp] theorem und4 : Tryz.prog.underlying 4 = some .bool := by kernel_rfl
@[simp] theorem und24 : Tryz.prog.underlying 76 = some (.int .u64) := by kernel_rfl
@[simp] theorem und44 : Tryz.prog.underlying 161 = some (.int .u32) := by kernel_rfl
@[simp] theorem isB4 : isBoolT Tryz.prog 4 = true := by kernel_rfl
@[simp] theorem sz44 : szT Tryz.prog 161 = some 1 := by kernel_rfl
@[simp] theorem sz24 : szT Tryz.prog 76 = some 1 := by kernel_rfl
@[simp] theorem sz3 : szT Tryz.prog 3 = some 1 := by kernel_rfl
@[simp] theorem zc24 : zcT Tryz.prog 76 = some [.v (.int .u64 0)] := by kernel_rfl
@[simp] theorem zc3 : zcT Tryz.prog 3 = some [.v (.int .i64 0)] := by kernel_rfl
theorem orders : Tryz.prog.follows .mixedOrders = true := by kernel_rfl

/-- A digit, as a value. -/
@[simp] def dg (x : Nat) : AV := .v (.int .u32 (x : Int))
@[simp] def u (x : Nat) : AV := .v (.int .u64 (x : Int))
@[simp] def i (x : Int) : AV := .v (.int .i64 x)
@[simp] def bo (b : Bool) : AV := .v (.bool b)
/-- Digits, as a slice that nobody writes. -/
def sl (nl : Bool) (a : List Nat) (cap : Option Nat) : AV := .pl (nl && a.isEmpty) (a.map dg) a.length cap

theorem dg_get {a : List Nat} {k : Nat} (h : k < a.length) : (a.map dg)[k]? = some (.v (.int .u32 ((a[k]'h : Nat) : Int))) := by simp [dg, h]

def Dig (a : List Nat) : Prop := ∀ x ∈ a, x < 4294967296
theorem Dig.at {a : List Nat} (h : Dig a) {k : Nat} (hk : k < a.length) : a[k] < 4294967296 := h _ (List.getElem_mem hk)

/-- The digit at a place; 0 behind all. -/
def at' (a : List Nat) (k : Nat) : Nat := a.getD k 0
theorem at'_lt {a : List Nat} (h : Dig a) (k : Nat) : at' a k < 4294967296 := by
  unfold at'
  rcases Nat.lt_or_ge k a.length with hk | hk
  · rw [List.getD_eq_getElem?_getD, List.getElem?_eq_getElem hk]; exact h.at hk
  · rw [List.getD_eq_getElem?_getD, List.getElem?_eq_none hk]; decide

/-! ### Compare -/
def cmp3 (a b : Int) : Int := if a < b then -1 else if b < a then 1 else 0
end Go.Proofs.Nt
/- The naturals: slices.Backward. -/
set_option linter.unusedVariables false
set_option maxRecDepth 20000
set_option linter.unusedSimpArgs false
namespace Go.Proofs.Nt
open Go Go.Proofs Go.Proofs.Va

theorem w64 (x : Int) (h1 : -9223372036854775808 ≤ x) (h2 : x ≤ 9223372036854775807) : IntKind.i64.wrap x = x := IntWalk.i64_in _ ⟨h1, h2⟩

end Go.Proofs.Nt
/- Digits and their number: plain mathematics. -/
set_option linter.unusedVariables false
set_option linter.unusedSimpArgs false
namespace Go.Proofs.Nt

def val : List Nat → Nat
  | [] => 0
  | x :: a => x + 4294967296 * val a

/-- Without zeros at the end. -/
def trimL : List Nat → List Nat
  | [] => []
  | x :: a => if trimL a = [] ∧ x = 0 then [] else x :: trimL a

/-- A number's digits. -/
def ofN (n : Nat) : List Nat := if h : n = 0 then [] else n % 4294967296 :: ofN (n / 4294967296)
termination_by n
decreasing_by exact Nat.div_lt_self (by omega) (by decide)

theorem ofN_zero : ofN 0 = [] := by rw [ofN]; simp
theorem ofN_pos {n : Nat} (h : n ≠ 0) : ofN n = n % 4294967296 :: ofN (n / 4294967296) := by rw [ofN]; simp [h]
theorem ofN_nil {n : Nat} : ofN n = [] ↔ n = 0 := by
  constructor
  · intro h
    by_cases hn : n = 0
    · exact hn
    · rw [ofN_pos hn] at h; cases h
  · rintro rfl; exact ofN_zero

theorem ofN_cons {x v : Nat} (hx : x < 4294967296) (h : ¬ (v = 0 ∧ x = 0)) : ofN (x + 4294967296 * v) = x :: ofN v := by
  have hne : x + 4294967296 * v ≠ 0 := by omega
  rw [ofN_pos hne]
  have h1 : (x + 4294967296 * v) % 4294967296 = x := by omega
  have h2 : (x + 4294967296 * v) / 4294967296 = v := by omega
  rw [h1, h2]

theorem trim_ofN {a : List Nat} (h : Dig a) : trimL a = ofN (val a) := by
  induction a with
  | nil => simp [trimL, val, ofN_zero]
  | cons x a ih =>
    have ih := ih (fun y hy => h y (by simp [hy]))
    have hx := h x (by simp)
    simp only [trimL, val]
    rw [ih]
    by_cases hz : val a = 0 ∧ x = 0
    · rw [if_pos ⟨ofN_nil.2 hz.1, hz.2⟩, hz.1, hz.2]; simp [ofN_zero]
    · rw [if_neg (fun hh => hz ⟨ofN_nil.1 hh.1, hh.2⟩), ofN_cons hx hz]

theorem val_ofN (n : Nat) : val (ofN n) = n := by
  induction n using Nat.strongRecOn with
  | _ n ih =>
    by_cases h : n = 0
    · subst h; simp [ofN_zero, val]
    · rw [ofN_pos h, val, ih (n / 4294967296) (Nat.div_lt_self (by omega) (by decide))]; omega

theorem dig_ofN (n : Nat) : Dig (ofN n) := by
  induction n using Nat.strongRecOn with
  | _ n ih =>
    by_cases h : n = 0
    · subst h; simp [ofN_zero, Dig]
    · rw [ofN_pos h]
      intro x hx
      rcases List.mem_cons.1 hx with rfl | hx
      · exact Nat.mod_lt _ (by decide)
      · exact ih _ (Nat.div_lt_self (by omega) (by decide)) x hx

theorem len_ofN (n k : Nat) : (ofN n).length ≤ k ↔ n < 4294967296 ^ k := by
  induction k generalizing n with
  | zero =>
    rw [Nat.pow_zero, Nat.lt_one_iff, Nat.le_zero, List.length_eq_zero_iff]
    exact ofN_nil
  | succ k ih =>
    by_cases h : n = 0
    · subst h; simp only [ofN_zero, List.length_nil, Nat.zero_le, true_iff]; exact Nat.pow_pos (by decide)
    · rw [ofN_pos h, List.length_cons, Nat.succ_le_succ_iff, ih, Nat.pow_succ]
      constructor
      · intro h; have := Nat.div_lt_iff_lt_mul (x := n) (y := 4294967296 ^ k) (k := 4294967296) (by decide); exact this.1 h
      · intro h; exact (Nat.div_lt_iff_lt_mul (by decide)).2 h

theorem ofN_low {m n k : Nat} (h : m ≤ n) (hk : (ofN n).length ≤ k) : (ofN m).length ≤ k := (len_ofN m k).2 (Nat.lt_of_le_of_lt h ((len_ofN n k).1 hk))
theorem ofN_le {n j k : Nat} (h : n < 4294967296 ^ j) (hk : j ≤ k) : (ofN n).length ≤ k := Nat.le_trans ((len_ofN n j).2 h) hk

theorem val_lt {a : List Nat} (h : Dig a) : val a < 4294967296 ^ a.length := by
  induction a with
  | nil => simp [val]
  | cons x a ih =>
    have ih := ih (fun y hy => h y (by simp [hy]))
    have hx := h x (by simp)
    rw [val, List.length_cons, Nat.pow_succ]
    omega

theorem trim_len (a : List Nat) : (trimL a).length ≤ a.length := by
  induction a with
  | nil => simp [trimL]
  | cons x a ih =>
    simp only [trimL]
    split
    · simp
    · simp; exact ih

theorem trim_zeros {a : List Nat} (h : ∀ k (hk : k < a.length), a[k] = 0) : trimL a = [] := by
  induction a with
  | nil => rfl
  | cons x a ih =>
    have h0 := h 0 (by simp)
    have ih := ih (fun k hk => by have := h (k + 1) (by simpa using hk); simpa using this)
    simp only [trimL]
    rw [if_pos ⟨ih, by simpa using h0⟩]

theorem trim_take {a : List Nat} {k : Nat} (hk : k < a.length) (hx : a[k] ≠ 0) (h : ∀ j (hj : j < a.length), k < j → a[j] = 0) : trimL a = a.take (k + 1) := by
  induction a generalizing k with
  | nil => simp at hk
  | cons x a ih =>
    simp only [trimL]
    cases k with
    | zero =>
      have hz : trimL a = [] := trim_zeros fun j hj => by have := h (j + 1) (by simpa using hj) (by omega); simpa using this
      rw [hz, if_neg (by simpa using hx)]; simp
    | succ k =>
      have ih := ih (k := k) (by simpa using hk) (by simpa using hx) (fun j hj hkj => by have := h (j + 1) (by simpa using hj) (by omega); simpa using this)
      have hne : trimL a ≠ [] := by
        rw [ih]; intro hh
        rw [List.take_eq_nil_iff] at hh
        rcases hh with hh | hh
        · omega
        · rw [hh] at hk; simp at hk
      rw [if_neg (fun hh => hne hh.1), ih]; simp

theorem val_append (a b : List Nat) : val (a ++ b) = val a + 4294967296 ^ a.length * val b := by
  induction a with
  | nil => simp [val]
  | cons x a ih =>
    simp only [List.cons_append, val, ih, List.length_cons, Nat.pow_succ, Nat.mul_add]
    rw [Nat.add_assoc]
    congr 2
    rw [← Nat.mul_assoc, Nat.mul_comm 4294967296]

theorem dig_append {a b : List Nat} (ha : Dig a) (hb : Dig b) : Dig (a ++ b) := fun x hx => (List.mem_append.1 hx).elim (ha x) (hb x)
theorem dig_nil : Dig [] := fun x hx => by simp at hx
theorem dig_take {a : List Nat} (h : Dig a) (k : Nat) : Dig (a.take k) := fun x hx => h x (List.mem_of_mem_take hx)
theorem val_trim {a : List Nat} (h : Dig a) : val (trimL a) = val a := by rw [trim_ofN h, val_ofN]
theorem dig_trim {a : List Nat} (h : Dig a) : Dig (trimL a) := by rw [trim_ofN h]; exact dig_ofN _
theorem dig_one (x : Nat) : Dig [x % 4294967296] := fun y hy => by
  rw [List.mem_singleton] at hy; subst hy; exact Nat.mod_lt _ (by decide)
theorem trim_ofN_self (n : Nat) : trimL (ofN n) = ofN n := by rw [trim_ofN (dig_ofN n), val_ofN]
end Go.Proofs.Nt
/- The naturals: digits are laid, and told as a number. -/
set_option linter.unusedVariables false
set_option maxRecDepth 20000
set_option linter.unusedSimpArgs false
namespace Go.Proofs.Nt
open Go Go.Proofs Go.Proofs.Va

/-- The digits a lie in the list of the struct in block d. -/
inductive DS (σ : AHeap) (d : Nat) : List Nat → Prop
  | nil : σ[d]? = some ⟨.own, 0, [.pl true [] 0 (some 0)]⟩ → DS σ d []
  | so (j v : Nat) (a : List Nat) : σ[d]? = some ⟨.own, 0, [.so j v 0 a.length 1 none]⟩ → σ[j]? = some ⟨.own, v, a.map dg⟩ → j ≠ d → DS σ d a

attribute [simp] jumps

/-- The like, for what is only read. -/
inductive DN (σ : AHeap) (d : Nat) : List Nat → Prop
  | nil : σ[d]? = some ⟨.own, 0, [.pl true [] 0 (some 0)]⟩ → DN σ d []
  | so (j v : Nat) (a : List Nat) (cap : Option Nat) (more : List AV) : σ[d]? = some ⟨.own, 0, [.so j v 0 a.length 1 cap]⟩ → σ[j]? = some ⟨.own, v, a.map dg ++ more⟩ → j ≠ d → a.length ≤ cap.getD a.length → DN σ d a

theorem DS.dn {σ : AHeap} {d : Nat} {a : List Nat} (h : DS σ d a) : DN σ d a := by
  cases h with
  | nil h => exact .nil h
  | so j v a h hj hjd => exact .so j v a none [] h (by simpa using hj) hjd (by simp)

theorem w32 (x : Nat) : IntKind.u32.wrap (x : Int) = ((x % 4294967296 : Nat) : Int) := by rw [IntKind.wrap_u32]; omega

/-- The answer is a slice of these digits. -/
def IsSl (σ : AHeap) (r : AV) (a : List Nat) : Prop := ∃ nl cap, Pur σ (fun _ => True) r (sl nl a cap)

end Go.Proofs.Nt
/- The naturals: trim, From, Check. -/
set_option linter.unusedVariables false
set_option maxRecDepth 20000
set_option linter.unusedSimpArgs false
namespace Go.Proofs.Nt
open Go Go.Proofs Go.Proofs.Va

/-- An own slice of these digits, in a block from n on; or nil. -/
inductive Own (σ : AHeap) (n : Nat) (r : AV) (a : List Nat) : Prop
  | nil : r = .pl true [] 0 (some 0) → a = [] → Own σ n r a
  | so (j v : Nat) (cap : Option Nat) (more : List AV) : r = .so j v 0 a.length 1 cap → σ[j]? = some ⟨.own, v, a.map dg ++ more⟩ → n ≤ j →
      (cap = none ∧ more = []) ∨ (∃ c, cap = some c ∧ a.length ≤ c ∧ more = List.replicate (c - a.length) (dg 0)) → Own σ n r a

theorem Own.one {σ : AHeap} {n : Nat} {r : AV} {a : List Nat} (h : Own σ n r a) : cellsOf r = some [r] := by
  cases h with
  | nil h => subst h; rfl
  | so j v cap more h => subst h; rfl

theorem same_app {σ more : AHeap} {n : Nat} (h : n ≤ σ.length) : Same n σ (σ ++ more) := ⟨h, by simp; omega, fun i hi => List.getElem?_append_left (by omega)⟩

theorem IsSl.dig {σ : AHeap} {r : AV} {a : List Nat} (h : IsSl σ r a) : ∃ r', Pur σ (fun _ => True) r r' ∧ ∃ nl cap, r' = sl nl a cap := by
  obtain ⟨nl, cap, h⟩ := h
  exact ⟨_, h, nl, cap, rfl⟩

theorem w32' (x : Nat) (h : x < 4294967296) : IntKind.u32.wrap (x : Int) = (x : Int) := by rw [w32, Nat.mod_eq_of_lt h]

/-- What a function that tells digits promises. -/
def Told (a : List Nat) (r : AV) : Prop := ∃ nl cap, r = sl nl a cap

theorem val_two (x y : Nat) : val [x, y] = x + 4294967296 * y := by simp [val]

theorem trim_last {a : List Nat} (h : trimL a ≠ []) : ∀ (hp : 0 < (trimL a).length), (trimL a)[(trimL a).length - 1] ≠ 0 := by
  induction a with
  | nil => exact absurd rfl h
  | cons x a ih =>
    simp only [trimL] at h ⊢
    split
    · rename_i hh; rw [if_pos hh] at h; exact absurd rfl h
    · rename_i hh
      intro hp
      by_cases ht : trimL a = []
      · simp only [ht, List.length_singleton, Nat.sub_self, List.getElem_cons_zero]
        exact fun hx => hh ⟨ht, hx⟩
      · have hl : 0 < (trimL a).length := List.length_pos_iff.2 ht
        have := ih ht hl
        simp only [List.length_cons, Nat.add_sub_cancel]
        rw [List.getElem_cons]
        rw [dif_neg (by omega)]
        exact this

theorem check_eq {a : List Nat} (ha : a ≠ []) : (trimL a == a) = !(a[a.length - 1]'(by have := List.length_pos_iff.2 ha; omega) == 0) := by
  have hp : 0 < a.length := List.length_pos_iff.2 ha
  have hlt : a.length - 1 < a.length := by omega
  by_cases hz : a[a.length - 1] = 0
  · have hne : trimL a ≠ a := fun hh => by
      have h2 := trim_last (a := a) (by rw [hh]; exact ha) (by rw [hh]; exact hp)
      simp only [hh] at h2
      exact h2 hz
    simp [hz, hne]
  · have he : trimL a = a := by
      rw [trim_take hlt hz (fun j hj hkj => by omega)]
      exact List.take_of_length_le (by omega)
    simp [hz, he]

end Go.Proofs.Nt
/- The naturals: Add. -/
set_option linter.unusedVariables false
set_option maxRecDepth 20000
set_option linter.unusedSimpArgs false
namespace Go.Proofs.Nt
open Go Go.Proofs Go.Proofs.Va

theorem val_snoc (l : List Nat) (x : Nat) : val (l ++ [x]) = val l + 4294967296 ^ l.length * x := by rw [val_append]; simp [val]
theorem val_take_succ (a : List Nat) (k : Nat) : val (a.take (k + 1)) = val (a.take k) + 4294967296 ^ k * at' a k := by
  unfold at'
  rcases Nat.lt_or_ge k a.length with hk | hk
  · rw [List.take_add_one, List.getElem?_eq_getElem hk]
    simp only [Option.toList_some, val_snoc, List.length_take, Nat.min_eq_left (Nat.le_of_lt hk)]
    rw [List.getD_eq_getElem?_getD, List.getElem?_eq_getElem hk]; rfl
  · rw [List.take_of_length_le (by omega), List.take_of_length_le (by omega), List.getD_eq_getElem?_getD, List.getElem?_eq_none hk]; simp
theorem dig_snoc {l : List Nat} (h : Dig l) (x : Nat) : Dig (l ++ [x % 4294967296]) := dig_append h (dig_one x)

theorem wu (x : Nat) (h : x < 18446744073709551616) : IntKind.u64.wrap (x : Int) = (x : Int) := IntWalk.u64_in _ (by omega)

theorem wuc (x y : Int) (h0 : 0 ≤ x + y) (h : x + y < 18446744073709551616) : IntKind.u64.wrap (x + y) = x + y := IntWalk.u64_in _ (by omega)

theorem carry_step {P m q s : Nat} (h : m + 4294967296 * q = s) : P * m + P * 4294967296 * q = P * s := by
  rw [← h, Nat.mul_add, Nat.mul_assoc]
theorem sum_step {P A B c x y v : Nat} (hv : v + P * c = A + B) : v + P * ((x + y + c) % 4294967296) + P * 4294967296 * ((x + y + c) / 4294967296) = A + P * x + (B + P * y) := by
  have h := carry_step (P := P) (Nat.mod_add_div (x + y + c) 4294967296)
  rw [Nat.mul_add, Nat.mul_add] at h
  omega
theorem add_step {a b l : List Nat} {k c : Nat} (hlen : l.length = k) (hv : val l + 4294967296 ^ k * c = val (a.take k) + val (b.take k)) :
    val (l ++ [(at' a k + at' b k + c) % 4294967296]) + 4294967296 ^ (k + 1) * ((at' a k + at' b k + c) / 4294967296) = val (a.take (k + 1)) + val (b.take (k + 1)) := by
  rw [val_snoc, val_take_succ, val_take_succ, hlen, Nat.pow_succ]
  exact sum_step hv

end Go.Proofs.Nt
/- The naturals: the document's Trim, Same; scale. -/
set_option linter.unusedVariables false
set_option maxRecDepth 20000
set_option linter.unusedSimpArgs false
namespace Go.Proofs.Nt
open Go Go.Proofs Go.Proofs.Va

theorem trim_take' {a : List Nat} {k : Nat} (hk : k ≤ a.length) (hx : ∀ (h : 0 < k), a[k - 1] ≠ 0) (h : ∀ j (hj : j < a.length), k ≤ j → a[j] = 0) : trimL a = a.take k := by
  rcases Nat.eq_zero_or_pos k with h0 | h0
  · subst h0; rw [trim_zeros (fun j hj => h j hj (Nat.zero_le _))]; simp
  · have := trim_take (a := a) (k := k - 1) (by omega) (hx h0) (fun j hj hkj => h j hj (by omega))
    rwa [show k - 1 + 1 = k by omega] at this

theorem isSl_so {σ : AHeap} {S : Nat → Prop} {j v off n : Nat} {cap : Option Nat} {b : ABlk} {a : List Nat} (hb : σ[j]? = some b) (hk : b.kind ≠ .dead) (hn : n = a.length) (ho : off ≤ b.cells.length) (h : ∀ l (hl : l < a.length), b.cells[off + l]? = some (dg a[l])) (hv : b.ver = v := by rfl) (hS : S j := by trivial) :
    Pur σ S (.so j v off n 1 cap) (sl false a cap) := by
  have hlen : off + a.length ≤ b.cells.length := by
    rcases Nat.eq_zero_or_pos a.length with h0 | h0
    · omega
    · have := (List.getElem?_eq_some_iff.1 (h (a.length - 1) (by omega))).1; omega
  subst hn
  refine .so j v off a.length 1 cap b _ hb hv hk hS (by omega) (by simp) fun l hl => ?_
  simp only [List.length_map] at hl
  have := h l hl
  rw [List.getD_eq_getElem?_getD, this]
  simp

end Go.Proofs.Nt
/- The naturals: scale; the document's Same, Add. -/
set_option linter.unusedVariables false
set_option maxRecDepth 20000
set_option linter.unusedSimpArgs false
namespace Go.Proofs.Nt
open Go Go.Proofs Go.Proofs.Va

end Go.Proofs.Nt
/- The naturals: the document's Add. -/
set_option linter.unusedVariables false
set_option maxRecDepth 20000
set_option linter.unusedSimpArgs false
namespace Go.Proofs.Nt
open Go Go.Proofs Go.Proofs.Va

/-- Digits that are appended to, one by one. -/
inductive OL (σ : AHeap) : AV → List Nat → Prop
  | nil : OL σ (.pl true [] 0 (some 0)) []
  | so (j v : Nat) (l : List Nat) : σ[j]? = some ⟨.own, v, l.map dg⟩ → OL σ (.so j v 0 l.length 1 none) l

theorem call_OL {g : FuncId} {σ : AHeap} {r : AV} {l : List Nat} {Post : AV → Prop} {K : AV → AHeap → Prop} (h : OL σ r l) (hc : ∀ nl cap, Ctr Tryz.prog g [sl nl l cap] Post) (hK : ∀ r σ', Post r → K r σ') : ACall Tryz.prog g [r] σ K := by
  cases h with
  | nil => exact acall_by (hc true (some 0)) (by simp [sl]) fun r hr => hK r _ hr
  | so j v l hj =>
    refine acall_froze [j] (hc false none) rfl (fun k hk => ?_) fun r hr => hK r _ hr
    simp at hk
    subst hk
    exact isSl_so hj (fun h => by cases h) rfl (by simp) (fun m hm => by simp [hm]) rfl (by simp)

end Go.Proofs.Nt
/- Digits and their number: plain mathematics, more. -/
set_option linter.unusedVariables false
set_option linter.unusedSimpArgs false
namespace Go.Proofs.Nt

/-! ### How many bits -/
def bl (n : Nat) : Nat := if n = 0 then 0 else Nat.log2 n + 1
theorem bl_zero : bl 0 = 0 := rfl
theorem bl_eq {n k : Nat} (h1 : 2 ^ k ≤ n) (h2 : n < 2 ^ (k + 1)) : bl n = k + 1 := by
  have h0 : n ≠ 0 := by have := Nat.two_pow_pos k; omega
  unfold bl
  rw [if_neg h0]
  have := (Nat.log2_lt h0).2 h2
  have := (Nat.le_log2 h0).2 h1
  omega
theorem bl_low {n : Nat} (h : n ≠ 0) : 2 ^ (bl n - 1) ≤ n := by
  unfold bl; rw [if_neg h]; exact (Nat.le_log2 h).1 (Nat.le_refl _)
theorem bl_high (n : Nat) : n < 2 ^ bl n := by
  unfold bl
  split
  · omega
  · rename_i h; exact (Nat.log2_lt h).1 (Nat.lt_succ_self _)
theorem bl_pos {n : Nat} (h : n ≠ 0) : 0 < bl n := by unfold bl; rw [if_neg h]; omega
theorem bl_half {n : Nat} (h : n ≠ 0) : bl n = bl (n / 2) + 1 := by
  by_cases h1 : n / 2 = 0
  · have : n = 1 := by omega
    subst this; rfl
  · have l := bl_low h1
    have u := bl_high (n / 2)
    have p := bl_pos h1
    obtain ⟨k, hk⟩ : ∃ k, bl (n / 2) = k + 1 := ⟨bl (n / 2) - 1, by omega⟩
    rw [hk] at l u ⊢
    simp only [Nat.add_sub_cancel] at l
    refine bl_eq (k := k + 1) ?_ ?_
    · rw [Nat.pow_succ]; omega
    · rw [Nat.pow_succ]; omega
theorem bl_shift {x t m : Nat} (hx : x < 2 ^ m) (ht : t ≠ 0) : bl (x + 2 ^ m * t) = m + bl t := by
  have l := bl_low ht
  have u := bl_high t
  have p := bl_pos ht
  obtain ⟨k, hk⟩ : ∃ k, bl t = k + 1 := ⟨bl t - 1, by omega⟩
  rw [hk] at l u ⊢
  simp only [Nat.add_sub_cancel] at l
  refine bl_eq (k := m + k) ?_ ?_
  · rw [Nat.pow_add]
    have := Nat.mul_le_mul_left (2 ^ m) l
    omega
  · rw [Nat.add_assoc, Nat.pow_add]
    have : 2 ^ m * (t + 1) ≤ 2 ^ m * 2 ^ (k + 1) := Nat.mul_le_mul_left _ (by omega)
    rw [Nat.mul_add] at this
    omega
theorem bl_le {n k : Nat} (h : n < 2 ^ k) : bl n ≤ k := by
  rcases Nat.lt_or_ge k (bl n) with h1 | h1
  · exfalso
    have h0 : n ≠ 0 := fun hh => by subst hh; simp [bl_zero] at h1
    have l := bl_low h0
    have : 2 ^ k ≤ 2 ^ (bl n - 1) := Nat.pow_le_pow_right (by decide) (by omega)
    omega
  · exact h1

theorem base_pow (k : Nat) : 4294967296 ^ k = 2 ^ (32 * k) := by rw [Nat.pow_mul]

/-- The last of a number's digits. -/
theorem bl_digits {a : List Nat} (hd : Dig a) {m : Nat} (hm : a.length = m + 1) (h : a[m] ≠ 0) : bl (val a) = 32 * m + bl a[m] := by
  have e : a = a.take m ++ [a[m]] := by
    have := List.take_append_drop m a
    conv => lhs; rw [← this]
    congr 1
    rw [List.drop_eq_getElem_cons (by omega), List.drop_of_length_le (by omega)]
  have e2 : val a = val (a.take m) + 4294967296 ^ m * a[m] := by
    conv => lhs; rw [e]
    rw [val_snoc, List.length_take, Nat.min_eq_left (by omega)]
  have h3 := val_lt (dig_take hd m)
  rw [List.length_take, Nat.min_eq_left (by omega)] at h3
  rw [e2, base_pow]
  rw [base_pow] at h3
  exact bl_shift h3 h

/-! ### How two stand -/
theorem len_lt {m n : Nat} (h : (ofN m).length < (ofN n).length) : m < n := by
  rcases Nat.lt_or_ge m n with h1 | h1
  · exact h1
  · have h2 := (len_ofN m (ofN m).length).1 (Nat.le_refl _)
    have := (len_ofN n (ofN m).length).2 (by omega)
    omega
theorem val_split (a : List Nat) (k : Nat) (hk : k ≤ a.length) : val a = val (a.take k) + 4294967296 ^ k * val (a.drop k) := by
  have := val_append (a.take k) (a.drop k)
  rw [List.take_append_drop, List.length_take, Nat.min_eq_left hk] at this
  exact this
theorem val_lt_of {x y : List Nat} (hx : Dig x) (hy : Dig y) {k : Nat} (h1 : k < x.length) (h2 : k < y.length) (hd : x.drop (k + 1) = y.drop (k + 1)) (hlt : x[k] < y[k]) : val x < val y := by
  rw [val_split x k (by omega), val_split y k (by omega), List.drop_eq_getElem_cons h1, List.drop_eq_getElem_cons h2]
  simp only [val]
  rw [hd]
  have h3 := val_lt (dig_take hx k)
  rw [List.length_take, Nat.min_eq_left (by omega)] at h3
  generalize 4294967296 ^ k = P at *
  generalize val (y.drop (k + 1)) = D at *
  have : P * (x[k] + 4294967296 * D + 1) ≤ P * (y[k] + 4294967296 * D) := Nat.mul_le_mul_left _ (by omega)
  rw [Nat.mul_add _ _ 1] at this
  omega
theorem ofN_inj {m n : Nat} (h : ofN m = ofN n) : m = n := by rw [← val_ofN m, h, val_ofN]

theorem or_add {x y : Nat} (hy : y < 4294967296) : x * 4294967296 ||| y = x * 4294967296 + y := by
  have := Nat.shiftLeft_add_eq_or_of_lt (i := 32) (b := y) (by omega) x
  rw [Nat.shiftLeft_eq] at this
  exact this.symm

/-! ### Less -/
theorem sub_step {P A C c x y v : Nat} (hx : x < 4294967296) (hy : y < 4294967296) (hc : c ≤ 1) (hv : v + C = A + P * c) :
    v + P * ((x + 18446744073709551616 - y - c) % 4294967296) + (C + P * y) = A + P * x + P * 4294967296 * (if y + c ≤ x then 0 else 1) := by
  split
  · rename_i h
    have : (x + 18446744073709551616 - y - c) % 4294967296 = x - y - c := by omega
    rw [this]
    have : P * x = P * (x - y - c) + P * y + P * c := by rw [← Nat.mul_add, ← Nat.mul_add]; congr 1; omega
    omega
  · rename_i h
    have : (x + 18446744073709551616 - y - c) % 4294967296 = x + 4294967296 - y - c := by omega
    rw [this]
    have : P * x + P * 4294967296 = P * (x + 4294967296 - y - c) + P * y + P * c := by rw [← Nat.mul_add, ← Nat.mul_add, ← Nat.mul_add]; congr 1; omega
    omega

theorem ofN_shift (v m : Nat) (h : v ≠ 0) : List.replicate m 0 ++ ofN v = ofN (4294967296 ^ m * v) := by
  induction m with
  | zero => simp
  | succ m ih =>
    have hp : 4294967296 ^ m * v ≠ 0 := Nat.mul_ne_zero (Nat.pos_iff_ne_zero.1 (Nat.pow_pos (by decide))) h
    have e : 4294967296 ^ (m + 1) * v = 0 + 4294967296 * (4294967296 ^ m * v) := by rw [Nat.pow_succ]; simp [Nat.mul_comm, Nat.mul_left_comm]
    rw [e, ofN_cons (by decide) (by simp [hp]), List.replicate_succ, List.cons_append, ih]
end Go.Proofs.Nt
/- The naturals: the document's From; Low, Len, Cmp. -/
set_option linter.unusedVariables false
set_option maxRecDepth 20000
set_option linter.unusedSimpArgs false
namespace Go.Proofs.Nt
open Go Go.Proofs Go.Proofs.Va

/-- These digits lie there. -/
inductive Lie (σ : AHeap) (r : AV) (a : List Nat) : Prop
  | nil : r = .pl true [] 0 (some 0) → a = [] → Lie σ r a
  | so (j v : Nat) (cap : Option Nat) (more : List AV) : r = .so j v 0 a.length 1 cap → σ[j]? = some ⟨.own, v, a.map dg ++ more⟩ → Lie σ r a

theorem dgs_get {a : List Nat} {more : List AV} {m : Nat} (hm : m < a.length) : (List.map dg a ++ more)[m]? = some (dg a[m]) := by
  rw [List.getElem?_append_left (by simpa using hm)]; simp [hm]
theorem Lie.sl {σ : AHeap} {r : AV} {a : List Nat} (h : Lie σ r a) : ∃ nl cap, Pur σ (fun _ => True) r (sl nl a cap) := by
  cases h with
  | nil h1 h2 => subst h1; subst h2; exact ⟨true, some 0, by simp [Nt.sl]⟩
  | so j v cap more h1 h2 =>
    subst h1
    refine ⟨false, cap, isSl_so h2 (fun h => by cases h) rfl (by simp) (fun m hm => by simp [dgs_get hm]) rfl trivial⟩

theorem call_lie {g : FuncId} {σ : AHeap} {r : AV} {l : List Nat} {Post : AV → Prop} {K : AV → AHeap → Prop} (h : Lie σ r l) (hc : ∀ nl cap, Ctr Tryz.prog g [sl nl l cap] Post) (hK : ∀ r σ', Post r → K r σ') : ACall Tryz.prog g [r] σ K := by
  cases h with
  | nil h1 h2 => subst h1; subst h2; exact acall_by (hc true (some 0)) (by simp [Nt.sl]) fun r hr => hK r _ hr
  | so j v cap more h1 hj =>
    subst h1
    refine acall_froze [j] (hc false cap) rfl (fun k hk => ?_) fun r hr => hK r _ hr
    simp at hk
    subst hk
    exact isSl_so hj (fun h => by cases h) rfl (by simp) (fun m hm => by simp [dgs_get hm]) rfl (by simp)

theorem OL.lie {σ : AHeap} {r : AV} {l : List Nat} (h : OL σ r l) : Lie σ r l := by
  cases h with
  | nil => exact .nil rfl rfl
  | so j v l hj => exact .so j v none [] rfl (by simpa using hj)

/-! ### Low -/
def lowPost (n : Nat) (r : AV) : Prop := r = if n < 18446744073709551616 then .tup [u n, bo true] else .tup [u 0, bo false]
theorem ofN_two (n : Nat) : 2 < (ofN n).length ↔ ¬ n < 18446744073709551616 := by
  have := len_ofN n 2
  rw [show (4294967296 : Nat) ^ 2 = 18446744073709551616 by decide] at this
  omega

theorem low_mid {a : List Nat} (hd : Dig a) (h2 : a.length ≤ 2) {k : Nat} (hk : k < a.length) : val (a.drop (a.length - 1 - k)) = val (a.drop (a.length - k)) * 4294967296 + a[a.length - 1 - k] ∧ val (a.drop (a.length - k)) < 4294967296 := by
  have e : a.length - 1 - k + 1 = a.length - k := by omega
  constructor
  · rw [List.drop_eq_getElem_cons (by omega : a.length - 1 - k < a.length)]
    simp only [val, e]; omega
  · have hdd : Dig (a.drop (a.length - k)) := fun x hx => hd x (List.mem_of_mem_drop hx)
    have := val_lt hdd
    rw [List.length_drop] at this
    have : a.length - (a.length - k) ≤ 1 := by omega
    calc _ < _ := ‹_›
      _ ≤ 4294967296 ^ 1 := Nat.pow_le_pow_right (by decide) this
      _ = 4294967296 := by decide

end Go.Proofs.Nt
/- The naturals: Len, Cmp. -/
set_option linter.unusedVariables false
set_option maxRecDepth 20000
set_option linter.unusedSimpArgs false
namespace Go.Proofs.Nt
open Go Go.Proofs Go.Proofs.Va

theorem ofN_last {n : Nat} (h : ofN n ≠ []) : ∃ m, ∃ hm : (ofN n).length = m + 1, (ofN n)[m]'(by omega) ≠ 0 := by
  have hp : 0 < (ofN n).length := List.length_pos_iff.2 h
  refine ⟨(ofN n).length - 1, by omega, ?_⟩
  have h1 := trim_last (a := ofN n) (by rw [trim_ofN_self]; exact h) (by rw [trim_ofN_self]; exact hp)
  simpa only [trim_ofN_self] using h1

/-! ### Cmp -/
theorem cmp3_nat (a b : Nat) : cmp3 (a : Int) (b : Int) = if a < b then -1 else if b < a then 1 else 0 := by
  unfold cmp3; simp only [Int.ofNat_lt]

end Go.Proofs.Nt
/- The naturals: Cmp; Sub. -/
set_option linter.unusedVariables false
set_option maxRecDepth 20000
set_option linter.unusedSimpArgs false
namespace Go.Proofs.Nt
open Go Go.Proofs Go.Proofs.Va

/-! ### Sub -/
def subPost (m n : Nat) (r : AV) : Prop := if m < n then r = .tup [.pl true [] 0 (some 0), bo false] else ∃ nl cap, r = .tup [sl nl (ofN (m - n)) cap, bo true]

theorem wsub {x y c : Nat} (hx : x < 4294967296) (hy : y < 4294967296) (hc : c ≤ 1) : IntKind.u64.wrap (IntKind.u64.wrap ((x : Int) - (y : Int)) - (c : Int)) = (((x + 18446744073709551616 - y - c) % 18446744073709551616 : Nat) : Int) := by
  rw [Va.wrap64u, Va.wrap64u]; omega

end Go.Proofs.Nt
/- The naturals: the document's Sub; Shl, Shr. -/
set_option linter.unusedVariables false
set_option maxRecDepth 20000
set_option linter.unusedSimpArgs false
namespace Go.Proofs.Nt
open Go Go.Proofs Go.Proofs.Va

theorem take_max {a : List Nat} {N : Nat} (h : a.length ≤ N) : a.take N = a := List.take_of_length_le h

theorem sub_fin {a b l : List Nat} {N c : Nat} (ha : Dig a) (hd : Dig l) (hN : a.length ≤ N) (hb : b.length ≤ N) (hlen : l.length = N) (hc : c ≤ 1) (hv : val l + val (b.take N) = val (a.take N) + 4294967296 ^ N * c) (h0 : ¬ val a < val b) : val l = val a - val b := by
  rw [take_max hN, take_max hb] at hv
  have hvl := val_lt hd
  rw [hlen] at hvl
  generalize 4294967296 ^ N = P at *
  have hc0 : c = 0 := by
    rcases Nat.eq_zero_or_pos c with h4 | h4
    · exact h4
    · have : c = 1 := by omega
      subst this; omega
  subst hc0
  omega

end Go.Proofs.Nt
/- The naturals: Shl. -/
set_option linter.unusedVariables false
set_option maxRecDepth 20000
set_option linter.unusedSimpArgs false
namespace Go.Proofs.Nt
open Go Go.Proofs Go.Proofs.Va

/-- Digits that are appended to, in whatever slice. -/
inductive OX (σ : AHeap) : AV → List Nat → Prop
  | nil : OX σ (.pl true [] 0 (some 0)) []
  | so (j v : Nat) (l : List Nat) : σ[j]? = some ⟨.own, v, l.map dg⟩ → OX σ (.so j v 0 l.length 1 none) l
  | sc (j v c : Nat) (l : List Nat) : σ[j]? = some ⟨.own, v, l.map dg ++ List.replicate (c - l.length) (dg 0)⟩ → l.length ≤ c → OX σ (.so j v 0 l.length 1 (some c)) l

theorem OX.lie {σ : AHeap} {r : AV} {l : List Nat} (h : OX σ r l) : Lie σ r l := by
  cases h with
  | nil => exact .nil rfl rfl
  | so j v l hj => exact .so j v none [] rfl (by simpa using hj)
  | sc j v c l hj hc => exact .so j v (some c) _ rfl hj

/-! ### Shl -/
def shlN (m : Nat) (k : Int) : List Nat := if k < 0 ∨ 100000 < k then [] else ofN (m * 2 ^ k.toNat)
theorem told_nil : Told [] (.pl true [] 0 (some 0)) := ⟨true, some 0, by simp [sl]⟩
theorem pow_split (k : Nat) : 2 ^ k = 4294967296 ^ (k / 32) * 2 ^ (k % 32) := by
  rw [base_pow, ← Nat.pow_add]; congr 1; omega
theorem pow_small (s : Nat) (h : s < 32) : 2 ^ s ≤ 2147483648 := by
  have : 2 ^ s ≤ 2 ^ 31 := Nat.pow_le_pow_right (by decide) (by omega)
  simpa using this

theorem wpow (s : Nat) (h : s < 32) : IntKind.u64.wrap ((2 : Int) ^ s) = ((2 ^ s : Nat) : Int) := by
  have hp := pow_small s h
  have e : ((2 ^ s : Nat) : Int) = (2 : Int) ^ s := by simp
  rw [← e, wu _ (by omega)]

theorem scale_step {a l : List Nat} {k c y : Nat} (hlen : l.length = k) (hv : val l + 4294967296 ^ k * c = val (a.take k) * y) :
    val (l ++ [(at' a k * y + c) % 4294967296]) + 4294967296 ^ (k + 1) * ((at' a k * y + c) / 4294967296) = val (a.take (k + 1)) * y := by
  rw [val_snoc, val_take_succ, hlen, Nat.pow_succ, Nat.add_mul, ← hv]
  have h3 := carry_step (P := 4294967296 ^ k) (Nat.mod_add_div (at' a k * y + c) 4294967296)
  rw [Nat.mul_add] at h3
  rw [Nat.add_assoc, h3, Nat.mul_assoc, ← Nat.add_assoc]
  omega

end Go.Proofs.Nt
/- The naturals: Shr. -/
set_option linter.unusedVariables false
set_option maxRecDepth 20000
set_option linter.unusedSimpArgs false
namespace Go.Proofs.Nt
open Go Go.Proofs Go.Proofs.Va

theorem dig_drop {a : List Nat} (h : Dig a) (k : Nat) : Dig (a.drop k) := fun x hx => h x (List.mem_of_mem_drop hx)
theorem val_div {b : List Nat} (hd : Dig b) (k : Nat) : val b / 4294967296 ^ k = val (b.drop k) := by
  rcases Nat.lt_or_ge b.length k with h | h
  · rw [List.drop_of_length_le (by omega)]
    have h1 := val_lt hd
    have h2 : 4294967296 ^ b.length ≤ 4294967296 ^ k := Nat.pow_le_pow_right (by decide) (by omega)
    exact Nat.div_eq_of_lt (by omega)
  · rw [val_split b k h]
    have h1 := val_lt (dig_take hd k)
    rw [List.length_take, Nat.min_eq_left h] at h1
    rw [Nat.add_mul_div_left _ _ (Nat.pow_pos (by decide)), Nat.div_eq_of_lt h1, Nat.zero_add]
theorem val_mod {b : List Nat} (hd : Dig b) (k : Nat) : val b % 4294967296 ^ k = val (b.take k) := by
  have h1 := Nat.mod_add_div (val b) (4294967296 ^ k)
  rw [val_div hd] at h1
  have h2 := val_append (b.take k) (b.drop k)
  rw [List.take_append_drop, List.length_take] at h2
  rcases Nat.lt_or_ge b.length k with h | h
  · rw [List.drop_of_length_le (by omega)] at h1
    rw [List.take_of_length_le (by omega)]
    simpa [val] using h1
  · rw [Nat.min_eq_left h] at h2; omega
theorem val_drop_one (b : List Nat) (k : Nat) : val (b.drop k) = at' b k + 4294967296 * val (b.drop (k + 1)) := by
  unfold at'
  rcases Nat.lt_or_ge k b.length with h | h
  · rw [List.drop_eq_getElem_cons h, val, List.getD_eq_getElem?_getD, List.getElem?_eq_getElem h]; rfl
  · rw [List.drop_of_length_le h, List.drop_of_length_le (by omega), List.getD_eq_getElem?_getD, List.getElem?_eq_none h]; rfl
theorem at'_drop (a : List Nat) (q k : Nat) : at' (a.drop q) k = at' a (q + k) := by
  unfold at'
  rw [List.getD_eq_getElem?_getD, List.getD_eq_getElem?_getD, List.getElem?_drop]
theorem digit_mod (D E x y R : Nat) (hD : 0 < D) (h : D * E = 4294967296) : ((x + 4294967296 * (y + 4294967296 * R)) / D) % 4294967296 = ((x + 4294967296 * y) / D) % 4294967296 := by
  have e : x + 4294967296 * (y + 4294967296 * R) = (x + 4294967296 * y) + D * (4294967296 * (E * R)) := by
    have : D * (4294967296 * (E * R)) = D * E * (4294967296 * R) := by rw [Nat.mul_assoc D E, Nat.mul_left_comm E]
    rw [this, h, Nat.mul_add]; try omega
  rw [e, Nat.add_mul_div_left _ _ hD]
  omega
theorem pow_rest (s : Nat) (h : s < 32) : 2 ^ s * 2 ^ (32 - s) = 4294967296 := by
  rw [← Nat.pow_add, show s + (32 - s) = 32 by omega]

/-- One digit more of a number that is shifted. -/
theorem shr_step {b l : List Nat} {k s : Nat} (hd : Dig b) (hs : s < 32) (hlen : l.length = k) (hv : val l = val b / 2 ^ s % 4294967296 ^ k) :
    val (l ++ [(at' b k + 4294967296 * at' b (k + 1)) / 2 ^ s % 4294967296]) = val b / 2 ^ s % 4294967296 ^ (k + 1) := by
  rw [val_snoc, hlen, hv, Nat.mod_pow_succ]
  congr 2
  have e : val b / 2 ^ s / 4294967296 ^ k = val (b.drop k) / 2 ^ s := by rw [Nat.div_div_eq_div_mul, Nat.mul_comm (2 ^ s), ← Nat.div_div_eq_div_mul, val_div hd]
  rw [e, val_drop_one b k, val_drop_one b (k + 1)]
  exact (digit_mod _ _ _ _ _ (Nat.two_pow_pos s) (pow_rest s hs)).symm

theorem shr_fin {a : List Nat} (ha : Dig a) (m : Nat) : val a / 2 ^ m = val (a.drop (m / 32)) / 2 ^ (m % 32) := by
  rw [pow_split m, ← Nat.div_div_eq_div_mul, val_div ha]
theorem shr_mod {a : List Nat} (ha : Dig a) (m : Nat) : val a % 2 ^ m = val (a.take (m / 32)) + 4294967296 ^ (m / 32) * (at' a (m / 32) % 2 ^ (m % 32)) := by
  have h1 : val a % (4294967296 ^ (m / 32) * 2 ^ (m % 32)) = val a % 4294967296 ^ (m / 32) + 4294967296 ^ (m / 32) * (val a / 4294967296 ^ (m / 32) % 2 ^ (m % 32)) := Nat.mod_mul
  rw [pow_split m, h1, val_mod ha, val_div ha, val_drop_one]
  congr 2
  have := pow_rest (m % 32) (by omega)
  rw [← this, Nat.mul_assoc, Nat.add_mul_mod_self_left]

def shrPost (n : Nat) (k : Int) (r : AV) : Prop := if k < 0 ∨ 100000 < k then r = .tup [.pl true [] 0 (some 0), bo false] else ∃ nl cap, r = .tup [sl nl (ofN (n / 2 ^ k.toNat)) cap, bo (n % 2 ^ k.toNat == 0)]

/-! ### The program's -/
@[simp] theorem cast_bne0 (m : Nat) : ((m : Int) != 0) = (m != 0) := by rw [Bool.eq_iff_iff]; simp
@[simp] theorem cast_beq0 (m : Nat) : ((m : Int) == 0) = (m == 0) := by rw [Bool.eq_iff_iff]; simp
theorem and_mask {x : Nat} : x &&& 4294967295 = x % 4294967296 := Nat.and_two_pow_sub_one_eq_mod x 32
theorem and_low (x s : Nat) : x &&& (2 ^ s - 1) = x % 2 ^ s := Nat.and_two_pow_sub_one_eq_mod x s
theorem val_zero_take {a : List Nat} (k : Nat) : (val (a.take (k + 1)) != 0) = (val (a.take k) != 0 || at' a k != 0) := by
  rw [val_take_succ]
  by_cases h1 : val (a.take k) = 0
  · by_cases h2 : at' a k = 0
    · simp [h1, h2]
    · have : 4294967296 ^ k * at' a k ≠ 0 := Nat.mul_ne_zero (Nat.pos_iff_ne_zero.1 (Nat.pow_pos (by decide))) h2
      rw [h1, Nat.zero_add, bne, bne, bne, beq_false_of_ne this, beq_false_of_ne h2]; rfl
  · have : val (a.take k) + 4294967296 ^ k * at' a k ≠ 0 := by omega
    rw [bne, bne, bne, beq_false_of_ne this, beq_false_of_ne h1]; rfl

end Go.Proofs.Nt
/- The naturals: slices.Insert at the front; Mul. -/
set_option linter.unusedVariables false
set_option maxRecDepth 20000
set_option linter.unusedSimpArgs false
namespace Go.Proofs.Nt
open Go Go.Proofs Go.Proofs.Va

/-- What Clone gives and Insert takes. -/
inductive Cl (σ : AHeap) (n0 : Nat) : AV → List Nat → Prop
  | nil : Cl σ n0 (.pl true [] 0 (some 0)) []
  | e (j v : Nat) : σ[j]? = some ⟨.own, v, []⟩ → n0 ≤ j → Cl σ n0 (.so j v 0 0 1 none) []
  | sc (j v c : Nat) (l : List Nat) : σ[j]? = some ⟨.own, v, l.map dg ++ List.replicate (c - l.length) (dg 0)⟩ → l.length ≤ c → l ≠ [] → n0 ≤ j → Cl σ n0 (.so j v 0 l.length 1 (some c)) l

theorem take_tail {X Z : List AV} (h : 0 < X.length) : (X.take 1 ++ Z).tail = Z := by
  cases X with
  | nil => simp at h
  | cons x X => simp
/-! ### Mul -/
theorem Lie.at {σ : AHeap} {r : AV} {a : List Nat} (h : Lie σ r a) : ∃ nl cap, ∀ S : Nat → Prop, (∀ j v n c, r = .so j v 0 n 1 c → S j) → Pur σ S r (Nt.sl nl a cap) := by
  cases h with
  | nil h1 h2 => exact ⟨true, some 0, fun S _ => by subst h1; subst h2; simp [Nt.sl]⟩
  | so j v cap more h1 h2 =>
    subst h1
    exact ⟨false, cap, fun S hS => isSl_so h2 (fun h => by cases h) rfl (by simp) (fun m hm => by simp [dgs_get hm]) rfl (hS _ _ _ _ rfl)⟩

theorem call_lie2 {g : FuncId} {σ : AHeap} {r y : AV} {l : List Nat} {N : Nat} {Post : AV → Prop} {K : AV → AHeap → Prop} (h : Lie σ r l) (hN : ∀ j v n c, r = .so j v 0 n 1 c → N ≤ j) (hNσ : N ≤ σ.length) (hy : Pu y) (hc : ∀ nl cap, Ctr Tryz.prog g [sl nl l cap, y] Post) (hK : ∀ r σ', Post r → Same N σ σ' → K r σ') : ACall Tryz.prog g [r, y] σ K := by
  cases h with
  | nil h1 h2 => subst h1; subst h2; exact acall_by (hc true (some 0)) (by simp [Nt.sl, hy]) fun r hr => hK r _ hr (Same.refl hNσ)
  | so j v cap more h1 hj =>
    subst h1
    have hjN := hN _ _ _ _ rfl
    refine acall_froze [j] (hc false cap) rfl (fun k hk => ?_) fun r hr => hK r _ hr ⟨hNσ, by rw [froze_length]; exact hNσ, fun i hi => ?_⟩
    · simp at hk
      have : k = 0 ∨ k = 1 := by omega
      rcases this with rfl | rfl
      · exact isSl_so hj (fun h => by cases h) rfl (by simp) (fun m hm => by simp [dgs_get hm]) rfl (by simp)
      · exact .same _ hy
    · rw [froze_get]
      cases σ[i]? with
      | none => rfl
      | some b => simp; omega

end Go.Proofs.Nt
/- The naturals: the document's Mul. -/
set_option linter.unusedVariables false
set_option maxRecDepth 20000
set_option linter.unusedSimpArgs false
namespace Go.Proofs.Nt
open Go Go.Proofs Go.Proofs.Va

theorem val_set {o : List Nat} {p x : Nat} (hp : p < o.length) : val (o.set p x) + 4294967296 ^ p * o[p] = val o + 4294967296 ^ p * x := by
  have h1 : o.set p x = o.take p ++ x :: o.drop (p + 1) := List.set_eq_take_append_cons_drop.trans (by rw [if_pos hp])
  have h2 := val_split o p (by omega)
  rw [List.drop_eq_getElem_cons hp, val] at h2
  rw [h1, val_append, List.length_take, Nat.min_eq_left (by omega), val, h2, Nat.mul_add, Nat.mul_add]
  omega
theorem dig_set {o : List Nat} (h : Dig o) (p x : Nat) : Dig (o.set p (x % 4294967296)) := fun y hy => by
  rcases List.mem_or_eq_of_mem_set hy with hy | rfl
  · exact h y hy
  · exact Nat.mod_lt _ (by decide)

/-- One step of a row: what stands there, and what is carried. -/
theorem mul_step {Vn V W P o m q x c : Nat} (h1 : Vn + P * o = V + P * m) (h2 : m + 4294967296 * q = x + o + c) (h3 : V + P * c = W) : Vn + P * 4294967296 * q = W + P * x := by
  have h4 := carry_step (P := P) h2
  rw [Nat.mul_add, Nat.mul_add] at h4
  omega
theorem val_zeros (n : Nat) : val (List.replicate n 0) = 0 := by
  induction n with
  | zero => rfl
  | succ n ih => rw [List.replicate_succ, val, ih]
theorem zero_at {o : List Nat} (hd : Dig o) {p : Nat} (h : val o < 4294967296 ^ p) (hp : p < o.length) : o[p] = 0 := by
  have h1 := val_div hd p
  rw [Nat.div_eq_of_lt h, val_drop_one] at h1
  have : at' o p = 0 := by omega
  simpa [at', hp] using this

end Go.Proofs.Nt
/- The naturals: share, Div. -/
set_option linter.unusedVariables false
set_option maxRecDepth 20000
set_option linter.unusedSimpArgs false
namespace Go.Proofs.Nt
open Go Go.Proofs Go.Proofs.Va

/-- Some blocks of the call's own are written no more from here on. -/
theorem aw_froze {P : Program} {n0 : Nat} {top : Bool} {c : Code} {Q : Exit → AState → Prop} {t : List AV} {σ : AHeap} (ids : List Nat) (h : AW P n0 top c Q ⟨t, froze σ ids⟩) : AW P n0 top c Q ⟨t, σ⟩ := by
  intro F n hF ht w0 nb ρ fz a w hs hn hb1 hb2
  obtain ⟨hh1, hE1⟩ := hs.h.froze ids
  refine wpIn_mono (h F n hF ht w0 nb ρ _ a w ⟨hh1, hs.t.ev' (n0 := σ.length) hE1, hs.m⟩ (by show n0 ≤ (froze σ ids).length; rw [froze_length]; exact hn) hb1 hb2) ?_
  intro e a' w' hq
  exact hq.from (hE1.lower hn)
theorem froze_ne {σ : AHeap} {ids : List Nat} {k : Nat} (h : k ∉ ids) : (froze σ ids)[k]? = σ[k]? := by
  rw [froze_get]
  cases σ[k]? with
  | none => rfl
  | some b => simp [h]
theorem froze_at {σ : AHeap} {k : Nat} {v : Nat} {cs : List AV} (h : σ[k]? = some ⟨.own, v, cs⟩) : (froze σ [k])[k]? = some ⟨.ro, v, cs⟩ := by
  rw [froze_get, h]; simp
theorem froze_self {σ : AHeap} {k : Nat} {v : Nat} {cs : List AV} (h : σ[k]? = some ⟨.ro, v, cs⟩) : froze σ [k] = σ := by
  apply List.ext_getElem?
  intro i
  by_cases hi : i = k
  · subst hi; rw [froze_get, h]; simp
  · exact froze_ne (by simpa using hi)

/-! ### Div -/
theorem acall_freeze {P : Program} {g : FuncId} {args args' : List AV} {σ : AHeap} {K : AV → AHeap → Prop} (ids : List Nat) (h : ACall P g args' (froze σ ids) K) (hl : args'.length = args.length)
    (hp : ∀ j (hj : j < args'.length), args.getD j .any = args'[j] ∨ Pur σ (· ∈ ids) (args.getD j .any) args'[j]) : ACall P g args σ K := by
  intro w0 ρ fz w vs hh hr
  obtain ⟨hh1, hE1⟩ := hh.froze ids
  have hargs : RL ρ (froze σ ids) (fzS ρ σ fz (· ∈ ids)) w args' vs := ⟨by rw [hr.1, hl], fun j hj => by
    have hR : R ρ σ fz w (args.getD j .any) (vs.getD j undef) := by rw [getD_eq (by omega)]; exact hr.2 j (by omega)
    rcases hp j hj with e | e
    · rw [← e]; exact hR.ev hE1 hR.sc
    · exact .pure _ _ (e.ok hh hR)⟩
  rcases h w0 ρ _ w vs hh1 hargs with ⟨h1, h2⟩ | ⟨v, w', r, σ', ρ', fz', h1, h2, h3, h4, h5⟩
  · refine .inl ⟨h1, h2.mono ?_⟩
    rintro e w' ⟨v, r, σ', ρ', fz', rfl, hK, hH, hR, hE⟩
    exact ⟨v, r, σ', ρ', fz', rfl, hK, hH, hR, hE1.trans (hE.lower (by rw [froze_length]; exact Nat.le_refl _))⟩
  · exact .inr ⟨v, w', r, σ', ρ', fz', h1, h2, h3, h4, hE1.trans (h5.lower (by rw [froze_length]; exact Nat.le_refl _))⟩

theorem Cl.more {σ more : AHeap} {N : Nat} {r : AV} {a : List Nat} (h : Cl σ N r a) : Cl (σ ++ more) N r a := by
  cases h with
  | nil => exact .nil
  | e j v h1 h2 => exact .e j v (by rw [List.getElem?_append_left (List.getElem?_eq_some_iff.1 h1).1]; exact h1) h2
  | sc j v c l h1 h2 h3 h4 => exact .sc j v c _ (by rw [List.getElem?_append_left (List.getElem?_eq_some_iff.1 h1).1]; exact h1) h2 h3 h4

def divPost (m n : Nat) (r : AV) : Prop := if n = 0 then r = .tup [.pl true [] 0 (some 0), .pl true [] 0 (some 0), bo false] else ∃ n1 c1 n2 c2, r = .tup [sl n1 (ofN (m / n)) c1, sl n2 (ofN (m % n)) c2, bo true]

theorem div_step (D n x : Nat) (hn : 0 < n) : (4294967296 * (D % n) + x) / n + 4294967296 * (D / n) = (x + 4294967296 * D) / n ∧ (4294967296 * (D % n) + x) % n = (x + 4294967296 * D) % n := by
  have h := Nat.mod_add_div D n
  have e : x + 4294967296 * D = (4294967296 * (D % n) + x) + n * (4294967296 * (D / n)) := by
    conv => lhs; rw [← h]
    rw [Nat.mul_add, Nat.mul_left_comm n]; omega
  rw [e, Nat.add_mul_div_left _ _ hn, Nat.add_mul_mod_self_left]
  exact ⟨rfl, rfl⟩

end Go.Proofs.Nt
/- The naturals: Root. -/
set_option linter.unusedVariables false
set_option maxRecDepth 20000
set_option linter.unusedSimpArgs false
namespace Go.Proofs.Nt
open Go Go.Proofs Go.Proofs.Va

theorem ofN_add {m n k : Nat} (h1 : (ofN m).length ≤ k) (h2 : (ofN n).length ≤ k) : (ofN (m + n)).length ≤ k + 1 := by
  rw [len_ofN] at *
  rw [Nat.pow_succ]
  omega

/-- r is m's root. -/
def IsRoot (m r : Nat) : Prop := r * r ≤ m ∧ m < (r + 1) * (r + 1)
theorem IsRoot.unique {m r s : Nat} (h : IsRoot m r) (k : IsRoot m s) : r = s := by
  rcases Nat.lt_trichotomy r s with h1 | h1 | h1
  · have : (r + 1) * (r + 1) ≤ s * s := Nat.mul_le_mul h1 h1
    have := h.2; have := k.1; omega
  · exact h1
  · have : (s + 1) * (s + 1) ≤ r * r := Nat.mul_le_mul h1 h1
    have := k.2; have := h.1; omega

/-- Heron's step. -/
theorem heron_ge {m r : Nat} (hr : 0 < r) : m < ((r + m / r) / 2 + 1) * ((r + m / r) / 2 + 1) := by
  obtain ⟨q, hq⟩ : ∃ q, q = m / r := ⟨_, rfl⟩
  obtain ⟨s, hs⟩ : ∃ s, s = (r + q) / 2 := ⟨_, rfl⟩
  rw [← hq, ← hs]
  have h1 : m < r * (q + 1) := by
    have h2 := Nat.div_add_mod m r
    have h3 := Nat.mod_lt m hr
    rw [← hq] at h2
    rw [Nat.mul_add]; omega
  have h4 : r + (q + 1) ≤ 2 * (s + 1) := by omega
  have key : ∀ x y t : Nat, x + y ≤ 2 * t → x * y ≤ t * t := by
    intro x y t h
    rcases Nat.le_total x t with hx | hx
    · obtain ⟨d, rfl⟩ : ∃ d, t = x + d := ⟨t - x, by omega⟩
      have hy : y ≤ x + 2 * d := by omega
      calc x * y ≤ x * (x + 2 * d) := Nat.mul_le_mul_left _ hy
        _ ≤ (x + d) * (x + d) := by rw [Nat.add_mul, Nat.mul_add, Nat.mul_add, Nat.mul_add, Nat.mul_left_comm x 2, Nat.mul_comm d x]; omega
    · obtain ⟨d, rfl⟩ : ∃ d, x = t + d := ⟨x - t, by omega⟩
      have hy : y ≤ t - d := by omega
      calc (t + d) * y ≤ (t + d) * (t - d) := Nat.mul_le_mul_left _ hy
        _ ≤ t * t := by
          rcases Nat.le_total d t with hd | hd
          · obtain ⟨e, rfl⟩ : ∃ e, t = d + e := ⟨t - d, by omega⟩
            rw [show d + e - d = e by omega, Nat.add_mul, Nat.add_mul, Nat.add_mul, Nat.mul_add, Nat.mul_add, Nat.mul_comm e d]; omega
          · rw [Nat.sub_eq_zero_of_le hd]; simp
  exact Nat.lt_of_lt_of_le h1 (key _ _ _ h4)
theorem heron_stop {m r : Nat} (hr : 0 < r) (h : r ≤ (r + m / r) / 2) : r * r ≤ m := by
  have : r ≤ m / r := by omega
  exact (Nat.le_div_iff_mul_le hr).1 this

theorem root_start {m : Nat} (hm : m ≠ 0) : 0 < 2 ^ ((bl m + 1) / 2) ∧ m < (2 ^ ((bl m + 1) / 2) + 1) * (2 ^ ((bl m + 1) / 2) + 1) := by
  refine ⟨Nat.two_pow_pos _, ?_⟩
  have h1 := bl_high m
  have h2 : 2 ^ bl m ≤ 2 ^ ((bl m + 1) / 2) * 2 ^ ((bl m + 1) / 2) := by
    rw [← Nat.pow_add]; exact Nat.pow_le_pow_right (by decide) (by omega)
  generalize 2 ^ ((bl m + 1) / 2) = t at *
  rw [Nat.add_mul, Nat.mul_add]; omega

end Go.Proofs.Nt
/- The naturals: the document's Div. -/
set_option linter.unusedVariables false
set_option maxRecDepth 20000
set_option linter.unusedSimpArgs false
namespace Go.Proofs.Nt
open Go Go.Proofs Go.Proofs.Va

theorem bit_at {a : List Nat} (ha : Dig a) (p : Nat) : at' a (p / 32) / 2 ^ (p % 32) % 2 = val a / 2 ^ p % 2 := by
  rw [shr_fin ha, val_drop_one]
  have h := pow_rest (p % 32) (by omega)
  obtain ⟨E, hE⟩ : ∃ E, 2 ^ (32 - p % 32) = 2 * E := ⟨2 ^ (31 - p % 32), by rw [← Nat.pow_succ']; congr 1; omega⟩
  rw [← h, hE, Nat.mul_assoc, Nat.add_mul_div_left _ _ (Nat.two_pow_pos _), Nat.mul_assoc 2]
  omega
theorem half_step (V j : Nat) : V / 2 ^ j = 2 * (V / 2 ^ (j + 1)) + V / 2 ^ j % 2 := by
  have : V / 2 ^ (j + 1) = V / 2 ^ j / 2 := by rw [Nat.pow_succ, Nat.div_div_eq_div_mul]
  rw [this]; omega
theorem bit_step {A n c : Nat} (hn : 0 < n) (hc : c ≤ 1) : (2 * A + c) / n = (if 2 * (A % n) + c < n then 2 * (A / n) else 2 * (A / n) + 1) ∧ (2 * A + c) % n = (if 2 * (A % n) + c < n then 2 * (A % n) + c else 2 * (A % n) + c - n) := by
  have h := Nat.mod_add_div A n
  have hm := Nat.mod_lt A hn
  have e : 2 * A + c = (2 * (A % n) + c) + n * (2 * (A / n)) := by
    conv => lhs; rw [← h]
    rw [Nat.mul_add, Nat.mul_left_comm n]; omega
  split
  · rename_i hlt
    rw [e, Nat.add_mul_div_left _ _ hn, Nat.add_mul_mod_self_left, Nat.div_eq_of_lt hlt, Nat.mod_eq_of_lt hlt, Nat.zero_add]
    exact ⟨rfl, rfl⟩
  · rename_i hlt
    have e2 : 2 * (A % n) + c = (2 * (A % n) + c - n) + n * 1 := by omega
    have h3 : 2 * (A % n) + c - n < n := by omega
    rw [e, Nat.add_mul_div_left _ _ hn, Nat.add_mul_mod_self_left]
    constructor
    · rw [e2, Nat.add_mul_div_left _ _ hn, Nat.div_eq_of_lt h3]; omega
    · rw [e2, Nat.add_mul_mod_self_left, Nat.mod_eq_of_lt h3]; omega

theorem len_of_lt {m : Nat} {k : Nat} {l : List Nat} (hd : Dig l) (h : m ≤ val l) (hl : l.length ≤ k) : (ofN m).length ≤ k := by
  exact ofN_le (Nat.lt_of_le_of_lt h (val_lt hd)) hl

theorem shl_one (m : Nat) : shlN m 1 = ofN (m * 2) := by rw [shlN, if_neg (by decide)]; rfl

end Go.Proofs.Nt
/- The answers that the document gives: 'live' answers true. -/
set_option linter.unusedVariables false
set_option linter.unusedSimpArgs false
namespace Go.Proofs.Nt
open Go Go.Proofs Go.Proofs.Va
set_option maxRecDepth 20000

theorem lz (n : Nat) (h : n < 4294967296 ^ 4) (m : Nat) (hm : 4 ≤ m) : (ofN n).length ≤ m := Nat.le_trans ((len_ofN n 4).2 h) hm

theorem len_a : (ofN 4294967296).length = 2 := by
  rw [ofN_pos (by decide), ofN_pos (by decide), show 4294967296 / 4294967296 / 4294967296 = 0 by decide, ofN_zero]; rfl
theorem len_b : (ofN 18446744073709551616).length = 3 := by
  rw [ofN_pos (by decide), ofN_pos (by decide), ofN_pos (by decide), show 18446744073709551616 / 4294967296 / 4294967296 / 4294967296 = 0 by decide, ofN_zero]; rfl

theorem bl_d : bl 18446744073709551615 = 64 := bl_eq (by decide) (by decide)

end Go.Proofs.Nt
/- The laws of the naturals: NatTells, NatCounts. -/
set_option linter.unusedVariables false
set_option maxRecDepth 20000
set_option linter.unusedSimpArgs false
namespace Go.Proofs.Nt
open Go Go.Proofs Go.Proofs.Va

theorem sub_form {m n : Nat} {r : AV} (h : subPost m n r) : ∃ nl c, r = .tup [sl nl (ofN (m - n)) c, bo (decide (n ≤ m))] := by
  rw [subPost] at h
  split at h
  · rename_i h1
    exact ⟨true, some 0, by rw [h, show m - n = 0 by omega, ofN_zero, decide_eq_false (by omega)]; simp [sl]⟩
  · rename_i h1
    obtain ⟨nl, c, h⟩ := h
    exact ⟨nl, c, by rw [h, decide_eq_true (by omega)]⟩

def shrOut (n : Nat) (k : Int) : Nat := if k < 0 ∨ 100000 < k then 0 else n / 2 ^ k.toNat
def shrIs (n : Nat) (k : Int) : Bool := if k < 0 ∨ 100000 < k then false else n % 2 ^ k.toNat == 0
theorem shr_form {n : Nat} {k : Int} {r : AV} (h : shrPost n k r) : ∃ nl c, r = .tup [sl nl (ofN (shrOut n k)) c, bo (shrIs n k)] := by
  rw [shrPost] at h
  rw [shrOut, shrIs]
  split at h
  · rename_i h1
    rw [if_pos h1, if_pos h1, ofN_zero]
    exact ⟨true, some 0, by rw [h]; simp [sl]⟩
  · rename_i h1
    rw [if_neg h1, if_neg h1]
    exact h
theorem shrOut_le (n : Nat) (k : Int) : shrOut n k ≤ n := by
  rw [shrOut]; split
  · omega
  · exact Nat.div_le_self _ _
theorem ofN_mono {m n k : Nat} (h : m ≤ n) (hk : (ofN n).length ≤ k) : (ofN m).length ≤ k := (len_ofN m k).2 (Nat.lt_of_le_of_lt h ((len_ofN n k).1 hk))
theorem ofN_val_le {a : List Nat} (ha : Dig a) {k : Nat} (hk : a.length ≤ k) : (ofN (val a)).length ≤ k := by
  rw [← trim_ofN ha]; exact Nat.le_trans (trim_len a) hk

end Go.Proofs.Nt
