/- The naturals: what is told of types; digits as values. -/
import Derived.Test.YtmfnjmcgmogncaaVa19
import Derived.Test.YtmfnjmcgmogncaaProg
import Derived.KernelRfl
set_option linter.unusedVariables false
set_option maxRecDepth 20000
set_option linter.unusedSimpArgs false
namespace Go.Proofs.Nt
open Go Go.Proofs Go.Proofs.Va

@[simp] theorem elT23 : elT Try.prog 23 = some (62, ⟨1, 4, [.v (.int .u32 0)]⟩) := by kernel_rfl
@[simp] theorem elT22 : elT Try.prog 22 = some (62, ⟨1, 4, [.v (.int .u32 0)]⟩) := by kernel_rfl
@[simp] theorem aggT44 : aggT Try.prog 62 = some false := by kernel_rfl
@[simp] theorem aggT23 : aggT Try.prog 23 = some false := by kernel_rfl
@[simp] theorem aggT24 : aggT Try.prog 24 = some false := by kernel_rfl
@[simp] theorem aggT3 : aggT Try.prog 3 = some false := by kernel_rfl
@[simp] theorem und3 : Try.prog.underlying 3 = some (.int .i64) := by kernel_rfl
@[simp] theorem und4 : Try.prog.underlying 4 = some .bool := by kernel_rfl
@[simp] theorem und22 : Try.prog.underlying 22 = some (.slice 62) := by kernel_rfl
@[simp] theorem und23 : Try.prog.underlying 23 = some (.slice 62) := by kernel_rfl
@[simp] theorem und24 : Try.prog.underlying 24 = some (.int .u64) := by kernel_rfl
@[simp] theorem und44 : Try.prog.underlying 62 = some (.int .u32) := by kernel_rfl
@[simp] theorem src22 : srcT Try.prog 22 = some false := by kernel_rfl
@[simp] theorem src23 : srcT Try.prog 23 = some false := by kernel_rfl
@[simp] theorem isS23 : isSliceT Try.prog 23 = true := by kernel_rfl
@[simp] theorem isB4 : isBoolT Try.prog 4 = true := by kernel_rfl
@[simp] theorem sz44 : szT Try.prog 62 = some 1 := by kernel_rfl
@[simp] theorem sz23 : szT Try.prog 23 = some 1 := by kernel_rfl
@[simp] theorem sz24 : szT Try.prog 24 = some 1 := by kernel_rfl
@[simp] theorem sz3 : szT Try.prog 3 = some 1 := by kernel_rfl
@[simp] theorem zc23 : zcT Try.prog 23 = some [.pl true [] 0 (some 0)] := by kernel_rfl
@[simp] theorem zc24 : zcT Try.prog 24 = some [.v (.int .u64 0)] := by kernel_rfl
@[simp] theorem zc3 : zcT Try.prog 3 = some [.v (.int .i64 0)] := by kernel_rfl
@[simp] theorem zc51 : zcT Try.prog 69 = some [.pl true [] 0 (some 0)] := by kernel_rfl
@[simp] theorem fld51 : fldT Try.prog 69 0 = some (23, 0) := by kernel_rfl
theorem orders : Try.prog.follows .mixedOrders = true := by kernel_rfl

/-- A digit, as a value. -/
@[simp] def dg (x : Nat) : AV := .v (.int .u32 (x : Int))
@[simp] def u (x : Nat) : AV := .v (.int .u64 (x : Int))
@[simp] def i (x : Int) : AV := .v (.int .i64 x)
@[simp] def bo (b : Bool) : AV := .v (.bool b)
/-- Digits, as a slice that nobody writes. -/
def sl (nl : Bool) (a : List Nat) (cap : Option Nat) : AV := .pl (nl && a.isEmpty) (a.map dg) a.length cap

theorem dg_get {a : List Nat} {k : Nat} (h : k < a.length) : (a.map dg)[k]? = some (.v (.int .u32 ((a[k]'h : Nat) : Int))) := by simp [dg, h]

def Dig (a : List Nat) : Prop := ∀ x ∈ a, x < 4294967296
theorem Dig.at {a : List Nat} (h : Dig a) {k : Nat} (hk : k < a.length) : a[k] < 4294967296 := h _ (List.getElem_mem hk)

/-- The digit at a place; 0 behind all. -/
def at' (a : List Nat) (k : Nat) : Nat := a.getD k 0
theorem at'_lt {a : List Nat} (h : Dig a) (k : Nat) : at' a k < 4294967296 := by
  unfold at'
  rcases Nat.lt_or_ge k a.length with hk | hk
  · rw [List.getD_eq_getElem?_getD, List.getElem?_eq_getElem hk]; exact h.at hk
  · rw [List.getD_eq_getElem?_getD, List.getElem?_eq_none hk]; decide

theorem digit_ctr (nl : Bool) (a : List Nat) (cap : Option Nat) (k : Nat) (ha : Dig a) : Ctr Try.prog 71 [sl nl a cap, i k] (fun r => r = u (at' a k)) := by
  refine ctr_val Try.func71 rfl (by kernel_rfl) rfl (by simp) fun K hK => ?_
  unfold sl
  by_cases hk : k < a.length
  · have hx := ha.at hk
    have hw : IntKind.u64.wrap (a[k] : Int) = (a[k] : Int) := IntWalk.u64_in _ (by omega)
    simp [Try.f71, hk, hw, at'] at hK ⊢
    exact hK _
  · simp [Try.f71, hk, at'] at hK ⊢
    exact hK _
theorem at_ctr (nl : Bool) (a : List Nat) (cap : Option Nat) (k : Nat) (ha : Dig a) : Ctr Try.prog 72 [sl nl a cap, i k] (fun r => r = u (at' a k)) := by
  refine ctr_val Try.func72 rfl (by kernel_rfl) rfl (by simp) fun K hK => ?_
  unfold sl
  by_cases hk : k < a.length
  · have hx := ha.at hk
    have hw : IntKind.u64.wrap (a[k] : Int) = (a[k] : Int) := IntWalk.u64_in _ (by omega)
    simp [Try.f72, hk, Nat.not_le.2 hk, hw, at'] at hK ⊢
    exact hK _
  · simp [Try.f72, hk, Nat.le_of_not_lt hk, at'] at hK ⊢
    exact hK _

/-! ### Compare -/
theorem isNaN_int (k : Int) : Ctr Try.prog 84 [i k] (fun r => r = bo false) := by
  refine ctr_val Try.func84 rfl (by kernel_rfl) rfl (by simp) fun K hK => ?_
  simp [Try.f84] at hK ⊢
  exact hK _
theorem isNaN_u32 (k : Nat) : Ctr Try.prog 85 [dg k] (fun r => r = bo false) := by
  refine ctr_val Try.func85 rfl (by kernel_rfl) rfl (by simp) fun K hK => ?_
  simp [Try.f85] at hK ⊢
  exact hK _
def cmp3 (a b : Int) : Int := if a < b then -1 else if b < a then 1 else 0
theorem compare_int (a b : Int) : Ctr Try.prog 69 [i a, i b] (fun r => r = i (cmp3 a b)) := by
  refine ctr_val Try.func69 rfl (by kernel_rfl) rfl (by simp) fun K hK => ?_
  simp [Try.f69, cmp3] at hK ⊢
  refine acall_by (isNaN_int a) (by simp) ?_
  rintro _ rfl
  simp
  refine acall_by (isNaN_int b) (by simp) ?_
  rintro _ rfl
  simp
  by_cases h1 : a < b
  · simpa [h1] using hK []
  · by_cases h2 : b < a <;> simpa [h1, h2] using hK []
theorem compare_u32 (a b : Nat) : Ctr Try.prog 70 [dg a, dg b] (fun r => r = i (cmp3 a b)) := by
  refine ctr_val Try.func70 rfl (by kernel_rfl) rfl (by simp) fun K hK => ?_
  simp [Try.f70, cmp3] at hK ⊢
  refine acall_by (isNaN_u32 a) (by simp) ?_
  rintro _ rfl
  simp
  refine acall_by (isNaN_u32 b) (by simp) ?_
  rintro _ rfl
  simp
  by_cases h1 : a < b
  · simpa [h1] using hK []
  · by_cases h2 : b < a <;> simpa [h1, h2] using hK []
end Go.Proofs.Nt
