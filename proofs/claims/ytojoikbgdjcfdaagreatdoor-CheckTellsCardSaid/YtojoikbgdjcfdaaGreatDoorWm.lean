import Derived.Test.YtojoikbgdjcfdaaGreatDoorWa
import Derived.Test.YtojoikbgdjcfdaaGreatDoorWb
import Derived.Test.YtojoikbgdjcfdaaGreatDoorWc
import Derived.Test.YtojoikbgdjcfdaaGreatDoorWd
import Derived.Test.YtojoikbgdjcfdaaGreatDoorWe
import Derived.Test.YtojoikbgdjcfdaaGreatDoorWf
import Derived.Test.YtojoikbgdjcfdaaGreatDoorWg
import Derived.Test.YtojoikbgdjcfdaaGreatDoorWh
import Derived.Test.YtojoikbgdjcfdaaGreatDoorWi
import Derived.Test.YtojoikbgdjcfdaaGreatDoorWk
import Derived.Test.YtojoikbgdjcfdaaGreatDoorWl
/- Plans in plain Lean: which may be, and how many rows and rotations come of them. -/
set_option linter.unusedVariables false
set_option linter.unusedSimpArgs false
namespace Go.Proofs.Nt
open Go Go.Proofs Go.Proofs.Va Go.RowKit

/-- How many things there are behind these steps; none: somewhere too few. -/
def hgt : List Int → Nat → Option Nat
  | [], h => some h
  | k :: l, h => if k = -1 then (if h < 2 then none else hgt l (h - 1)) else hgt l (h + 1)
theorem hgt_append (a b : List Int) : ∀ h, hgt (a ++ b) h = (hgt a h).bind (hgt b) := by
  induction a with
  | nil => intro h; rfl
  | cons k a ih =>
    intro h
    simp only [List.cons_append, hgt]
    split
    · split
      · rfl
      · exact ih _
    · exact ih _
theorem hgt_le (a : List Int) : ∀ h z, hgt a h = some z → z ≤ h + a.length := by
  induction a with
  | nil => intro h z e; cases e; simp
  | cons k a ih =>
    intro h z e
    simp only [hgt] at e
    simp only [List.length_cons]
    split at e
    · split at e
      · cases e
      · have := ih _ _ e; omega
    · have := ih _ _ e; omega
theorem hgt_none {a b : List Int} {h : Nat} (e : hgt a h = none) : hgt (a ++ b) h = none := by rw [hgt_append, e]; rfl
theorem hgt_snoc {a : List Int} {h z : Nat} (k : Int) (e : hgt a h = some z) : hgt (a ++ [k]) h = if k = -1 then (if z < 2 then none else some (z - 1)) else some (z + 1) := by
  rw [hgt_append, e]; rfl

/-- One step that may be, behind those ahead of it. -/
def entB (n : Int) (a : List Int) (k : Int) : Bool := decide (-1 ≤ k ∧ k < n) && !(decide (0 ≤ k) && a.contains k)
def entOk (n : Int) : List Int → List Int → Bool
  | _, [] => true
  | a, k :: l => entB n a k && entOk n (a ++ [k]) l
theorem entOk_append (n : Int) (l m : List Int) : ∀ a, entOk n a (l ++ m) = (entOk n a l && entOk n (a ++ l) m) := by
  induction l with
  | nil => intro a; simp [entOk]
  | cons k l ih => intro a; simp only [List.cons_append, entOk]; rw [ih, Bool.and_assoc]; simp
theorem entOk_snoc (n : Int) (l : List Int) (k : Int) : entOk n [] (l ++ [k]) = (entOk n [] l && entB n l k) := by
  rw [entOk_append]; simp [entOk]
theorem entOk_take {n : Int} {l : List Int} (h : entOk n [] l = true) {j : Nat} (hj : j < l.length) : -1 ≤ l.getD j 0 ∧ l.getD j 0 < n := by
  have e : l = l.take j ++ [l.getD j 0] ++ l.drop (j + 1) := by simp [hj]
  rw [e, List.append_assoc, entOk_append, Bool.and_eq_true] at h
  have h2 := h.2
  simp only [List.nil_append, List.cons_append, entOk, Bool.and_eq_true, entB] at h2
  exact of_decide_eq_true h2.1.1

def planOk (l : List Int) (n : Int) : Bool := entOk n [] l && (hgt l 0 == some 1)
def planE (l : List Int) (n : Int) : Int := if planOk l n = true then 0 else 10

/-! ### How many rows and rotations -/
abbrev PairI := Int × Int
def joinC (cost : Int) (a b : PairI) : PairI := (a.1 + b.1, max a.2 b.2 + cost)
def mayC (c : PairI) : Bool := decide ((0 ≤ c.1 ∧ c.1 ≤ 200) ∧ 0 ≤ c.2 ∧ c.2 ≤ 4096)
def cnt (cost : Int) (rows turns : List Int) : List Int → List PairI → Option (List PairI)
  | [], s => some s
  | k :: l, s => if k = -1 then
      (if mayC (joinC cost (s.getD (s.length - 2) (0, 0)) (s.getD (s.length - 1) (0, 0))) = true then
        cnt cost rows turns l (s.take (s.length - 2) ++ [joinC cost (s.getD (s.length - 2) (0, 0)) (s.getD (s.length - 1) (0, 0))]) else none)
      else cnt cost rows turns l (s ++ [(rows.getD k.toNat 0, turns.getD k.toNat 0)])
def rngB (rows turns : List Int) : Bool := (List.range rows.length).all fun j => mayC (rows.getD j 0, turns.getD j 0)
theorem rng_at {rows turns : List Int} (h : rngB rows turns = true) {j : Nat} (hj : j < rows.length) : mayC (rows.getD j 0, turns.getD j 0) = true := List.all_eq_true.1 h j (List.mem_range.2 hj)
theorem rng_of {rows turns : List Int} (h : ∀ j, j < rows.length → mayC (rows.getD j 0, turns.getD j 0) = true) : rngB rows turns = true := List.all_eq_true.2 fun j hj => h j (List.mem_range.1 hj)
theorem rng_not {rows turns : List Int} {j : Nat} (hj : j < rows.length) (h : ¬ mayC (rows.getD j 0, turns.getD j 0) = true) : rngB rows turns = false := by
  rw [Bool.eq_false_iff]; intro e; exact h (rng_at e hj)
theorem mayC_def {a b : Int} : mayC (a, b) = true ↔ (0 ≤ a ∧ a ≤ 200) ∧ 0 ≤ b ∧ b ≤ 4096 := decide_eq_true_iff
def countsE (l : List Int) (c : Int) (rows turns : List Int) : Int × Int × Int :=
  if sizeI c = 0 ∨ rows.length ≠ turns.length then (0, 0, 1) else if rngB rows turns = false then (0, 0, 1) else if planOk l rows.length = false then (0, 0, 10) else
  match cnt (sizeI c) rows turns l [] with
  | none => (0, 0, 6)
  | some s => ((s.getD 0 (0, 0)).1, (s.getD 0 (0, 0)).2, 0)

/-- The stack's height is what hgt says; all on it may be. -/
theorem cnt_len {cost : Int} {rows turns : List Int} : ∀ (l : List Int) (s t : List PairI) (z : Nat), hgt l s.length = some z → cnt cost rows turns l s = some t → t.length = z := by
  intro l
  induction l with
  | nil => intro s t z h e; cases h; cases e; rfl
  | cons k l ih =>
    intro s t z h e
    simp only [hgt] at h
    simp only [cnt] at e
    split at h
    · rename_i hk
      rw [if_pos hk] at e
      split at h
      · cases h
      · split at e
        · refine ih _ _ _ ?_ e
          rw [List.length_append, List.length_take, List.length_singleton, show min (s.length - 2) s.length + 1 = s.length - 1 by omega]; exact h
        · cases e
    · rename_i hk
      rw [if_neg hk] at e
      exact ih _ _ _ (by rw [List.length_append, List.length_singleton]; exact h) e
theorem cnt_all {cost : Int} {rows turns : List Int} (hr : rngB rows turns = true) : ∀ (l : List Int) (s t : List PairI) (z : Nat), hgt l s.length = some z → (∀ k ∈ l, -1 ≤ k ∧ k < rows.length) → (∀ x ∈ s, mayC x = true) → cnt cost rows turns l s = some t → ∀ x ∈ t, mayC x = true := by
  intro l
  induction l with
  | nil => intro s t z h _ hs e; cases e; exact hs
  | cons k l ih =>
    intro s t z h hk hs e
    simp only [hgt] at h
    simp only [cnt] at e
    split at h
    · rename_i hk1
      rw [if_pos hk1] at e
      split at h
      · cases h
      · split at e
        · rename_i hm
          refine ih _ _ z ?_ (fun x hx => hk x (List.mem_cons_of_mem _ hx)) ?_ e
          · rw [List.length_append, List.length_take, List.length_singleton, show min (s.length - 2) s.length + 1 = s.length - 1 by omega]; exact h
          · intro x hx
            rcases List.mem_append.1 hx with hx | hx
            · exact hs x (List.mem_of_mem_take hx)
            · rw [List.mem_singleton.1 hx]; exact hm
        · cases e
    · rename_i hk1
      rw [if_neg hk1] at e
      refine ih _ _ z (by rw [List.length_append, List.length_singleton]; exact h) (fun x hx => hk x (List.mem_cons_of_mem _ hx)) ?_ e
      intro x hx
      rcases List.mem_append.1 hx with hx | hx
      · exact hs x hx
      · rw [List.mem_singleton.1 hx]
        have := hk k (by simp)
        exact rng_at hr (by omega)
theorem cnt_append {cost : Int} {rows turns : List Int} (a b : List Int) : ∀ s, cnt cost rows turns (a ++ b) s = (cnt cost rows turns a s).bind (cnt cost rows turns b) := by
  induction a with
  | nil => intro s; rfl
  | cons k a ih =>
    intro s
    simp only [List.cons_append, cnt]
    split
    · split
      · exact ih _
      · rfl
    · exact ih _
end Go.Proofs.Nt
/- What is wrong with what is asked, in plain Lean. -/
set_option linter.unusedVariables false
set_option linter.unusedSimpArgs false
namespace Go.Proofs.Nt
open Go Go.Proofs Go.Proofs.Va Go.RowKit

/-! ### A factor's bytes -/
def byteN (b : ByteArray) (k : Nat) : Nat := (b.data.getD k 0).toNat
theorem byteN_lt (b : ByteArray) (k : Nat) : byteN b k < 256 := UInt8.toNat_lt _
def wordN (b : ByteArray) (k : Nat) : Nat → Nat
  | 0 => 0
  | n + 1 => wordN b k n * 256 + byteN b (k + n)
theorem wordN_lt (b : ByteArray) (k : Nat) : ∀ n, wordN b k n < 256 ^ n := by
  intro n
  induction n with
  | zero => simp [wordN]
  | succ n ih =>
    have := byteN_lt b (k + n)
    simp only [wordN, Nat.pow_succ]
    omega
/-- Neither an infinity nor NaN. -/
def numB (x : Nat) : Bool := decide (frg x < 9218868437227405312)
structure FaV where
  cols : Int
  tri : List Nat
  rows : Int
  turns : Int
def wordsN (b : ByteArray) (n : Nat) : List Nat := (List.range n).map fun j => wordN b (6 + 8 * j) 8
def facOf (b : ByteArray) : FaV := ⟨byteN b 1, wordsN b (sizeI (byteN b 1)).toNat, ((byteN b 2 * 256 + byteN b 3 : Nat) : Int), ((byteN b 4 * 256 + byteN b 5 : Nat) : Int)⟩
def decE (b : ByteArray) : Int :=
  if b.size < 6 ∨ byteN b 0 ≠ 81 ∨ sizeI (byteN b 1) = 0 then 9 else if (b.size : Int) ≠ 6 + 8 * sizeI (byteN b 1) then 3 else
  if (facOf b).tri.all numB = false then 2 else if triOk (facOf b).cols (facOf b).tri (facOf b).rows (facOf b).turns = false then 2 else 0
def decF (b : ByteArray) : FaV := if decE b = 0 then facOf b else ⟨0, [], 0, 0⟩

/-! ### Shapes, and what is asked -/
structure ShV where
  cols : Int
  rows : List Int
  turns : List Int
  deriving DecidableEq
structure OpV where
  kind : Int
  shard : Int
  frm : Int
  x : List Nat
  xn : Bool
  xc : Option Nat
  y : Nat
  beta : Nat
  mu : Nat
  plan : List Int
  pn : Bool
  pc : Option Nat
  bytes : ByteArray
def ShV.may (s : ShV) : Bool := decide (sizeI s.cols ≠ 0 ∧ 1 ≤ s.rows.length ∧ s.rows.length ≤ 8 ∧ s.turns.length = s.rows.length) && rngB s.rows s.turns
def ShV.row (s : ShV) (k : Int) : Int := s.rows.getD k.toNat 0
def ShV.turn (s : ShV) (k : Int) : Int := s.turns.getD k.toNat 0
def ShV.has (s : ShV) (k : Int) : Bool := decide (0 ≤ k ∧ k < s.rows.length)
def roomE (t m : Int) : Int := if 4096 < t + m then 6 else 0
def rowE (s : ShV) (o : OpV) : Int :=
  if (o.x.length : Int) ≠ s.cols then 3 else if (o.x.all inB && inB o.y) = false then 2 else
  if o.kind = 2 ∧ s.row o.shard = 0 then 5 else if o.kind = 1 ∧ s.row o.shard = 200 then 6 else roomE (s.turn o.shard) (s.cols + 1)
def bothE (s : ShV) (o : OpV) : Int :=
  if s.has o.frm = false ∨ o.frm = o.shard then 1 else if 200 < s.row o.shard + s.row o.frm then 6 else roomE (max (s.turn o.shard) (s.turn o.frm)) (sizeI s.cols)
def loadE (s : ShV) (o : OpV) : Int := if decE o.bytes = 0 ∧ (facOf o.bytes).cols ≠ s.cols then 3 else decE o.bytes
def ansE (s : ShV) (o : OpV) : Int :=
  if (countsE o.plan s.cols s.rows s.turns).2.2 ≠ 0 then (countsE o.plan s.cols s.rows s.turns).2.2 else
  if o.kind = 8 ∧ (countsE o.plan s.cols s.rows s.turns).1 ≤ s.cols then 5 else if o.kind = 8 then 0 else
  if inB o.mu = false ∨ fsg o.mu = true then 2 else if frg o.mu = 0 then 0 else roomE (countsE o.plan s.cols s.rows s.turns).2.1 (s.cols * (s.cols + 1))
def lookE (s : ShV) (o : OpV) : Int :=
  if o.kind = 1 ∨ o.kind = 2 then rowE s o else if o.kind = 3 then (if mayB o.beta = true then roomE (s.turn o.shard) 1 else 12) else
  if o.kind = 4 then bothE s o else if o.kind = 6 then loadE s o else if o.kind = 7 ∨ o.kind = 8 then ansE s o else 0
def badO (s : ShV) (o : OpV) : Prop := s.may = false ∨ o.kind < 1 ∨ 8 < o.kind ∨ (o.kind ≤ 6 ∧ s.has o.shard = false)
instance (s : ShV) (o : OpV) : Decidable (badO s o) := by unfold badO; infer_instance
def opE (s : ShV) (o : OpV) : Int := if badO s o then 1 else lookE s o
def nextS (s : ShV) (o : OpV) : ShV :=
  if opE s o ≠ 0 ∨ o.kind = 5 ∨ o.kind = 7 ∨ o.kind = 8 then s else
  if o.kind = 1 then ⟨s.cols, s.rows.set o.shard.toNat (s.row o.shard + 1), s.turns.set o.shard.toNat (s.turn o.shard + (s.cols + 1))⟩ else
  if o.kind = 2 then ⟨s.cols, s.rows.set o.shard.toNat (s.row o.shard - 1), s.turns.set o.shard.toNat (s.turn o.shard + (s.cols + 1))⟩ else
  if o.kind = 3 then ⟨s.cols, s.rows, s.turns.set o.shard.toNat (s.turn o.shard + 1)⟩ else
  if o.kind = 4 then ⟨s.cols, (s.rows.set o.shard.toNat (s.row o.shard + s.row o.frm)).set o.frm.toNat 0, (s.turns.set o.shard.toNat (max (s.turn o.shard) (s.turn o.frm) + sizeI s.cols)).set o.frm.toNat 0⟩ else
  ⟨s.cols, s.rows.set o.shard.toNat (facOf o.bytes).rows, s.turns.set o.shard.toNat (facOf o.bytes).turns⟩

/-- The shape behind the first j things; the numbers that are told. -/
def opD : OpV := ⟨0, 0, 0, [], true, some 0, 0, 0, 0, [], true, some 0, ByteArray.empty⟩
def runS (s : ShV) (l : List OpV) (w : List Bool) : Nat → ShV
  | 0 => s
  | j + 1 => if w.getD j true = true then nextS (runS s l w j) (l.getD j opD) else runS s l w j
def tabE (s : ShV) (l : List OpV) (w : List Bool) : List Int := (List.range l.length).map fun j => opE (runS s l w j) (l.getD j opD)

/-! ### As values -/
def zsl (nl : Bool) (l : List Int) (cap : Option Nat) : AV := .pl (nl && l.isEmpty) (l.map i) l.length cap
structure Fg where
  rn : Bool
  rc : Option Nat
  tn : Bool
  tc : Option Nat
def ShV.av (s : ShV) (f : Fg) : AV := .agg [i s.cols, zsl f.rn s.rows f.rc, zsl f.tn s.turns f.tc]
def OpV.cs (o : OpV) : List AV := [i o.kind, i o.shard, i o.frm, fsl o.xn o.x o.xc, fl o.y, fl o.beta, fl o.mu, zsl o.pn o.plan o.pc, .v (.string o.bytes)]
def OpV.av (o : OpV) : AV := .agg o.cs
/-- Few enough, and floats. -/
structure OpV.fit (o : OpV) : Prop where
  fx : Fl o.x
  fy : o.y < 18446744073709551616
  fb : o.beta < 18446744073709551616
  fm : o.mu < 18446744073709551616
  lx : o.x.length ≤ 100000
  lp : o.plan.length ≤ 100000
  lb : o.bytes.size ≤ 100000
structure ShV.fit (s : ShV) : Prop where
  lr : s.rows.length ≤ 100000
  lt : s.turns.length ≤ 100000
theorem sh_cols {s : ShV} (h : s.may = true) : 1 ≤ s.cols ∧ s.cols ≤ 6 := by
  unfold ShV.may at h
  rw [Bool.and_eq_true] at h
  have := (of_decide_eq_true h.1).1
  unfold sizeI at this
  split at this
  · assumption
  · exact absurd rfl this
theorem sh_len {s : ShV} (h : s.may = true) : 1 ≤ s.rows.length ∧ s.rows.length ≤ 8 ∧ s.turns.length = s.rows.length := by
  unfold ShV.may at h
  rw [Bool.and_eq_true] at h
  exact (of_decide_eq_true h.1).2
theorem sh_rng {s : ShV} (h : s.may = true) : rngB s.rows s.turns = true := by
  unfold ShV.may at h
  rw [Bool.and_eq_true] at h
  exact h.2
theorem sh_at {s : ShV} (h : s.may = true) {k : Int} (hk : s.has k = true) : (0 ≤ s.row k ∧ s.row k ≤ 200) ∧ 0 ≤ s.turn k ∧ s.turn k ≤ 4096 := by
  have hk := of_decide_eq_true hk
  exact mayC_def.1 (rng_at (sh_rng h) (j := k.toNat) (by omega))
theorem counts_rng {l : List Int} {c : Int} {rows turns : List Int} (hr : rngB rows turns = true) (h0 : (countsE l c rows turns).2.2 = 0) : 0 ≤ (countsE l c rows turns).2.1 ∧ (countsE l c rows turns).2.1 ≤ 4096 := by
  unfold countsE at h0 ⊢
  split at h0
  · cases h0
  · rename_i q1
    rw [if_neg q1]
    split at h0
    · cases h0
    · rename_i q2
      rw [if_neg q2]
      split at h0
      · cases h0
      · rename_i q3
        rw [if_neg q3]
        cases hc : cnt (sizeI c) rows turns l [] with
        | none => rw [hc] at h0; cases h0
        | some s =>
          have hp : planOk l rows.length = true := Bool.not_eq_false _ ▸ q3
          unfold planOk at hp
          rw [Bool.and_eq_true, beq_iff_eq] at hp
          have hl := cnt_len l [] s 1 hp.2 hc
          have ha := cnt_all hr l [] s 1 hp.2 (fun k hk => by
            obtain ⟨j, hj, rfl⟩ := List.getElem_of_mem hk
            have := entOk_take hp.1 hj
            rw [show l.getD j 0 = l[j] by simp [hj]] at this
            exact this) (by simp) hc
          have := ha (s.getD 0 (0, 0)) (by rw [show s.getD 0 (0, 0) = s[0]'(by omega) by simp [show 0 < s.length by omega]]; exact List.getElem_mem _)
          exact (mayC_def.1 this).2
end Go.Proofs.Nt
/- What holds of what comes next, in plain Lean. -/
set_option linter.unusedVariables false
set_option linter.unusedSimpArgs false
namespace Go.Proofs.Nt
open Go Go.Proofs Go.Proofs.Va Go.RowKit

theorem sum_set : ∀ (l : List Int) (k : Nat) (v : Int), k < l.length → (l.set k v).sum = l.sum - l.getD k 0 + v
  | [], k, v, h => by simp at h
  | x :: l, 0, v, h => by simp; omega
  | x :: l, k + 1, v, h => by
    have := sum_set l k v (by simpa using h)
    simp only [List.set_cons_succ, List.sum_cons, List.getD_cons_succ]
    omega
theorem getD_set (l : List Int) (k j : Nat) (v : Int) (hj : j < l.length) : (l.set k v).getD j 0 = if k = j then v else l.getD j 0 := by
  by_cases h : k = j
  · subst h; simp [hj]
  · simp [h, List.getElem?_set_ne h]
theorem rng_set {rows turns : List Int} (h : rngB rows turns = true) (hl : turns.length = rows.length) (k : Nat) {a b : Int} (hm : mayC (a, b) = true) : rngB (rows.set k a) (turns.set k b) = true := by
  refine rng_of fun j hj => ?_
  rw [List.length_set] at hj
  rw [getD_set _ _ _ _ hj, getD_set _ _ _ _ (by omega)]
  by_cases e : k = j
  · rw [if_pos e, if_pos e]; exact hm
  · rw [if_neg e, if_neg e]; exact rng_at h hj
theorem set_self (l : List Int) (k : Nat) : l.set k (l.getD k 0) = l := by
  apply List.ext_getElem?
  intro j
  by_cases h : k = j
  · subst h
    by_cases hk : k < l.length <;> simp [hk]
  · rw [List.getElem?_set_ne h]

theorem opE_bad {s : ShV} {o : OpV} (h : badO s o) : opE s o = 1 := if_pos h
theorem opE_ok {s : ShV} {o : OpV} (h : ¬ badO s o) : opE s o = lookE s o := if_neg h
theorem nb_may {s : ShV} {o : OpV} (h : ¬ badO s o) : s.may = true := by
  by_cases e : s.may = true
  · exact e
  · exact absurd (.inl (Bool.eq_false_iff.2 e)) h
theorem nb_kind {s : ShV} {o : OpV} (h : ¬ badO s o) : 1 ≤ o.kind ∧ o.kind ≤ 8 :=
  ⟨by by_cases e : o.kind < 1; exact absurd (.inr (.inl e)) h; omega, by by_cases e : 8 < o.kind; exact absurd (.inr (.inr (.inl e))) h; omega⟩
theorem nb_has {s : ShV} {o : OpV} (h : ¬ badO s o) (hk : o.kind ≤ 6) : s.has o.shard = true := by
  by_cases e : s.has o.shard = true
  · exact e
  · exact absurd (.inr (.inr (.inr ⟨hk, Bool.eq_false_iff.2 e⟩))) h
theorem has_iff {s : ShV} {k : Int} : s.has k = true ↔ 0 ≤ k ∧ k < s.rows.length := decide_eq_true_iff
theorem opE_may {s : ShV} (o : OpV) (h : s.may = false) : opE s o = 1 := opE_bad (.inl h)
theorem room_le {t m : Int} (h : roomE t m = 0) : t + m ≤ 4096 := by
  unfold roomE at h
  split at h
  · cases h
  · omega
theorem room_le' {t m : Int} (h : t + m ≤ 4096) : roomE t m = 0 := if_neg (by omega)
theorem room_gt {t m : Int} (h : ¬ t + m ≤ 4096) : roomE t m = 6 := if_pos (by omega)
theorem nextS_same {s : ShV} {o : OpV} (h : opE s o ≠ 0 ∨ o.kind = 5 ∨ o.kind = 7 ∨ o.kind = 8) : nextS s o = s := if_pos h

/-- What one thing turns. -/
inductive Turn (s : ShV) (o : OpV) (t : ShV) : Prop
  | one (a b : Int) (h1 : t = ⟨s.cols, s.rows.set o.shard.toNat a, s.turns.set o.shard.toNat b⟩) (h2 : mayC (a, b) = true) (hk : o.kind ≠ 4)
      (hs : (o.kind = 1 → a = s.row o.shard + 1) ∧ (o.kind = 2 → a = s.row o.shard - 1) ∧ (o.kind = 3 → a = s.row o.shard)) (hb : o.kind = 1 ∨ o.kind = 2 → b = s.turn o.shard + (s.cols + 1))
  | two (h1 : t = ⟨s.cols, (s.rows.set o.shard.toNat (s.row o.shard + s.row o.frm)).set o.frm.toNat 0, (s.turns.set o.shard.toNat (max (s.turn o.shard) (s.turn o.frm) + sizeI s.cols)).set o.frm.toNat 0⟩)
      (h2 : mayC (s.row o.shard + s.row o.frm, max (s.turn o.shard) (s.turn o.frm) + sizeI s.cols) = true) (hf : s.has o.frm = true) (hd : o.frm ≠ o.shard) (hk : o.kind = 4)

theorem dec_ok {b : ByteArray} (h : decE b = 0) : triOk (facOf b).cols (facOf b).tri (facOf b).rows (facOf b).turns = true := by
  unfold decE at h
  split at h
  · cases h
  · split at h
    · cases h
    · split at h
      · cases h
      · split at h
        · cases h
        · rename_i h1
          exact Bool.not_eq_false _ ▸ h1

theorem next_turn {s : ShV} {o : OpV} (h0 : opE s o = 0) (h5 : o.kind ≠ 5) (h7 : o.kind ≠ 7) (h8 : o.kind ≠ 8) : s.may = true ∧ s.has o.shard = true ∧ Turn s o (nextS s o) := by
  have hb : ¬ badO s o := fun h => by rw [opE_bad h] at h0; cases h0
  have hm := nb_may hb
  obtain ⟨k1, k8⟩ := nb_kind hb
  have hh := nb_has hb (by omega)
  refine ⟨hm, hh, ?_⟩
  have hr := sh_at hm hh
  rw [opE_ok hb] at h0
  have hn : ¬ (opE s o ≠ 0 ∨ o.kind = 5 ∨ o.kind = 7 ∨ o.kind = 8) := by
    rintro (h | h | h | h)
    · exact h (by rw [opE_ok hb]; exact h0)
    · exact h5 h
    · exact h7 h
    · exact h8 h
  unfold nextS
  rw [if_neg hn]
  unfold lookE at h0
  by_cases e1 : o.kind = 1
  · rw [if_pos (.inl e1)] at h0
    unfold rowE at h0
    split at h0; · cases h0
    split at h0; · cases h0
    split at h0; · cases h0
    split at h0; · cases h0
    rename_i _ _ _ hf
    have := room_le h0
    have hne : s.row o.shard ≠ 200 := fun e => hf ⟨e1, e⟩
    have hc := sh_cols hm
    rw [if_pos e1]
    exact .one _ _ rfl (mayC_def.2 (by omega)) (by omega) ⟨fun _ => rfl, by omega, by omega⟩ (fun _ => rfl)
  by_cases e2 : o.kind = 2
  · rw [if_pos (.inr e2)] at h0
    unfold rowE at h0
    split at h0; · cases h0
    split at h0; · cases h0
    split at h0; · cases h0
    split at h0; · cases h0
    rename_i _ _ hf _
    have := room_le h0
    have hne : s.row o.shard ≠ 0 := fun e => hf ⟨e2, e⟩
    have hc := sh_cols hm
    rw [if_neg e1, if_pos e2]
    exact .one _ _ rfl (mayC_def.2 (by omega)) (by omega) ⟨by omega, fun _ => rfl, by omega⟩ (fun _ => rfl)
  rw [if_neg (by omega)] at h0
  by_cases e3 : o.kind = 3
  · rw [if_pos e3] at h0
    split at h0
    · have := room_le h0
      rw [if_neg e1, if_neg e2, if_pos e3]
      exact .one (s.row o.shard) _ (by unfold ShV.row; rw [set_self]) (mayC_def.2 (by omega)) (by omega) ⟨by omega, by omega, fun _ => rfl⟩ (by omega)
    · cases h0
  rw [if_neg e3] at h0
  by_cases e4 : o.kind = 4
  · rw [if_pos e4] at h0
    unfold bothE at h0
    split at h0; · cases h0
    split at h0; · cases h0
    rename_i hf hg
    have hfr : s.has o.frm = true := by
      by_cases e : s.has o.frm = true
      · exact e
      · exact absurd (.inl (Bool.eq_false_iff.2 e)) hf
    have hr2 := sh_at hm hfr
    have := room_le h0
    have hz : 0 ≤ sizeI s.cols := by unfold sizeI; split <;> omega
    rw [if_neg e1, if_neg e2, if_neg e3, if_pos e4]
    exact .two rfl (mayC_def.2 (by omega)) hfr (fun e => hf (.inr e)) e4
  rw [if_neg e4] at h0
  have e6 : o.kind = 6 := by omega
  rw [if_pos e6] at h0
  unfold loadE at h0
  split at h0; · cases h0
  have ht := triOk_pre (dec_ok h0)
  rw [if_neg e1, if_neg e2, if_neg e3, if_neg e4]
  exact .one _ _ rfl (mayC_def.2 ⟨ht.2.2.1, ht.2.2.2⟩) (by omega) ⟨by omega, by omega, by omega⟩ (by omega)

theorem may_of {s t : ShV} (hm : s.may = true) (hc : t.cols = s.cols) (hl : t.rows.length = s.rows.length) (hl2 : t.turns.length = s.turns.length) (hr : rngB t.rows t.turns = true) : t.may = true := by
  have h := hm
  unfold ShV.may at h ⊢
  rw [Bool.and_eq_true] at h ⊢
  exact ⟨decide_eq_true (by have := of_decide_eq_true h.1; rw [hc, hl, hl2]; exact this), hr⟩
theorem turn_may {s t : ShV} {o : OpV} (hm : s.may = true) (h : Turn s o t) : t.may = true ∧ t.cols = s.cols ∧ t.rows.length = s.rows.length ∧ t.turns.length = s.turns.length := by
  have hl := (sh_len hm).2.2
  cases h with
  | one a b h1 h2 hk hs hb =>
    subst h1
    exact ⟨may_of hm rfl (by simp) (by simp) (rng_set (sh_rng hm) hl _ h2), rfl, by simp, by simp⟩
  | two h1 h2 hf hd hk =>
    subst h1
    exact ⟨may_of hm rfl (by simp) (by simp) (rng_set (rng_set (sh_rng hm) hl _ h2) (by simp [hl]) _ (by decide)), rfl, by simp, by simp⟩
/-- Other shards stay as they were. -/
theorem turn_other {s t : ShV} {o : OpV} (hm : s.may = true) (hh : s.has o.shard = true) (h : Turn s o t) {j : Nat} (hj : j < s.rows.length) (hd : (j : Int) ≠ o.shard) (hf : o.kind ≠ 4 ∨ (j : Int) ≠ o.frm) :
    t.rows.getD j 0 = s.rows.getD j 0 ∧ t.turns.getD j 0 = s.turns.getD j 0 := by
  have hl := (sh_len hm).2.2
  have h0 := (has_iff.1 hh).1
  cases h with
  | one a b h1 h2 hk hs hb =>
    subst h1
    simp only
    rw [getD_set _ _ _ _ hj, getD_set _ _ _ _ (by omega), if_neg (by omega), if_neg (by omega)]
    exact ⟨rfl, rfl⟩
  | two h1 h2 hfr hd2 hk =>
    subst h1
    have := (has_iff.1 hfr).1
    have hjf : (j : Int) ≠ o.frm := by rcases hf with h | h; exact absurd hk h; exact h
    simp only
    rw [getD_set _ _ _ _ (by simpa using hj), getD_set _ _ _ _ hj, getD_set _ _ _ _ (by simp; omega), getD_set _ _ _ _ (by omega), if_neg (by omega), if_neg (by omega), if_neg (by omega), if_neg (by omega)]
    exact ⟨rfl, rfl⟩
/-- How many rows there are behind it. -/
theorem turn_sum {s t : ShV} {o : OpV} (hm : s.may = true) (hh : s.has o.shard = true) (h : Turn s o t) :
    (o.kind = 1 → t.rows.sum = s.rows.sum + 1) ∧ (o.kind = 2 → t.rows.sum = s.rows.sum - 1) ∧ (o.kind = 3 ∨ o.kind = 4 → t.rows.sum = s.rows.sum) := by
  have h0 := has_iff.1 hh
  cases h with
  | one a b h1 h2 hk hs hb =>
    subst h1
    simp only
    rw [sum_set _ _ _ (by omega)]
    have : s.rows.getD o.shard.toNat 0 = s.row o.shard := rfl
    rw [this]
    refine ⟨fun e => ?_, fun e => ?_, fun e => ?_⟩
    · rw [hs.1 e]; omega
    · rw [hs.2.1 e]; omega
    · rw [hs.2.2 (by omega)]; omega
  | two h1 h2 hf hd hk =>
    subst h1
    have hf := has_iff.1 hf
    simp only
    rw [sum_set _ _ _ (by simp; omega), getD_set _ _ _ _ (by omega), if_neg (by omega), sum_set _ _ _ (by omega)]
    have e1 : s.rows.getD o.shard.toNat 0 = s.row o.shard := rfl
    have e2 : s.rows.getD o.frm.toNat 0 = s.row o.frm := rfl
    rw [e1, e2]
    refine ⟨by omega, by omega, fun e => by omega⟩
theorem run_may {s : ShV} {l : List OpV} {w : List Bool} (hm : s.may = true) : ∀ j, (runS s l w j).may = true := by
  intro j
  induction j with
  | zero => exact hm
  | succ j ih =>
    simp only [runS]
    split
    · by_cases h : opE (runS s l w j) (l.getD j opD) ≠ 0 ∨ (l.getD j opD).kind = 5 ∨ (l.getD j opD).kind = 7 ∨ (l.getD j opD).kind = 8
      · rw [nextS_same h]; exact ih
      · obtain ⟨h1, _, h3⟩ := next_turn (s := runS s l w j) (o := l.getD j opD) (by omega) (by omega) (by omega) (by omega)
        exact (turn_may h1 h3).1
    · exact ih
theorem next_len (s : ShV) (o : OpV) : (nextS s o).rows.length = s.rows.length ∧ (nextS s o).turns.length = s.turns.length := by
  unfold nextS
  repeat' split
  all_goals simp
theorem run_len (s : ShV) (l : List OpV) (w : List Bool) : ∀ j, (runS s l w j).rows.length = s.rows.length ∧ (runS s l w j).turns.length = s.turns.length := by
  intro j
  induction j with
  | zero => exact ⟨rfl, rfl⟩
  | succ j ih =>
    simp only [runS]
    split
    · have := next_len (runS s l w j) (l.getD j opD); omega
    · exact ih
theorem tab_get {s : ShV} {l : List OpV} {w : List Bool} {j : Nat} (hj : j < l.length) : (tabE s l w).getD j 0 = opE (runS s l w j) (l.getD j opD) := by
  unfold tabE
  simp [hj]
theorem tab_len (s : ShV) (l : List OpV) (w : List Bool) : (tabE s l w).length = l.length := by unfold tabE; simp
/-- Without one that went, nothing turns. -/
theorem run_none {s : ShV} {l : List OpV} {w : List Bool} (h : ∀ j, j < l.length → w.getD j true = false) : ∀ j, j ≤ l.length → runS s l w j = s := by
  intro j
  induction j with
  | zero => intro _; rfl
  | succ j ih =>
    intro hj
    simp only [runS]
    rw [if_neg (by rw [h j (by omega)]; decide)]
    exact ih (by omega)
theorem getD_take' {α} (l : List α) (d : α) {k j : Nat} (h : j < k) : (l.take k).getD j d = l.getD j d := by
  rw [List.getD_eq_getElem?_getD, List.getD_eq_getElem?_getD, List.getElem?_take, if_pos h]
theorem getD_drop' {α} (l : List α) (d : α) {k j : Nat} : (l.drop k).getD j d = l.getD (k + j) d := by
  rw [List.getD_eq_getElem?_getD, List.getD_eq_getElem?_getD, List.getElem?_drop]
theorem run_take {s : ShV} {l : List OpV} {k : Nat} : ∀ j, j ≤ k → runS s (l.take k) [] j = runS s l [] j := by
  intro j
  induction j with
  | zero => intro _; rfl
  | succ j ih => intro hj; simp only [runS]; rw [ih (by omega), getD_take' _ _ (by omega)]
theorem run_drop {s : ShV} {l : List OpV} {k : Nat} : ∀ j, runS (runS s l [] k) (l.drop k) [] j = runS s l [] (k + j) := by
  intro j
  induction j with
  | zero => rfl
  | succ j ih => show (if _ then _ else _) = (if _ then _ else _); rw [ih, getD_drop']; rfl
/-- A table in two parts. -/
theorem tab_parts (s : ShV) (l : List OpV) {k : Nat} (hk : k ≤ l.length) : tabE s l [] = tabE s (l.take k) [] ++ tabE (runS s l [] k) (l.drop k) [] := by
  apply List.ext_getElem?
  intro j
  by_cases hj : j < l.length
  · have e : ∀ (t : List Int), j < t.length → t[j]? = some (t.getD j 0) := fun t ht => by simp [ht]
    rw [e _ (by rw [tab_len]; exact hj), tab_get hj]
    by_cases hc : j < k
    · rw [List.getElem?_append_left (by rw [tab_len]; simp; omega), e _ (by rw [tab_len]; simp; omega), tab_get (by simp; omega), run_take _ (by omega), getD_take' _ _ hc]
    · have e2 := e (tabE (runS s l [] k) (l.drop k) []) 
      have hd : j - k < (l.drop k).length := by rw [List.length_drop]; omega
      have hq : (tabE (runS s l [] k) (l.drop k) [])[j - k]? = some ((tabE (runS s l [] k) (l.drop k) []).getD (j - k) 0) := by
        have : j - k < (tabE (runS s l [] k) (l.drop k) []).length := by rw [tab_len]; exact hd
        simp [this]
      rw [List.getElem?_append_right (by rw [tab_len, List.length_take]; omega), tab_len, List.length_take, Nat.min_eq_left hk, hq, tab_get hd, run_drop, getD_drop', show k + (j - k) = j by omega]
  · rw [List.getElem?_eq_none (by rw [tab_len]; omega), List.getElem?_eq_none (by rw [List.length_append, tab_len, tab_len]; simp; omega)]
end Go.Proofs.Nt
/- Own lists of anything, that grow, and that are cut. -/
set_option linter.unusedVariables false
set_option linter.unusedSimpArgs false
namespace Go.Proofs.Va
open Go Go.RowKit

/-- An own list, at place k or above: its cells, how many there are. -/
inductive OW (sz k : Nat) (σ : AHeap) : AV → List AV → Nat → Prop
  | nil : OW sz k σ (.pl true [] 0 (some 0)) [] 0
  | so (j v n : Nat) (b cs : List AV) : k ≤ j → σ[j]? = some ⟨.own, v, b⟩ → b.take (n * sz) = cs → cs.length = n * sz → OW sz k σ (.so j v 0 n sz none) cs n

theorem OW.len {sz k : Nat} {σ : AHeap} {r : AV} {cs : List AV} {n : Nat} (h : OW sz k σ r cs n) : cs.length = n * sz := by
  cases h with
  | nil => simp
  | so j v n b cs hk hj hc hl => exact hl
theorem OW.cells {sz k : Nat} {σ : AHeap} {r : AV} {cs : List AV} {n : Nat} (h : OW sz k σ r cs n) : cellsOf r = some [r] := by
  cases h with
  | nil => rfl
  | so j v n b cs hk hj hc hl => rfl
theorem OW.inv {sz k : Nat} {σ : AHeap} {r : AV} {cs : List AV} {n : Nat} (h : OW sz k σ r cs n) (hn : n ≠ 0) : ∃ j v b, r = .so j v 0 n sz none ∧ k ≤ j ∧ σ[j]? = some ⟨.own, v, b⟩ ∧ b.take (n * sz) = cs ∧ cs.length = n * sz := by
  cases h with
  | nil => exact absurd rfl hn
  | so j v n b cs hk hj hc hl => exact ⟨j, v, b, rfl, hk, hj, hc, hl⟩
theorem OW.sc {sz k : Nat} {σ : AHeap} {r : AV} {cs : List AV} {n : Nat} (h : OW sz k σ r cs n) : Sc σ.length r := by
  cases h with
  | nil => exact .pl _ _ _ _
  | so j v n b cs hk hj hc hl => exact .so _ _ _ _ _ _ (List.getElem?_eq_some_iff.1 hj).1
theorem OW.keep {sz k : Nat} {σ σ' : AHeap} {r : AV} {cs : List AV} {n : Nat} (h : OW sz k σ r cs n) (hs : ∀ a, k ≤ a → a < σ.length → σ'[a]? = σ[a]?) : OW sz k σ' r cs n := by
  cases h with
  | nil => exact .nil
  | so j v n b cs hk hj hc hl => exact .so j v n b cs hk (by rw [hs j hk (List.getElem?_eq_some_iff.1 hj).1]; exact hj) hc hl
theorem OW.pur {sz k : Nat} {σ : AHeap} {S : Nat → Prop} (hS : ∀ j, S j) {r : AV} {cs : List AV} {n : Nat} (h : OW sz k σ r cs n) (hp : ∀ x ∈ cs, Pu x) : ∃ nl cap, (n ≠ 0 → nl = false) ∧ (nl = true → cap = some 0) ∧ Pur σ S r (.pl nl cs n cap) := by
  cases h with
  | nil => exact ⟨true, some 0, by simp, by simp, .same _ (by simp)⟩
  | so j v n b cs hk hj hc hl =>
    refine ⟨false, none, by simp, by simp, .so _ _ _ _ _ _ _ _ hj rfl (by simp) (hS j) ?_ hl ?_⟩
    · have := congrArg List.length hc
      rw [List.length_take, hl] at this
      show 0 + n * sz ≤ b.length
      omega
    · intro i hi
      have e : b.getD (0 + i) .any = cs[i] := by
        subst hc
        have hi' := hi
        rw [List.length_take] at hi'
        rw [Nat.zero_add, List.getElem_take]
        simp [show i < b.length by omega]
      show Pur σ S (b.getD (0 + i) .any) cs[i]
      rw [e]
      exact .same _ (hp _ (List.getElem_mem hi))

theorem pur_so {sz : Nat} {σ : AHeap} {S : Nat → Prop} {j v n : Nat} {kd : BK} {cap : Option Nat} {b cs : List AV} (hj : σ[j]? = some ⟨kd, v, b⟩) (hd : kd ≠ .dead) (hc : b.take (n * sz) = cs) (hl : cs.length = n * sz) (hS : S j) (hp : ∀ x ∈ cs, Pu x) :
    Pur σ S (.so j v 0 n sz cap) (.pl false cs n cap) := by
  refine .so _ _ _ _ _ _ _ _ hj rfl hd hS ?_ hl ?_
  · have := congrArg List.length hc
    rw [List.length_take, hl] at this
    show 0 + n * sz ≤ b.length
    omega
  · intro i hi
    have e : b.getD (0 + i) .any = cs[i] := by
      subst hc
      have hi' := hi
      rw [List.length_take] at hi'
      rw [Nat.zero_add, List.getElem_take]
      simp [show i < b.length by omega]
    show Pur σ S (b.getD (0 + i) .any) cs[i]
    rw [e]
    exact .same _ (hp _ (List.getElem_mem hi))
section
variable {P : Program} {N0 : Nat} {t : List AV} {σ : AHeap} {S : AV → AHeap → Prop} {x y : Operand}
@[simp ↓] theorem gop_1_s0 {e : TypeId} : gop P N0 1 (.slice e x none none none) t σ S = (scA N0 (ev t x) ∧ aop P (.slice e x none none none) t σ (LkC true fun r _ => S r σ)) := by rw [gop_1]; simp [Op.operands]
@[simp ↓] theorem gop_1_maxq {ts : Array TypeId} : gop P N0 1 (.call { callee := .builtin .max, args := #[x, y], argTypes := ts }) t σ S = ((scA N0 (ev t x) ∧ scA N0 (ev t y)) ∧ aop P (.call { callee := .builtin .max, args := #[x, y], argTypes := ts }) t σ (LkC true fun r _ => S r σ)) := by rw [gop_1]; simp [Op.operands, Call.operands]
end
section
variable {P : Program} {t e : TypeId} {E : ElT} {k n : Nat} {σ : AHeap} {r : AV} {cs ys : List AV} {K : AV → AHeap → Prop}
theorem append_ow (hT : elT P t = some (e, E)) (hS : srcT P t = some false) (h : OW E.sz k σ r cs n) (hl : (n + 1) * (E.bytes + 1) ≤ 140737488355328) (hy : ys.length = E.sz) (h0 : k ≤ σ.length)
    (hK : ∀ r' σ', OW E.sz k σ' r' (cs ++ ys) (n + 1) → σ.length ≤ σ'.length → (∀ a, a < k → σ'[a]? = σ[a]?) → K r' σ') :
    aAppend P t t r (.pl false ys 1 (some 1)) σ K := by
  have hsrc : srcC E.sz false σ (.pl false ys 1 (some 1)) = some (ys, 1) := by simp [srcC, hy]
  unfold aAppend
  rw [hT, hS]
  simp only [hsrc]
  cases h with
  | nil =>
    refine ⟨by simp, by simp, by simpa using hl, ?_⟩
    rw [if_neg (by simp)]
    exact hK _ _ (.so _ _ _ ys _ h0 (by simp) (by rw [List.nil_append, ← hy]; simp) (by simp [hy])) (by simp) (fun a ha => by rw [List.getElem?_append_left (by omega)])
  | so j v n b cs hk hj hc hlen =>
    have hlt := (List.getElem?_eq_some_iff.1 hj).1
    have hb : n * E.sz ≤ b.length := by
      have := congrArg List.length hc
      rw [List.length_take, hlen] at this
      omega
    have htk : (b.drop 0).take (n * E.sz) = cs := by simpa using hc
    simp only [hj]
    refine ⟨by simp, by simp, by simp, by simp, by simpa using hb, hl, by simp, ?_⟩
    rw [htk]
    refine hK _ _ (.so _ _ _ (cs ++ ys) _ hk (by rw [List.getElem?_set_self hlt]) ?_ ?_) (by simp) (fun a ha => by rw [List.getElem?_set_ne (by omega)])
    · rw [List.take_of_length_le (by rw [List.length_append, hlen, hy, Nat.add_mul, Nat.one_mul]; exact Nat.le_refl _)]
    · rw [List.length_append, hlen, hy, Nat.add_mul, Nat.one_mul]
theorem append_ow2 (hT : elT P t = some (e, E)) (hS : srcT P t = some false) (h : OW E.sz k σ r cs n) (hl : (n + 1) * (E.bytes + 1) ≤ 140737488355328) (hy : ys.length = E.sz) (h0 : k ≤ σ.length)
    (hK : ∀ r' σ', OW E.sz k σ' r' (cs ++ ys) (n + 1) → σ.length ≤ σ'.length → (∀ a, a < k → σ'[a]? = σ[a]?) → K r' σ') :
    aAppend P t t r (.so σ.length 0 0 1 E.sz (some 1)) (σ ++ ([⟨.own, 0, ys⟩] : AHeap)) K := by
  have hsrc : srcC E.sz false (σ ++ ([⟨.own, 0, ys⟩] : AHeap)) (.so σ.length 0 0 1 E.sz (some 1)) = some (ys, 1) := by
    have h1 : (σ ++ ([⟨.own, 0, ys⟩] : AHeap))[σ.length]? = some ⟨.own, 0, ys⟩ := by simp
    have h2 : (ys.drop 0).take (1 * E.sz) = ys := by rw [List.drop_zero, Nat.one_mul, ← hy, List.take_length]
    show (match (σ ++ ([⟨.own, 0, ys⟩] : AHeap))[σ.length]? with
      | some b => if false = false ∧ b.ver = 0 ∧ b.kind ≠ .dead ∧ 0 + 1 * E.sz ≤ b.cells.length then some ((b.cells.drop 0).take (1 * E.sz), 1) else none
      | none => none) = some (ys, 1)
    rw [h1]
    simp only [h2]
    rw [if_pos (by simp [hy])]
  unfold aAppend
  rw [hT, hS]
  simp only [hsrc]
  cases h with
  | nil =>
    refine ⟨by simp, by simp, by simpa using hl, ?_⟩
    rw [if_neg (by simp)]
    refine hK _ _ (.so _ _ _ ys _ (by simp; omega) (by simp) (by rw [List.nil_append, ← hy]; simp) (by simp [hy])) (by simp) (fun a ha => ?_)
    rw [List.getElem?_append_left (by simp; omega), List.getElem?_append_left (by omega)]
  | so j v n b cs hk hj hc hlen =>
    have hlt := (List.getElem?_eq_some_iff.1 hj).1
    have hb : n * E.sz ≤ b.length := by
      have := congrArg List.length hc
      rw [List.length_take, hlen] at this
      omega
    have htk : (b.drop 0).take (n * E.sz) = cs := by simpa using hc
    have hj2 : (σ ++ ([⟨.own, 0, ys⟩] : AHeap))[j]? = some ⟨.own, v, b⟩ := by rw [List.getElem?_append_left hlt]; exact hj
    simp only [hj2]
    refine ⟨by simp, by simp, by simp, by simp, by simpa using hb, hl, by simp, ?_⟩
    rw [htk]
    refine hK _ _ (.so _ _ _ (cs ++ ys) _ hk (by rw [List.getElem?_set_self (by simp; omega)]) ?_ ?_) (by simp) (fun a ha => by rw [List.getElem?_set_ne (by omega), List.getElem?_append_left (by omega)])
    · rw [List.take_of_length_le (by rw [List.length_append, hlen, hy, Nat.add_mul, Nat.one_mul]; exact Nat.le_refl _)]
    · rw [List.length_append, hlen, hy, Nat.add_mul, Nat.one_mul]
theorem append_ow4 (hT : elT P t = some (e, E)) (hS : srcT P t = some false) (h : OW E.sz k σ r cs n) (hl : (n + 1) * (E.bytes + 1) ≤ 140737488355328) (hy : ys.length = E.sz) (h0 : k ≤ σ.length)
    (hK : ∀ r' σ', OW E.sz k σ' r' (cs ++ ys) (n + 1) → σ.length ≤ σ'.length → (∀ a, a < k → σ'[a]? = σ[a]?) → (∀ a, a < σ.length → (∀ j v n sz c, r = .so j v 0 n sz c → j ≠ a) → σ'[a]? = σ[a]?) → K r' σ') :
    aAppend P t t r (.so σ.length 0 0 1 E.sz (some 1)) (σ ++ ([⟨.own, 0, ys⟩] : AHeap)) K := by
  have hsrc : srcC E.sz false (σ ++ ([⟨.own, 0, ys⟩] : AHeap)) (.so σ.length 0 0 1 E.sz (some 1)) = some (ys, 1) := by
    have h1 : (σ ++ ([⟨.own, 0, ys⟩] : AHeap))[σ.length]? = some ⟨.own, 0, ys⟩ := by simp
    have h2 : (ys.drop 0).take (1 * E.sz) = ys := by rw [List.drop_zero, Nat.one_mul, ← hy, List.take_length]
    show (match (σ ++ ([⟨.own, 0, ys⟩] : AHeap))[σ.length]? with
      | some b => if false = false ∧ b.ver = 0 ∧ b.kind ≠ .dead ∧ 0 + 1 * E.sz ≤ b.cells.length then some ((b.cells.drop 0).take (1 * E.sz), 1) else none
      | none => none) = some (ys, 1)
    rw [h1]
    simp only [h2]
    rw [if_pos (by simp [hy])]
  unfold aAppend
  rw [hT, hS]
  simp only [hsrc]
  cases h with
  | nil =>
    refine ⟨by simp, by simp, by simpa using hl, ?_⟩
    rw [if_neg (by simp)]
    refine hK _ _ (.so _ _ _ ys _ (by simp; omega) (by simp) (by rw [List.nil_append, ← hy]; simp) (by simp [hy])) (by simp) (fun a ha => ?_) ?_
    · rw [List.getElem?_append_left (by simp; omega), List.getElem?_append_left (by omega)]
    · intro a ha _
      rw [List.getElem?_append_left (by simp; omega), List.getElem?_append_left (by omega)]
  | so j v n b cs hk hj hc hlen =>
    have hlt := (List.getElem?_eq_some_iff.1 hj).1
    have hb : n * E.sz ≤ b.length := by
      have := congrArg List.length hc
      rw [List.length_take, hlen] at this
      omega
    have htk : (b.drop 0).take (n * E.sz) = cs := by simpa using hc
    have hj2 : (σ ++ ([⟨.own, 0, ys⟩] : AHeap))[j]? = some ⟨.own, v, b⟩ := by rw [List.getElem?_append_left hlt]; exact hj
    simp only [hj2]
    refine ⟨by simp, by simp, by simp, by simp, by simpa using hb, hl, by simp, ?_⟩
    rw [htk]
    refine hK _ _ (.so _ _ _ (cs ++ ys) _ hk (by rw [List.getElem?_set_self (by simp; omega)]) ?_ ?_) (by simp) (fun a ha => by rw [List.getElem?_set_ne (by omega), List.getElem?_append_left (by omega)]) (fun a ha hj3 => by rw [List.getElem?_set_ne (hj3 _ _ _ _ _ rfl), List.getElem?_append_left (by omega)])
    · rw [List.take_of_length_le (by rw [List.length_append, hlen, hy, Nat.add_mul, Nat.one_mul]; exact Nat.le_refl _)]
    · rw [List.length_append, hlen, hy, Nat.add_mul, Nat.one_mul]
theorem append_ow3 {m : Nat} (hT : elT P t = some (e, E)) (hS : srcT P t = some false) (h : OW E.sz k σ r cs n) (hm : σ[m]? = some ⟨.own, 0, ys⟩) (hl : (n + 1) * (E.bytes + 1) ≤ 140737488355328) (hy : ys.length = E.sz) (h0 : k ≤ σ.length)
    (hK : ∀ r' σ', OW E.sz k σ' r' (cs ++ ys) (n + 1) → σ.length ≤ σ'.length → (∀ a, a < k → σ'[a]? = σ[a]?) → K r' σ') :
    aAppend P t t r (.so m 0 0 1 E.sz (some 1)) σ K := by
  have h2 : (ys.drop 0).take (1 * E.sz) = ys := by rw [List.drop_zero, Nat.one_mul, ← hy, List.take_length]
  have hsrc : srcC E.sz false σ (.so m 0 0 1 E.sz (some 1)) = some (ys, 1) := by
    show (match σ[m]? with
      | some b => if false = false ∧ b.ver = 0 ∧ b.kind ≠ .dead ∧ 0 + 1 * E.sz ≤ b.cells.length then some ((b.cells.drop 0).take (1 * E.sz), 1) else none
      | none => none) = some (ys, 1)
    rw [hm]
    simp only [h2]
    rw [if_pos (by simp [hy])]
  unfold aAppend
  rw [hT, hS]
  simp only [hsrc]
  cases h with
  | nil =>
    refine ⟨by simp, by simp, by simpa using hl, ?_⟩
    rw [if_neg (by simp)]
    exact hK _ _ (.so _ _ _ ys _ h0 (by simp) (by rw [List.nil_append, ← hy]; simp) (by simp [hy])) (by simp) (fun a ha => by rw [List.getElem?_append_left (by omega)])
  | so j v n b cs hk hj hc hlen =>
    have hlt := (List.getElem?_eq_some_iff.1 hj).1
    have hb : n * E.sz ≤ b.length := by
      have := congrArg List.length hc
      rw [List.length_take, hlen] at this
      omega
    have htk : (b.drop 0).take (n * E.sz) = cs := by simpa using hc
    simp only [hj]
    refine ⟨by simp, by simp, by simp, by simp, by simpa using hb, hl, by simp, ?_⟩
    rw [htk]
    refine hK _ _ (.so _ _ _ (cs ++ ys) _ hk (by rw [List.getElem?_set_self hlt]) ?_ ?_) (by simp) (fun a ha => by rw [List.getElem?_set_ne (by omega)])
    · rw [List.take_of_length_le (by rw [List.length_append, hlen, hy, Nat.add_mul, Nat.one_mul]; exact Nat.le_refl _)]
    · rw [List.length_append, hlen, hy, Nat.add_mul, Nat.one_mul]
end
end Go.Proofs.Va
/- Facts on the types of shapes and of what is asked; the smallest functions. -/
set_option linter.unusedVariables false
set_option maxRecDepth 20000
set_option linter.unusedSimpArgs false
set_option linter.unnecessarySimpa false
namespace Go.Proofs.Nt
open Go Go.Proofs Go.Proofs.Va Go.RowKit

@[simp] theorem fldSh0 : fldT Tryz.prog 24 0 = some (3, 0) := by kernel_rfl
@[simp] theorem fldSh1 : fldT Tryz.prog 24 1 = some (22, 1) := by kernel_rfl
@[simp] theorem fldSh2 : fldT Tryz.prog 24 2 = some (22, 2) := by kernel_rfl
@[simp] theorem szSh : szT Tryz.prog 24 = some 3 := by kernel_rfl
@[simp] theorem aggSh : aggT Tryz.prog 24 = some true := by kernel_rfl
@[simp] theorem zcSh : zcT Tryz.prog 24 = some [.v (.int .i64 0), .pl true [] 0 (some 0), .pl true [] 0 (some 0)] := by kernel_rfl
@[simp] theorem plSh : placesT Tryz.prog 24 = some [(0, 1), (1, 1), (2, 1)] := by kernel_rfl
@[simp] theorem fldOp0 : fldT Tryz.prog 30 0 = some (3, 0) := by kernel_rfl
@[simp] theorem fldOp1 : fldT Tryz.prog 30 1 = some (3, 1) := by kernel_rfl
@[simp] theorem fldOp2 : fldT Tryz.prog 30 2 = some (3, 2) := by kernel_rfl
@[simp] theorem fldOp3 : fldT Tryz.prog 30 3 = some (28, 3) := by kernel_rfl
@[simp] theorem fldOp4 : fldT Tryz.prog 30 4 = some (26, 5) := by kernel_rfl
@[simp] theorem fldOp5 : fldT Tryz.prog 30 5 = some (26, 6) := by kernel_rfl
@[simp] theorem fldOp6 : fldT Tryz.prog 30 6 = some (22, 7) := by kernel_rfl
@[simp] theorem fldOp7 : fldT Tryz.prog 30 7 = some (9, 8) := by kernel_rfl
@[simp] theorem szOp : szT Tryz.prog 30 = some 9 := by kernel_rfl
@[simp] theorem aggOp : aggT Tryz.prog 30 = some true := by kernel_rfl
def opZ : List AV := [.v (.int .i64 0), .v (.int .i64 0), .v (.int .i64 0), .pl true [] 0 (some 0), .v (.float .f64 0), .v (.float .f64 0), .v (.float .f64 0), .pl true [] 0 (some 0), .v (.string ⟨#[]⟩)]
@[simp] theorem zcOp : zcT Tryz.prog 30 = some opZ := by kernel_rfl
@[simp] theorem plOp : placesT Tryz.prog 30 = some [(0, 1), (1, 1), (2, 1), (3, 2), (5, 1), (6, 1), (7, 1), (8, 1)] := by kernel_rfl
@[simp] theorem elTI : elT Tryz.prog 22 = some (3, ⟨1, 8, [.v (.int .i64 0)]⟩) := by kernel_rfl
@[simp] theorem undIs : Tryz.prog.underlying 22 = some (.slice 3) := by kernel_rfl
@[simp] theorem isSIs : isSliceT Tryz.prog 22 = true := by kernel_rfl
@[simp] theorem srcIs : srcT Tryz.prog 22 = some false := by kernel_rfl
@[simp] theorem aggIs : aggT Tryz.prog 22 = some false := by kernel_rfl
@[simp] theorem szIs : szT Tryz.prog 22 = some 1 := by kernel_rfl
@[simp] theorem zcIs : zcT Tryz.prog 22 = some [.pl true [] 0 (some 0)] := by kernel_rfl
@[simp] theorem elTOp : elT Tryz.prog 33 = some (30, ⟨9, 112, opZ⟩) := by kernel_rfl
@[simp] theorem undOps : Tryz.prog.underlying 33 = some (.slice 30) := by kernel_rfl
@[simp] theorem elTEr : elT Tryz.prog 42 = some (35, ⟨1, 8, [.v (.int .i64 0)]⟩) := by kernel_rfl
@[simp] theorem undErs : Tryz.prog.underlying 42 = some (.slice 35) := by kernel_rfl
@[simp] theorem srcErs : srcT Tryz.prog 42 = some false := by kernel_rfl
@[simp] theorem szErQ : szT Tryz.prog 35 = some 1 := by kernel_rfl
@[simp] theorem aggErQ : aggT Tryz.prog 35 = some false := by kernel_rfl
@[simp] theorem zcErQ : zcT Tryz.prog 35 = some [.v (.int .i64 0)] := by kernel_rfl
@[simp] theorem elTBo : elT Tryz.prog 40 = some (4, ⟨1, 1, [.v (.bool false)]⟩) := by kernel_rfl
@[simp] theorem undBos : Tryz.prog.underlying 40 = some (.slice 4) := by kernel_rfl
@[simp] theorem aggStr : aggT Tryz.prog 9 = some false := by kernel_rfl
@[simp] theorem szStr : szT Tryz.prog 9 = some 1 := by kernel_rfl
@[simp] theorem undStr : Tryz.prog.underlying 9 = some .string := by kernel_rfl
@[simp] theorem fldCo0 : fldT Tryz.prog 126 0 = some (3, 0) := by kernel_rfl
@[simp] theorem fldCo1 : fldT Tryz.prog 126 1 = some (3, 1) := by kernel_rfl
@[simp] theorem szCo : szT Tryz.prog 126 = some 2 := by kernel_rfl
@[simp] theorem aggCo : aggT Tryz.prog 126 = some true := by kernel_rfl
@[simp] theorem zcCo : zcT Tryz.prog 126 = some [.v (.int .i64 0), .v (.int .i64 0)] := by kernel_rfl
@[simp] theorem plCo : placesT Tryz.prog 126 = some [(0, 1), (1, 1)] := by kernel_rfl
theorem cells_g3 (a b c : AV) : cellsOf (.agg [a, b, c]) = some [a, b, c] := (rfl)
theorem cells_g9 (a b c d e f g h j : AV) : cellsOf (.agg [a, b, c, d, e, f, g, h, j]) = some [a, b, c, d, e, f, g, h, j] := (rfl)
theorem cells_g2q (a b : AV) : cellsOf (.agg [a, b]) = some [a, b] := (rfl)
theorem cells_zsl (nl : Bool) (l : List Int) (cap : Option Nat) : cellsOf (zsl nl l cap) = some [zsl nl l cap] := (rfl)
theorem cells_fslq (nl : Bool) (l : List Nat) (cap : Option Nat) : cellsOf (fsl nl l cap) = some [fsl nl l cap] := (rfl)
theorem cells_fl (b : Nat) : cellsOf (.v (.float .f64 b)) = some [.v (.float .f64 b)] := (rfl)
theorem cells_str (b : ByteArray) : cellsOf (.v (.string b)) = some [.v (.string b)] := (rfl)
theorem cells_in (k : IntKind) (n : Int) : cellsOf (.v (.int k n)) = some [.v (.int k n)] := (rfl)
theorem cells_bo (b : Bool) : cellsOf (.v (.bool b)) = some [.v (.bool b)] := (rfl)
theorem cells_pl (nl : Bool) (cs : List AV) (n : Nat) (cap : Option Nat) : cellsOf (.pl nl cs n cap) = some [.pl nl cs n cap] := (rfl)
@[simp] theorem pu_zsl (nl : Bool) (l : List Int) (cap : Option Nat) : Pu (zsl nl l cap) := .pl ..
@[simp] theorem one_zsl (nl : Bool) (l : List Int) (cap : Option Nat) : (zsl nl l cap).one = true := (rfl)
theorem pu_sh (s : ShV) (f : Fg) : Pu (s.av f) := pu_agg (by intro x hx; simp only [List.mem_cons, List.not_mem_nil, or_false] at hx; rcases hx with rfl | rfl | rfl <;> simp)
theorem pu_fslq (nl : Bool) (l : List Nat) (cap : Option Nat) : Pu (fsl nl l cap) := .pl ..
theorem pu_opc (o : OpV) : ∀ x ∈ o.cs, Pu x := by
  intro x hx
  simp only [OpV.cs, List.mem_cons, List.not_mem_nil, or_false] at hx
  rcases hx with rfl | rfl | rfl | rfl | rfl | rfl | rfl | rfl | rfl <;> simp [pu_fslq]
theorem pu_op (o : OpV) : Pu o.av := pu_agg (pu_opc o)
theorem zsl_len (nl : Bool) (l : List Int) (cap : Option Nat) : ∃ cs, zsl nl l cap = .pl (nl && l.isEmpty) cs l.length cap ∧ cs = l.map i := ⟨_, rfl, rfl⟩
theorem zmap_get (l : List Int) {j : Nat} (h : j < l.length) : (l.map i)[j]? = some (i (l.getD j 0)) := by simp [h]
theorem zmap_lt {l : List Int} {j : Nat} (h : j < l.length) : j < (l.map i).length := by simpa using h

theorem shard_ctr (s : ShV) (f : Fg) (n : Int) : Ctr Tryz.prog 20 [s.av f, i n] (fun r => r = bo (s.has n)) := by
  refine ctr_val Tryz.func20 rfl (by kernel_rfl) rfl (by simp) fun K hK => ?_
  unfold ShV.has at hK
  simp [Tryz.f20, ShV.av, cells_g3, -cellsOf]
  by_cases h0 : 0 ≤ n
  · simp [h0, zsl]
    simp only [h0, true_and] at hK
    exact hK _
  · simp [h0]
    rw [decide_eq_false (by omega)] at hK
    exact hK _
theorem room_ctr (t m : Int) (ht : 0 ≤ t ∧ t ≤ 4096) (hm : 0 ≤ m ∧ m ≤ 100000) : Ctr Tryz.prog 38 [i t, i m] (fun r => r = i (roomE t m)) := by
  refine ctr_val Tryz.func38 rfl (by kernel_rfl) rfl (by simp) fun K hK => ?_
  have hw : IntKind.i64.wrap (t + m) = t + m := w64 _ (by omega) (by omega)
  unfold roomE at hK
  by_cases h : 4096 < t + m
  · rw [if_pos h] at hK
    simp [Tryz.f38, hw, h]
    exact hK _
  · rw [if_neg h] at hK
    simp [Tryz.f38, hw, h]
    exact hK _
theorem cmay_ctr (a b : Int) : Ctr Tryz.prog 78 [.agg [i a, i b]] (fun r => r = bo (mayC (a, b))) := by
  refine ctr_val Tryz.func78 rfl (by kernel_rfl) rfl (by simp) fun K hK => ?_
  have hF : ¬ ((0 ≤ a ∧ a ≤ 200) ∧ 0 ≤ b ∧ b ≤ 4096) → ∀ σ, K (.v (.bool false)) σ := fun h σ => by
    rw [Bool.eq_false_iff.2 (mt mayC_def.1 h)] at hK; exact hK σ
  simp [Tryz.f78, cells_g2q, -cellsOf]
  by_cases h0 : 0 ≤ a
  case neg => simp [h0]; exact hF (by omega) _
  by_cases h1 : a ≤ 200
  case neg => simp [h0, h1]; exact hF (by omega) _
  by_cases h2 : 0 ≤ b
  case neg => simp [h0, h1, h2]; exact hF (by omega) _
  by_cases h3 : b ≤ 4096
  case neg => simp [h0, h1, h2, h3]; exact hF (by omega) _
  rw [mayC_def.2 ⟨⟨h0, h1⟩, h2, h3⟩] at hK
  simp [h0, h1, h2, h3]; exact hK _

/-! ### Lists of numbers -/
theorem index_int_ctr (l : List Int) (nl : Bool) (cap : Option Nat) (x : Int) (hl : l.length ≤ 1000000) :
    Ctr Tryz.prog 95 [zsl nl l cap, i x] (fun r => ∃ z : Int, decide (0 ≤ z) = l.contains x ∧ r = i z) := by
  refine ctr_in Tryz.func95 rfl (by kernel_rfl) rfl fun K hK => ?_
  simp [Tryz.f95, zsl]
  refine loop_on (γ := Nat) 19 (fun g => [(0, zsl nl l cap), (1, i x), (7, i l.length), (8, i g)]) (fun _ => [])
    (fun g => g ≤ l.length ∧ (l.take g).contains x = false) (fun g => l.length - g) 0 ⟨Nat.zero_le _, rfl⟩ (Wk.lst (by simp [zsl]) (by simp)) ?_
  rintro g ⟨hg, hall⟩ L hL
  by_cases hlt : g < l.length
  · have hw1 : IntKind.i64.wrap ((g : Int) + 1) = ((g + 1 : Nat) : Int) := w64 _ (by omega) (by omega)
    have htk : l.take (g + 1) = l.take g ++ [l[g]] := take_snoc hlt
    have hnext := hL (g + 1)
    simp only [htk] at hnext
    have hmem := List.getElem_mem hlt
    by_cases hx : x = l[g]
    · simp [hlt, zsl, ← hx]
      exact hK _ _ _ (.same _ (by simp)) ⟨g, by rw [show l.contains x = true by rw [hx]; simp]; simp, rfl⟩
    · simp [hlt, zsl, hx, hw1, -Int.natCast_add]
      exact hnext _ _ ⟨by omega, by rw [List.contains_eq_any_beq, List.any_append, ← List.contains_eq_any_beq, hall]; simp [hx]⟩ (Wk.lst (by simp [zsl]) (by simp)) (by show _ - (g + 1) < _ - g; omega)
  · have hge : g = l.length := by omega
    subst hge
    rw [List.take_length] at hall
    simp
    exact hK _ _ _ (.same _ (by simp)) ⟨-1, by rw [hall]; rfl, rfl⟩
theorem contains_int_ctr (l : List Int) (nl : Bool) (cap : Option Nat) (x : Int) (hl : l.length ≤ 1000000) : Ctr Tryz.prog 88 [zsl nl l cap, i x] (fun r => r = bo (l.contains x)) := by
  refine ctr_val Tryz.func88 rfl (by kernel_rfl) rfl (by simp) fun K hK => ?_
  simp [Tryz.f88]
  refine acall_by (index_int_ctr l nl cap x hl) (by simp) ?_
  rintro _ ⟨z, hz, rfl⟩
  rw [← hz] at hK
  simp
  exact hK _
theorem ints_ctr (a b : List Int) (an bn : Bool) (ac bc : Option Nat) (ha : a.length ≤ 1000000) (hb : b.length ≤ 1000000) : Ctr Tryz.prog 30 [zsl an a ac, zsl bn b bc] (fun r => r = bo (decide (a = b))) := by
  refine ctr_val Tryz.func30 rfl (by kernel_rfl) rfl (by simp) fun K hK => ?_
  have hF : a ≠ b → ∀ σ, K (.v (.bool false)) σ := fun h σ => by rw [decide_eq_false h] at hK; exact hK σ
  simp [Tryz.f30]
  by_cases h0 : a.length = b.length
  case neg =>
    simp [zsl, h0]
    exact hF (fun h => h0 (by rw [h])) _
  simp [zsl, h0]
  refine loop_on (γ := Nat) 26 (fun g => [(0, zsl an a ac), (1, zsl bn b bc), (5, i g)]) (fun _ => [])
    (fun g => g ≤ a.length ∧ ∀ j, j < g → a.getD j 0 = b.getD j 0) (fun g => a.length - g) 0 ⟨Nat.zero_le _, by intro j hj; omega⟩ (Wk.lst (by simp [zsl, h0]) (by simp)) ?_
  rintro g ⟨hg, hall⟩ L hL
  by_cases hlt : g < a.length
  · have hltb : g < b.length := by omega
    have hw1 : IntKind.i64.wrap ((g : Int) + 1) = ((g + 1 : Nat) : Int) := w64 _ (by omega) (by omega)
    have hnext := hL (g + 1)
    simp [hlt, zsl]
    refine draw_at [0, 0, 1, 1, 0, 0, 1, 1, 0] (by kernel_rfl) (by kernel_rfl) ?_
    simp [hlt, hltb]
    by_cases hx : a[g] = b[g]
    · simp [hx, hw1, -Int.natCast_add]
      refine hnext _ _ ⟨by omega, fun j hj => ?_⟩ (Wk.lst (by simp [zsl]) (by simp)) (by show _ - (g + 1) < _ - g; omega)
      by_cases e : j = g
      · subst e; simpa [hlt, hltb] using hx
      · exact hall j (by omega)
    · simp [hx]
      exact hF (fun h => hx (by subst h; rfl)) _
  · have hge : g = a.length := by omega
    subst hge
    have he : a = b := by
      apply List.ext_getElem h0
      intro j h1 h2
      have := hall j h1
      simpa [h1, h2] using this
    simp [zsl]
    rw [decide_eq_true he] at hK
    exact hK _
theorem errnos_ctr (a b : List Int) (an bn : Bool) (ac bc : Option Nat) (ha : a.length ≤ 1000000) (hb : b.length ≤ 1000000) : Ctr Tryz.prog 15 [zsl an a ac, zsl bn b bc] (fun r => r = bo (decide (a = b))) := by
  refine ctr_val Tryz.func15 rfl (by kernel_rfl) rfl (by simp) fun K hK => ?_
  have hF : a ≠ b → ∀ σ, K (.v (.bool false)) σ := fun h σ => by rw [decide_eq_false h] at hK; exact hK σ
  simp [Tryz.f15]
  by_cases h0 : a.length = b.length
  case neg =>
    simp [zsl, h0]
    exact hF (fun h => h0 (by rw [h])) _
  simp [zsl, h0]
  refine loop_on (γ := Nat) 26 (fun g => [(0, zsl an a ac), (1, zsl bn b bc), (5, i g)]) (fun _ => [])
    (fun g => g ≤ a.length ∧ ∀ j, j < g → a.getD j 0 = b.getD j 0) (fun g => a.length - g) 0 ⟨Nat.zero_le _, by intro j hj; omega⟩ (Wk.lst (by simp [zsl, h0]) (by simp)) ?_
  rintro g ⟨hg, hall⟩ L hL
  by_cases hlt : g < a.length
  · have hltb : g < b.length := by omega
    have hw1 : IntKind.i64.wrap ((g : Int) + 1) = ((g + 1 : Nat) : Int) := w64 _ (by omega) (by omega)
    have hnext := hL (g + 1)
    simp [hlt, zsl]
    refine draw_at [0, 0, 1, 1, 0, 0, 1, 1, 0] (by kernel_rfl) (by kernel_rfl) ?_
    simp [hlt, hltb]
    by_cases hx : a[g] = b[g]
    · simp [hx, hw1, -Int.natCast_add]
      refine hnext _ _ ⟨by omega, fun j hj => ?_⟩ (Wk.lst (by simp [zsl]) (by simp)) (by show _ - (g + 1) < _ - g; omega)
      by_cases e : j = g
      · subst e; simpa [hlt, hltb] using hx
      · exact hall j (by omega)
    · simp [hx]
      exact hF (fun h => hx (by subst h; rfl)) _
  · have hge : g = a.length := by omega
    subst hge
    have he : a = b := by
      apply List.ext_getElem h0
      intro j h1 h2
      have := hall j h1
      simpa [h1, h2] using this
    simp [zsl]
    rw [decide_eq_true he] at hK
    exact hK _
end Go.Proofs.Nt
/- Which shapes may be; which are the same; few things. -/
set_option linter.unusedVariables false
set_option maxRecDepth 20000
set_option linter.unusedSimpArgs false
set_option linter.unnecessarySimpa false
namespace Go.Proofs.Nt
open Go Go.Proofs Go.Proofs.Va Go.RowKit

def ShV.small (s : ShV) : Bool := decide (s.rows.length ≤ 20 ∧ s.turns.length ≤ 20)
theorem shsmall_ctr (s : ShV) (f : Fg) : Ctr Tryz.prog 5 [s.av f] (fun r => r = bo s.small) := by
  refine ctr_val Tryz.func5 rfl (by kernel_rfl) rfl (by simp) fun K hK => ?_
  simp [Tryz.f5, ShV.av, cells_g3, zsl, -cellsOf]
  by_cases h0 : s.rows.length ≤ 20
  · by_cases h1 : s.turns.length ≤ 20
    · have : s.small = true := decide_eq_true ⟨h0, h1⟩
      rw [this] at hK
      simp [h0, h1]; exact hK _
    · have : s.small = false := decide_eq_false (by omega)
      rw [this] at hK
      simp [h0, h1]; exact hK _
  · have : s.small = false := decide_eq_false (by omega)
    rw [this] at hK
    simp [h0]; exact hK _
theorem shsame_ctr (s t : ShV) (f g : Fg) (hs : s.fit) (ht : t.fit) : Ctr Tryz.prog 12 [s.av f, t.av g] (fun r => r = bo (decide (s = t))) := by
  refine ctr_val Tryz.func12 rfl (by kernel_rfl) rfl (by simp) fun K hK => ?_
  obtain ⟨c, r, u⟩ := s
  obtain ⟨c', r', u'⟩ := t
  have e : (ShV.mk c r u = ShV.mk c' r' u') ↔ c = c' ∧ r = r' ∧ u = u' := by rw [ShV.mk.injEq]
  have hF : ¬ (c = c' ∧ r = r' ∧ u = u') → ∀ σ, K (.v (.bool false)) σ := fun h σ => by rw [decide_eq_false (mt e.1 h)] at hK; exact hK σ
  have c1 := ints_ctr r r' f.rn g.rn f.rc g.rc (by have := hs.lr; simp at this; omega) (by have := ht.lr; simp at this; omega)
  have c2 := ints_ctr u u' f.tn g.tn f.tc g.tc (by have := hs.lt; simp at this; omega) (by have := ht.lt; simp at this; omega)
  simp [Tryz.f12, ShV.av, cells_g3, -cellsOf]
  by_cases h0 : c = c'
  case neg => simp [h0]; exact hF (fun h => h0 h.1) _
  subst h0
  simp
  refine acall_by c1 (by simp) ?_
  rintro _ rfl
  by_cases h1 : r = r'
  case neg => simp [h1]; exact hF (fun h => h1 h.2.1) _
  subst h1
  simp
  refine acall_by c2 (by simp) ?_
  rintro _ rfl
  by_cases h2 : u = u'
  case neg => simp [h2]; exact hF (fun h => h2 h.2.2) _
  subst h2
  simp
  rw [decide_eq_true (e.2 ⟨rfl, rfl, rfl⟩)] at hK
  exact hK _
theorem shmay_ctr (s : ShV) (f : Fg) : Ctr Tryz.prog 8 [s.av f] (fun r => r = bo s.may) := by
  refine ctr_val Tryz.func8 rfl (by kernel_rfl) rfl (by simp) fun K hK => ?_
  have hF : ¬ (sizeI s.cols ≠ 0 ∧ 1 ≤ s.rows.length ∧ s.rows.length ≤ 8 ∧ s.turns.length = s.rows.length) → ∀ σ, K (.v (.bool false)) σ := fun h σ => by
    have : s.may = false := by unfold ShV.may; rw [decide_eq_false h]; rfl
    rw [this] at hK; exact hK σ
  simp [Tryz.f8, ShV.av, cells_g3, zsl, -cellsOf]
  refine acall_by (size_ctr s.cols) (by simp) ?_
  rintro _ rfl
  by_cases h0 : sizeI s.cols = 0
  · simp [h0]; exact hF (fun h => h.1 h0) _
  by_cases h1 : s.rows.length < 1
  · have h1' : s.rows.length = 0 := by omega
    simp [h0, h1']; exact hF (by omega) _
  have h1' : ¬ s.rows.length = 0 := by omega
  by_cases h2 : 8 < s.rows.length
  · simp [h0, h1', h2]; exact hF (by omega) _
  by_cases h3 : s.turns.length = s.rows.length
  case neg => simp [h0, h1', h2, h3]; exact hF (fun h => h3 h.2.2.2) _
  have h2' : s.rows.length ≤ 8 := by omega
  simp [h0, h1', h2, h2', eq_true h3]
  have hq : s.may = rngB s.rows s.turns := by unfold ShV.may; rw [decide_eq_true ⟨h0, by omega, by omega, h3⟩]; rfl
  rw [hq] at hK
  refine loop_on (γ := Nat) 62 (fun g => [(1, .po 0 0 0), (27, i s.rows.length), (28, i g)]) (fun _ => [⟨.own, 0, [i s.cols, zsl f.rn s.rows f.rc, zsl f.tn s.turns f.tc]⟩])
    (fun g => g ≤ s.rows.length ∧ ∀ j, j < g → mayC (s.rows.getD j 0, s.turns.getD j 0) = true) (fun g => s.rows.length - g) 0 ⟨Nat.zero_le _, by intro j hj; omega⟩ (Wk.lst (by simp) (by simp)) ?_
  rintro g ⟨hg, hall⟩ L hL
  by_cases hlt : g < s.rows.length
  · have hltb : g < s.turns.length := by omega
    have hw1 : IntKind.i64.wrap ((g : Int) + 1) = ((g + 1 : Nat) : Int) := w64 _ (by omega) (by omega)
    have hnext := hL (g + 1)
    have hN : ¬ mayC (s.rows.getD g 0, s.turns.getD g 0) = true → ∀ σ, K (.v (.bool false)) σ := fun h σ => by
      rw [rng_not hlt h] at hK; exact hK σ
    have er : s.rows.getD g 0 = s.rows[g] := by simp [hlt]
    have et : s.turns.getD g 0 = s.turns[g] := by simp [hltb]
    rw [er, et] at hN
    simp [hlt, hltb, zsl]
    by_cases b1 : 0 ≤ s.rows[g]
    case neg => simp [b1, Int.not_le.1 b1]; exact hN (fun h => by have := mayC_def.1 h; omega) _
    have b1' := Int.not_lt.2 b1
    by_cases b2 : s.rows[g] ≤ 200
    case neg => simp [b1, b1', b2, Int.not_le.1 b2]; exact hN (fun h => by have := mayC_def.1 h; omega) _
    have b2' := Int.not_lt.2 b2
    by_cases b3 : 0 ≤ s.turns[g]
    case neg => simp [b1, b1', b2, b2', b3, Int.not_le.1 b3, hltb]; exact hN (fun h => by have := mayC_def.1 h; omega) _
    have b3' := Int.not_lt.2 b3
    by_cases b4 : s.turns[g] ≤ 4096
    case neg => simp [b1, b1', b2, b2', b3, b3', b4, Int.not_le.1 b4, hltb]; exact hN (fun h => by have := mayC_def.1 h; omega) _
    have b4' := Int.not_lt.2 b4
    simp [b1, b1', b2, b2', b3, b3', b4, b4', hltb, hw1, -Int.natCast_add]
    refine hnext _ _ ⟨by omega, fun j hj => ?_⟩ (Wk.lst (by simp [zsl]) (by simp)) (by show _ - (g + 1) < _ - g; omega)
    by_cases e : j = g
    · rw [e, er, et]; exact mayC_def.2 (by omega)
    · exact hall j (by omega)
  · have hge : g = s.rows.length := by omega
    subst hge
    rw [rng_of hall] at hK
    simp
    exact hK _

/-- Few enough. -/
def OpV.few (o : OpV) : Bool := decide (o.x.length ≤ 12 ∧ o.plan.length ≤ 30 ∧ o.bytes.size ≤ 400)
def fewO (l : List OpV) (m : Int) : Bool := decide ((l.length : Int) ≤ m) && l.all OpV.few
def opcs (l : List OpV) : List AV := l.flatMap OpV.cs
def opsl (nl : Bool) (l : List OpV) (cap : Option Nat) : AV := .pl (nl && l.isEmpty) (opcs l) l.length cap
theorem op_len (o : OpV) : o.cs.length = 9 := rfl
theorem opcs_len (l : List OpV) : (opcs l).length = l.length * 9 := by
  induction l with
  | nil => rfl
  | cons o l ih => show (o.cs ++ opcs l).length = _; rw [List.length_append, ih, op_len, List.length_cons]; omega
theorem opcs_at {l : List OpV} {g k : Nat} (hg : g < l.length) (hk : k < 9) : (opcs l)[g * 9 + k]? = (l[g].cs)[k]? := by
  induction l generalizing g with
  | nil => simp at hg
  | cons o l ih =>
    show (o.cs ++ opcs l)[g * 9 + k]? = _
    cases g with
    | zero => rw [List.getElem?_append_left (by rw [op_len]; omega)]; simp
    | succ g =>
      rw [List.getElem?_append_right (by rw [op_len]; omega), op_len, show (g + 1) * 9 + k - 9 = g * 9 + k by omega, ih (by simpa using hg)]
      simp
theorem few_not {l : List OpV} {m : Int} {g : Nat} (hg : g < l.length) (h : ¬ (l[g].x.length ≤ 12 ∧ l[g].plan.length ≤ 30 ∧ l[g].bytes.size ≤ 400)) : fewO l m = false := by
  unfold fewO
  rw [Bool.and_eq_false_iff]
  right
  rw [Bool.eq_false_iff]
  intro e
  exact h (of_decide_eq_true (List.all_eq_true.1 e _ (List.getElem_mem hg)))
theorem ofew_ctr (l : List OpV) (nl : Bool) (cap : Option Nat) (m : Int) (hl : l.length ≤ 1000000) : Ctr Tryz.prog 6 [opsl nl l cap, i m] (fun r => r = bo (fewO l m)) := by
  refine ctr_val Tryz.func6 rfl (by kernel_rfl) rfl (by simp) fun K hK => ?_
  simp [Tryz.f6, opsl]
  by_cases h0 : m < l.length
  · have : fewO l m = false := by unfold fewO; rw [decide_eq_false (by omega)]; rfl
    rw [this] at hK
    simp [h0]; exact hK _
  simp [h0]
  refine loop_on (γ := Nat) 42 (fun g => [(0, opsl nl l cap), (5, i g)]) (fun _ => [])
    (fun g => g ≤ l.length ∧ ∀ j (h : j < l.length), j < g → l[j].few = true) (fun g => l.length - g) 0 ⟨Nat.zero_le _, by intro j h hj; omega⟩ (Wk.lst (by simp [opsl]) (by simp)) ?_
  rintro g ⟨hg, hall⟩ L hL
  by_cases hlt : g < l.length
  · have hw1 : IntKind.i64.wrap ((g : Int) + 1) = ((g + 1 : Nat) : Int) := w64 _ (by omega) (by omega)
    have hnext := hL (g + 1)
    have hN : ¬ (l[g].x.length ≤ 12 ∧ l[g].plan.length ≤ 30 ∧ l[g].bytes.size ≤ 400) → ∀ σ, K (.v (.bool false)) σ := fun h σ => by
      rw [few_not hlt h] at hK; exact hK σ
    have r3 : (opcs l)[g * 9 + 3]? = some (fsl l[g].xn l[g].x l[g].xc) := by rw [opcs_at hlt (by omega)]; rfl
    have r7 : (opcs l)[g * 9 + 7]? = some (zsl l[g].pn l[g].plan l[g].pc) := by rw [opcs_at hlt (by omega)]; rfl
    have r8 : (opcs l)[g * 9 + 8]? = some (.v (.string l[g].bytes)) := by rw [opcs_at hlt (by omega)]; rfl
    have oa : g * 9 < (opcs l).length := by rw [opcs_len]; omega
    have hfew : (l[g].x.length ≤ 12 ∧ l[g].plan.length ≤ 30 ∧ l[g].bytes.size ≤ 400) → l[g].few = true := fun h => decide_eq_true h
    generalize l[g].x = X at *
    generalize l[g].plan = Q at *
    generalize l[g].bytes = B at *
    simp [hlt, opsl, -getElem?_pos, r3, fsl, oa]
    by_cases b1 : X.length ≤ 12
    case neg => simp [b1, Nat.lt_of_not_le b1]; exact hN (by omega) _
    have b1' : ¬ 12 < X.length := by omega
    by_cases b2 : Q.length ≤ 30
    case neg => simp [b1, b1', b2, Nat.lt_of_not_le b2, r7, zsl, oa, hlt, -getElem?_pos]; exact hN (by omega) _
    have b2' : ¬ 30 < Q.length := by omega
    by_cases b3 : B.size ≤ 400
    case neg => simp [b1, b1', b2, b2', b3, Nat.lt_of_not_le b3, r7, r8, zsl, oa, hlt, -getElem?_pos]; exact hN (by omega) _
    have b3' : ¬ 400 < B.size := by omega
    simp [b1, b1', b2, b2', b3, b3', r7, r8, zsl, hw1, oa, hlt, -getElem?_pos, -Int.natCast_add]
    refine hnext _ _ ⟨by omega, fun j h hj => ?_⟩ (Wk.lst (by simp [opsl]) (by simp)) (by show _ - (g + 1) < _ - g; omega)
    by_cases e : j = g
    · subst e; exact hfew (by omega)
    · exact hall j h (by omega)
  · have hge : g = l.length := by omega
    subst hge
    have : fewO l m = true := by
      unfold fewO
      rw [decide_eq_true (by omega), Bool.true_and, List.all_eq_true]
      intro x hx
      obtain ⟨j, hj, rfl⟩ := List.getElem_of_mem hx
      exact hall j hj hj
    rw [this] at hK
    simp [opsl]
    exact hK _
end Go.Proofs.Nt
/- What is wrong with a row, and with a merge. -/
set_option linter.unusedVariables false
set_option maxRecDepth 20000
set_option linter.unusedSimpArgs false
set_option linter.unnecessarySimpa false
namespace Go.Proofs.Nt
open Go Go.Proofs Go.Proofs.Va Go.RowKit

theorem cout_ctr {b : Nat} (hb : b < 18446744073709551616) : Ctr Tryz.prog 57 [fl b] (fun r => r = bo (!inB b)) := by
  refine ctr_val Tryz.func57 rfl (by kernel_rfl) rfl (by simp) fun K hK => ?_
  simp [Tryz.f57]
  refine acall_by (bin_ctr hb) (by simp) ?_
  rintro _ rfl
  simp
  exact hK _
theorem cany_ctr {l : List Nat} (nl : Bool) (cap : Option Nat) (hf : Fl l) (hl : l.length ≤ 100000) :
    Ctr Tryz.prog 56 [fsl nl l cap, .fn (.func 57) [] []] (fun r => r = bo (l.any fun b => !inB b)) :=
  contains_ctr nl cap _ _ (by omega) fun b hb => cout_ctr (hf b hb)
theorem row_at {s : ShV} {k : Int} (h : s.has k = true) : s.rows[k.toNat]? = some (s.row k) := by
  have := has_iff.1 h
  have hk : k.toNat < s.rows.length := by omega
  unfold ShV.row; simp [hk]
theorem turn_at {s : ShV} (hm : s.may = true) {k : Int} (h : s.has k = true) : s.turns[k.toNat]? = some (s.turn k) := by
  have := has_iff.1 h
  have := (sh_len hm).2.2
  have hk : k.toNat < s.turns.length := by omega
  unfold ShV.turn; simp [hk]
theorem any_not_in (l : List Nat) (y : Nat) : (l.any (fun b => !inB b) || !inB y) = !(l.all inB && inB y) := by
  rw [Bool.not_and, List.not_all_eq_any_not]
theorem row_ctr (s : ShV) (f : Fg) (o : OpV) (hm : s.may = true) (hh : s.has o.shard = true) (ho : o.fit) : Ctr Tryz.prog 36 [s.av f, o.av] (fun r => r = i (rowE s o)) := by
  refine ctr_val Tryz.func36 rfl (by kernel_rfl) rfl (by simp) fun K hK => ?_
  have hhi := has_iff.1 hh
  have hcc := sh_cols hm
  have hln := sh_len hm
  have ha := sh_at hm hh
  have rr := row_at hh
  have rt := turn_at hm hh
  have cA := cany_ctr o.xn o.xc ho.fx ho.lx
  have cY := cout_ctr ho.fy
  have cR := room_ctr (s.turn o.shard) (s.cols + 1) ha.2 (by omega)
  have k0 : o.shard.toNat < s.rows.length := by omega
  have k0' : o.shard < s.rows.length := hhi.2
  have k1' : o.shard < s.turns.length := by omega
  have k1 : o.shard.toNat < s.turns.length := by omega
  have k2 : 0 ≤ o.shard := hhi.1
  have hw : IntKind.i64.wrap (s.cols + 1) = s.cols + 1 := w64 _ (by omega) (by omega)
  unfold rowE at hK
  have any1 := any_not_in o.x o.y
  simp [Tryz.f36, ShV.av, OpV.av, OpV.cs, cells_g3, cells_g9, -cellsOf]
  by_cases a0 : (o.x.length : Int) = s.cols
  case neg =>
    simp only [if_pos a0] at hK
    simp [fsl, a0]; exact hK _
  simp only [if_neg (not_not_intro a0)] at hK
  simp [fsl, a0]
  refine acall_by cA (by simp) ?_
  rintro _ rfl
  by_cases a1 : (o.x.any fun b => !inB b) = true
  · have e2 : (o.x.all inB && inB o.y) = false := by rw [a1, Bool.true_or] at any1; rw [← Bool.not_not (o.x.all inB && inB o.y), ← any1]; rfl
    simp only [if_pos e2] at hK
    simp only [a1]
    simp; exact hK _
  rw [Bool.not_eq_true] at a1
  rw [a1, Bool.false_or] at any1
  simp only [a1]
  simp
  refine acall_by cY (by simp) ?_
  rintro _ rfl
  cases a2 : inB o.y
  · have e2 : (o.x.all inB && inB o.y) = false := by rw [a2, Bool.and_false]
    simp only [if_pos e2] at hK
    simp; exact hK _
  have e2 : ¬ (o.x.all inB && inB o.y) = false := by rw [a2] at any1 ⊢; rw [← Bool.not_not (o.x.all inB && true), ← any1]; decide
  simp only [if_neg e2] at hK
  by_cases a3 : o.kind = 2
  · have a4 : ¬ o.kind = 1 := by omega
    by_cases a5 : s.row o.shard = 0
    · simp only [if_pos (show o.kind = 2 ∧ s.row o.shard = 0 from ⟨a3, a5⟩)] at hK
      simp [a3, zsl, k0, k0', k2, rr, a5, -getElem?_pos, List.getElem?_cons_zero, List.getElem?_cons_succ]; exact hK _
    · simp only [if_neg (show ¬ (o.kind = 2 ∧ s.row o.shard = 0) from fun h => a5 h.2), if_neg (show ¬ (o.kind = 1 ∧ s.row o.shard = 200) from fun h => a4 h.1)] at hK
      simp [a3, zsl, k0, k0', k2, rr, a5, -getElem?_pos, List.getElem?_cons_zero, List.getElem?_cons_succ]
      refine draw_at [1, 1, 1, 1, 1, 1, 1, 1, 0, 3, 0] (by kernel_rfl) (by kernel_rfl) ?_
      simp [k1, k1', k2, rt, hw, -getElem?_pos, List.getElem?_cons_zero, List.getElem?_cons_succ]
      refine acall_by cR (by simp) ?_
      rintro _ rfl
      simp
      exact hK _
  · by_cases a4 : o.kind = 1
    · by_cases a5 : s.row o.shard = 200
      · simp only [if_neg (show ¬ (o.kind = 2 ∧ s.row o.shard = 0) from fun h => a3 h.1), if_pos (show (o.kind = 1 ∧ s.row o.shard = 200) from ⟨a4, a5⟩)] at hK
        simp [a4, zsl, k0, k0', k2, rr, a5, -getElem?_pos, List.getElem?_cons_zero, List.getElem?_cons_succ]; exact hK _
      · simp only [if_neg (show ¬ (o.kind = 2 ∧ s.row o.shard = 0) from fun h => a3 h.1), if_neg (show ¬ (o.kind = 1 ∧ s.row o.shard = 200) from fun h => a5 h.2)] at hK
        simp [a4, zsl, k0, k0', k2, rr, a5, -getElem?_pos, List.getElem?_cons_zero, List.getElem?_cons_succ]
        refine draw_at [1, 1, 1, 1, 1, 1, 1, 1, 0, 3, 0] (by kernel_rfl) (by kernel_rfl) ?_
        simp [k1, k1', k2, rt, hw, -getElem?_pos, List.getElem?_cons_zero, List.getElem?_cons_succ]
        refine acall_by cR (by simp) ?_
        rintro _ rfl
        simp
        exact hK _
    · simp only [if_neg (show ¬ (o.kind = 2 ∧ s.row o.shard = 0) from fun h => a3 h.1), if_neg (show ¬ (o.kind = 1 ∧ s.row o.shard = 200) from fun h => a4 h.1)] at hK
      simp [a3, a4]
      refine draw_at [1, 1, 1, 1, 1, 1, 1, 1, 0, 3, 0] (by kernel_rfl) (by kernel_rfl) ?_
      simp [zsl, k1, k1', k2, rt, hw, -getElem?_pos, List.getElem?_cons_zero, List.getElem?_cons_succ]
      refine acall_by cR (by simp) ?_
      rintro _ rfl
      simp
      exact hK _
theorem both_ctr (s : ShV) (f : Fg) (o : OpV) (hm : s.may = true) (hh : s.has o.shard = true) : Ctr Tryz.prog 39 [s.av f, o.av] (fun r => r = i (bothE s o)) := by
  refine ctr_val Tryz.func39 rfl (by kernel_rfl) rfl (by simp) fun K hK => ?_
  have hhi := has_iff.1 hh
  have hcc := sh_cols hm
  have hln := sh_len hm
  have ha := sh_at hm hh
  have rr := row_at hh
  have rt := turn_at hm hh
  have k0 : o.shard.toNat < s.rows.length := by omega
  have k0' : o.shard < s.rows.length := hhi.2
  have k1' : o.shard < s.turns.length := by omega
  have k1 : o.shard.toNat < s.turns.length := by omega
  have k2 : 0 ≤ o.shard := hhi.1
  unfold bothE at hK
  simp [Tryz.f39, ShV.av, OpV.av, OpV.cs, cells_g3, cells_g9, -cellsOf]
  refine acall_by (shard_ctr s f o.frm) (by show ∀ x ∈ [s.av f, i o.frm], Pu x; intro x hx; simp only [List.mem_cons, List.not_mem_nil, or_false] at hx; rcases hx with rfl | rfl; exact pu_sh s f; simp) ?_
  rintro _ rfl
  cases b0 : s.has o.frm
  · simp only [if_pos (show s.has o.frm = false ∨ o.frm = o.shard from .inl b0)] at hK
    simp; exact hK _
  by_cases b1 : o.frm = o.shard
  · simp only [if_pos (show s.has o.frm = false ∨ o.frm = o.shard from .inr b1)] at hK
    simp [b1]; exact hK _
  simp only [if_neg (show ¬ (s.has o.frm = false ∨ o.frm = o.shard) from fun h => h.elim (fun h => by rw [b0] at h; cases h) b1)] at hK
  have hfi := has_iff.1 b0
  have hb := sh_at hm b0
  have rr2 := row_at b0
  have rt2 := turn_at hm b0
  have j0 : o.frm.toNat < s.rows.length := by omega
  have j0' : o.frm < s.rows.length := hfi.2
  have j1' : o.frm < s.turns.length := by omega
  have j1 : o.frm.toNat < s.turns.length := by omega
  have j2 : 0 ≤ o.frm := hfi.1
  have hw : IntKind.i64.wrap (s.row o.shard + s.row o.frm) = s.row o.shard + s.row o.frm := w64 _ (by omega) (by omega)
  have hmx : (if s.turn o.frm > s.turn o.shard then s.turn o.frm else s.turn o.shard) = max (s.turn o.shard) (s.turn o.frm) := by split <;> omega
  have hsz := (size_facts (c := s.cols) hcc).2.2
  have hsz2 : sizeI s.cols ≤ 28 := by
    have := (size_facts (c := s.cols) hcc)
    omega
  have cR := room_ctr (max (s.turn o.shard) (s.turn o.frm)) (sizeI s.cols) (by omega) (by omega)
  simp [b1]
  refine draw_at [1, 1, 1, 1, 1, 1, 1, 1, 1, 1, 1, 1, 0, 0] (by kernel_rfl) (by kernel_rfl) ?_
  simp [zsl, k0, k0', k2, rr, j0, j0', j2, rr2, hw, -getElem?_pos, List.getElem?_cons_zero, List.getElem?_cons_succ]
  by_cases b2 : 200 < s.row o.shard + s.row o.frm
  · simp only [if_pos b2] at hK
    simp [b2]; exact hK _
  simp only [if_neg b2] at hK
  simp [b2]
  refine draw_at [1, 1, 1, 1, 1, 1, 1, 1, 1, 1, 1, 1, 1, 1, 1, 3, 3, 0] (by kernel_rfl) (by kernel_rfl) ?_
  simp [zsl, k1, k1', k2, rt, j1, j1', j2, rt2, hmx, -getElem?_pos, List.getElem?_cons_zero, List.getElem?_cons_succ]
  refine acall_by (cost_ctr s.cols) (by simp) ?_
  rintro _ rfl
  simp
  refine acall_by cR (by simp) ?_
  rintro _ rfl
  simp
  exact hK _
end Go.Proofs.Nt
/- A plan's steps, and how many things there are behind each. -/
set_option linter.unusedVariables false
set_option maxRecDepth 20000
set_option linter.unusedSimpArgs false
set_option linter.unnecessarySimpa false
namespace Go.Proofs.Nt
open Go Go.Proofs Go.Proofs.Va Go.RowKit

@[simp] theorem elTSt : elT Tryz.prog 138 = some (142, ⟨1, 16, [.v .nilIface]⟩) := by kernel_rfl
@[simp] theorem undSts : Tryz.prog.underlying 138 = some (.slice 142) := by kernel_rfl
@[simp] theorem srcSts : srcT Tryz.prog 138 = some false := by kernel_rfl
@[simp] theorem aggSt : aggT Tryz.prog 142 = some false := by kernel_rfl
@[simp] theorem szSt : szT Tryz.prog 142 = some 1 := by kernel_rfl
@[simp] theorem isIfJ : isIfaceT Tryz.prog 146 = some false := by kernel_rfl
@[simp] theorem isIfP : isIfaceT Tryz.prog 144 = some false := by kernel_rfl
@[simp] theorem noIJ : noIfT Tryz.prog 146 = true := by kernel_rfl
@[simp] theorem noIP : noIfT Tryz.prog 144 = true := by kernel_rfl
@[simp] theorem zaJ : zaT Tryz.prog 146 = some (.agg []) := by kernel_rfl
@[simp] theorem zaP : zaT Tryz.prog 144 = some (.agg [i 0]) := by kernel_rfl
@[simp] theorem zcJo : zcT Tryz.prog 146 = some [] := by kernel_rfl
@[simp] theorem zcPu : zcT Tryz.prog 144 = some [.v (.int .i64 0)] := by kernel_rfl
@[simp] theorem szJo : szT Tryz.prog 146 = some 0 := by kernel_rfl
@[simp] theorem szPu : szT Tryz.prog 144 = some 1 := by kernel_rfl
@[simp] theorem aggJo : aggT Tryz.prog 146 = some true := by kernel_rfl
@[simp] theorem aggPu : aggT Tryz.prog 144 = some true := by kernel_rfl
@[simp] theorem plJo : placesT Tryz.prog 146 = some [] := by kernel_rfl
@[simp] theorem plPu : placesT Tryz.prog 144 = some [(0, 1)] := by kernel_rfl
@[simp] theorem fldPu0 : fldT Tryz.prog 144 0 = some (3, 0) := by kernel_rfl

/-- A step. -/
def stepA (k : Int) : AV := if k = -1 then .ifc 146 (.agg []) else .ifc 144 (.agg [i k])
theorem pu_step (k : Int) : Pu (stepA k) := by
  unfold stepA
  split
  · exact .ifc _ _ (pu_agg (by simp))
  · exact .ifc _ _ (pu_agg (by simp))
theorem cells_stepA (k : Int) : cellsOf (stepA k) = some [stepA k] := by unfold stepA; split <;> rfl
theorem cells_ifc (t : TypeId) (x : AV) : cellsOf (.ifc t x) = some [.ifc t x] := rfl

theorem steps_ctr (l : List Int) (nl : Bool) (cap : Option Nat) (hl : l.length ≤ 100000) :
    Ctr Tryz.prog 90 [zsl nl l cap] (fun r => ∃ nl' c', r = .pl nl' (l.map stepA) l.length c') := by
  refine ctr_in Tryz.func90 rfl (by kernel_rfl) rfl fun K hK => ?_
  simp [Tryz.f90, zsl]
  refine loop_on (γ := Nat × AV × AHeap) 27 (fun g => [(3, g.2.1), (6, zsl nl l cap), (7, i l.length), (8, i g.1)]) (fun g => g.2.2)
    (fun g => g.1 ≤ l.length ∧ OW 1 0 g.2.2 g.2.1 ((l.take g.1).map stepA) g.1) (fun g => l.length - g.1) (0, _, _) ⟨Nat.zero_le _, .nil⟩ (Wk.lst (by simp [zsl]) (by simp)) ?_
  rintro ⟨g, r, σ⟩ ⟨hg, hO⟩ L hL
  simp only at hg hO
  by_cases hlt : g < l.length
  · have hw1 : IntKind.i64.wrap ((g : Int) + 1) = ((g + 1 : Nat) : Int) := w64 _ (by omega) (by omega)
    have hnext := fun r' σ' => hL (g + 1, r', σ')
    have htk : l.take (g + 1) = l.take g ++ [l[g]] := take_snoc hlt
    simp only [htk, List.map_append, List.map_cons, List.map_nil] at hnext
    by_cases hk : l[g] = -1
    · have hs : stepA l[g] = .ifc 146 (.agg []) := if_pos hk
      rw [hs] at hnext
      simp [hlt, zsl, hk, cells_ifc, -cellsOf, -aAppend]
      refine append_ow2 elTSt srcSts hO (by show (g + 1) * 17 ≤ _; omega) (by rfl) (Nat.zero_le _) fun r' σ' hO' hσ' _ => ?_
      simp [hw1, -Int.natCast_add]
      exact hnext r' σ' _ _ ⟨by omega, hO'⟩ (Wk.lst (by simp [zsl]) (by simp)) (by show _ - (g + 1) < _ - g; omega)
    · have hs : stepA l[g] = .ifc 144 (.agg [i l[g]]) := if_neg hk
      rw [hs] at hnext
      simp [hlt, zsl, hk, cells_ifc, cells_in, -cellsOf, -aAppend]
      refine append_ow2 elTSt srcSts hO (by show (g + 1) * 17 ≤ _; omega) (by rfl) (Nat.zero_le _) fun r' σ' hO' hσ' _ => ?_
      simp [hw1, -Int.natCast_add]
      exact hnext r' σ' _ _ ⟨by omega, hO'⟩ (Wk.lst (by simp [zsl]) (by simp)) (by show _ - (g + 1) < _ - g; omega)
  · have hge : g = l.length := by omega
    subst hge
    rw [List.take_length] at hO
    simp
    obtain ⟨n2, c2, _, _, hp⟩ := hO.pur (S := fun _ => True) (fun _ => trivial) (by
      intro x hx
      obtain ⟨k, _, rfl⟩ := List.mem_map.1 hx
      exact pu_step k)
    exact hK _ _ _ hp ⟨n2, c2, rfl⟩
end Go.Proofs.Nt
/- How many things there are behind each step of a plan; which plans may be. -/
set_option linter.unusedVariables false
set_option maxRecDepth 20000
set_option linter.unusedSimpArgs false
set_option linter.unnecessarySimpa false
namespace Go.Proofs.Nt
open Go Go.Proofs Go.Proofs.Va Go.RowKit

theorem meth_push : MethIs Tryz.prog 144 "levelling/plan.grows" 136 := by intro v w; kernel_rfl
theorem meth_join : MethIs Tryz.prog 146 "levelling/plan.grows" 137 := by intro v w; kernel_rfl
theorem pgrows_ctr (k : Int) : Ctr Tryz.prog 136 [.agg [i k]] (fun r => r = i 1) := by
  refine ctr_val Tryz.func136 rfl (by kernel_rfl) rfl (by simp) fun K hK => ?_
  simp [Tryz.f136]
  exact hK _
theorem jgrows_ctr : Ctr Tryz.prog 137 [.agg []] (fun r => r = i (-1)) := by
  refine ctr_val Tryz.func137 rfl (by kernel_rfl) rfl (by simp) fun K hK => ?_
  simp [Tryz.f137]
  exact hK _

theorem pu_snoc {hs : List AV} {x : Value} (hp : ∀ x ∈ hs, Pu x) : ∀ y ∈ hs ++ [.v x], Pu y := by
  intro y hy
  rcases List.mem_append.1 hy with h | h
  · exact hp y h
  · rw [List.mem_singleton.1 h]; exact .v _
theorem pur_two {σ : AHeap} {S : Nat → Prop} {x x' : AV} {v : Value} (h : Pur σ S x x') : Pur σ S (.tup [x, .v v]) (.tup [x', .v v]) := by
  refine .tup _ _ rfl fun j hj => ?_
  have : j = 0 ∨ j = 1 := by simp at hj; omega
  rcases this with rfl | rfl
  · exact h
  · exact .same _ (.v _)
theorem heights_ctr (l : List Int) (nl : Bool) (cap : Option Nat) (hl : l.length ≤ 100000) :
    Ctr Tryz.prog 89 [.pl nl (l.map stepA) l.length cap] (fun r => ∃ x, Pu x ∧ r = .tup [x, bo (hgt l 0 == some 1)]) := by
  refine ctr_in Tryz.func89 rfl (by kernel_rfl) rfl fun K hK => ?_
  simp [Tryz.f89]
  refine loop_on (γ := Nat × Nat × AV × AHeap) 38 (fun g => [(4, g.2.2.1), (5, i g.2.1), (10, .pl nl (l.map stepA) l.length cap), (11, i l.length), (12, i g.1)]) (fun g => g.2.2.2)
    (fun g => g.1 ≤ l.length ∧ hgt (l.take g.1) 0 = some g.2.1 ∧ ∃ hs, (∀ x ∈ hs, Pu x) ∧ OW 1 0 g.2.2.2 g.2.2.1 hs g.1) (fun g => l.length - g.1) (0, 0, _, _) ⟨Nat.zero_le _, rfl, [], by simp, .nil⟩ (Wk.lst (by simp) (by simp)) ?_
  rintro ⟨g, z, r, σ⟩ ⟨hg, hz, hs, hp, hO⟩ L hL
  simp only at hg hz hO
  have hzl := hgt_le _ _ _ hz
  rw [List.length_take] at hzl
  by_cases hlt : g < l.length
  · have hw1 : IntKind.i64.wrap ((g : Int) + 1) = ((g + 1 : Nat) : Int) := w64 _ (by omega) (by omega)
    have hnext := fun z' r' σ' => hL (g + 1, z', r', σ')
    have htk : l.take (g + 1) = l.take g ++ [l[g]] := take_snoc hlt
    simp only [htk] at hnext
    have hsn := hgt_snoc l[g] hz
    by_cases hk : l[g] = -1
    · have hst : stepA l[g] = .ifc 146 (.agg []) := if_pos hk
      rw [if_pos hk] at hsn
      by_cases h2 : z < 2
      · rw [if_pos h2] at hsn
        have hN : hgt l 0 = none := by
          have := hgt_none (b := l.drop (g + 1)) (by rw [← htk] at hsn; exact hsn)
          rwa [List.take_append_drop] at this
        simp only [hN] at hK
        simp [hlt, hst, h2]
        exact hK _ _ _ (.same _ (pu_tup (by simp))) ⟨_, by simp, rfl⟩
      · rw [if_neg h2] at hsn
        have hw2 : IntKind.i64.wrap ((z : Int) + -1) = ((z - 1 : Nat) : Int) := by rw [show (z : Int) + -1 = ((z - 1 : Nat) : Int) by omega]; exact w64 _ (by omega) (by omega)
        simp [hlt, hst, h2]
        refine ⟨_, meth_join, acall_by jgrows_ctr (by intro x hx; rw [List.mem_singleton.1 hx]; exact pu_agg (by simp)) ?_⟩
        rintro _ rfl
        have hO2 : OW 1 0 (σ ++ ([⟨.own, 0, []⟩] : AHeap)) r hs g := hO.keep fun a _ h => List.getElem?_append_left h
        generalize (σ ++ ([⟨.own, 0, []⟩] : AHeap)) = σ1 at hO2 ⊢
        simp [hw2, -aAppend, -Int.natCast_add]
        refine append_ow2 elTI srcIs hO2 (by show (_ + 1) * 9 ≤ _; omega) (by rfl) (Nat.zero_le _) fun r' σ' hO' hσ' _ => ?_
        simp [hw1, -Int.natCast_add]
        exact hnext (z - 1) r' σ' _ _ ⟨by omega, hsn, _, pu_snoc hp, hO'⟩ (Wk.lst (by simp) (by simp)) (by show _ - (g + 1) < _ - g; omega)
    · have hst : stepA l[g] = .ifc 144 (.agg [i l[g]]) := if_neg hk
      rw [if_neg hk] at hsn
      have hw2 : IntKind.i64.wrap ((z : Int) + 1) = ((z + 1 : Nat) : Int) := w64 _ (by omega) (by omega)
      simp [hlt, hst]
      refine ⟨_, meth_push, acall_by (pgrows_ctr _) (by intro x hx; rw [List.mem_singleton.1 hx]; exact pu_agg (by simp)) ?_⟩
      rintro _ rfl
      have hO2 : OW 1 0 (σ ++ ([⟨.own, 0, []⟩] : AHeap)) r hs g := hO.keep fun a _ h => List.getElem?_append_left h
      generalize (σ ++ ([⟨.own, 0, []⟩] : AHeap)) = σ1 at hO2 ⊢
      simp [hw2, -aAppend, -Int.natCast_add]
      refine append_ow2 elTI srcIs hO2 (by show (_ + 1) * 9 ≤ _; omega) (by rfl) (Nat.zero_le _) fun r' σ' hO' hσ' _ => ?_
      simp [hw1, -Int.natCast_add]
      exact hnext (z + 1) r' σ' _ _ ⟨by omega, hsn, _, pu_snoc hp, hO'⟩ (Wk.lst (by simp) (by simp)) (by show _ - (g + 1) < _ - g; omega)
  · have hge : g = l.length := by omega
    subst hge
    rw [List.take_length] at hz
    have he : (some z == some 1) = ((z : Int) == 1) := by
      rw [Bool.eq_iff_iff, beq_iff_eq, beq_iff_eq, Option.some.injEq]; omega
    simp only [hz, he] at hK
    simp
    obtain ⟨n2, c2, _, _, hpp⟩ := hO.pur (S := fun _ => True) (fun _ => trivial) hp
    exact hK _ _ _ (pur_two hpp) ⟨.pl n2 hs l.length c2, .pl .., rfl⟩
end Go.Proofs.Nt
/- Which plans may be. -/
set_option linter.unusedVariables false
set_option maxRecDepth 20000
set_option linter.unusedSimpArgs false
set_option linter.unnecessarySimpa false
namespace Go.Proofs.Nt
open Go Go.Proofs Go.Proofs.Va Go.RowKit

theorem entB_false {n : Int} {a : List Int} {k : Int} (h : k < -1 ∨ n ≤ k ∨ (0 ≤ k ∧ a.contains k = true)) : entB n a k = false := by
  unfold entB
  rcases h with h | h | h
  · rw [decide_eq_false (by omega)]; rfl
  · rw [decide_eq_false (by omega)]; rfl
  · rw [decide_eq_true h.1, h.2]; simp
theorem entB_true {n : Int} {a : List Int} {k : Int} (h1 : -1 ≤ k) (h2 : k < n) (h3 : 0 ≤ k → a.contains k = false) : entB n a k = true := by
  unfold entB
  rw [decide_eq_true ⟨h1, h2⟩]
  by_cases h : 0 ≤ k
  · rw [h3 h]; simp
  · rw [decide_eq_false h]; rfl
theorem plan_bad {n : Int} {l : List Int} {g : Nat} (hg : g < l.length) (h : entB n (l.take g) l[g] = false) : planE l n = 10 := by
  have : entOk n [] l = false := by
    rw [← List.take_append_drop (g + 1) l, entOk_append, take_snoc hg, entOk_snoc, h]
    simp
  unfold planE planOk
  rw [this]; rfl

theorem plan_ctr (l : List Int) (nl : Bool) (cap : Option Nat) (n : Int) (hl : l.length ≤ 100000) : Ctr Tryz.prog 79 [zsl nl l cap, i n] (fun r => r = i (planE l n)) := by
  refine ctr_val Tryz.func79 rfl (by kernel_rfl) rfl (by simp) fun K hK => ?_
  simp [Tryz.f79, zsl]
  refine loop_on (γ := Nat) 43 (fun g => [(0, zsl nl l cap), (1, i n), (9, zsl nl l cap), (10, i l.length), (11, i g)]) (fun _ => [])
    (fun g => g ≤ l.length ∧ entOk n [] (l.take g) = true) (fun g => l.length - g) 0 ⟨Nat.zero_le _, rfl⟩ (Wk.lst (by simp [zsl]) (by simp)) ?_
  rintro g ⟨hg, hall⟩ L hL
  by_cases hlt : g < l.length
  · have hw1 : IntKind.i64.wrap ((g : Int) + 1) = ((g + 1 : Nat) : Int) := w64 _ (by omega) (by omega)
    have hnext := hL (g + 1)
    have htk : l.take (g + 1) = l.take g ++ [l[g]] := take_snoc hlt
    simp only [htk, entOk_snoc, hall, Bool.true_and] at hnext
    have hN : entB n (l.take g) l[g] = false → ∀ σ, K (.v (.int .i64 10)) σ := fun h σ => by rw [plan_bad hlt h] at hK; exact hK σ
    have hne : (nl && l.isEmpty) = false := by cases l with | nil => simp at hlt | cons => simp
    have hz : ∀ c, AV.pl false ((l.map i).take g) g c = zsl false (l.take g) c := fun c => by
      unfold zsl; rw [List.map_take, List.length_take, Nat.min_eq_left hg]; rfl
    have hcon := fun c => contains_int_ctr (l.take g) false c l[g] (by rw [List.length_take]; omega)
    by_cases b1 : l[g] < -1
    · simp [hlt, zsl, b1]; exact hN (entB_false (.inl b1)) _
    by_cases b2 : n ≤ l[g]
    · simp [hlt, zsl, b1, b2]; exact hN (entB_false (.inr (.inl b2))) _
    have b2' : l[g] < n := by omega
    by_cases b3 : 0 ≤ l[g]
    · have b3' : ¬ l[g] < 0 := by omega
      simp [hlt, zsl, b1, b2, b2', b3, b3', hne]
      refine ⟨hg, ?_⟩
      rw [hz]
      refine acall_by (hcon _) (by simp) ?_
      rintro _ rfl
      by_cases b4 : (l.take g).contains l[g] = true
      · simp only [b4]
        simp; exact hN (entB_false (.inr (.inr ⟨b3, b4⟩))) _
      · rw [Bool.not_eq_true] at b4
        simp only [b4]
        simp [hw1, -Int.natCast_add]
        exact hnext _ _ ⟨by omega, entB_true (by omega) (by omega) (fun _ => b4)⟩ (Wk.lst (by simp [zsl, hne]) (by simp)) (by show _ - (g + 1) < _ - g; omega)
    · have b3' : l[g] < 0 := by omega
      simp [hlt, zsl, b1, b2, b2', b3, b3', hw1, -Int.natCast_add]
      exact hnext _ _ ⟨by omega, entB_true (by omega) (by omega) (fun h => absurd h b3)⟩ (Wk.lst (by simp [zsl]) (by simp)) (by show _ - (g + 1) < _ - g; omega)
  · have hge : g = l.length := by omega
    subst hge
    rw [List.take_length] at hall
    simp [zsl]
    refine acall_by (steps_ctr l nl cap hl) (by simp) ?_
    rintro _ ⟨n2, c2, rfl⟩
    simp
    refine acall_by (heights_ctr l n2 c2 hl) (by simp) ?_
    rintro _ ⟨x, hx, rfl⟩
    have hp : planE l n = if (hgt l 0 == some 1) = true then 0 else 10 := by unfold planE planOk; rw [hall, Bool.true_and]
    rw [hp] at hK
    cases hq : (hgt l 0 == some 1)
    · simp only [hq] at hK
      simp
      exact hK _
    · simp only [hq] at hK
      simp
      exact hK _
end Go.Proofs.Nt
/- How many rows and rotations a plan comes to: the two functions that are handed to play. -/
set_option linter.unusedVariables false
set_option maxRecDepth 20000
set_option linter.unusedSimpArgs false
set_option linter.unnecessarySimpa false
namespace Go.Proofs.Nt
open Go Go.Proofs Go.Proofs.Va Go.RowKit

@[simp] theorem elTCo : elT Tryz.prog 140 = some (126, ⟨2, 16, [.v (.int .i64 0), .v (.int .i64 0)]⟩) := by kernel_rfl
@[simp] theorem srcCo : srcT Tryz.prog 140 = some false := by kernel_rfl
@[simp] theorem undCo : Tryz.prog.underlying 140 = some (.slice 126) := by kernel_rfl

theorem clay_ctr (rows turns : List Int) (rn tn : Bool) (rc tc : Option Nat) (k : Int) (h0 : 0 ≤ k) (h1 : k < rows.length) (h2 : turns.length = rows.length) :
    Ctr Tryz.prog 80 [i k, .pp [zsl rn rows rc] 0, .pp [zsl tn turns tc] 0] (fun r => r = .tup [.agg [i (rows.getD k.toNat 0), i (turns.getD k.toNat 0)], i 0]) := by
  refine ctr_in Tryz.func80 rfl (by kernel_rfl) rfl fun K hK => ?_
  have hr : rows[k.toNat]? = some (rows.getD k.toNat 0) := by
    have : k.toNat < rows.length := by omega
    simp [this]
  have ht : turns[k.toNat]? = some (turns.getD k.toNat 0) := by
    have : k.toNat < turns.length := by omega
    simp [this]
  have h1' : k.toNat < rows.length := by omega
  have h1t : k.toNat < turns.length := by omega
  have h2t : k < turns.length := by omega
  generalize rows.getD k.toNat 0 = a at *
  generalize turns.getD k.toNat 0 = b at *
  simp [Tryz.f80]
  refine draw_at [1, 0, 1, 1, 1, 0, 1, 1, 0, 4, 0] (by kernel_rfl) (by kernel_rfl) ?_
  simp [zsl, h0, h1, h1', h1t, h2t, hr, ht, -getElem?_pos, List.getElem?_cons_zero, List.getElem?_cons_succ]
  exact hK _ _ _ (.same _ (pu_tup (by intro x hx; simp only [List.mem_cons, List.not_mem_nil, or_false] at hx; rcases hx with rfl | rfl; exact pu_agg (by simp); simp))) rfl
theorem cadd_ctr (cols : Int) (a b : PairI) (hc : 1 ≤ cols ∧ cols ≤ 6) (ha : mayC a = true) (hb : mayC b = true) :
    Ctr Tryz.prog 81 [.agg [i a.1, i a.2], .agg [i b.1, i b.2], .pp [i cols] 0]
      (fun r => r = if mayC (joinC (sizeI cols) a b) = true then .tup [.agg [i (joinC (sizeI cols) a b).1, i (joinC (sizeI cols) a b).2], i 0] else .tup [.agg [i 0, i 0], i 6]) := by
  refine ctr_in Tryz.func81 rfl (by kernel_rfl) rfl fun K hK => ?_
  obtain ⟨a1, a2⟩ := a
  obtain ⟨b1, b2⟩ := b
  have ha := mayC_def.1 ha
  have hb := mayC_def.1 hb
  have hsz : 0 ≤ sizeI cols ∧ sizeI cols ≤ 28 := by have := size_facts (c := cols) hc; omega
  simp [Tryz.f81, cells_g2q, -cellsOf]
  refine draw_at [1, 1, 1, 1, 0, 1, 1, 1, 1, 1, 1, 5, 0, 0, 2, 4] (by kernel_rfl) (by kernel_rfl) ?_
  simp [-getElem?_pos, List.getElem?_cons_zero, List.getElem?_cons_succ]
  refine actr_by (cost_ctr cols) (by simp) ⟨_, rfl⟩ ?_
  rintro _ rfl
  simp
  have w1 : IntKind.i64.wrap (a1 + b1) = a1 + b1 := w64 _ (by omega) (by omega)
  have hmx : (if a2 < b2 then b2 else a2) = max a2 b2 := by split <;> omega
  have w2 : IntKind.i64.wrap (max a2 b2 + sizeI cols) = max a2 b2 + sizeI cols := w64 _ (by omega) (by omega)
  refine ⟨(same_more (σ := [_, _, _]) (more := [_])).2 (by simp), ?_⟩
  rw [hmx, w1, w2]
  have hK' : ∀ r σ', r = (if mayC (a1 + b1, max a2 b2 + sizeI cols) = true then AV.tup [.agg [i (a1 + b1), i (max a2 b2 + sizeI cols)], i 0] else .tup [.agg [i 0, i 0], i 6]) → K r σ' := fun r σ' h => hK _ _ _ (.same _ (by
    rw [h]
    have : ∀ a b c : Int, Pu (.tup [.agg [i a, i b], i c]) := fun a b c => pu_tup (by intro x hx; simp only [List.mem_cons, List.not_mem_nil, or_false] at hx; rcases hx with rfl | rfl; exact pu_agg (by simp); simp)
    split <;> exact this _ _ _)) h
  refine acall_by (cmay_ctr _ _) (by intro x hx; rw [List.mem_singleton.1 hx]; exact pu_agg (by simp)) ?_
  rintro _ rfl
  cases hq : mayC (a1 + b1, max a2 b2 + sizeI cols)
  · simp [cells_g2q, -cellsOf, wr]
    exact hK' _ _ (by rw [hq]; rfl)
  · simp [cells_g2q, -cellsOf, wr]
    exact hK' _ _ (by rw [hq]; rfl)
end Go.Proofs.Nt
/- A plan, played with counts. -/
set_option linter.unusedVariables false
set_option maxRecDepth 20000
set_option linter.unusedSimpArgs false
set_option linter.unnecessarySimpa false
namespace Go.Proofs.Nt
open Go Go.Proofs Go.Proofs.Va Go.RowKit

def pairC (c : PairI) : List AV := [i c.1, i c.2]
def flatC (s : List PairI) : List AV := s.flatMap pairC
theorem flat_len (s : List PairI) : (flatC s).length = s.length * 2 := by
  induction s with
  | nil => rfl
  | cons c s ih => show (pairC c ++ flatC s).length = _; rw [List.length_append, ih, List.length_cons]; show 2 + _ = _; omega
theorem flat_append (s t : List PairI) : flatC (s ++ t) = flatC s ++ flatC t := by unfold flatC; rw [List.flatMap_append]
theorem flat_at {s : List PairI} {j : Nat} (h : j < s.length) : ((flatC s).drop (j * 2)).take 2 = pairC (s.getD j (0, 0)) := by
  induction s generalizing j with
  | nil => simp at h
  | cons c s ih =>
    show ((pairC c ++ flatC s).drop (j * 2)).take 2 = _
    cases j with
    | zero => simp [pairC]
    | succ j =>
      have : (j + 1) * 2 = (pairC c).length + j * 2 := by show _ = 2 + _; omega
      rw [this, List.drop_length_add_append, ih (by simpa using h)]
      simp
theorem flat_take (s : List PairI) (m : Nat) (h : m ≤ s.length) : (flatC s).take (m * 2) = flatC (s.take m) := by
  have e := flat_append (s.take m) (s.drop m)
  rw [List.take_append_drop] at e
  have hl : (flatC (s.take m)).length = m * 2 := by rw [flat_len, List.length_take]; omega
  rw [e, ← hl, List.take_left]
theorem sub_take {α : Type} {b : List α} {n o : Nat} (h : o + 2 ≤ n) : ((b.take n).drop o).take 2 = (b.drop o).take 2 := by
  rw [List.drop_take, List.take_take, Nat.min_eq_left (by omega)]

theorem play_ctr (l : List Int) (nl : Bool) (cap : Option Nat) (rows turns : List Int) (rn tn : Bool) (rc tc : Option Nat) (cols : Int) (hl : l.length ≤ 100000) (hc : 1 ≤ cols ∧ cols ≤ 6) (h2 : turns.length = rows.length) (hr : rngB rows turns = true)
    (hp : planOk l rows.length = true) :
    Ctr Tryz.prog 82 [zsl nl l cap, .fn (.func 80) [] [.pp [zsl rn rows rc] 0, .pp [zsl tn turns tc] 0], .fn (.func 81) [] [.pp [i cols] 0]]
      (fun r => r = match cnt (sizeI cols) rows turns l [] with
        | none => .tup [.agg [i 0, i 0], i 6]
        | some s => .tup [.agg [i (s.getD 0 (0, 0)).1, i (s.getD 0 (0, 0)).2], i 0]) := by
  refine ctr_in Tryz.func82 rfl (by kernel_rfl) rfl fun K hK => ?_
  have hpu : ∀ a b c : Int, Pu (.tup [.agg [i a, i b], i c]) := fun a b c => pu_tup (by intro x hx; simp only [List.mem_cons, List.not_mem_nil, or_false] at hx; rcases hx with rfl | rfl; exact pu_agg (by simp); simp)
  have hgt1 : hgt l 0 = some 1 := by
    unfold planOk at hp
    rw [Bool.and_eq_true, beq_iff_eq] at hp
    exact hp.2
  have hent : entOk rows.length [] l = true := by
    unfold planOk at hp
    rw [Bool.and_eq_true] at hp
    exact hp.1
  simp [Tryz.f82]
  refine acall_by (steps_ctr l nl cap hl) (by simp) ?_
  rintro _ ⟨n2, c2, rfl⟩
  simp
  refine loop_on (γ := Nat × List PairI × AV × AHeap) 70 (fun g => [(1, .fn (.func 80) [] [.pp [zsl rn rows rc] 0, .pp [zsl tn turns tc] 0]), (2, .fn (.func 81) [] [.pp [i cols] 0]), (6, .po 0 0 0), (8, .po 1 0 0), (9, g.2.2.1), (18, .pl n2 (l.map stepA) l.length c2), (19, i l.length), (20, i g.1)]) (fun g => g.2.2.2)
    (fun g => g.1 ≤ l.length ∧ cnt (sizeI cols) rows turns (l.take g.1) [] = some g.2.1 ∧ hgt (l.take g.1) 0 = some g.2.1.length ∧ (∀ x ∈ g.2.1, mayC x = true) ∧
      2 ≤ g.2.2.2.length ∧ g.2.2.2[0]? = some ⟨.own, 0, [i 0, i 0]⟩ ∧ g.2.2.2[1]? = some ⟨.own, 0, [i 0, i 0]⟩ ∧ OW 2 2 g.2.2.2 g.2.2.1 (flatC g.2.1) g.2.1.length) (fun g => l.length - g.1)
    (0, [], _, _) ⟨Nat.zero_le _, rfl, rfl, by simp, by simp, rfl, rfl, .nil⟩ (Wk.lst (by simp) (by simp)) ?_
  rintro ⟨g, s, r, σ⟩ ⟨hg, hs, hz, hall, hσ, hσ0, hσ1, hO⟩ L hL
  simp only at hg hs hz hall hσ hσ0 hσ1 hO
  have hzl := hgt_le _ _ _ hz
  have h0lt : 0 < σ.length := by omega
  have h1lt : 1 < σ.length := by omega
  have ap0 : ∀ A B : ABlk, (σ ++ [A, B])[σ.length]? = some A := fun A B => by simp
  have sp0 : ∀ A B C : ABlk, (σ ++ [A, B]).set σ.length C = σ ++ [C, B] := fun A B C => by simp
  rw [List.length_take] at hzl
  by_cases hlt : g < l.length
  · have hw1 : IntKind.i64.wrap ((g : Int) + 1) = ((g + 1 : Nat) : Int) := w64 _ (by omega) (by omega)
    have hnext := fun s' r' σ' => hL (g + 1, s', r', σ')
    have htk : l.take (g + 1) = l.take g ++ [l[g]] := take_snoc hlt
    have hsplit : l = l.take g ++ l[g] :: l.drop (g + 1) := by
      rw [← List.drop_eq_getElem_cons hlt, List.take_append_drop]
    simp only [htk] at hnext
    have hsn := hgt_snoc l[g] hz
    have hent2 := entOk_take hent hlt
    have e0 : l.getD g 0 = l[g] := by simp [hlt]
    rw [e0] at hent2
    by_cases hk : l[g] = -1
    · have hst : stepA l[g] = .ifc 146 (.agg []) := if_pos hk
      rw [if_pos hk] at hsn
      have h2z : ¬ s.length < 2 := by
        intro h
        rw [if_pos h] at hsn
        have := hgt_none (b := l.drop (g + 1)) hsn
        rw [List.append_assoc, List.singleton_append, ← hsplit, hgt1] at this
        cases this
      rw [if_neg h2z] at hsn
      obtain ⟨j, v, b, rfl, hkj, hj, hb, hlen⟩ := hO.inv (by omega)
      have hlj := (List.getElem?_eq_some_iff.1 hj).1
      have hbl : s.length * 2 ≤ b.length := by
        have := congrArg List.length hb
        rw [List.length_take, flat_len] at this
        omega
      obtain ⟨m, hm⟩ : ∃ m, s.length = m + 2 := ⟨s.length - 2, by omega⟩
      have hw3 : IntKind.i64.wrap ((s.length : Int) - 2) = (m : Int) := by rw [show (s.length : Int) - 2 = m by omega]; exact w64 _ (by omega) (by omega)
      have hw4 : IntKind.i64.wrap ((m : Int) + 1) = ((m + 1 : Nat) : Int) := w64 _ (by omega) (by omega)
      have ra : ((b.drop (m * 2)).take 2) = pairC (s.getD m (0, 0)) := by rw [← flat_at (by omega), ← hb, sub_take (by omega)]
      have rb : ((b.drop ((m + 1) * 2)).take 2) = pairC (s.getD (m + 1) (0, 0)) := by rw [← flat_at (by omega), ← hb, sub_take (by omega)]
      have oa : m * 2 + 2 ≤ b.length := by omega
      have ob : (m + 1) * 2 + 2 ≤ b.length := by omega
      have om : m < s.length := by omega
      have om1 : m + 1 < s.length := by omega
      have ma : mayC (s.getD m (0, 0)) = true := hall _ (by rw [show s.getD m (0, 0) = s[m] by simp [om]]; exact List.getElem_mem _)
      have mb : mayC (s.getD (m + 1) (0, 0)) = true := hall _ (by rw [show s.getD (m + 1) (0, 0) = s[m + 1] by simp [om1]]; exact List.getElem_mem _)
      have cA := cadd_ctr cols _ _ hc ma mb
      have hc1 : ¬ mayC (joinC (sizeI cols) (s.getD m (0, 0)) (s.getD (m + 1) (0, 0))) = true → cnt (sizeI cols) rows turns l [] = none := by
        intro hq
        rw [hsplit, cnt_append, hs]
        show cnt _ _ _ (l[g] :: _) s = _
        simp only [cnt]
        rw [if_pos hk, show s.length - 2 = m by omega, show s.length - 1 = m + 1 by omega, if_neg hq]
      have hc2 : mayC (joinC (sizeI cols) (s.getD m (0, 0)) (s.getD (m + 1) (0, 0))) = true → cnt (sizeI cols) rows turns (l.take g ++ [l[g]]) [] = some (s.take m ++ [joinC (sizeI cols) (s.getD m (0, 0)) (s.getD (m + 1) (0, 0))]) := by
        intro hq
        rw [cnt_append, hs]
        show cnt _ _ _ [l[g]] s = _
        simp only [cnt]
        rw [if_pos hk, show s.length - 2 = m by omega, show s.length - 1 = m + 1 by omega, if_pos hq]
      generalize s.getD m (0, 0) = pa at *
      generalize s.getD (m + 1) (0, 0) = pb at *
      simp [hlt, hst, hj, hw3, List.getElem?_append_left hlj, -Int.natCast_add]
      refine draw_at [0, 0, 0, 1, 1, 0, 0, 0, 1, 1, 3, 0, 0, 0, 4, 0] (by kernel_rfl) (by kernel_rfl) ?_
      simp [hj, hw4, List.getElem?_append_left hlj, om, om1, oa, ob, ra, rb, pairC, -Int.natCast_add]
      refine ⟨by omega, ?_⟩
      refine acall_by cA (by
        intro x hx
        simp only [List.mem_cons, List.not_mem_nil, or_false] at hx
        rcases hx with rfl | rfl | rfl
        · exact pu_agg (by simp)
        · exact pu_agg (by simp)
        · simp) ?_
      rintro _ rfl
      by_cases hq : mayC (joinC (sizeI cols) pa pb) = true
      · have hcnt := hc2 hq
        generalize joinC (sizeI cols) pa pb = pc at *
        rw [if_pos hq]
        simp [cells_g2q, -cellsOf, wr, List.getElem?_append_left hlj, hj, om, -aAppend]
        have hbm : b.take (m * 2) = flatC (s.take m) := by
          rw [← flat_take s m (by omega), ← hb, List.take_take, Nat.min_eq_left (by omega)]
        refine ⟨by omega, append_ow3 (k := 2) (cs := flatC (s.take m)) (ys := [i pc.1, i pc.2]) elTCo srcCo (.so j v m b _ hkj (by rw [List.getElem?_append_left hlj]; exact hj) hbm (by rw [flat_len, List.length_take, Nat.min_eq_left (by omega)])) (by simp) (by show (_ + 1) * 17 ≤ _; omega) (by rfl) (by simp) fun r' σ' hO' hσ' hS => ?_⟩
        simp only [List.length_append, List.length_cons, List.length_nil] at hσ'
        simp [hw1, -Int.natCast_add]
        refine hnext (s.take m ++ [pc]) r' σ' _ _ ⟨by omega, hcnt, ?_, ?_, by omega, ?_, ?_, ?_⟩ (Wk.lst (by simp) (by simp)) (by show _ - (g + 1) < _ - g; omega)
        · rw [hsn, List.length_append, List.length_take, List.length_singleton]; congr 1; omega
        · intro x hx
          rcases List.mem_append.1 hx with hx | hx
          · exact hall x (List.mem_of_mem_take hx)
          · rw [List.mem_singleton.1 hx]; exact hq
        · rw [hS 0 (by omega), List.getElem?_append_left (by omega)]; exact hσ0
        · rw [hS 1 (by omega), List.getElem?_append_left (by omega)]; exact hσ1
        · rw [flat_append, List.length_append, List.length_take, Nat.min_eq_left (by omega)]; exact hO'
      · have hcnt := hc1 hq
        simp only [hcnt] at hK
        rw [if_neg hq]
        simp [cells_g2q, -cellsOf, wr, List.getElem?_append_left hlj, List.getElem?_append_left h0lt, List.getElem?_append_left h1lt, hσ0, hσ1, ap0, sp0, hj, om, -getElem?_pos, List.getElem?_cons_zero, List.getElem?_cons_succ]
        exact ⟨by omega, hK _ _ _ (.same _ (hpu _ _ _)) rfl⟩
    · have hst : stepA l[g] = .ifc 144 (.agg [i l[g]]) := if_neg hk
      rw [if_neg hk] at hsn
      have cL := clay_ctr rows turns rn tn rc tc l[g] (by omega) (by omega) h2
      have hm := rng_at hr (j := l[g].toNat) (by omega)
      have hcnt : cnt (sizeI cols) rows turns (l.take g ++ [l[g]]) [] = some (s ++ [(rows.getD l[g].toNat 0, turns.getD l[g].toNat 0)]) := by
        rw [cnt_append, hs]
        show cnt _ _ _ [l[g]] s = _
        simp only [cnt]
        rw [if_neg hk]
      generalize hra : rows.getD l[g].toNat 0 = ra at *
      generalize hta : turns.getD l[g].toNat 0 = ta at *
      simp [hlt, hst]
      refine acall_by cL (by simp) ?_
      rintro _ rfl
      simp [cells_g2q, -cellsOf, wr, -aAppend]
      refine append_ow3 (k := 2) (cs := flatC s) (ys := [i ra, i ta]) elTCo srcCo (hO.keep fun a _ h => List.getElem?_append_left h) (by simp) (by show (_ + 1) * 17 ≤ _; omega) (by rfl) (by simp) fun r' σ' hO' hσ' hS => ?_
      simp only [List.length_append, List.length_cons, List.length_nil] at hσ'
      simp [hw1, -Int.natCast_add]
      refine hnext (s ++ [(ra, ta)]) r' σ' _ _ ⟨by omega, hcnt, ?_, ?_, by omega, ?_, ?_, ?_⟩ (Wk.lst (by simp) (by simp)) (by show _ - (g + 1) < _ - g; omega)
      · rw [hsn, List.length_append, List.length_singleton]
      · intro x hx
        rcases List.mem_append.1 hx with hx | hx
        · exact hall x hx
        · rw [List.mem_singleton.1 hx]; exact hm
      · rw [hS 0 (by omega), List.getElem?_append_left (by omega)]; exact hσ0
      · rw [hS 1 (by omega), List.getElem?_append_left (by omega)]; exact hσ1
      · rw [flat_append, List.length_append]; exact hO'
  · have hge : g = l.length := by omega
    subst hge
    rw [List.take_length] at hs hz
    rw [hgt1] at hz
    have hsl : s.length = 1 := (Option.some.inj hz).symm
    obtain ⟨j, v, b, rfl, hkj, hj, hb, hlen⟩ := hO.inv (by omega)
    simp only [hs] at hK
    rw [hsl] at hb
    have hbl : 2 ≤ b.length := by
      have := congrArg List.length hb
      rw [List.length_take, flat_len] at this
      omega
    have ra : b.take 2 = pairC (s.getD 0 (0, 0)) := by
      rw [← flat_at (by omega), ← hb, sub_take (by omega)]
      simp
    generalize s.getD 0 (0, 0) = pa at *
    have sp1 : ∀ C : ABlk, (σ.set 0 C)[0]? = some C := fun C => by rw [List.getElem?_set_self (by omega)]
    simp [hj, hsl, hσ0, hbl, ra, pairC, wr, sp1, cells_g2q, -cellsOf, -getElem?_pos, List.getElem?_cons_zero, List.getElem?_cons_succ]
    exact hK _ _ _ (.same _ (hpu _ _ _)) rfl
end Go.Proofs.Nt
/- How many rows and rotations a plan comes to. -/
set_option linter.unusedVariables false
set_option maxRecDepth 20000
set_option linter.unusedSimpArgs false
set_option linter.unnecessarySimpa false
namespace Go.Proofs.Nt
open Go Go.Proofs Go.Proofs.Va Go.RowKit

theorem pu_int (a : Int) : Pu (.v (.int .i64 a)) := .v _
def trip (c : Int × Int × Int) : AV := .tup [i c.1, i c.2.1, i c.2.2]
theorem pu_trip (c : Int × Int × Int) : Pu (trip c) := pu_tup (by simp)
theorem pur_box {σ : AHeap} {S : Nat → Prop} {j : Nat} {x : AV} (hj : σ[j]? = some ⟨.own, 0, [x]⟩) (hS : S j) (hp : Pu x) : Pur σ S (.po j 0 0) (.pp [x] 0) := by
  refine .po _ _ _ _ _ hj rfl (by simp) hS rfl fun k hk => ?_
  have : k = 0 := by simpa using hk
  subst this
  exact .same _ hp
theorem pur_fn1 {σ : AHeap} {S : Nat → Prop} {f : Fn} {x x' : AV} (h : Pur σ S x x') : Pur σ S (.fn f [] [x]) (.fn f [] [x']) := by
  refine .fn _ _ _ _ _ rfl rfl (fun j hj => absurd hj (Nat.not_lt_zero _)) fun j hj => ?_
  have : j = 0 := by simpa using hj
  subst this
  exact h
theorem pur_fn2 {σ : AHeap} {S : Nat → Prop} {f : Fn} {x x' y y' : AV} (h : Pur σ S x x') (k : Pur σ S y y') : Pur σ S (.fn f [] [x, y]) (.fn f [] [x', y']) := by
  refine .fn _ _ _ _ _ rfl rfl (fun j hj => absurd hj (Nat.not_lt_zero _)) fun j hj => ?_
  have : j = 0 ∨ j = 1 := by simp at hj; omega
  rcases this with rfl | rfl
  · exact h
  · exact k
theorem pcounts_ctr (l : List Int) (nl : Bool) (cap : Option Nat) (c : Int) (rows turns : List Int) (rn tn : Bool) (rc tc : Option Nat) (hl : l.length ≤ 100000) (hlr : rows.length ≤ 100000) (hlt2 : turns.length ≤ 100000) :
    Ctr Tryz.prog 59 [zsl nl l cap, i c, zsl rn rows rc, zsl tn turns tc] (fun r => r = trip (countsE l c rows turns)) := by
  refine ctr_in Tryz.func59 rfl (by kernel_rfl) rfl fun K hK => ?_
  have hK : ∀ σ, K (trip (countsE l c rows turns)) σ := fun σ => hK _ _ _ (.same _ (pu_trip _)) rfl
  unfold countsE at hK
  simp [Tryz.f59, cells_zsl, -cellsOf]
  refine acall_by (size_ctr c) (by simp) ?_
  rintro _ rfl
  by_cases h0 : sizeI c = 0
  · simp only [if_pos (show sizeI c = 0 ∨ rows.length ≠ turns.length from .inl h0)] at hK
    simp [h0]; exact hK _
  by_cases h1 : rows.length = turns.length
  case neg =>
    simp only [if_pos (show sizeI c = 0 ∨ rows.length ≠ turns.length from .inr h1)] at hK
    simp [h0, h1, zsl]; exact hK _
  simp only [if_neg (show ¬ (sizeI c = 0 ∨ rows.length ≠ turns.length) from fun h => h.elim h0 (fun h => h h1))] at hK
  simp [h0, eq_true h1, zsl]
  have hc : 1 ≤ c ∧ c ≤ 6 := by
    by_cases e : 1 ≤ c ∧ c ≤ 6
    · exact e
    · exact absurd (if_neg e) h0
  refine loop_on (γ := Nat × AHeap) 67 (fun g => [(0, zsl nl l cap), (5, .po 0 0 0), (6, .po 1 0 0), (7, .po 2 0 0), (29, zsl rn rows rc), (30, i rows.length), (31, i g.1)]) (fun g => g.2)
    (fun g => g.1 ≤ rows.length ∧ (∀ j, j < g.1 → mayC (rows.getD j 0, turns.getD j 0) = true) ∧ 3 ≤ g.2.length ∧ g.2[0]? = some ⟨.own, 0, [i c]⟩ ∧ g.2[1]? = some ⟨.own, 0, [zsl rn rows rc]⟩ ∧ g.2[2]? = some ⟨.own, 0, [zsl tn turns tc]⟩) (fun g => rows.length - g.1)
    (0, [⟨.own, 0, [i c]⟩, ⟨.own, 0, [zsl rn rows rc]⟩, ⟨.own, 0, [zsl tn turns tc]⟩]) ⟨Nat.zero_le _, by intro j hj; exact absurd hj (Nat.not_lt_zero _), by simp, rfl, rfl, rfl⟩ (Wk.lst (by simp [zsl]) (by simp)) ?_
  rintro ⟨g, σ⟩ ⟨hg, hall, hσ, s0, s1, s2⟩ L hL
  simp only at hg hall hσ s0 s1 s2
  by_cases hlt : g < rows.length
  · have hw1 : IntKind.i64.wrap ((g : Int) + 1) = ((g + 1 : Nat) : Int) := w64 _ (by omega) (by omega)
    have hnext := fun σ' => hL (g + 1, σ')
    have hlt3 : g < turns.length := by omega
    have hrt : turns[g]? = some (turns.getD g 0) := by simp [hlt3]
    have hrr : rows[g]? = some (rows.getD g 0) := by simp [hlt]
    have hF : ¬ mayC (rows.getD g 0, turns.getD g 0) = true → ∀ σ, K (trip (0, 0, 1)) σ := fun h σ => by
      simp only [if_pos (rng_not hlt h)] at hK; exact hK σ
    have hm : (∀ j, j < g + 1 → mayC (rows.getD j 0, turns.getD j 0) = true) ↔ mayC (rows.getD g 0, turns.getD g 0) = true := by
      constructor
      · intro h; exact h g (by omega)
      · intro h j hj
        by_cases e : j = g
        · subst e; exact h
        · exact hall j (by omega)
    simp only [hm] at hnext
    clear hm
    generalize rows.getD g 0 = a at *
    generalize turns.getD g 0 = b at *
    have ap0 : ∀ A : ABlk, (σ ++ [A])[σ.length]? = some A := fun A => by simp
    have sp0 : ∀ A C : ABlk, (σ ++ [A]).set σ.length C = σ ++ [C] := fun A C => by simp
    simp [hlt, hlt3, zsl, s2, hrt, hrr, ap0, sp0, wr, cells_g2q, cells_in, cells_pl, -cellsOf, -getElem?_pos, List.getElem?_cons_zero, List.getElem?_cons_succ]
    refine acall_by (cmay_ctr a b) (by intro x hx; rw [List.mem_singleton.1 hx]; exact pu_agg (by simp)) ?_
    rintro _ rfl
    by_cases hq : mayC (a, b) = true
    · simp only [hq]
      simp [hw1, -Int.natCast_add]
      refine hnext _ _ _ ⟨by omega, hq, by simp; omega, ?_, ?_, ?_⟩ (Wk.lst (by simp [zsl]) (by simp)) (by show _ - (g + 1) < _ - g; omega)
      · rw [List.getElem?_append_left (by omega)]; exact s0
      · rw [List.getElem?_append_left (by omega)]; exact s1
      · rw [List.getElem?_append_left (by omega)]; exact s2
    · have hq' := Bool.eq_false_iff.2 hq
      simp only [hq']
      simp
      exact hF hq _
  · have hge : g = rows.length := by omega
    subst hge
    have hr := rng_of hall
    simp only [hr] at hK
    simp [s1, zsl]
    refine acall_by (plan_ctr l nl cap rows.length hl) (by simp [zsl]) ?_
    rintro _ rfl
    cases hp : planOk l rows.length
    · simp only [hp] at hK
      have : planE l rows.length = 10 := by unfold planE; rw [hp]; rfl
      rw [this]
      simp
      exact hK _
    · simp only [hp] at hK
      have : planE l rows.length = 0 := by unfold planE; rw [hp]; rfl
      rw [this]
      simp
      refine acall_froze [0, 1, 2] (play_ctr l nl cap rows turns rn tn rc tc c hl hc h1.symm hr hp) rfl (fun j hj => ?_) ?_
      · have : j = 0 ∨ j = 1 ∨ j = 2 := by simp at hj; omega
        rcases this with rfl | rfl | rfl
        · exact .same _ (by simp [zsl])
        · exact pur_fn2 (pur_box s1 (by simp) (by simp)) (pur_box s2 (by simp) (by simp))
        · exact pur_fn1 (pur_box s0 (by simp) (by simp))
      rintro _ rfl
      generalize froze σ [0, 1, 2] = τ
      have ap0 : ∀ A : ABlk, (τ ++ [A])[τ.length]? = some A := fun A => by simp
      have sp0 : ∀ A C : ABlk, (τ ++ [A]).set τ.length C = τ ++ [C] := fun A C => by simp
      cases hcn : cnt (sizeI c) rows turns l [] with
      | none =>
        simp only [hcn] at hK
        simp [ap0, sp0, wr, cells_g2q, cells_in, cells_pl, -cellsOf, -getElem?_pos, List.getElem?_cons_zero, List.getElem?_cons_succ]
        refine draw_at [1, 1, 1, 1, 0, 0, 0, 0] (by kernel_rfl) (by kernel_rfl) ?_
        simp [ap0, sp0, -getElem?_pos, List.getElem?_cons_zero, List.getElem?_cons_succ]
        exact hK _
      | some s =>
        simp only [hcn] at hK
        simp [ap0, sp0, wr, cells_g2q, cells_in, cells_pl, -cellsOf, -getElem?_pos, List.getElem?_cons_zero, List.getElem?_cons_succ]
        refine draw_at [1, 1, 1, 1, 0, 0, 0, 0] (by kernel_rfl) (by kernel_rfl) ?_
        simp [ap0, sp0, -getElem?_pos, List.getElem?_cons_zero, List.getElem?_cons_succ]
        exact hK _
end Go.Proofs.Nt
/- A float out of bytes. -/
set_option linter.unusedVariables false
set_option maxRecDepth 20000
set_option linter.unusedSimpArgs false
set_option linter.unnecessarySimpa false
namespace Go.Proofs.Nt
open Go Go.Proofs Go.Proofs.Va Go.RowKit

@[simp] theorem arrWd : arrT Tryz.prog 105 = some (8, 5, 1) := by kernel_rfl
@[simp] theorem szWd : szT Tryz.prog 105 = some 8 := by kernel_rfl
@[simp] theorem aggWd : aggT Tryz.prog 105 = some true := by kernel_rfl
def b0 : AV := .v (.int .u8 0)
@[simp] theorem zcWd : zcT Tryz.prog 105 = some [b0, b0, b0, b0, b0, b0, b0, b0] := by kernel_rfl
@[simp] theorem aggU8 : aggT Tryz.prog 5 = some false := by kernel_rfl
@[simp] theorem undU8 : Tryz.prog.underlying 5 = some (.int .u8) := by kernel_rfl
@[simp] theorem undU64q : Tryz.prog.underlying 76 = some (.int .u64) := by kernel_rfl
@[simp] theorem elTU8 : elT Tryz.prog 106 = some (5, ⟨1, 1, [b0]⟩) := by kernel_rfl
theorem or_byte {x y : Nat} (hy : y < 256) : x * 256 ||| y = x * 256 + y := by
  have := Nat.two_pow_add_eq_or_of_lt (i := 8) (b := y) (by omega) x
  rw [Nat.mul_comm]; exact this.symm

theorem snumber_ctr {b : Nat} (hb : b < 18446744073709551616) : Ctr Tryz.prog 69 [fl b] (fun r => r = bo (numB b)) := by
  refine ctr_val Tryz.func69 rfl (by kernel_rfl) rfl (by simp) fun K hK => ?_
  simp [Tryz.f69]
  refine acall_by (split_ctr hb) (by simp) ?_
  rintro _ rfl
  unfold numB at hK
  by_cases h1 : 9218868437227405312 < frg b
  · rw [splitV_nan h1]
    rw [decide_eq_false (by omega)] at hK
    simp; exact hK _
  by_cases h2 : frg b = 9218868437227405312
  · rw [splitV_inf h2]
    rw [decide_eq_false (by omega)] at hK
    simp; exact hK _
  rw [decide_eq_true (by omega)] at hK
  by_cases h3 : frg b = 0
  · rw [splitV_zero h3]
    simp; exact hK _
  · rw [splitV_num h3 (by omega)]
    simp; exact hK _

def wcells (s : ByteArray) (k : Nat) : List AV := (List.range 8).map fun j => .v (.int .u8 (byteN s (k + j)))
theorem str_word {s : ByteArray} {k : Nat} (h : k + 8 ≤ s.size) : strCells (s.extract k s.size) 8 = wcells s k := by
  apply List.ext_getElem?
  intro j
  unfold strCells wcells
  by_cases hj : j < 8
  · have hk : k + j < s.data.size := by show _ < s.size; omega
    rw [List.getElem?_take_of_lt hj, List.getElem?_map, Array.getElem?_toList, ByteArray.data_extract, Array.getElem?_extract, List.getElem?_map, List.getElem?_range hj]
    have : j < min s.size s.data.size - k := by show j < min s.size s.size - k; omega
    rw [if_pos this, Array.getElem?_eq_getElem hk]
    have : s.data.getD (k + j) 0 = s.data[k + j] := by rw [Array.getD_eq_getD_getElem?, Array.getElem?_eq_getElem hk]; rfl
    show some (AV.v (Value.int .u8 (s.data[k + j].toNat : Int))) = some (.v (.int .u8 (byteN s (k + j) : Int)))
    rw [byteN, this]
  · rw [List.getElem?_eq_none (by rw [List.length_take]; omega), List.getElem?_eq_none (by simp; omega)]
def getV (s : ByteArray) (k : Int) : Nat × Bool := if k < 0 ∨ (s.size : Int) < k + 8 then (0, false) else if numB (wordN s k.toNat 8) = true then (wordN s k.toNat 8, true) else (0, false)

theorem get_ctr (s : ByteArray) (k : Int) (hs : s.size ≤ 100000) (hk : k ≤ 1000000) : Ctr Tryz.prog 50 [.v (.string s), i k] (fun r => r = .tup [fl (getV s k).1, bo (getV s k).2]) := by
  refine ctr_val Tryz.func50 rfl (by kernel_rfl) rfl (pu_tup (by simp)) fun K hK => ?_
  unfold getV at hK
  simp [Tryz.f50]
  by_cases h0 : k < 0
  · simp only [if_pos (show k < 0 ∨ (s.size : Int) < k + 8 from .inl h0)] at hK
    simp [h0, show ¬ 0 ≤ k by omega]; exact hK _
  obtain ⟨k, rfl⟩ : ∃ n : Nat, k = n := ⟨k.toNat, by omega⟩
  by_cases h1 : s.size < k
  · simp only [if_pos (show (k : Int) < 0 ∨ (s.size : Int) < k + 8 from .inr (by omega))] at hK
    simp [h1, show ¬ k ≤ s.size by omega]; exact hK _
  have h1' : k ≤ s.size := by omega
  have hsx : (s.extract k s.size).size = s.size - k := by rw [ByteArray.size_extract]; omega
  simp [h1, h1']
  refine draw_at [1, 0, 0, 1, 4, 0] (by kernel_rfl) (by kernel_rfl) ?_
  simp [h1', hsx]
  by_cases h2 : s.size < k + 8
  · simp only [if_pos (show (k : Int) < 0 ∨ (s.size : Int) < (k : Int) + 8 from .inr (by omega))] at hK
    rw [if_pos (by omega)]
    exact hK _
  simp only [if_neg (show ¬ ((k : Int) < 0 ∨ (s.size : Int) < (k : Int) + 8) by omega), Int.toNat_natCast] at hK
  rw [if_neg (by omega)]
  have hw : strCells (s.extract k s.size) (min (s.size - k) 8) = wcells s k := by rw [Nat.min_eq_right (by omega), str_word (by omega)]
  have hwl : (wcells s k).length = 8 := by simp [wcells]
  have hat : ∀ g, g < 8 → (wcells s k)[g]? = some (.v (.int .u8 (byteN s (k + g) : Int))) := fun g hg => by simp [wcells, hg]
  rw [hw, hwl]
  generalize wcells s k = W at *
  have ht : List.take 8 W = W := List.take_of_length_le (by omega)
  refine ⟨by omega, ?_⟩
  simp [ht]
  refine loop_on (γ := Nat) 40 (fun g => [(7, u (wordN s k g)), (25, .agg W), (26, i g)]) (fun _ => [⟨.own, 0, W⟩]) (fun g => g ≤ 8) (fun g => 8 - g) 0 (Nat.zero_le _) (Wk.lst (by simp [wordN]) (by simp)) ?_
  rintro g hg L hL
  by_cases hlt : g < 8
  · have hw1 : IntKind.i64.wrap ((g : Int) + 1) = ((g + 1 : Nat) : Int) := w64 _ (by omega) (by omega)
    have hnext := hL (g + 1)
    have hb := byteN_lt s (k + g)
    have hwn := wordN_lt s k g
    have hp : 256 ^ g ≤ 256 ^ 7 := Nat.pow_le_pow_right (by decide) (by omega)
    have hp2 : (256 : Nat) ^ 7 = 72057594037927936 := by decide
    have hwl2 : wordN s k g * 256 < 18446744073709551616 := by omega
    have e1 : IntKind.u64.wrap ((wordN s k g : Int) * 256) = ((wordN s k g * 256 : Nat) : Int) := by rw [wrap64u]; omega
    have e2 : IntKind.u64.wrap (byteN s (k + g) : Int) = ((byteN s (k + g) : Nat) : Int) := by rw [wrap64u]; omega
    have e3 : bOr .u64 ((wordN s k g * 256 : Nat) : Int) ((byteN s (k + g) : Nat) : Int) = ((wordN s k (g + 1) : Nat) : Int) := by
      rw [bOr_u64 hwl2 (by omega), or_byte hb]; rfl
    have e4 : IntKind.u64.wrap ((wordN s k (g + 1) : Nat) : Int) = ((wordN s k (g + 1) : Nat) : Int) := by
      have h8 := wordN_lt s k (g + 1)
      have hp3 : 256 ^ (g + 1) ≤ 256 ^ 8 := Nat.pow_le_pow_right (by decide) (by omega)
      have hp4 : (256 : Nat) ^ 8 = 18446744073709551616 := by decide
      rw [wrap64u]; omega
    simp [hlt, hat g hlt, e1, e2, e3, e4, hw1, -Int.natCast_mul, -Int.natCast_add, -getElem?_pos]
    exact hnext _ _ (by omega) (Wk.lst (by simp) (by simp)) (by show _ - (g + 1) < _ - g; omega)
  · have hge : g = 8 := by omega
    subst hge
    simp
    refine acall_by (frombits_ctr _) (by simp) ?_
    rintro _ rfl
    simp
    refine acall_by (snumber_ctr (wordN_lt s k 8)) (by simp) ?_
    rintro _ rfl
    cases hq : numB (wordN s k 8)
    · simp only [hq] at hK
      simp; exact hK _
    · simp only [hq] at hK
      simp; exact hK _
end Go.Proofs.Nt
/- A factor out of bytes. -/
set_option linter.unusedVariables false
set_option maxRecDepth 20000
set_option linter.unusedSimpArgs false
set_option linter.unnecessarySimpa false
namespace Go.Proofs.Nt
open Go Go.Proofs Go.Proofs.Va Go.RowKit

@[simp] theorem plFaq : placesT Tryz.prog 53 = some [(0, 1), (1, 1), (2, 1), (3, 1)] := by kernel_rfl
theorem str_at {s : ByteArray} {j : Nat} (h : j < s.size) : ∃ c : UInt8, s[j]? = some c ∧ c.toNat = byteN s j := by
  refine ⟨s.data.getD j 0, ?_, rfl⟩
  have h' : j < s.data.size := h
  rw [getElem?_pos s j h]
  show some s.data[j] = _
  rw [Array.getD_eq_getD_getElem?, Array.getElem?_eq_getElem h']; rfl
theorem bOr_i64 {x y : Nat} (hx : x < 18446744073709551616) (hy : y < 18446744073709551616) : bOr .i64 x y = ((x ||| y : Nat) : Int) := bOr_u64 hx hy
def FaV.av (f : FaV) (tn : Bool) (tc : Option Nat) : AV := .agg [i f.cols, fsl tn f.tri tc, i f.rows, i f.turns]
def decP (s : ByteArray) (r : AV) : Prop := ∃ tn tc, r = .tup [(decF s).av tn tc, i (decE s)]
theorem dec_bad {s : ByteArray} (h : decE s ≠ 0) : decF s = ⟨0, [], 0, 0⟩ := if_neg h
theorem fl_words (s : ByteArray) (n : Nat) : Fl (wordsN s n) := by
  intro x hx
  obtain ⟨j, _, rfl⟩ := List.mem_map.1 hx
  exact wordN_lt s _ 8
theorem words_len (s : ByteArray) (n : Nat) : (wordsN s n).length = n := by simp [wordsN]
theorem words_succ (s : ByteArray) (n : Nat) : wordsN s (n + 1) = wordsN s n ++ [wordN s (6 + 8 * n) 8] := by simp [wordsN, List.range_succ]

theorem pur_fac {σ : AHeap} {S : Nat → Prop} {a b c : Int} {x y : AV} (h : Pur σ S x y) : Pur σ S (.agg [i a, x, i b, i c]) (.agg [i a, y, i b, i c]) := by
  refine .agg _ _ rfl fun j hj => ?_
  have : j = 0 ∨ j = 1 ∨ j = 2 ∨ j = 3 := by simp at hj; omega
  rcases this with rfl | rfl | rfl | rfl
  · exact .same _ (.v _)
  · exact h
  · exact .same _ (.v _)
  · exact .same _ (.v _)
theorem decode_ctr (s : ByteArray) (hs : s.size ≤ 100000) : Ctr Tryz.prog 33 [.v (.string s)] (decP s) := by
  refine ctr_in Tryz.func33 rfl (by kernel_rfl) rfl fun K hK => ?_
  have hpu : ∀ (f : FaV) tn tc, Pu (f.av tn tc) := fun f tn tc => pu_agg (by intro x hx; simp only [List.mem_cons, List.not_mem_nil, or_false] at hx; rcases hx with rfl | rfl | rfl | rfl <;> simp [pu_fslq])
  have hF : ∀ e : Int, decE s = e → e ≠ 0 → ∀ σ, K (.tup [.agg [i 0, .pl true [] 0 (some 0), i 0, i 0], i e]) σ := fun e he h0 σ => by
    have e1 : (decF s).av true (some 0) = .agg [i 0, .pl true [] 0 (some 0), i 0, i 0] := by rw [dec_bad (by rw [he]; exact h0)]; rfl
    exact hK _ _ _ (.same _ (pu_tup (by
      intro x hx
      simp only [List.mem_cons, List.not_mem_nil, or_false] at hx
      rcases hx with rfl | rfl
      · exact pu_agg (by simp)
      · simp))) ⟨true, some 0, by rw [e1, he]⟩
  simp [Tryz.f33]
  have d1 : s.size < 6 ∨ byteN s 0 ≠ 81 ∨ sizeI (byteN s 1) = 0 → decE s = 9 := fun h => if_pos h
  by_cases a0 : s.size < 6
  · simp [a0, Nat.not_le.2 a0, wr]
    exact hF 9 (d1 (.inl a0)) (by decide) _
  have a0' : 6 ≤ s.size := by omega
  obtain ⟨c0, r0, h0⟩ := str_at (s := s) (j := 0) (by omega)
  obtain ⟨c1, r1, h1⟩ := str_at (s := s) (j := 1) (by omega)
  obtain ⟨c2, r2, h2⟩ := str_at (s := s) (j := 2) (by omega)
  obtain ⟨c3, r3, h3⟩ := str_at (s := s) (j := 3) (by omega)
  obtain ⟨c4, r4, h4⟩ := str_at (s := s) (j := 4) (by omega)
  obtain ⟨c5, r5, h5⟩ := str_at (s := s) (j := 5) (by omega)
  have b1 := byteN_lt s 1
  have b2 := byteN_lt s 2
  have b3 := byteN_lt s 3
  have b4 := byteN_lt s 4
  have b5 := byteN_lt s 5
  have w1 : ∀ x : Nat, x < 256 → IntKind.i64.wrap (x : Int) = (x : Int) := fun x hx => w64 _ (by omega) (by omega)
  have w2 : ∀ x : Nat, x < 256 → IntKind.i64.wrap ((x : Int) * 256) = ((x * 256 : Nat) : Int) := fun x hx => by rw [w64 _ (by omega) (by omega)]; omega
  have w3 : ∀ x y : Nat, x < 256 → y < 256 → IntKind.i64.wrap (bOr .i64 ((x * 256 : Nat) : Int) (y : Int)) = ((x * 256 + y : Nat) : Int) := fun x y hx hy => by
    rw [bOr_i64 (by omega) (by omega), or_byte hy, w64 _ (by omega) (by omega)]
  rw [← h0] at d1
  by_cases a1 : c0.toNat = 81
  case neg =>
    simp [a0, a0', r0, a1, wr, -getElem?_pos, List.getElem?_cons_zero, List.getElem?_cons_succ]
    exact hF 9 (d1 (.inr (.inl a1))) (by decide) _
  simp [a0, a0', r0, r1, h1, a1, w1 _ b1, -getElem?_pos, List.getElem?_cons_zero, List.getElem?_cons_succ]
  refine acall_by (size_ctr _) (by simp) ?_
  rintro _ rfl
  by_cases a2 : sizeI (byteN s 1) = 0
  · simp [a1, a2, wr]
    exact hF 9 (d1 (.inr (.inr a2))) (by decide) _
  simp [a1, a2]
  have hc6 : 1 ≤ byteN s 1 ∧ byteN s 1 ≤ 6 := by
    by_cases e : 1 ≤ (byteN s 1 : Int) ∧ (byteN s 1 : Int) ≤ 6
    · omega
    · exact absurd (if_neg e) a2
  obtain ⟨n, hn⟩ : ∃ n : Nat, sizeI (byteN s 1) = n := ⟨(sizeI (byteN s 1)).toNat, by have := size_facts (c := (byteN s 1 : Int)) (by omega); omega⟩
  have hn1 : 3 ≤ n ∧ n ≤ 28 := by have := size_facts (c := (byteN s 1 : Int)) (by omega); omega
  refine draw_at [0, 1, 0, 0, 1, 0, 0, 0, 1, 0, 0, 0, 1, 0, 0, 0, 1, 0, 0, 0, 3, 4] (by kernel_rfl) (by kernel_rfl) ?_
  simp [r1, r2, r3, r4, r5, h1, h2, h3, h4, h5, w1 _ b1, w1 _ b2, w1 _ b3, w1 _ b4, w1 _ b5, w2 _ b2, w2 _ b4, w3 _ _ b2 b3, w3 _ _ b4 b5, cells_g4, cells_in, cells_pl, wr, -cellsOf, -Int.natCast_mul, -Int.natCast_add, -getElem?_pos, List.getElem?_cons_zero, List.getElem?_cons_succ]
  refine ⟨(same_more (σ := [_]) (more := [_])).2 (by simp), ?_⟩
  refine acall_by (size_ctr _) (by simp) ?_
  rintro _ rfl
  rw [hn]
  have hf : facOf s = ⟨(byteN s 1 : Int), wordsN s n, ((byteN s 2 * 256 + byteN s 3 : Nat) : Int), ((byteN s 4 * 256 + byteN s 5 : Nat) : Int)⟩ := by unfold facOf; rw [hn]; rfl
  have hE : decE s = if (s.size : Int) ≠ 6 + 8 * (n : Int) then 3 else if (wordsN s n).all numB = false then 2 else if triOk (byteN s 1 : Int) (wordsN s n) ((byteN s 2 * 256 + byteN s 3 : Nat) : Int) ((byteN s 4 * 256 + byteN s 5 : Nat) : Int) = false then 2 else 0 := by
    unfold decE
    rw [if_neg (by rw [← h0, hn]; rintro (h | h | h); omega; exact h a1; omega), hn, hf]
  generalize (byteN s 1 : Int) = c at *
  generalize ((byteN s 2 * 256 + byteN s 3 : Nat) : Int) = R at *
  generalize ((byteN s 4 * 256 + byteN s 5 : Nat) : Int) = T at *
  have w8 : IntKind.i64.wrap (8 * (n : Int)) = ((8 * n : Nat) : Int) := by rw [w64 _ (by omega) (by omega)]; omega
  have w9 : IntKind.i64.wrap (6 + ((8 * n : Nat) : Int)) = ((6 + 8 * n : Nat) : Int) := by rw [w64 _ (by omega) (by omega)]; omega
  by_cases a3 : s.size = 6 + 8 * n
  case neg =>
    simp [w8, w9, a3, wr, -Int.natCast_mul, -Int.natCast_add]
    exact hF 3 (by rw [hE, if_pos (by omega)]) (by decide) _
  rw [if_neg (by omega)] at hE
  simp [w8, w9, a3, -Int.natCast_mul, -Int.natCast_add]
  refine loop_on (γ := Nat × AV × AHeap) 79 (fun g => [(0, .v (.string s)), (2, .po 0 0 0), (4, .po 1 0 0), (5, i ((6 + 8 * g.1 : Nat) : Int))]) (fun g => g.2.2)
    (fun g => g.1 ≤ n ∧ (wordsN s g.1).all numB = true ∧ 2 ≤ g.2.2.length ∧ g.2.2[0]? = some ⟨.own, 0, [i 0, .pl true [] 0 (some 0), i 0, i 0]⟩ ∧ g.2.2[1]? = some ⟨.own, 0, [i c, g.2.1, i R, i T]⟩ ∧ OW 1 2 g.2.2 g.2.1 ((wordsN s g.1).map fl) g.1) (fun g => n - g.1)
    (0, .pl true [] 0 (some 0), _) ⟨Nat.zero_le _, rfl, by simp, rfl, rfl, .nil⟩ (Wk.lst (by simp) (by simp)) ?_
  rintro ⟨g, r, σ⟩ ⟨hg, hall, hσ, s0, s1, hO⟩ L hL
  simp only at hg hall hσ s0 s1 hO
  have h0lt : 0 < σ.length := by omega
  have h1lt : 1 < σ.length := by omega
  by_cases hlt : g < n
  · have hlt2 : 6 + 8 * g < s.size := by omega
    have hlt3 : 6 + 8 * g < 6 + 8 * n := by omega
    have hnext := fun r' σ' => hL (g + 1, r', σ')
    have hw5 : IntKind.i64.wrap (((6 + 8 * g : Nat) : Int) + 8) = ((6 + 8 * (g + 1) : Nat) : Int) := by rw [w64 _ (by omega) (by omega)]; omega
    have hw5' : IntKind.i64.wrap (6 + 8 * (g : Int) + 8) = 6 + 8 * ((g : Int) + 1) := by rw [w64 _ (by omega) (by omega)]; omega
    have cG := get_ctr s ((6 + 8 * g : Nat) : Int) hs (by omega)
    have hgv : getV s ((6 + 8 * g : Nat) : Int) = if numB (wordN s (6 + 8 * g) 8) = true then (wordN s (6 + 8 * g) 8, true) else (0, false) := by
      unfold getV
      rw [if_neg (by omega), Int.toNat_natCast]
    simp only [words_succ, List.all_append, hall, List.map_append, List.map_cons, List.map_nil, List.all_cons, List.all_nil, Bool.and_true, Bool.true_and] at hnext
    rw [hgv] at cG
    simp [hlt3, a3, -Int.natCast_mul, -Int.natCast_add]
    refine acall_by cG (by simp) ?_
    rintro _ rfl
    cases hq : numB (wordN s (6 + 8 * g) 8)
    · have hbad : decE s = 2 := by
        rw [hE, if_pos]
        rw [Bool.eq_false_iff]
        intro e
        rw [List.all_eq_true] at e
        have := e (wordN s (6 + 8 * g) 8) (List.mem_map.2 ⟨g, List.mem_range.2 hlt, rfl⟩)
        rw [hq] at this; cases this
      have sp0 : ∀ C : ABlk, (σ.set 0 C)[0]? = some C := fun C => by rw [List.getElem?_set_self h0lt]
      simp [s0, wr, sp0, -getElem?_pos, List.getElem?_cons_zero, List.getElem?_cons_succ]
      exact hF 2 hbad (by decide) _
    · simp [s1, -aAppend, -getElem?_pos, List.getElem?_cons_zero, List.getElem?_cons_succ]
      refine append_ow2 (k := 2) elTF srcFs hO (by show (g + 1) * 9 ≤ _; omega) (by rfl) hσ fun r' σ' hO' hσ' hS => ?_
      have s0' : σ'[0]? = some ⟨.own, 0, [i 0, .pl true [] 0 (some 0), i 0, i 0]⟩ := by rw [hS 0 (by omega)]; exact s0
      have s1' : σ'[1]? = some ⟨.own, 0, [i c, r, i R, i T]⟩ := by rw [hS 1 (by omega)]; exact s1
      have hcr := hO'.cells
      simp [s1', hcr, wr, hw5, -cellsOf, -Int.natCast_mul, -Int.natCast_add, -getElem?_pos, List.getElem?_cons_zero, List.getElem?_cons_succ]
      refine hnext r' _ _ _ ⟨by omega, hq, ?_, ?_, ?_, ?_⟩ (Wk.lst (by simp [hw5']) (by simp)) (by show _ - (g + 1) < _ - g; omega)
      · simp; omega
      · rw [List.getElem?_set_ne (by omega)]; exact s0'
      · rw [List.getElem?_set_self (by omega)]; rfl
      · exact hO'.keep fun a ha _ => by rw [List.getElem?_set_ne (by omega)]
  · have hge : g = n := by omega
    subst hge
    rw [if_neg (by rw [hall]; decide)] at hE
    obtain ⟨j, v, b, rfl, hkj, hj, hb, hlen⟩ := hO.inv (by omega)
    have hlj := (List.getElem?_eq_some_iff.1 hj).1
    have hn3 : ¬ 6 + 8 * g < s.size := by omega
    simp [a3, s1, -Int.natCast_mul, -Int.natCast_add, -getElem?_pos, List.getElem?_cons_zero, List.getElem?_cons_succ]
    have hfl : ∀ x ∈ (wordsN s g).map fl, Pu x := by
      intro x hx
      obtain ⟨y, _, rfl⟩ := List.mem_map.1 hx
      simp
    have efs : AV.pl false ((wordsN s g).map fl) g none = fsl false (wordsN s g) none := by unfold fsl; rw [words_len]; rfl
    refine acall_froze [j] (tcheck_ctr c (wordsN s g) false none R T (fl_words s g) (by rw [words_len]; omega)) rfl (fun q hq => ?_) ?_
    · have : q = 0 := by simpa using hq
      subst this
      have := pur_so (cap := none) (S := (· ∈ [j])) hj (by simp) hb hlen (by simp) hfl
      rw [efs] at this
      exact pur_fac this
    rintro _ rfl
    have s0' : (froze σ [j])[0]? = some ⟨.own, 0, [i 0, .pl true [] 0 (some 0), i 0, i 0]⟩ := by rw [froze_ne (by simp; omega)]; exact s0
    have s1' : (froze σ [j])[1]? = some ⟨.own, 0, [i c, .so j v 0 g 1 none, i R, i T]⟩ := by rw [froze_ne (by simp; omega)]; exact s1
    have sj' : (froze σ [j])[j]? = some ⟨.ro, v, b⟩ := by rw [froze_get, hj]; simp
    have hln := froze_length (σ := σ) [j]
    generalize froze σ [j] = τ at *
    have sp0 : ∀ C : ABlk, (τ.set 0 C)[0]? = some C := fun C => by rw [List.getElem?_set_self (by omega)]
    cases hq : triOk c (wordsN s g) R T
    · have hbad : decE s = 2 := by rw [hE, if_pos hq]
      simp [s0', sp0, wr, -getElem?_pos, List.getElem?_cons_zero, List.getElem?_cons_succ]
      exact hF 2 hbad (by decide) _
    · have hok : decE s = 0 := by rw [hE, if_neg (by rw [hq]; decide)]
      have hff : decF s = ⟨c, wordsN s g, R, T⟩ := by unfold decF; rw [if_pos hok, hf]
      simp [s0', s1', sp0, wr, -getElem?_pos, List.getElem?_cons_zero, List.getElem?_cons_succ]
      have hp := pur_so (cap := none) (σ := τ.set 0 ⟨.own, 0, [i c, .so j v 0 g 1 none, i R, i T]⟩) (S := fun _ => True) (kd := .ro) (v := v) (j := j) (by rw [List.getElem?_set_ne (by omega)]; exact sj') (by simp) hb hlen trivial hfl
      rw [efs] at hp
      exact hK _ _ (.tup [(decF s).av false none, i (decE s)]) (by rw [hok, hff]; exact pur_two (pur_fac hp)) ⟨false, none, rfl⟩
end Go.Proofs.Nt
/- What is wrong with bytes, with a plan; an error that wraps a number; what is wrong with what is asked. -/
set_option linter.unusedVariables false
set_option maxRecDepth 20000
set_option linter.unusedSimpArgs false
set_option linter.unnecessarySimpa false
namespace Go.Proofs.Nt
open Go Go.Proofs Go.Proofs.Va Go.RowKit

theorem pu_shop (s : ShV) (f : Fg) (o : OpV) : ∀ x ∈ [s.av f, o.av], Pu x := by
  intro x hx
  simp only [List.mem_cons, List.not_mem_nil, or_false] at hx
  rcases hx with rfl | rfl
  · exact pu_sh s f
  · exact pu_op o
theorem pu_av (x : AV) (h : Pu x) : ∀ y ∈ [x], Pu y := by intro y hy; rw [List.mem_singleton.1 hy]; exact h

theorem load_ctr (s : ShV) (f : Fg) (o : OpV) (ho : o.fit) : Ctr Tryz.prog 40 [s.av f, o.av] (fun r => r = i (loadE s o)) := by
  refine ctr_val Tryz.func40 rfl (by kernel_rfl) rfl (by simp) fun K hK => ?_
  unfold loadE at hK
  simp [Tryz.f40, ShV.av, OpV.av, OpV.cs, cells_g3, cells_g9, -cellsOf]
  refine acall_by (decode_ctr o.bytes ho.lb) (by simp) ?_
  rintro _ ⟨tn, tc, rfl⟩
  by_cases h0 : decE o.bytes = 0
  · have hF : decF o.bytes = facOf o.bytes := if_pos h0
    rw [hF]
    by_cases h1 : (facOf o.bytes).cols = s.cols
    · simp only [if_neg (show ¬ (decE o.bytes = 0 ∧ (facOf o.bytes).cols ≠ s.cols) from fun h => h.2 h1)] at hK
      rw [h0] at hK
      simp [FaV.av, cells_g4, fsl, h0, h1, wr, -cellsOf]
      exact hK _
    · simp only [if_pos (show (decE o.bytes = 0 ∧ (facOf o.bytes).cols ≠ s.cols) from ⟨h0, h1⟩)] at hK
      simp [FaV.av, cells_g4, fsl, h0, h1, wr, -cellsOf]
      exact hK _
  · simp only [if_neg (show ¬ (decE o.bytes = 0 ∧ (facOf o.bytes).cols ≠ s.cols) from fun h => h0 h.1)] at hK
    simp [FaV.av, cells_g4, fsl, h0, wr, -cellsOf]
    exact hK _

theorem answer_ctr (s : ShV) (f : Fg) (o : OpV) (hm : s.may = true) (ho : o.fit) : Ctr Tryz.prog 41 [s.av f, o.av] (fun r => r = i (ansE s o)) := by
  refine ctr_val Tryz.func41 rfl (by kernel_rfl) rfl (by simp) fun K hK => ?_
  have hln := sh_len hm
  have hcc := sh_cols hm
  have cC := pcounts_ctr o.plan o.pn o.pc s.cols s.rows s.turns f.rn f.tn f.rc f.tc ho.lp (by omega) (by omega)
  have hrg : (countsE o.plan s.cols s.rows s.turns).2.2 = 0 → 0 ≤ (countsE o.plan s.cols s.rows s.turns).2.1 ∧ (countsE o.plan s.cols s.rows s.turns).2.1 ≤ 4096 := counts_rng (sh_rng hm)
  unfold ansE at hK
  generalize countsE o.plan s.cols s.rows s.turns = C at *
  obtain ⟨a, b, e⟩ := C
  simp only at hK hrg
  have hmul : 0 ≤ s.cols * (s.cols + 1) ∧ s.cols * (s.cols + 1) ≤ 42 := by
    have : s.cols = 1 ∨ s.cols = 2 ∨ s.cols = 3 ∨ s.cols = 4 ∨ s.cols = 5 ∨ s.cols = 6 := by omega
    rcases this with h | h | h | h | h | h <;> rw [h] <;> decide
  have w1 : IntKind.i64.wrap (s.cols + 1) = s.cols + 1 := w64 _ (by omega) (by omega)
  have w2 : IntKind.i64.wrap (s.cols * (s.cols + 1)) = s.cols * (s.cols + 1) := w64 _ (by omega) (by omega)
  simp [Tryz.f41, ShV.av, OpV.av, OpV.cs, cells_g3, cells_g9, -cellsOf]
  refine acall_by cC (by simp) ?_
  rintro _ rfl
  by_cases h0 : e = 0
  case neg =>
    simp only [if_pos h0] at hK
    simp [trip, h0]
    exact hK _
  simp only [h0, ne_eq, not_true_eq_false, if_false] at hK
  by_cases h8 : o.kind = 8
  · by_cases h9 : a ≤ s.cols
    · simp only [if_pos (show o.kind = 8 ∧ a ≤ s.cols from ⟨h8, h9⟩)] at hK
      simp [trip, h0, h8, h9]
      exact hK _
    · simp only [if_neg (show ¬ (o.kind = 8 ∧ a ≤ s.cols) from fun h => h9 h.2), if_pos h8] at hK
      simp [trip, h0, h8, h9]
      exact hK _
  simp only [if_neg (show ¬ (o.kind = 8 ∧ a ≤ s.cols) from fun h => h8 h.1), if_neg h8] at hK
  simp [trip, h0, h8]
  refine acall_by (cout_ctr ho.fm) (by simp) ?_
  rintro _ rfl
  cases hi : inB o.mu
  · simp only [if_pos (show inB o.mu = false ∨ fsg o.mu = true from .inl hi)] at hK
    simp
    exact hK _
  simp
  refine acall_by (signbit_ctr ho.fm) (by simp) ?_
  rintro _ rfl
  cases hg : fsg o.mu
  case true =>
    simp only [if_pos (show inB o.mu = false ∨ fsg o.mu = true from .inr hg)] at hK
    simp
    exact hK _
  simp only [if_neg (show ¬ (inB o.mu = false ∨ fsg o.mu = true) from fun h => h.elim (fun h => by rw [hi] at h; cases h) (fun h => by rw [hg] at h; cases h))] at hK
  by_cases hz : frg o.mu = 0
  · simp only [if_pos hz] at hK
    simp [eq_zero_f, hz]
    exact hK _
  simp only [if_neg hz] at hK
  simp [eq_zero_f, hz, w1, w2]
  refine acall_by (room_ctr b (s.cols * (s.cols + 1)) (hrg h0) (by omega)) (by simp) ?_
  rintro _ rfl
  simp
  exact hK _

/-! ### Errors -/
def werr (e : Int) : AV := if e = 0 then .v .nilIface else .ifc 61 (.pp [i e] 0)
def errA (k e : Int) : AV := .ifc 68 (.pp [i k, .ifc 61 (.pp [i e] 0)] 0)
@[simp] theorem zcFt : zcT Tryz.prog 65 = some [.v (.int .i64 0)] := by kernel_rfl
@[simp] theorem plFt : placesT Tryz.prog 65 = some [(0, 1)] := by kernel_rfl
@[simp] theorem zcAk : zcT Tryz.prog 70 = some [.v (.int .i64 0), .v .nilIface] := by kernel_rfl
@[simp] theorem plAk : placesT Tryz.prog 70 = some [(0, 1), (1, 1)] := by kernel_rfl
@[simp] theorem ifFt : isIfaceT Tryz.prog 61 = some false := by kernel_rfl
@[simp] theorem ifAk : isIfaceT Tryz.prog 68 = some false := by kernel_rfl
@[simp] theorem ifErr : isIfT Tryz.prog 49 = true := by kernel_rfl
theorem pur_err {σ : AHeap} {j : Nat} {k e : Int} {S : Nat → Prop} (hj : σ[j]? = some ⟨.own, 0, [i k, .ifc 61 (.pp [i e] 0)]⟩) (hS : S j) : Pur σ S (.ifc 68 (.po j 0 0)) (errA k e) := by
  refine .ifc _ _ _ (.po _ _ _ _ _ hj rfl (by simp) hS rfl fun q hq => ?_)
  have : q = 0 ∨ q = 1 := by simp at hq; omega
  rcases this with rfl | rfl
  · exact .same _ (.v _)
  · exact .same _ (.ifc _ _ (.pp _ _))
theorem wrong_ctr (e : Int) : Ctr Tryz.prog 42 [i e] (fun r => r = werr e) := by
  refine ctr_in Tryz.func42 rfl (by kernel_rfl) rfl fun K hK => ?_
  unfold werr at hK
  by_cases h : e = 0
  · simp only [if_pos h] at hK
    simp [Tryz.f42, h]
    exact hK _ _ _ (.same _ (.v _)) rfl
  · simp only [if_neg h] at hK
    simp [Tryz.f42, h]
    exact hK _ _ _ (.ifc _ _ _ (pur_box (by rfl) trivial (.v _))) rfl
end Go.Proofs.Nt
/- What is wrong, as an error; its number. -/
set_option linter.unusedVariables false
set_option maxRecDepth 20000
set_option linter.unusedSimpArgs false
set_option linter.unnecessarySimpa false
namespace Go.Proofs.Nt
open Go Go.Proofs Go.Proofs.Va Go.RowKit

def lookA (s : ShV) (o : OpV) : AV := if lookE s o = 0 then .v .nilIface else errA o.kind (lookE s o)
theorem fld_op_av (o : OpV) : o.av = .agg [i o.kind, i o.shard, i o.frm, fsl o.xn o.x o.xc, fl o.y, fl o.beta, fl o.mu, zsl o.pn o.plan o.pc, .v (.string o.bytes)] := rfl
theorem fld_sh_av (s : ShV) (f : Fg) : s.av f = .agg [i s.cols, zsl f.rn s.rows f.rc, zsl f.tn s.turns f.tc] := rfl
theorem look_ctr (s : ShV) (f : Fg) (o : OpV) (hb : ¬ badO s o) (ho : o.fit) : Ctr Tryz.prog 22 [s.av f, o.av] (fun r => r = lookA s o) := by
  refine ctr_in Tryz.func22 rfl (by kernel_rfl) rfl fun K hK => ?_
  have hm := nb_may hb
  have hk := nb_kind hb
  have hln := sh_len hm
  have cR := fun h => row_ctr s f o hm (nb_has hb h) ho
  have cB := fun h => both_ctr s f o hm (nb_has hb h)
  have cL := load_ctr s f o ho
  have cA := answer_ctr s f o hm ho
  rw [fld_op_av, fld_sh_av] at *
  have hp := pu_shop s f o
  rw [fld_op_av, fld_sh_av] at hp
  unfold lookA lookE at hK
  simp [Tryz.f22, cells_g3, cells_g9, -cellsOf]
  by_cases k1 : o.kind = 1
  · simp only [if_pos (show o.kind = 1 ∨ o.kind = 2 from .inl k1)] at hK
    simp [eq_true k1]
    refine acall_by (cR (by omega)) hp ?_
    rintro _ rfl
    simp
    refine acall_by (wrong_ctr _) (by simp) ?_
    rintro _ rfl
    by_cases hq : rowE s o = 0
    · rw [if_pos hq] at hK
      simp [werr, hq]
      exact hK _ _ (.v .nilIface) (.same _ (.v _)) rfl
    · rw [if_neg hq] at hK
      simp [werr, hq, cells_in, cells_ifc, wr, -cellsOf]
      exact hK _ _ (errA o.kind (rowE s o)) (pur_err (by rfl) trivial) rfl
  by_cases k2 : o.kind = 2
  · simp only [if_pos (show o.kind = 1 ∨ o.kind = 2 from .inr k2)] at hK
    simp [k1, eq_true k2]
    refine acall_by (cR (by omega)) hp ?_
    rintro _ rfl
    simp
    refine acall_by (wrong_ctr _) (by simp) ?_
    rintro _ rfl
    by_cases hq : rowE s o = 0
    · rw [if_pos hq] at hK
      simp [werr, hq]
      exact hK _ _ (.v .nilIface) (.same _ (.v _)) rfl
    · rw [if_neg hq] at hK
      simp [werr, hq, cells_in, cells_ifc, wr, -cellsOf]
      exact hK _ _ (errA o.kind (rowE s o)) (pur_err (by rfl) trivial) rfl
  simp only [if_neg (show ¬ (o.kind = 1 ∨ o.kind = 2) by omega)] at hK
  by_cases k3 : o.kind = 3
  · simp only [if_pos k3] at hK
    have hh := nb_has hb (by omega)
    have hhi := has_iff.1 hh
    have rt := turn_at hm hh
    have ha := sh_at hm hh
    have t1 : o.shard.toNat < s.turns.length := by omega
    have t2 : o.shard < s.turns.length := by omega
    have t0 := hhi.1
    simp [k1, k2, eq_true k3]
    refine acall_by (fmay_ctr ho.fb) (by simp) ?_
    rintro _ rfl
    cases hy : mayB o.beta
    · simp only [hy, Bool.false_eq_true, if_false] at hK
      simp
      refine acall_by (wrong_ctr _) (by simp) ?_
      rintro _ rfl
      by_cases hq : (12 : Int) = 0
      · exact absurd hq (by decide)
      · rw [if_neg hq] at hK
        simp [werr, hq, cells_in, cells_ifc, wr, -cellsOf]
        exact hK _ _ (errA o.kind ((12 : Int))) (pur_err (by rfl) trivial) rfl
    · simp only [hy, if_true] at hK
      simp [zsl, t0, t1, t2, rt, -getElem?_pos, List.getElem?_cons_zero, List.getElem?_cons_succ]
      refine acall_by (room_ctr (s.turn o.shard) 1 ha.2 (by omega)) (by simp) ?_
      rintro _ rfl
      simp
      refine acall_by (wrong_ctr _) (by simp) ?_
      rintro _ rfl
      by_cases hq : roomE (s.turn o.shard) 1 = 0
      · rw [if_pos hq] at hK
        simp [werr, hq]
        exact hK _ _ (.v .nilIface) (.same _ (.v _)) rfl
      · rw [if_neg hq] at hK
        simp [werr, hq, cells_in, cells_ifc, wr, -cellsOf]
        exact hK _ _ (errA o.kind (roomE (s.turn o.shard) 1)) (pur_err (by rfl) trivial) rfl
  simp only [if_neg k3] at hK
  by_cases k4 : o.kind = 4
  · simp only [if_pos k4] at hK
    simp [k1, k2, k3, eq_true k4]
    refine acall_by (cB (by omega)) hp ?_
    rintro _ rfl
    simp
    refine acall_by (wrong_ctr _) (by simp) ?_
    rintro _ rfl
    by_cases hq : bothE s o = 0
    · rw [if_pos hq] at hK
      simp [werr, hq]
      exact hK _ _ (.v .nilIface) (.same _ (.v _)) rfl
    · rw [if_neg hq] at hK
      simp [werr, hq, cells_in, cells_ifc, wr, -cellsOf]
      exact hK _ _ (errA o.kind (bothE s o)) (pur_err (by rfl) trivial) rfl
  simp only [if_neg k4] at hK
  by_cases k6 : o.kind = 6
  · simp only [if_pos k6] at hK
    simp [k1, k2, k3, k4, eq_true k6]
    refine acall_by cL hp ?_
    rintro _ rfl
    simp
    refine acall_by (wrong_ctr _) (by simp) ?_
    rintro _ rfl
    by_cases hq : loadE s o = 0
    · rw [if_pos hq] at hK
      simp [werr, hq]
      exact hK _ _ (.v .nilIface) (.same _ (.v _)) rfl
    · rw [if_neg hq] at hK
      simp [werr, hq, cells_in, cells_ifc, wr, -cellsOf]
      exact hK _ _ (errA o.kind (loadE s o)) (pur_err (by rfl) trivial) rfl
  simp only [if_neg k6] at hK
  by_cases k7 : o.kind = 7
  · simp only [if_pos (show o.kind = 7 ∨ o.kind = 8 from .inl k7)] at hK
    simp [k1, k2, k3, k4, k6, eq_true k7]
    refine acall_by cA hp ?_
    rintro _ rfl
    simp
    refine acall_by (wrong_ctr _) (by simp) ?_
    rintro _ rfl
    by_cases hq : ansE s o = 0
    · rw [if_pos hq] at hK
      simp [werr, hq]
      exact hK _ _ (.v .nilIface) (.same _ (.v _)) rfl
    · rw [if_neg hq] at hK
      simp [werr, hq, cells_in, cells_ifc, wr, -cellsOf]
      exact hK _ _ (errA o.kind (ansE s o)) (pur_err (by rfl) trivial) rfl
  by_cases k8 : o.kind = 8
  · simp only [if_pos (show o.kind = 7 ∨ o.kind = 8 from .inr k8)] at hK
    simp [k1, k2, k3, k4, k6, k7, eq_true k8]
    refine acall_by cA hp ?_
    rintro _ rfl
    simp
    refine acall_by (wrong_ctr _) (by simp) ?_
    rintro _ rfl
    by_cases hq : ansE s o = 0
    · rw [if_pos hq] at hK
      simp [werr, hq]
      exact hK _ _ (.v .nilIface) (.same _ (.v _)) rfl
    · rw [if_neg hq] at hK
      simp [werr, hq, cells_in, cells_ifc, wr, -cellsOf]
      exact hK _ _ (errA o.kind (ansE s o)) (pur_err (by rfl) trivial) rfl
  simp only [if_neg (show ¬ (o.kind = 7 ∨ o.kind = 8) by omega)] at hK
  simp [k1, k2, k3, k4, k6, k7, k8]
  refine acall_by (wrong_ctr 0) (by simp) ?_
  rintro _ rfl
  simp [werr]
  exact hK _ _ (.v .nilIface) (.same _ (.v _)) rfl
end Go.Proofs.Nt
/- The number of what is wrong with what is asked. -/
set_option linter.unusedVariables false
set_option maxRecDepth 20000
set_option linter.unusedSimpArgs false
set_option linter.unnecessarySimpa false
namespace Go.Proofs.Nt
open Go Go.Proofs Go.Proofs.Va Go.RowKit

/-- What an error's number is. -/
def CodeOk : Prop := Ctr Tryz.prog 21 [.v .nilIface] (fun r => r = i 0) ∧ ∀ k n : Int, Ctr Tryz.prog 21 [errA k n] (fun r => r = i n)

theorem cop_ctr (hc : CodeOk) (s : ShV) (f : Fg) (o : OpV) (ho : o.fit) : Ctr Tryz.prog 10 [s.av f, o.av] (fun r => r = i (opE s o)) := by
  refine ctr_val Tryz.func10 rfl (by kernel_rfl) rfl (by simp) fun K hK => ?_
  have hp := pu_shop s f o
  have hp1 := pu_av _ (pu_sh s f)
  have cM := shmay_ctr s f
  have cS := shard_ctr s f o.shard
  have hps : ∀ x ∈ [s.av f, i o.shard], Pu x := by
    intro x hx
    simp only [List.mem_cons, List.not_mem_nil, or_false] at hx
    rcases hx with rfl | rfl
    · exact pu_sh s f
    · simp
  have cL := fun h => look_ctr s f o h ho
  have hB : badO s o → ∀ σ, K (i 1) σ := fun h σ => by rw [opE_bad h] at hK; exact hK σ
  have hG : ¬ badO s o → ∀ σ, K (i (lookE s o)) σ := fun h σ => by rw [opE_ok h] at hK; exact hK σ
  have hfin : ¬ badO s o → ∀ (σ : AHeap) (S : AV → AHeap → Prop), (∀ σ', S (i (lookE s o)) σ') → ∀ (r : AV), r = lookA s o → ACall Tryz.prog 21 [r] σ S := by
    intro h σ S hS r hr
    subst hr
    unfold lookA
    by_cases hq : lookE s o = 0
    · rw [if_pos hq]
      refine acall_by hc.1 (by simp) ?_
      rintro _ rfl
      rw [hq] at hS; exact hS _
    · rw [if_neg hq]
      refine acall_by (hc.2 _ _) (pu_av _ (.ifc _ _ (.pp _ _))) ?_
      rintro _ rfl
      exact hS _
  rw [fld_op_av, fld_sh_av] at *
  clear hK
  simp [Tryz.f10, cells_g3, cells_g9, -cellsOf]
  refine acall_by cM hp1 ?_
  rintro _ rfl
  cases hm : s.may
  · simp
    exact hB (.inl hm) _
  by_cases h1 : o.kind < 1
  · simp [h1, Int.not_le.2 h1]
    exact hB (.inr (.inl h1)) _
  by_cases h2 : 8 < o.kind
  · simp [h1, Int.not_lt.1 h1, h2, Int.not_le.2 h2]
    exact hB (.inr (.inr (.inl h2))) _
  have h1' := Int.not_lt.1 h1
  have h2' := Int.not_lt.1 h2
  by_cases h3 : o.kind ≤ 6
  · simp [h1, h1', h2, h2', h3, Int.not_lt.2 h3]
    refine acall_by cS hps ?_
    rintro _ rfl
    cases hh : s.has o.shard
    · simp
      exact hB (.inr (.inr (.inr ⟨h3, hh⟩))) _
    have hok : ¬ badO s o := by
      rintro (h | h | h | h)
      · rw [hm] at h; cases h
      · exact h1 h
      · exact h2 h
      · rw [hh] at h; cases h.2
    simp
    refine acall_by (cL hok) hp fun r hr => ?_
    simp
    refine hfin hok _ _ (fun σ' => ?_) r hr
    simp
    exact hG hok _
  · have hok : ¬ badO s o := by
      rintro (h | h | h | h)
      · rw [hm] at h; cases h
      · exact h1 h
      · exact h2 h
      · exact h3 h.1
    simp [h1, h1', h2, h2', h3, Int.not_le.1 h3]
    refine acall_by (cL hok) hp fun r hr => ?_
    simp
    refine hfin hok _ _ (fun σ' => ?_) r hr
    simp
    exact hG hok _
end Go.Proofs.Nt
/- The shape behind what is asked. -/
set_option linter.unusedVariables false
set_option maxRecDepth 20000
set_option linter.unusedSimpArgs false
set_option linter.unnecessarySimpa false
namespace Go.Proofs.Nt
open Go Go.Proofs Go.Proofs.Va Go.RowKit

theorem acall_nil {P : Program} {g : FuncId} {cs : List AV} {n : Nat} {cap : Option Nat} {σ : AHeap} {K : AV → AHeap → Prop} (hn : 0 < n) : ACall P g [.pl true cs n cap] σ K := by
  intro w0 ρ fz w vs hh hr
  obtain ⟨a, c, _, _, _, _, hnl, h0, hle, _⟩ := (hr.2 0 (by simp)).pl_inv
  have : a = none := by cases a with | none => rfl | some _ => cases hnl
  have := h0 this
  omega
theorem cloneI : CloneFn Tryz.prog 31 1 := by
  intro nl cs n cap hn hn2 hl
  cases nl
  case true => exact acall_nil hn
  have hl' : cs.length = n := by omega
  refine acall_in Tryz.func31 rfl (by kernel_rfl) rfl ?_
  simp [Tryz.f31, hl', show ¬ n = 0 by omega]
  refine ⟨by omega, fun c hc => ?_⟩
  exact ⟨1, 0, ⟨rfl, rfl⟩, _, rfl⟩
theorem st_at {l : List Int} {k : Nat} {v : Int} : (l.map i).set k (.v (.int .i64 v)) = (l.set k v).map i := by rw [List.map_set]; rfl
theorem rd_at {l : List Int} {k : Nat} {v : Int} (h : l[k]? = some v) : (l.map i)[k]? = some (.v (.int .i64 v)) := by rw [List.getElem?_map, h]; rfl
theorem same_more3 {N : Nat} {σ more : AHeap} : Same N σ (σ ++ more) ↔ N ≤ σ.length := same_more
theorem wr3 (a b c x y z : AV) : wr [a, b, c] 0 [x, y, z] = [x, y, z] := rfl

/-- What comes next: shapes as values. -/
def nextA (s : ShV) (o : OpV) (r : AV) : Prop := ∃ f : Fg, r = (nextS s o).av f
theorem pur_sh {τ : AHeap} {c : Int} {l1 l2 : List Int} {j1 j2 v1 v2 n1 n2 : Nat} {c1 c2 : Option Nat} (h1 : τ[j1]? = some ⟨.own, v1, l1.map i⟩) (h2 : τ[j2]? = some ⟨.own, v2, l2.map i⟩) (e1 : n1 = l1.length) (e2 : n2 = l2.length) :
    ∃ f : Fg, Pur τ (fun _ => True) (.agg [i c, .so j1 v1 0 n1 1 c1, .so j2 v2 0 n2 1 c2]) ((ShV.mk c l1 l2).av f) := by
  subst e1
  subst e2
  refine ⟨⟨false, c1, false, c2⟩, .agg _ _ rfl fun q hq => ?_⟩
  have hpu : ∀ l : List Int, ∀ x ∈ l.map i, Pu x := fun l x hx => by obtain ⟨y, _, rfl⟩ := List.mem_map.1 hx; simp
  have e : ∀ l : List Int, ∀ c, AV.pl false (l.map i) l.length c = zsl false l c := fun l c => rfl
  have : q = 0 ∨ q = 1 ∨ q = 2 := by simp [ShV.av] at hq; omega
  rcases this with rfl | rfl | rfl
  · exact .same _ (.v _)
  · exact pur_so h1 (by simp) (by rw [Nat.mul_one]; exact List.take_of_length_le (by simp)) (by simp) trivial (hpu l1)
  · exact pur_so h2 (by simp) (by rw [Nat.mul_one]; exact List.take_of_length_le (by simp)) (by simp) trivial (hpu l2)

theorem pur_shx {τ : AHeap} {S : Nat → Prop} {c : Int} {l1 l2 : List Int} {j1 j2 v1 v2 n1 n2 : Nat} {k1 k2 : BK} {c1 c2 : Option Nat} (h1 : τ[j1]? = some ⟨k1, v1, l1.map i⟩) (h2 : τ[j2]? = some ⟨k2, v2, l2.map i⟩) (d1 : k1 ≠ .dead) (d2 : k2 ≠ .dead) (s1 : S j1) (s2 : S j2) (e1 : n1 = l1.length) (e2 : n2 = l2.length) :
    Pur τ S (.agg [i c, .so j1 v1 0 n1 1 c1, .so j2 v2 0 n2 1 c2]) ((ShV.mk c l1 l2).av ⟨false, c1, false, c2⟩) := by
  subst e1
  subst e2
  have hpu : ∀ l : List Int, ∀ x ∈ l.map i, Pu x := fun l x hx => by obtain ⟨y, _, rfl⟩ := List.mem_map.1 hx; simp
  refine .agg _ _ rfl fun q hq => ?_
  have : q = 0 ∨ q = 1 ∨ q = 2 := by simp [ShV.av] at hq; omega
  rcases this with rfl | rfl | rfl
  · exact .same _ (.v _)
  · exact pur_so h1 d1 (by rw [Nat.mul_one]; exact List.take_of_length_le (by simp)) (by simp) s1 (hpu l1)
  · exact pur_so h2 d2 (by rw [Nat.mul_one]; exact List.take_of_length_le (by simp)) (by simp) s2 (hpu l2)
theorem load_dec {s : ShV} {o : OpV} (h0 : opE s o = 0) (h6 : o.kind = 6) : decE o.bytes = 0 := by
  have hb : ¬ badO s o := fun h => by rw [opE_bad h] at h0; cases h0
  rw [opE_ok hb] at h0
  unfold lookE at h0
  rw [if_neg (by omega), if_neg (by omega), if_neg (by omega), if_pos h6] at h0
  unfold loadE at h0
  split at h0
  · cases h0
  · exact h0
set_option maxHeartbeats 1000000 in
theorem cnext_ctr (hc : CodeOk) (s : ShV) (f : Fg) (o : OpV) (ho : o.fit) : Ctr Tryz.prog 13 [s.av f, o.av] (nextA s o) := by
  refine ctr_in Tryz.func13 rfl (by kernel_rfl) rfl fun K hK => ?_
  have hp := pu_shop s f o
  have cO := cop_ctr hc s f o ho
  have hS : (opE s o ≠ 0 ∨ o.kind = 5 ∨ o.kind = 7 ∨ o.kind = 8) → ∀ σ, K (s.av f) σ := fun h σ => hK _ _ _ (.same _ (pu_sh s f)) ⟨f, by rw [nextS_same h]⟩
  rw [fld_op_av, fld_sh_av] at *
  simp [Tryz.f13, cells_g3, cells_g9, -cellsOf]
  refine acall_by cO hp ?_
  rintro _ rfl
  by_cases h0 : opE s o = 0
  case neg =>
    simp [h0, cells_g3, -cellsOf]
    exact hS (.inl h0) _
  by_cases h5 : o.kind = 5
  · simp [h0, eq_true h5, cells_g3, -cellsOf]
    exact hS (.inr (.inl h5)) _
  by_cases h7 : o.kind = 7
  · simp [h0, h5, eq_true h7, cells_g3, -cellsOf]
    exact hS (.inr (.inr (.inl h7))) _
  by_cases h8 : o.kind = 8
  · simp [h0, h5, h7, eq_true h8, cells_g3, -cellsOf]
    exact hS (.inr (.inr (.inr h8))) _
  simp [h0, h5, h7, h8]
  obtain ⟨hm, hh, ht⟩ := next_turn h0 h5 h7 h8
  have hhi := has_iff.1 hh
  have hln := sh_len hm
  have hcc := sh_cols hm
  have ha := sh_at hm hh
  have hr0 : s.rows ≠ [] := by intro h; rw [h] at hln; simp at hln
  have ht0 : s.turns ≠ [] := by intro h; rw [h] at hln; simp at hln; omega
  have hd1 : s.rows.length / s.rows.length = 1 := Nat.div_self (by omega)
  have hd2 : s.turns.length / s.turns.length = 1 := Nat.div_self (by omega)
  have cI := cloneI
  have l1 : 0 < s.rows.length ∧ s.rows.length ≤ 100000 := by omega
  have l2 : 0 < s.turns.length ∧ s.turns.length ≤ 100000 := by omega
  refine draw_at [1, 1, 1, 1, 10, 1, 1, 11, 0, 9, 4] (by kernel_rfl) (by kernel_rfl) ?_
  simp [zsl, hd1, hd2, cI, l1.1, l1.2, l2.1, l2.2]
  refine ⟨(same_more (σ := [_, _, _]) (more := [_, _])).2 (by simp), (same_more3 (σ := [_, _, _, _, _]) (more := [_])).2 (by simp), ⟨by simp, by simp, fun j hj => by
    have : j = 0 ∨ j = 1 ∨ j = 2 := by omega
    rcases this with rfl | rfl | rfl <;> rfl⟩, ?_⟩
  refine draw_at [1, 1, 1, 1, 1, 1, 1, 1, 1, 1, 0, 0] (by kernel_rfl) (by kernel_rfl) ?_
  have k2 := hhi.1
  have k0 : o.shard.toNat < s.rows.length := by omega
  have k0' : o.shard < s.rows.length := hhi.2
  have k1 : o.shard.toNat < s.turns.length := by omega
  have k1' : o.shard < s.turns.length := by omega
  have er : s.rows[o.shard.toNat] = s.row o.shard := by unfold ShV.row; simp [k0]
  have et : s.turns[o.shard.toNat] = s.turn o.shard := by unfold ShV.turn; simp [k1]
  have nK := hK
  unfold nextA nextS at nK
  rw [if_neg (by rintro (h | h | h | h); exact h h0; exact h5 h; exact h7 h; exact h8 h)] at nK
  have lb1 : o.shard.toNat + 1 ≤ s.rows.length := by omega
  have lb2 : o.shard.toNat + 1 ≤ s.turns.length := by omega
  have wc : IntKind.i64.wrap (s.cols + 1) = s.cols + 1 := w64 _ (by omega) (by omega)
  by_cases e1 : o.kind = 1
  · simp only [if_pos e1] at nK
    have wa : IntKind.i64.wrap (s.row o.shard + 2) = s.row o.shard + 2 := w64 _ (by omega) (by omega)
    have wb : IntKind.i64.wrap (s.row o.shard + 2 - 1) = s.row o.shard + 1 := by rw [w64 _ (by omega) (by omega)]; omega
    simp [k0, k0', k1, k1', k2, eq_true e1, er, wa, wb, lb1]
    refine draw_at [0, 1, 1, 1, 1, 0, 0, 1, 4] (by kernel_rfl) (by kernel_rfl) ?_
    have wt : IntKind.i64.wrap (s.turn o.shard + (s.cols + 1)) = s.turn o.shard + (s.cols + 1) := w64 _ (by omega) (by omega)
    simp [k0, k0', k1, k1', k2, et, wc, wt, lb2]
    exact nK _ _ _ (pur_sh (j1 := 4) (j2 := 5) (v1 := 1) (v2 := 1) (l1 := s.rows.set o.shard.toNat (s.row o.shard + 1)) (l2 := s.turns.set o.shard.toNat (s.turn o.shard + (s.cols + 1))) (by rw [← st_at]; rfl) (by rw [← st_at]; rfl) (by simp) (by simp)).choose_spec ⟨_, rfl⟩
  simp only [if_neg e1] at nK
  by_cases e2 : o.kind = 2
  · simp only [if_pos e2] at nK
    have wb : IntKind.i64.wrap (s.row o.shard - 1) = s.row o.shard - 1 := w64 _ (by omega) (by omega)
    simp [k0, k0', k1, k1', k2, e1, eq_true e2, er, wb, lb1]
    refine draw_at [0, 1, 1, 1, 1, 0, 0, 1, 4] (by kernel_rfl) (by kernel_rfl) ?_
    have wt : IntKind.i64.wrap (s.turn o.shard + (s.cols + 1)) = s.turn o.shard + (s.cols + 1) := w64 _ (by omega) (by omega)
    simp [k0, k0', k1, k1', k2, et, wc, wt, lb2]
    exact nK _ _ _ (pur_sh (j1 := 4) (j2 := 5) (v1 := 1) (v2 := 1) (l1 := s.rows.set o.shard.toNat (s.row o.shard - 1)) (l2 := s.turns.set o.shard.toNat (s.turn o.shard + (s.cols + 1))) (by rw [← st_at]; rfl) (by rw [← st_at]; rfl) (by simp) (by simp)).choose_spec ⟨_, rfl⟩
  simp only [if_neg e2] at nK
  by_cases e3 : o.kind = 3
  · simp only [if_pos e3] at nK
    have wt : IntKind.i64.wrap (s.turn o.shard + 1) = s.turn o.shard + 1 := w64 _ (by omega) (by omega)
    simp [k0, k0', k1, k1', k2, e1, e2, eq_true e3, et, wt, lb2]
    exact nK _ _ _ (pur_sh (j1 := 4) (j2 := 5) (v1 := 1) (v2 := 1) (l1 := s.rows) (l2 := s.turns.set o.shard.toNat (s.turn o.shard + 1)) (by rfl) (by rw [← st_at]; rfl) (by simp) (by simp)).choose_spec ⟨_, rfl⟩
  simp only [if_neg e3] at nK
  by_cases e4 : o.kind = 4
  · simp only [if_pos e4] at nK
    have hfr : s.has o.frm = true ∧ o.frm ≠ o.shard := by
      cases ht with
      | one a b h1 h2 hk hs hb => exact absurd e4 hk
      | two h1 h2 hf hd hk => exact ⟨hf, hd⟩
    have hfi := has_iff.1 hfr.1
    have hb := sh_at hm hfr.1
    have j2 := hfi.1
    have j0 : o.frm.toNat < s.rows.length := by omega
    have j0' : o.frm < s.rows.length := hfi.2
    have j1 : o.frm.toNat < s.turns.length := by omega
    have j1' : o.frm < s.turns.length := by omega
    have fr : s.rows[o.frm.toNat] = s.row o.frm := by unfold ShV.row; simp [j0]
    have ft : s.turns[o.frm.toNat] = s.turn o.frm := by unfold ShV.turn; simp [j1]
    have lb3 : o.frm.toNat + 1 ≤ s.rows.length := by omega
    have lb4 : o.frm.toNat + 1 ≤ s.turns.length := by omega
    have hsz := (size_facts (c := s.cols) hcc).2.2
    have hmx : (if s.turn o.shard < s.turn o.frm then s.turn o.frm else s.turn o.shard) = max (s.turn o.shard) (s.turn o.frm) := by split <;> omega
    have wr1 : IntKind.i64.wrap (s.row o.shard + s.row o.frm) = s.row o.shard + s.row o.frm := w64 _ (by omega) (by omega)
    have wt1 : IntKind.i64.wrap (max (s.turn o.shard) (s.turn o.frm) + sizeI s.cols) = max (s.turn o.shard) (s.turn o.frm) + sizeI s.cols := w64 _ (by omega) (by omega)
    simp [k0', k1', k2, e1, e2, e3, eq_true e4]
    refine draw_at [0, 1, 1, 1, 1, 1, 1, 1, 1, 0, 1, 4] (by kernel_rfl) (by kernel_rfl) ?_
    simp [k0, k0', k1, k1', k2, j0, j0', j1, j1', j2, er, fr, wr1, lb1]
    refine draw_at [0, 0, 1, 1, 1, 1, 1, 1, 1, 1, 1, 1, 1, 5, 0, 1, 4] (by kernel_rfl) (by kernel_rfl) ?_
    simp [k0, k0', k1, k1', k2, j0, j0', j1, j1', j2, et, ft, hmx]
    refine actr_by (cost_ctr s.cols) (by simp) ⟨_, rfl⟩ ?_
    rintro _ rfl
    simp [wt1, lb2]
    refine draw_atN 4 [1, 1, 1, 1, 1, 1, 1, 1, 3, 3, 3, 3] (by simp) (by kernel_rfl) (by kernel_rfl) ?_
    simp [k0, k0', k1, k1', k2, j0, j0', j1, j1', j2, lb3, lb4]
    refine ⟨⟨by simp, by simp, fun j hj => by
      have : j = 0 ∨ j = 1 ∨ j = 2 ∨ j = 3 := by omega
      rcases this with rfl | rfl | rfl | rfl <;> rfl⟩, ⟨by simp, by simp, fun j hj => by
      have : j = 0 ∨ j = 1 ∨ j = 2 ∨ j = 3 := by omega
      rcases this with rfl | rfl | rfl | rfl <;> rfl⟩, ?_⟩
    exact nK _ _ _ (pur_sh (j1 := 4) (j2 := 5) (v1 := 1) (v2 := 1) (l1 := (s.rows.set o.shard.toNat (s.row o.shard + s.row o.frm)).set o.frm.toNat 0) (l2 := (s.turns.set o.shard.toNat (max (s.turn o.shard) (s.turn o.frm) + sizeI s.cols)).set o.frm.toNat 0) (by rw [← st_at, ← st_at]; rfl) (by rw [← st_at, ← st_at]; rfl) (by simp) (by simp)).choose_spec ⟨_, rfl⟩
  simp only [if_neg e4] at nK
  have e6 : o.kind = 6 := by
    have hb : ¬ badO s o := fun h => by rw [opE_bad h] at h0; cases h0
    have := nb_kind hb
    omega
  have hd := load_dec h0 e6
  have hF : decF o.bytes = facOf o.bytes := if_pos hd
  simp [k0', k1', k2, e1, e2, e3, e4, eq_true e6]
  refine acall_by (decode_ctr o.bytes ho.lb) (by simp) ?_
  rintro _ ⟨tn, tc, rfl⟩
  rw [hF]
  simp [FaV.av, cells_g4, cells_fslq, cells_in, wr, -cellsOf]
  refine aw_pureT [6] 8 (.pp [i (facOf o.bytes).cols, fsl tn (facOf o.bytes).tri tc, i (facOf o.bytes).rows, i (facOf o.bytes).turns] 0) ?_ ?_
  · exact .po 6 0 0 ⟨.own, 0, [i (facOf o.bytes).cols, fsl tn (facOf o.bytes).tri tc, i (facOf o.bytes).rows, i (facOf o.bytes).turns]⟩ _ rfl rfl (by simp) (by simp) rfl (fun q hq => by
      have : q = 0 ∨ q = 1 ∨ q = 2 ∨ q = 3 := by simp at hq; omega
      rcases this with rfl | rfl | rfl | rfl
      · exact .same _ (.v _)
      · exact .same _ (.pl ..)
      · exact .same _ (.v _)
      · exact .same _ (.v _))
  simp [froze]
  refine draw_atN 4 [0, 0, 1, 1, 1, 1, 3, 3, 3, 3] (by simp) (by kernel_rfl) (by kernel_rfl) ?_
  simp [k0, k0', k1, k1', k2, lb1, lb2]
  refine ⟨⟨by simp, by simp, fun j hj => by
      have : j = 0 ∨ j = 1 ∨ j = 2 ∨ j = 3 := by omega
      rcases this with rfl | rfl | rfl | rfl <;> rfl⟩, ⟨by simp, by simp, fun j hj => by
      have : j = 0 ∨ j = 1 ∨ j = 2 ∨ j = 3 := by omega
      rcases this with rfl | rfl | rfl | rfl <;> rfl⟩, ?_⟩
  exact nK _ _ _ (pur_sh (j1 := 4) (j2 := 5) (v1 := 1) (v2 := 1) (l1 := s.rows.set o.shard.toNat (facOf o.bytes).rows) (l2 := s.turns.set o.shard.toNat (facOf o.bytes).turns) (by rw [← st_at]; rfl) (by rw [← st_at]; rfl) (by simp) (by simp)).choose_spec ⟨_, rfl⟩
end Go.Proofs.Nt
/- What is wrong with things that are asked one behind the other. -/
set_option linter.unusedVariables false
set_option maxRecDepth 20000
set_option linter.unusedSimpArgs false
set_option linter.unnecessarySimpa false
namespace Go.Proofs.Nt
open Go Go.Proofs Go.Proofs.Va Go.RowKit

def bsl (nl : Bool) (l : List Bool) (cap : Option Nat) : AV := .pl (nl && l.isEmpty) (l.map bo) l.length cap
theorem op_read {l : List OpV} {g : Nat} (hg : g < l.length) : List.take 9 (List.drop (g * 9) (opcs l)) = l[g].cs := by
  apply List.ext_getElem?
  intro j
  by_cases hj : j < 9
  · rw [List.getElem?_take_of_lt hj, List.getElem?_drop, opcs_at hg hj]
  · rw [List.getElem?_eq_none (by rw [List.length_take]; omega), List.getElem?_eq_none (by rw [op_len]; omega)]
def tabP (s : ShV) (l : List OpV) (w : List Bool) (g : Nat) : List Int := (List.range g).map fun j => opE (runS s l w j) (l.getD j opD)
theorem tabP_succ (s : ShV) (l : List OpV) (w : List Bool) (g : Nat) : tabP s l w (g + 1) = tabP s l w g ++ [opE (runS s l w g) (l.getD g opD)] := by simp [tabP, List.range_succ]
theorem tabP_len (s : ShV) (l : List OpV) (w : List Bool) (g : Nat) : (tabP s l w g).length = g := by simp [tabP]
theorem cells_sh (s : ShV) (f : Fg) : cellsOf (s.av f) = some [i s.cols, zsl f.rn s.rows f.rc, zsl f.tn s.turns f.tc] := rfl
theorem cells_op (o : OpV) : cellsOf (.agg o.cs) = some o.cs := rfl

set_option maxHeartbeats 1000000 in
theorem table_ctr (hc : CodeOk) (s : ShV) (f : Fg) (l : List OpV) (ln : Bool) (lc : Option Nat) (w : List Bool) (wn : Bool) (wc : Option Nat) (hl : l.length ≤ 100000) (hw : w.length ≤ 100000) (ho : ∀ o ∈ l, o.fit) :
    Ctr Tryz.prog 16 [s.av f, opsl ln l lc, bsl wn w wc] (fun r => ∃ nl c, r = zsl nl (tabE s l w) c) := by
  refine ctr_in Tryz.func16 rfl (by kernel_rfl) rfl fun K hK => ?_
  simp [Tryz.f16, fld_sh_av, cells_g3, opsl, -cellsOf]
  refine loop_on (γ := Nat × Fg × AV × AHeap) 38 (fun g => [(2, bsl wn w wc), (3, .po 0 0 0), (7, g.2.2.1), (10, opsl ln l lc), (11, i l.length), (12, i g.1)]) (fun g => g.2.2.2)
    (fun g => g.1 ≤ l.length ∧ 1 ≤ g.2.2.2.length ∧ g.2.2.2[0]? = some ⟨.own, 0, [i (runS s l w g.1).cols, zsl g.2.1.rn (runS s l w g.1).rows g.2.1.rc, zsl g.2.1.tn (runS s l w g.1).turns g.2.1.tc]⟩ ∧ OW 1 1 g.2.2.2 g.2.2.1 ((tabP s l w g.1).map i) g.1) (fun g => l.length - g.1)
    (0, f, .pl true [] 0 (some 0), _) ⟨Nat.zero_le _, by simp, rfl, .nil⟩ (Wk.lst (by simp [opsl, bsl]) (by simp)) ?_
  rintro ⟨g, f', r, σ⟩ ⟨hg, hσ, s0, hO⟩ L hL
  simp only at hg hσ s0 hO
  by_cases hlt : g < l.length
  · have hw1 : IntKind.i64.wrap ((g : Int) + 1) = ((g + 1 : Nat) : Int) := w64 _ (by omega) (by omega)
    have hnext := fun f2 r' σ' => hL (g + 1, f2, r', σ')
    have hgd : l.getD g opD = l[g] := by simp [hlt]
    simp only [tabP_succ, hgd, List.map_append, List.map_cons, List.map_nil] at hnext
    have hrun : runS s l w (g + 1) = if w.getD g true = true then nextS (runS s l w g) l[g] else runS s l w g := by simp only [runS, hgd]
    have cO := cop_ctr hc (runS s l w g) f' l[g] (ho _ (List.getElem_mem hlt))
    have cN := cnext_ctr hc (runS s l w g) f' l[g] (ho _ (List.getElem_mem hlt))
    have hp := pu_shop (runS s l w g) f' l[g]
    have rO := op_read hlt
    have oa : g * 9 + 9 ≤ (opcs l).length := by rw [opcs_len]; omega
    have oa2 : g * 9 < (opcs l).length := by omega
    generalize hT : runS s l w g = t at *
    generalize hQ : l[g] = q at *
    have ap0 : ∀ A : ABlk, (σ ++ [A])[σ.length]? = some A := fun A => by simp
    have sp0 : ∀ A C : ABlk, (σ ++ [A]).set σ.length C = σ ++ [C] := fun A C => by simp
    have h0lt : 0 < σ.length := by omega
    have hq9 : q.cs.length = 9 := rfl
    have hz9 : opZ.length = 9 := rfl
    have hwr : wr opZ 0 q.cs = q.cs := rfl
    have ht9 : List.take 9 q.cs = q.cs := List.take_of_length_le (by rw [hq9]; exact Nat.le_refl _)
    have ht3 : ∀ a b c : AV, List.take 3 [a, b, c] = [a, b, c] := fun _ _ _ => rfl
    have q0 := (List.getElem?_append_left (l₂ := [(⟨.own, 0, q.cs⟩ : ABlk)]) h0lt).trans s0
    have eE : AV.agg [i t.cols, zsl f'.rn t.rows f'.rc, zsl f'.tn t.turns f'.tc] = t.av f' := rfl
    have eO : AV.agg q.cs = q.av := rfl
    simp [hlt, opsl, oa, oa2, rO, cells_op, hq9, hz9, hwr, ht9, ht3, q0, -cellsOf, -wr, -getElem?_pos, -List.take_succ_cons, List.getElem?_cons_zero, List.getElem?_cons_succ, ap0, sp0]
    refine acall_by cO hp ?_
    rintro _ rfl
    generalize hσ1 : σ ++ ([⟨.own, 0, q.cs⟩] : AHeap) = σ1 at q0 ⊢
    have hl1 : σ1.length = σ.length + 1 := by rw [← hσ1]; simp
    have p1 : σ1[σ.length]? = some ⟨.own, 0, q.cs⟩ := by rw [← hσ1]; simp
    have hO1 : OW 1 1 σ1 r ((tabP s l w g).map i) g := hO.keep fun a _ h => by rw [← hσ1]; exact List.getElem?_append_left h
    simp [-aAppend]
    refine append_ow4 (k := 1) elTEr srcErs hO1 (by show (g + 1) * 9 ≤ _; omega) (by rfl) (by omega) fun r' σ' hO' hσ' hS hS2 => ?_
    have u0 : σ'[0]? = some ⟨.own, 0, [i t.cols, zsl f'.rn t.rows f'.rc, zsl f'.tn t.turns f'.tc]⟩ := by rw [hS 0 (by omega)]; exact q0
    have u1 : σ'[σ.length]? = some ⟨.own, 0, q.cs⟩ := by
      rw [hS2 _ (by omega) (fun j v n sz c hr hj => by
        subst hr
        have hsc := hO.sc
        cases hsc with
        | so _ _ _ _ _ _ h => omega)]
      exact p1
    have hno : w.getD g true = false → ∀ T', Wk 0 ⟨lst 38 T', σ'⟩ ⟨lst 38 [(2, bsl wn w wc), (3, .po 0 0 0), (7, r'), (10, opsl ln l lc), (11, i l.length), (12, i ((g + 1 : Nat) : Int))], σ'⟩ → L ⟨lst 38 T', σ'⟩ := fun hf T' hW =>
      hnext f' r' σ' _ _ ⟨by omega, by omega, by rw [hrun, if_neg (by rw [hf]; decide)]; exact u0, hO'⟩ hW (by show _ - (g + 1) < _ - g; omega)
    have hyes : w.getD g true = true → ∀ (f2 : Fg) T', Wk 0 ⟨lst 38 T', σ'.set 0 ⟨.own, 0, [i (nextS t q).cols, zsl f2.rn (nextS t q).rows f2.rc, zsl f2.tn (nextS t q).turns f2.tc]⟩⟩ ⟨lst 38 [(2, bsl wn w wc), (3, .po 0 0 0), (7, r'), (10, opsl ln l lc), (11, i l.length), (12, i ((g + 1 : Nat) : Int))], σ'.set 0 ⟨.own, 0, [i (nextS t q).cols, zsl f2.rn (nextS t q).rows f2.rc, zsl f2.tn (nextS t q).turns f2.tc]⟩⟩ → L ⟨lst 38 T', σ'.set 0 ⟨.own, 0, [i (nextS t q).cols, zsl f2.rn (nextS t q).rows f2.rc, zsl f2.tn (nextS t q).turns f2.tc]⟩⟩ := fun hf f2 T' hW =>
      hnext f2 r' _ _ _ ⟨by omega, by simp; omega, by rw [hrun, if_pos hf, List.getElem?_set_self (by omega)], hO'.keep fun a ha _ => by rw [List.getElem?_set_ne (by omega)]⟩ hW (by show _ - (g + 1) < _ - g; omega)
    by_cases hgw : g < w.length
    · have hwd : w.getD g true = w[g] := by simp [hgw]
      rw [hwd] at hno hyes
      cases hb : w[g]
      · simp [bsl, hgw, Nat.not_le.2 hgw, hb, hw1, -Int.natCast_add]
        exact hno hb _ (Wk.lst (by simp [bsl, opsl]) (by simp))
      · have hwg : w[g]? = some true := by rw [List.getElem?_eq_getElem hgw, hb]
        simp [bsl, hgw, Nat.not_le.2 hgw, hwg, hw1, u0, u1, ht9, ht3, hq9, -Int.natCast_add, -getElem?_pos, -List.take_succ_cons, List.getElem?_cons_zero, List.getElem?_cons_succ]
        refine acall_by cN hp ?_
        rintro _ ⟨f2, rfl⟩
        simp [fld_sh_av, cells_g3, u0, wr, hw1, -cellsOf, -Int.natCast_add, -getElem?_pos, List.getElem?_cons_zero, List.getElem?_cons_succ]
        exact hyes hb f2 _ (Wk.lst (by simp [bsl, opsl]) (by simp))
    · have hwd : w.getD g true = true := by simp [Nat.not_lt.1 hgw]
      simp [bsl, hgw, Nat.not_lt.1 hgw, hw1, u0, u1, ht9, ht3, hq9, -Int.natCast_add, -getElem?_pos, -List.take_succ_cons, List.getElem?_cons_zero, List.getElem?_cons_succ]
      refine acall_by cN hp ?_
      rintro _ ⟨f2, rfl⟩
      simp [fld_sh_av, cells_g3, u0, wr, hw1, -cellsOf, -Int.natCast_add, -getElem?_pos, List.getElem?_cons_zero, List.getElem?_cons_succ]
      exact hyes hwd f2 _ (Wk.lst (by simp [bsl, opsl]) (by simp))
  · have hge : g = l.length := by omega
    subst hge
    have he : tabP s l w l.length = tabE s l w := rfl
    rw [he] at hO
    simp
    obtain ⟨n2, c2, hn2, _, hp⟩ := hO.pur (S := fun _ => True) (fun _ => trivial) (by
      intro x hx
      obtain ⟨k, _, rfl⟩ := List.mem_map.1 hx
      simp)
    refine hK _ _ _ hp ⟨n2, c2, ?_⟩
    unfold zsl
    rw [tab_len]
    have : (n2 && (tabE s l w).isEmpty) = n2 := by
      by_cases h : l.length = 0
      · have : tabE s l w = [] := List.eq_nil_of_length_eq_zero (by rw [tab_len]; exact h)
        rw [this]; simp
      · rw [hn2 h]; rfl
    rw [this]
end Go.Proofs.Nt
/- Check's live. -/
set_option linter.unusedVariables false
set_option maxRecDepth 20000
set_option linter.unusedSimpArgs false
set_option linter.unnecessarySimpa false
namespace Go.Proofs.Nt
open Go Go.Proofs Go.Proofs.Va Go.RowKit

def opL (k sh fr : Int) (x : List Nat) (xn : Bool) (xc : Option Nat) (y be : Nat) (p : List Int) (pn : Bool) (pc : Option Nat) : OpV := ⟨k, sh, fr, x, xn, xc, y, be, 0, p, pn, pc, ⟨#[]⟩⟩
def oNo (k sh fr : Int) : OpV := opL k sh fr [] true (some 0) 0 0 [] true (some 0)
def oRw (k : Int) : OpV := opL k 0 0 [4611686018427387904] false (some 1) 4613937818241073152 0 [] true (some 0)
def sL : ShV := ⟨1, [0, 3], [0, 9]⟩
def fL : Fg := ⟨false, some 2, false, some 2⟩
theorem fit_opL {k sh fr : Int} {x : List Nat} {xn : Bool} {xc : Option Nat} {y be : Nat} {p : List Int} {pn : Bool} {pc : Option Nat} (hx : Fl x) (hy : y < 18446744073709551616) (hb : be < 18446744073709551616) (hl : x.length ≤ 100) (hp : p.length ≤ 100) : (opL k sh fr x xn xc y be p pn pc).fit :=
  ⟨hx, hy, hb, by show (0 : Nat) < _; decide, Nat.le_trans hl (by decide), Nat.le_trans hp (by decide), by show (0 : Nat) ≤ 100000; decide⟩
theorem fit_no (k sh fr : Int) : (oNo k sh fr).fit := fit_opL (by intro z hz; cases hz) (by decide) (by decide) (by decide) (by decide)
theorem fit_ro (k : Int) : (oRw k).fit := fit_opL (by intro z hz; rw [List.mem_singleton.1 hz]; decide) (by decide) (by decide) (by decide) (by decide)
def oFd : OpV := opL 3 0 0 [] true (some 0) 0 4611686018427387904 [] true (some 0)
def oTl : OpV := opL 8 0 0 [] true (some 0) 0 0 [0] false (some 1)
theorem fit_fd : oFd.fit := fit_opL (by intro z hz; cases hz) (by decide) (by decide) (by decide) (by decide)
theorem fit_tl : oTl.fit := fit_opL (by intro z hz; cases hz) (by decide) (by decide) (by decide) (by decide)
def sT : ShV := ⟨1, [1, 3], [2, 9]⟩
def sU : ShV := ⟨1, [3, 0], [12, 0]⟩
theorem kv1 : nextS sL (oRw 1) = sT := by decide +kernel
theorem kv2 : nextS sL (oNo 4 0 1) = sU := by decide +kernel
theorem kv3 : tabE sL [oRw 1, oRw 2, oRw 2] [true, false] = [0, 0, 0] := by decide +kernel
theorem kv4 : sL.may = true := by decide +kernel
theorem kv5 : (ShV.mk 0 [] []).may = false := by decide +kernel
theorem kv6 : opE sL (oNo 0 0 0) = 1 := by decide +kernel
theorem kv7 : opE sL (oRw 2) = 5 := by decide +kernel
theorem kv8 : opE sL (oNo 2 0 0) = 3 := by decide +kernel
theorem kv9 : opE sL (oNo 4 0 0) = 1 := by decide +kernel
theorem kv10 : opE sL oFd = 12 := by decide +kernel
theorem kv11 : opE sL (oNo 6 0 0) = 9 := by decide +kernel
theorem kv12 : opE sL oTl = 5 := by decide +kernel
theorem kv13 : opE sL (oNo 7 0 0) = 10 := by decide +kernel
theorem kv14 : opE sL (oNo 5 1 0) = 0 := by decide +kernel
theorem pur_box3 {σ : AHeap} {S : Nat → Prop} {j : Nat} {c : Int} {l1 l2 : List Int} {n1 n2 : Bool} {c1 c2 : Option Nat} (hj : σ[j]? = some ⟨.own, 0, [i c, zsl n1 l1 c1, zsl n2 l2 c2]⟩) (hS : S j) : Pur σ S (.po j 0 0) (.pp [i c, zsl n1 l1 c1, zsl n2 l2 c2] 0) := by
  refine .po _ _ _ _ _ hj rfl (by simp) hS rfl fun q hq => ?_
  have : q = 0 ∨ q = 1 ∨ q = 2 := by simp at hq; omega
  rcases this with rfl | rfl | rfl
  · exact .same _ (.v _)
  · exact .same _ (.pl ..)
  · exact .same _ (.pl ..)
def shC : AV := .agg [i 1, zsl false [0, 3] (some 2), zsl false [0, 9] (some 2)]
theorem av_L : sL.av fL = .agg [i 1, zsl false [0, 3] (some 2), zsl false [0, 9] (some 2)] := rfl
set_option maxHeartbeats 2000000 in
theorem clive_ctr (hc : CodeOk) : Ctr Tryz.prog 7 [] (fun r => r = bo true) := by
  refine ctr_in_aw Tryz.func7 rfl (by kernel_rfl) rfl fun K hK => ?_
  have hK : ∀ σ, K (bo true) σ := fun σ => hK _ _ _ (.same _ (by simp)) rfl
  have cN : ∀ o : OpV, o.fit → Ctr Tryz.prog 13 [shC, o.av] (nextA sL o) := fun o ho => cnext_ctr hc sL fL o ho
  have cO : ∀ (o : OpV) (e : Int), o.fit → opE sL o = e → Ctr Tryz.prog 10 [shC, o.av] (fun r => r = i e) := fun o e ho he => by rw [← he]; exact cop_ctr hc sL fL o ho
  have hp : ∀ o : OpV, ∀ x ∈ [shC, o.av], Pu x := fun o => pu_shop sL fL o
  have c1 := cN (oRw 1) (fit_ro 1)
  have c2 := cN (oNo 4 0 1) (fit_no 4 0 1)
  unfold nextA at c1 c2
  rw [kv1] at c1
  rw [kv2] at c2
  simp [Tryz.f7]
  refine aw_seq ?_
  simp
  refine aw_seq ?_
  simp
  refine aw_seq ?_
  simp
  refine aw_pureT [0, 1, 2] 1 (.pp [i 1, zsl false [0, 3] (some 2), zsl false [0, 9] (some 2)] 0) ?_ ?_
  · refine .po 2 0 0 ⟨.own, 0, [i 1, .so 0 0 0 2 1 (some 2), .so 1 0 0 2 1 (some 2)]⟩ _ rfl rfl (by simp) (by simp) rfl fun q hq => ?_
    have : q = 0 ∨ q = 1 ∨ q = 2 := by simp at hq; omega
    rcases this with rfl | rfl | rfl
    · exact .same _ (.v _)
    · exact pur_so (sz := 1) (n := 2) (b := [i 0, i 3]) (kd := .own) rfl (by simp) rfl rfl (by simp) (by simp)
    · exact pur_so (sz := 1) (n := 2) (b := [i 0, i 9]) (kd := .own) rfl (by simp) rfl rfl (by simp) (by simp)
  refine aw_pureT [3, 4] 2 (.pp [fsl false [4611686018427387904] (some 1), fl 4613937818241073152] 0) ?_ ?_
  · refine .po 4 0 0 ⟨.own, 0, [.so 3 0 0 1 1 (some 1), fl 4613937818241073152]⟩ _ rfl rfl (by simp) (by simp) rfl fun q hq => ?_
    have : q = 0 ∨ q = 1 := by simp at hq; omega
    rcases this with rfl | rfl
    · exact pur_so (sz := 1) (n := 1) (b := [fl 4611686018427387904]) (kd := .own) rfl (by simp) rfl rfl (by simp) (by simp)
    · exact .same _ (.v _)
  generalize froze (froze _ _) _ = σ1
  refine aw_seq ?_
  simp [opZ]
  refine acall_by c1 (hp (oRw 1)) ?_
  rintro _ ⟨f1, rfl⟩
  simp [fld_sh_av, cells_g3, wr, -cellsOf]
  refine aw_pureT [σ1.length] 3 (.pp [i sT.cols, zsl f1.rn sT.rows f1.rc, zsl f1.tn sT.turns f1.tc] 0) ?_ ?_
  · exact pur_box3 (by simp) (by simp)
  generalize froze _ _ = σ2
  refine aw_seq ?_
  simp [opZ]
  refine acall_by c2 (hp (oNo 4 0 1)) ?_
  rintro _ ⟨f2, rfl⟩
  simp [fld_sh_av, cells_g3, wr, -cellsOf]
  refine aw_pureT [σ2.length] 4 (.pp [i sU.cols, zsl f2.rn sU.rows f2.rc, zsl f2.tn sU.turns f2.tc] 0) ?_ ?_
  · exact pur_box3 (by simp) (by simp)
  generalize froze _ _ = σ3
  refine aw_seq ?_
  simp [opZ]
  refine acall_froze [σ3.length, σ3.length + 1] (table_ctr hc sL fL [oRw 1, oRw 2, oRw 2] false (some 3) [true, false] false (some 2) (by decide) (by decide) (by
    intro o ho
    simp only [List.mem_cons, List.not_mem_nil, or_false] at ho
    rcases ho with rfl | rfl | rfl
    · exact fit_ro 1
    · exact fit_ro 2
    · exact fit_ro 2)) rfl (fun j hj => ?_) ?_
  · have : j = 0 ∨ j = 1 ∨ j = 2 := by simp at hj; omega
    rcases this with rfl | rfl | rfl
    · exact .same _ (pu_sh sL fL)
    · exact pur_so (sz := 9) (n := 3) (b := opcs [oRw 1, oRw 2, oRw 2]) (cs := opcs [oRw 1, oRw 2, oRw 2]) (kd := .own) (by simp; rfl) (by simp) rfl rfl (by simp) (by
        intro x hx
        obtain ⟨o, _, ho⟩ := List.mem_flatMap.1 hx
        exact pu_opc o x ho)
    · exact pur_so (sz := 1) (n := 2) (b := [bo true, bo false]) (cs := [bo true, bo false]) (kd := .own) (by simp) (by simp) rfl rfl (by simp) (by simp)
  rintro _ ⟨n5, c5, rfl⟩
  rw [kv3]
  generalize froze _ _ = σ4
  simp
  refine aw_seq ?_
  simp
  refine acall_by (show Ctr Tryz.prog 8 [shC] (fun r => r = bo true) by have := shmay_ctr sL fL; rw [kv4] at this; exact this) (pu_av _ (pu_sh sL fL)) ?_
  rintro _ rfl
  simp
  refine acall_by (show Ctr Tryz.prog 8 [(ShV.mk 0 [] []).av ⟨true, some 0, true, some 0⟩] (fun r => r = bo false) by have := shmay_ctr (ShV.mk 0 [] []) ⟨true, some 0, true, some 0⟩; rw [kv5] at this; exact this) (pu_av _ (pu_sh (ShV.mk 0 [] []) ⟨true, some 0, true, some 0⟩)) ?_
  rintro _ rfl
  simp [opZ]
  refine acall_by (cO (oNo 0 0 0) 1 (fit_no 0 0 0) kv6) (hp (oNo 0 0 0)) ?_
  rintro _ rfl
  simp [opZ]
  refine acall_by (cO (oRw 2) 5 (fit_ro 2) kv7) (hp (oRw 2)) ?_
  rintro _ rfl
  simp [opZ]
  refine acall_by (cO (oNo 2 0 0) 3 (fit_no 2 0 0) kv8) (hp (oNo 2 0 0)) ?_
  rintro _ rfl
  simp [opZ]
  refine acall_by (cO (oNo 4 0 0) 1 (fit_no 4 0 0) kv9) (hp (oNo 4 0 0)) ?_
  rintro _ rfl
  simp [opZ]
  refine acall_by (cO (oFd) 12 fit_fd kv10) (hp (oFd)) ?_
  rintro _ rfl
  simp [opZ]
  refine acall_by (cO (oNo 6 0 0) 9 (fit_no 6 0 0) kv11) (hp (oNo 6 0 0)) ?_
  rintro _ rfl
  simp [opZ]
  refine acall_froze [σ4.length] (cO oTl 5 fit_tl kv12) rfl (fun j hj => ?_) ?_
  · have : j = 0 ∨ j = 1 := by simp at hj; omega
    rcases this with rfl | rfl
    · exact .same _ (pu_sh sL fL)
    · refine .agg _ _ rfl fun q hq => ?_
      have : q = 0 ∨ q = 1 ∨ q = 2 ∨ q = 3 ∨ q = 4 ∨ q = 5 ∨ q = 6 ∨ q = 7 ∨ q = 8 := by rw [op_len] at hq; omega
      rcases this with rfl | rfl | rfl | rfl | rfl | rfl | rfl | rfl | rfl
      · exact .same _ (.v _)
      · exact .same _ (.v _)
      · exact .same _ (.v _)
      · exact .same _ (.pl ..)
      · exact .same _ (.v _)
      · exact .same _ (.v _)
      · exact .same _ (.v _)
      · exact pur_so (sz := 1) (n := 1) (b := [i 0]) (cs := [i 0]) (kd := .own) (by simp) (by simp) rfl rfl (by simp) (by simp)
      · exact .same _ (.v _)
  rintro _ rfl
  generalize froze _ _ = σ5
  simp [opZ]
  refine acall_by (cO (oNo 7 0 0) 10 (fit_no 7 0 0) kv13) (hp (oNo 7 0 0)) ?_
  rintro _ rfl
  simp [opZ]
  refine acall_by (cO (oNo 5 1 0) 0 (fit_no 5 1 0) kv14) (hp (oNo 5 1 0)) ?_
  rintro _ rfl
  simp [opZ]
  refine acall_froze [σ5.length, σ5.length + 1] (shsame_ctr sT sT f1 ⟨false, some 2, false, some 2⟩ ⟨by decide, by decide⟩ ⟨by decide, by decide⟩) rfl (fun j hj => ?_) ?_
  · have : j = 0 ∨ j = 1 := by simp at hj; omega
    rcases this with rfl | rfl
    · exact .same _ (pu_sh sT f1)
    · exact pur_shx (l1 := [1, 3]) (l2 := [2, 9]) (k1 := .own) (k2 := .own) (by simp) (by simp) (by simp) (by simp) (by simp) (by simp) rfl rfl
  rintro _ rfl
  rw [decide_eq_true rfl]
  generalize froze _ _ = σ6
  simp
  refine acall_froze [σ6.length, σ6.length + 1] (shsame_ctr sU sU f2 ⟨false, some 2, false, some 2⟩ ⟨by decide, by decide⟩ ⟨by decide, by decide⟩) rfl (fun j hj => ?_) ?_
  · have : j = 0 ∨ j = 1 := by simp at hj; omega
    rcases this with rfl | rfl
    · exact .same _ (pu_sh sU f2)
    · exact pur_shx (l1 := [3, 0]) (l2 := [12, 0]) (k1 := .own) (k2 := .own) (by simp) (by simp) (by simp) (by simp) (by simp) (by simp) rfl rfl
  rintro _ rfl
  rw [decide_eq_true rfl]
  generalize froze _ _ = σ7
  simp
  refine acall_froze [σ7.length] (errnos_ctr [0, 0, 0] [0, 0, 0] n5 false c5 (some 3) (by decide) (by decide)) rfl (fun j hj => ?_) ?_
  · have : j = 0 ∨ j = 1 := by simp at hj; omega
    rcases this with rfl | rfl
    · exact .same _ (.pl ..)
    · exact pur_so (sz := 1) (n := 3) (b := [i 0, i 0, i 0]) (cs := [i 0, i 0, i 0]) (kd := .own) (by simp) (by simp) rfl rfl (by simp) (by simp)
  rintro _ rfl
  rw [decide_eq_true rfl]
  simp
  exact aw_of (by simp; exact hK _)
end Go.Proofs.Nt
/- The law CheckMay. -/
set_option linter.unusedVariables false
set_option maxRecDepth 20000
set_option linter.unusedSimpArgs false
set_option linter.unnecessarySimpa false
namespace Go.Proofs.Nt
open Go Go.Proofs Go.Proofs.Va Go.RowKit

/-- Its floats are words. -/
structure OpV.wf (o : OpV) : Prop where
  fx : Fl o.x
  fy : o.y < 18446744073709551616
  fb : o.beta < 18446744073709551616
  fm : o.mu < 18446744073709551616
theorem fit_of {o : OpV} (h : o.wf) (k : o.few = true) : o.fit := by
  have := of_decide_eq_true k
  exact ⟨h.fx, h.fy, h.fb, h.fm, by omega, by omega, by omega⟩
theorem few_one (o : OpV) : fewO [o] 1 = o.few := by unfold fewO; simp
theorem small_len {s : ShV} (h : s.small = true) : s.rows.length ≤ 20 ∧ s.turns.length ≤ 20 := of_decide_eq_true h
theorem sfit_of {s : ShV} (h : s.small = true) : s.fit := by have := small_len h; exact ⟨by omega, by omega⟩
theorem nfit_of {s : ShV} (h : s.small = true) (o : OpV) : (nextS s o).fit := by
  have := small_len h
  have := next_len s o
  exact ⟨by omega, by omega⟩
theorem sum_rng {l : List Int} (h : ∀ j, j < l.length → 0 ≤ l.getD j 0 ∧ l.getD j 0 ≤ 200) : ∀ g, g ≤ l.length → 0 ≤ (l.take g).sum ∧ (l.take g).sum ≤ 200 * (g : Int) := by
  intro g
  induction g with
  | zero => intro _; simp
  | succ g ih =>
    intro hg
    have e : (l.take (g + 1)).sum = (l.take g).sum + l.getD g 0 := by
      rw [take_snoc (by omega : g < l.length), List.sum_append]
      simp [show g < l.length by omega]
    have := h g (by omega)
    have := ih (by omega)
    rw [e]; omega
theorem sum_stepI {l : List Int} {g : Nat} (hg : g < l.length) : (l.take (g + 1)).sum = (l.take g).sum + l[g] := by
  rw [take_snoc hg, List.sum_append]; simp
theorem may_rows {s : ShV} (h : s.may = true) : ∀ j, j < s.rows.length → 0 ≤ s.rows.getD j 0 ∧ s.rows.getD j 0 ≤ 200 := fun j hj => (mayC_def.1 (rng_at (sh_rng h) hj)).1

end Go.Proofs.Nt
