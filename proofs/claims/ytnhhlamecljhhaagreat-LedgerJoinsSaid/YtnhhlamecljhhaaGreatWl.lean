import Derived.Test.YtnhhlamecljhhaaGreatWa
import Derived.Test.YtnhhlamecljhhaaGreatWb
import Derived.Test.YtnhhlamecljhhaaGreatWc
import Derived.Test.YtnhhlamecljhhaaGreatWd
import Derived.Test.YtnhhlamecljhhaaGreatWe
import Derived.Test.YtnhhlamecljhhaaGreatWf
import Derived.Test.YtnhhlamecljhhaaGreatWg
import Derived.Test.YtnhhlamecljhhaaGreatWh
import Derived.Test.YtnhhlamecljhhaaGreatWi
import Derived.Test.YtnhhlamecljhhaaGreatWk
/- Books, in plain Lean. -/
set_option linter.unusedVariables false
set_option maxRecDepth 20000
set_option linter.unusedSimpArgs false
namespace Go.Proofs.Nt
open Go Go.Proofs

/-- What counts as a number of a row. -/
def inB (x : Nat) : Bool := decide (frg x = 0 ∨ (2805742567851819008 ≤ frg x ∧ frg x ≤ 6408622269748215808))

theorem at_inj' : ∀ n i k j : Fin 7, i.1 ≤ k.1 → k.1 ≤ n.1 → j.1 ≤ n.1 → atN n.1 i.1 k.1 = atN n.1 j.1 j.1 → i.1 = j.1 ∧ k.1 = j.1 := by decide +kernel
theorem at_inj {n i k j : Nat} (hn : n ≤ 6) (hi : i ≤ k) (hk : k ≤ n) (hj : j ≤ n) (h : atN n i k = atN n j j) : i = j ∧ k = j :=
  at_inj' ⟨n, by omega⟩ ⟨i, by omega⟩ ⟨k, by omega⟩ ⟨j, by omega⟩ hi hk hj h
/-- One entry of the diagonal more. -/
def diagS (n j : Nat) (G : List Dy) (s : Dy) : List Dy := G.set (atN n j j) (addD (G.getD (atN n j j) zeroD) s)
/-- The first so many entries of the diagonal, each more by the same. -/
def ridgeL (n : Nat) (s : Dy) : Nat → List Dy → List Dy
  | 0, G => G
  | j + 1, G => diagS n j (ridgeL n s j G) s
theorem ridge_len (n : Nat) (s : Dy) (G : List Dy) : ∀ j, (ridgeL n s j G).length = G.length
  | 0 => rfl
  | j + 1 => by
    show (List.set _ _ _).length = _
    rw [List.length_set, ridge_len n s G j]
theorem okl_mono2 {L H H' : Int} {G : List Dy} (h : Okl L H G) (hH : H ≤ H') : Okl L H' G := fun d hd => ⟨(h d hd).1, (h d hd).2.mono (by omega) hH⟩
theorem ridge_ok {n mu : Nat} {G : List Dy} {L H : Int} (hG : Okl L H G) (hL : L ≤ -2148) (hH : 2048 ≤ H) : ∀ j : Nat, Okl L (H + j) (ridgeL n (mulD (fromD mu) (fromD mu)) j G)
  | 0 => by rw [show H + ((0 : Nat) : Int) = H by omega]; exact hG
  | j + 1 => by
    have ih := ridge_ok (n := n) (mu := mu) hG hL hH j
    intro d hd
    rcases List.mem_or_eq_of_mem_set hd with h | rfl
    · obtain ⟨o, b⟩ := ih d h
      exact ⟨o, b.mono (by omega) (by omega)⟩
    · obtain ⟨o, b⟩ := getD_ok ih (atN n j j)
      obtain ⟨op, bp⟩ := okl_from [mu] (fromD mu) (by simp)
      have b2 := bd_mul bp bp
      refine ⟨ok_add _ _, ?_⟩
      have := bd_add o (ok_mul (fromD mu) (fromD mu)) b (b2.mono (by omega) (by omega)) (by omega)
      exact this.mono (by omega) (by omega)

/-! ### A row that comes in, and goes out -/
end Go.Proofs.Nt
/- Books: what is told of them. -/
set_option linter.unusedVariables false
set_option maxRecDepth 20000
set_option linter.unusedSimpArgs false
namespace Go.Proofs.Nt
open Go Go.Proofs Go.Proofs.Va Go.RowKit

/-- Whether a dyad may be. -/
def okB (d : DV) : Bool := dOk d.neg d.a d.e
def bookOk (c : Int) (N I : List DV) (rows turns : Int) : Bool :=
  decide ((1 ≤ c ∧ c ≤ 6) ∧ (0 ≤ rows ∧ rows ≤ 200) ∧ (0 ≤ turns ∧ turns ≤ 4096) ∧ (N.length : Int) = sizeI c ∧ (I.length : Int) = sizeI c) && (N.all okB && I.all okB)
theorem bookOk_nat {c : Int} {N I : List DV} {rows turns : Int} (h : bookOk c N I rows turns = true) : ∃ n : Nat, c = n ∧ 1 ≤ n ∧ n ≤ 6 ∧ N.length = sizeN n ∧ I.length = sizeN n ∧ (0 ≤ rows ∧ rows ≤ 200) ∧ (0 ≤ turns ∧ turns ≤ 4096) ∧ (∀ d ∈ N, okB d = true) ∧ ∀ d ∈ I, okB d = true := by
  unfold bookOk at h
  rw [Bool.and_eq_true, Bool.and_eq_true, List.all_eq_true, List.all_eq_true] at h
  obtain ⟨h1, h2, h3⟩ := h
  obtain ⟨hc, hr, ht, hn, hi⟩ := of_decide_eq_true h1
  unfold sizeI at hn hi
  rw [if_pos hc] at hn hi
  exact ⟨c.toNat, by omega, by omega, by omega, by omega, by omega, hr, ht, h2, h3⟩
theorem okB_m {d : DV} (h : okB d = true) : d.m = d.d := may_of_ok (d := d.d) h
theorem okl_ok {l : List DV} (h : ∀ d ∈ l, okB d = true) : l.map DV.m = l.map DV.d := List.map_congr_left fun d hd => okB_m (h d hd)

/-- A book, as numbers. -/
structure BD where
  c : Int
  N : List Dy
  I : List Dy
  rows : Int
  turns : Int
def BD.zero : BD := ⟨0, [], [], 0, 0⟩
/-- A book that is told, and an error. -/
def toldB (B : BD) (e : Int) (r : AV) : Prop := ∃ us n1 c1 vs n2 c2, r = .tup [.agg [i B.c, dsl n1 us c1, dsl n2 vs c2, i B.rows, i B.turns], i e] ∧ us.map DV.d = B.N ∧ vs.map DV.d = B.I ∧ LenOk us ∧ LenOk vs ∧ us.length ≤ 100000 ∧ vs.length ≤ 100000
/-- Whether all of a row are numbers. -/
def rangeOk (x : List Nat) (y : Nat) : Bool := x.all inB && inB y
/-- What is wrong with a row that comes in, or goes out. -/
def inE (c : Int) (N I : List DV) (rows turns : Int) (x : List Nat) (y : Nat) : Int :=
  if bookOk c N I rows turns = true then (if (x.length : Int) = c then (if rangeOk x y = true then (if rows + 1 > 200 ∨ turns + c + 1 > 4096 then 6 else 0) else 2) else 3) else 1
def outE (c : Int) (N I : List DV) (rows turns : Int) (x : List Nat) (y : Nat) : Int :=
  if bookOk c N I rows turns = true then (if (x.length : Int) = c then (if rangeOk x y = true then (if rows = 0 then 5 else if turns + c + 1 > 4096 then 6 else 0) else 2) else 3) else 1
def inR (c : Int) (N I : List DV) (rows turns : Int) (x : List Nat) (y : Nat) : BD :=
  if inE c N I rows turns x y = 0 then ⟨c, addL (N.map DV.d) (rowG x y), addL (I.map DV.d) (rowG x y), rows + 1, turns + c + 1⟩ else BD.zero
def outR (c : Int) (N I : List DV) (rows turns : Int) (x : List Nat) (y : Nat) : BD :=
  if outE c N I rows turns x y = 0 then ⟨c, subL (N.map DV.d) (rowG x y), I.map DV.d, rows - 1, turns + c + 1⟩ else BD.zero
theorem in_fin {x : Nat} (h : inB x = true) : fin x = true := by
  unfold inB at h
  have := of_decide_eq_true h
  unfold fin
  exact decide_eq_true (by omega)
theorem range_fin {x : List Nat} {y : Nat} {n : Nat} (h : rangeOk x y = true) (h1 : 1 ≤ n) (hn : n ≤ 6) (hl : x.length = n) : rowQ x y = true := by
  unfold rangeOk at h
  rw [Bool.and_eq_true, List.all_eq_true] at h
  unfold rowQ
  rw [hl, decide_eq_true h1, decide_eq_true hn, Bool.true_and, Bool.true_and, List.all_eq_true]
  intro z hz
  rcases List.mem_append.1 hz with e | e
  · exact in_fin (h.1 z e)
  · rw [List.mem_singleton.1 e]; exact in_fin h.2
/-- Whether a float may fade. -/
def mayB (b : Nat) : Bool := (Ieee.double.order b (powW (-20)) == some .gt || Ieee.double.order b (powW (-20)) == some .eq) && (Ieee.double.order b 4607182418800017408 == some .lt || Ieee.double.order b 4607182418800017408 == some .eq)
def fadeE (c : Int) (N I : List DV) (rows turns : Int) (b : Nat) : Int := if bookOk c N I rows turns = true then (if mayB b = true then (if turns = 4096 then 6 else 0) else 12) else 1
def fadeR (c : Int) (N I : List DV) (rows turns : Int) (b : Nat) : BD :=
  if fadeE c N I rows turns b = 0 then ⟨c, (if fin b = true then fadeL (N.map DV.d) (fromD b) else []), (if fin b = true then fadeL (I.map DV.d) (fromD b) else []), rows, turns + 1⟩ else BD.zero
/-- A book that came in. -/
structure BV where
  c : Int
  N : LV
  I : LV
  rows : Int
  turns : Int
def BV.av (b : BV) : AV := .agg [i b.c, b.N.av, b.I.av, i b.rows, i b.turns]
def BV.ok (b : BV) : Bool := bookOk b.c b.N.l b.I.l b.rows b.turns
def BV.bd (b : BV) : BD := ⟨b.c, b.N.l.map DV.d, b.I.l.map DV.d, b.rows, b.turns⟩
def joinE (a b : BV) : Int := if (a.ok && b.ok) = true then (if a.c = b.c then (if a.rows + b.rows > 200 ∨ max a.turns b.turns + sizeI a.c > 4096 then 6 else 0) else 3) else 1
def joinBR (a b : BV) : BD :=
  if joinE a b = 0 then ⟨a.c, addL (a.N.l.map DV.d) (b.N.l.map DV.d), addL (a.I.l.map DV.d) (b.I.l.map DV.d), a.rows + b.rows, max a.turns b.turns + sizeI a.c⟩ else BD.zero
def ridgeE (b : BV) (mu : Nat) : Int := if b.ok = true then (if (inB mu && !fsg mu) = true then (if frg mu = 0 then 0 else if b.turns + b.c * (b.c + 1) > 4096 then 6 else 0) else 2) else 1
def ridgeR (b : BV) (mu : Nat) : BD :=
  if ridgeE b mu = 0 then (if frg mu = 0 then b.bd else ⟨b.c, ridgeL b.c.toNat (mulD (fromD mu) (fromD mu)) b.c.toNat (b.N.l.map DV.d), ridgeL b.c.toNat (mulD (fromD mu) (fromD mu)) b.c.toNat (b.I.l.map DV.d), b.rows, b.turns + b.c * (b.c + 1)⟩) else BD.zero
theorem told_err (e : Int) : toldB BD.zero e (.tup [.agg [i 0, .pl true [] 0 (some 0), .pl true [] 0 (some 0), i 0, i 0], i e]) :=
  ⟨[], true, some 0, [], true, some 0, rfl, rfl, rfl, fun d hd => by simp at hd, fun d hd => by simp at hd, by simp, by simp⟩
end Go.Proofs.Nt
/- Which floats are numbers of a row; which may fade; costs. -/
set_option linter.unusedVariables false
set_option maxRecDepth 20000
set_option linter.unusedSimpArgs false
set_option linter.unnecessarySimpa false
namespace Go.Proofs.Nt
open Go Go.Proofs Go.Proofs.Va Go.RowKit

theorem geq_f {r s : Nat} (hs : s ≤ 9218868437227405312) (hr : r < 9223372036854775808) : (Ieee.double.order r s == some .gt || Ieee.double.order r s == some .eq) = decide (s ≤ r ∧ r ≤ 9218868437227405312) := by
  by_cases h : 9218868437227405312 < r
  · rw [order_nan (.inl (by rw [frg_self hr]; exact h))]
    have : ¬ (s ≤ r ∧ r ≤ 9218868437227405312) := by omega
    simp [this]
  · rw [order_rung (by omega) hs]
    rcases Nat.lt_trichotomy r s with h1 | h1 | h1
    · rw [if_pos h1]
      have : ¬ (s ≤ r ∧ r ≤ 9218868437227405312) := by omega
      simp [this]
    · subst h1
      have : r ≤ r ∧ r ≤ 9218868437227405312 := by omega
      simp [this]
    · rw [if_neg (by omega), if_neg (by omega)]
      have : s ≤ r ∧ r ≤ 9218868437227405312 := by omega
      simp [this]
theorem leq_f {r s : Nat} (hs : s ≤ 9218868437227405312) (hr : r < 9223372036854775808) : (Ieee.double.order r s == some .lt || Ieee.double.order r s == some .eq) = decide (r ≤ s) := by
  have h := not_leq hs hr
  rw [← Bool.not_not (_ || _), h]
  by_cases e : r ≤ s
  · rw [decide_eq_true e, decide_eq_false (by omega)]; rfl
  · rw [decide_eq_false e, decide_eq_true (by omega)]; rfl
theorem powm400 : powW (-400) = 2805742567851819008 := by decide +kernel
theorem powp400 : powW 400 = 6408622269748215808 := by decide +kernel

theorem bin_ctr {b : Nat} (hb : b < 18446744073709551616) : Ctr Tryz.prog 69 [fl b] (fun r => r = bo (inB b)) := by
  refine ctr_val Tryz.func69 rfl (by kernel_rfl) rfl (by simp) fun K hK => ?_
  have g1 := geq_f (r := frg b) (s := 2805742567851819008) (by decide) (frg_lt b)
  have g2 := leq_f (r := frg b) (s := 6408622269748215808) (by decide) (frg_lt b)
  simp [Tryz.f69]
  refine acall_by (fabs_ctr hb) (by simp) ?_
  rintro _ rfl
  by_cases h0 : frg b = 0
  · have : inB b = true := decide_eq_true (.inl h0)
    rw [this] at hK
    simp [eq_zero_f, h0]
    exact hK _
  have e1 : (Ieee.double.order (frg b) 2805742567851819008 = some .gt ∨ Ieee.double.order (frg b) 2805742567851819008 = some .eq) ↔ (2805742567851819008 ≤ frg b ∧ frg b ≤ 9218868437227405312) := by
    rw [← decide_eq_true_iff (p := 2805742567851819008 ≤ frg b ∧ frg b ≤ 9218868437227405312), ← g1]; simp
  have e2 : (Ieee.double.order (frg b) 6408622269748215808 = some .lt ∨ Ieee.double.order (frg b) 6408622269748215808 = some .eq) ↔ frg b ≤ 6408622269748215808 := by
    rw [← decide_eq_true_iff (p := frg b ≤ 6408622269748215808), ← g2]; simp
  by_cases b1 : 2805742567851819008 ≤ frg b ∧ frg b ≤ 9218868437227405312
  case neg =>
    have n1 := mt e1.1 b1
    have : inB b = false := decide_eq_false (by rintro (h | h); exact h0 h; omega)
    rw [this] at hK
    simp [eq_zero_f, h0]
    refine acall_by (pow_ctr (-400) (by omega)) (by simp) ?_
    rintro _ rfl
    rw [powm400]
    simp [n1]
    exact hK _
  have n1 := e1.2 b1
  simp [eq_zero_f, h0]
  refine acall_by (pow_ctr (-400) (by omega)) (by simp) ?_
  rintro _ rfl
  rw [powm400]
  simp [n1]
  refine acall_by (pow_ctr 400 (by omega)) (by simp) ?_
  rintro _ rfl
  rw [powp400]
  by_cases b2 : frg b ≤ 6408622269748215808
  · have n2 := e2.2 b2
    have : inB b = true := decide_eq_true (.inr ⟨b1.1, b2⟩)
    rw [this] at hK
    simp [n1]
    rw [g2, decide_eq_true b2]
    exact hK _
  · have n2 := mt e2.1 b2
    have : inB b = false := decide_eq_false (by rintro (h | h); exact h0 h; omega)
    rw [this] at hK
    simp [n1]
    rw [g2, decide_eq_false b2]
    exact hK _
theorem fmay_ctr {b : Nat} (hb : b < 18446744073709551616) : Ctr Tryz.prog 42 [fl b] (fun r => r = bo (mayB b)) := by
  refine ctr_val Tryz.func42 rfl (by kernel_rfl) rfl (by simp) fun K hK => ?_
  simp [Tryz.f42]
  refine acall_by (pow_ctr (-20) (by omega)) (by simp) ?_
  rintro _ rfl
  unfold mayB at hK
  by_cases p1 : Ieee.double.order b (powW (-20)) = some .gt ∨ Ieee.double.order b (powW (-20)) = some .eq
  · have q1 : (Ieee.double.order b (powW (-20)) == some .gt || Ieee.double.order b (powW (-20)) == some .eq) = true := by simpa using p1
    rw [q1, Bool.true_and] at hK
    simp [p1]
    exact hK _
  · have q1 : (Ieee.double.order b (powW (-20)) == some .gt || Ieee.double.order b (powW (-20)) == some .eq) = false := by rw [Bool.eq_false_iff]; intro h; exact p1 (by simpa using h)
    rw [q1, Bool.false_and] at hK
    simp [p1]
    exact hK _
theorem cost_ctr (c : Int) : Ctr Tryz.prog 22 [i c] (fun r => r = i (sizeI c)) := by
  refine ctr_val Tryz.func22 rfl (by kernel_rfl) rfl (by simp) fun K hK => ?_
  simp [Tryz.f22]
  refine acall_by (size_ctr c) (by simp) ?_
  rintro _ rfl
  simp
  exact hK _
end Go.Proofs.Nt
/- Books: the program's Check. -/
set_option linter.unusedVariables false
set_option maxRecDepth 20000
set_option linter.unusedSimpArgs false
set_option linter.unnecessarySimpa false
namespace Go.Proofs.Nt
open Go Go.Proofs Go.Proofs.Va Go.RowKit

@[simp] theorem fldB0 : fldT Tryz.prog 29 0 = some (3, 0) := by kernel_rfl
@[simp] theorem fldB1 : fldT Tryz.prog 29 1 = some (27, 1) := by kernel_rfl
@[simp] theorem fldB2 : fldT Tryz.prog 29 2 = some (27, 2) := by kernel_rfl
@[simp] theorem fldB3 : fldT Tryz.prog 29 3 = some (3, 3) := by kernel_rfl
@[simp] theorem fldB4 : fldT Tryz.prog 29 4 = some (3, 4) := by kernel_rfl
@[simp] theorem szBk : szT Tryz.prog 29 = some 5 := by kernel_rfl
@[simp] theorem aggBk : aggT Tryz.prog 29 = some true := by kernel_rfl
@[simp] theorem zcBk : zcT Tryz.prog 29 = some [.v (.int .i64 0), .pl true [] 0 (some 0), .pl true [] 0 (some 0), .v (.int .i64 0), .v (.int .i64 0)] := by kernel_rfl
@[simp] theorem zcDl : zcT Tryz.prog 27 = some [.pl true [] 0 (some 0)] := by kernel_rfl
@[simp] theorem plBk : placesT Tryz.prog 29 = some [(0, 1), (1, 1), (2, 1), (3, 1), (4, 1)] := by kernel_rfl
theorem cells_g5 (a b c d e : AV) : cellsOf (.agg [a, b, c, d, e]) = some [a, b, c, d, e] := (rfl)
theorem cells_dsl (nl : Bool) (l : List DV) (cap : Option Nat) : cellsOf (dsl nl l cap) = some [dsl nl l cap] := (rfl)
theorem cells_int (k : IntKind) (n : Int) : cellsOf (.v (.int k n)) = some [.v (.int k n)] := (rfl)
theorem pu_av1 {x : AV} (h : Pu x) : ∀ z ∈ [x], Pu z := by
  intro z hz; rw [List.mem_singleton.1 hz]; exact h
theorem pu_book (a b c : Int) (n1 n2 : Bool) (l1 l2 : List DV) (c1 c2 : Option Nat) : Pu (.agg [.v (.int .i64 a), dsl n1 l1 c1, dsl n2 l2 c2, .v (.int .i64 b), .v (.int .i64 c)]) := pu_agg (by simp)

theorem lbad_ctr (d : DV) (ha : Dig d.a) (hl : d.a.length ≤ 1000000) : Ctr Tryz.prog 50 [d.av] (fun r => r = bo (!okB d)) := by
  refine ctr_val Tryz.func50 rfl (by kernel_rfl) rfl (by simp) fun K hK => ?_
  obtain ⟨g, n, a, c, e⟩ := d
  have h := dcheck_ctr g n a c e ha hl
  simp [Tryz.f50, DV.av, cells_dy, -cellsOf]
  refine acall_by h (pu_av1 (pu_dy _ _ _ _ _)) ?_
  rintro _ rfl
  simp
  exact hK _
theorem lout_ctr {b : Nat} (hb : b < 18446744073709551616) : Ctr Tryz.prog 29 [fl b] (fun r => r = bo (!inB b)) := by
  refine ctr_val Tryz.func29 rfl (by kernel_rfl) rfl (by simp) fun K hK => ?_
  simp [Tryz.f29]
  refine acall_by (bin_ctr hb) (by simp) ?_
  rintro _ rfl
  simp
  exact hK _

section
variable {l : List DV} (nl : Bool) (cap : Option Nat) (p : DV → Bool) (gf : FuncId) (hl : l.length ≤ 100000) (hG : ∀ x ∈ l, Ctr Tryz.prog gf [x.av] (fun r => r = bo (p x)))
include hl hG
theorem indexD_ctr : Ctr Tryz.prog 83 [dsl nl l cap, .fn (.func gf) [] []] (fun r => ∃ z : Int, decide (0 ≤ z) = l.any p ∧ r = i z) := by
  refine ctr_in Tryz.func83 rfl (by kernel_rfl) rfl fun K hK => ?_
  simp only [Tryz.f83, List.append_eq, List.cons_append, List.nil_append]
  simp
  refine loop_on (γ := Nat) 19 (fun g => [(0, dsl nl l cap), (1, .fn (.func gf) [] []), (7, i l.length), (8, i g)]) (fun _ => [])
    (fun g => g ≤ l.length ∧ (l.take g).any p = false) (fun g => l.length - g) 0 ⟨Nat.zero_le _, rfl⟩ (Wk.lst (by simp [dsl]) (by simp)) ?_
  rintro g ⟨hg, hall⟩ L hL
  by_cases hlt : g < l.length
  · have hw1 : IntKind.i64.wrap ((g : Int) + 1) = ((g + 1 : Nat) : Int) := w64 _ (by omega) (by omega)
    have hmem := List.getElem_mem hlt
    have cG := hG _ hmem
    have htk : l.take (g + 1) = l.take g ++ [l[g]] := take_snoc hlt
    have hnext := hL (g + 1)
    simp only [htk] at hnext
    have rA := dcs_read hlt
    rw [gv_at hlt] at rA
    have oa3 : g * 3 + 3 ≤ (dcs l).length := by rw [dcs_len]; omega
    have oa : g * 3 < (dcs l).length := by omega
    obtain ⟨q, hq⟩ : ∃ q, q = p l[g] := ⟨_, rfl⟩
    rw [← hq] at cG
    simp [hlt, oa, oa3, rA]
    refine acall_by cG (pu_av1 (by show Pu (dy _ _ _ _ _); exact pu_dy _ _ _ _ _)) ?_
    rintro _ rfl
    cases q
    · simp [hw1, -Int.natCast_add]
      exact hnext _ _ ⟨by omega, by rw [List.any_append, hall]; simp [← hq]⟩ (Wk.lst (by simp) (by simp)) (by show _ - (g + 1) < _ - g; omega)
    · have ha : l.any p = true := List.any_eq_true.2 ⟨_, hmem, hq.symm⟩
      simp
      exact hK _ _ _ (.same _ (by simp)) ⟨g, by rw [ha]; simp, rfl⟩
  · have hge : g = l.length := by omega
    subst hge
    rw [List.take_length] at hall
    simp
    exact hK _ _ _ (.same _ (by simp)) ⟨-1, by rw [hall]; rfl, rfl⟩
theorem containsD_ctr : Ctr Tryz.prog 49 [dsl nl l cap, .fn (.func gf) [] []] (fun r => r = bo (l.any p)) := by
  refine ctr_val Tryz.func49 rfl (by kernel_rfl) rfl (by simp) fun K hK => ?_
  simp [Tryz.f49]
  refine acall_by (indexD_ctr nl cap p gf hl hG) (by simp) ?_
  rintro _ ⟨z, hz, rfl⟩
  rw [← hz] at hK
  simp
  exact hK _
end
end Go.Proofs.Nt
/- Books: Check. -/
set_option linter.unusedVariables false
set_option maxRecDepth 20000
set_option linter.unusedSimpArgs false
set_option linter.unnecessarySimpa false
namespace Go.Proofs.Nt
open Go Go.Proofs Go.Proofs.Va Go.RowKit

def badL (l : List DV) : Bool := l.any fun d => !okB d
theorem badL_iff (l : List DV) : badL l = false ↔ l.all okB = true := by
  unfold badL
  rw [List.any_eq_false, List.all_eq_true]
  constructor
  · intro h x hx; have := h x hx; simpa using this
  · intro h x hx; rw [h x hx]; simp
theorem bookOk_iff {c : Int} {N I : List DV} {rows turns : Int} : bookOk c N I rows turns = true ↔ (sizeI c ≠ 0 ∧ (0 ≤ rows ∧ rows ≤ 200) ∧ (0 ≤ turns ∧ turns ≤ 4096)) ∧ ((N.length : Int) = sizeI c ∧ badL N = false) ∧ ((I.length : Int) = sizeI c ∧ badL I = false) := by
  have hs : sizeI c ≠ 0 ↔ (1 ≤ c ∧ c ≤ 6) := by
    constructor
    · intro h
      apply Classical.byContradiction
      intro hc
      exact h (if_neg hc)
    · intro h
      have := (size_facts (c := c) h).2.2
      omega
  unfold bookOk
  rw [Bool.and_eq_true, Bool.and_eq_true, decide_eq_true_iff, badL_iff, badL_iff, hs]
  constructor
  · rintro ⟨⟨a, b, c, d, e⟩, f, g⟩; exact ⟨⟨a, b, c⟩, ⟨d, f⟩, e, g⟩
  · rintro ⟨⟨a, b, c⟩, ⟨d, f⟩, e, g⟩; exact ⟨⟨a, b, c, d, e⟩, f, g⟩
/-- What can be said of a book that came in. -/
def BV.fit (b : BV) : Prop := LenOk b.N.l ∧ LenOk b.I.l ∧ b.N.l.length ≤ 100000 ∧ b.I.l.length ≤ 100000

theorem lcheck_ctr (b : BV) (hb : b.fit) : Ctr Tryz.prog 18 [b.av] (fun r => r = bo b.ok) := by
  refine ctr_val Tryz.func18 rfl (by kernel_rfl) rfl (by simp) fun K hK => ?_
  obtain ⟨c, ⟨nn, N, nc⟩, ⟨ni, I, ic⟩, rows, turns⟩ := b
  obtain ⟨hN, hI, lN, lI⟩ := hb
  simp only at hN hI lN lI
  have cN := containsD_ctr nn nc (fun d => !okB d) 50 lN fun x hx => lbad_ctr x (hN x hx).1 (by have := (hN x hx).2; omega)
  have cI := containsD_ctr ni ic (fun d => !okB d) 50 lI fun x hx => lbad_ctr x (hI x hx).1 (by have := (hI x hx).2; omega)
  change Ctr _ _ _ (fun r => r = bo (badL N)) at cN
  change Ctr _ _ _ (fun r => r = bo (badL I)) at cI
  have hok : BV.ok ⟨c, ⟨nn, N, nc⟩, ⟨ni, I, ic⟩, rows, turns⟩ = bookOk c N I rows turns := rfl
  rw [hok] at hK
  have hF : (bookOk c N I rows turns = true → False) → ∀ σ, K (.v (.bool false)) σ := by
    intro h σ
    have := Bool.eq_false_iff.2 h
    rw [this] at hK
    exact hK σ
  have hb := bookOk_iff (c := c) (N := N) (I := I) (rows := rows) (turns := turns)
  simp only [BV.av, LV.av]
  simp [Tryz.f18, cells_g5, -cellsOf]
  refine acall_by (size_ctr c) (by simp) ?_
  rintro _ rfl
  by_cases a1 : sizeI c = 0
  · simp [a1]
    exact hF (fun h => (hb.1 h).1.1 a1) _
  by_cases a3 : rows < 0
  · simp [a1, a3]
    exact hF (fun h => by have := (hb.1 h).1.2.1; omega) _
  by_cases a4 : 200 < rows
  · simp [a1, a3, a4]
    exact hF (fun h => by have := (hb.1 h).1.2.1; omega) _
  by_cases a5 : turns < 0
  · simp [a1, a3, a4, a5]
    exact hF (fun h => by have := (hb.1 h).1.2.2; omega) _
  by_cases a6 : 4096 < turns
  · simp [a1, a3, a4, a5, a6]
    exact hF (fun h => by have := (hb.1 h).1.2.2; omega) _
  simp [a1, a3, a4, a5, a6, cells_g5, cells_dsl, wr, -cellsOf]
  refine loop_on (γ := Nat) 50 (fun g => [(3, i (sizeI c)), (35, .so 1 0 0 2 1 (some 2)), (36, i 2), (37, i g)]) (fun _ => [⟨.own, 0, [i c, dsl nn N nc, dsl ni I ic, i rows, i turns]⟩, ⟨.own, 0, [dsl nn N nc, dsl ni I ic]⟩])
    (fun g => g ≤ 2 ∧ (1 ≤ g → (N.length : Int) = sizeI c ∧ badL N = false) ∧ (2 ≤ g → (I.length : Int) = sizeI c ∧ badL I = false)) (fun g => 2 - g)
    0 ⟨Nat.zero_le _, fun h => by omega, fun h => by omega⟩ (Wk.lst (by simp) (by simp)) ?_
  rintro g ⟨hg, h1, h2⟩ L hL
  have v1 : IntKind.i64.wrap 1 = 1 := rfl
  have v2 : IntKind.i64.wrap 2 = 2 := rfl
  have hg3 : g = 0 ∨ g = 1 ∨ g = 2 := by omega
  rcases hg3 with rfl | rfl | rfl
  · by_cases b1 : (N.length : Int) = sizeI c
    case neg =>
      simp [b1]
      exact hF (fun h => b1 (hb.1 h).2.1.1) _
    simp [b1]
    refine acall_by cN (by simp) ?_
    rintro _ rfl
    by_cases b2 : badL N = false
    case neg =>
      rw [Bool.not_eq_false] at b2
      simp [b2]
      exact hF (fun h => by have := (hb.1 h).2.1.2; rw [b2] at this; cases this) _
    simp [b2, v1]
    exact hL 1 _ _ ⟨by decide, fun _ => ⟨b1, b2⟩, fun h => by omega⟩ (Wk.lst (by simp) (by simp)) (by decide)
  · by_cases b1 : (I.length : Int) = sizeI c
    case neg =>
      simp [b1]
      exact hF (fun h => b1 (hb.1 h).2.2.1) _
    simp [b1]
    refine acall_by cI (by simp) ?_
    rintro _ rfl
    by_cases b2 : badL I = false
    case neg =>
      rw [Bool.not_eq_false] at b2
      simp [b2]
      exact hF (fun h => by have := (hb.1 h).2.2.2; rw [b2] at this; cases this) _
    simp [b2, v2]
    exact hL 2 _ _ ⟨by decide, fun _ => h1 (by decide), fun _ => ⟨b1, b2⟩⟩ (Wk.lst (by simp) (by simp)) (by decide)
  · have hT : bookOk c N I rows turns = true := hb.2 ⟨⟨a1, by omega, by omega⟩, h1 (by decide), h2 (by decide)⟩
    rw [hT] at hK
    simp
    exact hK _
end Go.Proofs.Nt
/- Books: the document's Check, entries of rows, what is found early. -/
set_option linter.unusedVariables false
set_option maxRecDepth 20000
set_option linter.unusedSimpArgs false
set_option linter.unnecessarySimpa false
namespace Go.Proofs.Nt
open Go Go.Proofs Go.Proofs.Va Go.RowKit

/-! ### The entries of a row -/
end Go.Proofs.Nt
/- Books: what is found early; In, Out. -/
set_option linter.unusedVariables false
set_option maxRecDepth 20000
set_option linter.unusedSimpArgs false
set_option linter.unnecessarySimpa false
namespace Go.Proofs.Nt
open Go Go.Proofs Go.Proofs.Va Go.RowKit

def earlyE (b : BV) (x : List Nat) (y : Nat) (more : Int) : Int :=
  if b.ok = true then (if (x.length : Int) = b.c then (if rangeOk x y = true then (if b.rows + more < 0 then 5 else if b.rows + more > 200 ∨ b.turns + b.c + 1 > 4096 then 6 else 0) else 2) else 3) else 1
theorem any_not (x : List Nat) : (x.any fun z => !inB z) = !x.all inB := by
  induction x with
  | nil => rfl
  | cons a x ih => rw [List.any_cons, List.all_cons, ih, Bool.not_and]

theorem learly_ctr (b : BV) (hb : b.fit) (xn : Bool) (x : List Nat) (xc : Option Nat) (y : Nat) (more : Int) (hx : Fl x) (hy : y < 18446744073709551616) (hm : -1 ≤ more ∧ more ≤ 1) :
    Ctr Tryz.prog 38 [b.av, .agg [fsl xn x xc, fl y], i more] (fun r => r = i (earlyE b x y more)) := by
  refine ctr_val Tryz.func38 rfl (by kernel_rfl) rfl (by simp) fun K hK => ?_
  have cC := lcheck_ctr b hb
  have pB : Pu b.av := by unfold BV.av LV.av; exact pu_book _ _ _ _ _ _ _ _ _
  unfold earlyE at hK
  have hbo : b.ok = bookOk b.c b.N.l b.I.l b.rows b.turns := rfl
  have hav : b.av = .agg [.v (.int .i64 b.c), b.N.av, b.I.av, .v (.int .i64 b.rows), .v (.int .i64 b.turns)] := rfl
  have hcb : cellsOf b.av = some [.v (.int .i64 b.c), b.N.av, b.I.av, .v (.int .i64 b.rows), .v (.int .i64 b.turns)] := rfl
  have hag : AV.agg [.v (.int .i64 b.c), b.N.av, b.I.av, .v (.int .i64 b.rows), .v (.int .i64 b.turns)] = b.av := rfl
  simp [Tryz.f38, hcb, hag, cells_g2, -cellsOf]
  refine acall_by cC (pu_av1 pB) ?_
  rintro _ rfl
  by_cases a0 : b.ok = true
  case neg =>
    rw [if_neg a0] at hK
    rw [Bool.not_eq_true] at a0
    simp [a0]
    exact hK _
  rw [if_pos a0] at hK
  rw [hbo] at a0
  obtain ⟨n, hn, h1, h6, _, _, hr, ht, _⟩ := bookOk_nat a0
  rw [← hbo] at a0
  simp [a0]
  by_cases a1 : (x.length : Int) = b.c
  case neg =>
    rw [if_neg a1] at hK
    simp [a1]
    exact hK _
  rw [if_pos a1] at hK
  have cO := contains_ctr (l := x) xn xc (fun z => !inB z) 29 (by omega) fun z hz => lout_ctr (hx z hz)
  rw [any_not] at cO
  simp [a1]
  refine acall_by cO (by simp) ?_
  rintro _ rfl
  unfold rangeOk at hK
  by_cases a2 : x.all inB = true
  case neg =>
    rw [Bool.not_eq_true] at a2
    rw [a2] at hK ⊢
    simp at hK
    simp
    exact hK _
  rw [a2] at hK ⊢
  simp
  refine acall_by (lout_ctr hy) (by simp) ?_
  rintro _ rfl
  by_cases a3 : inB y = true
  case neg =>
    rw [Bool.not_eq_true] at a3
    rw [a3] at hK ⊢
    simp at hK
    simp
    exact hK _
  rw [a3] at hK ⊢
  have w1 : IntKind.i64.wrap (b.rows + more) = b.rows + more := w64 _ (by omega) (by omega)
  have w2 : IntKind.i64.wrap (b.turns + b.c) = b.turns + b.c := w64 _ (by omega) (by omega)
  have w3 : IntKind.i64.wrap (b.turns + b.c + 1) = b.turns + b.c + 1 := w64 _ (by omega) (by omega)
  simp [w1]
  by_cases a4 : b.rows + more < 0
  · simp [a4] at hK
    simp [a4]
    exact hK _
  by_cases a5 : 200 < b.rows + more
  · have a5n : ¬ b.rows + more ≤ 200 := by omega
    simp [a4, a5] at hK
    simp [a4, a5, a5n]
    exact hK _
  have a5' : b.rows + more ≤ 200 := by omega
  by_cases a6 : 4096 < b.turns + b.c + 1
  · have a6n : ¬ b.turns + b.c + 1 ≤ 4096 := by omega
    simp [a4, a5, a6] at hK
    simp [a4, a5, a5', a6n, w2, w3, a6]
    exact hK _
  have a6' : b.turns + b.c + 1 ≤ 4096 := by omega
  simp [a4, a5, a6] at hK
  simp [a4, a5, a5', a6', w2, w3, a6]
  exact hK _
end Go.Proofs.Nt
/- Lists of dyads that are cloned. -/
set_option linter.unusedVariables false
set_option maxRecDepth 20000
set_option linter.unusedSimpArgs false
set_option linter.unnecessarySimpa false
namespace Go.Proofs.Nt
open Go Go.Proofs Go.Proofs.Va Go.RowKit

@[simp] theorem isSDl : isSliceT Tryz.prog 27 = true := by kernel_rfl
theorem cloneD_call {σ : AHeap} {nl : Bool} {a : List DV} {cap : Option Nat} {K : AV → AHeap → Prop} (ha : a.length ≤ 1000000) (h0 : a ≠ [])
    (hK : ∀ c more, K (.so (σ.length + 1) 0 0 a.length 3 (some c)) (σ ++ ([⟨.own, 0, []⟩, ⟨.own, 0, dcs a ++ more⟩] : AHeap))) : ACall Tryz.prog 20 [dsl nl a cap] σ K := by
  refine acall_in Tryz.func20 rfl (by kernel_rfl) rfl ?_
  have hp : 0 < a.length := List.length_pos_iff.2 h0
  have hlen := dcs_len a
  have hne : (nl && a.isEmpty) = false := by cases a with | nil => exact absurd rfl h0 | cons x a => simp
  have hds : dsl nl a cap = .pl false (dcs a) a.length cap := by unfold dsl; rw [hne]
  rw [hds]
  simp [Tryz.f20, h0, hlen]
  exact ⟨by omega, fun c' _ => hK c' _⟩
theorem pur_dm {σ : AHeap} {S : Nat → Prop} {j v : Nat} {l : List DV} {more : List AV} {cap : Option Nat} (hb : σ[j]? = some ⟨.own, v, dcs l ++ more⟩) (hS : S j) : Pur σ S (.so j v 0 l.length 3 cap) (dsl false l cap) := by
  have hl := dcs_len l
  refine .so j v 0 l.length 3 cap _ (dcs l) hb rfl (fun h => by cases h) hS ?_ (dcs_len l) fun q hq => ?_
  · show 0 + l.length * 3 ≤ (dcs l ++ more).length
    rw [List.length_append]; omega
  · rw [Nat.zero_add]
    have e : (dcs l ++ more).getD q .any = (dcs l).getD q .any := by
      rw [List.getD_eq_getElem?_getD, List.getElem?_append_left hq, ← List.getD_eq_getElem?_getD]
    show Pur σ S ((dcs l ++ more).getD q .any) _
    rw [e]
    exact getD_dcs l hq σ S
theorem cloneD_ctr (nl : Bool) (a : List DV) (cap : Option Nat) (ha : a.length ≤ 1000000) : Ctr Tryz.prog 20 [dsl nl a cap] (fun r => ∃ nl' cap', r = dsl nl' a cap') := by
  by_cases h0 : a = []
  · subst h0
    refine ctr_in Tryz.func20 rfl (by kernel_rfl) rfl fun K hK => ?_
    have hds : dsl nl [] cap = .pl nl [] 0 cap := by unfold dsl; simp [dcs]
    rw [hds]
    cases nl
    · simp [Tryz.f20]
      exact hK _ _ _ (pur_ds (k := .own) (l := []) (v := 1) (by simp [dcs]) (by decide) rfl (by simp)) ⟨false, none, rfl⟩
    · simp [Tryz.f20]
      exact hK _ _ _ (.same _ (by simp)) ⟨true, some 0, rfl⟩
  · refine ctr_of (cloneD_call ha h0 fun c more => ⟨dsl false a (some c), pur_dm (more := more) (by simp) trivial, false, some c, rfl⟩)
end Go.Proofs.Nt
/- Books: In, Out. -/
set_option linter.unusedVariables false
set_option maxRecDepth 20000
set_option linter.unusedSimpArgs false
set_option linter.unnecessarySimpa false
namespace Go.Proofs.Nt
open Go Go.Proofs Go.Proofs.Va Go.RowKit

/-- Dyads of few digits, in a book. -/
def BV.bnd (b : BV) (H : Int) : Prop := (∀ d ∈ b.N.l, Bd (-9000) H d.m) ∧ ∀ d ∈ b.I.l, Bd (-9000) H d.m
theorem book_okl {l : List DV} {H : Int} (hd : LenOk l) (hb : ∀ d ∈ l, Bd (-9000) H d.m) : Okl (-9000) H (l.map DV.m) := by
  intro d h
  obtain ⟨x, hx, rfl⟩ := List.mem_map.1 h
  exact ⟨ok_may (hd x hx).1, hb x hx⟩
theorem early_in (b : BV) (x : List Nat) (y : Nat) : earlyE b x y 1 = inE b.c b.N.l b.I.l b.rows b.turns x y := by
  unfold earlyE inE
  show (if bookOk b.c b.N.l b.I.l b.rows b.turns = true then _ else _) = _
  by_cases h : bookOk b.c b.N.l b.I.l b.rows b.turns = true
  · obtain ⟨n, _, _, _, _, _, hr, _⟩ := bookOk_nat h
    rw [if_pos h, if_pos h]
    have : ¬ b.rows + 1 < 0 := by omega
    simp only [if_neg this]
  · rw [if_neg h, if_neg h]
theorem early_out (b : BV) (x : List Nat) (y : Nat) : earlyE b x y (-1) = outE b.c b.N.l b.I.l b.rows b.turns x y := by
  unfold earlyE outE
  show (if bookOk b.c b.N.l b.I.l b.rows b.turns = true then _ else _) = _
  by_cases h : bookOk b.c b.N.l b.I.l b.rows b.turns = true
  · obtain ⟨n, _, _, _, _, _, hr, _⟩ := bookOk_nat h
    rw [if_pos h, if_pos h]
    by_cases h0 : b.rows = 0
    · have : b.rows + -1 < 0 := by omega
      simp only [if_pos this, if_pos h0]
    · have h1 : ¬ b.rows + -1 < 0 := by omega
      have h2 : (b.rows + -1 > 200 ∨ b.turns + b.c + 1 > 4096) ↔ b.turns + b.c + 1 > 4096 := by
        constructor
        · rintro (h | h)
          · omega
          · exact h
        · exact .inr
      simp only [if_neg h1, if_neg h0, h2]
  · rw [if_neg h, if_neg h]
/-- What holds where a row may come in, or go out. -/
theorem early_ok {b : BV} {x : List Nat} {y : Nat} {more : Int} (h : earlyE b x y more = 0) : b.ok = true ∧ (x.length : Int) = b.c ∧ rangeOk x y = true ∧ 0 ≤ b.rows + more ∧ b.rows + more ≤ 200 ∧ b.turns + b.c + 1 ≤ 4096 := by
  unfold earlyE at h
  by_cases a0 : b.ok = true
  · rw [if_pos a0] at h
    by_cases a1 : (x.length : Int) = b.c
    · rw [if_pos a1] at h
      by_cases a2 : rangeOk x y = true
      · rw [if_pos a2] at h
        by_cases a3 : b.rows + more < 0
        · rw [if_pos a3] at h; cases h
        · rw [if_neg a3] at h
          by_cases a4 : b.rows + more > 200 ∨ b.turns + b.c + 1 > 4096
          · rw [if_pos a4] at h; cases h
          · exact ⟨a0, a1, a2, by omega, by omega, by omega⟩
      · rw [if_neg a2] at h; cases h
    · rw [if_neg a1] at h; cases h
  · rw [if_neg a0] at h; cases h

theorem okl_wide {L H L' H' : Int} {G : List Dy} (h : Okl L H G) (hL : L' ≤ L) (hH : H ≤ H') : Okl L' H' G := fun d hd => ⟨(h d hd).1, (h d hd).2.mono hL hH⟩
theorem told_okl {G1 G2 : List Dy} {c rows turns e : Int} {us vs : List DV} {n1 n2 : Bool} {c1 c2 : Option Nat} {L H : Int} (h1 : us.map DV.d = G1) (h2 : vs.map DV.d = G2) (o1 : Okl L H G1) (o2 : Okl L H G2) (hk : H - L ≤ 28800) (l1 : G1.length ≤ 100000) (l2 : G2.length ≤ 100000) :
    toldB ⟨c, G1, G2, rows, turns⟩ e (.tup [.agg [i c, dsl n1 us c1, dsl n2 vs c2, i rows, i turns], i e]) :=
  ⟨us, n1, c1, vs, n2, c2, rfl, h1, h2, (okl_us h1 o1 hk).1, (okl_us h2 o2 hk).1, by rw [us_len h1]; exact l1, by rw [us_len h2]; exact l2⟩

theorem pu_told {c r t e : Int} {n1 n2 : Bool} {l1 l2 : List DV} {c1 c2 : Option Nat} : Pu (.tup [.agg [.v (.int .i64 c), dsl n1 l1 c1, dsl n2 l2 c2, .v (.int .i64 r), .v (.int .i64 t)], .v (.int .i64 e)]) := by
  refine pu_tup ?_
  intro z hz
  simp only [List.mem_cons, List.not_mem_nil, or_false] at hz
  rcases hz with rfl | rfl
  · exact pu_book _ _ _ _ _ _ _ _ _
  · exact .v _
theorem pz_told (e : Int) : Pu (.tup [.agg [.v (.int .i64 0), .pl true [] 0 (some 0), .pl true [] 0 (some 0), .v (.int .i64 0), .v (.int .i64 0)], .v (.int .i64 e)]) := pu_told (n1 := true) (l1 := []) (n2 := true) (l2 := [])
theorem cells_nil : cellsOf (.pl true [] 0 (some 0)) = some [.pl true [] 0 (some 0)] := (rfl)
/-- What holds of a book that may be, and a row of it. -/
theorem ok_facts {c : Int} {N I : List DV} {rows turns : Int} {x : List Nat} {y : Nat} {H : Int} (h : bookOk c N I rows turns = true) (hx : (x.length : Int) = c) (hr : rangeOk x y = true) (hN : LenOk N) (hI : LenOk I) (bN : ∀ d ∈ N, Bd (-9000) H d.m) (bI : ∀ d ∈ I, Bd (-9000) H d.m) :
    ∃ n : Nat, c = n ∧ 1 ≤ n ∧ n ≤ 6 ∧ x.length = n ∧ N.length = sizeN n ∧ I.length = sizeN n ∧ rowQ x y = true ∧ (rowG x y).length = sizeN n ∧ N.map DV.m = N.map DV.d ∧ I.map DV.m = I.map DV.d ∧ Okl (-9000) H (N.map DV.d) ∧ Okl (-9000) H (I.map DV.d) ∧ (0 ≤ rows ∧ rows ≤ 200) ∧ (0 ≤ turns ∧ turns ≤ 4096) ∧ sizeN n ≤ 28 := by
  obtain ⟨n, rfl, h1, h6, h2, h3, h4, h5, h7, h8⟩ := bookOk_nat h
  have e1 := okl_ok h7
  have e2 := okl_ok h8
  have o1 := book_okl hN bN
  have o2 := book_okl hI bI
  rw [e1] at o1
  rw [e2] at o2
  have hxn : x.length = n := by omega
  refine ⟨n, rfl, h1, h6, hxn, h2, h3, range_fin hr h1 h6 hxn, ?_, e1, e2, o1, o2, h4, h5, (size_le h6).1⟩
  rw [row_len (by omega), hxn]; rfl

set_option maxHeartbeats 1000000 in
theorem lin_ctr (b : BV) (hb : b.fit) {H : Int} (hB : b.bnd H) (hH : 2048 ≤ H ∧ H ≤ 9500) (xn : Bool) (x : List Nat) (xc : Option Nat) (y : Nat) (hx : Fl x) (hy : y < 18446744073709551616) :
    Ctr Tryz.prog 12 [b.av, .agg [fsl xn x xc, fl y]] (toldB (inR b.c b.N.l b.I.l b.rows b.turns x y) (inE b.c b.N.l b.I.l b.rows b.turns x y)) := by
  refine ctr_in Tryz.func12 rfl (by kernel_rfl) rfl fun K hK => ?_
  have cE := learly_ctr b hb xn x xc y 1 hx hy (by decide)
  have hE := early_in b x y
  have hO := @early_ok b x y 1
  unfold inR at hK
  rw [← hE] at hK
  generalize earlyE b x y 1 = e at *
  have cR := grow_ctr xn x xc y hx hy
  obtain ⟨c, ⟨nn, N, nc⟩, ⟨ni, I, ic⟩, rows, turns⟩ := b
  obtain ⟨hN, hI, lN, lI⟩ := hb
  obtain ⟨bN, bI⟩ := hB
  simp only [BV.av, LV.av] at *
  have pB := pu_book c rows turns nn ni N I nc ic
  have pR : Pu (.agg [fsl xn x xc, .v (.float .f64 y)]) := pu_agg (by simp)
  have p3 : ∀ z ∈ [AV.agg [.v (.int .i64 c), dsl nn N nc, dsl ni I ic, .v (.int .i64 rows), .v (.int .i64 turns)], AV.agg [fsl xn x xc, .v (.float .f64 y)], .v (.int .i64 1)], Pu z := by
    intro z hz
    simp only [List.mem_cons, List.not_mem_nil, or_false] at hz
    rcases hz with rfl | rfl | rfl
    · exact pB
    · exact pR
    · exact .v _
  simp [Tryz.f12, cells_g5, cells_g2, -cellsOf]
  refine acall_by cE p3 ?_
  rintro _ rfl
  by_cases he : e = 0
  case neg =>
    rw [if_neg he] at hK
    simp [he, cells_nil, cells_g5, cells_int, wr, -cellsOf]
    exact hK _ _ _ (.same _ (pz_told e)) (told_err e)
  rw [if_pos he] at hK
  obtain ⟨a0, a1, a2, a3, a4, a5⟩ := hO he
  clear hO cE hE
  subst he
  change bookOk c N I rows turns = true at a0
  change (x.length : Int) = c at a1
  change 0 ≤ rows + 1 at a3
  change rows + 1 ≤ 200 at a4
  change turns + c + 1 ≤ 4096 at a5
  obtain ⟨n, rfl, h1, h6, hxn, sN, sI, hq, hgl, mN, mI, oN, oI, hr, ht, hsz⟩ := ok_facts (c := c) (N := N) (I := I) (rows := rows) (turns := turns) a0 a1 a2 hN hI bN bI
  unfold rowP at cR
  simp only [if_pos hq] at cR
  have w1 : IntKind.i64.wrap (rows + 1) = rows + 1 := w64 _ (by omega) (by omega)
  have w2 : IntKind.i64.wrap ((n : Int) + 1) = (n : Int) + 1 := w64 _ (by omega) (by omega)
  have w3 : IntKind.i64.wrap (turns + ((n : Int) + 1)) = turns + n + 1 := by rw [w64 _ (by omega) (by omega)]; omega
  simp [cells_g5, cells_g2, -cellsOf]
  refine acall_by cR (pu_av1 pR) ?_
  rintro _ ⟨os, n2, c2, hos, rfl⟩
  obtain ⟨lo, mo⟩ := okl_us hos (okl_row x y) (by omega)
  have hol := us_len hos
  have cN := gadd_ctr nn nc n2 c2 (a := N) (b := os) lN hN lo
  have cI := gadd_ctr ni ic n2 c2 (a := I) (b := os) lI hI lo
  unfold joinP at cN cI
  simp only [if_pos (show N.length = os.length by omega), mN, mo] at cN
  simp only [if_pos (show I.length = os.length by omega), mI, mo] at cI
  simp [cells_g5, cells_dsl, cells_int, wr, -cellsOf]
  refine acall_in Tryz.func32 rfl (by kernel_rfl) rfl ?_
  simp [Tryz.f32, cells_g5, cells_dsl, cells_int, wr, -cellsOf]
  refine acall_in Tryz.func40 rfl (by kernel_rfl) rfl ?_
  simp [Tryz.f40, cells_g5, cells_dsl, cells_int, wr, -cellsOf]
  refine acall_by cN (by simp) ?_
  rintro _ ⟨us, c3, hus, rfl⟩
  simp [cells_g5, cells_dsl, cells_int, wr, -cellsOf]
  refine acall_in Tryz.func40 rfl (by kernel_rfl) rfl ?_
  simp [Tryz.f40, cells_g5, cells_dsl, cells_int, wr, -cellsOf]
  refine acall_by cI (by simp) ?_
  rintro _ ⟨vs, c4, hvs, rfl⟩
  simp [cells_g5, cells_dsl, cells_int, wr, w1, w2, w3, -cellsOf]
  refine hK _ _ _ (.same _ pu_told) (told_okl hus hvs (okl_zadd oN (okl_wide (okl_row x y) (by omega) (by omega)) (by omega)) (okl_zadd oI (okl_wide (okl_row x y) (by omega) (by omega)) (by omega)) (by omega) ?_ ?_)
  · simp [addL, sN, hgl]; omega
  · simp [addL, sI, hgl]; omega
end Go.Proofs.Nt
/- Books: New, Of, Same, Small. -/
set_option linter.unusedVariables false
set_option maxRecDepth 20000
set_option linter.unusedSimpArgs false
set_option linter.unnecessarySimpa false
namespace Go.Proofs.Nt
open Go Go.Proofs Go.Proofs.Va Go.RowKit

set_option maxHeartbeats 1000000 in
theorem lout2_ctr (b : BV) (hb : b.fit) {H : Int} (hB : b.bnd H) (hH : 2048 ≤ H ∧ H ≤ 9500) (xn : Bool) (x : List Nat) (xc : Option Nat) (y : Nat) (hx : Fl x) (hy : y < 18446744073709551616) :
    Ctr Tryz.prog 13 [b.av, .agg [fsl xn x xc, fl y]] (toldB (outR b.c b.N.l b.I.l b.rows b.turns x y) (outE b.c b.N.l b.I.l b.rows b.turns x y)) := by
  refine ctr_in Tryz.func13 rfl (by kernel_rfl) rfl fun K hK => ?_
  have cE := learly_ctr b hb xn x xc y (-1) hx hy (by decide)
  have hE := early_out b x y
  have hO := @early_ok b x y (-1)
  unfold outR at hK
  rw [← hE] at hK
  generalize earlyE b x y (-1) = e at *
  have cR := grow_ctr xn x xc y hx hy
  obtain ⟨c, ⟨nn, N, nc⟩, ⟨ni, I, ic⟩, rows, turns⟩ := b
  obtain ⟨hN, hI, lN, lI⟩ := hb
  obtain ⟨bN, bI⟩ := hB
  simp only [BV.av, LV.av] at *
  have pB := pu_book c rows turns nn ni N I nc ic
  have pR : Pu (.agg [fsl xn x xc, .v (.float .f64 y)]) := pu_agg (by simp)
  have p3 : ∀ z ∈ [AV.agg [.v (.int .i64 c), dsl nn N nc, dsl ni I ic, .v (.int .i64 rows), .v (.int .i64 turns)], AV.agg [fsl xn x xc, .v (.float .f64 y)], .v (.int .i64 (-1))], Pu z := by
    intro z hz
    simp only [List.mem_cons, List.not_mem_nil, or_false] at hz
    rcases hz with rfl | rfl | rfl
    · exact pB
    · exact pR
    · exact .v _
  simp [Tryz.f13, cells_g5, cells_g2, -cellsOf]
  refine acall_by cE p3 ?_
  rintro _ rfl
  by_cases he : e = 0
  case neg =>
    rw [if_neg he] at hK
    simp [he, cells_nil, cells_g5, cells_int, wr, -cellsOf]
    exact hK _ _ _ (.same _ (pz_told e)) (told_err e)
  rw [if_pos he] at hK
  obtain ⟨a0, a1, a2, a3, a4, a5⟩ := hO he
  clear hO cE hE
  subst he
  change bookOk c N I rows turns = true at a0
  change (x.length : Int) = c at a1
  change 0 ≤ rows + -1 at a3
  change rows + -1 ≤ 200 at a4
  change turns + c + 1 ≤ 4096 at a5
  obtain ⟨n, rfl, h1, h6, hxn, sN, sI, hq, hgl, mN, mI, oN, oI, hr, ht, hsz⟩ := ok_facts (c := c) (N := N) (I := I) (rows := rows) (turns := turns) a0 a1 a2 hN hI bN bI
  unfold rowP at cR
  simp only [if_pos hq] at cR
  have w1 : IntKind.i64.wrap (rows - 1) = rows - 1 := w64 _ (by omega) (by omega)
  have w2 : IntKind.i64.wrap ((n : Int) + 1) = (n : Int) + 1 := w64 _ (by omega) (by omega)
  have w3 : IntKind.i64.wrap (turns + ((n : Int) + 1)) = turns + n + 1 := by rw [w64 _ (by omega) (by omega)]; omega
  simp [cells_g5, cells_g2, -cellsOf]
  refine acall_by cR (pu_av1 pR) ?_
  rintro _ ⟨os, n2, c2, hos, rfl⟩
  obtain ⟨lo, mo⟩ := okl_us hos (okl_row x y) (by omega)
  have hol := us_len hos
  have cN := gsub_ctr nn nc n2 c2 (a := N) (b := os) lN hN lo
  unfold joinP at cN
  simp only [if_pos (show N.length = os.length by omega), mN, mo] at cN
  simp [cells_g5, cells_dsl, cells_int, wr, -cellsOf]
  refine acall_by cN (by simp) ?_
  rintro _ ⟨us, c3, hus, rfl⟩
  simp [cells_g5, cells_dsl, cells_int, wr, -cellsOf]
  refine acall_by (cloneD_ctr ni I ic (by omega)) (by simp) ?_
  rintro _ ⟨n4, c4, rfl⟩
  simp [cells_g5, cells_dsl, cells_int, wr, w1, w2, w3, -cellsOf]
  refine hK _ _ _ (.same _ pu_told) (told_okl (H := H + 1) (L := -9000) hus rfl (okl_zsub oN (okl_wide (okl_row x y) (by omega) (by omega)) (by omega)) (okl_wide oI (by omega) (by omega)) (by omega) ?_ ?_)
  · simp [subL, sN, hgl]; omega
  · simp [sI]; omega

def newE (c : Int) : Int := if sizeI c = 0 then 1 else 0
def newR (c : Int) : BD := if sizeI c = 0 then BD.zero else ⟨c, zerosL (sizeI c).toNat, zerosL (sizeI c).toNat, 0, 0⟩
theorem zeros_ok (k : Nat) : LenOk (List.replicate k zDV) := fun d hd => by
  rw [List.eq_of_mem_replicate hd]
  exact ⟨dig_nil, by decide⟩
theorem size_28 (c : Int) : (sizeI c).toNat ≤ 28 := by
  by_cases h : 1 ≤ c ∧ c ≤ 6
  · have := (size_facts (c := c) h).2.2; omega
  · have : sizeI c = 0 := if_neg h
    omega
theorem lnew_ctr (c : Int) : Ctr Tryz.prog 11 [i c] (toldB (newR c) (newE c)) := by
  refine ctr_in Tryz.func11 rfl (by kernel_rfl) rfl fun K hK => ?_
  simp [Tryz.f11]
  refine acall_by (size_ctr c) (by simp) ?_
  rintro _ rfl
  unfold newR newE at hK
  by_cases a1 : sizeI c = 0
  · rw [if_pos a1, if_pos a1] at hK
    have hz : cellsOf (.pl true [] 0 (some 0)) = some [.pl true [] 0 (some 0)] := rfl
    simp [a1, hz, cells_g5, cells_int, wr, -cellsOf]
    exact hK _ _ _ (.same _ (pu_told (n1 := true) (l1 := []) (n2 := true) (l2 := []))) (told_err 1)
  rw [if_neg a1, if_neg a1] at hK
  simp [a1]
  refine acall_by (gzero_ctr c) (by simp) ?_
  rintro _ ⟨c1, rfl⟩
  simp
  refine acall_by (gzero_ctr c) (by simp) ?_
  rintro _ ⟨c2, rfl⟩
  simp [cells_dsl, cells_g5, cells_int, wr, -cellsOf]
  have hz := size_28 c
  exact hK _ _ _ (.same _ pu_told) ⟨_, false, c1, _, false, c2, rfl, zero_d _, zero_d _, zeros_ok _, zeros_ok _, by simp; omega, by simp; omega⟩

theorem rlsame_ctr {B : BD} {us vs us' vs' : List DV} (n1 : Bool) (c1 : Option Nat) (n2 : Bool) (c2 : Option Nat) (n1' : Bool) (c1' : Option Nat) (n2' : Bool) (c2' : Option Nat)
    (h1 : us.map DV.d = B.N) (h2 : vs.map DV.d = B.I) (h1' : us'.map DV.d = B.N) (h2' : vs'.map DV.d = B.I) (l1 : LenOk us) (l2 : LenOk vs) (k1 : us.length ≤ 100000) (k2 : vs.length ≤ 100000) :
    Ctr Tryz.prog 17 [.agg [i B.c, dsl n1 us c1, dsl n2 vs c2, i B.rows, i B.turns], .agg [i B.c, dsl n1' us' c1', dsl n2' vs' c2', i B.rows, i B.turns]] (fun r => r = bo true) := by
  refine ctr_val Tryz.func17 rfl (by kernel_rfl) rfl (by simp) fun K hK => ?_
  have s1 := same_us n1 c1 n1' c1' (h1.trans h1'.symm) l1 (lenok_d (h1'.trans h1.symm) l1) k1
  have s2 := same_us n2 c2 n2' c2' (h2.trans h2'.symm) l2 (lenok_d (h2'.trans h2.symm) l2) k2
  simp [Tryz.f17, cells_g5, -cellsOf]
  refine acall_by s1 (by simp) ?_
  rintro _ rfl
  simp
  refine acall_by s2 (by simp) ?_
  rintro _ rfl
  simp
  exact hK _
end Go.Proofs.Nt
/- Books: Fade, Join. -/
set_option linter.unusedVariables false
set_option maxRecDepth 20000
set_option linter.unusedSimpArgs false
set_option linter.unnecessarySimpa false
namespace Go.Proofs.Nt
open Go Go.Proofs Go.Proofs.Va Go.RowKit

set_option maxHeartbeats 1000000 in
theorem lfade_ctr (b : BV) (hb : b.fit) {H : Int} (hB : b.bnd H) (hH : 2048 ≤ H ∧ H ≤ 9500) (beta : Nat) (hy : beta < 18446744073709551616) :
    Ctr Tryz.prog 14 [b.av, fl beta] (toldB (fadeR b.c b.N.l b.I.l b.rows b.turns beta) (fadeE b.c b.N.l b.I.l b.rows b.turns beta)) := by
  refine ctr_in Tryz.func14 rfl (by kernel_rfl) rfl fun K hK => ?_
  have cC := lcheck_ctr b hb
  have cM := fmay_ctr hy
  have hbo : b.ok = bookOk b.c b.N.l b.I.l b.rows b.turns := rfl
  unfold fadeR fadeE at hK
  rw [← hbo] at hK
  obtain ⟨c, ⟨nn, N, nc⟩, ⟨ni, I, ic⟩, rows, turns⟩ := b
  obtain ⟨hN, hI, lN, lI⟩ := hb
  obtain ⟨bN, bI⟩ := hB
  simp only [BV.av, LV.av] at *
  have pB := pu_book c rows turns nn ni N I nc ic
  have hz : cellsOf (.pl true [] 0 (some 0)) = some [.pl true [] 0 (some 0)] := rfl
  have pz : ∀ e : Int, Pu (.tup [.agg [.v (.int .i64 0), .pl true [] 0 (some 0), .pl true [] 0 (some 0), .v (.int .i64 0), .v (.int .i64 0)], .v (.int .i64 e)]) := fun e => pu_told (n1 := true) (l1 := []) (n2 := true) (l2 := [])
  simp [Tryz.f14, cells_g5, cells_vf, -cellsOf]
  refine acall_by cC (pu_av1 pB) ?_
  rintro _ rfl
  generalize hq : BV.ok ⟨c, ⟨nn, N, nc⟩, ⟨ni, I, ic⟩, rows, turns⟩ = q at *
  cases q
  · simp only [Bool.false_eq_true, if_false] at hK
    simp [hz, cells_g5, cells_int, wr, -cellsOf]
    exact hK _ _ _ (.same _ (pz 1)) (told_err 1)
  simp
  refine acall_by cM (by simp) ?_
  rintro _ rfl
  by_cases a1 : mayB beta = true
  case neg =>
    rw [Bool.not_eq_true] at a1
    rw [a1] at hK ⊢
    simp at hK
    simp [hz, cells_g5, cells_int, wr, -cellsOf]
    exact hK _ _ _ (.same _ (pz 12)) (told_err 12)
  rw [a1] at hK ⊢
  by_cases a2 : turns = 4096
  · simp [a2] at hK
    simp [a2, hz, cells_g5, cells_int, wr, -cellsOf]
    exact hK _ _ _ (.same _ (pz 6)) (told_err 6)
  simp [a2] at hK
  simp [a2]
  obtain ⟨n, rfl, h1, h6, sN, sI, hr, ht, kN, kI⟩ := bookOk_nat hbo.symm
  have mN := okl_ok kN
  have mI := okl_ok kI
  have oN := book_okl hN bN
  have oI := book_okl hI bI
  have w1 : IntKind.i64.wrap (turns + 1) = turns + 1 := w64 _ (by omega) (by omega)
  have cN := gfade_ctr nn nc (a := N) hy lN hN oN (by omega)
  have cI := gfade_ctr ni ic (a := I) hy lI hI oI (by omega)
  refine acall_in Tryz.func32 rfl (by kernel_rfl) rfl ?_
  simp [Tryz.f32, cells_g5, cells_dsl, cells_int, wr, -cellsOf]
  refine acall_in Tryz.func43 rfl (by kernel_rfl) rfl ?_
  simp [Tryz.f43, cells_g5, cells_dsl, cells_int, wr, -cellsOf]
  refine acall_by cN (by simp) ?_
  intro r hrr
  obtain ⟨us, n3, c3, rfl, hus, l3, k3⟩ := told_fade hrr oN (by omega) (by simpa using lN)
  clear hrr
  simp [cells_g5, cells_dsl, cells_int, wr, -cellsOf]
  refine acall_in Tryz.func43 rfl (by kernel_rfl) rfl ?_
  simp [Tryz.f43, cells_g5, cells_dsl, cells_int, wr, -cellsOf]
  refine acall_by cI (by simp) ?_
  intro r hrr
  obtain ⟨vs, n4, c4, rfl, hvs, l4, k4⟩ := told_fade hrr oI (by omega) (by simpa using lI)
  clear hrr
  rw [mN] at hus
  rw [mI] at hvs
  simp [cells_g5, cells_dsl, cells_int, wr, w1, -cellsOf]
  exact hK _ _ _ (.same _ pu_told) ⟨us, n3, c3, vs, n4, c4, rfl, hus, hvs, l3, l4, k3, k4⟩
section
open Go.Proofs.Va
variable {P : Program} {N0 : Nat} {t : List AV} {σ : AHeap} {S : AV → AHeap → Prop} {x y : Operand}
@[simp ↓] theorem gop_1_max {ts : Array TypeId} : gop P N0 1 (.call { callee := .builtin .max, args := #[x, y], argTypes := ts }) t σ S = ((scA N0 (ev t x) ∧ scA N0 (ev t y)) ∧ aop P (.call { callee := .builtin .max, args := #[x, y], argTypes := ts }) t σ (LkC true fun r _ => S r σ)) := by rw [gop_1]; simp [Op.operands, Call.operands]
end

set_option maxHeartbeats 1000000 in
theorem ljoin_ctr (a b : BV) (ha : a.fit) (hb : b.fit) {H : Int} (hA : a.bnd H) (hB : b.bnd H) (hH : 2048 ≤ H ∧ H ≤ 9500) :
    Ctr Tryz.prog 7 [a.av, b.av] (toldB (joinBR a b) (joinE a b)) := by
  refine ctr_in Tryz.func7 rfl (by kernel_rfl) rfl fun K hK => ?_
  have cA := lcheck_ctr a ha
  have cB := lcheck_ctr b hb
  have hao : a.ok = bookOk a.c a.N.l a.I.l a.rows a.turns := rfl
  have hbo : b.ok = bookOk b.c b.N.l b.I.l b.rows b.turns := rfl
  unfold joinBR joinE at hK
  obtain ⟨c, ⟨nn, N, nc⟩, ⟨ni, I, ic⟩, rows, turns⟩ := a
  obtain ⟨c', ⟨nn', N', nc'⟩, ⟨ni', I', ic'⟩, rows', turns'⟩ := b
  obtain ⟨hN, hI, lN, lI⟩ := ha
  obtain ⟨bN, bI⟩ := hA
  obtain ⟨hN', hI', lN', lI'⟩ := hb
  obtain ⟨bN', bI'⟩ := hB
  simp only [BV.av, LV.av] at *
  have pA := pu_book c rows turns nn ni N I nc ic
  have pB := pu_book c' rows' turns' nn' ni' N' I' nc' ic'
  simp [Tryz.f7, cells_g5, -cellsOf]
  refine acall_by cA (pu_av1 pA) ?_
  rintro _ rfl
  generalize hq : BV.ok ⟨c, ⟨nn, N, nc⟩, ⟨ni, I, ic⟩, rows, turns⟩ = q at *
  cases q
  · simp only [Bool.false_and, Bool.false_eq_true, if_false] at hK
    simp [cells_nil, cells_g5, cells_int, wr, -cellsOf]
    exact hK _ _ _ (.same _ (pz_told 1)) (told_err 1)
  simp
  refine acall_by cB (pu_av1 pB) ?_
  rintro _ rfl
  generalize hq' : BV.ok ⟨c', ⟨nn', N', nc'⟩, ⟨ni', I', ic'⟩, rows', turns'⟩ = q' at *
  cases q'
  · simp only [Bool.and_false, Bool.false_eq_true, if_false] at hK
    simp [cells_nil, cells_g5, cells_int, wr, -cellsOf]
    exact hK _ _ _ (.same _ (pz_told 1)) (told_err 1)
  by_cases a1 : c = c'
  case neg =>
    simp [a1] at hK
    simp [a1, cells_nil, cells_g5, cells_int, wr, -cellsOf]
    exact hK _ _ _ (.same _ (pz_told 3)) (told_err 3)
  subst a1
  obtain ⟨n, rfl, h1, h6, sN, sI, hr, ht, kN, kI⟩ := bookOk_nat hao.symm
  obtain ⟨n', e', _, _, sN', sI', hr', ht', kN', kI'⟩ := bookOk_nat hbo.symm
  obtain rfl : n = n' := by omega
  have hsz : sizeI (n : Int) = (sizeN n : Int) := by unfold sizeI; rw [if_pos (by omega)]; rfl
  have hsl := size_le h6
  have w1 : IntKind.i64.wrap (rows + rows') = rows + rows' := w64 _ (by omega) (by omega)
  have w2 : IntKind.i64.wrap (max turns turns' + sizeI n) = max turns turns' + sizeI n := w64 _ (by omega) (by omega)
  simp [w1, cells_g5, cells_int, wr, -cellsOf]
  refine draw_at [1, 1, 1, 1, 1, 1, 1, 3, 0, 1, 4] orders (by kernel_rfl) ?_
  simp [w1, w2, cells_g5, cells_int, wr, -cellsOf]
  refine acall_by (cost_ctr n) (by simp) ?_
  rintro _ rfl
  have hmx : (if turns < turns' then turns' else turns) = max turns turns' := by split <;> omega
  by_cases b1 : 200 < rows + rows'
  · simp [b1] at hK
    simp [b1, w1, w2, hmx, cells_nil, cells_g5, cells_int, wr, -cellsOf]
    exact hK _ _ _ (.same _ (pz_told 6)) (told_err 6)
  by_cases b2 : 4096 < max turns turns' + sizeI n
  · simp [b1, b2] at hK
    simp [b1, b2, w1, w2, hmx, cells_nil, cells_g5, cells_int, wr, -cellsOf]
    exact hK _ _ _ (.same _ (pz_told 6)) (told_err 6)
  simp [b1, b2] at hK
  have cN := gadd_ctr nn nc nn' nc' (a := N) (b := N') lN hN hN'
  have cI := gadd_ctr ni ic ni' ic' (a := I) (b := I') lI hI hI'
  unfold joinP at cN cI
  simp only [if_pos (show N.length = N'.length by omega), okl_ok kN, okl_ok kN'] at cN
  simp only [if_pos (show I.length = I'.length by omega), okl_ok kI, okl_ok kI'] at cI
  have oN := book_okl hN bN
  have oI := book_okl hI bI
  have oN' := book_okl hN' bN'
  have oI' := book_okl hI' bI'
  rw [okl_ok kN] at oN
  rw [okl_ok kI] at oI
  rw [okl_ok kN'] at oN'
  rw [okl_ok kI'] at oI'
  simp [b1, b2, w1, w2, hmx, cells_dsl, cells_g5, cells_int, wr, -cellsOf]
  refine acall_by cN (by simp) ?_
  rintro _ ⟨us, c3, hus, rfl⟩
  simp [cells_dsl, cells_g5, cells_int, wr, -cellsOf]
  refine acall_by cI (by simp) ?_
  rintro _ ⟨vs, c4, hvs, rfl⟩
  simp [cells_dsl, cells_g5, cells_int, wr, -cellsOf]
  refine hK _ _ _ (.same _ pu_told) (told_okl hus hvs (okl_zadd oN oN' (by omega)) (okl_zadd oI oI' (by omega)) (by omega) ?_ ?_)
  · simp [addL, sN, sN']; omega
  · simp [addL, sI, sI']; omega
end Go.Proofs.Nt
/- Books: Ridge's lists. -/
set_option linter.unusedVariables false
set_option maxRecDepth 20000
set_option linter.unusedSimpArgs false
set_option linter.unnecessarySimpa false
namespace Go.Proofs.Nt
open Go Go.Proofs Go.Proofs.Va Go.RowKit

theorem dcsm_read {l : List DV} {k : Nat} (more : List AV) (h : k < l.length) : AV.agg (((dcs l ++ more).drop (k * 3)).take 3) = (gv l k).av := by
  have hl := dcs_len l
  rw [List.drop_append_of_le_length (by omega), List.take_append_of_le_length (by rw [List.length_drop]; omega)]
  exact dcs_read h
theorem dcsm_set {l : List DV} {k : Nat} (more : List AV) (h : k < l.length) (d : DV) : wr (dcs l ++ more) (k * 3) d.cs = dcs (l.set k d) ++ more := by
  have hl := dcs_len l
  have hd : d.cs.length = 3 := rfl
  rw [wr_splice _ _ _ (by rw [List.length_append]; omega), ← dcs_set h d, wr_splice _ _ _ (by omega)]
  unfold splice
  rw [List.take_append_of_le_length (by omega), List.drop_append_of_le_length (by omega), List.append_assoc, List.append_assoc, List.append_assoc]

theorem ridge1_call {n : Nat} {l : List DV} {nl : Bool} {cap : Option Nat} {mu : Nat} {s : Dy} {p q : Nat} {σ : AHeap} {bc : List AV} {n1 : Bool} {c1 : Option Nat} {H : Int} {K : AV → AHeap → Prop} (h1 : 1 ≤ n) (hn : n ≤ 6) (hl : l.length = sizeN n) (hs : s = mulD (fromD mu) (fromD mu))
    (hd : LenOk l) (hm : l.map DV.m = l.map DV.d) (ho : Okl (-9000) H (l.map DV.d)) (hH : 2048 ≤ H ∧ H ≤ 9500) (hbc : bc[0]? = some (i n)) (hp : σ[p]? = some ⟨.own, 0, bc⟩) (hq : σ[q]? = some ⟨.own, 0, [bo s.1, sl n1 s.2.1 c1, i s.2.2]⟩)
    (hK : ∀ us c' σ' j more, us.map DV.d = ridgeL n s n (l.map DV.d) → σ.length ≤ j → σ.length ≤ σ'.length → (∀ a, a < σ.length → σ'[a]? = σ[a]?) → σ'[j]? = some ⟨.own, 0, dcs us ++ more⟩ → K (.tup [.so j 0 0 us.length 3 (some c'), bo true]) σ') :
    ACall Tryz.prog 33 [dsl nl l cap, .po p 0 0, .po q 0 0] σ K := by
  refine acall_in Tryz.func33 rfl (by kernel_rfl) rfl ?_
  have hsz := size_le hn
  have hne : l ≠ [] := by intro h; rw [h] at hl; simp at hl; omega
  simp [Tryz.f33]
  refine cloneD_call (by omega) hne fun c' more => ?_
  have hpl := (List.getElem?_eq_some_iff.1 hp).1
  simp [hp, hbc, List.getElem?_append_left hpl, -getElem?_pos]
  obtain ⟨j, hj⟩ : ∃ j, j = σ.length + 1 := ⟨_, rfl⟩
  rw [← hj]
  refine loop_on (γ := Nat × List DV × AHeap) 35 (fun g => [(0, .so j 0 0 l.length 3 (some c')), (1, .po p 0 0), (2, .po q 0 0), (12, i n), (13, i g.1)]) (fun g => g.2.2)
    (fun g => g.1 ≤ n ∧ g.2.1.length = l.length ∧ g.2.1.map DV.d = ridgeL n s g.1 (l.map DV.d) ∧ (∀ a, a < σ.length → g.2.2[a]? = σ[a]?) ∧ σ.length + 2 ≤ g.2.2.length ∧ g.2.2[j]? = some ⟨.own, 0, dcs g.2.1 ++ more⟩) (fun g => n - g.1)
    (0, l, _) ⟨Nat.zero_le _, rfl, rfl, fun a ha => by rw [List.getElem?_append_left ha], by simp, by rw [hj]; simp⟩ (Wk.lst (by simp) (by simp)) ?_
  rintro ⟨g, us, τ⟩ ⟨hg, hul, hus, hτ, hτl, hτj⟩ L hL
  simp only at hg hul hus hτ hτl hτj
  have hpl := (List.getElem?_eq_some_iff.1 hp).1
  have hql := (List.getElem?_eq_some_iff.1 hq).1
  have tp : τ[p]? = some ⟨.own, 0, bc⟩ := (hτ p hpl).trans hp
  have tq : τ[q]? = some ⟨.own, 0, [bo s.1, sl n1 s.2.1 c1, i s.2.2]⟩ := (hτ q hql).trans hq
  by_cases hlt : g < n
  · have w2 : IntKind.i64.wrap ((g : Int) + 1) = ((g + 1 : Nat) : Int) := w64 _ (by omega) (by omega)
    have cA := tat_ctr (c := n) (i' := g) (j' := g) h1 hn (Nat.le_refl g) (by omega)
    obtain ⟨k1, e1⟩ := atN_lt hn (Nat.le_refl g) (show g ≤ n by omega)
    rw [← e1] at cA
    have hR : ridgeL n s (g + 1) (l.map DV.d) = diagS n g (ridgeL n s g (l.map DV.d)) s := rfl
    have oR := ridge_ok (n := n) (mu := mu) ho (by omega) hH.1 g
    rw [← hs] at oR
    obtain ⟨o1, b1⟩ := getD_ok oR (atN n g g)
    have hk : atN n g g < us.length := by omega
    have hgd : (gv us (atN n g g)).d = (ridgeL n s g (l.map DV.d)).getD (atN n g g) zeroD := map_d_get hus _ hk
    have os : dOK s := by rw [hs]; exact ok_mul _ _
    have bs : Bd (-2148) 2048 s := by
      rw [hs]
      obtain ⟨_, bp⟩ := okl_from [mu] (fromD mu) (by simp)
      exact bd_mul bp bp
    have ls : s.2.1.length ≤ 1000 := bd_len os bs (by omega)
    have hdl := us_len hus
    have hnext := fun us' τ' => hL (g + 1, us', τ')
    have hstep : ∀ n2 c2, (us.set (atN n g g) (toV (addD (gv us (atN n g g)).d s) n2 c2)).map DV.d = ridgeL n s (g + 1) (l.map DV.d) := by
      intro n2 c2
      rw [hR, List.map_set, hus, toV_d, hgd]; rfl
    rw [← hgd] at o1 b1
    have lu := bd_len o1 b1 (k := 1000) (by omega)
    have r1 := dcsm_read (l := us) more hk
    have z1 : atN n g g * 3 < (dcs us ++ more).length := by rw [List.length_append, dcs_len]; omega
    have z3 : atN n g g * 3 + 3 ≤ (dcs us ++ more).length := by rw [List.length_append, dcs_len]; omega
    have hset := fun d => dcsm_set (l := us) more hk d
    generalize hgv : gv us (atN n g g) = u at *
    obtain ⟨ug, un, ua, uc, ue⟩ := u
    have cS := fun c => addX (d := (ug, ua, ue)) (d' := s) (n := un) (c := uc) (n' := n1) (c' := c) o1 lu os ls
    have hkl : atN n g g < l.length := by omega
    have htl : j < τ.length := by omega
    change ∀ n2 c2, (us.set (atN n g g) (toV (addD (ug, ua, ue) s) n2 c2)).map DV.d = _ at hstep
    generalize addD (ug, ua, ue) s = d at *
    have hset' : ∀ n2 c2, (((dcs us ++ more).set (atN n g g * 3) (AV.v (.bool d.1))).set (atN n g g * 3 + 1) (sl n2 d.2.1 c2)).set (atN n g g * 3 + 1 + 1) (.v (.int .i64 d.2.2)) = dcs (us.set (atN n g g) (toV d n2 c2)) ++ more := fun n2 c2 => hset (toV d n2 c2)
    clear hset
    generalize dcs us ++ more = B at *
    simp [hlt, tp, hbc, -getElem?_pos]
    refine acall_by cA (by simp) ?_
    rintro _ rfl
    simp
    refine draw_at [0, 0, 0, 0, 1, 1, 1, 3, 1, 4] orders (by kernel_rfl) ?_
    simp [hkl, hτj, tq, z1, z3, r1, cells_ag, -cellsOf, -getElem?_pos]
    refine ⟨htl, by omega, ?_⟩
    refine acall_by (cS c1) (by intro z hz; simp only [List.mem_cons, List.not_mem_nil, or_false] at hz; rcases hz with rfl | rfl; exact pu_dy _ _ _ _ _; exact pu_dy _ _ _ _ _) ?_
    rintro _ ⟨n2, c2, rfl⟩
    simp [hkl, hτj, htl, z1, z3, hset', cells_dy, wr, w2, -cellsOf, -getElem?_pos, -Int.natCast_add]
    exact hnext (us.set (atN n g g) (toV d n2 c2)) (τ.set j ⟨.own, 0, dcs (us.set (atN n g g) (toV d n2 c2)) ++ more⟩) _ _ ⟨by show g + 1 ≤ n; omega, by simpa using hul, hstep n2 c2, fun a ha => by rw [List.getElem?_set_ne (by omega)]; exact hτ a ha, by rw [List.length_set]; exact hτl, List.getElem?_set_self htl⟩ (Wk.lst (by simp) (by simp; omega)) (by show n - (g + 1) < n - g; omega)
  · have hge : g = n := by omega
    subst hge
    simp
    rw [← hul]
    exact hK us c' τ j more hus (by omega) (by omega) hτ hτj

set_option maxHeartbeats 1000000 in
theorem lridge_ctr (b : BV) (hb : b.fit) {H : Int} (hB : b.bnd H) (hH : 2048 ≤ H ∧ H ≤ 9500) (mu : Nat) (hy : mu < 18446744073709551616) :
    Ctr Tryz.prog 10 [b.av, fl mu] (toldB (ridgeR b mu) (ridgeE b mu)) := by
  refine ctr_in Tryz.func10 rfl (by kernel_rfl) rfl fun K hK => ?_
  have cC := lcheck_ctr b hb
  have hbo : b.ok = bookOk b.c b.N.l b.I.l b.rows b.turns := rfl
  unfold ridgeR ridgeE BV.bd at hK
  obtain ⟨c, ⟨nn, N, nc⟩, ⟨ni, I, ic⟩, rows, turns⟩ := b
  obtain ⟨hN, hI, lN, lI⟩ := hb
  obtain ⟨bN, bI⟩ := hB
  simp only [BV.av, LV.av] at *
  have pB := pu_book c rows turns nn ni N I nc ic
  simp [Tryz.f10, cells_g5, -cellsOf]
  refine acall_by cC (pu_av1 pB) ?_
  rintro _ rfl
  generalize hq : BV.ok ⟨c, ⟨nn, N, nc⟩, ⟨ni, I, ic⟩, rows, turns⟩ = q at *
  cases q
  · simp only [Bool.false_eq_true, if_false] at hK
    simp [cells_nil, cells_g5, cells_int, wr, -cellsOf]
    exact hK _ _ _ (.same _ (pz_told 1)) (told_err 1)
  simp
  refine acall_by (lout_ctr hy) (by simp) ?_
  rintro _ rfl
  by_cases a1 : inB mu = true
  case neg =>
    rw [Bool.not_eq_true] at a1
    simp [a1] at hK
    simp [a1, cells_nil, cells_g5, cells_int, wr, -cellsOf]
    exact hK _ _ _ (.same _ (pz_told 2)) (told_err 2)
  simp [a1]
  refine acall_by (signbit_ctr hy) (by simp) ?_
  rintro _ rfl
  by_cases a2 : fsg mu = true
  · simp [a1, a2] at hK
    simp [a2, cells_nil, cells_g5, cells_int, wr, -cellsOf]
    exact hK _ _ _ (.same _ (pz_told 2)) (told_err 2)
  rw [Bool.not_eq_true] at a2
  have hez := eq_zero_f mu
  obtain ⟨n, rfl, h1, h6, sN, sI, hr, ht, kN, kI⟩ := bookOk_nat hbo.symm
  have mN := okl_ok kN
  have mI := okl_ok kI
  have oN := book_okl hN bN
  have oI := book_okl hI bI
  rw [mN] at oN
  rw [mI] at oI
  have hsz := size_le h6
  by_cases a3 : frg mu = 0
  · simp [a1, a2, a3] at hK
    simp [a2, a3, hez, cells_g5, cells_dsl, cells_int, wr, -cellsOf]
    refine hK _ _ _ (.same _ pu_told) (told_okl rfl rfl oN oI (by omega) ?_ ?_)
    · simp; omega
    · simp; omega
  have hnn : 0 ≤ (n : Int) * ((n : Int) + 1) ∧ (n : Int) * ((n : Int) + 1) ≤ 42 := by
    have : n = 1 ∨ n = 2 ∨ n = 3 ∨ n = 4 ∨ n = 5 ∨ n = 6 := by omega
    rcases this with rfl | rfl | rfl | rfl | rfl | rfl <;> decide
  have w1 : IntKind.i64.wrap ((n : Int) + 1) = (n : Int) + 1 := w64 _ (by omega) (by omega)
  have w2 : IntKind.i64.wrap ((n : Int) * ((n : Int) + 1)) = (n : Int) * ((n : Int) + 1) := w64 _ (by omega) (by omega)
  have w3 : IntKind.i64.wrap (turns + (n : Int) * ((n : Int) + 1)) = turns + (n : Int) * ((n : Int) + 1) := w64 _ (by omega) (by omega)
  generalize hmm : (n : Int) * ((n : Int) + 1) = m at *
  by_cases a4 : 4096 < turns + m
  · simp [a1, a2, a3, a4] at hK
    simp [a2, a3, hez, hmm, w1, w2, w3, a4, cells_nil, cells_g5, cells_dsl, cells_int, wr, -cellsOf]
    exact hK _ _ _ (.same _ (pz_told 6)) (told_err 6)
  simp [a1, a2, a3, a4] at hK
  simp [a2, a3, hez, hmm, w1, w2, w3, a4, cells_nil, cells_g5, cells_dsl, cells_int, wr, -cellsOf]
  have os : dOK (fromD mu) := ok_from mu
  obtain ⟨_, bp⟩ := okl_from [mu] (fromD mu) (by simp)
  have ls : (fromD mu).2.1.length ≤ 1000 := bd_len os bp (by omega)
  have cM := fun n c => mulX (d := fromD mu) (d' := fromD mu) (n := n) (c := c) (n' := n) (c' := c) os ls os ls
  refine acall_by (from3_ctr hy) (by simp) ?_
  rintro _ ⟨n5, c5, rfl⟩
  generalize hs : mulD (fromD mu) (fromD mu) = s at *
  simp [cells_ag, cells_dy, wr, -cellsOf]
  refine acall_by (cM n5 c5) (by intro z hz; simp only [List.mem_cons, List.not_mem_nil, or_false] at hz; rcases hz with rfl | rfl; exact pu_dy _ _ _ _ _; exact pu_dy _ _ _ _ _) ?_
  rintro _ ⟨n6, c6, rfl⟩
  simp [cells_ag, cells_dy, wr, -cellsOf]
  refine acall_in Tryz.func32 rfl (by kernel_rfl) rfl ?_
  simp [Tryz.f32, cells_g5, cells_dsl, cells_int, wr, -cellsOf]
  refine ridge1_call (mu := mu) (s := s) (H := H) h1 h6 sN hs.symm hN mN oN hH rfl rfl rfl fun us c7 σ1 j1 more1 hus hj1 hl1 hfr1 hc1 => ?_
  simp at hj1 hl1
  have f0 := (hfr1 0 (by simp)).trans rfl
  have f1 := (hfr1 1 (by simp)).trans rfl
  have f3 := (hfr1 3 (by simp)).trans rfl
  have f4 := (hfr1 4 (by simp)).trans rfl
  have f5 := (hfr1 5 (by simp)).trans rfl
  clear hfr1
  simp only [List.getElem?_cons_zero, List.getElem?_cons_succ] at f0 f1 f3 f4 f5
  have q4 : 4 < σ1.length := by omega
  simp [f4, q4, cells_so, cells_g5, cells_dsl, cells_int, wr, -cellsOf, -getElem?_pos, List.getElem?_cons_zero, List.getElem?_cons_succ]
  have g0 : (σ1.set 4 ⟨.own, 0, [.v (.int .i64 n), .so j1 0 0 us.length 3 (some c7), dsl ni I ic, .v (.int .i64 rows), .v (.int .i64 turns)]⟩)[0]? = some ⟨.own, 0, [.v (.int .i64 n), dsl nn N nc, dsl ni I ic, .v (.int .i64 rows), .v (.int .i64 turns)]⟩ := by rw [List.getElem?_set_ne (by decide)]; exact f0
  have g1 : (σ1.set 4 ⟨.own, 0, [.v (.int .i64 n), .so j1 0 0 us.length 3 (some c7), dsl ni I ic, .v (.int .i64 rows), .v (.int .i64 turns)]⟩)[1]? = _ := (List.getElem?_set_ne (by decide)).trans f1
  have g3 : (σ1.set 4 ⟨.own, 0, [.v (.int .i64 n), .so j1 0 0 us.length 3 (some c7), dsl ni I ic, .v (.int .i64 rows), .v (.int .i64 turns)]⟩)[3]? = _ := (List.getElem?_set_ne (by decide)).trans f3
  have g4 : (σ1.set 4 ⟨.own, 0, [.v (.int .i64 n), .so j1 0 0 us.length 3 (some c7), dsl ni I ic, .v (.int .i64 rows), .v (.int .i64 turns)]⟩)[4]? = _ := List.getElem?_set_self q4
  have g5 : (σ1.set 4 ⟨.own, 0, [.v (.int .i64 n), .so j1 0 0 us.length 3 (some c7), dsl ni I ic, .v (.int .i64 rows), .v (.int .i64 turns)]⟩)[5]? = _ := (List.getElem?_set_ne (by decide)).trans f5
  have gj : (σ1.set 4 ⟨.own, 0, [.v (.int .i64 n), .so j1 0 0 us.length 3 (some c7), dsl ni I ic, .v (.int .i64 rows), .v (.int .i64 turns)]⟩)[j1]? = _ := (List.getElem?_set_ne (by omega)).trans hc1
  have gl : 6 ≤ (σ1.set 4 ⟨.own, 0, [.v (.int .i64 n), .so j1 0 0 us.length 3 (some c7), dsl ni I ic, .v (.int .i64 rows), .v (.int .i64 turns)]⟩).length := by rw [List.length_set]; exact hl1
  generalize σ1.set 4 ⟨.own, 0, [.v (.int .i64 n), .so j1 0 0 us.length 3 (some c7), dsl ni I ic, .v (.int .i64 rows), .v (.int .i64 turns)]⟩ = σ2 at *
  clear f0 f1 f3 f4 f5 hc1 hl1 q4
  have hjl := (List.getElem?_eq_some_iff.1 gj).1
  refine ridge1_call (mu := mu) (s := s) (H := H) h1 h6 sI hs.symm hI mI oI hH rfl g0 g3 fun vs c8 σ3 j2 more2 hvs hj2 hl2 hfr2 hc2 => ?_
  have f0 := (hfr2 0 (by omega)).trans g0
  have f1 := (hfr2 1 (by omega)).trans g1
  have f4 := (hfr2 4 (by omega)).trans g4
  have f5 := (hfr2 5 (by omega)).trans g5
  have fj := (hfr2 j1 hjl).trans gj
  have l3 : 6 ≤ σ3.length := by omega
  clear hfr2 g0 g1 g3 g4 g5 gj
  have q0 : 0 < σ3.length := by omega
  have q1 : 1 < σ3.length := by omega
  have q4 : 4 < σ3.length := by omega
  have q5 : 5 < σ3.length := by omega
  simp [f0, f1, f4, f5, q0, q1, q4, q5, w3, List.getElem?_set_ne, cells_so, cells_g5, cells_dsl, cells_int, wr, -cellsOf, -getElem?_pos, List.getElem?_cons_zero, List.getElem?_cons_succ]
  have o1 := ridge_ok (n := n) (mu := mu) oN (by omega) hH.1 n
  have o2 := ridge_ok (n := n) (mu := mu) oI (by omega) hH.1 n
  rw [hs] at o1 o2
  refine hK _ _ (.tup [.agg [i n, dsl false us (some c7), dsl false vs (some c8), i rows, i (turns + m)], i 0]) ?_ (told_okl (L := -9000) (H := H + n) hus hvs o1 o2 (by omega) (by rw [ridge_len]; simp; omega) (by rw [ridge_len]; simp; omega))
  refine .tup _ _ rfl fun q hq => ?_
  have : q = 0 ∨ q = 1 := by simp at hq; omega
  rcases this with rfl | rfl
  · refine .agg _ _ rfl fun q hq => ?_
    have : q = 0 ∨ q = 1 ∨ q = 2 ∨ q = 3 ∨ q = 4 := by simp at hq; omega
    rcases this with rfl | rfl | rfl | rfl | rfl
    · exact .same _ (.v _)
    · exact pur_dm (more := more1) (by rw [List.getElem?_set_ne (by omega), List.getElem?_set_ne (by omega), List.getElem?_set_ne (by omega), List.getElem?_set_ne (by omega)]; exact fj) trivial
    · exact pur_dm (more := more2) (by rw [List.getElem?_set_ne (by omega), List.getElem?_set_ne (by omega), List.getElem?_set_ne (by omega), List.getElem?_set_ne (by omega)]; exact hc2) trivial
    · exact .same _ (.v _)
    · exact .same _ (.v _)
  · exact .same _ (.v _)
end Go.Proofs.Nt
/- Books: Of, Near. -/
set_option linter.unusedVariables false
set_option maxRecDepth 20000
set_option linter.unusedSimpArgs false
set_option linter.unnecessarySimpa false
namespace Go.Proofs.Nt
open Go Go.Proofs Go.Proofs.Va Go.RowKit

def ofE (c : Int) (t : List Nat) (rows turns : Int) : Int := if triOk c t rows turns = true then 0 else 1
def ofR (c : Int) (t : List Nat) (rows turns : Int) : BD := if triOk c t rows turns = true then ⟨c, rowsG c.toNat (linesOf t c.toNat), rowsG c.toNat (linesOf t c.toNat), rows, turns⟩ else BD.zero
theorem tri_gram {c : Int} {t : List Nat} {rows turns : Int} (h : triOk c t rows turns = true) : Okl (-2148) 3100 (rowsG c.toNat (linesOf t c.toNat)) ∧ (rowsG c.toNat (linesOf t c.toNat)).length = sizeN c.toNat ∧ sizeN c.toNat ≤ 28 := by
  obtain ⟨n, rfl, h1, hn, ht, hlg, _⟩ := triOk_nat h
  rw [Int.toNat_natCast]
  have hok0 := lines_ok h1 hn ht hlg
  obtain ⟨ho, hgl⟩ := rows_okl hn (okRows_ok hok0) (by rw [lines_len]; omega)
  exact ⟨ho, hgl, (size_le hn).1⟩
theorem lof_ctr (c : Int) (t : List Nat) (tn : Bool) (tc : Option Nat) (rows turns : Int) (hf : Fl t) (hl : t.length ≤ 1000000) :
    Ctr Tryz.prog 5 [.agg [i c, fsl tn t tc, i rows, i turns]] (toldB (ofR c t rows turns) (ofE c t rows turns)) := by
  refine ctr_in Tryz.func5 rfl (by kernel_rfl) rfl fun K hK => ?_
  unfold ofR ofE at hK
  have cF := gfactor_ctr c t tn tc rows turns hf hl
  unfold factorP at cF
  simp [Tryz.f5, cells_g4, -cellsOf]
  by_cases hok : triOk c t rows turns = true
  case neg =>
    rw [if_neg hok, if_neg hok] at hK
    simp only [if_neg hok] at cF
    refine acall_by cF (pu_av1 (pu_agg (by simp))) ?_
    rintro _ rfl
    simp [cells_nil, cells_g5, cells_int, wr, -cellsOf]
    exact hK _ _ _ (.same _ (pz_told 1)) (told_err 1)
  rw [if_pos hok, if_pos hok] at hK
  simp only [if_pos hok] at cF
  obtain ⟨ho, hgl, hsz⟩ := tri_gram hok
  refine acall_by cF (pu_av1 (pu_agg (by simp))) ?_
  rintro _ ⟨us, n1, c1, hus, rfl⟩
  have hul := us_len hus
  simp
  refine draw_at [1, 1, 0, 0, 3, 1, 1, 1, 1, 0, 4, 0] orders (by kernel_rfl) ?_
  simp
  refine acall_by (cloneD_ctr n1 us c1 (by omega)) (by simp) ?_
  rintro _ ⟨n2, c2, rfl⟩
  simp [cells_dsl, cells_g5, cells_int, wr, -cellsOf]
  refine hK _ _ _ (.same _ pu_told) (told_okl (L := -2148) (H := 3100) hus hus ho ho (by omega) (by omega) (by omega))

/-! ### Near -/
theorem dvok_of {us : List DV} {G : List Dy} {L H : Int} (h : us.map DV.d = G) (ho : Okl L H G) (hL : -9000 ≤ L) (hH : H ≤ 9000) : DvOk us := by
  intro d hd
  obtain ⟨o, b⟩ := ho d.d (by rw [← h]; exact List.mem_map.2 ⟨d, hd, rfl⟩)
  have hm : d.m = d.d := may_of_ok o.1
  exact ⟨o.2, bd_len o b (by omega), by rw [hm]; exact b.mono hL hH⟩
def nearQ (b : BV) (c : Int) (t : List Nat) (rows turns : Int) : Bool := triOk c t rows turns && (b.ok && decide (b.c = c ∧ b.rows = rows ∧ b.turns = turns))
def nearP (b : BV) (c : Int) (t : List Nat) (rows turns : Int) (r : AV) : Prop :=
  if nearQ b c t rows turns = true then ∃ gs : List DV, gs.map DV.d = rowsG c.toNat (linesOf t c.toNat) ∧ chkP b.N.l b.I.l gs b.c b.turns r else r = .tup [i 0, bo false]
theorem chk_pu {N I G : List DV} {c k : Int} {r : AV} (h : chkP N I G c k r) : ∃ z q, r = .tup [i z, bo q] := by
  unfold chkP at h
  split at h
  · rcases h with ⟨i1, j1, _, _, _, _, rfl⟩ | ⟨_, rfl⟩
    · exact ⟨_, _, rfl⟩
    · exact ⟨_, _, rfl⟩
  · exact ⟨_, _, h⟩
theorem lnear_ctr (b : BV) (hb : b.fit) (hN : DvOk b.N.l) (hI : DvOk b.I.l) (c : Int) (t : List Nat) (tn : Bool) (tc : Option Nat) (rows turns : Int) (hf : Fl t) (hl : t.length ≤ 1000000) :
    Ctr Tryz.prog 8 [b.av, .agg [i c, fsl tn t tc, i rows, i turns]] (nearP b c t rows turns) := by
  refine ctr_in Tryz.func8 rfl (by kernel_rfl) rfl fun K hK => ?_
  have cF := gfactor_ctr c t tn tc rows turns hf hl
  have cC := lcheck_ctr b hb
  unfold factorP at cF
  unfold nearP at hK
  have hcb : cellsOf b.av = some [.v (.int .i64 b.c), b.N.av, b.I.av, .v (.int .i64 b.rows), .v (.int .i64 b.turns)] := rfl
  have hag : AV.agg [.v (.int .i64 b.c), b.N.av, b.I.av, .v (.int .i64 b.rows), .v (.int .i64 b.turns)] = b.av := rfl
  have pB : Pu b.av := by unfold BV.av LV.av; exact pu_book _ _ _ _ _ _ _ _ _
  have hno : nearQ b c t rows turns = false → ∀ σ, K (.tup [.v (.int .i64 0), .v (.bool false)]) σ := by
    intro h σ
    rw [h] at hK
    exact hK _ _ _ (.same _ (pu_tup (by simp))) rfl
  simp [Tryz.f8, hcb, hag, cells_g4, -cellsOf]
  by_cases hok : triOk c t rows turns = true
  case neg =>
    simp only [if_neg hok] at cF
    rw [Bool.not_eq_true] at hok
    refine acall_by cF (pu_av1 (pu_agg (by simp))) ?_
    rintro _ rfl
    simp
    exact hno (by unfold nearQ; rw [hok]; rfl) _
  simp only [if_pos hok] at cF
  obtain ⟨ho, hgl, hsz⟩ := tri_gram hok
  refine acall_by cF (pu_av1 (pu_agg (by simp))) ?_
  rintro _ ⟨us, n1, c1, hus, rfl⟩
  simp [hag]
  refine acall_by cC (pu_av1 pB) ?_
  rintro _ rfl
  by_cases a0 : b.ok = true
  case neg =>
    rw [Bool.not_eq_true] at a0
    simp [a0]
    exact hno (by unfold nearQ; rw [hok, a0]; rfl) _
  by_cases a1 : b.c = c
  case neg =>
    simp [a0, a1]
    exact hno (by unfold nearQ; rw [hok, a0, decide_eq_false (by omega)]; rfl) _
  by_cases a2 : b.rows = rows
  case neg =>
    simp [a0, a1, a2]
    exact hno (by unfold nearQ; rw [hok, a0, decide_eq_false (by omega)]; rfl) _
  by_cases a3 : b.turns = turns
  case neg =>
    simp [a0, a1, a2, a3]
    exact hno (by unfold nearQ; rw [hok, a0, decide_eq_false (by omega)]; rfl) _
  have hq : nearQ b c t rows turns = true := by unfold nearQ; rw [hok, a0, decide_eq_true (⟨a1, a2, a3⟩)]; rfl
  simp only [if_pos hq] at hK
  have cN := ncheck_ctr b.c b.turns b.N b.I ⟨n1, us, c1⟩ hN hI (dvok_of hus ho (by omega) (by omega))
  simp [a0, a1, a2, a3]
  rw [← a1, ← a3]
  refine acall_by cN (by intro z hz; simp only [List.mem_cons, List.not_mem_nil, or_false] at hz; rcases hz with rfl | rfl | rfl | rfl | rfl <;> first | exact .v _ | exact .pl _ _ _ _) ?_
  intro r hr
  obtain ⟨z, q, rfl⟩ := chk_pu hr
  simp
  exact hK _ _ _ (.same _ (pu_tup (by simp))) ⟨us, hus, hr⟩
end Go.Proofs.Nt
/- Ledger's live: values. -/
set_option linter.unusedVariables false
set_option maxRecDepth 20000
set_option linter.unusedSimpArgs false
set_option linter.unnecessarySimpa false
namespace Go.Proofs.Nt
open Go Go.Proofs Go.Proofs.Va Go.RowKit

def bookOkD (c : Int) (N I : List Dy) (rows turns : Int) : Bool :=
  decide ((1 ≤ c ∧ c ≤ 6) ∧ (0 ≤ rows ∧ rows ≤ 200) ∧ (0 ≤ turns ∧ turns ≤ 4096) ∧ (N.length : Int) = sizeI c ∧ (I.length : Int) = sizeI c) && (N.all (fun d => dOk d.1 d.2.1 d.2.2) && I.all (fun d => dOk d.1 d.2.1 d.2.2))
theorem bookOk_d (c : Int) (N I : List DV) (rows turns : Int) : bookOk c N I rows turns = bookOkD c (N.map DV.d) (I.map DV.d) rows turns := by
  unfold bookOk bookOkD
  rw [List.all_map, List.all_map, List.length_map, List.length_map]; rfl
def Z3 : List Dy := [zeroD, zeroD, zeroD]
def A3 : List Dy := [(false, [1], 2), (false, [3], 1), (false, [9], 0)]
def D3 : List Dy := [(false, [1], 3), (false, [3], 2), (false, [9], 1)]
def lvx : List Nat := [4611686018427387904]
def lvy : Nat := 4613937818241073152
theorem lz_row : rowG lvx lvy = A3 := by decide +kernel
theorem lz_add : addL Z3 A3 = A3 := by decide +kernel
theorem lz_sub : subL A3 A3 = Z3 := by decide +kernel
theorem lz_dbl : addL A3 A3 = D3 := by decide +kernel
theorem lz_zero : zerosL (sizeI 1).toNat = Z3 := by decide +kernel
theorem lz_rng : rangeOk lvx lvy = true := by decide +kernel
theorem lz_ok0 : bookOkD 1 Z3 Z3 0 0 = true := by decide +kernel
theorem lz_ok1 : bookOkD 1 A3 A3 1 2 = true := by decide +kernel
/-- A book of that shape. -/
def IsB (b : BV) (N I : List Dy) (rows turns : Int) : Prop := b.c = 1 ∧ b.N.l.map DV.d = N ∧ b.I.l.map DV.d = I ∧ b.rows = rows ∧ b.turns = turns
theorem lz_okl (G : List Dy) (h : G = Z3 ∨ G = A3) : Okl (-9000) 9000 G := by
  have key : ∀ D : Dy, dOK D → Bd (-9000) 9000 D → dOK D ∧ Bd (-9000) 9000 D := fun _ a b => ⟨a, b⟩
  rcases h with rfl | rfl
  · intro d hd
    have : d = zeroD := by simpa [Z3] using hd
    rw [this]; exact ⟨ok_zero, .inl (by decide)⟩
  · intro d hd
    simp only [A3, List.mem_cons, List.not_mem_nil, or_false] at hd
    rcases hd with rfl | rfl | rfl
    · exact ⟨⟨by decide +kernel, dig1 (by decide)⟩, .inr ⟨by decide, by decide +kernel⟩⟩
    · exact ⟨⟨by decide +kernel, dig1 (by decide)⟩, .inr ⟨by decide, by decide +kernel⟩⟩
    · exact ⟨⟨by decide +kernel, dig1 (by decide)⟩, .inr ⟨by decide, by decide +kernel⟩⟩
theorem lz_len (G : List Dy) (h : G = Z3 ∨ G = A3) : G.length = 3 := by rcases h with rfl | rfl <;> rfl
theorem IsB.fits {b : BV} {N I : List Dy} {rows turns : Int} (h : IsB b N I rows turns) (hN : N = Z3 ∨ N = A3) (hI : I = Z3 ∨ I = A3) : b.fit ∧ b.bnd 9000 ∧ DvOk b.N.l ∧ DvOk b.I.l := by
  obtain ⟨_, h2, h3, _, _⟩ := h
  have o1 := lz_okl N hN
  have o2 := lz_okl I hI
  have d1 := dvok_of h2 o1 (by decide) (by decide)
  have d2 := dvok_of h3 o2 (by decide) (by decide)
  have k1 := us_len h2
  have k2 := us_len h3
  rw [lz_len N hN] at k1
  rw [lz_len I hI] at k2
  exact ⟨⟨fun d hd => ⟨(d1 d hd).1, (d1 d hd).2.1⟩, fun d hd => ⟨(d2 d hd).1, (d2 d hd).2.1⟩, by omega, by omega⟩, ⟨fun d hd => (d1 d hd).2.2, fun d hd => (d2 d hd).2.2⟩, d1, d2⟩
/-- A book of three entries each is told. -/
def told6 (a1 a2 a3 b1 b2 b3 : Dy) (rows turns e : Int) (r : AV) : Prop := ∃ nl cap m1 d1 m2 d2 m3 d3 nl' cap' m1' d1' m2' d2' m3' d3',
  r = .tup [.agg [i 1, dsl nl [toV a1 m1 d1, toV a2 m2 d2, toV a3 m3 d3] cap, dsl nl' [toV b1 m1' d1', toV b2 m2' d2', toV b3 m3' d3'] cap', i rows, i turns], i e]
theorem told6_of {a1 a2 a3 b1 b2 b3 : Dy} {rows turns e : Int} {r : AV} (h : toldB ⟨1, [a1, a2, a3], [b1, b2, b3], rows, turns⟩ e r) : told6 a1 a2 a3 b1 b2 b3 rows turns e r := by
  obtain ⟨us, n1, c1, vs, n2, c2, rfl, h1, h2, _⟩ := h
  obtain ⟨m1, d1, m2, d2, m3, d3, rfl⟩ := us3 h1
  obtain ⟨m1', d1', m2', d2', m3', d3', rfl⟩ := us3 h2
  exact ⟨n1, c1, m1, d1, m2, d2, m3, d3, n2, c2, m1', d1', m2', d2', m3', d3', rfl⟩
def errB (e : Int) (r : AV) : Prop := ∃ nl cap nl' cap', r = .tup [.agg [i 0, dsl nl [] cap, dsl nl' [] cap', i 0, i 0], i e]
theorem errB_of {e : Int} {r : AV} (h : toldB BD.zero e r) : errB e r := by
  obtain ⟨us, n1, c1, vs, n2, c2, rfl, h1, h2, _⟩ := h
  obtain rfl := List.map_eq_nil_iff.1 h1
  obtain rfl := List.map_eq_nil_iff.1 h2
  exact ⟨n1, c1, n2, c2, rfl⟩
theorem lz_new : Ctr Tryz.prog 11 [i 1] (told6 zeroD zeroD zeroD zeroD zeroD zeroD 0 0 0) := by
  refine (lnew_ctr 1).mono fun r hr => told6_of ?_
  have e1 : newE 1 = 0 := by decide
  have e2 : newR 1 = ⟨1, Z3, Z3, 0, 0⟩ := by
    unfold newR
    rw [if_neg (by decide), lz_zero]
  rw [e1, e2] at hr
  exact hr
theorem fl_lvx : Fl lvx := fun x hx => by
  rw [List.mem_singleton.1 hx]; decide
theorem lz_in {b : BV} (h : IsB b Z3 Z3 0 0) : Ctr Tryz.prog 12 [b.av, .agg [fsl false lvx (some 1), fl lvy]] (told6 (false, [1], 2) (false, [3], 1) (false, [9], 0) (false, [1], 2) (false, [3], 1) (false, [9], 0) 1 2 0) := by
  obtain ⟨f1, f2, _⟩ := h.fits (.inl rfl) (.inl rfl)
  obtain ⟨h1, h2, h3, h4, h5⟩ := h
  refine (lin_ctr b f1 f2 (by decide) false lvx (some 1) lvy fl_lvx (by decide)).mono fun r hr => told6_of ?_
  have e1 : inE b.c b.N.l b.I.l b.rows b.turns lvx lvy = 0 := by
    unfold inE
    rw [bookOk_d, h1, h2, h3, h4, h5, lz_ok0, lz_rng]; decide
  have e2 : inR b.c b.N.l b.I.l b.rows b.turns lvx lvy = ⟨1, A3, A3, 1, 2⟩ := by
    unfold inR
    rw [if_pos e1, h1, h2, h3, h4, h5, lz_row, lz_add]; rfl
  rw [e1, e2] at hr
  exact hr
theorem lz_out {b : BV} (h : IsB b A3 A3 1 2) : Ctr Tryz.prog 13 [b.av, .agg [fsl false lvx (some 1), fl lvy]] (told6 zeroD zeroD zeroD (false, [1], 2) (false, [3], 1) (false, [9], 0) 0 4 0) := by
  obtain ⟨f1, f2, _⟩ := h.fits (.inr rfl) (.inr rfl)
  obtain ⟨h1, h2, h3, h4, h5⟩ := h
  refine (lout2_ctr b f1 f2 (by decide) false lvx (some 1) lvy fl_lvx (by decide)).mono fun r hr => told6_of ?_
  have e1 : outE b.c b.N.l b.I.l b.rows b.turns lvx lvy = 0 := by
    unfold outE
    rw [bookOk_d, h1, h2, h3, h4, h5, lz_ok1, lz_rng]; decide
  have e2 : outR b.c b.N.l b.I.l b.rows b.turns lvx lvy = ⟨1, Z3, A3, 0, 4⟩ := by
    unfold outR
    rw [if_pos e1, h1, h2, h3, h4, h5, lz_row, lz_sub]; rfl
  rw [e1, e2] at hr
  exact hr
theorem lz_out0 {b : BV} (h : IsB b Z3 Z3 0 0) : Ctr Tryz.prog 13 [b.av, .agg [fsl false lvx (some 1), fl lvy]] (errB 5) := by
  obtain ⟨f1, f2, _⟩ := h.fits (.inl rfl) (.inl rfl)
  obtain ⟨h1, h2, h3, h4, h5⟩ := h
  refine (lout2_ctr b f1 f2 (by decide) false lvx (some 1) lvy fl_lvx (by decide)).mono fun r hr => errB_of ?_
  have e1 : outE b.c b.N.l b.I.l b.rows b.turns lvx lvy = 5 := by
    unfold outE
    rw [bookOk_d, h1, h2, h3, h4, h5, lz_ok0, lz_rng]; decide
  have e2 : outR b.c b.N.l b.I.l b.rows b.turns lvx lvy = BD.zero := by
    unfold outR
    rw [if_neg (by rw [e1]; decide)]
  rw [e1, e2] at hr
  exact hr
theorem lz_may : mayB 4611686018427387904 = false := by decide +kernel
theorem lz_fade {b : BV} (h : IsB b A3 A3 1 2) : Ctr Tryz.prog 14 [b.av, fl 4611686018427387904] (errB 12) := by
  obtain ⟨f1, f2, _⟩ := h.fits (.inr rfl) (.inr rfl)
  obtain ⟨h1, h2, h3, h4, h5⟩ := h
  refine (lfade_ctr b f1 f2 (by decide) 4611686018427387904 (by decide)).mono fun r hr => errB_of ?_
  have e1 : fadeE b.c b.N.l b.I.l b.rows b.turns 4611686018427387904 = 12 := by
    unfold fadeE
    rw [bookOk_d, h1, h2, h3, h4, h5, lz_ok1, lz_may]; rfl
  have e2 : fadeR b.c b.N.l b.I.l b.rows b.turns 4611686018427387904 = BD.zero := by
    unfold fadeR
    rw [if_neg (by rw [e1]; decide)]
  rw [e1, e2] at hr
  exact hr
theorem lz_join {b : BV} (h : IsB b A3 A3 1 2) : Ctr Tryz.prog 7 [b.av, b.av] (told6 (false, [1], 3) (false, [3], 2) (false, [9], 1) (false, [1], 3) (false, [3], 2) (false, [9], 1) 2 5 0) := by
  obtain ⟨f1, f2, _⟩ := h.fits (.inr rfl) (.inr rfl)
  obtain ⟨h1, h2, h3, h4, h5⟩ := h
  refine (ljoin_ctr b b f1 f1 f2 f2 (by decide)).mono fun r hr => told6_of ?_
  have e0 : b.ok = true := by
    show bookOk b.c b.N.l b.I.l b.rows b.turns = true
    rw [bookOk_d, h1, h2, h3, h4, h5, lz_ok1]
  have e1 : joinE b b = 0 := by
    unfold joinE
    rw [e0, h1, h4, h5]; decide
  have e2 : joinBR b b = ⟨1, D3, D3, 2, 5⟩ := by
    unfold joinBR
    rw [if_pos e1, h1, h2, h3, h4, h5, lz_dbl]; rfl
  rw [e1, e2] at hr
  exact hr
theorem lz_neg : (inB 13830554455654793216 && !fsg 13830554455654793216) = false := by decide +kernel
theorem lz_ridge {b : BV} (h : IsB b A3 A3 1 2) : Ctr Tryz.prog 10 [b.av, fl 13830554455654793216] (errB 2) := by
  obtain ⟨f1, f2, _⟩ := h.fits (.inr rfl) (.inr rfl)
  obtain ⟨h1, h2, h3, h4, h5⟩ := h
  refine (lridge_ctr b f1 f2 (by decide) 13830554455654793216 (by decide)).mono fun r hr => errB_of ?_
  have e0 : b.ok = true := by
    show bookOk b.c b.N.l b.I.l b.rows b.turns = true
    rw [bookOk_d, h1, h2, h3, h4, h5, lz_ok1]
  have e1 : ridgeE b 13830554455654793216 = 2 := by
    unfold ridgeE
    rw [e0, lz_neg]; rfl
  have e2 : ridgeR b 13830554455654793216 = BD.zero := by
    unfold ridgeR
    rw [if_neg (by rw [e1]; decide)]
  rw [e1, e2] at hr
  exact hr
def lvF : List Nat := [4611686018427387904, 4613937818241073152, 0]
theorem fl_lvF : Fl lvF := fun x hx => by
  simp only [lvF, List.mem_cons, List.not_mem_nil, or_false] at hx; omega
theorem lz_tri1 : triOk 1 lvF 1 2 = true := by decide +kernel
theorem lz_tri0 : triOk 1 lvF 0 0 = true := by decide +kernel
theorem lz_gr : rowsG 1 (linesOf lvF 1) = A3 := by decide +kernel
theorem lz_of : Ctr Tryz.prog 5 [.agg [i 1, fsl false lvF (some 3), i 1, i 2]] (told6 (false, [1], 2) (false, [3], 1) (false, [9], 0) (false, [1], 2) (false, [3], 1) (false, [9], 0) 1 2 0) := by
  refine (lof_ctr 1 lvF false (some 3) 1 2 fl_lvF (by decide)).mono fun r hr => told6_of ?_
  have e1 : ofE 1 lvF 1 2 = 0 := if_pos lz_tri1
  have e2 : ofR 1 lvF 1 2 = ⟨1, A3, A3, 1, 2⟩ := by
    unfold ofR
    rw [if_pos lz_tri1, show (1 : Int).toNat = 1 from rfl, lz_gr]
  rw [e1, e2] at hr
  exact hr
end Go.Proofs.Nt
/- Ledger's live: Near. -/
set_option linter.unusedVariables false
set_option maxRecDepth 20000
set_option linter.unusedSimpArgs false
set_option linter.unnecessarySimpa false
namespace Go.Proofs.Nt
open Go Go.Proofs Go.Proofs.Va Go.RowKit

theorem oneA : oneDV.map DV.d = A3 := rfl
theorem zerZ : zerDV.map DV.d = Z3 := rfl
theorem fr1 : far oneDV oneDV oneDV 1 2 0 0 = false := by decide +kernel
theorem fr2 : far oneDV oneDV oneDV 1 2 0 1 = false := by decide +kernel
theorem fr3 : far oneDV oneDV oneDV 1 2 1 1 = false := by decide +kernel
theorem fr4 : far zerDV zerDV oneDV 1 0 0 0 = true := by decide +kernel
theorem nQ {b : BV} {rows turns : Int} (hc : b.c = 1) (ho : bookOkD 1 (b.N.l.map DV.d) (b.I.l.map DV.d) b.rows b.turns = true) (ht : triOk 1 lvF rows turns = true) (hr : b.rows = rows) (hu : b.turns = turns) : nearQ b 1 lvF rows turns = true := by
  unfold nearQ
  have : b.ok = true := by
    show bookOk b.c b.N.l b.I.l b.rows b.turns = true
    rw [bookOk_d, hc, ho]
  rw [ht, this, decide_eq_true ⟨hc, hr, hu⟩]; rfl
theorem lz_near {b : BV} (h : IsB b A3 A3 1 2) : Ctr Tryz.prog 8 [b.av, .agg [i 1, fsl false lvF (some 3), i 1, i 2]] (fun r => r = .tup [i 0, bo true]) := by
  obtain ⟨f1, f2, f3, f4⟩ := h.fits (.inr rfl) (.inr rfl)
  obtain ⟨h1, h2, h3, h4, h5⟩ := h
  refine (lnear_ctr b f1 f3 f4 1 lvF false (some 3) 1 2 fl_lvF (by decide)).mono fun r hr => ?_
  unfold nearP at hr
  rw [if_pos (nQ h1 (by rw [h2, h3, h4, h5]; exact lz_ok1) lz_tri1 h4 h5)] at hr
  obtain ⟨gs, hgs, hr⟩ := hr
  rw [show (1 : Int).toNat = 1 from rfl, lz_gr] at hgs
  have k1 := us_len h2
  have k2 := us_len h3
  have k3 := us_len hgs
  rw [h1, h5] at hr
  have m1 := gv_m (us := b.N.l) (L := oneDV) (h2.trans oneA.symm)
  have m2 := gv_m (us := b.I.l) (L := oneDV) (h3.trans oneA.symm)
  have m3 := gv_m (us := gs) (L := oneDV) (hgs.trans oneA.symm)
  exact chk_val ⟨by decide, k1, k2, k3, by decide⟩ hr (.inr ⟨pq_one ((far_congr m1 m2 m3 0 0).trans fr1) ((far_congr m1 m2 m3 0 1).trans fr2) ((far_congr m1 m2 m3 1 1).trans fr3), rfl⟩)
theorem lz_far {b : BV} (h : IsB b Z3 Z3 0 0) : Ctr Tryz.prog 8 [b.av, .agg [i 1, fsl false lvF (some 3), i 0, i 0]] (fun r => r = .tup [i 0, bo false]) := by
  obtain ⟨f1, f2, f3, f4⟩ := h.fits (.inl rfl) (.inl rfl)
  obtain ⟨h1, h2, h3, h4, h5⟩ := h
  refine (lnear_ctr b f1 f3 f4 1 lvF false (some 3) 0 0 fl_lvF (by decide)).mono fun r hr => ?_
  unfold nearP at hr
  rw [if_pos (nQ h1 (by rw [h2, h3, h4, h5]; exact lz_ok0) lz_tri0 h4 h5)] at hr
  obtain ⟨gs, hgs, hr⟩ := hr
  rw [show (1 : Int).toNat = 1 from rfl, lz_gr] at hgs
  have k1 := us_len h2
  have k2 := us_len h3
  have k3 := us_len hgs
  rw [h1, h5] at hr
  have m1 := gv_m (us := b.N.l) (L := zerDV) (h2.trans zerZ.symm)
  have m2 := gv_m (us := b.I.l) (L := zerDV) (h3.trans zerZ.symm)
  have m3 := gv_m (us := gs) (L := oneDV) (hgs.trans oneA.symm)
  exact chk_val ⟨by decide, k1, k2, k3, by decide⟩ hr (.inl ⟨0, 0, by decide, by decide, (far_congr m1 m2 m3 0 0).trans fr4, fun p q h1 h2 h3 => by omega, rfl⟩)
theorem lz_ck {b : BV} (h : IsB b A3 A3 1 2) : Ctr Tryz.prog 18 [b.av] (fun r => r = bo true) := by
  obtain ⟨f1, f2, _⟩ := h.fits (.inr rfl) (.inr rfl)
  obtain ⟨h1, h2, h3, h4, h5⟩ := h
  have := lcheck_ctr b f1
  have e0 : b.ok = true := by
    show bookOk b.c b.N.l b.I.l b.rows b.turns = true
    rw [bookOk_d, h1, h2, h3, h4, h5, lz_ok1]
  rw [e0] at this
  exact this
theorem lz_ck0 : Ctr Tryz.prog 18 [.agg [.v (.int .i64 0), .pl true [] 0 (some 0), .pl true [] 0 (some 0), .v (.int .i64 0), .v (.int .i64 0)]] (fun r => r = bo false) :=
  lcheck_ctr ⟨0, ⟨true, [], some 0⟩, ⟨true, [], some 0⟩, 0, 0⟩ ⟨fun d hd => by simp at hd, fun d hd => by simp at hd, by simp, by simp⟩
theorem lz_n6 : Ctr Tryz.prog 16 [.v (.bool false), .pl false [.v (.int .u32 6)] 1 (some 1), .v (.int .i64 0)] (dTold (false, [3], 1)) := by
  have h := rnorm_ctr false false [6] (some 1) 0 (dig1 (by decide)) (by decide)
  have e : normD false (val [6]) 0 = (false, [3], 1) := by decide +kernel
  rw [e] at h
  exact h
end Go.Proofs.Nt
/- Ledger's live, walked. -/
set_option linter.unusedVariables false
set_option maxRecDepth 20000
set_option linter.unusedSimpArgs false
set_option linter.unnecessarySimpa false
namespace Go.Proofs.Nt
open Go Go.Proofs Go.Proofs.Va Go.RowKit

@[simp] theorem plFa : placesT Tryz.prog 24 = some [(0, 1), (1, 1), (2, 1), (3, 1)] := by kernel_rfl
def toldV (N I : List Dy) (rows turns e : Int) (r : AV) : Prop := ∃ b : BV, IsB b N I rows turns ∧ r = .tup [b.av, i e]
theorem toldV_of {a1 a2 a3 b1 b2 b3 : Dy} {rows turns e : Int} {r : AV} (h : told6 a1 a2 a3 b1 b2 b3 rows turns e r) : toldV [a1, a2, a3] [b1, b2, b3] rows turns e r := by
  obtain ⟨nl, cap, m1, d1, m2, d2, m3, d3, nl', cap', m1', d1', m2', d2', m3', d3', rfl⟩ := h
  exact ⟨⟨1, ⟨nl, _, cap⟩, ⟨nl', _, cap'⟩, rows, turns⟩, ⟨rfl, rfl, rfl, rfl, rfl⟩, rfl⟩
theorem cells_bv (b : BV) : cellsOf b.av = some [.v (.int .i64 b.c), b.N.av, b.I.av, .v (.int .i64 b.rows), .v (.int .i64 b.turns)] := (rfl)
theorem agg_bv (b : BV) : AV.agg [.v (.int .i64 b.c), b.N.av, b.I.av, .v (.int .i64 b.rows), .v (.int .i64 b.turns)] = b.av := (rfl)
@[simp] theorem pu_bv (b : BV) : Pu b.av := by unfold BV.av LV.av; exact pu_book _ _ _ _ _ _ _ _ _
theorem dcs_mid {l : List DV} {k : Nat} (h : k < l.length) {D : Dy} (hD : (gv l k).d = D) : ∃ nl cap, (dcs l)[k * 3 + 1]? = some (sl nl D.2.1 cap) := by
  have h3 := congrArg (fun z : List AV => z[1]?) (dcs_at h)
  rw [gv_at h] at hD
  simp only [List.getElem?_take, List.getElem?_drop] at h3
  rw [if_pos (by decide)] at h3
  refine ⟨l[k].nl, l[k].cap, ?_⟩
  rw [h3, ← hD]; rfl
theorem gv_dy {u : DV} {D : Dy} (h : u.d = D) : ∃ nl cap, u.av = dy D.1 nl D.2.1 cap D.2.2 := by
  subst h
  exact ⟨u.nl, u.cap, rfl⟩
theorem lz_same {p c : BV} {N I : List Dy} {rows turns : Int} (hp : IsB p N I rows turns) (hc : IsB c N I rows turns) (f : p.fit) : Ctr Tryz.prog 17 [p.av, c.av] (fun r => r = bo true) := by
  obtain ⟨pc, ⟨pn, pN, pcc⟩, ⟨pi, pI, pic⟩, pr, pt⟩ := p
  obtain ⟨cc, ⟨cn, cN, ccc⟩, ⟨ci, cI, cic⟩, cr, ct⟩ := c
  obtain ⟨h1, h2, h3, h4, h5⟩ := hp
  obtain ⟨h1', h2', h3', h4', h5'⟩ := hc
  change pc = 1 at h1
  change cc = 1 at h1'
  change pr = rows at h4
  change cr = rows at h4'
  change pt = turns at h5
  change ct = turns at h5'
  subst h1 h1' h4 h5
  subst h4' h5'
  exact rlsame_ctr (B := ⟨1, N, I, cr, ct⟩) pn pcc pi pic cn ccc ci cic h2 h3 h2' h3' f.1 f.2.1 f.2.2.1 f.2.2.2
set_option maxHeartbeats 2000000 in
theorem lglive_ctr : Ctr Tryz.prog 4 [] (fun r => r = bo true) := by
  refine ctr_in Tryz.func4 rfl (by kernel_rfl) rfl fun K hK => ?_
  simp only [Tryz.f4, List.append_eq, List.cons_append, List.nil_append]
  simp
  refine acall_by (lz_new.mono fun r h => toldV_of h) (by simp) ?_
  rintro _ ⟨b, hb, rfl⟩
  have cIn := lz_in hb
  have cO0 := lz_out0 hb
  have cFar := lz_far hb
  simp [cells_bv, agg_bv, cells_g2, cells_vf, cells_so, wr, -cellsOf]
  refine acall_froze [1] cIn rfl (fun j hj => ?_) ?_
  · have : j = 0 ∨ j = 1 := by simp at hj; omega
    rcases this with rfl | rfl
    · exact .same _ (pu_bv b)
    · exact pur_g2 (pur_fsl (k := .own) (v := 0) (l := lvx) rfl (by decide) rfl (by simp)) (.same _ (.v _))
  intro r hr
  obtain ⟨c, hc, rfl⟩ := toldV_of hr
  clear hr cIn
  simp [froze, cells_bv, agg_bv, cells_g2, cells_vf, cells_so, wr, -cellsOf]
  refine acall_froze [1] (lz_out hc) rfl (fun j hj => ?_) ?_
  · have : j = 0 ∨ j = 1 := by simp at hj; omega
    rcases this with rfl | rfl
    · exact .same _ (pu_bv _)
    · exact pur_g2 (pur_fsl (k := .ro) (v := 0) (l := lvx) rfl (by decide) rfl (by simp)) (.same _ (.v _))
  intro r hr
  obtain ⟨d, hd, rfl⟩ := toldV_of hr
  clear hr
  simp [froze, cells_bv, agg_bv, cells_g2, cells_g4, cells_g5, cells_dsl, cells_int, cells_vf, cells_so, wr, -cellsOf]
  refine acall_froze [1] cO0 rfl (fun j hj => ?_) ?_
  · have : j = 0 ∨ j = 1 := by simp at hj; omega
    rcases this with rfl | rfl
    · exact .same _ (pu_bv _)
    · exact pur_g2 (pur_fsl (k := .ro) (v := 0) (l := lvx) rfl (by decide) rfl (by simp)) (.same _ (.v _))
  rintro _ ⟨x1, x2, x3, x4, rfl⟩
  simp [froze, cells_bv, agg_bv, cells_g2, cells_g4, cells_g5, cells_dsl, cells_int, cells_vf, cells_so, wr, -cellsOf]
  refine acall_by (lz_fade hc) (by simp) ?_
  rintro _ ⟨x5, x6, x7, x8, rfl⟩
  simp [froze, cells_bv, agg_bv, cells_g2, cells_g4, cells_g5, cells_dsl, cells_int, cells_vf, cells_so, wr, -cellsOf]
  refine acall_by (lz_join hc) (by simp) ?_
  intro r hr
  obtain ⟨jn, hj, rfl⟩ := toldV_of hr
  clear hr
  simp [froze, cells_bv, agg_bv, cells_g2, cells_g4, cells_g5, cells_dsl, cells_int, cells_vf, cells_so, wr, -cellsOf]
  refine acall_by (lz_ridge hc) (by simp) ?_
  rintro _ ⟨y1, y2, y3, y4, rfl⟩
  simp [froze, cells_bv, agg_bv, cells_g2, cells_g4, cells_g5, cells_dsl, cells_int, cells_vf, cells_so, wr, -cellsOf]
  refine acall_froze [9] lz_of rfl (fun q hq => ?_) ?_
  · obtain rfl : q = 0 := by simp at hq; omega
    exact pur_g4 (.same _ (.v _)) (pur_fsl (k := .own) (v := 0) (l := lvF) rfl (by decide) rfl (by simp)) (.same _ (.v _)) (.same _ (.v _))
  intro r hr
  obtain ⟨p, hp, rfl⟩ := toldV_of hr
  clear hr
  simp [froze, cells_bv, agg_bv, cells_g2, cells_g4, cells_g5, cells_dsl, cells_int, cells_vf, cells_so, wr, -cellsOf]
  refine acall_froze [9] (lz_near hc) rfl (fun q hq => ?_) ?_
  · have : q = 0 ∨ q = 1 := by simp at hq; omega
    rcases this with rfl | rfl
    · exact .same _ (pu_bv _)
    · exact pur_g4 (.same _ (.v _)) (pur_fsl (k := .ro) (v := 0) (l := lvF) rfl (by decide) rfl (by simp)) (.same _ (.v _)) (.same _ (.v _))
  rintro _ rfl
  simp [froze, cells_bv, agg_bv, cells_g2, cells_g4, cells_g5, cells_dsl, cells_int, cells_vf, cells_so, wr, -cellsOf]
  refine acall_froze [12] cFar rfl (fun q hq => ?_) ?_
  · have : q = 0 ∨ q = 1 := by simp at hq; omega
    rcases this with rfl | rfl
    · exact .same _ (pu_bv _)
    · exact pur_g4 (.same _ (.v _)) (pur_fsl (k := .own) (v := 0) (l := lvF) rfl (by decide) rfl (by simp)) (.same _ (.v _)) (.same _ (.v _))
  rintro _ rfl
  have lc : c.N.l.length = 3 := us_len hc.2.1
  have ld : d.N.l.length = 3 := us_len hd.2.1
  have ld2 : d.I.l.length = 3 := us_len hd.2.2.1
  have lj : jn.I.l.length = 3 := us_len hj.2.2.1
  simp [froze, lc, ld, lj, cells_bv, agg_bv, cells_g2, cells_g4, cells_g5, cells_dsl, cells_int, cells_vf, cells_so, wr, -cellsOf]
  refine draw_at [1, 1, 1, 1, 0, 3, 3, 0, 1, 1, 1, 1, 1, 1, 0, 0, 0, 1, 1, 1, 1, 1, 1, 0, 0, 0, 0, 0, 0, 0, 0, 0, 0, 0, 1, 1, 0, 0, 0, 1, 1, 0, 0, 0, 0, 0, 0, 0, 1, 1, 3, 0, 0, 0, 0, 0, 0, 0, 0, 0, 0, 0, 0, 0, 1, 3, 0, 0, 0, 3, 0, 0, 0] orders (by kernel_rfl) ?_
  simp [froze, lc, ld, lj, cells_bv, agg_bv, cells_g2, cells_g4, cells_g5, cells_dsl, cells_int, cells_vf, cells_so, wr, -cellsOf]
  have kc : (dcs c.N.l).length = 9 := by rw [dcs_len, lc]
  have kd : (dcs d.N.l).length = 9 := by rw [dcs_len, ld]
  have kd2 : (dcs d.I.l).length = 9 := by rw [dcs_len, ld2]
  obtain ⟨un, uc, u0⟩ := gv_dy (u := gv c.N.l 1) (D := (false, [3], 1)) (map_d_get hc.2.1 1 (by omega))
  have u1 : AV.agg (((dcs c.N.l).drop 3).take 3) = dy false un [3] uc 1 := (dcs_read (l := c.N.l) (k := 1) (by omega)).trans u0
  obtain ⟨vn, vc, e1⟩ := dcs_mid (l := d.N.l) (k := 1) (by omega) (D := zeroD) (map_d_get hd.2.1 1 (by omega))
  obtain ⟨wn, wc, e2⟩ := dcs_mid (l := d.I.l) (k := 1) (by omega) (D := (false, [3], 1)) (map_d_get hd.2.2.1 1 (by omega))
  simp only [zeroD] at e1
  change (dcs d.N.l)[4]? = some (sl vn [] vc) at e1
  change (dcs d.I.l)[4]? = some (sl wn [3] wc) at e2
  have e1' := (List.getElem?_eq_some_iff.1 e1).2
  have e2' := (List.getElem?_eq_some_iff.1 e2).2
  have q1 : jn.rows = 2 := hj.2.2.2.1
  have q2 : jn.turns = 5 := hj.2.2.2.2
  have q3 : c.c = 1 := hc.1
  have q4 : c.rows = 1 := hc.2.2.2.1
  have q5 : c.turns = 2 := hc.2.2.2.2
  have gu : ∀ (n : Int), cellsOf (.v (.int .u32 n)) = some [.v (.int .u32 n)] := fun _ => rfl
  refine ⟨by omega, by omega, ?_⟩
  refine acall_by lz_n6 (by simp) ?_
  rintro _ ⟨n9, c9, rfl⟩
  simp [froze, lc, ld, ld2, lj, kc, kd, kd2, e1, e2, e1', e2', u1, q1, q2, cells_bv, agg_bv, cells_g2, cells_g4, cells_g5, cells_dsl, cells_int, cells_vf, cells_ag, cells_ag0, gu, wr, -cellsOf]
  refine acall_by (sameX (d := (false, [3], 1)) (d' := (false, [3], 1)) (by decide) (by decide)) (by simp [dy]) ?_
  rintro _ rfl
  simp [froze, sl, lc, ld, ld2, lj, kc, kd, kd2, e1, e2, e1', e2', u1, q1, q2, cells_bv, agg_bv, cells_g2, cells_g4, cells_g5, cells_dsl, cells_int, cells_vf, cells_ag, cells_ag0, gu, wr, -cellsOf]
  refine acall_by (lz_same hp hc (hp.fits (.inr rfl) (.inr rfl)).1) (by simp) ?_
  rintro _ rfl
  simp [froze, sl, lc, ld, ld2, lj, kc, kd, kd2, e1, e2, e1', e2', u1, q1, q2, cells_bv, agg_bv, cells_g2, cells_g4, cells_g5, cells_dsl, cells_int, cells_vf, cells_ag, cells_ag0, gu, wr, -cellsOf]
  refine acall_by (lz_ck hc) (by simp) ?_
  rintro _ rfl
  simp [froze, sl, lc, ld, ld2, lj, kc, kd, kd2, e1, e2, e1', e2', u1, q1, q2, cells_bv, agg_bv, cells_g2, cells_g4, cells_g5, cells_dsl, cells_int, cells_vf, cells_ag, cells_ag0, gu, wr, -cellsOf]
  refine acall_by lz_ck0 (pu_av1 (pu_agg (by simp))) ?_
  rintro _ rfl
  simp
  exact hK _ _ _ (.same _ (by simp)) rfl
end Go.Proofs.Nt
/- LedgerMay: what is plain. -/
set_option linter.unusedVariables false
set_option maxRecDepth 20000
set_option linter.unusedSimpArgs false
set_option linter.unnecessarySimpa false
namespace Go.Proofs.Nt
open Go Go.Proofs Go.Proofs.Va Go.RowKit

theorem toldB_bv {B : BD} {e : Int} {r : AV} (h : toldB B e r) : ∃ b : BV, b.bd = B ∧ b.fit ∧ r = .tup [b.av, i e] := by
  obtain ⟨us, n1, c1, vs, n2, c2, rfl, h1, h2, h3, h4, h5, h6⟩ := h
  refine ⟨⟨B.c, ⟨n1, us, c1⟩, ⟨n2, vs, c2⟩, B.rows, B.turns⟩, ?_, ⟨h3, h4, h5, h6⟩, rfl⟩
  show BD.mk B.c (us.map DV.d) (vs.map DV.d) B.rows B.turns = B
  rw [h1, h2]
end Go.Proofs.Nt
/- LedgerMay. -/
set_option linter.unusedVariables false
set_option maxRecDepth 20000
set_option linter.unusedSimpArgs false
set_option linter.unnecessarySimpa false
namespace Go.Proofs.Nt
open Go Go.Proofs Go.Proofs.Va Go.RowKit

theorem lglive {σ : AHeap} {K' : AV → AHeap → Prop} (h : K' (bo true) σ) : ACall Tryz.prog 4 [] σ K' := acall_by lglive_ctr (by simp) (by rintro _ rfl; exact h)
end Go.Proofs.Nt
