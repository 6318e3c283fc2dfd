import Derived.Test.YtojoikbgdjcfdaaGreatDoorWa
import Derived.Test.YtojoikbgdjcfdaaGreatDoorWb
import Derived.Test.YtojoikbgdjcfdaaGreatDoorWc
import Derived.Test.YtojoikbgdjcfdaaGreatDoorWd
import Derived.Test.YtojoikbgdjcfdaaGreatDoorWe
import Derived.Test.YtojoikbgdjcfdaaGreatDoorWf
import Derived.Test.YtojoikbgdjcfdaaGreatDoorWg
import Derived.Test.YtojoikbgdjcfdaaGreatDoorWh
import Derived.Test.YtojoikbgdjcfdaaGreatDoorWi
import Derived.Test.YtojoikbgdjcfdaaGreatDoorWk
/- Books, in plain Lean. -/
set_option linter.unusedVariables false
set_option maxRecDepth 20000
set_option linter.unusedSimpArgs false
namespace Go.Proofs.Nt
open Go Go.Proofs

/-- What counts as a number of a row. -/
def inB (x : Nat) : Bool := decide (frg x = 0 ∨ (2805742567851819008 ≤ frg x ∧ frg x ≤ 6408622269748215808))

theorem addD_zr {d : Dy} {L H : Int} (o : dOK d) (h : Bd L H d) (hL : -20000 ≤ L ∧ L ≤ 0) (hH : H < 20000) : addD d zeroD = d := by
  refine iv_inj (ok_add _ _) o (M := -20000) (by omega) ?_
  rw [iv_add o ok_zero h (.inl (by decide)) hL.2 hL.1 hH (by omega), iv_zero, Int.add_zero]
theorem mulD_z (d : Dy) : mulD d zeroD = zeroD := by
  unfold mulD
  show normD _ (val d.2.1 * 0) _ = zeroD
  rw [Nat.mul_zero]; unfold normD; simp; rfl
theorem z_mulD (d : Dy) : mulD zeroD d = zeroD := by
  unfold mulD
  show normD _ (0 * val d.2.1) _ = zeroD
  rw [Nat.zero_mul]; unfold normD; simp; rfl
theorem from0 : fromD 0 = zeroD := by decide +kernel

/-- A row that has one entry. -/
def unitX (n j mu : Nat) : List Nat := (List.replicate n 0).set j mu
theorem unit_len (n j mu : Nat) : (unitX n j mu).length = n := by simp [unitX]
theorem unit_ent {n j mu i : Nat} (hj : j < n) (hi : i ≤ n) : ((unitX n j mu ++ [0]).map fromD).getD i zeroD = if i = j then fromD mu else zeroD := by
  rw [List.getD_eq_getElem?_getD, List.getElem?_map]
  by_cases h : i < n
  · rw [List.getElem?_append_left (by rw [unit_len]; exact h)]
    unfold unitX
    by_cases e : i = j
    · subst e
      rw [List.getElem?_set_self (by simpa using h), if_pos rfl]; rfl
    · rw [List.getElem?_set_ne (by omega), List.getElem?_replicate, if_pos h, if_neg e]
      exact from0
  · obtain rfl : i = n := by omega
    rw [List.getElem?_append_right (by rw [unit_len]; omega), unit_len, Nat.sub_self, if_neg (by omega)]
    exact from0
theorem unit_get {n j mu i k : Nat} (hn : n ≤ 6) (hj : j < n) (hi : i ≤ k) (hk : k ≤ n) : (rowG (unitX n j mu) 0).getD (atN n i k) zeroD = if i = j ∧ k = j then mulD (fromD mu) (fromD mu) else zeroD := by
  unfold rowG
  rw [unit_len, prod_get (by simp [unit_len]) hi hk hn, unit_ent hj (by omega), unit_ent hj hk]
  by_cases h1 : i = j
  · by_cases h2 : k = j
    · rw [if_pos h1, if_pos h2, if_pos ⟨h1, h2⟩]
    · simp [h1, h2, mulD_z]
  · simp [h1, z_mulD]
theorem at_each' : ∀ n : Fin 7, ∀ q : Fin 28, q.1 < sizeN n.1 → ∃ i : Fin 7, ∃ k : Fin 7, i.1 ≤ k.1 ∧ k.1 ≤ n.1 ∧ q.1 = atN n.1 i.1 k.1 := by decide +kernel
theorem at_each {n q : Nat} (hn : n ≤ 6) (hq : q < sizeN n) : ∃ i k, i ≤ k ∧ k ≤ n ∧ q = atN n i k := by
  have := (size_le hn).1
  obtain ⟨i, k, h⟩ := at_each' ⟨n, by omega⟩ ⟨q, by omega⟩ hq
  exact ⟨i.1, k.1, h⟩
theorem at_inj' : ∀ n i k j : Fin 7, i.1 ≤ k.1 → k.1 ≤ n.1 → j.1 ≤ n.1 → atN n.1 i.1 k.1 = atN n.1 j.1 j.1 → i.1 = j.1 ∧ k.1 = j.1 := by decide +kernel
theorem at_inj {n i k j : Nat} (hn : n ≤ 6) (hi : i ≤ k) (hk : k ≤ n) (hj : j ≤ n) (h : atN n i k = atN n j j) : i = j ∧ k = j :=
  at_inj' ⟨n, by omega⟩ ⟨i, by omega⟩ ⟨k, by omega⟩ ⟨j, by omega⟩ hi hk hj h
/-- One entry of the diagonal more. -/
def diagS (n j : Nat) (G : List Dy) (s : Dy) : List Dy := G.set (atN n j j) (addD (G.getD (atN n j j) zeroD) s)
theorem unit_add {n j mu : Nat} {G : List Dy} {L H : Int} (hn : n ≤ 6) (hj : j < n) (hG : Okl L H G) (hL : -20000 ≤ L ∧ L ≤ 0) (hH : H < 20000) (hl : G.length = sizeN n) :
    addL G (rowG (unitX n j mu) 0) = diagS n j G (mulD (fromD mu) (fromD mu)) := by
  have hul : (rowG (unitX n j mu) 0).length = sizeN n := by rw [row_len (by rw [unit_len]; exact hn), unit_len]; rfl
  unfold addL diagS
  refine List.ext_getElem (by simp [hl, hul]) fun q h1 h2 => ?_
  have hq : q < sizeN n := by simp [hl, hul] at h1; omega
  obtain ⟨i, k, hi, hk, rfl⟩ := at_each hn hq
  have hg := unit_get (mu := mu) hn hj hi hk
  have hgu : (rowG (unitX n j mu) 0).getD (atN n i k) zeroD = (rowG (unitX n j mu) 0)[atN n i k]'(by omega) := by
    rw [List.getD_eq_getElem?_getD, List.getElem?_eq_getElem (by omega)]; rfl
  have hgG : G.getD (atN n i k) zeroD = G[atN n i k]'(by omega) := by
    rw [List.getD_eq_getElem?_getD, List.getElem?_eq_getElem (by omega)]; rfl
  obtain ⟨o, b⟩ := hG _ (List.getElem_mem (show atN n i k < G.length by omega))
  rw [List.getElem_zipWith, ← hgu, hg]
  by_cases e : i = j ∧ k = j
  · obtain ⟨rfl, rfl⟩ := e
    rw [if_pos ⟨rfl, rfl⟩, List.getElem_set_self, hgG]
  · rw [if_neg e, List.getElem_set_ne (fun h => e (at_inj hn hi hk (by omega) h.symm))]
    exact addD_zr o b hL hH
/-- The first so many entries of the diagonal, each more by the same. -/
def ridgeL (n : Nat) (s : Dy) : Nat → List Dy → List Dy
  | 0, G => G
  | j + 1, G => diagS n j (ridgeL n s j G) s
theorem ridge_len (n : Nat) (s : Dy) (G : List Dy) : ∀ j, (ridgeL n s j G).length = G.length
  | 0 => rfl
  | j + 1 => by
    show (List.set _ _ _).length = _
    rw [List.length_set, ridge_len n s G j]
theorem okl_mono2 {L H H' : Int} {G : List Dy} (h : Okl L H G) (hH : H ≤ H') : Okl L H' G := fun d hd => ⟨(h d hd).1, (h d hd).2.mono (by omega) hH⟩
theorem ridge_ok {n mu : Nat} {G : List Dy} {L H : Int} (hG : Okl L H G) (hL : L ≤ -2148) (hH : 2048 ≤ H) : ∀ j : Nat, Okl L (H + j) (ridgeL n (mulD (fromD mu) (fromD mu)) j G)
  | 0 => by rw [show H + ((0 : Nat) : Int) = H by omega]; exact hG
  | j + 1 => by
    have ih := ridge_ok (n := n) (mu := mu) hG hL hH j
    intro d hd
    rcases List.mem_or_eq_of_mem_set hd with h | rfl
    · obtain ⟨o, b⟩ := ih d h
      exact ⟨o, b.mono (by omega) (by omega)⟩
    · obtain ⟨o, b⟩ := getD_ok ih (atN n j j)
      obtain ⟨op, bp⟩ := okl_from [mu] (fromD mu) (by simp)
      have b2 := bd_mul bp bp
      refine ⟨ok_add _ _, ?_⟩
      have := bd_add o (ok_mul (fromD mu) (fromD mu)) b (b2.mono (by omega) (by omega)) (by omega)
      exact this.mono (by omega) (by omega)

/-! ### A row that comes in, and goes out -/
theorem add_sub {d g : Dy} {L H : Int} (o : dOK d) (b : Bd L H d) (og : dOK g) (bg : Bd L H g) (hL : -20000 ≤ L ∧ L ≤ 0) (hH : H < 19000) : addD (addD d g) (oppD g) = d := by
  refine iv_inj (ok_add _ _) o (M := -20000) (by omega) ?_
  have b2 := bd_add o og b bg hL.2
  rw [iv_add (ok_add _ _) (ok_opp g) b2 ((bd_opp bg).mono (by omega) (by omega)) hL.2 hL.1 (by omega) (by omega), iv_add o og b bg hL.2 hL.1 (by omega) (by omega)]
  have : iv (oppD g) (-20000) = -iv g (-20000) := by
    have := iv_neg (neg := g.1) (a := g.2.1) (e := g.2.2) (M := -20000) og.2 (by omega)
    rw [may_of_ok og.1] at this
    exact this
  rw [this]; omega
theorem in_out {A g : List Dy} {L H : Int} (hA : Okl L H A) (hg : Okl L H g) (hl : A.length = g.length) (hL : -20000 ≤ L ∧ L ≤ 0) (hH : H < 19000) : subL (addL A g) g = A := by
  unfold subL addL
  refine List.ext_getElem (by simp [hl]) fun q h1 h2 => ?_
  simp at h1
  simp only [List.getElem_zipWith]
  obtain ⟨o, b⟩ := hA _ (List.getElem_mem (show q < A.length by omega))
  obtain ⟨og, bg⟩ := hg _ (List.getElem_mem (show q < g.length by omega))
  exact add_sub o b og bg hL hH
end Go.Proofs.Nt
/- Books: what is told of them. -/
set_option linter.unusedVariables false
set_option maxRecDepth 20000
set_option linter.unusedSimpArgs false
namespace Go.Proofs.Nt
open Go Go.Proofs Go.Proofs.Va Go.RowKit

/-- Whether a dyad may be. -/
def okB (d : DV) : Bool := dOk d.neg d.a d.e
def bookOk (c : Int) (N I : List DV) (rows turns : Int) : Bool :=
  decide ((1 ≤ c ∧ c ≤ 6) ∧ (0 ≤ rows ∧ rows ≤ 200) ∧ (0 ≤ turns ∧ turns ≤ 4096) ∧ (N.length : Int) = sizeI c ∧ (I.length : Int) = sizeI c) && (N.all okB && I.all okB)
theorem bookOk_nat {c : Int} {N I : List DV} {rows turns : Int} (h : bookOk c N I rows turns = true) : ∃ n : Nat, c = n ∧ 1 ≤ n ∧ n ≤ 6 ∧ N.length = sizeN n ∧ I.length = sizeN n ∧ (0 ≤ rows ∧ rows ≤ 200) ∧ (0 ≤ turns ∧ turns ≤ 4096) ∧ (∀ d ∈ N, okB d = true) ∧ ∀ d ∈ I, okB d = true := by
  unfold bookOk at h
  rw [Bool.and_eq_true, Bool.and_eq_true, List.all_eq_true, List.all_eq_true] at h
  obtain ⟨h1, h2, h3⟩ := h
  obtain ⟨hc, hr, ht, hn, hi⟩ := of_decide_eq_true h1
  unfold sizeI at hn hi
  rw [if_pos hc] at hn hi
  exact ⟨c.toNat, by omega, by omega, by omega, by omega, by omega, hr, ht, h2, h3⟩
theorem okB_m {d : DV} (h : okB d = true) : d.m = d.d := may_of_ok (d := d.d) h
theorem okl_ok {l : List DV} (h : ∀ d ∈ l, okB d = true) : l.map DV.m = l.map DV.d := List.map_congr_left fun d hd => okB_m (h d hd)

/-- A book, as numbers. -/
structure BD where
  c : Int
  N : List Dy
  I : List Dy
  rows : Int
  turns : Int
def BD.zero : BD := ⟨0, [], [], 0, 0⟩
/-- A book that is told, and an error. -/
def toldB (B : BD) (e : Int) (r : AV) : Prop := ∃ us n1 c1 vs n2 c2, r = .tup [.agg [i B.c, dsl n1 us c1, dsl n2 vs c2, i B.rows, i B.turns], i e] ∧ us.map DV.d = B.N ∧ vs.map DV.d = B.I ∧ LenOk us ∧ LenOk vs ∧ us.length ≤ 100000 ∧ vs.length ≤ 100000
/-- Whether all of a row are numbers. -/
def rangeOk (x : List Nat) (y : Nat) : Bool := x.all inB && inB y
/-- What is wrong with a row that comes in, or goes out. -/
def inE (c : Int) (N I : List DV) (rows turns : Int) (x : List Nat) (y : Nat) : Int :=
  if bookOk c N I rows turns = true then (if (x.length : Int) = c then (if rangeOk x y = true then (if rows + 1 > 200 ∨ turns + c + 1 > 4096 then 6 else 0) else 2) else 3) else 1
def outE (c : Int) (N I : List DV) (rows turns : Int) (x : List Nat) (y : Nat) : Int :=
  if bookOk c N I rows turns = true then (if (x.length : Int) = c then (if rangeOk x y = true then (if rows = 0 then 5 else if turns + c + 1 > 4096 then 6 else 0) else 2) else 3) else 1
def inR (c : Int) (N I : List DV) (rows turns : Int) (x : List Nat) (y : Nat) : BD :=
  if inE c N I rows turns x y = 0 then ⟨c, addL (N.map DV.d) (rowG x y), addL (I.map DV.d) (rowG x y), rows + 1, turns + c + 1⟩ else BD.zero
def outR (c : Int) (N I : List DV) (rows turns : Int) (x : List Nat) (y : Nat) : BD :=
  if outE c N I rows turns x y = 0 then ⟨c, subL (N.map DV.d) (rowG x y), I.map DV.d, rows - 1, turns + c + 1⟩ else BD.zero
theorem in_fin {x : Nat} (h : inB x = true) : fin x = true := by
  unfold inB at h
  have := of_decide_eq_true h
  unfold fin
  exact decide_eq_true (by omega)
theorem range_fin {x : List Nat} {y : Nat} {n : Nat} (h : rangeOk x y = true) (h1 : 1 ≤ n) (hn : n ≤ 6) (hl : x.length = n) : rowQ x y = true := by
  unfold rangeOk at h
  rw [Bool.and_eq_true, List.all_eq_true] at h
  unfold rowQ
  rw [hl, decide_eq_true h1, decide_eq_true hn, Bool.true_and, Bool.true_and, List.all_eq_true]
  intro z hz
  rcases List.mem_append.1 hz with e | e
  · exact in_fin (h.1 z e)
  · rw [List.mem_singleton.1 e]; exact in_fin h.2
/-- Whether a float may fade. -/
def mayB (b : Nat) : Bool := (Ieee.double.order b (powW (-20)) == some .gt || Ieee.double.order b (powW (-20)) == some .eq) && (Ieee.double.order b 4607182418800017408 == some .lt || Ieee.double.order b 4607182418800017408 == some .eq)
def fadeE (c : Int) (N I : List DV) (rows turns : Int) (b : Nat) : Int := if bookOk c N I rows turns = true then (if mayB b = true then (if turns = 4096 then 6 else 0) else 12) else 1
def fadeR (c : Int) (N I : List DV) (rows turns : Int) (b : Nat) : BD :=
  if fadeE c N I rows turns b = 0 then ⟨c, (if fin b = true then fadeL (N.map DV.d) (fromD b) else []), (if fin b = true then fadeL (I.map DV.d) (fromD b) else []), rows, turns + 1⟩ else BD.zero
/-- A book that came in. -/
structure BV where
  c : Int
  N : LV
  I : LV
  rows : Int
  turns : Int
def BV.av (b : BV) : AV := .agg [i b.c, b.N.av, b.I.av, i b.rows, i b.turns]
def BV.ok (b : BV) : Bool := bookOk b.c b.N.l b.I.l b.rows b.turns
def BV.bd (b : BV) : BD := ⟨b.c, b.N.l.map DV.d, b.I.l.map DV.d, b.rows, b.turns⟩
def joinE (a b : BV) : Int := if (a.ok && b.ok) = true then (if a.c = b.c then (if a.rows + b.rows > 200 ∨ max a.turns b.turns + sizeI a.c > 4096 then 6 else 0) else 3) else 1
def joinBR (a b : BV) : BD :=
  if joinE a b = 0 then ⟨a.c, addL (a.N.l.map DV.d) (b.N.l.map DV.d), addL (a.I.l.map DV.d) (b.I.l.map DV.d), a.rows + b.rows, max a.turns b.turns + sizeI a.c⟩ else BD.zero
def ridgeE (b : BV) (mu : Nat) : Int := if b.ok = true then (if (inB mu && !fsg mu) = true then (if frg mu = 0 then 0 else if b.turns + b.c * (b.c + 1) > 4096 then 6 else 0) else 2) else 1
def ridgeR (b : BV) (mu : Nat) : BD :=
  if ridgeE b mu = 0 then (if frg mu = 0 then b.bd else ⟨b.c, ridgeL b.c.toNat (mulD (fromD mu) (fromD mu)) b.c.toNat (b.N.l.map DV.d), ridgeL b.c.toNat (mulD (fromD mu) (fromD mu)) b.c.toNat (b.I.l.map DV.d), b.rows, b.turns + b.c * (b.c + 1)⟩) else BD.zero
theorem told_err (e : Int) : toldB BD.zero e (.tup [.agg [i 0, .pl true [] 0 (some 0), .pl true [] 0 (some 0), i 0, i 0], i e]) :=
  ⟨[], true, some 0, [], true, some 0, rfl, rfl, rfl, fun d hd => by simp at hd, fun d hd => by simp at hd, by simp, by simp⟩
end Go.Proofs.Nt
/- Which floats are numbers of a row; which may fade; costs. -/
set_option linter.unusedVariables false
set_option maxRecDepth 20000
set_option linter.unusedSimpArgs false
set_option linter.unnecessarySimpa false
namespace Go.Proofs.Nt
open Go Go.Proofs Go.Proofs.Va Go.RowKit

theorem geq_f {r s : Nat} (hs : s ≤ 9218868437227405312) (hr : r < 9223372036854775808) : (Ieee.double.order r s == some .gt || Ieee.double.order r s == some .eq) = decide (s ≤ r ∧ r ≤ 9218868437227405312) := by
  by_cases h : 9218868437227405312 < r
  · rw [order_nan (.inl (by rw [frg_self hr]; exact h))]
    have : ¬ (s ≤ r ∧ r ≤ 9218868437227405312) := by omega
    simp [this]
  · rw [order_rung (by omega) hs]
    rcases Nat.lt_trichotomy r s with h1 | h1 | h1
    · rw [if_pos h1]
      have : ¬ (s ≤ r ∧ r ≤ 9218868437227405312) := by omega
      simp [this]
    · subst h1
      have : r ≤ r ∧ r ≤ 9218868437227405312 := by omega
      simp [this]
    · rw [if_neg (by omega), if_neg (by omega)]
      have : s ≤ r ∧ r ≤ 9218868437227405312 := by omega
      simp [this]
theorem leq_f {r s : Nat} (hs : s ≤ 9218868437227405312) (hr : r < 9223372036854775808) : (Ieee.double.order r s == some .lt || Ieee.double.order r s == some .eq) = decide (r ≤ s) := by
  have h := not_leq hs hr
  rw [← Bool.not_not (_ || _), h]
  by_cases e : r ≤ s
  · rw [decide_eq_true e, decide_eq_false (by omega)]; rfl
  · rw [decide_eq_false e, decide_eq_true (by omega)]; rfl
theorem powm400 : powW (-400) = 2805742567851819008 := by decide +kernel
theorem powp400 : powW 400 = 6408622269748215808 := by decide +kernel

theorem bin_ctr {b : Nat} (hb : b < 18446744073709551616) : Ctr Tryz.prog 76 [fl b] (fun r => r = bo (inB b)) := by
  refine ctr_val Tryz.func76 rfl (by kernel_rfl) rfl (by simp) fun K hK => ?_
  have g1 := geq_f (r := frg b) (s := 2805742567851819008) (by decide) (frg_lt b)
  have g2 := leq_f (r := frg b) (s := 6408622269748215808) (by decide) (frg_lt b)
  simp [Tryz.f76]
  refine acall_by (fabs_ctr hb) (by simp) ?_
  rintro _ rfl
  by_cases h0 : frg b = 0
  · have : inB b = true := decide_eq_true (.inl h0)
    rw [this] at hK
    simp [eq_zero_f, h0]
    exact hK _
  have e1 : (Ieee.double.order (frg b) 2805742567851819008 = some .gt ∨ Ieee.double.order (frg b) 2805742567851819008 = some .eq) ↔ (2805742567851819008 ≤ frg b ∧ frg b ≤ 9218868437227405312) := by
    rw [← decide_eq_true_iff (p := 2805742567851819008 ≤ frg b ∧ frg b ≤ 9218868437227405312), ← g1]; simp
  have e2 : (Ieee.double.order (frg b) 6408622269748215808 = some .lt ∨ Ieee.double.order (frg b) 6408622269748215808 = some .eq) ↔ frg b ≤ 6408622269748215808 := by
    rw [← decide_eq_true_iff (p := frg b ≤ 6408622269748215808), ← g2]; simp
  by_cases b1 : 2805742567851819008 ≤ frg b ∧ frg b ≤ 9218868437227405312
  case neg =>
    have n1 := mt e1.1 b1
    have : inB b = false := decide_eq_false (by rintro (h | h); exact h0 h; omega)
    rw [this] at hK
    simp [eq_zero_f, h0]
    refine acall_by (pow_ctr (-400) (by omega)) (by simp) ?_
    rintro _ rfl
    rw [powm400]
    simp [n1]
    exact hK _
  have n1 := e1.2 b1
  simp [eq_zero_f, h0]
  refine acall_by (pow_ctr (-400) (by omega)) (by simp) ?_
  rintro _ rfl
  rw [powm400]
  simp [n1]
  refine acall_by (pow_ctr 400 (by omega)) (by simp) ?_
  rintro _ rfl
  rw [powp400]
  by_cases b2 : frg b ≤ 6408622269748215808
  · have n2 := e2.2 b2
    have : inB b = true := decide_eq_true (.inr ⟨b1.1, b2⟩)
    rw [this] at hK
    simp [n1]
    rw [g2, decide_eq_true b2]
    exact hK _
  · have n2 := mt e2.1 b2
    have : inB b = false := decide_eq_false (by rintro (h | h); exact h0 h; omega)
    rw [this] at hK
    simp [n1]
    rw [g2, decide_eq_false b2]
    exact hK _
theorem rpowm_ctr : Ctr Tryz.prog 44 [i (-400)] (fun r => r = fl 2805742567851819008) := by
  refine ctr_val Tryz.func44 rfl (by kernel_rfl) rfl (by simp) fun K hK => ?_
  have mk : makeV false 1 (-400) = .tup [fl 2805742567851819008, bo true] := by
    unfold makeV
    rw [if_neg (by decide)]
    have : nearW false 1 (-400) = 2805742567851819008 := by decide +kernel
    rw [this]
  simp [Tryz.f44]
  refine acall_by (rmake_ctr (m := 1) (e := -400) false (by decide) (by decide)) (by simp) ?_
  rintro _ rfl
  rw [mk]
  simp
  exact hK _
theorem rpowp_ctr : Ctr Tryz.prog 44 [i 400] (fun r => r = fl 6408622269748215808) := by
  refine ctr_val Tryz.func44 rfl (by kernel_rfl) rfl (by simp) fun K hK => ?_
  have mk : makeV false 1 400 = .tup [fl 6408622269748215808, bo true] := by
    unfold makeV
    rw [if_neg (by decide)]
    have : nearW false 1 400 = 6408622269748215808 := by decide +kernel
    rw [this]
  simp [Tryz.f44]
  refine acall_by (rmake_ctr (m := 1) (e := 400) false (by decide) (by decide)) (by simp) ?_
  rintro _ rfl
  rw [mk]
  simp
  exact hK _
theorem rpow20_ctr : Ctr Tryz.prog 44 [i (-20)] (fun r => r = fl (powW (-20))) := by
  refine ctr_val Tryz.func44 rfl (by kernel_rfl) rfl (by simp) fun K hK => ?_
  have mk : makeV false 1 (-20) = .tup [fl (powW (-20)), bo true] := by
    unfold makeV powW
    rw [if_neg (by decide), if_pos (by decide)]
  simp [Tryz.f44]
  refine acall_by (rmake_ctr (m := 1) (e := -20) false (by decide) (by decide)) (by simp) ?_
  rintro _ rfl
  rw [mk]
  simp
  exact hK _
theorem rin_ctr {b : Nat} (hb : b < 18446744073709551616) : Ctr Tryz.prog 48 [fl b] (fun r => r = bo (inB b)) := by
  refine ctr_val Tryz.func48 rfl (by kernel_rfl) rfl (by simp) fun K hK => ?_
  have g1 := geq_f (r := frg b) (s := 2805742567851819008) (by decide) (frg_lt b)
  have g2 := leq_f (r := frg b) (s := 6408622269748215808) (by decide) (frg_lt b)
  simp [Tryz.f48]
  refine acall_by (rsplit_ctr hb) (by simp) ?_
  rintro _ rfl
  have e1 : (Ieee.double.order (frg b) 2805742567851819008 = some .gt ∨ Ieee.double.order (frg b) 2805742567851819008 = some .eq) ↔ (2805742567851819008 ≤ frg b ∧ frg b ≤ 9218868437227405312) := by
    rw [← decide_eq_true_iff (p := 2805742567851819008 ≤ frg b ∧ frg b ≤ 9218868437227405312), ← g1]; simp
  rcases (by omega : 9218868437227405312 < frg b ∨ frg b = 9218868437227405312 ∨ frg b = 0 ∨ (frg b ≠ 0 ∧ frg b < 9218868437227405312)) with h | h | h | ⟨h0, h⟩
  · have : inB b = false := decide_eq_false (by omega)
    rw [this] at hK
    rw [splitV_nan h]
    simp
    refine acall_by (fabs_ctr hb) (by simp) ?_
    rintro _ rfl
    simp
    exact hK _
  · have : inB b = false := decide_eq_false (by omega)
    rw [this] at hK
    rw [splitV_inf h]
    simp
    refine acall_by (fabs_ctr hb) (by simp) ?_
    rintro _ rfl
    simp
    exact hK _
  · have : inB b = true := decide_eq_true (.inl h)
    rw [this] at hK
    rw [splitV_zero h]
    simp
    exact hK _
  rw [splitV_num h0 h]
  simp
  refine acall_by (fabs_ctr hb) (by simp) ?_
  rintro _ rfl
  simp
  refine acall_by rpowm_ctr (by simp) ?_
  rintro _ rfl
  by_cases b1 : 2805742567851819008 ≤ frg b ∧ frg b ≤ 9218868437227405312
  case neg =>
    have n1 := mt e1.1 b1
    have : inB b = false := decide_eq_false (by rintro (h | h); exact h0 h; omega)
    rw [this] at hK
    simp [n1]
    exact hK _
  have n1 := e1.2 b1
  simp [n1]
  refine acall_by rpowp_ctr (by simp) ?_
  rintro _ rfl
  simp [n1]
  rw [g2]
  by_cases b2 : frg b ≤ 6408622269748215808
  · have : inB b = true := decide_eq_true (.inr ⟨b1.1, b2⟩)
    rw [this] at hK
    rw [decide_eq_true b2]
    exact hK _
  · have : inB b = false := decide_eq_false (by rintro (h | h); exact h0 h; omega)
    rw [this] at hK
    rw [decide_eq_false b2]
    exact hK _
theorem fmay_ctr {b : Nat} (hb : b < 18446744073709551616) : Ctr Tryz.prog 37 [fl b] (fun r => r = bo (mayB b)) := by
  refine ctr_val Tryz.func37 rfl (by kernel_rfl) rfl (by simp) fun K hK => ?_
  simp [Tryz.f37]
  refine acall_by (pow_ctr (-20) (by omega)) (by simp) ?_
  rintro _ rfl
  unfold mayB at hK
  by_cases p1 : Ieee.double.order b (powW (-20)) = some .gt ∨ Ieee.double.order b (powW (-20)) = some .eq
  · have q1 : (Ieee.double.order b (powW (-20)) == some .gt || Ieee.double.order b (powW (-20)) == some .eq) = true := by simpa using p1
    rw [q1, Bool.true_and] at hK
    simp [p1]
    exact hK _
  · have q1 : (Ieee.double.order b (powW (-20)) == some .gt || Ieee.double.order b (powW (-20)) == some .eq) = false := by rw [Bool.eq_false_iff]; intro h; exact p1 (by simpa using h)
    rw [q1, Bool.false_and] at hK
    simp [p1]
    exact hK _
theorem rfmay_ctr {b : Nat} (hb : b < 18446744073709551616) : Ctr Tryz.prog 25 [fl b] (fun r => r = bo (mayB b)) := by
  refine ctr_val Tryz.func25 rfl (by kernel_rfl) rfl (by simp) fun K hK => ?_
  simp [Tryz.f25]
  refine acall_by rpow20_ctr (by simp) ?_
  rintro _ rfl
  unfold mayB at hK
  by_cases p1 : Ieee.double.order b (powW (-20)) = some .gt ∨ Ieee.double.order b (powW (-20)) = some .eq
  · have q1 : (Ieee.double.order b (powW (-20)) == some .gt || Ieee.double.order b (powW (-20)) == some .eq) = true := by simpa using p1
    rw [q1, Bool.true_and] at hK
    simp [p1]
    exact hK _
  · have q1 : (Ieee.double.order b (powW (-20)) == some .gt || Ieee.double.order b (powW (-20)) == some .eq) = false := by rw [Bool.eq_false_iff]; intro h; exact p1 (by simpa using h)
    rw [q1, Bool.false_and] at hK
    simp [p1]
    exact hK _
theorem cost_ctr (c : Int) : Ctr Tryz.prog 32 [i c] (fun r => r = i (sizeI c)) := by
  refine ctr_val Tryz.func32 rfl (by kernel_rfl) rfl (by simp) fun K hK => ?_
  simp [Tryz.f32]
  refine acall_by (size_ctr c) (by simp) ?_
  rintro _ rfl
  simp
  exact hK _
theorem rcost_ctr (c : Int) : Ctr Tryz.prog 34 [i c] (fun r => r = i (sizeI c)) := by
  refine ctr_val Tryz.func34 rfl (by kernel_rfl) rfl (by simp) fun K hK => ?_
  simp [Tryz.f34]
  refine acall_by (rsize_ctr c) (by simp) ?_
  rintro _ rfl
  simp
  exact hK _
end Go.Proofs.Nt
/- Books: the program's Check. -/
set_option linter.unusedVariables false
set_option maxRecDepth 20000
set_option linter.unusedSimpArgs false
set_option linter.unnecessarySimpa false
namespace Go.Proofs.Nt
open Go Go.Proofs Go.Proofs.Va Go.RowKit

theorem cells_g5 (a b c d e : AV) : cellsOf (.agg [a, b, c, d, e]) = some [a, b, c, d, e] := (rfl)
theorem cells_dsl (nl : Bool) (l : List DV) (cap : Option Nat) : cellsOf (dsl nl l cap) = some [dsl nl l cap] := (rfl)
theorem cells_int (k : IntKind) (n : Int) : cellsOf (.v (.int k n)) = some [.v (.int k n)] := (rfl)
theorem pu_av1 {x : AV} (h : Pu x) : ∀ z ∈ [x], Pu z := by
  intro z hz; rw [List.mem_singleton.1 hz]; exact h
theorem pu_book (a b c : Int) (n1 n2 : Bool) (l1 l2 : List DV) (c1 c2 : Option Nat) : Pu (.agg [.v (.int .i64 a), dsl n1 l1 c1, dsl n2 l2 c2, .v (.int .i64 b), .v (.int .i64 c)]) := pu_agg (by simp)

section
variable {l : List DV} (nl : Bool) (cap : Option Nat) (p : DV → Bool) (gf : FuncId) (hl : l.length ≤ 100000) (hG : ∀ x ∈ l, Ctr Tryz.prog gf [x.av] (fun r => r = bo (p x)))
include hl hG
end
end Go.Proofs.Nt
/- Books: Check. -/
set_option linter.unusedVariables false
set_option maxRecDepth 20000
set_option linter.unusedSimpArgs false
set_option linter.unnecessarySimpa false
namespace Go.Proofs.Nt
open Go Go.Proofs Go.Proofs.Va Go.RowKit

def badL (l : List DV) : Bool := l.any fun d => !okB d
theorem badL_iff (l : List DV) : badL l = false ↔ l.all okB = true := by
  unfold badL
  rw [List.any_eq_false, List.all_eq_true]
  constructor
  · intro h x hx; have := h x hx; simpa using this
  · intro h x hx; rw [h x hx]; simp
theorem bookOk_iff {c : Int} {N I : List DV} {rows turns : Int} : bookOk c N I rows turns = true ↔ (sizeI c ≠ 0 ∧ (0 ≤ rows ∧ rows ≤ 200) ∧ (0 ≤ turns ∧ turns ≤ 4096)) ∧ ((N.length : Int) = sizeI c ∧ badL N = false) ∧ ((I.length : Int) = sizeI c ∧ badL I = false) := by
  have hs : sizeI c ≠ 0 ↔ (1 ≤ c ∧ c ≤ 6) := by
    constructor
    · intro h
      apply Classical.byContradiction
      intro hc
      exact h (if_neg hc)
    · intro h
      have := (size_facts (c := c) h).2.2
      omega
  unfold bookOk
  rw [Bool.and_eq_true, Bool.and_eq_true, decide_eq_true_iff, badL_iff, badL_iff, hs]
  constructor
  · rintro ⟨⟨a, b, c, d, e⟩, f, g⟩; exact ⟨⟨a, b, c⟩, ⟨d, f⟩, e, g⟩
  · rintro ⟨⟨a, b, c⟩, ⟨d, f⟩, e, g⟩; exact ⟨⟨a, b, c, d, e⟩, f, g⟩
/-- What can be said of a book that came in. -/
def BV.fit (b : BV) : Prop := LenOk b.N.l ∧ LenOk b.I.l ∧ b.N.l.length ≤ 100000 ∧ b.I.l.length ≤ 100000

end Go.Proofs.Nt
/- Books: the document's Check, entries of rows, what is found early. -/
set_option linter.unusedVariables false
set_option maxRecDepth 20000
set_option linter.unusedSimpArgs false
set_option linter.unnecessarySimpa false
namespace Go.Proofs.Nt
open Go Go.Proofs Go.Proofs.Va Go.RowKit

/-! ### The entries of a row -/
theorem append_fl2 {n0 : Nat} {σ : AHeap} {r : AV} {l : List Nat} {y : Nat} {K : AV → AHeap → Prop} (h : ClF σ n0 r l) (hl : l.length ≤ 1000000) (h0 : n0 ≤ σ.length)
    (hK : ∀ r' σ', OFl n0 σ' r' (l ++ [y]) → n0 ≤ σ'.length → (∀ a, a < n0 → σ'[a]? = σ[a]?) → K r' σ') :
    aAppend Tryz.prog 25 25 r (.so σ.length 0 0 1 1 (some 1)) (σ ++ ([⟨.own, 0, [fl y]⟩] : AHeap)) K := by
  cases h with
  | nil =>
    simp
    have := hK (.so (σ.length + 1) 0 0 1 1 none) (σ ++ ([⟨.own, 0, [fl y]⟩, ⟨.own, 0, [fl y]⟩] : AHeap)) (.mk _ _ none [y] [] (by omega) (by simp)) (by simp; omega) (fun a ha => by rw [List.getElem?_append_left (by omega)])
    simpa using this
  | e j v hj hn =>
    have hlt := (List.getElem?_eq_some_iff.1 hj).1
    simp [List.getElem?_append_left hlt, hj]
    have := hK (.so j (v + 1) 0 1 1 none) (List.set (σ ++ ([⟨.own, 0, [fl y]⟩] : AHeap)) j ⟨.own, v + 1, [fl y]⟩) (.mk _ _ none [y] [] hn (by rw [List.getElem?_set_self (by simp; omega)]; simp)) (by simp; omega)
      (fun a ha => by rw [List.getElem?_set_ne (by omega), List.getElem?_append_left (by omega)])
    simpa using this
  | sc j v c l hj hc hne hn =>
    have hlt := (List.getElem?_eq_some_iff.1 hj).1
    have htk : (l.map fl ++ List.replicate (c - l.length) (fl 0)).take l.length = l.map fl := by
      rw [List.take_append_of_le_length (by simp), List.take_of_length_le (by simp)]
    simp [List.getElem?_append_left hlt, hj]
    refine ⟨by omega, ?_⟩
    by_cases hcl : l.length + 1 ≤ c
    · rw [if_pos hcl]
      have := hK (.so j (v + 1) 0 (l ++ [y]).length 1 none) (List.set (σ ++ ([⟨.own, 0, [fl y]⟩] : AHeap)) j ⟨.own, v + 1, l.map fl ++ [fl y]⟩) (.mk _ _ none (l ++ [y]) [] hn (by rw [List.getElem?_set_self (by simp; omega)]; simp)) (by simp; omega)
        (fun a ha => by rw [List.getElem?_set_ne (by omega), List.getElem?_append_left (by omega)])
      simpa [htk] using this
    · rw [if_neg hcl]
      intro c' hc'
      have := hK (.so (σ.length + 1) 0 0 (l ++ [y]).length 1 (some c')) (σ ++ ([⟨.own, 0, [fl y]⟩, ⟨.own, 0, (l ++ [y]).map fl ++ List.replicate (c' - (l.length + 1)) (fl 0)⟩] : AHeap)) (.mk _ _ _ (l ++ [y]) (List.replicate (c' - (l.length + 1)) (fl 0)) (by omega) (by simp)) (by simp; omega)
        (fun a ha => by rw [List.getElem?_append_left (by omega)])
      simpa [htk] using this
theorem rentries_ctr (xn : Bool) (x : List Nat) (xc : Option Nat) (y : Nat) (hl : x.length ≤ 100000) : Ctr Tryz.prog 62 [.agg [fsl xn x xc, fl y]] (fun r => ∃ cap, r = fsl false (x ++ [y]) cap) := by
  refine ctr_in Tryz.func62 rfl (by kernel_rfl) rfl fun K hK => ?_
  by_cases h0 : x = []
  · subst h0
    have hx : fsl xn [] xc = .pl xn [] 0 xc := by unfold fsl; simp
    rw [hx]
    have hc : ∀ y : Nat, cellsOf (.agg [.pl xn [] 0 xc, .v (.float .f64 y)]) = some [.pl xn [] 0 xc, .v (.float .f64 y)] := fun _ => rfl
    simp [Tryz.f62, hc, cells_vf, wr, -cellsOf]
    exact hK _ _ _ (pur_fl (l := [y]) (more := []) (by simp) trivial) ⟨none, rfl⟩
  · have hp : 0 < x.length := List.length_pos_iff.2 h0
    have hx : fsl xn x xc = .pl false (x.map fl) x.length xc := by unfold fsl; cases x with | nil => exact absurd rfl h0 | cons a x => simp
    rw [hx]
    have hc : ∀ y : Nat, cellsOf (.agg [.pl false (x.map fl) x.length xc, .v (.float .f64 y)]) = some [.pl false (x.map fl) x.length xc, .v (.float .f64 y)] := fun _ => rfl
    simp [Tryz.f62, hc, h0]
    refine ⟨by omega, fun c' hc' => ?_⟩
    refine ⟨by omega, ?_⟩
    have hll : (x ++ [y]).length = x.length + 1 := by simp
    by_cases hcl : x.length + 1 ≤ c'
    · rw [if_pos hcl]
      refine hK _ _ (fsl false (x ++ [y]) none) ?_ ⟨none, rfl⟩
      rw [← hll]
      exact pur_fl (l := x ++ [y]) (more := []) (by simp) trivial
    · rw [if_neg hcl]
      intro c2 _
      refine hK _ _ (fsl false (x ++ [y]) (some c2)) ?_ ⟨some c2, rfl⟩
      rw [← hll]
      exact pur_fl (l := x ++ [y]) (more := List.replicate (c2 - (x.length + 1)) (fl 0)) (by simp) trivial
theorem rall_ctr {l : List Nat} (nl : Bool) (cap : Option Nat) (hf : Fl l) (hl : l.length ≤ 1000000) : Ctr Tryz.prog 61 [fsl nl l cap] (fun r => r = bo (l.all inB)) := by
  refine ctr_val Tryz.func61 rfl (by kernel_rfl) rfl (by simp) fun K hK => ?_
  simp only [Tryz.f61, List.append_eq, List.cons_append, List.nil_append]
  simp
  refine loop_on (γ := Nat) 16 (fun g => [(0, fsl nl l cap), (3, i g)]) (fun _ => []) (fun g => g ≤ l.length ∧ (l.take g).all inB = true) (fun g => l.length - g)
    0 ⟨Nat.zero_le _, rfl⟩ (Wk.lst (by simp [fsl]) (by simp)) ?_
  rintro g ⟨hg, hall⟩ L hL
  by_cases hlt : g < l.length
  · have hw1 : IntKind.i64.wrap ((g : Int) + 1) = ((g + 1 : Nat) : Int) := w64 _ (by omega) (by omega)
    have hmem := List.getElem_mem hlt
    have cG := rin_ctr (hf _ hmem)
    have htk : l.take (g + 1) = l.take g ++ [l[g]] := take_snoc hlt
    have hnext := hL (g + 1)
    simp only [htk] at hnext
    obtain ⟨q, hq⟩ : ∃ q, q = inB l[g] := ⟨_, rfl⟩
    rw [← hq] at cG
    simp [hlt]
    refine acall_by cG (by simp) ?_
    rintro _ rfl
    cases q
    · have : l.all inB = false := by
        rw [Bool.eq_false_iff]
        intro h
        rw [List.all_eq_true] at h
        rw [h _ hmem] at hq; cases hq
      rw [this] at hK
      simp
      exact hK _
    · simp [hw1, -Int.natCast_add]
      exact hnext _ _ ⟨by omega, by rw [List.all_append, hall]; simp [← hq]⟩ (Wk.lst (by simp) (by simp)) (by show _ - (g + 1) < _ - g; omega)
  · have hge : g = l.length := by omega
    subst hge
    rw [List.take_length] at hall
    rw [hall] at hK
    simp
    exact hK _
end Go.Proofs.Nt
