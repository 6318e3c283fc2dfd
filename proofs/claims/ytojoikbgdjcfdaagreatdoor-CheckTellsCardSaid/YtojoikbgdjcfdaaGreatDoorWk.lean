import Derived.Test.YtojoikbgdjcfdaaGreatDoorWa
import Derived.Test.YtojoikbgdjcfdaaGreatDoorWb
import Derived.Test.YtojoikbgdjcfdaaGreatDoorWc
import Derived.Test.YtojoikbgdjcfdaaGreatDoorWd
import Derived.Test.YtojoikbgdjcfdaaGreatDoorWe
import Derived.Test.YtojoikbgdjcfdaaGreatDoorWf
import Derived.Test.YtojoikbgdjcfdaaGreatDoorWg
import Derived.Test.YtojoikbgdjcfdaaGreatDoorWh
import Derived.Test.YtojoikbgdjcfdaaGreatDoorWi
/- tri.rows: the rows of what is stored. -/
set_option linter.unusedVariables false
set_option maxRecDepth 20000
set_option linter.unusedSimpArgs false
set_option linter.unnecessarySimpa false
namespace Go.Proofs.Nt
open Go Go.Proofs Go.Proofs.Va Go.RowKit

@[simp] theorem fldC0 : fldT Tryz.prog 53 0 = some (3, 0) := by kernel_rfl
@[simp] theorem fldC1 : fldT Tryz.prog 53 1 = some (25, 1) := by kernel_rfl
@[simp] theorem fldC2 : fldT Tryz.prog 53 2 = some (3, 2) := by kernel_rfl
@[simp] theorem fldC3 : fldT Tryz.prog 53 3 = some (3, 3) := by kernel_rfl
@[simp] theorem szC : szT Tryz.prog 53 = some 4 := by kernel_rfl
@[simp] theorem aggC : aggT Tryz.prog 53 = some true := by kernel_rfl
@[simp] theorem zcC : zcT Tryz.prog 53 = some [.v (.int .i64 0), .pl true [] 0 (some 0), .v (.int .i64 0), .v (.int .i64 0)] := by kernel_rfl

@[simp] theorem zcB4 : zcT Tryz.prog 4 = some [.v (.bool false)] := by kernel_rfl
@[simp] theorem zcFs : zcT Tryz.prog 25 = some [.pl true [] 0 (some 0)] := by kernel_rfl
theorem cells_g4 (a b c d : AV) : cellsOf (.agg [a, b, c, d]) = some [a, b, c, d] := (rfl)

theorem rows_call {x : List AV} {σ : AHeap} {K : AV → AHeap → Prop} (hx : x.length = 4) (h : K (.fn (.func 84) [] [.po σ.length 0 0]) (σ ++ [⟨.own, 0, x⟩])) : ACall Tryz.prog 70 [.agg x] σ K := by
  refine acall_in Tryz.func70 rfl (by kernel_rfl) rfl ?_
  have hc : cellsOf (.agg x) = some x := rfl
  simp [Tryz.f70, -cellsOf, hc]
  exact h

theorem drop_drop' {t : List Nat} {n k : Nat} (hn : n ≤ 6) (hk : k ≤ n) : (t.drop (rowN n k)).drop (n + 1 - k) = t.drop (rowN n (k + 1)) := by
  rw [List.drop_drop, row_succ hn hk]
theorem rows_iter {n : Nat} {t : List Nat} (tn : Bool) (tc : Option Nat) (rows turns : Int) {b : Nat} {σ : AHeap} {Y : List AV → AHeap → (AHeap → Prop) → (Exit → AHeap → Prop) → Prop} {D : AHeap → Prop} {X : Exit → AHeap → Prop}
    (hn : n ≤ 6) (ht : t.length = sizeN n) (Inv : Nat → AHeap → Prop) (h0 : Inv 0 σ) (hb : σ[b]? = some ⟨.own, 0, [i n, fsl tn t tc, i rows, i turns]⟩)
    (hy : ∀ k σ' nl cap, k ≤ n → Inv k σ' → ∀ Kt : AHeap → Prop, (∀ σ2, Inv (k + 1) σ2 → Kt σ2) → Y [fsl nl (triRow t n k) cap] σ' Kt X)
    (hd : ∀ k σ', Inv k σ' → k = n + 1 → D σ') : AIter Tryz.prog 84 [.po b 0 0] σ Y D X := by
  refine aiter_in Tryz.func84 rfl rfl rfl fun l => ?_
  have hw0 : IntKind.i64.wrap ((n : Int) + 1) = ((n + 1 : Nat) : Int) := w64 _ (by omega) (by omega)
  refine awi_seq (awi_reg ?_)
  simp [argT, Tryz.f84, hb, hw0, -Int.natCast_add]
  refine awi_seq (awi_reg ?_)
  simp [argT, Tryz.f84, hb, hw0, -Int.natCast_add]
  refine awi_block (awi_loop_on (γ := Nat × Bool × Option Nat × AHeap) 23 (fun g => [(0, .fn (.yield l) [] []), (3, fsl g.2.1 (t.drop (rowN n g.1)) g.2.2.1), (4, i ((n + 1 - g.1 : Nat) : Int))]) (fun g => g.2.2.2)
    (fun g => g.1 ≤ n + 1 ∧ Inv g.1 g.2.2.2) (fun g => n + 1 - g.1) (0, tn, tc, σ) ⟨Nat.zero_le _, h0⟩ rfl (by simp [row_zero]) ?_)
  rintro ⟨k, fn, fc, σ1⟩ ⟨hk, hI⟩ L hL
  simp only at hk hI
  refine awi_seq (awi_seq (awi_reg ?_))
  simp
  by_cases hkn : k ≤ n
  · have c1 : (0 : Int) < ((n + 1 - k : Nat) : Int) := by omega
    have hr := row_succ hn hkn
    have hs := (row_facts hn (i := k + 1) (by omega)).2.1
    have hlen : n + 1 - k ≤ (t.drop (rowN n k)).length := by rw [List.length_drop]; omega
    have hw1 : IntKind.i64.wrap (((n + 1 - k : Nat) : Int) - 1) = ((n + 1 - (k + 1) : Nat) : Int) := by rw [w64 _ (by omega) (by omega)]; omega
    refine awi_cond (q := true) (by simp; omega) (fun _ => awi_skip ?_) (fun h => by cases h)
    simp
    refine awi_seq (awi_block (awi_seq (awi_yield_at 4 rfl rfl rfl rfl rfl rfl rfl rfl ?_)))
    simp [-aSlice]
    refine slice_fhi hlen ?_
    simp
    refine hy k σ1 _ _ hkn hI _ fun σ2 hI2 => ?_
    simp [put_lst]
    refine awi_reg ?_
    simp [-aSlice]
    refine slice_flo hlen ?_
    rw [drop_drop' hn hkn]
    simp
    refine awi_reg ?_
    simp [hw1, -Int.natCast_add]
    exact hL (k + 1, (fn && (List.drop (rowN n k) t).isEmpty), fc.map (· - (n + 1 - k)), σ2) _ _ ⟨by show k + 1 ≤ n + 1; omega, hI2⟩ rfl (by simp) (by show n + 1 - (k + 1) < n + 1 - k; omega)
  · refine awi_cond (q := false) (by simp; omega) (fun h => by cases h) (fun _ => awi_exit ?_)
    simp
    exact hd k _ hI (by omega)
end Go.Proofs.Nt
/- tri.Check, has. -/
set_option linter.unusedVariables false
set_option maxRecDepth 20000
set_option linter.unusedSimpArgs false
set_option linter.unnecessarySimpa false
namespace Go.Proofs.Nt
open Go Go.Proofs Go.Proofs.Va Go.RowKit

theorem take_row {t : List Nat} {n k : Nat} (hn : n ≤ 6) (hk : k ≤ n) : t.take (rowN n (k + 1)) = t.take (rowN n k) ++ triRow t n k := by
  rw [row_succ hn hk, List.take_add]; rfl
theorem row_head {t : List Nat} {n k : Nat} (hn : n ≤ 6) (hk : k ≤ n) {y : Nat} {ys : List Nat} (h : triRow t n k = y :: ys) : t.getD (rowN n k) 0 = y := by
  have := triRow_get (t := t) hn (Nat.le_refl k) hk
  rw [at_row hn (Nat.le_refl k) hk, Nat.sub_self, Nat.add_zero, h] at this
  exact this.symm
theorem fl_sub {t : List Nat} {n k : Nat} (h : Fl t) : Fl (triRow t n k) := fun x hx => h x (List.mem_of_mem_drop (List.mem_of_mem_take hx))
/-- The whole: all rows are well. -/
theorem triOk_all {n : Nat} {t : List Nat} {rows turns : Int} (h1 : 1 ≤ n) (hn : n ≤ 6) (ht : t.length = sizeN n) (hr : 0 ≤ rows ∧ rows ≤ 200) (hu : 0 ≤ turns ∧ turns ≤ 4096)
    (hA : (t.take (rowN n (n + 1))).any largeB = false) (hB : ∀ i, i < n + 1 → fsg (t.getD (rowN n i) 0) = false) : triOk n t rows turns = true := by
  rw [(row_facts hn (Nat.le_refl (n + 1))).2.2 rfl, ← ht, List.take_length] at hA
  unfold triOk
  rw [Bool.and_eq_true, Bool.and_eq_true]
  refine ⟨⟨decide_eq_true ⟨by omega, ?_, hr, hu⟩, ?_⟩, ?_⟩
  · unfold sizeI; rw [if_pos (by omega), ht]; rfl
  · rw [List.all_eq_true]
    intro x hx
    have := List.any_eq_false.1 hA x hx
    simpa using this
  · rw [List.all_eq_true]
    intro j hj
    rw [List.mem_range] at hj
    rw [Int.toNat_natCast] at hj ⊢
    rw [hB j (by omega)]; rfl
theorem triOk_pre {c : Int} {t : List Nat} {rows turns : Int} (h : triOk c t rows turns = true) : sizeI c ≠ 0 ∧ (t.length : Int) = sizeI c ∧ (0 ≤ rows ∧ rows ≤ 200) ∧ (0 ≤ turns ∧ turns ≤ 4096) := by
  unfold triOk at h
  rw [Bool.and_eq_true, Bool.and_eq_true] at h
  obtain ⟨hc, hl, h3, h4⟩ := of_decide_eq_true h.1.1
  exact ⟨by have := (size_facts (c := c) hc).2.2; omega, hl, h3, h4⟩

theorem tcheck_ctr (c : Int) (t : List Nat) (tn : Bool) (tc : Option Nat) (rows turns : Int) (hf : Fl t) (hl : t.length ≤ 1000000) : Ctr Tryz.prog 51 [.agg [i c, fsl tn t tc, i rows, i turns]] (fun r => r = bo (triOk c t rows turns)) := by
  refine ctr_val Tryz.func51 rfl (by kernel_rfl) rfl (by simp) fun K hK => ?_
  have hF : (triOk c t rows turns = true → False) → ∀ σ, K (.v (.bool false)) σ := by
    intro h σ
    have := Bool.eq_false_iff.2 h
    rw [this] at hK
    exact hK σ
  simp [Tryz.f51, cells_g4, -cellsOf]
  refine acall_by (size_ctr c) (by simp) ?_
  rintro _ rfl
  by_cases a1 : sizeI c = 0
  · simp [a1]
    exact hF (fun h => (triOk_pre h).1 a1) _
  by_cases a2 : (t.length : Int) = sizeI c
  case neg =>
    simp [a1, a2]
    exact hF (fun h => a2 (triOk_pre h).2.1) _
  by_cases a3 : rows < 0
  · simp [a1, a2, a3]
    exact hF (fun h => by have := (triOk_pre h).2.2.1; omega) _
  by_cases a4 : 200 < rows
  · simp [a1, a2, a3, a4]
    exact hF (fun h => by have := (triOk_pre h).2.2.1; omega) _
  by_cases a5 : turns < 0
  · simp [a1, a2, a3, a4, a5]
    exact hF (fun h => by have := (triOk_pre h).2.2.2; omega) _
  by_cases a6 : 4096 < turns
  · simp [a1, a2, a3, a4, a5, a6]
    exact hF (fun h => by have := (triOk_pre h).2.2.2; omega) _
  have hc : 1 ≤ c ∧ c ≤ 6 := by
    apply Classical.byContradiction
    intro h
    exact a1 (if_neg h)
  obtain ⟨n, rfl⟩ : ∃ n : Nat, c = n := ⟨c.toNat, by omega⟩
  have hn : n ≤ 6 := by omega
  have ht : t.length = sizeN n := by
    unfold sizeI at a2
    rw [if_pos hc, Int.toNat_natCast] at a2
    omega
  simp [a1, a2, a3, a4, a5, a6]
  refine rows_call rfl ?_
  simp
  refine range_on (lb := [.po 2 0 0]) (by simp) Tryz.func84 rfl (by kernel_rfl) ?_
  refine rows_iter tn tc rows turns (b := 2) hn ht (fun k σ' => σ' = ([⟨.own, 0, [i n, fsl tn t tc, i rows, i turns]⟩, ⟨.own, 0, [.v (.bool false)]⟩, ⟨.own, 0, [i n, fsl tn t tc, i rows, i turns]⟩] : AHeap) ∧ (t.take (rowN n k)).any largeB = false ∧ ∀ j, j < k → fsg (t.getD (rowN n j) 0) = false)
    ⟨rfl, by rw [row_zero]; rfl, fun j hj => by omega⟩ rfl ?_ ?_
  · rintro k _ nl cap hkn ⟨rfl, hA, hB⟩ Kt hKt
    have hrl := triRow_len hn ht hkn
    have hfl := fl_sub (n := n) (k := k) hf
    have htk := take_row (t := t) hn hkn
    have hmem : ∀ x ∈ triRow t n k, x ∈ t := fun x hx => List.mem_of_mem_drop (List.mem_of_mem_take hx)
    have hhd := fun y ys => row_head (t := t) (y := y) (ys := ys) hn hkn
    generalize triRow t n k = R at *
    obtain ⟨y, ys, rfl⟩ : ∃ y ys, R = y :: ys := by
      cases R with
      | nil => rw [List.length_nil] at hrl; omega
      | cons y ys => exact ⟨y, ys, rfl⟩
    have hhd := hhd y ys rfl
    have hy : y < 18446744073709551616 := hfl y (by simp)
    have hlen : (y :: ys).length ≤ 100000 := by omega
    have cC := contains_ctr nl cap largeB 71 hlen fun x hx => large_ctr (hfl x hx)
    simp [bodyW]
    refine acall_by (signbit_ctr hy) (by simp) ?_
    rintro _ rfl
    by_cases b1 : fsg y = true
    · simp [b1]
      refine hF (fun h => ?_) _
      obtain ⟨n', e, _, _, _, _, h6⟩ := triOk_nat h
      obtain rfl : n = n' := by omega
      have := h6 k hkn
      rw [hhd, b1] at this; cases this
    rw [Bool.not_eq_true] at b1
    simp [b1]
    refine acall_by cC (by simp) ?_
    rintro _ rfl
    by_cases b2 : (y :: ys).any largeB = true
    · have b2' := b2
      rw [List.any_cons] at b2'
      simp [b2', -Bool.or_eq_true]
      refine hF (fun h => ?_) _
      obtain ⟨n', e, _, _, _, h5, _⟩ := triOk_nat h
      obtain ⟨x, hx, hb⟩ := List.any_eq_true.1 b2
      rw [h5 x (hmem x hx)] at hb; cases hb
    rw [Bool.not_eq_true] at b2
    have b2' := b2
    rw [List.any_cons] at b2'
    simp [b2', -Bool.or_eq_false_iff]
    refine hKt _ ⟨rfl, by rw [htk, List.any_append, hA, b2]; rfl, fun j hj => ?_⟩
    by_cases hjk : j = k
    · rw [hjk, hhd, b1]
    · exact hB j (by omega)
  · rintro k _ ⟨rfl, hA, hB⟩ rfl
    simp
    have := triOk_all (rows := rows) (turns := turns) (by omega) hn ht (by omega) (by omega) hA hB
    rw [this] at hK
    exact hK _

end Go.Proofs.Nt
/- tri.Line, gram.Factor. -/
set_option linter.unusedVariables false
set_option maxRecDepth 20000
set_option linter.unusedSimpArgs false
set_option linter.unnecessarySimpa false
namespace Go.Proofs.Nt
open Go Go.Proofs Go.Proofs.Va Go.RowKit

theorem append_line {m J a : Nat} {R : List Nat} {nl : Bool} {cap : Option Nat} {σ : AHeap} {K : AV → AHeap → Prop} (hj : σ[a]? = some ⟨.own, 0, List.replicate m (fl 0)⟩) (hm : J + R.length = m) (hb : m ≤ 1000)
    (hK : K (.so a 1 0 m 1 none) (σ.set a ⟨.own, 1, (List.replicate J 0 ++ R).map fl⟩)) : aAppend Tryz.prog 25 25 (.so a 0 0 J 1 (some m)) (fsl nl R cap) σ K := by
  have e1 : (List.replicate m (fl 0)).take J = List.replicate J (fl 0) := by rw [List.take_replicate, Nat.min_eq_left (by omega)]
  have e2 : J ≤ m := by omega
  have e3 : (List.replicate J 0 ++ R).map fl = List.replicate J (fl 0) ++ R.map fl := by rw [List.map_append, List.map_replicate]
  rw [e3] at hK
  unfold fsl
  simp [hj, e1, e2, hm, -List.replicate]
  refine ⟨by omega, ?_⟩
  simpa using hK

theorem cells_so (a v o n z : Nat) (c : Option Nat) : cellsOf (.so a v o n z c) = some [.so a v o n z c] := (rfl)
theorem cells_v (k : IntKind) (n : Int) : cellsOf (.v (.int k n)) = some [.v (.int k n)] := (rfl)
theorem pur_fl {σ : AHeap} {S : Nat → Prop} {j v : Nat} {l : List Nat} {more : List AV} {cap : Option Nat} (hj : σ[j]? = some ⟨.own, v, l.map fl ++ more⟩) (hS : S j) : Pur σ S (.so j v 0 l.length 1 cap) (fsl false l cap) := by
  refine .so j v 0 l.length 1 cap _ (l.map fl) hj rfl (fun h => by cases h) hS (by simp) (by simp) fun q hq => ?_
  simp only [List.length_map] at hq
  show Pur σ _ ((l.map fl ++ more).getD (0 + q) .any) _
  rw [Nat.zero_add, List.getD_eq_getElem?_getD, List.getElem?_append_left (by simpa using hq), ← List.getD_eq_getElem?_getD, getD_eq (by simpa using hq)]
  exact .same _ (by simp)
/-- A line, where it is. -/
def lineP (c : Int) (t : List Nat) (rows turns j : Int) (r : AV) : Prop :=
  if (triOk c t rows turns && (decide (0 ≤ j) && decide (j ≤ c))) = true then ∃ nl cap, r = fsl nl (lineOf t c.toNat j.toNat) cap else r = .pl true [] 0 (some 0)

end Go.Proofs.Nt
/- slices.Repeat of one dyad; gram.Fade. -/
set_option linter.unusedVariables false
set_option maxRecDepth 20000
set_option linter.unusedSimpArgs false
set_option linter.unnecessarySimpa false
namespace Go.Proofs.Nt
open Go Go.Proofs Go.Proofs.Va Go.RowKit

/-! ### Repeat -/
theorem dcs_take (l : List DV) : ∀ k, (dcs l).take (k * 3) = dcs (l.take k) := by
  induction l with
  | nil => intro k; simp [dcs]
  | cons a l ih =>
    intro k
    cases k with
    | zero => simp [dcs]
    | succ k =>
      have : dcs (a :: l) = a.cs ++ dcs l := by simp [dcs]
      rw [this, List.take_succ_cons, show (k + 1) * 3 = a.cs.length + k * 3 by show (k + 1) * 3 = 3 + k * 3; omega, List.take_append, List.take_of_length_le (by omega), Nat.add_sub_cancel_left, ih]
      simp [dcs]
theorem dcs_app (a b : List DV) : dcs (a ++ b) = dcs a ++ dcs b := by simp [dcs]
theorem splice_dcs (l s : List DV) (k : Nat) : splice (dcs l) (k * 3) (dcs s) = dcs (l.take k ++ s ++ l.drop (k + s.length)) := by
  unfold splice
  rw [dcs_len, ← Nat.add_mul, dcs_take, dcs_drop, dcs_app, dcs_app]
/-- So far: k of them. -/
def repL (d : DV) (m k : Nat) : List DV := List.replicate k d ++ List.replicate (m - k) zDV
theorem repL_len {d : DV} {m k : Nat} (h : k ≤ m) : (repL d m k).length = m := by unfold repL; simp; omega
theorem repL_step {d : DV} {m k j : Nat} (hk : k ≤ m) (hj : j ≤ k) (hm : j ≤ m - k) : splice (dcs (repL d m k)) (k * 3) ((dcs (repL d m k)).take (j * 3)) = dcs (repL d m (k + j)) := by
  have e : (dcs (repL d m k)).take (j * 3) = dcs (List.replicate j d) := by
    rw [dcs_take]; unfold repL
    rw [List.take_append_of_le_length (by simpa using hj), List.take_replicate, Nat.min_eq_left hj]
  rw [e, splice_dcs]
  congr 1
  unfold repL
  rw [List.take_append_of_le_length (by simp), List.take_of_length_le (by simp), List.length_replicate, List.drop_append]
  rw [List.drop_eq_nil_of_le (by simp), List.nil_append, List.length_replicate, List.drop_replicate, List.replicate_append_replicate]
  congr 2
  omega

end Go.Proofs.Nt
/- ref01.Pow, ref07.Check, Get, Line. -/
set_option linter.unusedVariables false
set_option maxRecDepth 20000
set_option linter.unusedSimpArgs false
set_option linter.unnecessarySimpa false
namespace Go.Proofs.Nt
open Go Go.Proofs Go.Proofs.Va Go.RowKit

theorem make420 : makeV false 1 420 = .tup [fl 6498694262295625728, bo true] := by
  unfold makeV
  rw [if_neg (by decide)]
  have : nearW false 1 420 = 6498694262295625728 := by decide +kernel
  rw [this]
theorem rpow420_ctr : Ctr Tryz.prog 44 [i 420] (fun r => r = fl 6498694262295625728) := by
  refine ctr_val Tryz.func44 rfl (by kernel_rfl) rfl (by simp) fun K hK => ?_
  simp [Tryz.f44]
  refine acall_by (rmake_ctr (m := 1) (e := 420) false (by decide) (by decide)) (by simp) ?_
  rintro _ rfl
  rw [make420]
  simp
  exact hK _

theorem rat_lt {c i' j' : Nat} (h1 : 1 ≤ c) (hc : c ≤ 6) (hj : j' < i') : Ctr Tryz.prog 67 [i c, i i', i j'] (fun r => r = .tup [i 0, bo false]) := by
  refine ctr_val Tryz.func67 rfl (by kernel_rfl) rfl (pu_tup (by simp)) fun K hK => ?_
  simp only [Tryz.f67, List.append_eq, List.cons_append, List.nil_append]
  have f := (size_facts (c := c) (by omega)).2.2
  have n1 : ¬ sizeI c = 0 := by omega
  have n2 : ¬ ((i' : Nat) : Int) < 0 := by omega
  simp
  refine acall_by (rsize_ctr c) (by simp) ?_
  rintro _ rfl
  simp [n1, n2, hj]
  exact hK _
theorem split_kind (b : Nat) : decide (1 < fkind b) = decide (9218868437227405312 ≤ frg b) := by
  unfold fkind
  rcases Nat.lt_trichotomy (frg b) 9218868437227405312 with h | h | h
  · rw [if_neg (by omega), if_neg (by omega)]
    split <;> simp <;> omega
  · rw [if_neg (by omega), if_pos h, h]; rfl
  · rw [if_pos h]
    simp; omega

set_option maxHeartbeats 1000000 in
theorem rtcheck_ctr (c : Int) (t : List Nat) (tn : Bool) (tc : Option Nat) (rows turns : Int) (hf : Fl t) (hl : t.length ≤ 1000000) : Ctr Tryz.prog 46 [.agg [i c, fsl tn t tc, i rows, i turns]] (fun r => r = bo (triOk c t rows turns)) := by
  refine ctr_val Tryz.func46 rfl (by kernel_rfl) rfl (by simp) fun K hK => ?_
  have hF : (triOk c t rows turns = true → False) → ∀ σ, K (.v (.bool false)) σ := by
    intro h σ
    have := Bool.eq_false_iff.2 h
    rw [this] at hK
    exact hK σ
  simp [Tryz.f46, cells_g4, -cellsOf]
  refine draw_at [1, 1, 3, 0, 0, 1, 1, 1, 1, 1, 3, 0, 0, 0, 1, 1, 0, 0, 0, 1, 1, 0, 0, 0, 1, 1, 0, 0, 0, 1, 1, 0, 0] orders (by kernel_rfl) ?_
  simp
  refine acall_by (rsize_ctr c) (by simp) ?_
  rintro _ rfl
  by_cases a1 : sizeI c = 0
  · simp [a1]
    exact hF (fun h => (triOk_pre h).1 a1) _
  simp [a1]
  refine acall_by (rsize_ctr c) (by simp) ?_
  rintro _ rfl
  by_cases a2 : (t.length : Int) = sizeI c
  case neg =>
    simp [a1, a2]
    exact hF (fun h => a2 (triOk_pre h).2.1) _
  by_cases a3 : rows < 0
  · simp [a1, a2, a3]
    exact hF (fun h => by have := (triOk_pre h).2.2.1; omega) _
  by_cases a4 : 200 < rows
  · simp [a1, a2, a3, a4]
    exact hF (fun h => by have := (triOk_pre h).2.2.1; omega) _
  by_cases a5 : turns < 0
  · simp [a1, a2, a3, a4, a5]
    exact hF (fun h => by have := (triOk_pre h).2.2.2; omega) _
  by_cases a6 : 4096 < turns
  · simp [a1, a2, a3, a4, a5, a6]
    exact hF (fun h => by have := (triOk_pre h).2.2.2; omega) _
  have hc : 1 ≤ c ∧ c ≤ 6 := by
    apply Classical.byContradiction
    intro h
    exact a1 (if_neg h)
  obtain ⟨n, rfl⟩ : ∃ n : Nat, c = n := ⟨c.toNat, by omega⟩
  have hn : n ≤ 6 := by omega
  have ht : t.length = sizeN n := by
    unfold sizeI at a2
    rw [if_pos hc, Int.toNat_natCast] at a2
    omega
  have hsz := size_le hn
  simp [a1, a2, a3, a4, a5, a6]
  refine loop_on (γ := Nat) 104 (fun g => [(1, .po 0 0 0), (3, i g)]) (fun _ => [⟨.own, 0, [i n, fsl tn t tc, i rows, i turns]⟩]) (fun g => g ≤ t.length ∧ (t.take g).any largeB = false) (fun g => t.length - g)
    0 ⟨Nat.zero_le _, rfl⟩ (Wk.lst (by simp) (by simp)) ?_
  rintro g ⟨hg, hall⟩ L hL
  by_cases hlt : g < t.length
  · have hw1 : IntKind.i64.wrap ((g : Int) + 1) = ((g + 1 : Nat) : Int) := w64 _ (by omega) (by omega)
    have hb := hf _ (List.getElem_mem hlt)
    have htk : t.take (g + 1) = t.take g ++ [t[g]] := take_snoc hlt
    have hmem := List.getElem_mem hlt
    have hnext := hL (g + 1)
    simp only [htk, List.any_append, hall, List.any_cons, List.any_nil, Bool.or_false, Bool.false_or] at hnext
    have cS := rsplit_ctr hb
    have cA := fabs_ctr hb
    have hbad : largeB t[g] = true → ∀ σ, K (.v (.bool false)) σ := by
      intro h
      refine hF fun hk => ?_
      obtain ⟨n', e, _, _, _, h5, _⟩ := triOk_nat hk
      rw [h5 _ hmem] at h; cases h
    have hkd := split_kind t[g]
    have hgt := @gtr_f (frg t[g]) 6498694262295625728 (by decide)
    have hlg : largeB t[g] = decide (6498694262295625728 < frg t[g]) := rfl
    simp [hlt]
    refine acall_by cS (by simp) ?_
    rintro _ rfl
    unfold splitV
    by_cases k1 : 9218868437227405312 ≤ frg t[g]
    · have : 1 < fkind t[g] := by simpa [k1] using hkd
      simp [this]
      exact hbad (by rw [hlg]; exact decide_eq_true (by omega)) _
    have k2 : ¬ 1 < fkind t[g] := by simpa [k1] using hkd
    simp [k2, hlt]
    refine acall_by cA (by simp) ?_
    rintro _ rfl
    simp
    refine acall_by rpow420_ctr (by simp) ?_
    rintro _ rfl
    have hgt := hgt (by omega)
    simp [hgt]
    by_cases k3 : 6498694262295625728 < frg t[g]
    · simp [k3]
      exact hbad (by rw [hlg]; exact decide_eq_true k3) _
    simp [k3, hw1, -Int.natCast_add]
    exact hnext _ _ ⟨by omega, by rw [hlg]; exact decide_eq_false k3⟩ (Wk.lst (by simp) (by simp)) (by show _ - (g + 1) < _ - g; omega)
  have hge : g = t.length := by omega
  have hA : (t.take (rowN n (n + 1))).any largeB = false := by
    rw [(row_facts hn (Nat.le_refl (n + 1))).2.2 rfl, ← ht, ← hge]; exact hall
  simp [hlt]
  refine loop_on (γ := Nat) 104 (fun g => [(1, .po 0 0 0), (8, i g)]) (fun _ => [⟨.own, 0, [i n, fsl tn t tc, i rows, i turns]⟩]) (fun g => g ≤ n + 1 ∧ ∀ j, j < g → fsg (t.getD (rowN n j) 0) = false) (fun g => n + 1 - g)
    0 ⟨Nat.zero_le _, fun j hj => by omega⟩ (Wk.lst (by simp) (by simp)) ?_
  clear hL hg hlt hall hge L g
  rintro g ⟨hg, hB⟩ L hL
  by_cases hlt : g ≤ n
  · have hw1 : IntKind.i64.wrap ((g : Int) + 1) = ((g + 1 : Nat) : Int) := w64 _ (by omega) (by omega)
    have cA := rtat_ctr (c := n) (i' := g) (j' := g) (by omega) hn (Nat.le_refl g) hlt
    have e1 := (atN_lt hn (Nat.le_refl g) hlt).2
    have e2 := at_row hn (Nat.le_refl g) hlt
    have e3 := (atN_lt hn (Nat.le_refl g) hlt).1
    have hlt' : rowN n g < t.length := by omega
    rw [← e1, e2, Nat.sub_self, Nat.add_zero] at cA
    have hb := hf _ (List.getElem_mem hlt')
    have hgd : t.getD (rowN n g) 0 = t[rowN n g] := by simp [hlt']
    have hbad : fsg (t.getD (rowN n g) 0) = true → ∀ σ, K (.v (.bool false)) σ := by
      intro h
      refine hF fun hk => ?_
      obtain ⟨n', e, _, _, _, _, h6⟩ := triOk_nat hk
      obtain rfl : n = n' := by omega
      rw [h6 g hlt] at h; cases h
    simp [hlt]
    refine acall_by cA (by simp) ?_
    rintro _ rfl
    simp [hlt']
    refine acall_by (rsplit_ctr hb) (by simp) ?_
    rintro _ rfl
    unfold splitV
    rw [hgd] at hbad
    have hnext := hL (g + 1)
    have hstep : fsg t[rowN n g] = false → ∀ j, j < g + 1 → fsg (t.getD (rowN n j) 0) = false := by
      intro h j hj
      by_cases e : j = g
      · rw [e, hgd, h]
      · exact hB j (by omega)
    have hnn : ¬ 9218868437227405312 < frg t[rowN n g] := by
      rw [(row_facts hn (Nat.le_refl (n + 1))).2.2 rfl, ← ht, List.take_length] at hA
      have := List.any_eq_false.1 hA _ (List.getElem_mem hlt')
      have : ¬ 6498694262295625728 < frg t[rowN n g] := by simpa [largeB] using this
      omega
    by_cases b1 : fsg t[rowN n g] = true
    · simp [hnn, b1]
      exact hbad b1 _
    rw [Bool.not_eq_true] at b1
    simp [hnn, b1, hw1, -Int.natCast_add]
    exact hnext _ _ ⟨by omega, hstep b1⟩ (Wk.lst (by simp) (by simp)) (by show _ - (g + 1) < _ - g; omega)
  · have hge : g = n + 1 := by omega
    subst hge
    have := triOk_all (rows := rows) (turns := turns) (by omega) hn ht (by omega) (by omega) hA hB
    rw [this] at hK
    have hnl : ¬ ((n : Int) + 1 ≤ n) := by omega
    simp [hlt, hnl]
    exact hK _

end Go.Proofs.Nt
/- Lists of floats, and of rows, that grow; ref07.Line. -/
set_option linter.unusedVariables false
set_option maxRecDepth 20000
set_option linter.unusedSimpArgs false
set_option linter.unnecessarySimpa false
namespace Go.Proofs.Nt
open Go Go.Proofs Go.Proofs.Va Go.RowKit

/-- An own list of floats, at place k or above. -/
inductive OG (k : Nat) (σ : AHeap) : AV → List Nat → Prop
  | nil : OG k σ (.pl true [] 0 (some 0)) []
  | so (j v : Nat) (l : List Nat) : k ≤ j → σ[j]? = some ⟨.own, v, l.map fl⟩ → OG k σ (.so j v 0 l.length 1 none) l

theorem append_og {k : Nat} {σ : AHeap} {r : AV} {l : List Nat} {y : Nat} {K : AV → AHeap → Prop} (h : OG k σ r l) (hl : l.length ≤ 1000000) (h0 : k ≤ σ.length)
    (hK : ∀ r' σ', OG k σ' r' (l ++ [y]) → σ.length ≤ σ'.length → (∀ a, a < k → σ'[a]? = σ[a]?) → K r' σ') :
    aAppend Tryz.prog 25 25 r (.pl false [fl y] 1 (some 1)) σ K := by
  cases h with
  | nil =>
    simp
    have := hK (.so σ.length 0 0 1 1 none) (σ ++ ([⟨.own, 0, [fl y]⟩] : AHeap)) (.so _ _ [y] h0 (by simp)) (by simp) (fun a ha => by rw [List.getElem?_append_left (by omega)])
    simpa using this
  | so j v l hn hj =>
    have hlt := (List.getElem?_eq_some_iff.1 hj).1
    have htk : (l.map fl).take l.length = l.map fl := List.take_of_length_le (by simp)
    simp [hj, htk]
    refine ⟨by omega, ?_⟩
    have := hK (.so j (v + 1) 0 (l ++ [y]).length 1 none) (σ.set j ⟨.own, v + 1, l.map fl ++ [fl y]⟩) (.so _ _ _ hn (by rw [List.getElem?_set_self hlt]; simp)) (by simp) (fun a ha => by rw [List.getElem?_set_ne (by omega)])
    simpa using this
theorem append_og2 {k : Nat} {σ : AHeap} {r : AV} {l : List Nat} {y : Nat} {K : AV → AHeap → Prop} (h : OG k σ r l) (hl : l.length ≤ 1000000) (h0 : k ≤ σ.length)
    (hK : ∀ r' σ', OG k σ' r' (l ++ [y]) → σ.length ≤ σ'.length → (∀ a, a < k → σ'[a]? = σ[a]?) → K r' σ') :
    aAppend Tryz.prog 25 25 r (.so σ.length 0 0 1 1 (some 1)) (σ ++ ([⟨.own, 0, [fl y]⟩] : AHeap)) K := by
  cases h with
  | nil =>
    simp
    have := hK (.so (σ.length + 1) 0 0 1 1 none) (σ ++ ([⟨.own, 0, [fl y]⟩, ⟨.own, 0, [fl y]⟩] : AHeap)) (.so _ _ [y] (by omega) (by simp)) (by simp) (fun a ha => by rw [List.getElem?_append_left (by omega)])
    simpa using this
  | so j v l hn hj =>
    have hlt := (List.getElem?_eq_some_iff.1 hj).1
    have htk : (l.map fl).take l.length = l.map fl := List.take_of_length_le (by simp)
    simp [List.getElem?_append_left hlt, hj, htk]
    refine ⟨by omega, ?_⟩
    have := hK (.so j (v + 1) 0 (l ++ [y]).length 1 none) (List.set (σ ++ ([⟨.own, 0, [fl y]⟩] : AHeap)) j ⟨.own, v + 1, l.map fl ++ [fl y]⟩) (.so _ _ _ hn (by rw [List.getElem?_set_self (by simp; omega)]; simp)) (by simp)
      (fun a ha => by rw [List.getElem?_set_ne (by omega), List.getElem?_append_left (by omega)])
    simpa using this
theorem OG.pur {k : Nat} {σ : AHeap} {S : Nat → Prop} (hS : ∀ j, S j) {r : AV} {l : List Nat} (h : OG k σ r l) : ∃ nl cap, Pur σ S r (fsl nl l cap) := by
  cases h with
  | nil => exact ⟨true, some 0, .same _ (by simp)⟩
  | so j v l hn hj => exact ⟨false, none, pur_fl (more := []) (by simpa using hj) (hS j)⟩
theorem OG.sc {k : Nat} {σ : AHeap} {r : AV} {l : List Nat} (h : OG k σ r l) : Sc σ.length r := by
  cases h with
  | nil => exact .pl _ _ _ _
  | so j v l hn hj => exact .so _ _ _ _ _ _ (List.getElem?_eq_some_iff.1 hj).1

theorem line_take {t : List Nat} {n i' k : Nat} (hn : n ≤ 6) (ht : t.length = sizeN n) (hi : i' ≤ n) (hk : k ≤ n) : (lineOf t n i').take (k + 1) = (lineOf t n i').take k ++ [(lineOf t n i').getD k 0] := by
  have hl := line_len hn ht hi
  rw [List.take_succ_eq_append_getElem (by omega)]
  simp [hl, show k < n + 1 by omega]

end Go.Proofs.Nt
/- gram.Factor. -/
set_option linter.unusedVariables false
set_option maxRecDepth 20000
set_option linter.unusedSimpArgs false
set_option linter.unnecessarySimpa false
namespace Go.Proofs.Nt
open Go Go.Proofs Go.Proofs.Va Go.RowKit

def factorP (c : Int) (t : List Nat) (rows turns : Int) (r : AV) : Prop :=
  if triOk c t rows turns = true then ∃ us nl cap, us.map DV.d = rowsG c.toNat (linesOf t c.toNat) ∧ r = .tup [dsl nl us cap, bo true] else r = .tup [.pl true [] 0 (some 0), bo false]
theorem lines_len (t : List Nat) (n : Nat) : (linesOf t n).length = n + 1 := by simp [linesOf]
theorem lines_at (t : List Nat) {n g : Nat} (h : g < n + 1) : (linesOf t n)[g]'(by rw [lines_len]; exact h) = ((lineOf t n g).take n, (lineOf t n g).getD n 0) := by simp [linesOf]
theorem okRows_ok {n : Nat} {rs : List (List Nat × Nat)} (h : okRows n rs = true) : rowsOk n rs := by
  obtain ⟨n', e, _, _, hr⟩ := okRows_nat h
  obtain rfl : n = n' := by omega
  exact hr

end Go.Proofs.Nt
/- gram.Fade. -/
set_option linter.unusedVariables false
set_option maxRecDepth 20000
set_option linter.unusedSimpArgs false
set_option linter.unnecessarySimpa false
namespace Go.Proofs.Nt
open Go Go.Proofs Go.Proofs.Va Go.RowKit

/-- A list that is faded, if by a number. -/
def fadeP (a : List Dy) (b : Nat) (r : AV) : Prop :=
  if fin b = true then ∃ us nl cap, us.map DV.d = fadeL a (fromD b) ∧ r = .tup [dsl nl us cap, bo true] else r = .tup [.pl true [] 0 (some 0), bo false]

theorem zip_rep (f : Dy → Dy → Dy) (a : List Dy) (p : Dy) : List.zipWith f a (List.replicate a.length p) = a.map fun d => f d p := by
  induction a with
  | nil => rfl
  | cons x a ih => rw [List.length_cons, List.replicate_succ, List.zipWith_cons_cons, ih]; rfl

end Go.Proofs.Nt
/- ref08.Same, Few. -/
set_option linter.unusedVariables false
set_option maxRecDepth 20000
set_option linter.unusedSimpArgs false
set_option linter.unnecessarySimpa false
namespace Go.Proofs.Nt
open Go Go.Proofs Go.Proofs.Va Go.RowKit

theorem map_d_eq {a b : List DV} (hl : a.length = b.length) (h : ∀ q, q < a.length → (gv a q).d = (gv b q).d) : a.map DV.d = b.map DV.d := by
  refine List.ext_getElem (by simpa using hl) fun q h1 h2 => ?_
  simp only [List.length_map] at h1 h2
  have := h q h1
  rw [gv_at h1, gv_at h2] at this
  simpa using this
def fewB (m : Int) (l : List RV) : Bool := decide ((l.length : Int) ≤ m) && l.all fun r => decide (r.x.length ≤ 12)
end Go.Proofs.Nt
/- Lists of rows that grow; ref08.Lines. -/
set_option linter.unusedVariables false
set_option maxRecDepth 20000
set_option linter.unusedSimpArgs false
set_option linter.unnecessarySimpa false
namespace Go.Proofs.Nt
open Go Go.Proofs Go.Proofs.Va Go.RowKit

/-- An own list of rows, at place k or above. -/
inductive OR (k : Nat) (σ : AHeap) : AV → List RV → Prop
  | nil : OR k σ (.pl true [] 0 (some 0)) []
  | so (j v : Nat) (l : List RV) : k ≤ j → σ[j]? = some ⟨.own, v, rcs l⟩ → OR k σ (.so j v 0 l.length 2 none) l

theorem pu_rcs (l : List RV) : ∀ x ∈ rcs l, Pu x := by
  induction l with
  | nil => intro x hx; simp [rcs] at hx
  | cons a l ih =>
    intro x hx
    have : rcs (a :: l) = fsl a.xn a.x a.xc :: fl a.y :: rcs l := (rfl)
    rw [this] at hx
    simp only [List.mem_cons] at hx
    rcases hx with rfl | rfl | hx
    · simp
    · simp
    · exact ih x hx
theorem OR.pur {k : Nat} {σ : AHeap} {S : Nat → Prop} (hS : ∀ j, S j) {r : AV} {l : List RV} (h : OR k σ r l) : ∃ nl cap, Pur σ S r (LR.av ⟨nl, l, cap⟩) := by
  cases h with
  | nil => exact ⟨true, some 0, .same _ (by simp)⟩
  | so j v l hn hj =>
    refine ⟨false, none, .so j v 0 l.length 2 none _ (rcs l) hj rfl (fun h => by cases h) (hS j) ?_ (rcs_len l) fun q hq => ?_⟩
    · show 0 + l.length * 2 ≤ (rcs l).length
      rw [rcs_len]; omega
    · rw [Nat.zero_add, getD_eq hq]
      exact .same _ (pu_rcs l _ (List.getElem_mem hq))
theorem OR.sc {k : Nat} {σ : AHeap} {r : AV} {l : List RV} (h : OR k σ r l) : Sc σ.length r := by
  cases h with
  | nil => exact .pl _ _ _ _
  | so j v l hn hj => exact .so _ _ _ _ _ _ (List.getElem?_eq_some_iff.1 hj).1

theorem cells_g2 (a b : AV) : cellsOf (.agg [a, b]) = some [a, b] := (rfl)
theorem cells_vf (k : FloatKind) (n : Nat) : cellsOf (.v (.float k n)) = some [.v (.float k n)] := (rfl)
end Go.Proofs.Nt
/- ref08.Add, Sub, Fade, Zero. -/
set_option linter.unusedVariables false
set_option maxRecDepth 20000
set_option linter.unusedSimpArgs false
set_option linter.unnecessarySimpa false
namespace Go.Proofs.Nt
open Go Go.Proofs Go.Proofs.Va Go.RowKit

/-- Two lists joined, by the document. -/
def joinR (f : Dy → Dy → Dy) (a b : List DV) (r : AV) : Prop :=
  if a.length = b.length then ∃ us nl cap, us.map DV.d = List.zipWith f (a.map DV.m) (b.map DV.m) ∧ r = .tup [dsl nl us cap, bo true] else r = .tup [.pl true [] 0 (some 0), bo false]
theorem zip_at {f : Dy → Dy → Dy} {a b : List Dy} {g : Nat} (ha : g < a.length) (hb : g < b.length) : List.zipWith f (a.take (g + 1)) (b.take (g + 1)) = List.zipWith f (a.take g) (b.take g) ++ [f a[g] b[g]] := by
  rw [List.take_succ_eq_append_getElem ha, List.take_succ_eq_append_getElem hb, List.zipWith_append (by simp; omega)]; rfl
end Go.Proofs.Nt
/- ref08.Fade, Zero. -/
set_option linter.unusedVariables false
set_option maxRecDepth 20000
set_option linter.unusedSimpArgs false
set_option linter.unnecessarySimpa false
namespace Go.Proofs.Nt
open Go Go.Proofs Go.Proofs.Va Go.RowKit

theorem fade_take {a : List Dy} {p : Dy} {g : Nat} (h : g < a.length) : fadeL (a.take (g + 1)) p = fadeL (a.take g) p ++ [mulD (mulD a[g] p) p] := by
  rw [List.take_succ_eq_append_getElem h]
  unfold fadeL
  rw [List.map_append]; rfl
end Go.Proofs.Nt
