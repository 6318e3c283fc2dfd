import Derived.Test.YtkmodieicfaohaaGreatWa
import Derived.Test.YtkmodieicfaohaaGreatWb
import Derived.Test.YtkmodieicfaohaaGreatWc
import Derived.Test.YtkmodieicfaohaaGreatWd
import Derived.Test.YtkmodieicfaohaaGreatWe
import Derived.Test.YtkmodieicfaohaaGreatWf
import Derived.Test.YtkmodieicfaohaaGreatWg
import Derived.Test.YtkmodieicfaohaaGreatWh
import Derived.Test.YtkmodieicfaohaaGreatWi
/- tri.rows: the rows of what is stored. -/
set_option linter.unusedVariables false
set_option maxRecDepth 20000
set_option linter.unusedSimpArgs false
set_option linter.unnecessarySimpa false
namespace Go.Proofs.Nt
open Go Go.Proofs Go.Proofs.Va Go.RowKit

@[simp] theorem fldC0 : fldT Tryz.prog 42 0 = some (3, 0) := by kernel_rfl
@[simp] theorem fldC1 : fldT Tryz.prog 42 1 = some (25, 1) := by kernel_rfl
@[simp] theorem fldC2 : fldT Tryz.prog 42 2 = some (3, 2) := by kernel_rfl
@[simp] theorem fldC3 : fldT Tryz.prog 42 3 = some (3, 3) := by kernel_rfl
@[simp] theorem szC : szT Tryz.prog 42 = some 4 := by kernel_rfl
@[simp] theorem aggC : aggT Tryz.prog 42 = some true := by kernel_rfl
@[simp] theorem zcC : zcT Tryz.prog 42 = some [.v (.int .i64 0), .pl true [] 0 (some 0), .v (.int .i64 0), .v (.int .i64 0)] := by kernel_rfl

@[simp] theorem zcB4 : zcT Tryz.prog 4 = some [.v (.bool false)] := by kernel_rfl
@[simp] theorem zcFs : zcT Tryz.prog 25 = some [.pl true [] 0 (some 0)] := by kernel_rfl
theorem cells_g4 (a b c d : AV) : cellsOf (.agg [a, b, c, d]) = some [a, b, c, d] := (rfl)

theorem rows_call {x : List AV} {σ : AHeap} {K : AV → AHeap → Prop} (hx : x.length = 4) (h : K (.fn (.func 177) [] [.po σ.length 0 0]) (σ ++ [⟨.own, 0, x⟩])) : ACall Tryz.prog 150 [.agg x] σ K := by
  refine acall_in Tryz.func150 rfl (by kernel_rfl) rfl ?_
  have hc : cellsOf (.agg x) = some x := rfl
  simp [Tryz.f150, -cellsOf, hc]
  exact h

theorem drop_drop' {t : List Nat} {n k : Nat} (hn : n ≤ 6) (hk : k ≤ n) : (t.drop (rowN n k)).drop (n + 1 - k) = t.drop (rowN n (k + 1)) := by
  rw [List.drop_drop, row_succ hn hk]
theorem rows_iter {n : Nat} {t : List Nat} (tn : Bool) (tc : Option Nat) (rows turns : Int) {b : Nat} {σ : AHeap} {Y : List AV → AHeap → (AHeap → Prop) → (Exit → AHeap → Prop) → Prop} {D : AHeap → Prop} {X : Exit → AHeap → Prop}
    (hn : n ≤ 6) (ht : t.length = sizeN n) (Inv : Nat → AHeap → Prop) (h0 : Inv 0 σ) (hb : σ[b]? = some ⟨.own, 0, [i n, fsl tn t tc, i rows, i turns]⟩)
    (hy : ∀ k σ' nl cap, k ≤ n → Inv k σ' → ∀ Kt : AHeap → Prop, (∀ σ2, Inv (k + 1) σ2 → Kt σ2) → Y [fsl nl (triRow t n k) cap] σ' Kt X)
    (hd : ∀ k σ', Inv k σ' → k = n + 1 → D σ') : AIter Tryz.prog 177 [.po b 0 0] σ Y D X := by
  refine aiter_in Tryz.func177 rfl rfl rfl fun l => ?_
  have hw0 : IntKind.i64.wrap ((n : Int) + 1) = ((n + 1 : Nat) : Int) := w64 _ (by omega) (by omega)
  refine awi_seq (awi_reg ?_)
  simp [argT, Tryz.f177, hb, hw0, -Int.natCast_add]
  refine awi_seq (awi_reg ?_)
  simp [argT, Tryz.f177, hb, hw0, -Int.natCast_add]
  refine awi_block (awi_loop_on (γ := Nat × Bool × Option Nat × AHeap) 23 (fun g => [(0, .fn (.yield l) [] []), (3, fsl g.2.1 (t.drop (rowN n g.1)) g.2.2.1), (4, i ((n + 1 - g.1 : Nat) : Int))]) (fun g => g.2.2.2)
    (fun g => g.1 ≤ n + 1 ∧ Inv g.1 g.2.2.2) (fun g => n + 1 - g.1) (0, tn, tc, σ) ⟨Nat.zero_le _, h0⟩ rfl (by simp [row_zero]) ?_)
  rintro ⟨k, fn, fc, σ1⟩ ⟨hk, hI⟩ L hL
  simp only at hk hI
  refine awi_seq (awi_seq (awi_reg ?_))
  simp
  by_cases hkn : k ≤ n
  · have c1 : (0 : Int) < ((n + 1 - k : Nat) : Int) := by omega
    have hr := row_succ hn hkn
    have hs := (row_facts hn (i := k + 1) (by omega)).2.1
    have hlen : n + 1 - k ≤ (t.drop (rowN n k)).length := by rw [List.length_drop]; omega
    have hw1 : IntKind.i64.wrap (((n + 1 - k : Nat) : Int) - 1) = ((n + 1 - (k + 1) : Nat) : Int) := by rw [w64 _ (by omega) (by omega)]; omega
    refine awi_cond (q := true) (by simp; omega) (fun _ => awi_skip ?_) (fun h => by cases h)
    simp
    refine awi_seq (awi_block (awi_seq (awi_yield_at 4 rfl rfl rfl rfl rfl rfl rfl rfl ?_)))
    simp [-aSlice]
    refine slice_fhi hlen ?_
    simp
    refine hy k σ1 _ _ hkn hI _ fun σ2 hI2 => ?_
    simp [put_lst]
    refine awi_reg ?_
    simp [-aSlice]
    refine slice_flo hlen ?_
    rw [drop_drop' hn hkn]
    simp
    refine awi_reg ?_
    simp [hw1, -Int.natCast_add]
    exact hL (k + 1, (fn && (List.drop (rowN n k) t).isEmpty), fc.map (· - (n + 1 - k)), σ2) _ _ ⟨by show k + 1 ≤ n + 1; omega, hI2⟩ rfl (by simp) (by show n + 1 - (k + 1) < n + 1 - k; omega)
  · refine awi_cond (q := false) (by simp; omega) (fun h => by cases h) (fun _ => awi_exit ?_)
    simp
    exact hd k _ hI (by omega)
end Go.Proofs.Nt
/- tri.Check, has. -/
set_option linter.unusedVariables false
set_option maxRecDepth 20000
set_option linter.unusedSimpArgs false
set_option linter.unnecessarySimpa false
namespace Go.Proofs.Nt
open Go Go.Proofs Go.Proofs.Va Go.RowKit

theorem take_row {t : List Nat} {n k : Nat} (hn : n ≤ 6) (hk : k ≤ n) : t.take (rowN n (k + 1)) = t.take (rowN n k) ++ triRow t n k := by
  rw [row_succ hn hk, List.take_add]; rfl
theorem row_head {t : List Nat} {n k : Nat} (hn : n ≤ 6) (hk : k ≤ n) {y : Nat} {ys : List Nat} (h : triRow t n k = y :: ys) : t.getD (rowN n k) 0 = y := by
  have := triRow_get (t := t) hn (Nat.le_refl k) hk
  rw [at_row hn (Nat.le_refl k) hk, Nat.sub_self, Nat.add_zero, h] at this
  exact this.symm
theorem fl_sub {t : List Nat} {n k : Nat} (h : Fl t) : Fl (triRow t n k) := fun x hx => h x (List.mem_of_mem_drop (List.mem_of_mem_take hx))
/-- The whole: all rows are well. -/
theorem triOk_all {n : Nat} {t : List Nat} {rows turns : Int} (h1 : 1 ≤ n) (hn : n ≤ 6) (ht : t.length = sizeN n) (hr : 0 ≤ rows ∧ rows ≤ 200) (hu : 0 ≤ turns ∧ turns ≤ 4096)
    (hA : (t.take (rowN n (n + 1))).any largeB = false) (hB : ∀ i, i < n + 1 → fsg (t.getD (rowN n i) 0) = false) : triOk n t rows turns = true := by
  rw [(row_facts hn (Nat.le_refl (n + 1))).2.2 rfl, ← ht, List.take_length] at hA
  unfold triOk
  rw [Bool.and_eq_true, Bool.and_eq_true]
  refine ⟨⟨decide_eq_true ⟨by omega, ?_, hr, hu⟩, ?_⟩, ?_⟩
  · unfold sizeI; rw [if_pos (by omega), ht]; rfl
  · rw [List.all_eq_true]
    intro x hx
    have := List.any_eq_false.1 hA x hx
    simpa using this
  · rw [List.all_eq_true]
    intro j hj
    rw [List.mem_range] at hj
    rw [Int.toNat_natCast] at hj ⊢
    rw [hB j (by omega)]; rfl
theorem triOk_pre {c : Int} {t : List Nat} {rows turns : Int} (h : triOk c t rows turns = true) : sizeI c ≠ 0 ∧ (t.length : Int) = sizeI c ∧ (0 ≤ rows ∧ rows ≤ 200) ∧ (0 ≤ turns ∧ turns ≤ 4096) := by
  unfold triOk at h
  rw [Bool.and_eq_true, Bool.and_eq_true] at h
  obtain ⟨hc, hl, h3, h4⟩ := of_decide_eq_true h.1.1
  exact ⟨by have := (size_facts (c := c) hc).2.2; omega, hl, h3, h4⟩

theorem tcheck_ctr (c : Int) (t : List Nat) (tn : Bool) (tc : Option Nat) (rows turns : Int) (hf : Fl t) (hl : t.length ≤ 1000000) : Ctr Tryz.prog 107 [.agg [i c, fsl tn t tc, i rows, i turns]] (fun r => r = bo (triOk c t rows turns)) := by
  refine ctr_val Tryz.func107 rfl (by kernel_rfl) rfl (by simp) fun K hK => ?_
  have hF : (triOk c t rows turns = true → False) → ∀ σ, K (.v (.bool false)) σ := by
    intro h σ
    have := Bool.eq_false_iff.2 h
    rw [this] at hK
    exact hK σ
  simp [Tryz.f107, cells_g4, -cellsOf]
  refine acall_by (size_ctr c) (by simp) ?_
  rintro _ rfl
  by_cases a1 : sizeI c = 0
  · simp [a1]
    exact hF (fun h => (triOk_pre h).1 a1) _
  by_cases a2 : (t.length : Int) = sizeI c
  case neg =>
    simp [a1, a2]
    exact hF (fun h => a2 (triOk_pre h).2.1) _
  by_cases a3 : rows < 0
  · simp [a1, a2, a3]
    exact hF (fun h => by have := (triOk_pre h).2.2.1; omega) _
  by_cases a4 : 200 < rows
  · simp [a1, a2, a3, a4]
    exact hF (fun h => by have := (triOk_pre h).2.2.1; omega) _
  by_cases a5 : turns < 0
  · simp [a1, a2, a3, a4, a5]
    exact hF (fun h => by have := (triOk_pre h).2.2.2; omega) _
  by_cases a6 : 4096 < turns
  · simp [a1, a2, a3, a4, a5, a6]
    exact hF (fun h => by have := (triOk_pre h).2.2.2; omega) _
  have hc : 1 ≤ c ∧ c ≤ 6 := by
    apply Classical.byContradiction
    intro h
    exact a1 (if_neg h)
  obtain ⟨n, rfl⟩ : ∃ n : Nat, c = n := ⟨c.toNat, by omega⟩
  have hn : n ≤ 6 := by omega
  have ht : t.length = sizeN n := by
    unfold sizeI at a2
    rw [if_pos hc, Int.toNat_natCast] at a2
    omega
  simp [a1, a2, a3, a4, a5, a6]
  refine rows_call rfl ?_
  simp
  refine range_on (lb := [.po 2 0 0]) (by simp) Tryz.func177 rfl (by kernel_rfl) ?_
  refine rows_iter tn tc rows turns (b := 2) hn ht (fun k σ' => σ' = ([⟨.own, 0, [i n, fsl tn t tc, i rows, i turns]⟩, ⟨.own, 0, [.v (.bool false)]⟩, ⟨.own, 0, [i n, fsl tn t tc, i rows, i turns]⟩] : AHeap) ∧ (t.take (rowN n k)).any largeB = false ∧ ∀ j, j < k → fsg (t.getD (rowN n j) 0) = false)
    ⟨rfl, by rw [row_zero]; rfl, fun j hj => by omega⟩ rfl ?_ ?_
  · rintro k _ nl cap hkn ⟨rfl, hA, hB⟩ Kt hKt
    have hrl := triRow_len hn ht hkn
    have hfl := fl_sub (n := n) (k := k) hf
    have htk := take_row (t := t) hn hkn
    have hmem : ∀ x ∈ triRow t n k, x ∈ t := fun x hx => List.mem_of_mem_drop (List.mem_of_mem_take hx)
    have hhd := fun y ys => row_head (t := t) (y := y) (ys := ys) hn hkn
    generalize triRow t n k = R at *
    obtain ⟨y, ys, rfl⟩ : ∃ y ys, R = y :: ys := by
      cases R with
      | nil => rw [List.length_nil] at hrl; omega
      | cons y ys => exact ⟨y, ys, rfl⟩
    have hhd := hhd y ys rfl
    have hy : y < 18446744073709551616 := hfl y (by simp)
    have hlen : (y :: ys).length ≤ 100000 := by omega
    have cC := contains_ctr nl cap largeB 151 hlen fun x hx => large_ctr (hfl x hx)
    simp [bodyW]
    refine acall_by (signbit_ctr hy) (by simp) ?_
    rintro _ rfl
    by_cases b1 : fsg y = true
    · simp [b1]
      refine hF (fun h => ?_) _
      obtain ⟨n', e, _, _, _, _, h6⟩ := triOk_nat h
      obtain rfl : n = n' := by omega
      have := h6 k hkn
      rw [hhd, b1] at this; cases this
    rw [Bool.not_eq_true] at b1
    simp [b1]
    refine acall_by cC (by simp) ?_
    rintro _ rfl
    by_cases b2 : (y :: ys).any largeB = true
    · have b2' := b2
      rw [List.any_cons] at b2'
      simp [b2', -Bool.or_eq_true]
      refine hF (fun h => ?_) _
      obtain ⟨n', e, _, _, _, h5, _⟩ := triOk_nat h
      obtain ⟨x, hx, hb⟩ := List.any_eq_true.1 b2
      rw [h5 x (hmem x hx)] at hb; cases hb
    rw [Bool.not_eq_true] at b2
    have b2' := b2
    rw [List.any_cons] at b2'
    simp [b2', -Bool.or_eq_false_iff]
    refine hKt _ ⟨rfl, by rw [htk, List.any_append, hA, b2]; rfl, fun j hj => ?_⟩
    by_cases hjk : j = k
    · rw [hjk, hhd, b1]
    · exact hB j (by omega)
  · rintro k _ ⟨rfl, hA, hB⟩ rfl
    simp
    have := triOk_all (rows := rows) (turns := turns) (by omega) hn ht (by omega) (by omega) hA hB
    rw [this] at hK
    exact hK _

theorem has_ctr (c : Int) (t : List Nat) (tn : Bool) (tc : Option Nat) (rows turns j : Int) (hf : Fl t) (hl : t.length ≤ 1000000) :
    Ctr Tryz.prog 152 [.agg [i c, fsl tn t tc, i rows, i turns], i j] (fun r => r = bo (triOk c t rows turns && (decide (0 ≤ j) && decide (j ≤ c)))) := by
  refine ctr_val Tryz.func152 rfl (by kernel_rfl) rfl (by simp) fun K hK => ?_
  simp [Tryz.f152, cells_g4, -cellsOf]
  refine acall_by (tcheck_ctr c t tn tc rows turns hf hl) (by intro z hz; rw [List.mem_singleton.1 hz]; exact pu_agg (by simp)) ?_
  rintro _ rfl
  generalize triOk c t rows turns = q at *
  cases q
  · simp
    exact hK _
  by_cases h0 : 0 ≤ j
  · by_cases h1 : j ≤ c
    · simp [h0, h1] at hK
      simp [h0, h1]
      exact hK _
    · simp [h0, h1] at hK
      simp [h0, h1]
      exact hK _
  · simp [h0] at hK
    simp [h0]
    exact hK _
end Go.Proofs.Nt
/- tri.Line, gram.Factor. -/
set_option linter.unusedVariables false
set_option maxRecDepth 20000
set_option linter.unusedSimpArgs false
set_option linter.unnecessarySimpa false
namespace Go.Proofs.Nt
open Go Go.Proofs Go.Proofs.Va Go.RowKit

theorem append_line {m J a : Nat} {R : List Nat} {nl : Bool} {cap : Option Nat} {σ : AHeap} {K : AV → AHeap → Prop} (hj : σ[a]? = some ⟨.own, 0, List.replicate m (fl 0)⟩) (hm : J + R.length = m) (hb : m ≤ 1000)
    (hK : K (.so a 1 0 m 1 none) (σ.set a ⟨.own, 1, (List.replicate J 0 ++ R).map fl⟩)) : aAppend Tryz.prog 25 25 (.so a 0 0 J 1 (some m)) (fsl nl R cap) σ K := by
  have e1 : (List.replicate m (fl 0)).take J = List.replicate J (fl 0) := by rw [List.take_replicate, Nat.min_eq_left (by omega)]
  have e2 : J ≤ m := by omega
  have e3 : (List.replicate J 0 ++ R).map fl = List.replicate J (fl 0) ++ R.map fl := by rw [List.map_append, List.map_replicate]
  rw [e3] at hK
  unfold fsl
  simp [hj, e1, e2, hm, -List.replicate]
  refine ⟨by omega, ?_⟩
  simpa using hK

theorem cells_so (a v o n z : Nat) (c : Option Nat) : cellsOf (.so a v o n z c) = some [.so a v o n z c] := (rfl)
theorem cells_v (k : IntKind) (n : Int) : cellsOf (.v (.int k n)) = some [.v (.int k n)] := (rfl)
theorem pur_fl {σ : AHeap} {S : Nat → Prop} {j v : Nat} {l : List Nat} {more : List AV} {cap : Option Nat} (hj : σ[j]? = some ⟨.own, v, l.map fl ++ more⟩) (hS : S j) : Pur σ S (.so j v 0 l.length 1 cap) (fsl false l cap) := by
  refine .so j v 0 l.length 1 cap _ (l.map fl) hj rfl (fun h => by cases h) hS (by simp) (by simp) fun q hq => ?_
  simp only [List.length_map] at hq
  show Pur σ _ ((l.map fl ++ more).getD (0 + q) .any) _
  rw [Nat.zero_add, List.getD_eq_getElem?_getD, List.getElem?_append_left (by simpa using hq), ← List.getD_eq_getElem?_getD, getD_eq (by simpa using hq)]
  exact .same _ (by simp)
/-- A line, where it is. -/
def lineP (c : Int) (t : List Nat) (rows turns j : Int) (r : AV) : Prop :=
  if (triOk c t rows turns && (decide (0 ≤ j) && decide (j ≤ c))) = true then ∃ nl cap, r = fsl nl (lineOf t c.toNat j.toNat) cap else r = .pl true [] 0 (some 0)

theorem tline_ctr (c : Int) (t : List Nat) (tn : Bool) (tc : Option Nat) (rows turns j : Int) (hf : Fl t) (hl : t.length ≤ 1000000) :
    Ctr Tryz.prog 108 [.agg [i c, fsl tn t tc, i rows, i turns], i j] (lineP c t rows turns j) := by
  refine ctr_in Tryz.func108 rfl (by kernel_rfl) rfl fun K hK => ?_
  simp [Tryz.f108, cells_g4, -cellsOf]
  refine acall_by (has_ctr c t tn tc rows turns j hf hl) (by intro z hz; simp only [List.mem_cons, List.not_mem_nil, or_false] at hz; rcases hz with rfl | rfl; exact pu_agg (by simp); simp) ?_
  rintro _ rfl
  by_cases hq : (triOk c t rows turns && (decide (0 ≤ j) && decide (j ≤ c))) = true
  case neg =>
    simp only [lineP, if_neg hq] at hK
    rw [Bool.not_eq_true] at hq
    rw [hq]
    simp
    exact hK _ _ _ (.same _ (by simp)) rfl
  simp only [lineP, if_pos hq] at hK
  rw [hq]
  rw [Bool.and_eq_true, Bool.and_eq_true] at hq
  obtain ⟨hok, hj0, hj1⟩ := hq
  have hj0 := of_decide_eq_true hj0
  have hj1 := of_decide_eq_true hj1
  obtain ⟨n, rfl, h1, hn, ht, _, _⟩ := triOk_nat hok
  obtain ⟨J, rfl⟩ : ∃ J : Nat, j = J := ⟨j.toNat, by omega⟩
  have hJ : J ≤ n := by omega
  obtain ⟨m, hm⟩ : ∃ m, m = n + 1 := ⟨_, rfl⟩
  have hw0 : IntKind.i64.wrap ((n : Int) + 1) = (m : Int) := by rw [w64 _ (by omega) (by omega)]; omega
  have hz : ∀ x : AV, reps m [x] = List.replicate m x := fun x => by
    clear hw0 hm
    induction m with
    | zero => rfl
    | succ m ih => show [x] ++ reps m [x] = _; rw [ih]; rfl
  have hz : reps m [fl 0] = List.replicate m (fl 0) := hz _
  simp [cells_g4, cells_so, cells_v, -cellsOf, hw0, -reps, hz, -List.replicate]
  refine ⟨⟨by omega, by omega⟩, ?_⟩
  refine rows_call (x := [_, _, _, _]) rfl ?_
  simp [-List.replicate]
  refine range_on (lb := [.po 5 0 0]) (by simp) Tryz.func177 rfl (by kernel_rfl) ?_
  refine rows_iter tn tc rows turns (b := 5) hn ht (fun k σ' => σ' = ([⟨.own, 0, [i n, fsl tn t tc, i rows, i turns]⟩, ⟨.own, 0, [i J]⟩, ⟨.own, 0, List.replicate m (fl 0)⟩, ⟨.own, 0, [.so 2 0 0 J 1 (some m)]⟩, ⟨.own, 0, [i k]⟩, ⟨.own, 0, [i n, fsl tn t tc, i rows, i turns]⟩] : AHeap) ∧ k ≤ J)
    ⟨rfl, Nat.zero_le _⟩ rfl ?_ ?_
  · rintro k _ nl cap hkn ⟨rfl, hkJ⟩ Kt hKt
    have hrl := triRow_len hn ht hkn
    have hw1 : IntKind.i64.wrap ((k : Int) + 1) = ((k + 1 : Nat) : Int) := w64 _ (by omega) (by omega)
    by_cases hkj : k = J
    · subst hkj
      simp [bodyW, -aAppend, -List.replicate]
      refine append_line rfl (by omega) (by omega) ?_
      simp [-List.replicate]
      have hll := line_len hn ht (i := k) (by omega)
      refine hK _ _ (fsl false (lineOf t n k) none) ?_ ⟨_, _, rfl⟩
      rw [← hm] at hll
      rw [← hll]
      exact pur_fl (more := []) (by simp [lineOf, -List.replicate]) trivial
    · simp [bodyW, hkj, hw1, -aAppend, -List.replicate, -Int.natCast_add]
      exact hKt _ ⟨rfl, by omega⟩
  · rintro k _ ⟨rfl, hkJ⟩ rfl
    omega
end Go.Proofs.Nt
/- slices.Repeat of one dyad; gram.Fade. -/
set_option linter.unusedVariables false
set_option maxRecDepth 20000
set_option linter.unusedSimpArgs false
set_option linter.unnecessarySimpa false
namespace Go.Proofs.Nt
open Go Go.Proofs Go.Proofs.Va Go.RowKit

theorem mul64_one (m : Nat) (hm : m ≤ 1000000) : Ctr Tryz.prog 164 [.v (.int .u64 1), .v (.int .u64 m)] (fun r => r = .tup [.v (.int .u64 0), .v (.int .u64 m)]) := by
  refine ctr_val Tryz.func164 rfl (by kernel_rfl) rfl (pu_tup (by simp)) fun K hK => ?_
  have b1 : bAnd .u64 1 4294967295 = 1 := by
    have := bAnd_u64 (x := 1) (y := 4294967295) (by decide) (by decide)
    exact this
  have b2 : bAnd .u64 (m : Int) 4294967295 = (m : Int) := by
    have := bAnd_u64 (x := m) (y := 4294967295) (by omega) (by decide)
    have e : m &&& 4294967295 = m := by
      rw [show (4294967295 : Nat) = 2 ^ 32 - 1 from rfl, Nat.and_two_pow_sub_one_eq_mod, Nat.mod_eq_of_lt (by omega)]
    rw [e] at this
    exact this
  have b0 : bAnd .u64 0 4294967295 = 0 := by
    have := bAnd_u64 (x := 0) (y := 4294967295) (by decide) (by decide)
    exact this
  have w0 : IntKind.u64.wrap 0 = 0 := rfl
  have w1 : IntKind.u64.wrap 1 = 1 := rfl
  have w2 : IntKind.u64.wrap (m : Int) = (m : Int) := wu _ (by omega)
  have d1 : (m : Int) / 4294967296 = 0 := by omega
  have d2 : (m : Int).fdiv 4294967296 = 0 := by rw [Int.fdiv_eq_ediv_of_nonneg _ (by omega)]; exact d1
  simp [Tryz.f164, b1, b2, b0, w0, w1, w2, d1, d2]
  exact hK _
theorem bmul_one (m : Nat) (hm : m ≤ 1000000) : Ctr Tryz.prog 132 [.v (.int .u64 1), .v (.int .u64 m)] (fun r => r = .tup [.v (.int .u64 0), .v (.int .u64 m)]) := by
  refine ctr_val Tryz.func132 rfl (by kernel_rfl) rfl (pu_tup (by simp)) fun K hK => ?_
  simp [Tryz.f132]
  refine acall_by (mul64_one m hm) (by simp) ?_
  rintro _ rfl
  simp
  exact hK _

/-! ### Repeat -/
theorem dcs_take (l : List DV) : ∀ k, (dcs l).take (k * 3) = dcs (l.take k) := by
  induction l with
  | nil => intro k; simp [dcs]
  | cons a l ih =>
    intro k
    cases k with
    | zero => simp [dcs]
    | succ k =>
      have : dcs (a :: l) = a.cs ++ dcs l := by simp [dcs]
      rw [this, List.take_succ_cons, show (k + 1) * 3 = a.cs.length + k * 3 by show (k + 1) * 3 = 3 + k * 3; omega, List.take_append, List.take_of_length_le (by omega), Nat.add_sub_cancel_left, ih]
      simp [dcs]
theorem dcs_app (a b : List DV) : dcs (a ++ b) = dcs a ++ dcs b := by simp [dcs]
theorem splice_dcs (l s : List DV) (k : Nat) : splice (dcs l) (k * 3) (dcs s) = dcs (l.take k ++ s ++ l.drop (k + s.length)) := by
  unfold splice
  rw [dcs_len, ← Nat.add_mul, dcs_take, dcs_drop, dcs_app, dcs_app]
/-- So far: k of them. -/
def repL (d : DV) (m k : Nat) : List DV := List.replicate k d ++ List.replicate (m - k) zDV
theorem repL_len {d : DV} {m k : Nat} (h : k ≤ m) : (repL d m k).length = m := by unfold repL; simp; omega
theorem repL_step {d : DV} {m k j : Nat} (hk : k ≤ m) (hj : j ≤ k) (hm : j ≤ m - k) : splice (dcs (repL d m k)) (k * 3) ((dcs (repL d m k)).take (j * 3)) = dcs (repL d m (k + j)) := by
  have e : (dcs (repL d m k)).take (j * 3) = dcs (List.replicate j d) := by
    rw [dcs_take]; unfold repL
    rw [List.take_append_of_le_length (by simpa using hj), List.take_replicate, Nat.min_eq_left hj]
  rw [e, splice_dcs]
  congr 1
  unfold repL
  rw [List.take_append_of_le_length (by simp), List.take_of_length_le (by simp), List.length_replicate, List.drop_append]
  rw [List.drop_eq_nil_of_le (by simp), List.nil_append, List.length_replicate, List.drop_replicate, List.replicate_append_replicate]
  congr 2
  omega

theorem copy_first {d : DV} {nl : Bool} {cap : Option Nat} {m a : Nat} {σ : AHeap} {K : AV → AHeap → Prop} (h : σ[a]? = some ⟨.own, 0, dcs (List.replicate m zDV)⟩) (hK : K (i (min 1 m : Nat)) (σ.set a ⟨.own, 0, dcs (repL d m (min 1 m))⟩)) :
    aCopy Tryz.prog 22 (.so a 0 0 m 3 (some m)) (dsl nl [d] cap) σ K := by
  have hlen : (dcs (List.replicate m zDV)).length = m * 3 := by rw [dcs_len, List.length_replicate]
  have hd : dcs [d] = d.cs := by simp [dcs]
  have e : splice (dcs (List.replicate m zDV)) 0 (d.cs.take (min 1 m * 3)) = dcs (repL d m (min 1 m)) := by
    have := splice_dcs (List.replicate m zDV) ([d].take (min 1 m)) 0
    rw [Nat.zero_mul, ← dcs_take, hd] at this
    rw [this]
    unfold repL
    cases m with
    | zero => rfl
    | succ m =>
      have : min 1 (m + 1) = 1 := by omega
      rw [this]
      simp [List.replicate_succ]
  unfold dsl
  have h3 : d.cs.length = 3 := rfl
  simp [h, hlen, hd, h3, -splice]
  rw [e]
  simpa using hK

theorem copy_more {d : DV} {m g j a : Nat} {σ : AHeap} {K : AV → AHeap → Prop} (h : σ[a]? = some ⟨.own, 0, dcs (repL d m g)⟩) (hg : g ≤ m) (h1 : min g (m - g) ≤ g) (h2 : min g (m - g) ≤ m - g) (hj : min g (m - g) = j) (hK : K (i (j : Nat)) (σ.set a ⟨.own, 0, dcs (repL d m (g + j))⟩)) :
    aCopy Tryz.prog 22 (.so a 0 (g * 3) (m - g) 3 (some (m - g))) (.so a 0 0 g 3 (some m)) σ K := by
  have hlen : (dcs (repL d m g)).length = m * 3 := by rw [dcs_len, repL_len hg]
  rw [hj] at h1 h2
  have e := repL_step (d := d) (m := m) (k := g) (j := j) hg h1 h2
  have c1 : g * 3 ≤ m * 3 := by omega
  have c2 : g * 3 + (m - g) * 3 ≤ m * 3 := by omega
  have c3 : ((dcs (repL d m g)).take (g * 3)).take (j * 3) = (dcs (repL d m g)).take (j * 3) := by rw [List.take_take, Nat.min_eq_left (by omega)]
  simp only [i] at hK
  rw [← e, ← c3] at hK
  unfold aCopy srcC
  simp [h, hlen, hj, c1, c2, -splice] at hK ⊢
  exact hK
theorem repeat_ctr (d : DV) (nl : Bool) (cap : Option Nat) (m : Nat) (hm : m ≤ 100000) : Ctr Tryz.prog 95 [dsl nl [d] cap, i m] (fun r => ∃ c, r = dsl false (List.replicate m d) c) := by
  refine ctr_in Tryz.func95 rfl (by kernel_rfl) rfl fun K hK => ?_
  simp only [Tryz.f95, List.append_eq, List.cons_append, List.nil_append]
  have c1 : ¬ (m : Int) < 0 := by omega
  have w2 : IntKind.u64.wrap (m : Int) = (m : Int) := wu _ (by omega)
  have w3 : IntKind.i64.wrap (m : Int) = (m : Int) := w64 _ (by omega) (by omega)
  have w1 : IntKind.u64.wrap 1 = 1 := rfl
  simp [c1, w1, w2]
  refine acall_by (bmul_one m (by omega)) (by simp) ?_
  rintro _ rfl
  have c2 : ¬ 9223372036854775807 < m := by omega
  have hlen : (dcs (List.replicate m zDV)).length = m * 3 := by rw [dcs_len, List.length_replicate]
  simp [c2, w3, flat_dcs, -aCopy]
  refine ⟨⟨by omega, by omega⟩, ?_⟩
  refine copy_first (m := m) rfl ?_
  rw [lkC_on]
  simp [-aCopy]
  refine loop_on (γ := Nat) 48 (fun g => [(7, .so 0 0 0 m 3 (some m)), (8, i g)]) (fun g => [⟨.own, 0, dcs (repL d m g)⟩])
    (fun g => g ≤ m ∧ (0 < m → 0 < g)) (fun g => m - g) (min 1 m) ⟨by omega, by omega⟩ (Wk.lst (by simp) (by simp)) ?_
  rintro g ⟨hg, hg0⟩ L hL
  by_cases hlt : g < m
  · have hw1 : IntKind.i64.wrap ((g : Int) + (min g (m - g) : Nat)) = ((g + min g (m - g) : Nat) : Int) := w64 _ (by omega) (by omega)
    simp [hlt, -aCopy, -Int.natCast_add]
    refine draw_at [0, 0, 0, 1, 0, 0, 1, 4, 0, 0] orders (by kernel_rfl) ?_
    simp [hlt, -aCopy, -Int.natCast_add]
    refine ⟨by omega, copy_more (d := d) rfl hg (by omega) (by omega) (j := min g (m - g)) rfl ?_⟩
    rw [lkC_on]
    have hj : 0 < min g (m - g) := by omega
    have hjm : g + min g (m - g) ≤ m := by omega
    generalize min g (m - g) = j at *
    simp [hw1, -Int.natCast_add]

    exact hL (g + j) _ _ ⟨hjm, fun _ => by omega⟩ (Wk.lst (by simp) (by simp)) (by omega)
  · have : g = m := by omega
    subst this
    simp
    refine hK _ _ _ ?_ ⟨some g, rfl⟩
    exact pur_ds (k := .own) (l := List.replicate g d) (by simp [repL]) (by decide) (by simp) (by simp)
end Go.Proofs.Nt
/- ref01.Pow, ref07.Check, Get, Line. -/
set_option linter.unusedVariables false
set_option maxRecDepth 20000
set_option linter.unusedSimpArgs false
set_option linter.unnecessarySimpa false
namespace Go.Proofs.Nt
open Go Go.Proofs Go.Proofs.Va Go.RowKit

theorem make420 : makeV false 1 420 = .tup [fl 6498694262295625728, bo true] := by
  unfold makeV
  rw [if_neg (by decide)]
  have : nearW false 1 420 = 6498694262295625728 := by decide +kernel
  rw [this]
theorem rpow420_ctr : Ctr Tryz.prog 96 [i 420] (fun r => r = fl 6498694262295625728) := by
  refine ctr_val Tryz.func96 rfl (by kernel_rfl) rfl (by simp) fun K hK => ?_
  simp [Tryz.f96]
  refine acall_by (rmake_ctr (m := 1) (e := 420) false (by decide) (by decide)) (by simp) ?_
  rintro _ rfl
  rw [make420]
  simp
  exact hK _

theorem rat_lt {c i' j' : Nat} (h1 : 1 ≤ c) (hc : c ≤ 6) (hj : j' < i') : Ctr Tryz.prog 29 [i c, i i', i j'] (fun r => r = .tup [i 0, bo false]) := by
  refine ctr_val Tryz.func29 rfl (by kernel_rfl) rfl (pu_tup (by simp)) fun K hK => ?_
  simp only [Tryz.f29, List.append_eq, List.cons_append, List.nil_append]
  have f := (size_facts (c := c) (by omega)).2.2
  have n1 : ¬ sizeI c = 0 := by omega
  have n2 : ¬ ((i' : Nat) : Int) < 0 := by omega
  simp
  refine acall_by (rsize_ctr c) (by simp) ?_
  rintro _ rfl
  simp [n1, n2, hj]
  exact hK _
theorem split_kind (b : Nat) : decide (1 < fkind b) = decide (9218868437227405312 ≤ frg b) := by
  unfold fkind
  rcases Nat.lt_trichotomy (frg b) 9218868437227405312 with h | h | h
  · rw [if_neg (by omega), if_neg (by omega)]
    split <;> simp <;> omega
  · rw [if_neg (by omega), if_pos h, h]; rfl
  · rw [if_pos h]
    simp; omega

set_option maxHeartbeats 1000000 in
theorem rtcheck_ctr (c : Int) (t : List Nat) (tn : Bool) (tc : Option Nat) (rows turns : Int) (hf : Fl t) (hl : t.length ≤ 1000000) : Ctr Tryz.prog 109 [.agg [i c, fsl tn t tc, i rows, i turns]] (fun r => r = bo (triOk c t rows turns)) := by
  refine ctr_val Tryz.func109 rfl (by kernel_rfl) rfl (by simp) fun K hK => ?_
  have hF : (triOk c t rows turns = true → False) → ∀ σ, K (.v (.bool false)) σ := by
    intro h σ
    have := Bool.eq_false_iff.2 h
    rw [this] at hK
    exact hK σ
  simp [Tryz.f109, cells_g4, -cellsOf]
  refine draw_at [1, 1, 3, 0, 0, 1, 1, 1, 1, 1, 3, 0, 0, 0, 1, 1, 0, 0, 0, 1, 1, 0, 0, 0, 1, 1, 0, 0, 0, 1, 1, 0, 0] orders (by kernel_rfl) ?_
  simp
  refine acall_by (rsize_ctr c) (by simp) ?_
  rintro _ rfl
  by_cases a1 : sizeI c = 0
  · simp [a1]
    exact hF (fun h => (triOk_pre h).1 a1) _
  simp [a1]
  refine acall_by (rsize_ctr c) (by simp) ?_
  rintro _ rfl
  by_cases a2 : (t.length : Int) = sizeI c
  case neg =>
    simp [a1, a2]
    exact hF (fun h => a2 (triOk_pre h).2.1) _
  by_cases a3 : rows < 0
  · simp [a1, a2, a3]
    exact hF (fun h => by have := (triOk_pre h).2.2.1; omega) _
  by_cases a4 : 200 < rows
  · simp [a1, a2, a3, a4]
    exact hF (fun h => by have := (triOk_pre h).2.2.1; omega) _
  by_cases a5 : turns < 0
  · simp [a1, a2, a3, a4, a5]
    exact hF (fun h => by have := (triOk_pre h).2.2.2; omega) _
  by_cases a6 : 4096 < turns
  · simp [a1, a2, a3, a4, a5, a6]
    exact hF (fun h => by have := (triOk_pre h).2.2.2; omega) _
  have hc : 1 ≤ c ∧ c ≤ 6 := by
    apply Classical.byContradiction
    intro h
    exact a1 (if_neg h)
  obtain ⟨n, rfl⟩ : ∃ n : Nat, c = n := ⟨c.toNat, by omega⟩
  have hn : n ≤ 6 := by omega
  have ht : t.length = sizeN n := by
    unfold sizeI at a2
    rw [if_pos hc, Int.toNat_natCast] at a2
    omega
  have hsz := size_le hn
  simp [a1, a2, a3, a4, a5, a6]
  refine loop_on (γ := Nat) 104 (fun g => [(1, .po 0 0 0), (3, i g)]) (fun _ => [⟨.own, 0, [i n, fsl tn t tc, i rows, i turns]⟩]) (fun g => g ≤ t.length ∧ (t.take g).any largeB = false) (fun g => t.length - g)
    0 ⟨Nat.zero_le _, rfl⟩ (Wk.lst (by simp) (by simp)) ?_
  rintro g ⟨hg, hall⟩ L hL
  by_cases hlt : g < t.length
  · have hw1 : IntKind.i64.wrap ((g : Int) + 1) = ((g + 1 : Nat) : Int) := w64 _ (by omega) (by omega)
    have hb := hf _ (List.getElem_mem hlt)
    have htk : t.take (g + 1) = t.take g ++ [t[g]] := take_snoc hlt
    have hmem := List.getElem_mem hlt
    have hnext := hL (g + 1)
    simp only [htk, List.any_append, hall, List.any_cons, List.any_nil, Bool.or_false, Bool.false_or] at hnext
    have cS := rsplit_ctr hb
    have cA := fabs_ctr hb
    have hbad : largeB t[g] = true → ∀ σ, K (.v (.bool false)) σ := by
      intro h
      refine hF fun hk => ?_
      obtain ⟨n', e, _, _, _, h5, _⟩ := triOk_nat hk
      rw [h5 _ hmem] at h; cases h
    have hkd := split_kind t[g]
    have hgt := @gtr_f (frg t[g]) 6498694262295625728 (by decide)
    have hlg : largeB t[g] = decide (6498694262295625728 < frg t[g]) := rfl
    simp [hlt]
    refine acall_by cS (by simp) ?_
    rintro _ rfl
    unfold splitV
    by_cases k1 : 9218868437227405312 ≤ frg t[g]
    · have : 1 < fkind t[g] := by simpa [k1] using hkd
      simp [this]
      exact hbad (by rw [hlg]; exact decide_eq_true (by omega)) _
    have k2 : ¬ 1 < fkind t[g] := by simpa [k1] using hkd
    simp [k2, hlt]
    refine acall_by cA (by simp) ?_
    rintro _ rfl
    simp
    refine acall_by rpow420_ctr (by simp) ?_
    rintro _ rfl
    have hgt := hgt (by omega)
    simp [hgt]
    by_cases k3 : 6498694262295625728 < frg t[g]
    · simp [k3]
      exact hbad (by rw [hlg]; exact decide_eq_true k3) _
    simp [k3, hw1, -Int.natCast_add]
    exact hnext _ _ ⟨by omega, by rw [hlg]; exact decide_eq_false k3⟩ (Wk.lst (by simp) (by simp)) (by show _ - (g + 1) < _ - g; omega)
  have hge : g = t.length := by omega
  have hA : (t.take (rowN n (n + 1))).any largeB = false := by
    rw [(row_facts hn (Nat.le_refl (n + 1))).2.2 rfl, ← ht, ← hge]; exact hall
  simp [hlt]
  refine loop_on (γ := Nat) 104 (fun g => [(1, .po 0 0 0), (8, i g)]) (fun _ => [⟨.own, 0, [i n, fsl tn t tc, i rows, i turns]⟩]) (fun g => g ≤ n + 1 ∧ ∀ j, j < g → fsg (t.getD (rowN n j) 0) = false) (fun g => n + 1 - g)
    0 ⟨Nat.zero_le _, fun j hj => by omega⟩ (Wk.lst (by simp) (by simp)) ?_
  clear hL hg hlt hall hge L g
  rintro g ⟨hg, hB⟩ L hL
  by_cases hlt : g ≤ n
  · have hw1 : IntKind.i64.wrap ((g : Int) + 1) = ((g + 1 : Nat) : Int) := w64 _ (by omega) (by omega)
    have cA := rtat_ctr (c := n) (i' := g) (j' := g) (by omega) hn (Nat.le_refl g) hlt
    have e1 := (atN_lt hn (Nat.le_refl g) hlt).2
    have e2 := at_row hn (Nat.le_refl g) hlt
    have e3 := (atN_lt hn (Nat.le_refl g) hlt).1
    have hlt' : rowN n g < t.length := by omega
    rw [← e1, e2, Nat.sub_self, Nat.add_zero] at cA
    have hb := hf _ (List.getElem_mem hlt')
    have hgd : t.getD (rowN n g) 0 = t[rowN n g] := by simp [hlt']
    have hbad : fsg (t.getD (rowN n g) 0) = true → ∀ σ, K (.v (.bool false)) σ := by
      intro h
      refine hF fun hk => ?_
      obtain ⟨n', e, _, _, _, _, h6⟩ := triOk_nat hk
      obtain rfl : n = n' := by omega
      rw [h6 g hlt] at h; cases h
    simp [hlt]
    refine acall_by cA (by simp) ?_
    rintro _ rfl
    simp [hlt']
    refine acall_by (rsplit_ctr hb) (by simp) ?_
    rintro _ rfl
    unfold splitV
    rw [hgd] at hbad
    have hnext := hL (g + 1)
    have hstep : fsg t[rowN n g] = false → ∀ j, j < g + 1 → fsg (t.getD (rowN n j) 0) = false := by
      intro h j hj
      by_cases e : j = g
      · rw [e, hgd, h]
      · exact hB j (by omega)
    have hnn : ¬ 9218868437227405312 < frg t[rowN n g] := by
      rw [(row_facts hn (Nat.le_refl (n + 1))).2.2 rfl, ← ht, List.take_length] at hA
      have := List.any_eq_false.1 hA _ (List.getElem_mem hlt')
      have : ¬ 6498694262295625728 < frg t[rowN n g] := by simpa [largeB] using this
      omega
    by_cases b1 : fsg t[rowN n g] = true
    · simp [hnn, b1]
      exact hbad b1 _
    rw [Bool.not_eq_true] at b1
    simp [hnn, b1, hw1, -Int.natCast_add]
    exact hnext _ _ ⟨by omega, hstep b1⟩ (Wk.lst (by simp) (by simp)) (by show _ - (g + 1) < _ - g; omega)
  · have hge : g = n + 1 := by omega
    subst hge
    have := triOk_all (rows := rows) (turns := turns) (by omega) hn ht (by omega) (by omega) hA hB
    rw [this] at hK
    have hnl : ¬ ((n : Int) + 1 ≤ n) := by omega
    simp [hlt, hnl]
    exact hK _

theorem rget_ctr {n i' j' : Nat} {t : List Nat} {rows turns : Int} (tn : Bool) (tc : Option Nat) (hf : Fl t) (hok : triOk n t rows turns = true) (hi : i' ≤ n) (hj : j' ≤ n) :
    Ctr Tryz.prog 178 [.agg [i n, fsl tn t tc, i rows, i turns], i i', i j'] (fun r => r = fl ((lineOf t n i').getD j' 0)) := by
  refine ctr_val Tryz.func178 rfl (by kernel_rfl) rfl (by simp) fun K hK => ?_
  obtain ⟨n', e, h1, hn, ht, _, _⟩ := triOk_nat hok
  obtain rfl : n = n' := by omega
  have hsz := size_le hn
  have cC := rtcheck_ctr n t tn tc rows turns hf (by omega)
  rw [hok] at cC
  rw [line_get hn hi hj] at hK
  by_cases hlt : j' < i'
  · rw [if_pos hlt] at hK
    simp [Tryz.f178, cells_g4, -cellsOf]
    refine acall_by (rat_lt h1 hn hlt) (by simp) ?_
    rintro _ rfl
    simp
    refine acall_by cC (by intro z hz; rw [List.mem_singleton.1 hz]; exact pu_agg (by simp)) ?_
    rintro _ rfl
    simp
    exact hK _
  · rw [if_neg hlt] at hK
    have cA := rtat_ctr (c := n) (i' := i') (j' := j') h1 hn (by omega) hj
    obtain ⟨e1, e2⟩ := atN_lt hn (show i' ≤ j' by omega) hj
    rw [← e2] at cA
    have hlt' : atN n i' j' < t.length := by omega
    have hgd : t.getD (atN n i' j') 0 = t[atN n i' j'] := by simp [hlt']
    rw [hgd] at hK
    simp [Tryz.f178, cells_g4, -cellsOf]
    refine acall_by cA (by simp) ?_
    rintro _ rfl
    simp
    refine acall_by cC (by intro z hz; rw [List.mem_singleton.1 hz]; exact pu_agg (by simp)) ?_
    rintro _ rfl
    simp [hlt']
    exact hK _
end Go.Proofs.Nt
/- Lists of floats, and of rows, that grow; ref07.Line. -/
set_option linter.unusedVariables false
set_option maxRecDepth 20000
set_option linter.unusedSimpArgs false
set_option linter.unnecessarySimpa false
namespace Go.Proofs.Nt
open Go Go.Proofs Go.Proofs.Va Go.RowKit

/-- An own list of floats, at place k or above. -/
inductive OG (k : Nat) (σ : AHeap) : AV → List Nat → Prop
  | nil : OG k σ (.pl true [] 0 (some 0)) []
  | so (j v : Nat) (l : List Nat) : k ≤ j → σ[j]? = some ⟨.own, v, l.map fl⟩ → OG k σ (.so j v 0 l.length 1 none) l

theorem append_og {k : Nat} {σ : AHeap} {r : AV} {l : List Nat} {y : Nat} {K : AV → AHeap → Prop} (h : OG k σ r l) (hl : l.length ≤ 1000000) (h0 : k ≤ σ.length)
    (hK : ∀ r' σ', OG k σ' r' (l ++ [y]) → σ.length ≤ σ'.length → (∀ a, a < k → σ'[a]? = σ[a]?) → K r' σ') :
    aAppend Tryz.prog 25 25 r (.pl false [fl y] 1 (some 1)) σ K := by
  cases h with
  | nil =>
    simp
    have := hK (.so σ.length 0 0 1 1 none) (σ ++ ([⟨.own, 0, [fl y]⟩] : AHeap)) (.so _ _ [y] h0 (by simp)) (by simp) (fun a ha => by rw [List.getElem?_append_left (by omega)])
    simpa using this
  | so j v l hn hj =>
    have hlt := (List.getElem?_eq_some_iff.1 hj).1
    have htk : (l.map fl).take l.length = l.map fl := List.take_of_length_le (by simp)
    simp [hj, htk]
    refine ⟨by omega, ?_⟩
    have := hK (.so j (v + 1) 0 (l ++ [y]).length 1 none) (σ.set j ⟨.own, v + 1, l.map fl ++ [fl y]⟩) (.so _ _ _ hn (by rw [List.getElem?_set_self hlt]; simp)) (by simp) (fun a ha => by rw [List.getElem?_set_ne (by omega)])
    simpa using this
theorem append_og2 {k : Nat} {σ : AHeap} {r : AV} {l : List Nat} {y : Nat} {K : AV → AHeap → Prop} (h : OG k σ r l) (hl : l.length ≤ 1000000) (h0 : k ≤ σ.length)
    (hK : ∀ r' σ', OG k σ' r' (l ++ [y]) → σ.length ≤ σ'.length → (∀ a, a < k → σ'[a]? = σ[a]?) → K r' σ') :
    aAppend Tryz.prog 25 25 r (.so σ.length 0 0 1 1 (some 1)) (σ ++ ([⟨.own, 0, [fl y]⟩] : AHeap)) K := by
  cases h with
  | nil =>
    simp
    have := hK (.so (σ.length + 1) 0 0 1 1 none) (σ ++ ([⟨.own, 0, [fl y]⟩, ⟨.own, 0, [fl y]⟩] : AHeap)) (.so _ _ [y] (by omega) (by simp)) (by simp) (fun a ha => by rw [List.getElem?_append_left (by omega)])
    simpa using this
  | so j v l hn hj =>
    have hlt := (List.getElem?_eq_some_iff.1 hj).1
    have htk : (l.map fl).take l.length = l.map fl := List.take_of_length_le (by simp)
    simp [List.getElem?_append_left hlt, hj, htk]
    refine ⟨by omega, ?_⟩
    have := hK (.so j (v + 1) 0 (l ++ [y]).length 1 none) (List.set (σ ++ ([⟨.own, 0, [fl y]⟩] : AHeap)) j ⟨.own, v + 1, l.map fl ++ [fl y]⟩) (.so _ _ _ hn (by rw [List.getElem?_set_self (by simp; omega)]; simp)) (by simp)
      (fun a ha => by rw [List.getElem?_set_ne (by omega), List.getElem?_append_left (by omega)])
    simpa using this
theorem OG.pur {k : Nat} {σ : AHeap} {S : Nat → Prop} (hS : ∀ j, S j) {r : AV} {l : List Nat} (h : OG k σ r l) : ∃ nl cap, Pur σ S r (fsl nl l cap) := by
  cases h with
  | nil => exact ⟨true, some 0, .same _ (by simp)⟩
  | so j v l hn hj => exact ⟨false, none, pur_fl (more := []) (by simpa using hj) (hS j)⟩
theorem OG.sc {k : Nat} {σ : AHeap} {r : AV} {l : List Nat} (h : OG k σ r l) : Sc σ.length r := by
  cases h with
  | nil => exact .pl _ _ _ _
  | so j v l hn hj => exact .so _ _ _ _ _ _ (List.getElem?_eq_some_iff.1 hj).1

theorem line_take {t : List Nat} {n i' k : Nat} (hn : n ≤ 6) (ht : t.length = sizeN n) (hi : i' ≤ n) (hk : k ≤ n) : (lineOf t n i').take (k + 1) = (lineOf t n i').take k ++ [(lineOf t n i').getD k 0] := by
  have hl := line_len hn ht hi
  rw [List.take_succ_eq_append_getElem (by omega)]
  simp [hl, show k < n + 1 by omega]

theorem rline_ctr (c : Int) (t : List Nat) (tn : Bool) (tc : Option Nat) (rows turns j : Int) (hf : Fl t) (hl : t.length ≤ 1000000) :
    Ctr Tryz.prog 153 [.agg [i c, fsl tn t tc, i rows, i turns], i j] (lineP c t rows turns j) := by
  refine ctr_in Tryz.func153 rfl (by kernel_rfl) rfl fun K hK => ?_
  have cC := rtcheck_ctr c t tn tc rows turns hf hl
  simp [Tryz.f153, cells_g4, -cellsOf]
  refine acall_by cC (by intro z hz; rw [List.mem_singleton.1 hz]; exact pu_agg (by simp)) ?_
  rintro _ rfl
  have hbad : (triOk c t rows turns && (decide (0 ≤ j) && decide (j ≤ c))) = false → ∀ σ, K (.pl true [] 0 (some 0)) σ := by
    intro h σ
    unfold lineP at hK
    rw [h] at hK
    exact hK _ _ _ (.same _ (by simp)) rfl
  by_cases a0 : triOk c t rows turns = true
  case neg =>
    rw [Bool.not_eq_true] at a0
    simp [a0]
    exact hbad (by rw [a0]; rfl) _
  by_cases a1 : j < 0
  · simp [a0, a1]
    exact hbad (by rw [a0, decide_eq_false (show ¬ 0 ≤ j by omega)]; rfl) _
  by_cases a2 : c < j
  · simp [a0, a1, a2]
    exact hbad (by rw [a0, decide_eq_false (show ¬ j ≤ c by omega)]; simp) _
  have hq : (triOk c t rows turns && (decide (0 ≤ j) && decide (j ≤ c))) = true := by rw [a0, decide_eq_true (show 0 ≤ j by omega), decide_eq_true (show j ≤ c by omega)]; rfl
  simp only [lineP, if_pos hq] at hK
  obtain ⟨n, rfl, h1, hn, ht, _, _⟩ := triOk_nat a0
  obtain ⟨J, rfl⟩ : ∃ J : Nat, j = J := ⟨j.toNat, by omega⟩
  have hJ : J ≤ n := by omega
  simp [a0, a1, a2]
  refine loop_on (γ := Nat × AV × AHeap) 34 (fun g => [(1, i J), (2, .po 0 0 0), (5, g.2.1), (6, i g.1)]) (fun g => g.2.2)
    (fun g => g.1 ≤ n + 1 ∧ g.2.2[0]? = some ⟨.own, 0, [i n, fsl tn t tc, i rows, i turns]⟩ ∧ 1 ≤ g.2.2.length ∧ OG 1 g.2.2 g.2.1 ((lineOf t n J).take g.1)) (fun g => n + 1 - g.1)
    (0, _, _) ⟨Nat.zero_le _, rfl, by simp, .nil⟩ (Wk.lst (by simp) (by simp)) ?_
  rintro ⟨g, r, σ⟩ ⟨hg, h0, hσ, hO⟩ L hL
  simp only at hg h0 hσ hO
  have hll := line_len hn ht hJ
  by_cases hlt : g ≤ n
  · have w2 : IntKind.i64.wrap ((g : Int) + 1) = ((g + 1 : Nat) : Int) := w64 _ (by omega) (by omega)
    have cG := rget_ctr (i' := J) (j' := g) tn tc hf a0 hJ hlt
    have htk := line_take hn ht hJ hlt
    have hnext := fun r' σ' => hL (g + 1, r', σ')
    simp only [htk] at hnext
    have hgl : ((lineOf t n J).take g).length ≤ 1000000 := by rw [List.length_take]; omega
    generalize (lineOf t n J).getD g 0 = y at *
    generalize (lineOf t n J).take g = l at *
    simp [h0, hlt, -getElem?_pos, List.getElem?_cons_zero, List.getElem?_cons_succ]
    refine acall_by cG (by intro z hz; simp only [List.mem_cons, List.not_mem_nil, or_false] at hz; rcases hz with rfl | rfl | rfl; exact pu_agg (by simp); simp; simp) ?_
    rintro _ rfl
    simp [-aAppend]
    refine append_og2 hO hgl hσ fun r' σ' hO' hσ' hS => ?_
    simp [w2, -Int.natCast_add]
    exact hnext r' σ' _ _ ⟨by omega, by rw [hS 0 (by omega)]; exact h0, by omega, hO'⟩ (Wk.lst (by simp) (by simp)) (by show _ - (g + 1) < _ - g; omega)
  · have hge : g = n + 1 := by omega
    subst hge
    rw [List.take_of_length_le (by omega)] at hO
    have hnl : ¬ ((n : Int) + 1 ≤ n) := by omega
    simp [h0, hlt, hnl, -getElem?_pos, List.getElem?_cons_zero, List.getElem?_cons_succ]
    obtain ⟨n2, c2, hp⟩ := hO.pur (S := fun _ => True) (fun _ => trivial)
    exact hK _ _ _ hp ⟨n2, c2, rfl⟩
end Go.Proofs.Nt
/- gram.Factor. -/
set_option linter.unusedVariables false
set_option maxRecDepth 20000
set_option linter.unusedSimpArgs false
set_option linter.unnecessarySimpa false
namespace Go.Proofs.Nt
open Go Go.Proofs Go.Proofs.Va Go.RowKit

def factorP (c : Int) (t : List Nat) (rows turns : Int) (r : AV) : Prop :=
  if triOk c t rows turns = true then ∃ us nl cap, us.map DV.d = rowsG c.toNat (linesOf t c.toNat) ∧ r = .tup [dsl nl us cap, bo true] else r = .tup [.pl true [] 0 (some 0), bo false]
theorem lines_len (t : List Nat) (n : Nat) : (linesOf t n).length = n + 1 := by simp [linesOf]
theorem lines_at (t : List Nat) {n g : Nat} (h : g < n + 1) : (linesOf t n)[g]'(by rw [lines_len]; exact h) = ((lineOf t n g).take n, (lineOf t n g).getD n 0) := by simp [linesOf]
theorem okRows_ok {n : Nat} {rs : List (List Nat × Nat)} (h : okRows n rs = true) : rowsOk n rs := by
  obtain ⟨n', e, _, _, hr⟩ := okRows_nat h
  obtain rfl : n = n' := by omega
  exact hr

theorem gfactor_ctr (c : Int) (t : List Nat) (tn : Bool) (tc : Option Nat) (rows turns : Int) (hf : Fl t) (hl : t.length ≤ 1000000) :
    Ctr Tryz.prog 68 [.agg [i c, fsl tn t tc, i rows, i turns]] (factorP c t rows turns) := by
  refine ctr_in Tryz.func68 rfl (by kernel_rfl) rfl fun K hK => ?_
  simp [Tryz.f68, cells_g4, -cellsOf]
  refine acall_by (tcheck_ctr c t tn tc rows turns hf hl) (by intro z hz; rw [List.mem_singleton.1 hz]; exact pu_agg (by simp)) ?_
  rintro _ rfl
  by_cases hok : triOk c t rows turns = true
  case neg =>
    simp only [factorP, if_neg hok] at hK
    rw [Bool.not_eq_true] at hok
    simp [hok]
    exact hK _ _ _ (.same _ (pu_tup (by simp))) rfl
  simp only [factorP, if_pos hok] at hK
  rw [hok]
  obtain ⟨n, rfl, h1, hn, ht, hlg, _⟩ := triOk_nat hok
  have hok0 := lines_ok h1 hn ht hlg
  have hro := okRows_ok hok0
  have hsz : (sizeI (n : Int)).toNat = sizeN n := by unfold sizeI; rw [if_pos (by omega)]; rfl
  have hw0 : IntKind.i64.wrap ((n : Int) + 1) = ((n + 1 : Nat) : Int) := w64 _ (by omega) (by omega)
  have cL := fun g => tline_ctr n t tn tc rows turns g hf hl
  simp only [Int.toNat_natCast] at hK
  simp [cells_g4, -cellsOf]
  refine acall_by (gzero_ctr n) (by simp) ?_
  rintro _ ⟨c0, rfl⟩
  rw [hsz]
  simp [hw0, -Int.natCast_add]
  refine loop_on (γ := Nat × List DV × Bool × Option Nat) 36 (fun g => [(1, .po 0 0 0), (4, dsl g.2.2.1 g.2.1 g.2.2.2), (16, i (n + 1 : Nat)), (17, i g.1)]) (fun _ => [⟨.own, 0, [i n, fsl tn t tc, i rows, i turns]⟩])
    (fun g => g.1 ≤ n + 1 ∧ g.2.1.map DV.d = rowsG n ((linesOf t n).take g.1)) (fun g => n + 1 - g.1)
    (0, List.replicate (sizeN n) zDV, false, c0) ⟨Nat.zero_le _, zero_d _⟩ (Wk.lst (by simp) (by simp)) ?_
  rintro ⟨g, us, n1, c1⟩ ⟨hg, hus⟩ L hL
  simp only at hg hus
  by_cases hlt : g < n + 1
  · have hw1 : IntKind.i64.wrap ((g : Int) + 1) = ((g + 1 : Nat) : Int) := w64 _ (by omega) (by omega)
    have cL := cL g
    have hcd : (triOk (n : Int) t rows turns && (decide (0 ≤ (g : Int)) && decide ((g : Int) ≤ (n : Int)))) = true := by rw [hok, decide_eq_true (show (0 : Int) ≤ (g : Int) by omega), decide_eq_true (show (g : Int) ≤ n by omega)]; rfl
    unfold lineP at cL
    simp only [if_pos hcd, Int.toNat_natCast] at cL
    have hll := line_len hn ht (i := g) (by omega)
    have hgr := lines_gram hn ht (i := g) (by omega)
    have hat := lines_at t hlt
    have htk : (linesOf t n).take (g + 1) = (linesOf t n).take g ++ [((lineOf t n g).take n, (lineOf t n g).getD n 0)] := by
      rw [List.take_succ_eq_append_getElem (by rw [lines_len]; exact hlt), hat]
    have hmem : ((lineOf t n g).take n, (lineOf t n g).getD n 0) ∈ linesOf t n := by rw [← hat]; exact List.getElem_mem _
    have hrow : rowQ ((lineOf t n g).take n) ((lineOf t n g).getD n 0) = true := by
      have := hok0
      unfold okRows at this
      rw [Bool.and_eq_true, List.all_eq_true] at this
      have := this.2 _ hmem
      rw [Bool.and_eq_true] at this
      exact this.1
    have hfin : (lineOf t n g).all fin = true := by
      have := hrow
      unfold rowQ at this
      rw [Bool.and_eq_true, line_eq hll] at this
      exact this.2
    have hflL : Fl (lineOf t n g) := by
      intro x hx
      unfold lineOf at hx
      rcases List.mem_append.1 hx with h | h
      · rw [List.eq_of_mem_replicate h]; decide
      · exact fl_sub hf x h
    have hro' : rowsOk n ((linesOf t n).take g) := fun r hr => hro r (List.mem_of_mem_take hr)
    have hrl : ((linesOf t n).take g).length ≤ 1000 := by rw [List.length_take, lines_len]; omega
    have hnext := fun us' c' => hL (g + 1, us', false, c')
    simp only [htk, rowsG_snoc] at hnext
    generalize (linesOf t n).take g = rs at *
    generalize lineOf t n g = l at *
    have hltI : (g : Int) < (n : Int) + 1 := by omega
    simp [hlt, hltI, cells_g4, -cellsOf]
    refine acall_by cL (by intro z hz; simp only [List.mem_cons, List.not_mem_nil, or_false] at hz; rcases hz with rfl | rfl; exact pu_agg (by simp); simp) ?_
    rintro _ ⟨ln, lc, rfl⟩
    simp
    refine acall_by (gdyads_ctr ln lc hflL (by omega)) (by simp) ?_
    intro r hr
    unfold dysP at hr
    rw [if_pos hfin] at hr
    obtain ⟨ls, n2, c2, hls, rfl⟩ := hr
    have hlsl : ls.length = n + 1 := by have := congrArg List.length hls; simpa [hll] using this
    have hokL : ∀ q, dOK ((l.map fromD).getD q zeroD) ∧ ((l.map fromD).getD q zeroD).2.1.length ≤ 900 := by
      intro q
      obtain ⟨o, b⟩ := getD_ok (okl_from l) q
      exact ⟨o, bd_len o b (by omega)⟩
    have cP := gprods_ctr n2 c2 hls hlsl h1 hn hokL
    rw [hgr] at cP
    simp
    refine acall_by cP (by simp) ?_
    rintro _ ⟨os, c3, hos, rfl⟩
    obtain ⟨ho1, hl1⟩ := rows_okl hn hro' hrl
    obtain ⟨l1, m1⟩ := okl_us hus ho1 (by omega)
    obtain ⟨l2, m2⟩ := okl_us hos (okl_row _ _) (by omega)
    have hul : us.length = sizeN n := by have := congrArg List.length hus; rw [List.length_map] at this; omega
    have htl : (l.take n).length = n := by rw [List.length_take]; omega
    have hlr := row_len (x := l.take n) (y := l.getD n 0) (by omega)
    have hol : os.length = sizeN n := by have := congrArg List.length hos; rw [List.length_map, hlr, htl] at this; exact this
    have hsl := size_le hn
    have cA := gadd_ctr n1 c1 false c3 (by omega) l1 l2
    simp
    refine acall_by cA (by simp) ?_
    intro r hr
    unfold joinP at hr
    rw [if_pos (by omega), m1, m2] at hr
    obtain ⟨ws, c4, hws, rfl⟩ := hr
    simp [hw1, -Int.natCast_add]
    exact hnext ws c4 _ _ ⟨by show g + 1 ≤ n + 1; omega, hws⟩ (Wk.lst (by simp) (by simp)) (by show n + 1 - (g + 1) < n + 1 - g; omega)
  · have hge : g = n + 1 := by omega
    rw [hge, List.take_of_length_le (by rw [lines_len]; omega)] at hus
    simp [hge]
    exact hK _ _ _ (.same _ (pu_tup (by simp))) ⟨us, n1, c1, hus, rfl⟩
end Go.Proofs.Nt
/- gram.Fade. -/
set_option linter.unusedVariables false
set_option maxRecDepth 20000
set_option linter.unusedSimpArgs false
set_option linter.unnecessarySimpa false
namespace Go.Proofs.Nt
open Go Go.Proofs Go.Proofs.Va Go.RowKit

/-- A list that is faded, if by a number. -/
def fadeP (a : List Dy) (b : Nat) (r : AV) : Prop :=
  if fin b = true then ∃ us nl cap, us.map DV.d = fadeL a (fromD b) ∧ r = .tup [dsl nl us cap, bo true] else r = .tup [.pl true [] 0 (some 0), bo false]

theorem zip_rep (f : Dy → Dy → Dy) (a : List Dy) (p : Dy) : List.zipWith f a (List.replicate a.length p) = a.map fun d => f d p := by
  induction a with
  | nil => rfl
  | cons x a ih => rw [List.length_cons, List.replicate_succ, List.zipWith_cons_cons, ih]; rfl

theorem gfade_ctr {a : List DV} {b : Nat} (na : Bool) (ca : Option Nat) {L H : Int} (hb : b < 18446744073709551616) (hl : a.length ≤ 100000) (ha : LenOk a) (ho : Okl L H (a.map DV.m)) (hLH : H - L ≤ 20000) :
    Ctr Tryz.prog 54 [dsl na a ca, fl b] (fadeP (a.map DV.m) b) := by
  refine ctr_in Tryz.func54 rfl (by kernel_rfl) rfl fun K hK => ?_
  simp only [Tryz.f54, List.append_eq, List.cons_append, List.nil_append]
  simp
  refine acall_by (from3_ctr hb) (by simp) ?_
  rintro _ ⟨n1, c1, rfl⟩
  by_cases hf : frg b < 9218868437227405312
  case neg =>
    have hfin : ¬ fin b = true := by unfold fin; simpa using hf
    simp only [fadeP, if_neg hfin] at hK
    simp [hf, cells_dy, -cellsOf]
    exact hK _ _ _ (.same _ (pu_tup (by simp))) rfl
  have hfin : fin b = true := decide_eq_true hf
  simp only [fadeP, if_pos hfin] at hK
  obtain ⟨op, bp⟩ := okl_from [b] (fromD b) (by simp)
  generalize fromD b = p at *
  have pl : p.2.1.length ≤ 900 := bd_len op bp (by omega)
  simp [hf, cells_dy, cells_ag, wr, -cellsOf]
  have hT : (toV p n1 c1).m = p := may_of_ok op.1
  refine acall_froze [1] (repeat_ctr (toV p n1 c1) false (some 1) a.length hl) rfl (fun q hq => ?_) fun rr hrr => ?_
  · have : q = 0 ∨ q = 1 := by simp at hq; omega
    rcases this with rfl | rfl
    · exact pur_ds (k := .own) (l := [toV p n1 c1]) (v := 0) (by simp [dcs, DV.cs, toV]) (by decide) rfl (by simp)
    · exact .same _ (by simp)
  obtain ⟨c2, rfl⟩ := hrr
  generalize froze _ [1] = σ3
  obtain ⟨y, hy⟩ : ∃ y, y = toV p n1 c1 := ⟨_, rfl⟩
  have hym : y.m = p := by rw [hy]; exact hT
  have hya : y.a = p.2.1 := by rw [hy]; rfl
  rw [← hy]
  have hmem : ∀ z ∈ List.replicate a.length y, z = y := fun z hz => List.eq_of_mem_replicate hz
  have hrm : (List.replicate a.length y).map DV.m = List.replicate a.length p := by rw [List.map_replicate, hym]
  have cJ := gjoin_ctr na ca false c2 (a := a) (b := List.replicate a.length y) mulD 62 hl fun x hx z hz => by
    rw [hmem z hz]
    exact mul3_ctr x.neg x.nl y.neg y.nl x.a y.a x.cap y.cap x.e y.e (ha x hx).1 (by rw [hya]; exact op.2) (by have := (ha x hx).2; omega) (by rw [hya]; omega)
  simp
  refine acall_by cJ (by simp) ?_
  intro r hr
  unfold joinP at hr
  rw [if_pos (by simp), hrm, show List.replicate a.length p = List.replicate (a.map DV.m).length p by rw [List.length_map], zip_rep] at hr
  obtain ⟨us, c3, hus, rfl⟩ := hr
  have ho2 : Okl (L + -1074) (H + 1024) ((a.map DV.m).map fun d => mulD d p) := by
    intro d hd
    obtain ⟨x, hx, rfl⟩ := List.mem_map.1 hd
    obtain ⟨o, b⟩ := ho x hx
    exact ⟨ok_mul _ _, bd_mul b bp⟩
  obtain ⟨l2, m2⟩ := okl_us hus ho2 (by omega)
  have hul : us.length = a.length := by have := congrArg List.length hus; simpa using this
  have cJ2 := gjoin_ctr false c3 false c2 (a := us) (b := List.replicate a.length y) mulD 62 (by omega) fun x hx z hz => by
    rw [hmem z hz]
    exact mul3_ctr x.neg x.nl y.neg y.nl x.a y.a x.cap y.cap x.e y.e (l2 x hx).1 (by rw [hya]; exact op.2) (by have := (l2 x hx).2; omega) (by rw [hya]; omega)
  simp
  refine acall_by cJ2 (by simp) ?_
  intro r hr
  unfold joinP at hr
  rw [if_pos (by simp [hul]), hrm, m2, show List.replicate a.length p = List.replicate ((a.map DV.m).map fun d => mulD d p).length p by rw [List.length_map, List.length_map], zip_rep, List.map_map] at hr
  obtain ⟨ws, c4, hws, rfl⟩ := hr
  simp
  exact hK _ _ _ (.same _ (pu_tup (by simp))) ⟨ws, false, c4, hws, rfl⟩
end Go.Proofs.Nt
/- ref08.Same, Few. -/
set_option linter.unusedVariables false
set_option maxRecDepth 20000
set_option linter.unusedSimpArgs false
set_option linter.unnecessarySimpa false
namespace Go.Proofs.Nt
open Go Go.Proofs Go.Proofs.Va Go.RowKit

theorem map_d_eq {a b : List DV} (hl : a.length = b.length) (h : ∀ q, q < a.length → (gv a q).d = (gv b q).d) : a.map DV.d = b.map DV.d := by
  refine List.ext_getElem (by simpa using hl) fun q h1 h2 => ?_
  simp only [List.length_map] at h1 h2
  have := h q h1
  rw [gv_at h1, gv_at h2] at this
  simpa using this
theorem rsameL_ctr {a b : List DV} (na : Bool) (ca : Option Nat) (nb : Bool) (cb : Option Nat) (hl : a.length ≤ 100000) (ha : ∀ d ∈ a, d.a.length ≤ 1000000) (hb : ∀ d ∈ b, d.a.length ≤ 1000000) :
    Ctr Tryz.prog 28 [dsl na a ca, dsl nb b cb] (fun r => r = bo (decide (a.map DV.d = b.map DV.d))) := by
  refine ctr_val Tryz.func28 rfl (by kernel_rfl) rfl (by simp) fun K hK => ?_
  simp only [Tryz.f28, List.append_eq, List.cons_append, List.nil_append]
  have hF : a.map DV.d ≠ b.map DV.d → ∀ σ, K (.v (.bool false)) σ := by
    intro h σ
    rw [decide_eq_false h] at hK
    exact hK σ
  by_cases hab : a.length = b.length
  case neg =>
    have hab' : ¬ (a.length : Int) = b.length := by omega
    simp [hab, hab']
    exact hF (fun h => hab (by simpa using congrArg List.length h)) _
  simp [hab]
  refine loop_on (γ := Nat) 27 (fun g => [(0, dsl na a ca), (1, dsl nb b cb), (5, i g)]) (fun _ => []) (fun g => g ≤ a.length ∧ ∀ q, q < g → (gv a q).d = (gv b q).d) (fun g => a.length - g)
    0 ⟨Nat.zero_le _, fun q hq => by omega⟩ (Wk.lst (by simp [dsl]) (by simp)) ?_
  rintro g ⟨hg, hq⟩ L hL
  by_cases hlt : g < a.length
  · have hltb : g < b.length := by omega
    have w2 : IntKind.i64.wrap ((g : Int) + 1) = ((g + 1 : Nat) : Int) := w64 _ (by omega) (by omega)
    have rA := dcs_read hlt
    have rB := dcs_read hltb
    have oa3 : g * 3 + 3 ≤ (dcs a).length := by rw [dcs_len]; omega
    have ob3 : g * 3 + 3 ≤ (dcs b).length := by rw [dcs_len]; omega
    have oa : g * 3 < (dcs a).length := by omega
    have ob : g * 3 < (dcs b).length := by omega
    have hxl := ha _ (gv_mem hlt)
    have hyl := hb _ (gv_mem hltb)
    have hne : (gv a g).d ≠ (gv b g).d → a.map DV.d ≠ b.map DV.d := by
      intro h he
      apply h
      have h1 : (a.map DV.d)[g]? = (b.map DV.d)[g]? := by rw [he]
      rw [gv_at hlt, gv_at hltb]
      simpa [hlt, hltb] using h1
    have hnext := hL (g + 1)
    have hstep : (gv a g).d = (gv b g).d → ∀ q, q < g + 1 → (gv a q).d = (gv b q).d := by
      intro h q hq'
      by_cases e : q = g
      · rw [e]; exact h
      · exact hq q (by omega)
    generalize gv a g = u at *
    generalize gv b g = v at *
    obtain ⟨ug, un, ua, uc, ue⟩ := u
    obtain ⟨vg, vn, va, vc, ve⟩ := v
    have cS := same3_ctr ug un vg vn ua va uc vc ue ve hxl hyl
    have hb2 : (ug == vg && decide (ue = ve) && (ua == va)) = decide ((⟨ug, un, ua, uc, ue⟩ : DV).d = (⟨vg, vn, va, vc, ve⟩ : DV).d) := by
      show _ = decide ((ug, ua, ue) = (vg, va, ve))
      rw [Bool.eq_iff_iff]
      simp [and_comm, and_assoc]
    rw [hb2] at cS
    simp [hlt]
    refine draw_at [0, 0, 1, 1, 0, 0, 1, 1, 3, 0] orders (by kernel_rfl) ?_
    simp [hlt, hltb, oa, oa3, ob, ob3, rA, rB]
    refine acall_by cS (by simp [DV.av, dy]) ?_
    rintro _ rfl
    by_cases he : (⟨ug, un, ua, uc, ue⟩ : DV).d = (⟨vg, vn, va, vc, ve⟩ : DV).d
    · rw [decide_eq_true he]
      simp [w2, -Int.natCast_add]
      exact hnext _ _ ⟨by omega, hstep he⟩ (Wk.lst (by simp [dsl]) (by simp)) (by show _ - (g + 1) < _ - g; omega)
    · rw [decide_eq_false he]
      simp
      exact hF (hne he) _
  · have hge : g = a.length := by omega
    have := map_d_eq hab (fun q hq' => hq q (by omega))
    rw [decide_eq_true this] at hK
    simp [hlt]
    exact hK _

def fewB (m : Int) (l : List RV) : Bool := decide ((l.length : Int) ≤ m) && l.all fun r => decide (r.x.length ≤ 12)
end Go.Proofs.Nt
/- Lists of rows that grow; ref08.Lines. -/
set_option linter.unusedVariables false
set_option maxRecDepth 20000
set_option linter.unusedSimpArgs false
set_option linter.unnecessarySimpa false
namespace Go.Proofs.Nt
open Go Go.Proofs Go.Proofs.Va Go.RowKit

@[simp] theorem isSRw : isSliceT Tryz.prog 108 = true := by kernel_rfl
@[simp] theorem srcRw : srcT Tryz.prog 108 = some false := by kernel_rfl
@[simp] theorem intRw : intT Tryz.prog 108 = none := by kernel_rfl
/-- An own list of rows, at place k or above. -/
inductive OR (k : Nat) (σ : AHeap) : AV → List RV → Prop
  | nil : OR k σ (.pl true [] 0 (some 0)) []
  | so (j v : Nat) (l : List RV) : k ≤ j → σ[j]? = some ⟨.own, v, rcs l⟩ → OR k σ (.so j v 0 l.length 2 none) l

theorem append_or {k : Nat} {σ : AHeap} {r : AV} {l : List RV} {y : RV} {K : AV → AHeap → Prop} (h : OR k σ r l) (hl : l.length ≤ 1000000) (h0 : k ≤ σ.length)
    (hK : ∀ r' σ', OR k σ' r' (l ++ [y]) → σ.length ≤ σ'.length → (∀ a, a < k → σ'[a]? = σ[a]?) → K r' σ') :
    aAppend Tryz.prog 108 108 r (.pl false y.cs 1 (some 1)) σ K := by
  have hc : y.cs.length = 2 := rfl
  have hlc := rcs_len l
  cases h with
  | nil =>
    simp [hc]
    have := hK (.so σ.length 0 0 1 2 none) (σ ++ ([⟨.own, 0, y.cs⟩] : AHeap)) (.so _ _ [y] h0 (by simp [rcs])) (by simp) (fun a ha => by rw [List.getElem?_append_left (by omega)])
    simpa using this
  | so j v l hn hj =>
    have hlt := (List.getElem?_eq_some_iff.1 hj).1
    have htk : (rcs l).take (l.length * 2) = rcs l := List.take_of_length_le (by omega)
    simp [hc, hj, htk, hlc]
    refine ⟨by omega, ?_⟩
    have := hK (.so j (v + 1) 0 (l ++ [y]).length 2 none) (σ.set j ⟨.own, v + 1, rcs l ++ y.cs⟩) (.so _ _ _ hn (by rw [List.getElem?_set_self hlt, rcs_snoc])) (by simp) (fun a ha => by rw [List.getElem?_set_ne (by omega)])
    simpa using this
theorem pu_rcs (l : List RV) : ∀ x ∈ rcs l, Pu x := by
  induction l with
  | nil => intro x hx; simp [rcs] at hx
  | cons a l ih =>
    intro x hx
    have : rcs (a :: l) = fsl a.xn a.x a.xc :: fl a.y :: rcs l := (rfl)
    rw [this] at hx
    simp only [List.mem_cons] at hx
    rcases hx with rfl | rfl | hx
    · simp
    · simp
    · exact ih x hx
theorem OR.pur {k : Nat} {σ : AHeap} {S : Nat → Prop} (hS : ∀ j, S j) {r : AV} {l : List RV} (h : OR k σ r l) : ∃ nl cap, Pur σ S r (LR.av ⟨nl, l, cap⟩) := by
  cases h with
  | nil => exact ⟨true, some 0, .same _ (by simp)⟩
  | so j v l hn hj =>
    refine ⟨false, none, .so j v 0 l.length 2 none _ (rcs l) hj rfl (fun h => by cases h) (hS j) ?_ (rcs_len l) fun q hq => ?_⟩
    · show 0 + l.length * 2 ≤ (rcs l).length
      rw [rcs_len]; omega
    · rw [Nat.zero_add, getD_eq hq]
      exact .same _ (pu_rcs l _ (List.getElem_mem hq))
theorem OR.sc {k : Nat} {σ : AHeap} {r : AV} {l : List RV} (h : OR k σ r l) : Sc σ.length r := by
  cases h with
  | nil => exact .pl _ _ _ _
  | so j v l hn hj => exact .so _ _ _ _ _ _ (List.getElem?_eq_some_iff.1 hj).1

theorem cells_g2 (a b : AV) : cellsOf (.agg [a, b]) = some [a, b] := (rfl)
theorem cells_vf (k : FloatKind) (n : Nat) : cellsOf (.v (.float k n)) = some [.v (.float k n)] := (rfl)
theorem rlines_ctr {n : Nat} {t : List Nat} (tn : Bool) (tc : Option Nat) {rows turns : Int} (hf : Fl t) (hok : triOk n t rows turns = true) :
    Ctr Tryz.prog 111 [.agg [i n, fsl tn t tc, i rows, i turns]] (fun r => ∃ x : LR, x.l.map RV.p = linesOf t n ∧ RvOk x.l ∧ r = x.av) := by
  refine ctr_in Tryz.func111 rfl (by kernel_rfl) rfl fun K hK => ?_
  obtain ⟨n', e, h1, hn, ht, hlg, _⟩ := triOk_nat hok
  obtain rfl : n = n' := by omega
  have hsz := size_le hn
  have hw0 : IntKind.i64.wrap ((n : Int) + 1) = ((n + 1 : Nat) : Int) := w64 _ (by omega) (by omega)
  simp [Tryz.f111, cells_g4, -cellsOf]
  refine loop_on (γ := Nat × List RV × AV × AHeap) 35 (fun g => [(1, .po 0 0 0), (3, g.2.2.1), (4, i g.1)]) (fun g => g.2.2.2)
    (fun g => g.1 ≤ n + 1 ∧ g.2.2.2[0]? = some ⟨.own, 0, [i n, fsl tn t tc, i rows, i turns]⟩ ∧ 1 ≤ g.2.2.2.length ∧ OR 1 g.2.2.2 g.2.2.1 g.2.1 ∧ g.2.1.map RV.p = (linesOf t n).take g.1 ∧ RvOk g.2.1) (fun g => n + 1 - g.1)
    (0, [], _, _) ⟨Nat.zero_le _, rfl, by simp, .nil, rfl, fun r hr => by simp at hr⟩ (Wk.lst (by simp) (by simp)) ?_
  rintro ⟨g, l, r, σ⟩ ⟨hg, h0, hσ, hO, hm, hr⟩ L hL
  simp only at hg h0 hσ hO hm hr
  by_cases hlt : g ≤ n
  · have w2 : IntKind.i64.wrap ((g : Int) + 1) = ((g + 1 : Nat) : Int) := w64 _ (by omega) (by omega)
    have cL := rline_ctr n t tn tc rows turns g hf (by omega)
    have hcd : (triOk (n : Int) t rows turns && (decide (0 ≤ (g : Int)) && decide ((g : Int) ≤ (n : Int)))) = true := by rw [hok, decide_eq_true (show (0 : Int) ≤ (g : Int) by omega), decide_eq_true (show (g : Int) ≤ n by omega)]; rfl
    unfold lineP at cL
    simp only [if_pos hcd, Int.toNat_natCast] at cL
    have hll := line_len hn ht hlt
    have hat := lines_at t (show g < n + 1 by omega)
    have htk : (linesOf t n).take (g + 1) = (linesOf t n).take g ++ [((lineOf t n g).take n, (lineOf t n g).getD n 0)] := by
      rw [List.take_succ_eq_append_getElem (by rw [lines_len]; omega), hat]
    have hflL : Fl (lineOf t n g) := by
      intro x hx
      unfold lineOf at hx
      rcases List.mem_append.1 hx with h | h
      · rw [List.eq_of_mem_replicate h]; decide
      · exact fl_sub hf x h
    have hlenl : l.length ≤ 1000000 := by have := congrArg List.length hm; rw [List.length_map, List.length_take, lines_len] at this; omega
    have hnext := fun r' σ' xn xc => hL (g + 1, l ++ [⟨xn, (lineOf t n g).take n, xc, (lineOf t n g).getD n 0⟩], r', σ')
    simp only [htk] at hnext
    clear hat htk
    generalize (linesOf t n).take g = rs at *
    generalize lineOf t n g = ln at *
    have hgd : ln.getD n 0 = ln[n] := by simp [hll]
    have hn1 : n < ln.length := by omega
    simp [h0, hlt, -getElem?_pos, List.getElem?_cons_zero, List.getElem?_cons_succ]
    refine acall_by cL (by intro z hz; simp only [List.mem_cons, List.not_mem_nil, or_false] at hz; rcases hz with rfl | rfl; exact pu_agg (by simp); simp) ?_
    rintro _ ⟨n2, c2, rfl⟩
    simp [h0, hlt, hll, hw0, -getElem?_pos, List.getElem?_cons_zero, List.getElem?_cons_succ]
    refine draw_at [0, 0, 1, 1, 1, 0, 1, 1, 1, 1, 0, 0, 4, 0] orders (by kernel_rfl) ?_
    simp [h0, hσ, -aSlice, -aAppend, -getElem?_pos, List.getElem?_cons_zero, List.getElem?_cons_succ]
    refine ⟨by omega, slice_fhi (by omega) ?_⟩
    rw [lkC_on, lkC_on]
    generalize hz : fsl (n2 && ln.isEmpty) (ln.take n) c2 = z
    have hzc : cellsOf z = some [z] := by rw [← hz]; rfl
    have hzs : ∀ k, scA k z = True := by intro k; rw [← hz]; rfl
    have hget : ln[n]? = some ln[n] := List.getElem?_eq_getElem hn1
    have hzp : Pu z := by rw [← hz]; simp
    simp [h0, hσ, hn1, hget, hzc, hzs, hzp, wr, cells_g2, cells_vf, -cellsOf, -aAppend, -getElem?_pos, List.getElem?_cons_zero, List.getElem?_cons_succ]
    refine ⟨by omega, ?_⟩
    rw [← hz, ← hgd]
    refine ⟨pu_agg (by simp), ?_⟩
    refine append_or (y := ⟨n2 && ln.isEmpty, ln.take n, c2, ln.getD n 0⟩) hO hlenl hσ fun r' σ' hO' hσ' hS => ?_
    rw [lkC_on]
    simp [w2, hσ', -Int.natCast_add]
    refine hnext r' σ' _ c2 _ _ ⟨by omega, by rw [hS 0 (by omega)]; exact h0, by omega, hO', by rw [List.map_append, hm]; rfl, ?_⟩ (Wk.lst (by simp) (by simp)) (by show _ - (g + 1) < _ - g; omega)
    intro q hq
    rcases List.mem_append.1 hq with h | h
    · exact hr q h
    · rw [List.mem_singleton.1 h]
      refine ⟨fun x hx => hflL x (List.mem_of_mem_take hx), ?_, ?_⟩
      · rw [hgd]; exact hflL _ (List.getElem_mem hn1)
      · show (ln.take n).length ≤ _
        rw [List.length_take]; omega
  · have hge : g = n + 1 := by omega
    subst hge
    rw [List.take_of_length_le (by rw [lines_len]; omega)] at hm
    have hnl : ¬ ((n : Int) + 1 ≤ n) := by omega
    simp [h0, hlt, hnl, -getElem?_pos, List.getElem?_cons_zero]
    obtain ⟨n2, c2, hp⟩ := hO.pur (S := fun _ => True) (fun _ => trivial)
    exact hK _ _ _ hp ⟨⟨n2, l, c2⟩, hm, hr, rfl⟩
end Go.Proofs.Nt
/- Gram: live. -/
set_option linter.unusedVariables false
set_option maxRecDepth 20000
set_option linter.unusedSimpArgs false
set_option linter.unnecessarySimpa false
namespace Go.Proofs.Nt
open Go Go.Proofs Go.Proofs.Va Go.RowKit

theorem us3 {us : List DV} {a b c : Dy} (h : us.map DV.d = [a, b, c]) : ∃ n1 c1 n2 c2 n3 c3, us = [toV a n1 c1, toV b n2 c2, toV c n3 c3] := by
  match us, h with
  | [x, y, z], h =>
    simp only [List.map_cons, List.map_nil, List.cons.injEq, and_true] at h
    obtain ⟨rfl, rfl, rfl⟩ := h
    exact ⟨x.nl, x.cap, y.nl, y.cap, z.nl, z.cap, rfl⟩
theorem dcs3 (a b c : Dy) (n1 n2 n3 : Bool) (c1 c2 c3 : Option Nat) : dcs [toV a n1 c1, toV b n2 c2, toV c n3 c3] = [.v (.bool a.1), sl n1 a.2.1 c1, .v (.int .i64 a.2.2), .v (.bool b.1), sl n2 b.2.1 c2, .v (.int .i64 b.2.2), .v (.bool c.1), sl n3 c.2.1 c3, .v (.int .i64 c.2.2)] := (rfl)

def lvA : List Dy := [(false, [1], 2), (true, [3], 1), (false, [9], 0)]
def lvT : List Nat := [4611686018427387904, 13837309855095848960, 4607182418800017408]
theorem lv1 : rowG [4611686018427387904] 13837309855095848960 = lvA := by decide +kernel
theorem lvq : rowQ [4611686018427387904] 13837309855095848960 = true := by decide +kernel
theorem lvq0 : ¬ rowQ [] 4607182418800017408 = true := by decide +kernel
theorem lvo : okRows 1 [([4611686018427387904], 13837309855095848960), ([4607182418800017408], 4618441417868443648)] = true := by decide +kernel
theorem lv2 : rowsG 1 [([4611686018427387904], 13837309855095848960), ([4607182418800017408], 4618441417868443648)] = [(false, [5], 0), (false, [], 0), (false, [45], 0)] := by decide +kernel
theorem lvt : triOk 1 lvT 0 0 = true := by decide +kernel
theorem lv3 : rowsG 1 (linesOf lvT 1) = [(false, [1], 2), (true, [3], 1), (false, [5], 1)] := by decide +kernel
theorem lvf : fin 4602678819172646912 = true := by decide +kernel
theorem lv4 : fadeL lvA (fromD 4602678819172646912) = [(false, [1], 0), (true, [3], -1), (false, [9], -2)] := by decide +kernel
theorem lvn1 : normD false (val [1]) 2 = (false, [1], 2) := by decide +kernel
theorem lvn2 : normD true (val [3]) 1 = (true, [3], 1) := by decide +kernel
theorem lvn3 : normD false (val [5]) 1 = (false, [5], 1) := by decide +kernel
theorem lvn4 : normD false (val [1]) 0 = (false, [1], 0) := by decide +kernel

/-- Three dyads are told, all is well. -/
def t3 (a b c : Dy) (r : AV) : Prop := ∃ nl cap n1 c1 n2 c2 n3 c3, r = .tup [dsl nl [toV a n1 c1, toV b n2 c2, toV c n3 c3] cap, bo true]
theorem t3_of {a b c : Dy} {g : FuncId} {args : List AV} (h : Ctr Tryz.prog g args (fun r => ∃ us nl cap, us.map DV.d = [a, b, c] ∧ r = .tup [dsl nl us cap, bo true])) : Ctr Tryz.prog g args (t3 a b c) := by
  refine h.mono fun r hr => ?_
  obtain ⟨us, nl, cap, hus, rfl⟩ := hr
  obtain ⟨n1, c1, n2, c2, n3, c3, rfl⟩ := us3 hus
  exact ⟨nl, cap, n1, c1, n2, c2, n3, c3, rfl⟩
/-- What is asked of the one row. -/
theorem lv_row : Ctr Tryz.prog 35 [.agg [fsl false [4611686018427387904] (some 1), fl 13837309855095848960]] (t3 (false, [1], 2) (true, [3], 1) (false, [9], 0)) := by
  refine t3_of ?_
  have h := grow_ctr false [4611686018427387904] (some 1) 13837309855095848960 (fun x hx => by rw [List.mem_singleton.1 hx]; decide) (by decide)
  unfold rowP at h
  simp only [if_pos lvq, lv1] at h
  exact h
theorem lv_row0 : Ctr Tryz.prog 35 [.agg [.pl true [] 0 (some 0), fl 4607182418800017408]] (fun r => r = .tup [.pl true [] 0 (some 0), bo false]) := by
  have h := grow_ctr true [] (some 0) 4607182418800017408 (fun x hx => by simp at hx) (by decide)
  unfold rowP at h
  simp only [if_neg lvq0] at h
  exact h
def lvR : LR := ⟨false, [⟨false, [4611686018427387904], some 1, 13837309855095848960⟩, ⟨false, [4607182418800017408], some 1, 4618441417868443648⟩], some 2⟩
theorem lv_factor : Ctr Tryz.prog 68 [.agg [i 1, fsl false lvT (some 3), i 0, i 0]] (t3 (false, [1], 2) (true, [3], 1) (false, [5], 1)) := by
  refine t3_of ?_
  have h := gfactor_ctr 1 lvT false (some 3) 0 0 (fun x hx => by
    unfold lvT at hx
    simp only [List.mem_cons, List.not_mem_nil, or_false] at hx
    omega) (by decide)
  unfold factorP at h
  simp only [if_pos lvt, show (1 : Int).toNat = 1 from rfl, lv3] at h
  exact h
theorem lv_okl {us : List DV} (h : us.map DV.d = lvA) : LenOk us ∧ us.map DV.m = lvA := by
  refine okl_us h ?_ (show (2048 : Int) - (-2148) ≤ 28800 by decide)
  rw [← lv1]; exact okl_row _ _
theorem lv_add {us : List DV} (nl : Bool) (cap : Option Nat) (h : us.map DV.d = lvA) : Ctr Tryz.prog 38 [dsl nl us cap, .pl true [] 0 (some 0)] (fun r => r = .tup [.pl true [] 0 (some 0), bo false]) := by
  have hl : us.length = 3 := by have := congrArg List.length h; simpa [lvA] using this
  have h := gadd_ctr (a := us) (b := []) nl cap true (some 0) (by omega) (lv_okl h).1 (fun d hd => by simp at hd)
  unfold joinP at h
  simp only [if_neg (show ¬ us.length = ([] : List DV).length by rw [hl]; decide)] at h
  exact h
theorem lv_fade {us : List DV} (nl : Bool) (cap : Option Nat) (h : us.map DV.d = lvA) : Ctr Tryz.prog 54 [dsl nl us cap, fl 4602678819172646912] (t3 (false, [1], 0) (true, [3], -1) (false, [9], -2)) := by
  refine t3_of ?_
  have hl : us.length = 3 := by have := congrArg List.length h; simpa [lvA] using this
  obtain ⟨h1, h2⟩ := lv_okl h
  have h := gfade_ctr (a := us) (b := 4602678819172646912) nl cap (L := -2148) (H := 2048) (by decide) (by omega) h1 (by rw [h2, ← lv1]; exact okl_row _ _) (by decide)
  unfold fadeP at h
  simp only [if_pos lvf, h2, lv4] at h
  exact h
end Go.Proofs.Nt
/- Gram: live, walked. -/
set_option linter.unusedVariables false
set_option maxRecDepth 20000
set_option linter.unusedSimpArgs false
set_option linter.unnecessarySimpa false
namespace Go.Proofs.Nt
open Go Go.Proofs Go.Proofs.Va Go.RowKit

theorem pur_g2 {σ : AHeap} {S : Nat → Prop} {a b x y : AV} (h1 : Pur σ S a x) (h2 : Pur σ S b y) : Pur σ S (.agg [a, b]) (.agg [x, y]) := by
  refine .agg _ _ rfl fun j hj => ?_
  have : j = 0 ∨ j = 1 := by simp at hj; omega
  rcases this with rfl | rfl
  · exact h1
  · exact h2
theorem pur_g4 {σ : AHeap} {S : Nat → Prop} {a b c d x y z w : AV} (h1 : Pur σ S a x) (h2 : Pur σ S b y) (h3 : Pur σ S c z) (h4 : Pur σ S d w) : Pur σ S (.agg [a, b, c, d]) (.agg [x, y, z, w]) := by
  refine .agg _ _ rfl fun j hj => ?_
  have : j = 0 ∨ j = 1 ∨ j = 2 ∨ j = 3 := by simp at hj; omega
  rcases this with rfl | rfl | rfl | rfl
  · exact h1
  · exact h2
  · exact h3
  · exact h4

theorem lv_n1 : Ctr Tryz.prog 33 [.v (.bool false), .pl false [.v (.int .u32 1)] 1 (some 1), .v (.int .i64 2)] (dTold (false, [1], 2)) := by
  have h := rnorm_ctr false false [1] (some 1) 2 (dig1 (by decide)) (by decide)
  rw [lvn1] at h
  exact h
theorem lv_n2 : Ctr Tryz.prog 33 [.v (.bool true), .pl false [.v (.int .u32 3)] 1 (some 1), .v (.int .i64 1)] (dTold (true, [3], 1)) := by
  have h := rnorm_ctr true false [3] (some 1) 1 (dig1 (by decide)) (by decide)
  rw [lvn2] at h
  exact h
theorem lv_n3 : Ctr Tryz.prog 33 [.v (.bool false), .pl false [.v (.int .u32 5)] 1 (some 1), .v (.int .i64 1)] (dTold (false, [5], 1)) := by
  have h := rnorm_ctr false false [5] (some 1) 1 (dig1 (by decide)) (by decide)
  rw [lvn3] at h
  exact h
theorem lv_n4 : Ctr Tryz.prog 33 [.v (.bool false), .pl false [.v (.int .u32 1)] 1 (some 1), .v (.int .i64 0)] (dTold (false, [1], 0)) := by
  have h := rnorm_ctr false false [1] (some 1) 0 (dig1 (by decide)) (by decide)
  rw [lvn4] at h
  exact h

end Go.Proofs.Nt
/- GramLines. -/
set_option linter.unusedVariables false
set_option maxRecDepth 20000
set_option linter.unusedSimpArgs false
set_option linter.unnecessarySimpa false
namespace Go.Proofs.Nt
open Go Go.Proofs Go.Proofs.Va Go.RowKit

theorem us_len {us : List DV} {G : List Dy} (h : us.map DV.d = G) : us.length = G.length := by rw [← h, List.length_map]
theorem pu_fac {a b c d : AV} (h : ∀ z ∈ [a, b, c, d], Pu z) : ∀ z ∈ [AV.agg [a, b, c, d]], Pu z := by
  intro z hz
  rw [List.mem_singleton.1 hz]
  exact pu_agg h

end Go.Proofs.Nt
/- GramSquares. -/
set_option linter.unusedVariables false
set_option maxRecDepth 20000
set_option linter.unusedSimpArgs false
set_option linter.unnecessarySimpa false
namespace Go.Proofs.Nt
open Go Go.Proofs Go.Proofs.Va Go.RowKit

theorem neg_false {d : Dy} (o : dOK d) {M : Int} (h : 0 ≤ iv d M) : d.1 = false := by
  cases hd : d.1
  · rfl
  · have e : iv d M = sg true (up (val d.2.1) d.2.2 M) := by unfold iv; rw [hd]
    have h2 : iv d M = 0 := by
      rw [e] at h ⊢
      unfold sg at h ⊢
      simp at h ⊢
      omega
    have := (iv_zero_iff o M).1 h2
    rw [this] at hd; cases hd

/-- Rows that came in. -/
def RIn (l : List RV) : Prop := ∀ r ∈ l, Fl r.x ∧ r.y < 18446744073709551616
theorem few_ok {m : Int} {l : List RV} (h : RIn l) (hf : fewB m l = true) : RvOk l ∧ (l.length : Int) ≤ m := by
  unfold fewB at hf
  rw [Bool.and_eq_true, List.all_eq_true] at hf
  refine ⟨fun r hr => ⟨(h r hr).1, (h r hr).2, ?_⟩, of_decide_eq_true hf.1⟩
  have := of_decide_eq_true (hf.2 r hr)
  omega

end Go.Proofs.Nt
/- GramOrders. -/
set_option linter.unusedVariables false
set_option maxRecDepth 20000
set_option linter.unusedSimpArgs false
set_option linter.unnecessarySimpa false
namespace Go.Proofs.Nt
open Go Go.Proofs Go.Proofs.Va Go.RowKit

theorem slice_rhi {x : LR} {k : IntKind} {g : Nat} {σ : AHeap} {K : AV → AHeap → Prop} (h : g ≤ x.l.length) (hK : K (LR.av ⟨x.nl && x.l.isEmpty, x.l.take g, x.cap⟩) σ) :
    aSlice Tryz.prog 108 x.av none (some (.v (.int k g))) none σ K := by
  have e : (rcs x.l).take (g * 2) = rcs (x.l.take g) := rcs_take x.l g
  have hn : (x.nl && x.l.isEmpty && (x.l.take g).isEmpty) = (x.nl && x.l.isEmpty) := by cases x.nl <;> cases x.l <;> simp
  unfold LR.av at hK ⊢
  simp only [hn, List.length_take, Nat.min_eq_left h] at hK
  simp [h, e]
  exact hK
theorem slice_rlo {x : LR} {k : IntKind} {g : Nat} {σ : AHeap} {K : AV → AHeap → Prop} (h : g ≤ x.l.length) (hK : K (LR.av ⟨x.nl && x.l.isEmpty, x.l.drop g, x.cap.map (· - g)⟩) σ) :
    aSlice Tryz.prog 108 x.av (some (.v (.int k g))) none none σ K := by
  have e1 : ((x.l.length : Int) - g).toNat = x.l.length - g := by omega
  have e : ((rcs x.l).drop (g * 2)).take ((x.l.length - g) * 2) = rcs (x.l.drop g) := by rw [rcs_drop, List.take_of_length_le (by rw [rcs_len, List.length_drop]; exact Nat.le_refl _)]
  have hn : (x.nl && x.l.isEmpty && (x.l.drop g).isEmpty) = (x.nl && x.l.isEmpty) := by cases x.nl <;> cases x.l <;> simp
  unfold LR.av at hK ⊢
  simp only [hn, List.length_drop] at hK
  simp [h, e, e1]
  exact hK

theorem append_or2 {k : Nat} {σ : AHeap} {r : AV} {l : List RV} {y : RV} {K : AV → AHeap → Prop} (h : OR k σ r l) (hl : l.length ≤ 1000000) (h0 : k ≤ σ.length)
    (hK : ∀ r' σ', OR k σ' r' (l ++ [y]) → σ.length ≤ σ'.length → (∀ a, a < k → σ'[a]? = σ[a]?) → K r' σ') :
    aAppend Tryz.prog 108 108 r (.so σ.length 0 0 1 2 (some 1)) (σ ++ ([⟨.own, 0, y.cs⟩] : AHeap)) K := by
  have hc : y.cs.length = 2 := rfl
  have hlc := rcs_len l
  have hty : y.cs.take 2 = y.cs := rfl
  cases h with
  | nil =>
    simp [hc, hty]
    have := hK (.so (σ.length + 1) 0 0 1 2 none) (σ ++ ([⟨.own, 0, y.cs⟩, ⟨.own, 0, y.cs⟩] : AHeap)) (.so _ _ [y] (by omega) (by simp [rcs])) (by simp) (fun a ha => by rw [List.getElem?_append_left (by omega)])
    simpa using this
  | so j v l hn hj =>
    have hlt := (List.getElem?_eq_some_iff.1 hj).1
    have htk : (rcs l).take (l.length * 2) = rcs l := List.take_of_length_le (by omega)
    simp [List.getElem?_append_left hlt, hc, hty, hj, htk, hlc]
    refine ⟨by omega, ?_⟩
    have := hK (.so j (v + 1) 0 (l ++ [y]).length 2 none) (List.set (σ ++ ([⟨.own, 0, y.cs⟩] : AHeap)) j ⟨.own, v + 1, rcs l ++ y.cs⟩) (.so _ _ _ hn (by rw [List.getElem?_set_self (by simp; omega), rcs_snoc])) (by simp)
      (fun a ha => by rw [List.getElem?_set_ne (by omega), List.getElem?_append_left (by omega)])
    simpa using this
theorem OR.purj {k : Nat} {σ : AHeap} {r : AV} {l : List RV} (h : OR k σ r l) : ∃ j nl cap, Pur σ (· ∈ [j]) r (LR.av ⟨nl, l, cap⟩) := by
  cases h with
  | nil => exact ⟨0, true, some 0, .same _ (by simp)⟩
  | so j v l hn hj =>
    refine ⟨j, false, none, .so j v 0 l.length 2 none _ (rcs l) hj rfl (fun h => by cases h) (by simp) ?_ (rcs_len l) fun q hq => ?_⟩
    · show 0 + l.length * 2 ≤ (rcs l).length
      rw [rcs_len]; omega
    · rw [Nat.zero_add, getD_eq hq]
      exact .same _ (pu_rcs l _ (List.getElem_mem hq))

theorem rowsP_all {c : Int} {rs : List (List Nat × Nat)} {r : AV} (h : rowsP c rs r) (hl : rs.length ≤ 1000) : ∃ us nl cap, r = .tup [dsl nl us cap, bo (okRows c rs)] ∧ us.map DV.d = (if okRows c rs = true then rowsG c.toNat rs else []) ∧ LenOk us ∧ us.map DV.m = us.map DV.d ∧ us.length ≤ 28 := by
  unfold rowsP at h
  by_cases hok : okRows c rs = true
  · rw [if_pos hok] at h
    obtain ⟨us, nl, cap, hus, rfl⟩ := h
    obtain ⟨n, rfl, h1, hn, hro⟩ := okRows_nat hok
    obtain ⟨ho, hgl⟩ := rows_okl hn hro hl
    rw [Int.toNat_natCast] at hus
    obtain ⟨l1, m1⟩ := okl_us hus ho (by omega)
    refine ⟨us, nl, cap, by rw [hok], by rw [if_pos hok, Int.toNat_natCast]; exact hus, l1, by rw [m1, hus], ?_⟩
    have := size_le hn
    have := us_len hus
    omega
  · rw [if_neg hok] at h
    subst h
    refine ⟨[], true, some 0, ?_, by rw [if_neg hok]; rfl, fun d hd => by simp at hd, rfl, by simp⟩
    rw [Bool.not_eq_true] at hok
    rw [hok]; rfl
end Go.Proofs.Nt
/- GramOrders, walked. -/
set_option linter.unusedVariables false
set_option maxRecDepth 20000
set_option linter.unusedSimpArgs false
set_option linter.unnecessarySimpa false
namespace Go.Proofs.Nt
open Go Go.Proofs Go.Proofs.Va Go.RowKit

theorem rv_sub {l l' : List RV} (h : RvOk l) (hs : ∀ r ∈ l', r ∈ l) : RvOk l' := fun r hr => h r (hs r hr)
theorem same_us {a b : List DV} (na : Bool) (ca : Option Nat) (nb : Bool) (cb : Option Nat) (h : a.map DV.d = b.map DV.d) (ha : LenOk a) (hb : LenOk b) (hl : a.length ≤ 100000) :
    Ctr Tryz.prog 28 [dsl na a ca, dsl nb b cb] (fun r => r = bo true) := by
  have := rsameL_ctr na ca nb cb (a := a) (b := b) hl (fun d hd => by have := (ha d hd).2; omega) (fun d hd => by have := (hb d hd).2; omega)
  rw [decide_eq_true h] at this
  exact this

theorem lenok_d {a b : List DV} (h : a.map DV.d = b.map DV.d) (hb : LenOk b) : LenOk a := by
  intro d hd
  have : d.d ∈ b.map DV.d := by rw [← h]; exact List.mem_map.2 ⟨d, hd, rfl⟩
  obtain ⟨e, he, h2⟩ := List.mem_map.1 this
  have h3 := hb e he
  have h4 : e.a = d.a := congrArg (fun z : Dy => z.2.1) h2
  rw [h4] at h3
  exact h3
end Go.Proofs.Nt
/- ref08.Add, Sub, Fade, Zero. -/
set_option linter.unusedVariables false
set_option maxRecDepth 20000
set_option linter.unusedSimpArgs false
set_option linter.unnecessarySimpa false
namespace Go.Proofs.Nt
open Go Go.Proofs Go.Proofs.Va Go.RowKit

theorem append_dp {k : Nat} {σ : AHeap} {r : AV} {l : List DV} {d : DV} {K : AV → AHeap → Prop} (h : OE k σ r l) (hk : k ≤ σ.length) (hl : l.length ≤ 1000000)
    (hK : ∀ r' σ', OE k σ' r' (l ++ [d]) → k ≤ σ'.length → σ'.take k = σ.take k → K r' σ') :
    aAppend Tryz.prog 22 22 r (.pl false d.cs 1 (some 1)) σ K := by
  have hlc := dcs_len l
  have hdc : d.cs.length = 3 := rfl
  cases h with
  | nil =>
    simp [hdc]
    have := hK (.so σ.length 0 0 1 3 none) (σ ++ ([⟨.own, 0, d.cs⟩] : AHeap)) (.so _ _ [d] (by omega) (by simp [dcs])) (by simp; omega) (take_app hk _)
    exact this
  | so j v l hkj hj =>
    have hlt := (List.getElem?_eq_some_iff.1 hj).1
    simp [hj, hdc, hlc]
    refine ⟨by omega, ?_⟩
    rw [List.take_of_length_le (by omega)]
    have := hK (.so j (v + 1) 0 (l ++ [d]).length 3 none) (σ.set j ⟨.own, v + 1, dcs l ++ d.cs⟩) (.so _ _ _ hkj (by rw [List.getElem?_set_self hlt, dcs_snoc]))
      (by simp; omega) (by rw [List.take_set_of_le hkj])
    simpa using this

/-- Two lists joined, by the document. -/
def joinR (f : Dy → Dy → Dy) (a b : List DV) (r : AV) : Prop :=
  if a.length = b.length then ∃ us nl cap, us.map DV.d = List.zipWith f (a.map DV.m) (b.map DV.m) ∧ r = .tup [dsl nl us cap, bo true] else r = .tup [.pl true [] 0 (some 0), bo false]
theorem zip_at {f : Dy → Dy → Dy} {a b : List Dy} {g : Nat} (ha : g < a.length) (hb : g < b.length) : List.zipWith f (a.take (g + 1)) (b.take (g + 1)) = List.zipWith f (a.take g) (b.take g) ++ [f a[g] b[g]] := by
  rw [List.take_succ_eq_append_getElem ha, List.take_succ_eq_append_getElem hb, List.zipWith_append (by simp; omega)]; rfl
theorem rgadd_ctr {a b : List DV} (na : Bool) (ca : Option Nat) (nb : Bool) (cb : Option Nat) (hl : a.length ≤ 100000) (ha : LenOk a) (hb : LenOk b) :
    Ctr Tryz.prog 41 [dsl na a ca, dsl nb b cb] (joinR addD a b) := by
  refine ctr_in Tryz.func41 rfl (by kernel_rfl) rfl fun K hK => ?_
  simp only [Tryz.f41, List.append_eq, List.cons_append, List.nil_append]
  by_cases hab : a.length = b.length
  case neg =>
    have hab' : ¬ (a.length : Int) = b.length := by omega
    simp only [joinR, if_neg hab] at hK
    simp [hab, hab']
    exact hK _ _ _ (.same _ (pu_tup (by simp))) rfl
  simp only [joinR, if_pos hab] at hK
  simp [hab]
  refine loop_on (γ := Nat × List DV × AV × AHeap) 32 (fun g => [(0, dsl na a ca), (1, dsl nb b cb), (6, g.2.2.1), (7, i g.1)]) (fun g => g.2.2.2)
    (fun g => g.1 ≤ a.length ∧ OE 0 g.2.2.2 g.2.2.1 g.2.1 ∧ g.2.1.map DV.d = List.zipWith addD ((a.map DV.m).take g.1) ((b.map DV.m).take g.1)) (fun g => a.length - g.1)
    (0, [], .pl true [] 0 (some 0), []) ⟨Nat.zero_le _, .nil, rfl⟩ (Wk.lst (by simp [dsl]) (by simp)) ?_
  rintro ⟨g, us, r, σ⟩ ⟨hg, hO, hus⟩ L hL
  simp only at hg hO hus
  by_cases hlt : g < a.length
  · have hltb : g < b.length := by omega
    have w2 : IntKind.i64.wrap ((g : Int) + 1) = ((g + 1 : Nat) : Int) := w64 _ (by omega) (by omega)
    have rA := dcs_read hlt
    have rB := dcs_read hltb
    have oa3 : g * 3 + 3 ≤ (dcs a).length := by rw [dcs_len]; omega
    have ob3 : g * 3 + 3 ≤ (dcs b).length := by rw [dcs_len]; omega
    have oa : g * 3 < (dcs a).length := by omega
    have ob : g * 3 < (dcs b).length := by omega
    have hxl := ha _ (gv_mem hlt)
    have hyl := hb _ (gv_mem hltb)
    have hz : List.zipWith addD ((a.map DV.m).take (g + 1)) ((b.map DV.m).take (g + 1)) = List.zipWith addD ((a.map DV.m).take g) ((b.map DV.m).take g) ++ [addD (gv a g).m (gv b g).m] := by
      rw [zip_at (by simpa using hlt) (by simpa using hltb), List.getElem_map, List.getElem_map, gv_at hlt, gv_at hltb]
    have hnext := fun us' r' σ' => hL (g + 1, us', r', σ')
    simp only [hz] at hnext
    have hul : us.length ≤ 1000000 := by
      have := congrArg List.length hus
      simp at this
      omega
    generalize List.zipWith addD ((a.map DV.m).take g) ((b.map DV.m).take g) = Z at *
    generalize gv a g = u at *
    generalize gv b g = v at *
    obtain ⟨ug, un, ua, uc, ue⟩ := u
    obtain ⟨vg, vn, va, vc, ve⟩ := v
    have cS := radd3_ctr ug un vg vn ua va uc vc ue ve hxl.1 hyl.1 (by have := hxl.2; simp only at this; omega) (by have := hyl.2; simp only at this; omega)
    change Ctr _ _ _ (dTold (addD (DV.m ⟨ug, un, ua, uc, ue⟩) (DV.m ⟨vg, vn, va, vc, ve⟩))) at cS
    generalize addD (DV.m ⟨ug, un, ua, uc, ue⟩) (DV.m ⟨vg, vn, va, vc, ve⟩) = d at *
    simp [hlt]
    refine draw_at [0, 0, 0, 1, 1, 0, 0, 1, 1, 3, 0, 4, 0] orders (by kernel_rfl) ?_
    simp [hlt, hltb, oa, oa3, ob, ob3, rA, rB, hO.od.sc, -aAppend]
    refine acall_by cS (by simp [DV.av, dy]) ?_
    rintro _ ⟨n4, c4, rfl⟩
    simp [cells_ag, cells_dy, wr, -cellsOf, -aAppend]
    refine ⟨pu_dy _ _ _ _ _, .pl _ _ _ _, ?_⟩
    refine append_dp (d := toV d n4 c4) hO (Nat.zero_le _) hul fun r' σ' hO' hσ' _ => ?_
    rw [lkC_on]
    simp [w2, -Int.natCast_add]
    exact hnext _ r' σ' _ _ ⟨by show g + 1 ≤ a.length; omega, hO', by rw [List.map_append, hus]; rfl⟩ (Wk.lst (by simp) (by simp)) (by show a.length - (g + 1) < a.length - g; omega)
  · have hge : g = a.length := by omega
    rw [hge, List.take_of_length_le (by simp), List.take_of_length_le (by simp; omega)] at hus
    simp [hlt]
    obtain ⟨n2, c2, hp⟩ := hO.od.pur (S := fun _ => True) (fun _ => trivial)
    refine hK _ _ (.tup [dsl n2 us c2, bo true]) ?_ ⟨us, n2, c2, hus, rfl⟩
    refine .tup _ _ rfl fun q hq => ?_
    have : q = 0 ∨ q = 1 := by simp at hq; omega
    rcases this with rfl | rfl
    · exact hp
    · exact .same _ (by simp)
theorem rgsub_ctr {a b : List DV} (na : Bool) (ca : Option Nat) (nb : Bool) (cb : Option Nat) (hl : a.length ≤ 100000) (ha : LenOk a) (hb : LenOk b) :
    Ctr Tryz.prog 44 [dsl na a ca, dsl nb b cb] (joinR (fun x y => addD x (oppD y)) a b) := by
  refine ctr_in Tryz.func44 rfl (by kernel_rfl) rfl fun K hK => ?_
  simp only [Tryz.f44, List.append_eq, List.cons_append, List.nil_append]
  by_cases hab : a.length = b.length
  case neg =>
    have hab' : ¬ (a.length : Int) = b.length := by omega
    simp only [joinR, if_neg hab] at hK
    simp [hab, hab']
    exact hK _ _ _ (.same _ (pu_tup (by simp))) rfl
  simp only [joinR, if_pos hab] at hK
  simp [hab]
  refine loop_on (γ := Nat × List DV × AV × AHeap) 32 (fun g => [(0, dsl na a ca), (1, dsl nb b cb), (6, g.2.2.1), (7, i g.1)]) (fun g => g.2.2.2)
    (fun g => g.1 ≤ a.length ∧ OE 0 g.2.2.2 g.2.2.1 g.2.1 ∧ g.2.1.map DV.d = List.zipWith (fun x y => addD x (oppD y)) ((a.map DV.m).take g.1) ((b.map DV.m).take g.1)) (fun g => a.length - g.1)
    (0, [], .pl true [] 0 (some 0), []) ⟨Nat.zero_le _, .nil, rfl⟩ (Wk.lst (by simp [dsl]) (by simp)) ?_
  rintro ⟨g, us, r, σ⟩ ⟨hg, hO, hus⟩ L hL
  simp only at hg hO hus
  by_cases hlt : g < a.length
  · have hltb : g < b.length := by omega
    have w2 : IntKind.i64.wrap ((g : Int) + 1) = ((g + 1 : Nat) : Int) := w64 _ (by omega) (by omega)
    have rA := dcs_read hlt
    have rB := dcs_read hltb
    have oa3 : g * 3 + 3 ≤ (dcs a).length := by rw [dcs_len]; omega
    have ob3 : g * 3 + 3 ≤ (dcs b).length := by rw [dcs_len]; omega
    have oa : g * 3 < (dcs a).length := by omega
    have ob : g * 3 < (dcs b).length := by omega
    have hxl := ha _ (gv_mem hlt)
    have hyl := hb _ (gv_mem hltb)
    have hz : List.zipWith (fun x y => addD x (oppD y)) ((a.map DV.m).take (g + 1)) ((b.map DV.m).take (g + 1)) = List.zipWith (fun x y => addD x (oppD y)) ((a.map DV.m).take g) ((b.map DV.m).take g) ++ [(fun x y => addD x (oppD y)) (gv a g).m (gv b g).m] := by
      rw [zip_at (by simpa using hlt) (by simpa using hltb), List.getElem_map, List.getElem_map, gv_at hlt, gv_at hltb]
    have hnext := fun us' r' σ' => hL (g + 1, us', r', σ')
    simp only [hz] at hnext
    have hul : us.length ≤ 1000000 := by
      have := congrArg List.length hus
      simp at this
      omega
    generalize List.zipWith (fun x y => addD x (oppD y)) ((a.map DV.m).take g) ((b.map DV.m).take g) = Z at *
    generalize gv a g = u at *
    generalize gv b g = v at *
    obtain ⟨ug, un, ua, uc, ue⟩ := u
    obtain ⟨vg, vn, va, vc, ve⟩ := v
    have cS := rsub3_ctr ug un vg vn ua va uc vc ue ve hxl.1 hyl.1 (by have := hxl.2; simp only at this; omega) (by have := hyl.2; simp only at this; omega)
    rw [← opp_m ⟨vg, vn, va, vc, ve⟩] at cS
    change Ctr _ _ _ (dTold (addD (DV.m ⟨ug, un, ua, uc, ue⟩) (oppD (DV.m ⟨vg, vn, va, vc, ve⟩)))) at cS
    generalize addD (DV.m ⟨ug, un, ua, uc, ue⟩) (oppD (DV.m ⟨vg, vn, va, vc, ve⟩)) = d at *
    simp [hlt]
    refine draw_at [0, 0, 0, 1, 1, 0, 0, 1, 1, 3, 0, 4, 0] orders (by kernel_rfl) ?_
    simp [hlt, hltb, oa, oa3, ob, ob3, rA, rB, hO.od.sc, -aAppend]
    refine acall_by cS (by simp [DV.av, dy]) ?_
    rintro _ ⟨n4, c4, rfl⟩
    simp [cells_ag, cells_dy, wr, -cellsOf, -aAppend]
    refine ⟨pu_dy _ _ _ _ _, .pl _ _ _ _, ?_⟩
    refine append_dp (d := toV d n4 c4) hO (Nat.zero_le _) hul fun r' σ' hO' hσ' _ => ?_
    rw [lkC_on]
    simp [w2, -Int.natCast_add]
    exact hnext _ r' σ' _ _ ⟨by show g + 1 ≤ a.length; omega, hO', by rw [List.map_append, hus]; rfl⟩ (Wk.lst (by simp) (by simp)) (by show a.length - (g + 1) < a.length - g; omega)
  · have hge : g = a.length := by omega
    rw [hge, List.take_of_length_le (by simp), List.take_of_length_le (by simp; omega)] at hus
    simp [hlt]
    obtain ⟨n2, c2, hp⟩ := hO.od.pur (S := fun _ => True) (fun _ => trivial)
    refine hK _ _ (.tup [dsl n2 us c2, bo true]) ?_ ⟨us, n2, c2, hus, rfl⟩
    refine .tup _ _ rfl fun q hq => ?_
    have : q = 0 ∨ q = 1 := by simp at hq; omega
    rcases this with rfl | rfl
    · exact hp
    · exact .same _ (by simp)
end Go.Proofs.Nt
/- ref08.Fade, Zero. -/
set_option linter.unusedVariables false
set_option maxRecDepth 20000
set_option linter.unusedSimpArgs false
set_option linter.unnecessarySimpa false
namespace Go.Proofs.Nt
open Go Go.Proofs Go.Proofs.Va Go.RowKit

theorem rzero2_ctr (c : Int) : Ctr Tryz.prog 48 [i c] (fun r => ∃ cap, r = dsl false (List.replicate (sizeI c).toNat zDV) cap) := by
  refine ctr_in Tryz.func48 rfl (by kernel_rfl) rfl fun K hK => ?_
  simp only [Tryz.f48, List.append_eq, List.cons_append, List.nil_append]
  have hsz : 0 ≤ sizeI c ∧ sizeI c ≤ 28 := by
    by_cases h : 1 ≤ c ∧ c ≤ 6
    · have := (size_facts (c := c) h).2.2; omega
    · have : sizeI c = 0 := if_neg h
      omega
  simp
  refine acall_by (rsize_ctr c) (by simp) ?_
  rintro _ rfl
  simp [flat_dcs]
  refine ⟨⟨by omega, by omega⟩, ?_⟩
  exact hK _ _ _ (pur_ds (k := .own) (l := List.replicate (sizeI c).toNat zDV) (by simp) (by decide) (by simp) (by simp)) ⟨_, rfl⟩

theorem fade_take {a : List Dy} {p : Dy} {g : Nat} (h : g < a.length) : fadeL (a.take (g + 1)) p = fadeL (a.take g) p ++ [mulD (mulD a[g] p) p] := by
  rw [List.take_succ_eq_append_getElem h]
  unfold fadeL
  rw [List.map_append]; rfl
theorem rgfade_ctr {a : List DV} {b : Nat} (na : Bool) (ca : Option Nat) {L H : Int} (hb : b < 18446744073709551616) (hl : a.length ≤ 100000) (ha : LenOk a) (ho : Okl L H (a.map DV.m)) (hLH : H - L ≤ 20000) :
    Ctr Tryz.prog 56 [dsl na a ca, fl b] (fadeP (a.map DV.m) b) := by
  refine ctr_in Tryz.func56 rfl (by kernel_rfl) rfl fun K hK => ?_
  simp only [Tryz.f56, List.append_eq, List.cons_append, List.nil_append]
  simp
  refine acall_by (rfrom3_ctr hb) (by simp) ?_
  rintro _ ⟨n1, c1, rfl⟩
  by_cases hf : frg b < 9218868437227405312
  case neg =>
    have hfin : ¬ fin b = true := by unfold fin; simpa using hf
    simp only [fadeP, if_neg hfin] at hK
    simp [hf, cells_dy, cells_ag, wr, -cellsOf]
    exact hK _ _ _ (.same _ (pu_tup (by simp))) rfl
  have hfin : fin b = true := decide_eq_true hf
  simp only [fadeP, if_pos hfin] at hK
  obtain ⟨op, bp⟩ := okl_from [b] (fromD b) (by simp)
  generalize fromD b = p at *
  have pl : p.2.1.length ≤ 900 := bd_len op bp (by omega)
  simp [hf, cells_dy, cells_ag, wr, -cellsOf]
  refine loop_on (γ := Nat × List DV × AV × AHeap) 35 (fun g => [(0, dsl na a ca), (6, .po 0 0 0), (8, g.2.2.1), (9, i g.1)]) (fun g => g.2.2.2)
    (fun g => g.1 ≤ a.length ∧ OE 1 g.2.2.2 g.2.2.1 g.2.1 ∧ 1 ≤ g.2.2.2.length ∧ g.2.2.2[0]? = some ⟨.own, 0, [bo p.1, sl n1 p.2.1 c1, i p.2.2]⟩ ∧ g.2.1.map DV.d = fadeL ((a.map DV.m).take g.1) p) (fun g => a.length - g.1)
    (0, [], .pl true [] 0 (some 0), _) ⟨Nat.zero_le _, .nil, by simp, rfl, rfl⟩ (Wk.lst (by simp [dsl]) (by simp)) ?_
  rintro ⟨g, us, r, σ⟩ ⟨hg, hO, hσ, h0, hus⟩ L hL
  simp only at hg hO hσ h0 hus
  by_cases hlt : g < a.length
  · have w2 : IntKind.i64.wrap ((g : Int) + 1) = ((g + 1 : Nat) : Int) := w64 _ (by omega) (by omega)
    have rA := dcs_read hlt
    have oa3 : g * 3 + 3 ≤ (dcs a).length := by rw [dcs_len]; omega
    have oa : g * 3 < (dcs a).length := by omega
    have hxl := ha _ (gv_mem hlt)
    have hz : fadeL ((a.map DV.m).take (g + 1)) p = fadeL ((a.map DV.m).take g) p ++ [mulD (mulD (gv a g).m p) p] := by
      rw [fade_take (by simpa using hlt), List.getElem_map, gv_at hlt]
    obtain ⟨o1, b1⟩ := ho (gv a g).m (by rw [gv_at hlt]; exact List.mem_map.2 ⟨_, List.getElem_mem hlt, rfl⟩)
    have o2 := ok_mul (gv a g).m p
    have l2 := bd_len o2 (bd_mul b1 bp) (k := 900) (by omega)
    have cB := fun n c n' c' => rmulX (n := n) (c := c) (n' := n') (c' := c') o2 (by omega) op (by omega)
    have hnext := fun us' r' σ' => hL (g + 1, us', r', σ')
    simp only [hz] at hnext
    have hul : us.length ≤ 1000000 := by
      have := congrArg List.length hus
      unfold fadeL at this
      simp at this
      omega
    generalize fadeL ((a.map DV.m).take g) p = Z at *
    generalize gv a g = u at *
    obtain ⟨ug, un, ua, uc, ue⟩ := u
    have cS := fun n' c' => rmul3_ctr ug un p.1 n' ua p.2.1 uc c' ue p.2.2 hxl.1 op.2 (by have := hxl.2; simp only at this; omega) (by omega)
    rw [may_of_ok op.1] at cS
    change ∀ n' c', Ctr _ _ _ (dTold (mulD (DV.m ⟨ug, un, ua, uc, ue⟩) p)) at cS
    generalize mulD (DV.m ⟨ug, un, ua, uc, ue⟩) p = d1 at *
    generalize mulD d1 p = d at *
    have hp0 : 0 < σ.length := hσ
    simp [hlt]
    refine draw_at [0, 0, 0, 1, 1, 1, 3, 1, 3, 0, 4, 0] orders (by kernel_rfl) ?_
    simp [hlt, oa, oa3, rA, h0, hp0, hO.od.sc, cells_ag, -aAppend, -getElem?_pos, List.getElem?_cons_zero, List.getElem?_cons_succ]
    refine acall_by (cS n1 c1) (by simp [DV.av, dy]) ?_
    rintro _ ⟨n4, c4, rfl⟩
    simp [h0, hp0, cells_ag, cells_dy, wr, -cellsOf, -aAppend, -getElem?_pos, List.getElem?_cons_zero, List.getElem?_cons_succ]
    refine acall_by (cB n4 c4 n1 c1) (by simp [dy]) ?_
    rintro _ ⟨n5, c5, rfl⟩
    simp [h0, hp0, cells_ag, cells_dy, wr, -cellsOf, -aAppend, -getElem?_pos, List.getElem?_cons_zero, List.getElem?_cons_succ]
    refine ⟨pu_dy _ _ _ _ _, .pl _ _ _ _, ?_⟩
    refine append_dp (d := toV d n5 c5) hO hσ hul fun r' σ' hO' hσ' hS => ?_
    rw [lkC_on]
    simp [w2, -Int.natCast_add]
    exact hnext _ r' σ' _ _ ⟨by show g + 1 ≤ a.length; omega, hO', hσ', by rw [take_get hS (by decide)]; exact h0, by rw [List.map_append, hus]; rfl⟩ (Wk.lst (by simp) (by simp)) (by show a.length - (g + 1) < a.length - g; omega)
  · have hge : g = a.length := by omega
    rw [hge, List.take_of_length_le (by simp)] at hus
    simp [hlt]
    obtain ⟨n2, c2, hp⟩ := hO.od.pur (S := fun _ => True) (fun _ => trivial)
    refine hK _ _ (.tup [dsl n2 us c2, bo true]) ?_ ⟨us, n2, c2, hus, rfl⟩
    refine .tup _ _ rfl fun q hq => ?_
    have : q = 0 ∨ q = 1 := by simp at hq; omega
    rcases this with rfl | rfl
    · exact hp
    · exact .same _ (by simp)
end Go.Proofs.Nt
/- ref08.Rows, Factor. -/
set_option linter.unusedVariables false
set_option maxRecDepth 20000
set_option linter.unusedSimpArgs false
set_option linter.unnecessarySimpa false
namespace Go.Proofs.Nt
open Go Go.Proofs Go.Proofs.Va Go.RowKit

set_option maxHeartbeats 1000000 in
theorem rgrows_ctr (c : Int) (x : LR) (hx : RvOk x.l) (hl : x.l.length ≤ 1000) : Ctr Tryz.prog 110 [i c, x.av] (rowsP c (x.l.map RV.p)) := by
  refine ctr_in Tryz.func110 rfl (by kernel_rfl) rfl fun K hK => ?_
  simp only [Tryz.f110, List.append_eq, List.cons_append, List.nil_append]
  have hbad : ¬ okRows c (x.l.map RV.p) = true → ∀ σ, K (.tup [.pl true [] 0 (some 0), .v (.bool false)]) σ := by
    intro h σ
    refine hK _ _ _ (.same _ (pu_tup (by simp))) ?_
    unfold rowsP; rw [if_neg h]; rfl
  simp
  refine acall_by (rsize_ctr c) (by simp) ?_
  rintro _ rfl
  by_cases a1 : sizeI c = 0
  · simp [a1]
    refine hbad (fun h => ?_) _
    obtain ⟨n, rfl, h1, h2, _⟩ := okRows_nat h
    have := (size_facts (c := (n : Int)) (by omega)).2.2
    omega
  have hc : 1 ≤ c ∧ c ≤ 6 := by
    apply Classical.byContradiction
    intro h
    exact a1 (if_neg h)
  obtain ⟨n, rfl⟩ : ∃ n : Nat, c = n := ⟨c.toNat, by omega⟩
  have hsz : (sizeI (n : Int)).toNat = sizeN n := by unfold sizeI; rw [if_pos hc]; rfl
  have hn6 : n ≤ 6 := by omega
  simp [a1]
  refine acall_by (rzero2_ctr n) (by simp) ?_
  rintro _ ⟨c0, rfl⟩
  rw [hsz]
  simp
  refine loop_on (γ := Nat × List DV × Bool × Option Nat) 51 (fun g => [(0, i n), (1, x.av), (6, dsl g.2.2.1 g.2.1 g.2.2.2), (7, i g.1)]) (fun _ => [])
    (fun g => g.1 ≤ x.l.length ∧ (∀ r ∈ (x.l.map RV.p).take g.1, rowQ r.1 r.2 = true ∧ (r.1.length : Int) = n) ∧ g.2.1.map DV.d = rowsG n ((x.l.map RV.p).take g.1)) (fun g => x.l.length - g.1)
    (0, List.replicate (sizeN n) zDV, false, c0) ⟨Nat.zero_le _, (fun r hr => by simp at hr), zero_d _⟩ (Wk.lst (by simp) (by simp)) ?_
  rintro ⟨g, us, n1, c1⟩ ⟨hg, hrs, hus⟩ L hL
  simp only at hg hrs hus
  by_cases hlt : g < x.l.length
  case neg =>
    have hge : g = x.l.length := by omega
    rw [hge, List.take_of_length_le (by simp)] at hrs hus
    have hok := rowsOk_of (c := (n : Int)) hc hrs
    simp only [rowsP, if_pos hok] at hK
    simp [hge]
    exact hK _ _ _ (.same _ (pu_tup (by simp))) ⟨us, n1, c1, hus, rfl⟩
  obtain ⟨hf, hy, hxl⟩ := hx _ (List.getElem_mem hlt)
  have hrd := rcs_read hlt
  have h0 : g * 2 < (rcs x.l).length := by rw [rcs_len]; omega
  have hg0 : (rcs x.l)[g * 2]'h0 = fsl x.l[g].xn x.l[g].x x.l[g].xc := (List.getElem?_eq_some_iff.1 (rcs_get0 hlt)).2
  have h2 : g * 2 + 2 ≤ (rcs x.l).length := by rw [rcs_len]; omega
  have hw1 : IntKind.i64.wrap ((g : Int) + 1) = ((g + 1 : Nat) : Int) := w64 _ (by omega) (by omega)
  have cR := rrow_ctr x.l[g].xn x.l[g].x x.l[g].xc x.l[g].y hf hy hxl
  have hmem : (x.l[g].x, x.l[g].y) ∈ x.l.map RV.p := List.mem_map.2 ⟨_, List.getElem_mem hlt, rfl⟩
  have htk : (x.l.map RV.p).take (g + 1) = (x.l.map RV.p).take g ++ [(x.l[g].x, x.l[g].y)] := by
    rw [List.take_succ_eq_append_getElem (by simpa using hlt), List.getElem_map]; rfl
  have hgl : ((x.l.map RV.p).take g).length ≤ 1000 := by simp; omega
  have hnext := hL
  generalize (x.l.map RV.p).take g = rs at *
  generalize x.l[g].x = rx at *
  generalize x.l[g].y = ry at *
  generalize x.l[g].xn = rn at *
  generalize x.l[g].xc = rc at *
  simp [hlt, h0, h2, hrd, wr, -Int.natCast_add]
  refine acall_by cR (by intro z hz; rw [List.mem_singleton.1 hz]; exact pu_agg (by simp)) ?_
  intro r hr
  unfold rowP at hr
  by_cases hq : rowQ rx ry = true
  case neg =>
    rw [if_neg hq] at hr
    subst hr
    simp
    exact hbad (rowsOk_not hmem (fun h => hq h.1)) _
  rw [if_pos hq] at hr
  obtain ⟨os, n2, c2, hos, rfl⟩ := hr
  by_cases hln : rx.length = n
  case neg =>
    have hln' : ¬ (rx.length : Int) = (n : Int) := by omega
    simp [hlt, h0, h2, hg0, hln, hln']
    exact hbad (rowsOk_not hmem (fun h => hln' h.2)) _
  have hro : rowsOk n rs := fun r hr => by have := (hrs r hr).2; omega
  obtain ⟨ho1, hl1⟩ := rows_okl hn6 hro hgl
  obtain ⟨l1, m1⟩ := okl_us hus ho1 (by omega)
  obtain ⟨l2, m2⟩ := okl_us hos (okl_row rx ry) (by omega)
  have hul : us.length = sizeN n := by have := congrArg List.length hus; rw [List.length_map] at this; omega
  have hol : os.length = sizeN n := by have := congrArg List.length hos; rw [List.length_map, row_len (by omega), hln] at this; exact this
  have hsl := size_le hn6
  have cA := rgadd_ctr n1 c1 n2 c2 (by omega) l1 l2
  simp [hlt, h0, h2, hg0, hln]
  refine acall_by cA (by simp) ?_
  intro r hr
  unfold joinR at hr
  rw [if_pos (by omega), m1, m2] at hr
  obtain ⟨ws, n3, c3, hws, rfl⟩ := hr
  simp [hw1, -Int.natCast_add]
  refine hL (g + 1, ws, n3, c3) _ _ ⟨by show g + 1 ≤ x.l.length; omega, ?_, ?_⟩ (Wk.lst_drop 0 rfl (by simp) (by simp) (by simp) (fun b hb => by simp at hb)) (by show x.l.length - (g + 1) < x.l.length - g; omega)
  · intro r hr
    rw [htk] at hr
    rcases List.mem_append.1 hr with h | h
    · exact hrs r h
    · rw [List.mem_singleton.1 h]; exact ⟨hq, by simp only; omega⟩
  · show ws.map DV.d = rowsG n _
    rw [hws, htk, rowsG_snoc]; rfl

theorem rgfactor_ctr (c : Int) (t : List Nat) (tn : Bool) (tc : Option Nat) (rows turns : Int) (hf : Fl t) (hl : t.length ≤ 1000000) :
    Ctr Tryz.prog 69 [.agg [i c, fsl tn t tc, i rows, i turns]] (factorP c t rows turns) := by
  refine ctr_in Tryz.func69 rfl (by kernel_rfl) rfl fun K hK => ?_
  have cC := rtcheck_ctr c t tn tc rows turns hf hl
  have pu4 : ∀ z ∈ [AV.agg [AV.v (.int .i64 c), fsl tn t tc, AV.v (.int .i64 rows), AV.v (.int .i64 turns)]], Pu z := by
    intro z hz; rw [List.mem_singleton.1 hz]; exact pu_agg (by simp)
  simp [Tryz.f69, cells_g4, -cellsOf]
  refine acall_by cC pu4 ?_
  rintro _ rfl
  by_cases hok : triOk c t rows turns = true
  case neg =>
    simp only [factorP, if_neg hok] at hK
    rw [Bool.not_eq_true] at hok
    simp [hok]
    exact hK _ _ _ (.same _ (pu_tup (by simp))) rfl
  simp only [factorP, if_pos hok] at hK
  obtain ⟨n, rfl, h1, hn, ht, hlg, _⟩ := triOk_nat hok
  have hok0 := lines_ok h1 hn ht hlg
  rw [Int.toNat_natCast] at hK
  simp [hok]
  refine draw_at [1, 1, 1, 3, 3, 0, 0, 0, 0] orders (by kernel_rfl) ?_
  simp [cells_g4, -cellsOf]
  refine acall_by (rlines_ctr tn tc hf hok) pu4 ?_
  rintro _ ⟨x, hx, hr, rfl⟩
  simp [cells_g4, -cellsOf]
  have hxl : x.l.length ≤ 1000 := by have := congrArg List.length hx; rw [List.length_map, lines_len] at this; omega
  refine acall_by (rgrows_ctr n x hr hxl) (by simp) ?_
  intro r hr
  unfold rowsP at hr
  rw [hx, if_pos hok0, Int.toNat_natCast] at hr
  obtain ⟨vs, n2, c2, hvs, rfl⟩ := hr
  simp
  exact hK _ _ _ (.same _ (pu_tup (by simp))) ⟨vs, n2, c2, hvs, rfl⟩
end Go.Proofs.Nt
/- GramCounts, GramTells. -/
set_option linter.unusedVariables false
set_option maxRecDepth 20000
set_option linter.unusedSimpArgs false
set_option linter.unnecessarySimpa false
namespace Go.Proofs.Nt
open Go Go.Proofs Go.Proofs.Va Go.RowKit

theorem okl_zadd {L H : Int} {a b : List Dy} (ha : Okl L H a) (hb : Okl L H b) (hL : L ≤ 0) : Okl L (H + 1) (List.zipWith addD a b) := by
  intro d hd
  obtain ⟨q, hq, rfl⟩ := List.getElem_of_mem hd
  simp only [List.length_zipWith] at hq
  rw [List.getElem_zipWith]
  obtain ⟨o1, b1⟩ := ha _ (List.getElem_mem (show q < a.length by omega))
  obtain ⟨o2, b2⟩ := hb _ (List.getElem_mem (show q < b.length by omega))
  exact ⟨ok_add _ _, bd_add o1 o2 b1 b2 hL⟩
theorem okl_zsub {L H : Int} {a b : List Dy} (ha : Okl L H a) (hb : Okl L H b) (hL : L ≤ 0) : Okl L (H + 1) (List.zipWith (fun x y => addD x (oppD y)) a b) := by
  intro d hd
  obtain ⟨q, hq, rfl⟩ := List.getElem_of_mem hd
  simp only [List.length_zipWith] at hq
  rw [List.getElem_zipWith]
  obtain ⟨o1, b1⟩ := ha _ (List.getElem_mem (show q < a.length by omega))
  obtain ⟨o2, b2⟩ := hb _ (List.getElem_mem (show q < b.length by omega))
  exact ⟨ok_add _ _, bd_add o1 (ok_opp _) b1 (bd_opp b2) hL⟩
theorem okl_fade {L H : Int} {a : List Dy} (ha : Okl L H a) (b : Nat) : Okl (L + -1074 + -1074) (H + 1024 + 1024) (fadeL a (fromD b)) := by
  intro d hd
  obtain ⟨x, hx, rfl⟩ := List.mem_map.1 hd
  obtain ⟨_, b1⟩ := ha x hx
  obtain ⟨op, bp⟩ := okl_from [b] (fromD b) (by simp)
  exact ⟨ok_mul _ _, bd_mul (bd_mul b1 bp) bp⟩
theorem dv_okl {l : List DV} (h : DvOk l) : LenOk l ∧ Okl (-9000) 9000 (l.map DV.m) := by
  refine ⟨fun d hd => ⟨(h d hd).1, (h d hd).2.1⟩, fun d hd => ?_⟩
  obtain ⟨x, hx, rfl⟩ := List.mem_map.1 hd
  exact ⟨ok_may (h x hx).1, (h x hx).2.2⟩
/-- What is told of two lists. -/
def toldL (q : Bool) (G : List Dy) (r : AV) : Prop := ∃ us nl cap, r = .tup [dsl nl us cap, bo q] ∧ us.map DV.d = (if q = true then G else []) ∧ LenOk us ∧ us.length ≤ 100000
theorem told_no {G : List Dy} : toldL false G (.tup [.pl true [] 0 (some 0), bo false]) := ⟨[], true, some 0, rfl, rfl, fun d hd => by simp at hd, by simp⟩
theorem told_yes {L H : Int} {G : List Dy} {us : List DV} {nl : Bool} {cap : Option Nat} (h : us.map DV.d = G) (ho : Okl L H G) (hk : H - L ≤ 28800) (hl : G.length ≤ 100000) : toldL true G (.tup [dsl nl us cap, bo true]) :=
  ⟨us, nl, cap, rfl, h, (okl_us h ho hk).1, by rw [us_len h]; exact hl⟩
theorem told_join {f : Dy → Dy → Dy} {a b : List DV} {L H : Int} {r : AV} (h : joinR f a b r) (ho : Okl L H (List.zipWith f (a.map DV.m) (b.map DV.m))) (hk : H - L ≤ 28800) (hl : a.length ≤ 100000) : toldL (decide (a.length = b.length)) (List.zipWith f (a.map DV.m) (b.map DV.m)) r := by
  unfold joinR at h
  by_cases e : a.length = b.length
  · rw [if_pos e] at h
    obtain ⟨us, nl, cap, hus, rfl⟩ := h
    rw [decide_eq_true e]
    exact told_yes hus ho hk (by simp; omega)
  · rw [if_neg e] at h
    subst h
    rw [decide_eq_false e]
    exact told_no
theorem join_R {f : Dy → Dy → Dy} {a b : List DV} {r : AV} (h : joinP f a b r) : joinR f a b r := by
  unfold joinP at h
  unfold joinR
  split at h
  · rename_i e
    rw [if_pos e]
    obtain ⟨us, cap, h1, h2⟩ := h
    exact ⟨us, false, cap, h1, h2⟩
  · rename_i e
    rw [if_neg e]; exact h
theorem told_fade {a : List Dy} {b : Nat} {L H : Int} {r : AV} (h : fadeP a b r) (ho : Okl L H a) (hk : H - L ≤ 20000) (hl : a.length ≤ 100000) : toldL (fin b) (fadeL a (fromD b)) r := by
  unfold fadeP at h
  by_cases e : fin b = true
  · rw [if_pos e] at h
    obtain ⟨us, nl, cap, hus, rfl⟩ := h
    rw [e]
    exact told_yes hus (okl_fade ho b) (by omega) (by rw [fade_len]; exact hl)
  · rw [if_neg e] at h
    subst h
    rw [Bool.not_eq_true] at e
    rw [e]
    exact told_no
theorem told_same {q : Bool} {G : List Dy} {us vs : List DV} (n1 : Bool) (c1 : Option Nat) (n2 : Bool) (c2 : Option Nat) (h1 : us.map DV.d = (if q = true then G else [])) (h2 : vs.map DV.d = (if q = true then G else [])) (l1 : LenOk us) (l2 : LenOk vs) (hl : us.length ≤ 100000) :
    Ctr Tryz.prog 28 [dsl n1 us c1, dsl n2 vs c2] (fun r => r = bo true) := same_us n1 c1 n2 c2 (h1.trans h2.symm) l1 l2 hl

end Go.Proofs.Nt
