import Derived.Test.YtnhhlamecljhhaaGreatWa
import Derived.Test.YtnhhlamecljhhaaGreatWb
import Derived.Test.YtnhhlamecljhhaaGreatWc
import Derived.Test.YtnhhlamecljhhaaGreatWd
import Derived.Test.YtnhhlamecljhhaaGreatWe
import Derived.Test.YtnhhlamecljhhaaGreatWf
import Derived.Test.YtnhhlamecljhhaaGreatWg
import Derived.Test.YtnhhlamecljhhaaGreatWh
import Derived.Test.YtnhhlamecljhhaaGreatWi
/- tri.rows: the rows of what is stored. -/
set_option linter.unusedVariables false
set_option maxRecDepth 20000
set_option linter.unusedSimpArgs false
set_option linter.unnecessarySimpa false
namespace Go.Proofs.Nt
open Go Go.Proofs Go.Proofs.Va Go.RowKit

@[simp] theorem fldC0 : fldT Tryz.prog 24 0 = some (3, 0) := by kernel_rfl
@[simp] theorem fldC1 : fldT Tryz.prog 24 1 = some (22, 1) := by kernel_rfl
@[simp] theorem fldC2 : fldT Tryz.prog 24 2 = some (3, 2) := by kernel_rfl
@[simp] theorem fldC3 : fldT Tryz.prog 24 3 = some (3, 3) := by kernel_rfl
@[simp] theorem szC : szT Tryz.prog 24 = some 4 := by kernel_rfl
@[simp] theorem aggC : aggT Tryz.prog 24 = some true := by kernel_rfl
@[simp] theorem zcC : zcT Tryz.prog 24 = some [.v (.int .i64 0), .pl true [] 0 (some 0), .v (.int .i64 0), .v (.int .i64 0)] := by kernel_rfl

@[simp] theorem zcB4 : zcT Tryz.prog 4 = some [.v (.bool false)] := by kernel_rfl
@[simp] theorem zcFs : zcT Tryz.prog 22 = some [.pl true [] 0 (some 0)] := by kernel_rfl
theorem cells_g4 (a b c d : AV) : cellsOf (.agg [a, b, c, d]) = some [a, b, c, d] := (rfl)

theorem rows_call {x : List AV} {σ : AHeap} {K : AV → AHeap → Prop} (hx : x.length = 4) (h : K (.fn (.func 85) [] [.po σ.length 0 0]) (σ ++ [⟨.own, 0, x⟩])) : ACall Tryz.prog 53 [.agg x] σ K := by
  refine acall_in Tryz.func53 rfl (by kernel_rfl) rfl ?_
  have hc : cellsOf (.agg x) = some x := rfl
  simp [Tryz.f53, -cellsOf, hc]
  exact h

theorem drop_drop' {t : List Nat} {n k : Nat} (hn : n ≤ 6) (hk : k ≤ n) : (t.drop (rowN n k)).drop (n + 1 - k) = t.drop (rowN n (k + 1)) := by
  rw [List.drop_drop, row_succ hn hk]
theorem rows_iter {n : Nat} {t : List Nat} (tn : Bool) (tc : Option Nat) (rows turns : Int) {b : Nat} {σ : AHeap} {Y : List AV → AHeap → (AHeap → Prop) → (Exit → AHeap → Prop) → Prop} {D : AHeap → Prop} {X : Exit → AHeap → Prop}
    (hn : n ≤ 6) (ht : t.length = sizeN n) (Inv : Nat → AHeap → Prop) (h0 : Inv 0 σ) (hb : σ[b]? = some ⟨.own, 0, [i n, fsl tn t tc, i rows, i turns]⟩)
    (hy : ∀ k σ' nl cap, k ≤ n → Inv k σ' → ∀ Kt : AHeap → Prop, (∀ σ2, Inv (k + 1) σ2 → Kt σ2) → Y [fsl nl (triRow t n k) cap] σ' Kt X)
    (hd : ∀ k σ', Inv k σ' → k = n + 1 → D σ') : AIter Tryz.prog 85 [.po b 0 0] σ Y D X := by
  refine aiter_in Tryz.func85 rfl rfl rfl fun l => ?_
  have hw0 : IntKind.i64.wrap ((n : Int) + 1) = ((n + 1 : Nat) : Int) := w64 _ (by omega) (by omega)
  refine awi_seq (awi_reg ?_)
  simp [argT, Tryz.f85, hb, hw0, -Int.natCast_add]
  refine awi_seq (awi_reg ?_)
  simp [argT, Tryz.f85, hb, hw0, -Int.natCast_add]
  refine awi_block (awi_loop_on (γ := Nat × Bool × Option Nat × AHeap) 23 (fun g => [(0, .fn (.yield l) [] []), (3, fsl g.2.1 (t.drop (rowN n g.1)) g.2.2.1), (4, i ((n + 1 - g.1 : Nat) : Int))]) (fun g => g.2.2.2)
    (fun g => g.1 ≤ n + 1 ∧ Inv g.1 g.2.2.2) (fun g => n + 1 - g.1) (0, tn, tc, σ) ⟨Nat.zero_le _, h0⟩ rfl (by simp [row_zero]) ?_)
  rintro ⟨k, fn, fc, σ1⟩ ⟨hk, hI⟩ L hL
  simp only at hk hI
  refine awi_seq (awi_seq (awi_reg ?_))
  simp
  by_cases hkn : k ≤ n
  · have c1 : (0 : Int) < ((n + 1 - k : Nat) : Int) := by omega
    have hr := row_succ hn hkn
    have hs := (row_facts hn (i := k + 1) (by omega)).2.1
    have hlen : n + 1 - k ≤ (t.drop (rowN n k)).length := by rw [List.length_drop]; omega
    have hw1 : IntKind.i64.wrap (((n + 1 - k : Nat) : Int) - 1) = ((n + 1 - (k + 1) : Nat) : Int) := by rw [w64 _ (by omega) (by omega)]; omega
    refine awi_cond (q := true) (by simp; omega) (fun _ => awi_skip ?_) (fun h => by cases h)
    simp
    refine awi_seq (awi_block (awi_seq (awi_yield_at 4 rfl rfl rfl rfl rfl rfl rfl rfl ?_)))
    simp [-aSlice]
    refine slice_fhi hlen ?_
    simp
    refine hy k σ1 _ _ hkn hI _ fun σ2 hI2 => ?_
    simp [put_lst]
    refine awi_reg ?_
    simp [-aSlice]
    refine slice_flo hlen ?_
    rw [drop_drop' hn hkn]
    simp
    refine awi_reg ?_
    simp [hw1, -Int.natCast_add]
    exact hL (k + 1, (fn && (List.drop (rowN n k) t).isEmpty), fc.map (· - (n + 1 - k)), σ2) _ _ ⟨by show k + 1 ≤ n + 1; omega, hI2⟩ rfl (by simp) (by show n + 1 - (k + 1) < n + 1 - k; omega)
  · refine awi_cond (q := false) (by simp; omega) (fun h => by cases h) (fun _ => awi_exit ?_)
    simp
    exact hd k _ hI (by omega)
end Go.Proofs.Nt
/- tri.Check, has. -/
set_option linter.unusedVariables false
set_option maxRecDepth 20000
set_option linter.unusedSimpArgs false
set_option linter.unnecessarySimpa false
namespace Go.Proofs.Nt
open Go Go.Proofs Go.Proofs.Va Go.RowKit

theorem take_row {t : List Nat} {n k : Nat} (hn : n ≤ 6) (hk : k ≤ n) : t.take (rowN n (k + 1)) = t.take (rowN n k) ++ triRow t n k := by
  rw [row_succ hn hk, List.take_add]; rfl
theorem row_head {t : List Nat} {n k : Nat} (hn : n ≤ 6) (hk : k ≤ n) {y : Nat} {ys : List Nat} (h : triRow t n k = y :: ys) : t.getD (rowN n k) 0 = y := by
  have := triRow_get (t := t) hn (Nat.le_refl k) hk
  rw [at_row hn (Nat.le_refl k) hk, Nat.sub_self, Nat.add_zero, h] at this
  exact this.symm
theorem fl_sub {t : List Nat} {n k : Nat} (h : Fl t) : Fl (triRow t n k) := fun x hx => h x (List.mem_of_mem_drop (List.mem_of_mem_take hx))
/-- The whole: all rows are well. -/
theorem triOk_all {n : Nat} {t : List Nat} {rows turns : Int} (h1 : 1 ≤ n) (hn : n ≤ 6) (ht : t.length = sizeN n) (hr : 0 ≤ rows ∧ rows ≤ 200) (hu : 0 ≤ turns ∧ turns ≤ 4096)
    (hA : (t.take (rowN n (n + 1))).any largeB = false) (hB : ∀ i, i < n + 1 → fsg (t.getD (rowN n i) 0) = false) : triOk n t rows turns = true := by
  rw [(row_facts hn (Nat.le_refl (n + 1))).2.2 rfl, ← ht, List.take_length] at hA
  unfold triOk
  rw [Bool.and_eq_true, Bool.and_eq_true]
  refine ⟨⟨decide_eq_true ⟨by omega, ?_, hr, hu⟩, ?_⟩, ?_⟩
  · unfold sizeI; rw [if_pos (by omega), ht]; rfl
  · rw [List.all_eq_true]
    intro x hx
    have := List.any_eq_false.1 hA x hx
    simpa using this
  · rw [List.all_eq_true]
    intro j hj
    rw [List.mem_range] at hj
    rw [Int.toNat_natCast] at hj ⊢
    rw [hB j (by omega)]; rfl
theorem triOk_pre {c : Int} {t : List Nat} {rows turns : Int} (h : triOk c t rows turns = true) : sizeI c ≠ 0 ∧ (t.length : Int) = sizeI c ∧ (0 ≤ rows ∧ rows ≤ 200) ∧ (0 ≤ turns ∧ turns ≤ 4096) := by
  unfold triOk at h
  rw [Bool.and_eq_true, Bool.and_eq_true] at h
  obtain ⟨hc, hl, h3, h4⟩ := of_decide_eq_true h.1.1
  exact ⟨by have := (size_facts (c := c) hc).2.2; omega, hl, h3, h4⟩

theorem tcheck_ctr (c : Int) (t : List Nat) (tn : Bool) (tc : Option Nat) (rows turns : Int) (hf : Fl t) (hl : t.length ≤ 1000000) : Ctr Tryz.prog 21 [.agg [i c, fsl tn t tc, i rows, i turns]] (fun r => r = bo (triOk c t rows turns)) := by
  refine ctr_val Tryz.func21 rfl (by kernel_rfl) rfl (by simp) fun K hK => ?_
  have hF : (triOk c t rows turns = true → False) → ∀ σ, K (.v (.bool false)) σ := by
    intro h σ
    have := Bool.eq_false_iff.2 h
    rw [this] at hK
    exact hK σ
  simp [Tryz.f21, cells_g4, -cellsOf]
  refine acall_by (size_ctr c) (by simp) ?_
  rintro _ rfl
  by_cases a1 : sizeI c = 0
  · simp [a1]
    exact hF (fun h => (triOk_pre h).1 a1) _
  by_cases a2 : (t.length : Int) = sizeI c
  case neg =>
    simp [a1, a2]
    exact hF (fun h => a2 (triOk_pre h).2.1) _
  by_cases a3 : rows < 0
  · simp [a1, a2, a3]
    exact hF (fun h => by have := (triOk_pre h).2.2.1; omega) _
  by_cases a4 : 200 < rows
  · simp [a1, a2, a3, a4]
    exact hF (fun h => by have := (triOk_pre h).2.2.1; omega) _
  by_cases a5 : turns < 0
  · simp [a1, a2, a3, a4, a5]
    exact hF (fun h => by have := (triOk_pre h).2.2.2; omega) _
  by_cases a6 : 4096 < turns
  · simp [a1, a2, a3, a4, a5, a6]
    exact hF (fun h => by have := (triOk_pre h).2.2.2; omega) _
  have hc : 1 ≤ c ∧ c ≤ 6 := by
    apply Classical.byContradiction
    intro h
    exact a1 (if_neg h)
  obtain ⟨n, rfl⟩ : ∃ n : Nat, c = n := ⟨c.toNat, by omega⟩
  have hn : n ≤ 6 := by omega
  have ht : t.length = sizeN n := by
    unfold sizeI at a2
    rw [if_pos hc, Int.toNat_natCast] at a2
    omega
  simp [a1, a2, a3, a4, a5, a6]
  refine rows_call rfl ?_
  simp
  refine range_on (lb := [.po 2 0 0]) (by simp) Tryz.func85 rfl (by kernel_rfl) ?_
  refine rows_iter tn tc rows turns (b := 2) hn ht (fun k σ' => σ' = ([⟨.own, 0, [i n, fsl tn t tc, i rows, i turns]⟩, ⟨.own, 0, [.v (.bool false)]⟩, ⟨.own, 0, [i n, fsl tn t tc, i rows, i turns]⟩] : AHeap) ∧ (t.take (rowN n k)).any largeB = false ∧ ∀ j, j < k → fsg (t.getD (rowN n j) 0) = false)
    ⟨rfl, by rw [row_zero]; rfl, fun j hj => by omega⟩ rfl ?_ ?_
  · rintro k _ nl cap hkn ⟨rfl, hA, hB⟩ Kt hKt
    have hrl := triRow_len hn ht hkn
    have hfl := fl_sub (n := n) (k := k) hf
    have htk := take_row (t := t) hn hkn
    have hmem : ∀ x ∈ triRow t n k, x ∈ t := fun x hx => List.mem_of_mem_drop (List.mem_of_mem_take hx)
    have hhd := fun y ys => row_head (t := t) (y := y) (ys := ys) hn hkn
    generalize triRow t n k = R at *
    obtain ⟨y, ys, rfl⟩ : ∃ y ys, R = y :: ys := by
      cases R with
      | nil => rw [List.length_nil] at hrl; omega
      | cons y ys => exact ⟨y, ys, rfl⟩
    have hhd := hhd y ys rfl
    have hy : y < 18446744073709551616 := hfl y (by simp)
    have hlen : (y :: ys).length ≤ 100000 := by omega
    have cC := contains_ctr nl cap largeB 55 hlen fun x hx => large_ctr (hfl x hx)
    simp [bodyW]
    refine acall_by (signbit_ctr hy) (by simp) ?_
    rintro _ rfl
    by_cases b1 : fsg y = true
    · simp [b1]
      refine hF (fun h => ?_) _
      obtain ⟨n', e, _, _, _, _, h6⟩ := triOk_nat h
      obtain rfl : n = n' := by omega
      have := h6 k hkn
      rw [hhd, b1] at this; cases this
    rw [Bool.not_eq_true] at b1
    simp [b1]
    refine acall_by cC (by simp) ?_
    rintro _ rfl
    by_cases b2 : (y :: ys).any largeB = true
    · have b2' := b2
      rw [List.any_cons] at b2'
      simp [b2', -Bool.or_eq_true]
      refine hF (fun h => ?_) _
      obtain ⟨n', e, _, _, _, h5, _⟩ := triOk_nat h
      obtain ⟨x, hx, hb⟩ := List.any_eq_true.1 b2
      rw [h5 x (hmem x hx)] at hb; cases hb
    rw [Bool.not_eq_true] at b2
    have b2' := b2
    rw [List.any_cons] at b2'
    simp [b2', -Bool.or_eq_false_iff]
    refine hKt _ ⟨rfl, by rw [htk, List.any_append, hA, b2]; rfl, fun j hj => ?_⟩
    by_cases hjk : j = k
    · rw [hjk, hhd, b1]
    · exact hB j (by omega)
  · rintro k _ ⟨rfl, hA, hB⟩ rfl
    simp
    have := triOk_all (rows := rows) (turns := turns) (by omega) hn ht (by omega) (by omega) hA hB
    rw [this] at hK
    exact hK _

theorem has_ctr (c : Int) (t : List Nat) (tn : Bool) (tc : Option Nat) (rows turns j : Int) (hf : Fl t) (hl : t.length ≤ 1000000) :
    Ctr Tryz.prog 60 [.agg [i c, fsl tn t tc, i rows, i turns], i j] (fun r => r = bo (triOk c t rows turns && (decide (0 ≤ j) && decide (j ≤ c)))) := by
  refine ctr_val Tryz.func60 rfl (by kernel_rfl) rfl (by simp) fun K hK => ?_
  simp [Tryz.f60, cells_g4, -cellsOf]
  refine acall_by (tcheck_ctr c t tn tc rows turns hf hl) (by intro z hz; rw [List.mem_singleton.1 hz]; exact pu_agg (by simp)) ?_
  rintro _ rfl
  generalize triOk c t rows turns = q at *
  cases q
  · simp
    exact hK _
  by_cases h0 : 0 ≤ j
  · by_cases h1 : j ≤ c
    · simp [h0, h1] at hK
      simp [h0, h1]
      exact hK _
    · simp [h0, h1] at hK
      simp [h0, h1]
      exact hK _
  · simp [h0] at hK
    simp [h0]
    exact hK _
end Go.Proofs.Nt
/- tri.Line, gram.Factor. -/
set_option linter.unusedVariables false
set_option maxRecDepth 20000
set_option linter.unusedSimpArgs false
set_option linter.unnecessarySimpa false
namespace Go.Proofs.Nt
open Go Go.Proofs Go.Proofs.Va Go.RowKit

theorem append_line {m J a : Nat} {R : List Nat} {nl : Bool} {cap : Option Nat} {σ : AHeap} {K : AV → AHeap → Prop} (hj : σ[a]? = some ⟨.own, 0, List.replicate m (fl 0)⟩) (hm : J + R.length = m) (hb : m ≤ 1000)
    (hK : K (.so a 1 0 m 1 none) (σ.set a ⟨.own, 1, (List.replicate J 0 ++ R).map fl⟩)) : aAppend Tryz.prog 22 22 (.so a 0 0 J 1 (some m)) (fsl nl R cap) σ K := by
  have e1 : (List.replicate m (fl 0)).take J = List.replicate J (fl 0) := by rw [List.take_replicate, Nat.min_eq_left (by omega)]
  have e2 : J ≤ m := by omega
  have e3 : (List.replicate J 0 ++ R).map fl = List.replicate J (fl 0) ++ R.map fl := by rw [List.map_append, List.map_replicate]
  rw [e3] at hK
  unfold fsl
  simp [hj, e1, e2, hm, -List.replicate]
  refine ⟨by omega, ?_⟩
  simpa using hK

theorem cells_so (a v o n z : Nat) (c : Option Nat) : cellsOf (.so a v o n z c) = some [.so a v o n z c] := (rfl)
theorem cells_v (k : IntKind) (n : Int) : cellsOf (.v (.int k n)) = some [.v (.int k n)] := (rfl)
theorem pur_fl {σ : AHeap} {S : Nat → Prop} {j v : Nat} {l : List Nat} {more : List AV} {cap : Option Nat} (hj : σ[j]? = some ⟨.own, v, l.map fl ++ more⟩) (hS : S j) : Pur σ S (.so j v 0 l.length 1 cap) (fsl false l cap) := by
  refine .so j v 0 l.length 1 cap _ (l.map fl) hj rfl (fun h => by cases h) hS (by simp) (by simp) fun q hq => ?_
  simp only [List.length_map] at hq
  show Pur σ _ ((l.map fl ++ more).getD (0 + q) .any) _
  rw [Nat.zero_add, List.getD_eq_getElem?_getD, List.getElem?_append_left (by simpa using hq), ← List.getD_eq_getElem?_getD, getD_eq (by simpa using hq)]
  exact .same _ (by simp)
/-- A line, where it is. -/
def lineP (c : Int) (t : List Nat) (rows turns j : Int) (r : AV) : Prop :=
  if (triOk c t rows turns && (decide (0 ≤ j) && decide (j ≤ c))) = true then ∃ nl cap, r = fsl nl (lineOf t c.toNat j.toNat) cap else r = .pl true [] 0 (some 0)

/-- A line that is there, as a list of its own. -/
theorem tline_so {n J : Nat} {t : List Nat} {rows turns : Int} (tn : Bool) (tc : Option Nat) (hf : Fl t) (hl : t.length ≤ 1000000) (hok : triOk n t rows turns = true) (hJ : J ≤ n) :
    ACall Tryz.prog 24 [.agg [i n, fsl tn t tc, i rows, i turns], i J] [] (fun r σ' => ∃ j v cap' more, r = .so j v 0 (n + 1) 1 cap' ∧ σ'[j]? = some ⟨.own, v, (lineOf t n J).map fl ++ more⟩) := by
  refine acall_in Tryz.func24 rfl (by kernel_rfl) rfl ?_
  simp [Tryz.f24, cells_g4, -cellsOf]
  refine acall_by (has_ctr n t tn tc rows turns J hf hl) (by intro z hz; simp only [List.mem_cons, List.not_mem_nil, or_false] at hz; rcases hz with rfl | rfl; exact pu_agg (by simp); simp) ?_
  rintro _ rfl
  have hq : (triOk n t rows turns && (decide (0 ≤ (J : Int)) && decide ((J : Int) ≤ n))) = true := by rw [hok, decide_eq_true (show 0 ≤ (J : Int) by omega), decide_eq_true (show (J : Int) ≤ n by omega)]; rfl
  rw [hq]
  obtain ⟨n', e, h1, hn, ht, _, _⟩ := triOk_nat hok
  obtain rfl : n = n' := by omega
  obtain ⟨m, hm⟩ : ∃ m, m = n + 1 := ⟨_, rfl⟩
  have hw0 : IntKind.i64.wrap ((n : Int) + 1) = (m : Int) := by rw [w64 _ (by omega) (by omega)]; omega
  have hz : ∀ x : AV, reps m [x] = List.replicate m x := fun x => by
    clear hw0 hm
    induction m with
    | zero => rfl
    | succ m ih => show [x] ++ reps m [x] = _; rw [ih]; rfl
  have hz : reps m [fl 0] = List.replicate m (fl 0) := hz _
  simp [cells_g4, cells_so, cells_v, -cellsOf, hw0, -reps, hz, -List.replicate]
  refine ⟨⟨by omega, by omega⟩, ?_⟩
  refine rows_call (x := [_, _, _, _]) rfl ?_
  simp [-List.replicate]
  refine range_on (lb := [.po 5 0 0]) (by simp) Tryz.func85 rfl (by kernel_rfl) ?_
  refine rows_iter tn tc rows turns (b := 5) hn ht (fun k σ' => σ' = ([⟨.own, 0, [i n, fsl tn t tc, i rows, i turns]⟩, ⟨.own, 0, [i J]⟩, ⟨.own, 0, List.replicate m (fl 0)⟩, ⟨.own, 0, [.so 2 0 0 J 1 (some m)]⟩, ⟨.own, 0, [i k]⟩, ⟨.own, 0, [i n, fsl tn t tc, i rows, i turns]⟩] : AHeap) ∧ k ≤ J)
    ⟨rfl, Nat.zero_le _⟩ rfl ?_ ?_
  · rintro k _ nl cap hkn ⟨rfl, hkJ⟩ Kt hKt
    have hrl := triRow_len hn ht hkn
    have hw1 : IntKind.i64.wrap ((k : Int) + 1) = ((k + 1 : Nat) : Int) := w64 _ (by omega) (by omega)
    by_cases hkj : k = J
    · subst hkj
      simp [bodyW, -aAppend, -List.replicate]
      refine append_line rfl (by omega) (by omega) ?_
      simp [-List.replicate]
      have hll := line_len hn ht (i := k) (by omega)
      refine ⟨2, 1, ⟨rfl, rfl, hm⟩, ?_⟩
      refine ⟨[], ?_⟩
      simp [lineOf, -List.replicate]
    · simp [bodyW, hkj, hw1, -aAppend, -List.replicate, -Int.natCast_add]
      exact hKt _ ⟨rfl, by omega⟩
  · rintro k _ ⟨rfl, hkJ⟩ rfl
    omega
theorem tline_ctr (c : Int) (t : List Nat) (tn : Bool) (tc : Option Nat) (rows turns j : Int) (hf : Fl t) (hl : t.length ≤ 1000000) :
    Ctr Tryz.prog 24 [.agg [i c, fsl tn t tc, i rows, i turns], i j] (lineP c t rows turns j) := by
  by_cases hq : (triOk c t rows turns && (decide (0 ≤ j) && decide (j ≤ c))) = true
  case neg =>
    refine ctr_in Tryz.func24 rfl (by kernel_rfl) rfl fun K hK => ?_
    simp [Tryz.f24, cells_g4, -cellsOf]
    refine acall_by (has_ctr c t tn tc rows turns j hf hl) (by intro z hz; simp only [List.mem_cons, List.not_mem_nil, or_false] at hz; rcases hz with rfl | rfl; exact pu_agg (by simp); simp) ?_
    rintro _ rfl
    simp only [lineP, if_neg hq] at hK
    rw [Bool.not_eq_true] at hq
    rw [hq]
    simp
    exact hK _ _ _ (.same _ (by simp)) rfl
  have hq' := hq
  rw [Bool.and_eq_true, Bool.and_eq_true] at hq'
  obtain ⟨hok, hj0, hj1⟩ := hq'
  have hj0 := of_decide_eq_true hj0
  have hj1 := of_decide_eq_true hj1
  obtain ⟨n, rfl, h1, hn, ht, _, _⟩ := triOk_nat hok
  obtain ⟨J, rfl⟩ : ∃ J : Nat, j = J := ⟨j.toNat, by omega⟩
  refine ctr_of ((tline_so tn tc hf hl hok (J := J) (by omega)).mono ?_)
  rintro r σ' ⟨q, v, cap', more, rfl, hs⟩
  have hll := line_len hn ht (i := J) (by omega)
  refine ⟨fsl false (lineOf t n J) cap', ?_, ?_⟩
  · rw [← hll]; exact pur_fl hs trivial
  · simp only [lineP, if_pos hq]
    exact ⟨_, _, rfl⟩
end Go.Proofs.Nt
/- slices.Repeat of one dyad; gram.Fade. -/
set_option linter.unusedVariables false
set_option maxRecDepth 20000
set_option linter.unusedSimpArgs false
set_option linter.unnecessarySimpa false
namespace Go.Proofs.Nt
open Go Go.Proofs Go.Proofs.Va Go.RowKit

theorem mul64_one (m : Nat) (hm : m ≤ 1000000) : Ctr Tryz.prog 132 [.v (.int .u64 1), .v (.int .u64 m)] (fun r => r = .tup [.v (.int .u64 0), .v (.int .u64 m)]) := by
  refine ctr_val Tryz.func132 rfl (by kernel_rfl) rfl (pu_tup (by simp)) fun K hK => ?_
  have b1 : bAnd .u64 1 4294967295 = 1 := by
    have := bAnd_u64 (x := 1) (y := 4294967295) (by decide) (by decide)
    exact this
  have b2 : bAnd .u64 (m : Int) 4294967295 = (m : Int) := by
    have := bAnd_u64 (x := m) (y := 4294967295) (by omega) (by decide)
    have e : m &&& 4294967295 = m := by
      rw [show (4294967295 : Nat) = 2 ^ 32 - 1 from rfl, Nat.and_two_pow_sub_one_eq_mod, Nat.mod_eq_of_lt (by omega)]
    rw [e] at this
    exact this
  have b0 : bAnd .u64 0 4294967295 = 0 := by
    have := bAnd_u64 (x := 0) (y := 4294967295) (by decide) (by decide)
    exact this
  have w0 : IntKind.u64.wrap 0 = 0 := rfl
  have w1 : IntKind.u64.wrap 1 = 1 := rfl
  have w2 : IntKind.u64.wrap (m : Int) = (m : Int) := wu _ (by omega)
  have d1 : (m : Int) / 4294967296 = 0 := by omega
  have d2 : (m : Int).fdiv 4294967296 = 0 := by rw [Int.fdiv_eq_ediv_of_nonneg _ (by omega)]; exact d1
  simp [Tryz.f132, b1, b2, b0, w0, w1, w2, d1, d2]
  exact hK _
theorem bmul_one (m : Nat) (hm : m ≤ 1000000) : Ctr Tryz.prog 113 [.v (.int .u64 1), .v (.int .u64 m)] (fun r => r = .tup [.v (.int .u64 0), .v (.int .u64 m)]) := by
  refine ctr_val Tryz.func113 rfl (by kernel_rfl) rfl (pu_tup (by simp)) fun K hK => ?_
  simp [Tryz.f113]
  refine acall_by (mul64_one m hm) (by simp) ?_
  rintro _ rfl
  simp
  exact hK _

/-! ### Repeat -/
theorem dcs_take (l : List DV) : ∀ k, (dcs l).take (k * 3) = dcs (l.take k) := by
  induction l with
  | nil => intro k; simp [dcs]
  | cons a l ih =>
    intro k
    cases k with
    | zero => simp [dcs]
    | succ k =>
      have : dcs (a :: l) = a.cs ++ dcs l := by simp [dcs]
      rw [this, List.take_succ_cons, show (k + 1) * 3 = a.cs.length + k * 3 by show (k + 1) * 3 = 3 + k * 3; omega, List.take_append, List.take_of_length_le (by omega), Nat.add_sub_cancel_left, ih]
      simp [dcs]
@[simp] theorem aCY_dsl {P : Program} {t : TypeId} {x : AV} {nl : Bool} {a : List DV} {cap : Option Nat} {σ : AHeap} {K : AV → AHeap → Prop} : aCopyY P t x (dsl nl a cap) σ K = aCopy P t x (dsl nl a cap) σ K := (rfl)
theorem dcs_app (a b : List DV) : dcs (a ++ b) = dcs a ++ dcs b := by simp [dcs]
theorem splice_dcs (l s : List DV) (k : Nat) : splice (dcs l) (k * 3) (dcs s) = dcs (l.take k ++ s ++ l.drop (k + s.length)) := by
  unfold splice
  rw [dcs_len, ← Nat.add_mul, dcs_take, dcs_drop, dcs_app, dcs_app]
/-- So far: k of them. -/
def repL (d : DV) (m k : Nat) : List DV := List.replicate k d ++ List.replicate (m - k) zDV
theorem repL_len {d : DV} {m k : Nat} (h : k ≤ m) : (repL d m k).length = m := by unfold repL; simp; omega
theorem repL_step {d : DV} {m k j : Nat} (hk : k ≤ m) (hj : j ≤ k) (hm : j ≤ m - k) : splice (dcs (repL d m k)) (k * 3) ((dcs (repL d m k)).take (j * 3)) = dcs (repL d m (k + j)) := by
  have e : (dcs (repL d m k)).take (j * 3) = dcs (List.replicate j d) := by
    rw [dcs_take]; unfold repL
    rw [List.take_append_of_le_length (by simpa using hj), List.take_replicate, Nat.min_eq_left hj]
  rw [e, splice_dcs]
  congr 1
  unfold repL
  rw [List.take_append_of_le_length (by simp), List.take_of_length_le (by simp), List.length_replicate, List.drop_append]
  rw [List.drop_eq_nil_of_le (by simp), List.nil_append, List.length_replicate, List.drop_replicate, List.replicate_append_replicate]
  congr 2
  omega

theorem copy_first {d : DV} {nl : Bool} {cap : Option Nat} {m a : Nat} {σ : AHeap} {K : AV → AHeap → Prop} (h : σ[a]? = some ⟨.own, 0, dcs (List.replicate m zDV)⟩) (hK : K (i (min 1 m : Nat)) (σ.set a ⟨.own, 0, dcs (repL d m (min 1 m))⟩)) :
    aCopy Tryz.prog 27 (.so a 0 0 m 3 (some m)) (dsl nl [d] cap) σ K := by
  have hlen : (dcs (List.replicate m zDV)).length = m * 3 := by rw [dcs_len, List.length_replicate]
  have hd : dcs [d] = d.cs := by simp [dcs]
  have e : splice (dcs (List.replicate m zDV)) 0 (d.cs.take (min 1 m * 3)) = dcs (repL d m (min 1 m)) := by
    have := splice_dcs (List.replicate m zDV) ([d].take (min 1 m)) 0
    rw [Nat.zero_mul, ← dcs_take, hd] at this
    rw [this]
    unfold repL
    cases m with
    | zero => rfl
    | succ m =>
      have : min 1 (m + 1) = 1 := by omega
      rw [this]
      simp [List.replicate_succ]
  unfold dsl
  have h3 : d.cs.length = 3 := rfl
  simp [h, hlen, hd, h3, -splice]
  rw [e]
  simpa using hK

theorem copy_more {d : DV} {m g j a : Nat} {σ : AHeap} {K : AV → AHeap → Prop} (h : σ[a]? = some ⟨.own, 0, dcs (repL d m g)⟩) (hg : g ≤ m) (h1 : min g (m - g) ≤ g) (h2 : min g (m - g) ≤ m - g) (hj : min g (m - g) = j) (hK : K (i (j : Nat)) (σ.set a ⟨.own, 0, dcs (repL d m (g + j))⟩)) :
    aCopy Tryz.prog 27 (.so a 0 (g * 3) (m - g) 3 (some (m - g))) (.so a 0 0 g 3 (some m)) σ K := by
  have hlen : (dcs (repL d m g)).length = m * 3 := by rw [dcs_len, repL_len hg]
  rw [hj] at h1 h2
  have e := repL_step (d := d) (m := m) (k := g) (j := j) hg h1 h2
  have c1 : g * 3 ≤ m * 3 := by omega
  have c2 : g * 3 + (m - g) * 3 ≤ m * 3 := by omega
  have c3 : ((dcs (repL d m g)).take (g * 3)).take (j * 3) = (dcs (repL d m g)).take (j * 3) := by rw [List.take_take, Nat.min_eq_left (by omega)]
  simp only [i] at hK
  rw [← e, ← c3] at hK
  unfold aCopy srcC
  simp [h, hlen, hj, c1, c2, -splice] at hK ⊢
  exact hK
theorem repeat_ctr (d : DV) (nl : Bool) (cap : Option Nat) (m : Nat) (hm : m ≤ 100000) : Ctr Tryz.prog 79 [dsl nl [d] cap, i m] (fun r => ∃ c, r = dsl false (List.replicate m d) c) := by
  refine ctr_in Tryz.func79 rfl (by kernel_rfl) rfl fun K hK => ?_
  simp only [Tryz.f79, List.append_eq, List.cons_append, List.nil_append]
  have c1 : ¬ (m : Int) < 0 := by omega
  have w2 : IntKind.u64.wrap (m : Int) = (m : Int) := wu _ (by omega)
  have w3 : IntKind.i64.wrap (m : Int) = (m : Int) := w64 _ (by omega) (by omega)
  have w1 : IntKind.u64.wrap 1 = 1 := rfl
  simp [c1, w1, w2]
  refine acall_by (bmul_one m (by omega)) (by simp) ?_
  rintro _ rfl
  have c2 : ¬ 9223372036854775807 < m := by omega
  have hlen : (dcs (List.replicate m zDV)).length = m * 3 := by rw [dcs_len, List.length_replicate]
  simp [c2, w3, flat_dcs, -aCopy]
  refine ⟨⟨by omega, by omega⟩, ?_⟩
  refine copy_first (m := m) rfl ?_
  rw [lkC_on]
  simp [-aCopy]
  refine loop_on (γ := Nat) 48 (fun g => [(7, .so 0 0 0 m 3 (some m)), (8, i g)]) (fun g => [⟨.own, 0, dcs (repL d m g)⟩])
    (fun g => g ≤ m ∧ (0 < m → 0 < g)) (fun g => m - g) (min 1 m) ⟨by omega, by omega⟩ (Wk.lst (by simp) (by simp)) ?_
  rintro g ⟨hg, hg0⟩ L hL
  by_cases hlt : g < m
  · have hw1 : IntKind.i64.wrap ((g : Int) + (min g (m - g) : Nat)) = ((g + min g (m - g) : Nat) : Int) := w64 _ (by omega) (by omega)
    simp [hlt, -aCopy, -Int.natCast_add]
    refine draw_at [0, 0, 0, 1, 0, 0, 1, 4, 0, 0] orders (by kernel_rfl) ?_
    simp [hlt, -aCopy, -Int.natCast_add]
    refine ⟨by omega, copy_more (d := d) rfl hg (by omega) (by omega) (j := min g (m - g)) rfl ?_⟩
    rw [lkC_on]
    have hj : 0 < min g (m - g) := by omega
    have hjm : g + min g (m - g) ≤ m := by omega
    generalize min g (m - g) = j at *
    simp [hw1, -Int.natCast_add]

    exact hL (g + j) _ _ ⟨hjm, fun _ => by omega⟩ (Wk.lst (by simp) (by simp)) (by omega)
  · have : g = m := by omega
    subst this
    simp
    refine hK _ _ _ ?_ ⟨some g, rfl⟩
    exact pur_ds (k := .own) (l := List.replicate g d) (by simp [repL]) (by decide) (by simp) (by simp)
end Go.Proofs.Nt
/- ref01.Pow, ref07.Check, Get, Line. -/
set_option linter.unusedVariables false
set_option maxRecDepth 20000
set_option linter.unusedSimpArgs false
set_option linter.unnecessarySimpa false
namespace Go.Proofs.Nt
open Go Go.Proofs Go.Proofs.Va Go.RowKit

end Go.Proofs.Nt
/- Lists of floats, and of rows, that grow; ref07.Line. -/
set_option linter.unusedVariables false
set_option maxRecDepth 20000
set_option linter.unusedSimpArgs false
set_option linter.unnecessarySimpa false
namespace Go.Proofs.Nt
open Go Go.Proofs Go.Proofs.Va Go.RowKit

end Go.Proofs.Nt
/- gram.Factor. -/
set_option linter.unusedVariables false
set_option maxRecDepth 20000
set_option linter.unusedSimpArgs false
set_option linter.unnecessarySimpa false
namespace Go.Proofs.Nt
open Go Go.Proofs Go.Proofs.Va Go.RowKit

def factorP (c : Int) (t : List Nat) (rows turns : Int) (r : AV) : Prop :=
  if triOk c t rows turns = true then ∃ us nl cap, us.map DV.d = rowsG c.toNat (linesOf t c.toNat) ∧ r = .tup [dsl nl us cap, bo true] else r = .tup [.pl true [] 0 (some 0), bo false]
theorem lines_len (t : List Nat) (n : Nat) : (linesOf t n).length = n + 1 := by simp [linesOf]
theorem lines_at (t : List Nat) {n g : Nat} (h : g < n + 1) : (linesOf t n)[g]'(by rw [lines_len]; exact h) = ((lineOf t n g).take n, (lineOf t n g).getD n 0) := by simp [linesOf]
theorem okRows_ok {n : Nat} {rs : List (List Nat × Nat)} (h : okRows n rs = true) : rowsOk n rs := by
  obtain ⟨n', e, _, _, hr⟩ := okRows_nat h
  obtain rfl : n = n' := by omega
  exact hr

theorem gfactor_ctr (c : Int) (t : List Nat) (tn : Bool) (tc : Option Nat) (rows turns : Int) (hf : Fl t) (hl : t.length ≤ 1000000) :
    Ctr Tryz.prog 19 [.agg [i c, fsl tn t tc, i rows, i turns]] (factorP c t rows turns) := by
  refine ctr_in Tryz.func19 rfl (by kernel_rfl) rfl fun K hK => ?_
  simp [Tryz.f19, cells_g4, -cellsOf]
  refine acall_by (tcheck_ctr c t tn tc rows turns hf hl) (by intro z hz; rw [List.mem_singleton.1 hz]; exact pu_agg (by simp)) ?_
  rintro _ rfl
  by_cases hok : triOk c t rows turns = true
  case neg =>
    simp only [factorP, if_neg hok] at hK
    rw [Bool.not_eq_true] at hok
    simp [hok]
    exact hK _ _ _ (.same _ (pu_tup (by simp))) rfl
  simp only [factorP, if_pos hok] at hK
  rw [hok]
  obtain ⟨n, rfl, h1, hn, ht, hlg, _⟩ := triOk_nat hok
  have hok0 := lines_ok h1 hn ht hlg
  have hro := okRows_ok hok0
  have hsz : (sizeI (n : Int)).toNat = sizeN n := by unfold sizeI; rw [if_pos (by omega)]; rfl
  have hw0 : IntKind.i64.wrap ((n : Int) + 1) = ((n + 1 : Nat) : Int) := w64 _ (by omega) (by omega)
  have cL := fun g => tline_ctr n t tn tc rows turns g hf hl
  simp only [Int.toNat_natCast] at hK
  simp [cells_g4, -cellsOf]
  refine acall_by (gzero_ctr n) (by simp) ?_
  rintro _ ⟨c0, rfl⟩
  rw [hsz]
  simp [hw0, -Int.natCast_add]
  refine loop_on (γ := Nat × List DV × Bool × Option Nat) 36 (fun g => [(1, .po 0 0 0), (4, dsl g.2.2.1 g.2.1 g.2.2.2), (16, i (n + 1 : Nat)), (17, i g.1)]) (fun _ => [⟨.own, 0, [i n, fsl tn t tc, i rows, i turns]⟩])
    (fun g => g.1 ≤ n + 1 ∧ g.2.1.map DV.d = rowsG n ((linesOf t n).take g.1)) (fun g => n + 1 - g.1)
    (0, List.replicate (sizeN n) zDV, false, c0) ⟨Nat.zero_le _, zero_d _⟩ (Wk.lst (by simp) (by simp)) ?_
  rintro ⟨g, us, n1, c1⟩ ⟨hg, hus⟩ L hL
  simp only at hg hus
  by_cases hlt : g < n + 1
  · have hw1 : IntKind.i64.wrap ((g : Int) + 1) = ((g + 1 : Nat) : Int) := w64 _ (by omega) (by omega)
    have cL := cL g
    have hcd : (triOk (n : Int) t rows turns && (decide (0 ≤ (g : Int)) && decide ((g : Int) ≤ (n : Int)))) = true := by rw [hok, decide_eq_true (show (0 : Int) ≤ (g : Int) by omega), decide_eq_true (show (g : Int) ≤ n by omega)]; rfl
    unfold lineP at cL
    simp only [if_pos hcd, Int.toNat_natCast] at cL
    have hll := line_len hn ht (i := g) (by omega)
    have hgr := lines_gram hn ht (i := g) (by omega)
    have hat := lines_at t hlt
    have htk : (linesOf t n).take (g + 1) = (linesOf t n).take g ++ [((lineOf t n g).take n, (lineOf t n g).getD n 0)] := by
      rw [List.take_succ_eq_append_getElem (by rw [lines_len]; exact hlt), hat]
    have hmem : ((lineOf t n g).take n, (lineOf t n g).getD n 0) ∈ linesOf t n := by rw [← hat]; exact List.getElem_mem _
    have hrow : rowQ ((lineOf t n g).take n) ((lineOf t n g).getD n 0) = true := by
      have := hok0
      unfold okRows at this
      rw [Bool.and_eq_true, List.all_eq_true] at this
      have := this.2 _ hmem
      rw [Bool.and_eq_true] at this
      exact this.1
    have hfin : (lineOf t n g).all fin = true := by
      have := hrow
      unfold rowQ at this
      rw [Bool.and_eq_true, line_eq hll] at this
      exact this.2
    have hflL : Fl (lineOf t n g) := by
      intro x hx
      unfold lineOf at hx
      rcases List.mem_append.1 hx with h | h
      · rw [List.eq_of_mem_replicate h]; decide
      · exact fl_sub hf x h
    have hro' : rowsOk n ((linesOf t n).take g) := fun r hr => hro r (List.mem_of_mem_take hr)
    have hrl : ((linesOf t n).take g).length ≤ 1000 := by rw [List.length_take, lines_len]; omega
    have hnext := fun us' c' => hL (g + 1, us', false, c')
    simp only [htk, rowsG_snoc] at hnext
    generalize (linesOf t n).take g = rs at *
    generalize lineOf t n g = l at *
    have hltI : (g : Int) < (n : Int) + 1 := by omega
    simp [hlt, hltI, cells_g4, -cellsOf]
    refine acall_by cL (by intro z hz; simp only [List.mem_cons, List.not_mem_nil, or_false] at hz; rcases hz with rfl | rfl; exact pu_agg (by simp); simp) ?_
    rintro _ ⟨ln, lc, rfl⟩
    simp
    refine acall_by (gdyads_ctr ln lc hflL (by omega)) (by simp) ?_
    intro r hr
    unfold dysP at hr
    rw [if_pos hfin] at hr
    obtain ⟨ls, n2, c2, hls, rfl⟩ := hr
    have hlsl : ls.length = n + 1 := by have := congrArg List.length hls; simpa [hll] using this
    have hokL : ∀ q, dOK ((l.map fromD).getD q zeroD) ∧ ((l.map fromD).getD q zeroD).2.1.length ≤ 900 := by
      intro q
      obtain ⟨o, b⟩ := getD_ok (okl_from l) q
      exact ⟨o, bd_len o b (by omega)⟩
    have cP := gprods_ctr n2 c2 hls hlsl h1 hn hokL
    rw [hgr] at cP
    simp
    refine acall_by cP (by simp) ?_
    rintro _ ⟨os, c3, hos, rfl⟩
    obtain ⟨ho1, hl1⟩ := rows_okl hn hro' hrl
    obtain ⟨l1, m1⟩ := okl_us hus ho1 (by omega)
    obtain ⟨l2, m2⟩ := okl_us hos (okl_row _ _) (by omega)
    have hul : us.length = sizeN n := by have := congrArg List.length hus; rw [List.length_map] at this; omega
    have htl : (l.take n).length = n := by rw [List.length_take]; omega
    have hlr := row_len (x := l.take n) (y := l.getD n 0) (by omega)
    have hol : os.length = sizeN n := by have := congrArg List.length hos; rw [List.length_map, hlr, htl] at this; exact this
    have hsl := size_le hn
    have cA := gadd_ctr n1 c1 false c3 (by omega) l1 l2
    simp
    refine acall_by cA (by simp) ?_
    intro r hr
    unfold joinP at hr
    rw [if_pos (by omega), m1, m2] at hr
    obtain ⟨ws, c4, hws, rfl⟩ := hr
    simp [hw1, -Int.natCast_add]
    exact hnext ws c4 _ _ ⟨by show g + 1 ≤ n + 1; omega, hws⟩ (Wk.lst (by simp) (by simp)) (by show n + 1 - (g + 1) < n + 1 - g; omega)
  · have hge : g = n + 1 := by omega
    rw [hge, List.take_of_length_le (by rw [lines_len]; omega)] at hus
    simp [hge]
    exact hK _ _ _ (.same _ (pu_tup (by simp))) ⟨us, n1, c1, hus, rfl⟩
end Go.Proofs.Nt
/- gram.Fade. -/
set_option linter.unusedVariables false
set_option maxRecDepth 20000
set_option linter.unusedSimpArgs false
set_option linter.unnecessarySimpa false
namespace Go.Proofs.Nt
open Go Go.Proofs Go.Proofs.Va Go.RowKit

/-- A list that is faded, if by a number. -/
def fadeP (a : List Dy) (b : Nat) (r : AV) : Prop :=
  if fin b = true then ∃ us nl cap, us.map DV.d = fadeL a (fromD b) ∧ r = .tup [dsl nl us cap, bo true] else r = .tup [.pl true [] 0 (some 0), bo false]

theorem zip_rep (f : Dy → Dy → Dy) (a : List Dy) (p : Dy) : List.zipWith f a (List.replicate a.length p) = a.map fun d => f d p := by
  induction a with
  | nil => rfl
  | cons x a ih => rw [List.length_cons, List.replicate_succ, List.zipWith_cons_cons, ih]; rfl

theorem gfade_ctr {a : List DV} {b : Nat} (na : Bool) (ca : Option Nat) {L H : Int} (hb : b < 18446744073709551616) (hl : a.length ≤ 100000) (ha : LenOk a) (ho : Okl L H (a.map DV.m)) (hLH : H - L ≤ 20000) :
    Ctr Tryz.prog 44 [dsl na a ca, fl b] (fadeP (a.map DV.m) b) := by
  refine ctr_in Tryz.func44 rfl (by kernel_rfl) rfl fun K hK => ?_
  simp only [Tryz.f44, List.append_eq, List.cons_append, List.nil_append]
  simp
  refine acall_by (from3_ctr hb) (by simp) ?_
  rintro _ ⟨n1, c1, rfl⟩
  by_cases hf : frg b < 9218868437227405312
  case neg =>
    have hfin : ¬ fin b = true := by unfold fin; simpa using hf
    simp only [fadeP, if_neg hfin] at hK
    simp [hf, cells_dy, -cellsOf]
    exact hK _ _ _ (.same _ (pu_tup (by simp))) rfl
  have hfin : fin b = true := decide_eq_true hf
  simp only [fadeP, if_pos hfin] at hK
  obtain ⟨op, bp⟩ := okl_from [b] (fromD b) (by simp)
  generalize fromD b = p at *
  have pl : p.2.1.length ≤ 900 := bd_len op bp (by omega)
  simp [hf, cells_dy, cells_ag, wr, -cellsOf]
  have hT : (toV p n1 c1).m = p := may_of_ok op.1
  refine acall_froze [1] (repeat_ctr (toV p n1 c1) false (some 1) a.length hl) rfl (fun q hq => ?_) fun rr hrr => ?_
  · have : q = 0 ∨ q = 1 := by simp at hq; omega
    rcases this with rfl | rfl
    · exact pur_ds (k := .own) (l := [toV p n1 c1]) (v := 0) (by simp [dcs, DV.cs, toV]) (by decide) rfl (by simp)
    · exact .same _ (by simp)
  obtain ⟨c2, rfl⟩ := hrr
  generalize froze _ [1] = σ3
  obtain ⟨y, hy⟩ : ∃ y, y = toV p n1 c1 := ⟨_, rfl⟩
  have hym : y.m = p := by rw [hy]; exact hT
  have hya : y.a = p.2.1 := by rw [hy]; rfl
  rw [← hy]
  have hmem : ∀ z ∈ List.replicate a.length y, z = y := fun z hz => List.eq_of_mem_replicate hz
  have hrm : (List.replicate a.length y).map DV.m = List.replicate a.length p := by rw [List.map_replicate, hym]
  have cJ := gjoin_ctr na ca false c2 (a := a) (b := List.replicate a.length y) mulD 31 hl fun x hx z hz => by
    rw [hmem z hz]
    exact mul3_ctr x.neg x.nl y.neg y.nl x.a y.a x.cap y.cap x.e y.e (ha x hx).1 (by rw [hya]; exact op.2) (by have := (ha x hx).2; omega) (by rw [hya]; omega)
  simp
  refine acall_by cJ (by simp) ?_
  intro r hr
  unfold joinP at hr
  rw [if_pos (by simp), hrm, show List.replicate a.length p = List.replicate (a.map DV.m).length p by rw [List.length_map], zip_rep] at hr
  obtain ⟨us, c3, hus, rfl⟩ := hr
  have ho2 : Okl (L + -1074) (H + 1024) ((a.map DV.m).map fun d => mulD d p) := by
    intro d hd
    obtain ⟨x, hx, rfl⟩ := List.mem_map.1 hd
    obtain ⟨o, b⟩ := ho x hx
    exact ⟨ok_mul _ _, bd_mul b bp⟩
  obtain ⟨l2, m2⟩ := okl_us hus ho2 (by omega)
  have hul : us.length = a.length := by have := congrArg List.length hus; simpa using this
  have cJ2 := gjoin_ctr false c3 false c2 (a := us) (b := List.replicate a.length y) mulD 31 (by omega) fun x hx z hz => by
    rw [hmem z hz]
    exact mul3_ctr x.neg x.nl y.neg y.nl x.a y.a x.cap y.cap x.e y.e (l2 x hx).1 (by rw [hya]; exact op.2) (by have := (l2 x hx).2; omega) (by rw [hya]; omega)
  simp
  refine acall_by cJ2 (by simp) ?_
  intro r hr
  unfold joinP at hr
  rw [if_pos (by simp [hul]), hrm, m2, show List.replicate a.length p = List.replicate ((a.map DV.m).map fun d => mulD d p).length p by rw [List.length_map, List.length_map], zip_rep, List.map_map] at hr
  obtain ⟨ws, c4, hws, rfl⟩ := hr
  simp
  exact hK _ _ _ (.same _ (pu_tup (by simp))) ⟨ws, false, c4, hws, rfl⟩
end Go.Proofs.Nt
/- ref08.Same, Few. -/
set_option linter.unusedVariables false
set_option maxRecDepth 20000
set_option linter.unusedSimpArgs false
set_option linter.unnecessarySimpa false
namespace Go.Proofs.Nt
open Go Go.Proofs Go.Proofs.Va Go.RowKit

theorem map_d_eq {a b : List DV} (hl : a.length = b.length) (h : ∀ q, q < a.length → (gv a q).d = (gv b q).d) : a.map DV.d = b.map DV.d := by
  refine List.ext_getElem (by simpa using hl) fun q h1 h2 => ?_
  simp only [List.length_map] at h1 h2
  have := h q h1
  rw [gv_at h1, gv_at h2] at this
  simpa using this
theorem rsameL_ctr {a b : List DV} (na : Bool) (ca : Option Nat) (nb : Bool) (cb : Option Nat) (hl : a.length ≤ 100000) (ha : ∀ d ∈ a, d.a.length ≤ 1000000) (hb : ∀ d ∈ b, d.a.length ≤ 1000000) :
    Ctr Tryz.prog 48 [dsl na a ca, dsl nb b cb] (fun r => r = bo (decide (a.map DV.d = b.map DV.d))) := by
  refine ctr_val Tryz.func48 rfl (by kernel_rfl) rfl (by simp) fun K hK => ?_
  simp only [Tryz.f48, List.append_eq, List.cons_append, List.nil_append]
  have hF : a.map DV.d ≠ b.map DV.d → ∀ σ, K (.v (.bool false)) σ := by
    intro h σ
    rw [decide_eq_false h] at hK
    exact hK σ
  by_cases hab : a.length = b.length
  case neg =>
    have hab' : ¬ (a.length : Int) = b.length := by omega
    simp [hab, hab']
    exact hF (fun h => hab (by simpa using congrArg List.length h)) _
  simp [hab]
  refine loop_on (γ := Nat) 27 (fun g => [(0, dsl na a ca), (1, dsl nb b cb), (5, i g)]) (fun _ => []) (fun g => g ≤ a.length ∧ ∀ q, q < g → (gv a q).d = (gv b q).d) (fun g => a.length - g)
    0 ⟨Nat.zero_le _, fun q hq => by omega⟩ (Wk.lst (by simp [dsl]) (by simp)) ?_
  rintro g ⟨hg, hq⟩ L hL
  by_cases hlt : g < a.length
  · have hltb : g < b.length := by omega
    have w2 : IntKind.i64.wrap ((g : Int) + 1) = ((g + 1 : Nat) : Int) := w64 _ (by omega) (by omega)
    have rA := dcs_read hlt
    have rB := dcs_read hltb
    have oa3 : g * 3 + 3 ≤ (dcs a).length := by rw [dcs_len]; omega
    have ob3 : g * 3 + 3 ≤ (dcs b).length := by rw [dcs_len]; omega
    have oa : g * 3 < (dcs a).length := by omega
    have ob : g * 3 < (dcs b).length := by omega
    have hxl := ha _ (gv_mem hlt)
    have hyl := hb _ (gv_mem hltb)
    have hne : (gv a g).d ≠ (gv b g).d → a.map DV.d ≠ b.map DV.d := by
      intro h he
      apply h
      have h1 : (a.map DV.d)[g]? = (b.map DV.d)[g]? := by rw [he]
      rw [gv_at hlt, gv_at hltb]
      simpa [hlt, hltb] using h1
    have hnext := hL (g + 1)
    have hstep : (gv a g).d = (gv b g).d → ∀ q, q < g + 1 → (gv a q).d = (gv b q).d := by
      intro h q hq'
      by_cases e : q = g
      · rw [e]; exact h
      · exact hq q (by omega)
    generalize gv a g = u at *
    generalize gv b g = v at *
    obtain ⟨ug, un, ua, uc, ue⟩ := u
    obtain ⟨vg, vn, va, vc, ve⟩ := v
    have cS := same3_ctr ug un vg vn ua va uc vc ue ve hxl hyl
    have hb2 : (ug == vg && decide (ue = ve) && (ua == va)) = decide ((⟨ug, un, ua, uc, ue⟩ : DV).d = (⟨vg, vn, va, vc, ve⟩ : DV).d) := by
      show _ = decide ((ug, ua, ue) = (vg, va, ve))
      rw [Bool.eq_iff_iff]
      simp [and_comm, and_assoc]
    rw [hb2] at cS
    simp [hlt]
    refine draw_at [0, 0, 1, 1, 0, 0, 1, 1, 3, 0] orders (by kernel_rfl) ?_
    simp [hlt, hltb, oa, oa3, ob, ob3, rA, rB]
    refine acall_by cS (by simp [DV.av, dy]) ?_
    rintro _ rfl
    by_cases he : (⟨ug, un, ua, uc, ue⟩ : DV).d = (⟨vg, vn, va, vc, ve⟩ : DV).d
    · rw [decide_eq_true he]
      simp [w2, -Int.natCast_add]
      exact hnext _ _ ⟨by omega, hstep he⟩ (Wk.lst (by simp [dsl]) (by simp)) (by show _ - (g + 1) < _ - g; omega)
    · rw [decide_eq_false he]
      simp
      exact hF (hne he) _
  · have hge : g = a.length := by omega
    have := map_d_eq hab (fun q hq' => hq q (by omega))
    rw [decide_eq_true this] at hK
    simp [hlt]
    exact hK _

end Go.Proofs.Nt
/- Lists of rows that grow; ref08.Lines. -/
set_option linter.unusedVariables false
set_option maxRecDepth 20000
set_option linter.unusedSimpArgs false
set_option linter.unnecessarySimpa false
namespace Go.Proofs.Nt
open Go Go.Proofs Go.Proofs.Va Go.RowKit

theorem cells_g2 (a b : AV) : cellsOf (.agg [a, b]) = some [a, b] := (rfl)
theorem cells_vf (k : FloatKind) (n : Nat) : cellsOf (.v (.float k n)) = some [.v (.float k n)] := (rfl)
end Go.Proofs.Nt
/- Gram: live. -/
set_option linter.unusedVariables false
set_option maxRecDepth 20000
set_option linter.unusedSimpArgs false
set_option linter.unnecessarySimpa false
namespace Go.Proofs.Nt
open Go Go.Proofs Go.Proofs.Va Go.RowKit

theorem us3 {us : List DV} {a b c : Dy} (h : us.map DV.d = [a, b, c]) : ∃ n1 c1 n2 c2 n3 c3, us = [toV a n1 c1, toV b n2 c2, toV c n3 c3] := by
  match us, h with
  | [x, y, z], h =>
    simp only [List.map_cons, List.map_nil, List.cons.injEq, and_true] at h
    obtain ⟨rfl, rfl, rfl⟩ := h
    exact ⟨x.nl, x.cap, y.nl, y.cap, z.nl, z.cap, rfl⟩
/-- Three dyads are told, all is well. -/
def t3 (a b c : Dy) (r : AV) : Prop := ∃ nl cap n1 c1 n2 c2 n3 c3, r = .tup [dsl nl [toV a n1 c1, toV b n2 c2, toV c n3 c3] cap, bo true]
end Go.Proofs.Nt
/- Gram: live, walked. -/
set_option linter.unusedVariables false
set_option maxRecDepth 20000
set_option linter.unusedSimpArgs false
set_option linter.unnecessarySimpa false
namespace Go.Proofs.Nt
open Go Go.Proofs Go.Proofs.Va Go.RowKit

theorem pur_g2 {σ : AHeap} {S : Nat → Prop} {a b x y : AV} (h1 : Pur σ S a x) (h2 : Pur σ S b y) : Pur σ S (.agg [a, b]) (.agg [x, y]) := by
  refine .agg _ _ rfl fun j hj => ?_
  have : j = 0 ∨ j = 1 := by simp at hj; omega
  rcases this with rfl | rfl
  · exact h1
  · exact h2
theorem pur_g4 {σ : AHeap} {S : Nat → Prop} {a b c d x y z w : AV} (h1 : Pur σ S a x) (h2 : Pur σ S b y) (h3 : Pur σ S c z) (h4 : Pur σ S d w) : Pur σ S (.agg [a, b, c, d]) (.agg [x, y, z, w]) := by
  refine .agg _ _ rfl fun j hj => ?_
  have : j = 0 ∨ j = 1 ∨ j = 2 ∨ j = 3 := by simp at hj; omega
  rcases this with rfl | rfl | rfl | rfl
  · exact h1
  · exact h2
  · exact h3
  · exact h4

end Go.Proofs.Nt
/- GramLines. -/
set_option linter.unusedVariables false
set_option maxRecDepth 20000
set_option linter.unusedSimpArgs false
set_option linter.unnecessarySimpa false
namespace Go.Proofs.Nt
open Go Go.Proofs Go.Proofs.Va Go.RowKit

theorem us_len {us : List DV} {G : List Dy} (h : us.map DV.d = G) : us.length = G.length := by rw [← h, List.length_map]
end Go.Proofs.Nt
/- GramSquares. -/
set_option linter.unusedVariables false
set_option maxRecDepth 20000
set_option linter.unusedSimpArgs false
set_option linter.unnecessarySimpa false
namespace Go.Proofs.Nt
open Go Go.Proofs Go.Proofs.Va Go.RowKit

end Go.Proofs.Nt
/- GramOrders. -/
set_option linter.unusedVariables false
set_option maxRecDepth 20000
set_option linter.unusedSimpArgs false
set_option linter.unnecessarySimpa false
namespace Go.Proofs.Nt
open Go Go.Proofs Go.Proofs.Va Go.RowKit

end Go.Proofs.Nt
/- GramOrders, walked. -/
set_option linter.unusedVariables false
set_option maxRecDepth 20000
set_option linter.unusedSimpArgs false
set_option linter.unnecessarySimpa false
namespace Go.Proofs.Nt
open Go Go.Proofs Go.Proofs.Va Go.RowKit

theorem same_us {a b : List DV} (na : Bool) (ca : Option Nat) (nb : Bool) (cb : Option Nat) (h : a.map DV.d = b.map DV.d) (ha : LenOk a) (hb : LenOk b) (hl : a.length ≤ 100000) :
    Ctr Tryz.prog 48 [dsl na a ca, dsl nb b cb] (fun r => r = bo true) := by
  have := rsameL_ctr na ca nb cb (a := a) (b := b) hl (fun d hd => by have := (ha d hd).2; omega) (fun d hd => by have := (hb d hd).2; omega)
  rw [decide_eq_true h] at this
  exact this

theorem lenok_d {a b : List DV} (h : a.map DV.d = b.map DV.d) (hb : LenOk b) : LenOk a := by
  intro d hd
  have : d.d ∈ b.map DV.d := by rw [← h]; exact List.mem_map.2 ⟨d, hd, rfl⟩
  obtain ⟨e, he, h2⟩ := List.mem_map.1 this
  have h3 := hb e he
  have h4 : e.a = d.a := congrArg (fun z : Dy => z.2.1) h2
  rw [h4] at h3
  exact h3
end Go.Proofs.Nt
/- ref08.Add, Sub, Fade, Zero. -/
set_option linter.unusedVariables false
set_option maxRecDepth 20000
set_option linter.unusedSimpArgs false
set_option linter.unnecessarySimpa false
namespace Go.Proofs.Nt
open Go Go.Proofs Go.Proofs.Va Go.RowKit

end Go.Proofs.Nt
/- ref08.Fade, Zero. -/
set_option linter.unusedVariables false
set_option maxRecDepth 20000
set_option linter.unusedSimpArgs false
set_option linter.unnecessarySimpa false
namespace Go.Proofs.Nt
open Go Go.Proofs Go.Proofs.Va Go.RowKit

end Go.Proofs.Nt
/- ref08.Rows, Factor. -/
set_option linter.unusedVariables false
set_option maxRecDepth 20000
set_option linter.unusedSimpArgs false
set_option linter.unnecessarySimpa false
namespace Go.Proofs.Nt
open Go Go.Proofs Go.Proofs.Va Go.RowKit

end Go.Proofs.Nt
/- GramCounts, GramTells. -/
set_option linter.unusedVariables false
set_option maxRecDepth 20000
set_option linter.unusedSimpArgs false
set_option linter.unnecessarySimpa false
namespace Go.Proofs.Nt
open Go Go.Proofs Go.Proofs.Va Go.RowKit

theorem okl_zadd {L H : Int} {a b : List Dy} (ha : Okl L H a) (hb : Okl L H b) (hL : L ≤ 0) : Okl L (H + 1) (List.zipWith addD a b) := by
  intro d hd
  obtain ⟨q, hq, rfl⟩ := List.getElem_of_mem hd
  simp only [List.length_zipWith] at hq
  rw [List.getElem_zipWith]
  obtain ⟨o1, b1⟩ := ha _ (List.getElem_mem (show q < a.length by omega))
  obtain ⟨o2, b2⟩ := hb _ (List.getElem_mem (show q < b.length by omega))
  exact ⟨ok_add _ _, bd_add o1 o2 b1 b2 hL⟩
theorem okl_zsub {L H : Int} {a b : List Dy} (ha : Okl L H a) (hb : Okl L H b) (hL : L ≤ 0) : Okl L (H + 1) (List.zipWith (fun x y => addD x (oppD y)) a b) := by
  intro d hd
  obtain ⟨q, hq, rfl⟩ := List.getElem_of_mem hd
  simp only [List.length_zipWith] at hq
  rw [List.getElem_zipWith]
  obtain ⟨o1, b1⟩ := ha _ (List.getElem_mem (show q < a.length by omega))
  obtain ⟨o2, b2⟩ := hb _ (List.getElem_mem (show q < b.length by omega))
  exact ⟨ok_add _ _, bd_add o1 (ok_opp _) b1 (bd_opp b2) hL⟩
theorem okl_fade {L H : Int} {a : List Dy} (ha : Okl L H a) (b : Nat) : Okl (L + -1074 + -1074) (H + 1024 + 1024) (fadeL a (fromD b)) := by
  intro d hd
  obtain ⟨x, hx, rfl⟩ := List.mem_map.1 hd
  obtain ⟨_, b1⟩ := ha x hx
  obtain ⟨op, bp⟩ := okl_from [b] (fromD b) (by simp)
  exact ⟨ok_mul _ _, bd_mul (bd_mul b1 bp) bp⟩
/-- What is told of two lists. -/
def toldL (q : Bool) (G : List Dy) (r : AV) : Prop := ∃ us nl cap, r = .tup [dsl nl us cap, bo q] ∧ us.map DV.d = (if q = true then G else []) ∧ LenOk us ∧ us.length ≤ 100000
theorem told_no {G : List Dy} : toldL false G (.tup [.pl true [] 0 (some 0), bo false]) := ⟨[], true, some 0, rfl, rfl, fun d hd => by simp at hd, by simp⟩
theorem told_yes {L H : Int} {G : List Dy} {us : List DV} {nl : Bool} {cap : Option Nat} (h : us.map DV.d = G) (ho : Okl L H G) (hk : H - L ≤ 28800) (hl : G.length ≤ 100000) : toldL true G (.tup [dsl nl us cap, bo true]) :=
  ⟨us, nl, cap, rfl, h, (okl_us h ho hk).1, by rw [us_len h]; exact hl⟩
theorem told_fade {a : List Dy} {b : Nat} {L H : Int} {r : AV} (h : fadeP a b r) (ho : Okl L H a) (hk : H - L ≤ 20000) (hl : a.length ≤ 100000) : toldL (fin b) (fadeL a (fromD b)) r := by
  unfold fadeP at h
  by_cases e : fin b = true
  · rw [if_pos e] at h
    obtain ⟨us, nl, cap, hus, rfl⟩ := h
    rw [e]
    exact told_yes hus (okl_fade ho b) (by omega) (by rw [fade_len]; exact hl)
  · rw [if_neg e] at h
    subst h
    rw [Bool.not_eq_true] at e
    rw [e]
    exact told_no
end Go.Proofs.Nt
