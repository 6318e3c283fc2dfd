import Derived.Test.YtojoikbgdjcfdaaDoorWa
import Derived.Test.YtojoikbgdjcfdaaDoorWb
import Derived.Test.YtojoikbgdjcfdaaDoorWc
import Derived.Test.YtojoikbgdjcfdaaDoorWd
import Derived.Test.YtojoikbgdjcfdaaDoorWe
import Derived.Test.YtojoikbgdjcfdaaDoorWf
import Derived.Test.YtojoikbgdjcfdaaDoorWg
import Derived.Test.YtojoikbgdjcfdaaDoorWh
import Derived.Test.YtojoikbgdjcfdaaDoorWi
import Derived.Test.YtojoikbgdjcfdaaDoorWk
import Derived.Test.YtojoikbgdjcfdaaDoorWl
import Derived.Test.YtojoikbgdjcfdaaDoorWm
/- The law CheckRows. -/
set_option linter.unusedVariables false
set_option maxRecDepth 20000
set_option linter.unusedSimpArgs false
set_option linter.unnecessarySimpa false
namespace Go.Proofs.Nt
open Go Go.Proofs Go.Proofs.Va Go.RowKit

def oRow (k sh : Int) (x : List Nat) (xn : Bool) (xc : Option Nat) (y : Nat) : OpV := ⟨k, sh, 0, x, xn, xc, y, 0, 0, [], true, some 0, ⟨#[]⟩⟩
theorem fit_oRow {k sh : Int} {x : List Nat} {xn : Bool} {xc : Option Nat} {y : Nat} (hx : Fl x) (hy : y < 18446744073709551616) (hl : x.length ≤ 12) : (oRow k sh x xn xc y).fit :=
  ⟨hx, hy, by show (0 : Nat) < _; decide, by show (0 : Nat) < _; decide, by show x.length ≤ _; omega, by show (0 : Nat) ≤ _; decide, by show (0 : Nat) ≤ 100000; decide⟩
theorem nbad_row {s : ShV} {k sh : Int} {x : List Nat} {xn : Bool} {xc : Option Nat} {y : Nat} (hm : s.may = true) (hh : s.has sh = true) (hk : 1 ≤ k ∧ k ≤ 8) : ¬ badO s (oRow k sh x xn xc y) := by
  rintro (h | h | h | h)
  · rw [hm] at h; cases h
  · have : k < 1 := h; omega
  · have : 8 < k := h; omega
  · have : s.has sh = false := h.2; rw [hh] at this; cases this
theorem opE_row {s : ShV} {sh : Int} {x : List Nat} {xn : Bool} {xc : Option Nat} {y : Nat} (hm : s.may = true) (hh : s.has sh = true) :
    opE s (oRow 1 sh x xn xc y) = if (x.length : Int) ≠ s.cols then 3 else if (x.all inB && inB y) = false then 2 else if s.row sh < 200 ∧ s.turn sh + s.cols + 1 ≤ 4096 then 0 else 6 := by
  rw [opE_ok (nbad_row hm hh (by omega))]
  show rowE s (oRow 1 sh x xn xc y) = _
  unfold rowE
  show (if (x.length : Int) ≠ s.cols then 3 else if (x.all inB && inB y) = false then 2 else if (1 : Int) = 2 ∧ s.row sh = 0 then 5 else if (1 : Int) = 1 ∧ s.row sh = 200 then 6 else roomE (s.turn sh) (s.cols + 1)) = _
  split
  · rfl
  · split
    · rfl
    · have ha := sh_at hm hh
      rw [if_neg (by omega)]
      unfold roomE
      split
      · rw [if_neg (by omega)]
      · split
        · rw [if_neg (by omega)]
        · rw [if_pos (by omega)]
theorem opE_row2 {s : ShV} {sh : Int} {x : List Nat} {xn : Bool} {xc : Option Nat} {y : Nat} (hm : s.may = true) (hh : s.has sh = true) :
    opE s (oRow 2 sh x xn xc y) = if (x.length : Int) ≠ s.cols then 3 else if (x.all inB && inB y) = false then 2 else if s.row sh = 0 then 5 else if s.turn sh + s.cols + 1 ≤ 4096 then 0 else 6 := by
  rw [opE_ok (nbad_row hm hh (by omega))]
  show rowE s (oRow 2 sh x xn xc y) = _
  unfold rowE
  show (if (x.length : Int) ≠ s.cols then 3 else if (x.all inB && inB y) = false then 2 else if (2 : Int) = 2 ∧ s.row sh = 0 then 5 else if (2 : Int) = 1 ∧ s.row sh = 200 then 6 else roomE (s.turn sh) (s.cols + 1)) = _
  split
  · rfl
  · split
    · rfl
    · split
      · rw [if_pos (by omega)]
      · rw [if_neg (by omega), if_neg (by omega)]
        unfold roomE
        split
        · rw [if_neg (by omega)]
        · rw [if_pos (by omega)]
theorem opE_row2_3 {s : ShV} {sh : Int} {x : List Nat} {xn : Bool} {xc : Option Nat} {y : Nat} (hm : s.may = true) (hh : s.has sh = true) : (opE s (oRow 2 sh x xn xc y) = 3) ↔ (x.length : Int) ≠ s.cols := by
  rw [opE_row2 hm hh]
  by_cases h : (x.length : Int) ≠ s.cols
  · rw [if_pos h]; exact ⟨fun _ => h, fun _ => rfl⟩
  · rw [if_neg h]
    constructor
    · intro e
      split at e; · cases e
      split at e; · cases e
      split at e <;> cases e
    · intro e; exact absurd e h

set_option maxHeartbeats 2000000 in
theorem lawrows_ctr (hc : CodeOk) (s : ShV) (f : Fg) (sh : Int) (x : List Nat) (xn : Bool) (xc : Option Nat) (y : Nat) (hx : Fl x) (hy : y < 18446744073709551616) :
    Ctr Tryd.prog 4 [s.av f, i sh, .agg [fsl xn x xc, fl y]] (fun r => r = bo true) := by
  refine ctr_val Tryd.func4 rfl (by kernel_rfl) rfl (by simp) fun K hK => ?_
  have cLive := clive_ctr hc
  have hp1 := pu_av _ (pu_sh s f)
  have cS := shsmall_ctr s f
  have cM := shmay_ctr s f
  rw [fld_sh_av] at *
  simp [Tryd.f4, cells_g3, cells_g2q, cells_fslq, cells_fl, -cellsOf]
  refine acall_by cS hp1 ?_
  rintro _ rfl
  cases hs : s.small
  · simp
    refine acall_by cLive (by simp) ?_
    rintro _ rfl
    simp
    exact hK _
  by_cases hl : x.length ≤ 12
  case neg =>
    simp [fsl, hl, Nat.lt_of_not_le hl]
    refine acall_by cLive (by simp) ?_
    rintro _ rfl
    simp
    exact hK _
  have hl' : ¬ 12 < x.length := by omega
  simp [fsl, hl, hl']
  refine acall_by cM hp1 ?_
  rintro _ rfl
  cases hm : s.may
  · simp
    refine acall_by cLive (by simp) ?_
    rintro _ rfl
    simp
    exact hK _
  by_cases h0 : 0 ≤ sh
  case neg =>
    simp [h0, Int.not_le.1 h0]
    refine acall_by cLive (by simp) ?_
    rintro _ rfl
    simp
    exact hK _
  have h0' : ¬ sh < 0 := by omega
  by_cases h1 : sh < s.rows.length
  case neg =>
    simp [h0, h0', h1, Int.not_lt.1 h1, zsl]
    refine acall_by cLive (by simp) ?_
    rintro _ rfl
    simp
    exact hK _
  have h1' : ¬ (s.rows.length : Int) ≤ sh := by omega
  have hh : s.has sh = true := has_iff.2 ⟨h0, h1⟩
  have hln := sh_len hm
  have hcc := sh_cols hm
  have ha := sh_at hm hh
  have rr := row_at hh
  have rt := turn_at hm hh
  have k0 : sh.toNat < s.rows.length := by omega
  have k0' : sh < s.rows.length := h1
  have k1 : sh.toNat < s.turns.length := by omega
  have k1' : sh < s.turns.length := by omega
  have k2 : 0 ≤ sh := h0
  have ho1 : (oRow 1 sh x xn xc y).fit := fit_oRow hx hy hl
  have ho2 : (oRow 2 sh x xn xc y).fit := fit_oRow hx hy hl
  have cO := cop_ctr hc s f _ ho1
  have cN := cnext_ctr hc s f _ ho1
  have hp := pu_shop s f (oRow 1 sh x xn xc y)
  have cE := rentries_ctr xn x xc y (by omega)
  have hall : (x ++ [y]).all inB = (x.all inB && inB y) := by simp
  have cA := fun cap => rall_ctr (l := x ++ [y]) false cap (by
    intro z hz
    rcases List.mem_append.1 hz with h | h
    · exact hx z h
    · rw [List.mem_singleton.1 h]; exact hy) (by simp; omega)
  rw [hall] at cA
  have wa : IntKind.i64.wrap (s.turn sh + s.cols) = s.turn sh + s.cols := w64 _ (by omega) (by omega)
  have wb : IntKind.i64.wrap (s.turn sh + s.cols + 1) = s.turn sh + s.cols + 1 := w64 _ (by omega) (by omega)
  have hpr : ∀ z ∈ [AV.agg [fsl xn x xc, fl y]], Pu z := pu_av _ (pu_agg (by simp [pu_fslq]))
  have hE := opE_row (x := x) (xn := xn) (xc := xc) (y := y) hm hh
  have hE2 := opE_row2_3 (x := x) (xn := xn) (xc := xc) (y := y) hm hh
  generalize hq : (x.all inB && inB y) = q at *
  have cO2 := fun (g : Fg) => cop_ctr hc (nextS s (oRow 1 sh x xn xc y)) g _ ho2
  have hp2 := fun (g : Fg) => pu_shop (nextS s (oRow 1 sh x xn xc y)) g (oRow 2 sh x xn xc y)
  have hnx := nextS_same (s := s) (o := oRow 1 sh x xn xc y)
  have htn := fun h => next_turn (s := s) (o := oRow 1 sh x xn xc y) h (by show (1 : Int) ≠ 5; decide) (by show (1 : Int) ≠ 7; decide) (by show (1 : Int) ≠ 8; decide)
  have hval : opE s (oRow 1 sh x xn xc y) = 0 → nextS s (oRow 1 sh x xn xc y) = ⟨s.cols, s.rows.set sh.toNat (s.row sh + 1), s.turns.set sh.toNat (s.turn sh + (s.cols + 1))⟩ := fun h => by
    unfold nextS
    rw [if_neg (by rintro (e | e | e | e); exact e h; exact absurd (show (1 : Int) = 5 from e) (by decide); exact absurd (show (1 : Int) = 7 from e) (by decide); exact absurd (show (1 : Int) = 8 from e) (by decide)), if_pos (by rfl)]; rfl
  have hf0 : opE s (oRow 1 sh x xn xc y) = 0 → (opE (nextS s (oRow 1 sh x xn xc y)) (oRow 2 sh x xn xc y) = 0 ↔ s.turn sh + 2 * s.cols + 2 ≤ 4096) := fun h => by
    obtain ⟨_, _, ht⟩ := htn h
    obtain ⟨m2, mc, mr, mt⟩ := turn_may hm ht
    have hh2 : (nextS s (oRow 1 sh x xn xc y)).has sh = true := has_iff.2 ⟨h0, by rw [mr]; exact h1⟩
    have hE' := h
    rw [hE] at hE'
    rw [opE_row2 m2 hh2, mc]
    split at hE'; · cases hE'
    rename_i g1
    rw [if_neg g1]
    split at hE'; · cases hE'
    rename_i g2
    rw [hq, if_neg g2]
    have e1 : (nextS s (oRow 1 sh x xn xc y)).row sh = s.row sh + 1 := by rw [hval h]; unfold ShV.row; rw [getD_set _ _ _ _ k0, if_pos rfl]
    have e2 : (nextS s (oRow 1 sh x xn xc y)).turn sh = s.turn sh + (s.cols + 1) := by rw [hval h]; unfold ShV.turn; rw [getD_set _ _ _ _ k1, if_pos rfl]
    rw [e1, e2, if_neg (by omega)]
    split
    · exact ⟨fun _ => by omega, fun _ => rfl⟩
    · exact ⟨fun h => (by cases h), fun h => (by omega)⟩
  rw [fld_op_av, fld_sh_av] at cO cN hp
  simp [h0, h0', h1, h1', zsl, opZ]
  refine acall_by cO hp ?_
  rintro _ rfl
  simp
  refine acall_by cE hpr ?_
  rintro _ ⟨f1, rfl⟩
  simp
  refine acall_by (cA f1) (pu_av _ (pu_fslq _ _ _)) ?_
  rintro _ rfl
  simp
  have er : s.rows[sh.toNat] = s.row sh := by unfold ShV.row; simp [k0]
  have et : s.turns[sh.toNat] = s.turn sh := by unfold ShV.turn; simp [k1]
  refine draw_at [1, 1, 0, 1, 1, 0, 0, 1, 1, 0, 1, 1, 1, 1, 0, 0, 0, 0, 0] (by kernel_rfl) (by kernel_rfl) ?_
  by_cases q0 : (x.length : Int) = s.cols
  case neg =>
    have he : opE s (oRow 1 sh x xn xc y) = 3 := by rw [hE, if_pos q0]
    have f3 : opE s (oRow 2 sh x xn xc y) = 3 := hE2.2 q0
    by_cases q2 : s.row sh < 200
    · have hn := hnx (.inl (by rw [he]; decide))
      simp (maxSteps := 2000000) [k0, k0', k1, k1', k2, er, et, wa, wb, he, q0, q2, Int.not_le.2 q2]
      refine acall_by cN hp ?_
      rintro _ ⟨f', rfl⟩
      have cO' := cO2 f'
      have hp' := hp2 f'
      rw [hn] at cO' hp' ⊢
      rw [fld_op_av, fld_sh_av] at cO' hp'
      simp only [fld_sh_av]
      simp (maxSteps := 2000000) [cells_g3, cells_zsl, cells_in, wr, zsl, -cellsOf]
      refine acall_by cO' hp' ?_
      rintro _ rfl
      simp (maxSteps := 2000000) [he, f3, q0, q0, q2, Int.not_le.2 q2]
      refine acall_by cLive (by simp) ?_
      rintro _ rfl
      simp [q0]
      exact hK _
    · have hn := hnx (.inl (by rw [he]; decide))
      simp (maxSteps := 2000000) [k0, k0', k1, k1', k2, er, et, wa, wb, he, q0, q2, Int.not_lt.1 q2]
      refine acall_by cN hp ?_
      rintro _ ⟨f', rfl⟩
      have cO' := cO2 f'
      have hp' := hp2 f'
      rw [hn] at cO' hp' ⊢
      rw [fld_op_av, fld_sh_av] at cO' hp'
      simp only [fld_sh_av]
      simp (maxSteps := 2000000) [cells_g3, cells_zsl, cells_in, wr, zsl, -cellsOf]
      refine acall_by cO' hp' ?_
      rintro _ rfl
      simp (maxSteps := 2000000) [he, f3, q0, q0, q2, Int.not_lt.1 q2]
      refine acall_by cLive (by simp) ?_
      rintro _ rfl
      simp [q0]
      exact hK _
  have f3' : ¬ opE s (oRow 2 sh x xn xc y) = 3 := fun h => hE2.1 h q0
  have f3 : (opE s (oRow 2 sh x xn xc y) == 3) = false := by simp [f3']
  have q0b : ((x.length : Int) == s.cols) = true := by simp [q0]
  rw [if_neg (by omega)] at hE
  cases q
  case false =>
    have he : opE s (oRow 1 sh x xn xc y) = 2 := by rw [hE, if_pos rfl]
    by_cases q2 : s.row sh < 200
    · have hn := hnx (.inl (by rw [he]; decide))
      simp (maxSteps := 2000000) [k0, k0', k1, k1', k2, er, et, wa, wb, he, eq_true q0, q2, Int.not_le.2 q2]
      refine acall_by cN hp ?_
      rintro _ ⟨f', rfl⟩
      have cO' := cO2 f'
      have hp' := hp2 f'
      rw [hn] at cO' hp' ⊢
      rw [fld_op_av, fld_sh_av] at cO' hp'
      simp only [fld_sh_av]
      simp (maxSteps := 2000000) [cells_g3, cells_zsl, cells_in, wr, zsl, -cellsOf]
      refine acall_by cO' hp' ?_
      rintro _ rfl
      simp (maxSteps := 2000000) [he, f3, q0b, f3, eq_true q0, q2, Int.not_le.2 q2]
      refine acall_by cLive (by simp) ?_
      rintro _ rfl
      simp [q0b, f3]
      exact hK _
    · have hn := hnx (.inl (by rw [he]; decide))
      simp (maxSteps := 2000000) [k0, k0', k1, k1', k2, er, et, wa, wb, he, eq_true q0, q2, Int.not_lt.1 q2]
      refine acall_by cN hp ?_
      rintro _ ⟨f', rfl⟩
      have cO' := cO2 f'
      have hp' := hp2 f'
      rw [hn] at cO' hp' ⊢
      rw [fld_op_av, fld_sh_av] at cO' hp'
      simp only [fld_sh_av]
      simp (maxSteps := 2000000) [cells_g3, cells_zsl, cells_in, wr, zsl, -cellsOf]
      refine acall_by cO' hp' ?_
      rintro _ rfl
      simp (maxSteps := 2000000) [he, f3, q0b, f3, eq_true q0, q2, Int.not_lt.1 q2]
      refine acall_by cLive (by simp) ?_
      rintro _ rfl
      simp [q0b, f3]
      exact hK _
  rw [if_neg (by decide)] at hE
  by_cases q2 : s.row sh < 200
  case neg =>
    have he : opE s (oRow 1 sh x xn xc y) = 6 := by rw [hE, if_neg (by omega)]
    have hn := hnx (.inl (by rw [he]; decide))
    simp (maxSteps := 2000000) [k0, k0', k1, k1', k2, er, et, wa, wb, he, eq_true q0, q2, Int.not_lt.1 q2]
    refine acall_by cN hp ?_
    rintro _ ⟨f', rfl⟩
    have cO' := cO2 f'
    have hp' := hp2 f'
    rw [hn] at cO' hp' ⊢
    rw [fld_op_av, fld_sh_av] at cO' hp'
    simp only [fld_sh_av]
    simp (maxSteps := 2000000) [cells_g3, cells_zsl, cells_in, wr, zsl, -cellsOf]
    refine acall_by cO' hp' ?_
    rintro _ rfl
    simp (maxSteps := 2000000) [he, f3, q0b, f3, eq_true q0, q2, Int.not_lt.1 q2]
    refine acall_by cLive (by simp) ?_
    rintro _ rfl
    simp [q0b, f3]
    exact hK _
  by_cases q3 : s.turn sh + s.cols + 1 ≤ 4096
  case neg =>
    have he : opE s (oRow 1 sh x xn xc y) = 6 := by rw [hE, if_neg (by omega)]
    have hn := hnx (.inl (by rw [he]; decide))
    simp (maxSteps := 2000000) [k0, k0', k1, k1', k2, er, et, wa, wb, he, eq_true q0, q2, Int.not_le.2 q2, q3, Int.not_le.1 q3]
    refine acall_by cN hp ?_
    rintro _ ⟨f', rfl⟩
    have cO' := cO2 f'
    have hp' := hp2 f'
    rw [hn] at cO' hp' ⊢
    rw [fld_op_av, fld_sh_av] at cO' hp'
    simp only [fld_sh_av]
    simp (maxSteps := 2000000) [cells_g3, cells_zsl, cells_in, wr, zsl, -cellsOf]
    refine acall_by cO' hp' ?_
    rintro _ rfl
    simp (maxSteps := 2000000) [he, f3, q0b, f3, eq_true q0, q2, Int.not_le.2 q2, q3, Int.not_le.1 q3]
    refine acall_by cLive (by simp) ?_
    rintro _ rfl
    simp [q0b, f3]
    exact hK _
  have he : opE s (oRow 1 sh x xn xc y) = 0 := by rw [hE, if_pos ⟨q2, q3⟩]
  have hv := hval he
  have hf := hf0 he
  simp (maxSteps := 2000000) [k0, k0', k1, k1', k2, er, et, wa, wb, he, eq_true q0, q2, Int.not_le.2 q2, q3, Int.not_lt.2 q3]
  refine acall_by cN hp ?_
  rintro _ ⟨f', rfl⟩
  have cO' := cO2 f'
  have hp' := hp2 f'
  obtain ⟨_, _, htt⟩ := htn he
  obtain ⟨m2, mc, mr, mt⟩ := turn_may hm htt
  have v1 : (nextS s (oRow 1 sh x xn xc y)).row sh = s.row sh + 1 := by rw [hv]; unfold ShV.row; rw [getD_set _ _ _ _ k0, if_pos rfl]
  generalize nextS s (oRow 1 sh x xn xc y) = t at *
  have u0 : sh.toNat < t.rows.length := by omega
  have u0' : sh < t.rows.length := by omega
  have eu : t.rows[sh.toNat] = s.row sh + 1 := by rw [← v1]; unfold ShV.row; simp [u0]
  rw [fld_op_av, fld_sh_av] at cO' hp'
  simp only [fld_sh_av]
  simp (maxSteps := 2000000) [cells_g3, cells_zsl, cells_in, wr, zsl, -cellsOf]
  refine acall_by cO' hp' ?_
  rintro _ rfl
  have wr1 : IntKind.i64.wrap (s.row sh + 1) = s.row sh + 1 := w64 _ (by omega) (by omega)
  have wc2 : IntKind.i64.wrap (2 * s.cols) = 2 * s.cols := w64 _ (by omega) (by omega)
  have wc3 : IntKind.i64.wrap (s.turn sh + 2 * s.cols) = s.turn sh + 2 * s.cols := w64 _ (by omega) (by omega)
  have wc4 : IntKind.i64.wrap (s.turn sh + 2 * s.cols + 2) = s.turn sh + 2 * s.cols + 2 := w64 _ (by omega) (by omega)
  simp (maxSteps := 2000000) [he]
  refine draw_at [1, 1, 1, 1, 1, 1, 0, 0, 1, 1, 0, 1, 1, 1, 1, 0, 1, 1, 0, 0, 0, 0, 0, 0, 1, 1, 0, 1, 1, 1, 1, 0, 0, 0, 0, 0, 0, 0, 3, 0, 0] (by kernel_rfl) (by kernel_rfl) ?_
  by_cases q4 : s.turn sh + 2 * s.cols + 2 ≤ 4096
  · have q5 := hf.2 q4
    simp (maxSteps := 2000000) [k0, k0', k1, k1', k2, er, et, wa, wb, he, q5, q4, u0, u0', eu, eq_true mr, wr1, wc2, wc3, wc4]
    refine acall_by cLive (by simp) ?_
    rintro _ rfl
    simp
    exact hK _
  · have q5 : ¬ opE t (oRow 2 sh x xn xc y) = 0 := fun h => q4 (hf.1 h)
    simp (maxSteps := 2000000) [k0, k0', k1, k1', k2, er, et, wa, wb, he, q5, q4, u0, u0', eu, eq_true mr, wr1, wc2, wc3, wc4]
    refine acall_by cLive (by simp) ?_
    rintro _ rfl
    simp [q5]
    exact hK _
end Go.Proofs.Nt
/- The law CheckMerges. -/
set_option linter.unusedVariables false
set_option maxRecDepth 20000
set_option linter.unusedSimpArgs false
set_option linter.unnecessarySimpa false
namespace Go.Proofs.Nt
open Go Go.Proofs Go.Proofs.Va Go.RowKit

def oMg (a b : Int) : OpV := ⟨4, a, b, [], true, some 0, 0, 0, 0, [], true, some 0, ⟨#[]⟩⟩
theorem fit_oMg (a b : Int) : (oMg a b).fit :=
  ⟨(by intro z hz; cases hz), by show (0 : Nat) < _; decide, by show (0 : Nat) < _; decide, by show (0 : Nat) < _; decide, by show (0 : Nat) ≤ _; decide, by show (0 : Nat) ≤ _; decide, by show (0 : Nat) ≤ 100000; decide⟩
theorem opE_mg {s : ShV} {a b : Int} (hm : s.may = true) : opE s (oMg a b) = if s.has a = false ∨ s.has b = false ∨ b = a then 1 else if 200 < s.row a + s.row b ∨ 4096 < max (s.turn a) (s.turn b) + sizeI s.cols then 6 else 0 := by
  by_cases ha : s.has a = true
  case neg =>
    have ha' := Bool.eq_false_iff.2 ha
    rw [if_pos (.inl ha')]
    exact opE_bad (.inr (.inr (.inr ⟨by show (4 : Int) ≤ 6; decide, ha'⟩)))
  have hn : ¬ badO s (oMg a b) := by
    rintro (h | h | h | h)
    · rw [hm] at h; cases h
    · exact absurd (show (4 : Int) < 1 from h) (by decide)
    · exact absurd (show (8 : Int) < 4 from h) (by decide)
    · have : s.has a = false := h.2; rw [ha] at this; cases this
  rw [opE_ok hn]
  show bothE s (oMg a b) = _
  unfold bothE
  show (if s.has b = false ∨ b = a then (1 : Int) else if 200 < s.row a + s.row b then 6 else roomE (max (s.turn a) (s.turn b)) (sizeI s.cols)) = _
  by_cases h : s.has b = false ∨ b = a
  · rw [if_pos h, if_pos (.inr h)]
  · have hcond : ¬ (s.has a = false ∨ s.has b = false ∨ b = a) := by
      rintro (h' | h')
      · rw [ha] at h'; cases h'
      · exact h h'
    rw [if_neg h, if_neg hcond]
    unfold roomE
    by_cases h1 : 200 < s.row a + s.row b
    · rw [if_pos h1, if_pos (.inl h1)]
    · rw [if_neg h1]
      by_cases h2 : 4096 < max (s.turn a) (s.turn b) + sizeI s.cols
      · rw [if_pos h2, if_pos (.inr h2)]
      · rw [if_neg h2, if_neg (fun h => h.elim h1 h2)]
theorem mg_bad {s : ShV} {a b : Int} (hm : s.may = true) (h : a < 0 ∨ b < 0 ∨ (s.rows.length : Int) ≤ a ∨ (s.rows.length : Int) ≤ b ∨ a = b) : opE s (oMg a b) = 1 ∧ opE s (oMg b a) = 1 := by
  have key : (s.has a = false ∨ s.has b = false) ∨ a = b := by
    by_cases e : a = b
    · exact .inr e
    · left
      by_cases h1 : s.has a = true
      · right
        rw [Bool.eq_false_iff]
        intro h2
        have := has_iff.1 h1
        have := has_iff.1 h2
        omega
      · exact .inl (Bool.eq_false_iff.2 h1)
  rw [opE_mg hm, opE_mg hm]
  rcases key with (h | h) | h
  · rw [if_pos (.inl h), if_pos (.inr (.inl h))]; exact ⟨rfl, rfl⟩
  · rw [if_pos (.inr (.inl h)), if_pos (.inl h)]; exact ⟨rfl, rfl⟩
  · rw [if_pos (.inr (.inr h.symm)), if_pos (.inr (.inr h))]; exact ⟨rfl, rfl⟩
theorem mg_same {s : ShV} {a b : Int} (hm : s.may = true) (ha : s.has a = true) (hb : s.has b = true) (hd : a ≠ b) : opE s (oMg a b) = opE s (oMg b a) ∧ (opE s (oMg a b) ≠ 0 → opE s (oMg a b) = 6) := by
  have n : ∀ {p q : Int}, s.has p = true → s.has q = true → q ≠ p → ¬ (s.has p = false ∨ s.has q = false ∨ q = p) := by
    intro p q hp hq hd h
    rcases h with h | h | h
    · rw [hp] at h; cases h
    · rw [hq] at h; cases h
    · exact hd h
  rw [opE_mg hm, opE_mg hm, if_neg (n ha hb hd.symm), if_neg (n hb ha hd)]
  rw [Int.add_comm (s.row b), Int.max_comm (s.turn b)]
  refine ⟨rfl, fun h => ?_⟩
  split
  · rfl
  · rename_i h'; rw [if_neg h'] at h; exact absurd rfl h
theorem mg_next {s : ShV} {a b : Int} (h0 : opE s (oMg a b) = 0) : nextS s (oMg a b) = ⟨s.cols, (s.rows.set a.toNat (s.row a + s.row b)).set b.toNat 0, (s.turns.set a.toNat (max (s.turn a) (s.turn b) + sizeI s.cols)).set b.toNat 0⟩ := by
  unfold nextS
  rw [if_neg (by rintro (e | e | e | e); exact e h0; exact absurd (show (4 : Int) = 5 from e) (by decide); exact absurd (show (4 : Int) = 7 from e) (by decide); exact absurd (show (4 : Int) = 8 from e) (by decide)),
    if_neg (by show ¬ (4 : Int) = 1; decide), if_neg (by show ¬ (4 : Int) = 2; decide), if_neg (by show ¬ (4 : Int) = 3; decide), if_pos (by rfl)]
  rfl

set_option maxHeartbeats 2000000 in
theorem lawmerges_ctr (hc : CodeOk) (s : ShV) (f : Fg) (a b : Int) : Ctr Tryd.prog 5 [s.av f, i a, i b] (fun r => r = bo true) := by
  refine ctr_val Tryd.func5 rfl (by kernel_rfl) rfl (by simp) fun K hK => ?_
  have cLive := clive_ctr hc
  have hp1 := pu_av _ (pu_sh s f)
  have cS := shsmall_ctr s f
  have cM := shmay_ctr s f
  have cO := cop_ctr hc s f _ (fit_oMg a b)
  have cP := cop_ctr hc s f _ (fit_oMg b a)
  have cN := cnext_ctr hc s f _ (fit_oMg a b)
  have hpo := pu_shop s f (oMg a b)
  have hpp := pu_shop s f (oMg b a)
  rw [fld_op_av] at cO cP cN hpo hpp
  rw [fld_sh_av] at *
  simp [Tryd.f5, cells_g3, -cellsOf]
  refine acall_by cS hp1 ?_
  rintro _ rfl
  cases hs : s.small
  · simp
    refine acall_by cLive (by simp) ?_
    rintro _ rfl
    simp
    exact hK _
  simp
  refine acall_by cM hp1 ?_
  rintro _ rfl
  cases hm : s.may
  · simp
    refine acall_by cLive (by simp) ?_
    rintro _ rfl
    simp
    exact hK _
  have hln := sh_len hm
  simp [opZ, zsl]
  refine acall_by cO hpo ?_
  rintro _ rfl
  simp
  by_cases h0 : 0 ≤ a
  case neg =>
    obtain ⟨e1, e2⟩ := mg_bad (a := a) (b := b) hm (.inl (by omega))
    simp [h0, Int.not_le.1 h0, e1]
    refine acall_by cP hpp ?_
    rintro _ rfl
    simp [e1, e2]
    refine acall_by cLive (by simp) ?_
    rintro _ rfl
    simp
    exact hK _
  by_cases h1 : 0 ≤ b
  case neg =>
    obtain ⟨e1, e2⟩ := mg_bad (a := a) (b := b) hm (.inr (.inl (by omega)))
    simp [h0, Int.not_lt.2 h0, h1, Int.not_le.1 h1, e1]
    refine acall_by cP hpp ?_
    rintro _ rfl
    simp [e1, e2]
    refine acall_by cLive (by simp) ?_
    rintro _ rfl
    simp
    exact hK _
  by_cases h2 : a < s.rows.length
  case neg =>
    obtain ⟨e1, e2⟩ := mg_bad (a := a) (b := b) hm (.inr (.inr (.inl (by omega))))
    simp [h0, Int.not_lt.2 h0, h1, Int.not_lt.2 h1, h2, Int.not_lt.1 h2, e1]
    refine acall_by cP hpp ?_
    rintro _ rfl
    simp [e1, e2]
    refine acall_by cLive (by simp) ?_
    rintro _ rfl
    simp
    exact hK _
  by_cases h3 : b < s.rows.length
  case neg =>
    obtain ⟨e1, e2⟩ := mg_bad (a := a) (b := b) hm (.inr (.inr (.inr (.inl (by omega)))))
    simp [h0, Int.not_lt.2 h0, h1, Int.not_lt.2 h1, h2, Int.not_le.2 h2, h3, Int.not_lt.1 h3, e1]
    refine acall_by cP hpp ?_
    rintro _ rfl
    simp [e1, e2]
    refine acall_by cLive (by simp) ?_
    rintro _ rfl
    simp
    exact hK _
  by_cases h4 : a = b
  case pos =>
    obtain ⟨e1, e2⟩ := mg_bad (a := a) (b := b) hm (.inr (.inr (.inr (.inr h4))))
    simp [h0, Int.not_lt.2 h0, h1, Int.not_lt.2 h1, h2, Int.not_le.2 h2, h3, Int.not_le.2 h3, eq_true h4, e1]
    refine acall_by cP hpp ?_
    rintro _ rfl
    simp [e1, e2]
    refine acall_by cLive (by simp) ?_
    rintro _ rfl
    simp
    exact hK _
  have ha : s.has a = true := has_iff.2 ⟨h0, h2⟩
  have hb : s.has b = true := has_iff.2 ⟨h1, h3⟩
  obtain ⟨hsm, hfl⟩ := mg_same hm ha hb h4
  have hcc := sh_cols hm
  have ra := sh_at hm ha
  have rb := sh_at hm hb
  have hne := next_len s (oMg a b)
  simp [h0, Int.not_lt.2 h0, h1, Int.not_lt.2 h1, h2, Int.not_le.2 h2, h3, Int.not_le.2 h3, h4]
  refine acall_by cN hpo ?_
  rintro _ ⟨f', rfl⟩
  simp only [fld_sh_av]
  simp [cells_g3, cells_zsl, cells_in, wr, zsl, -cellsOf]
  refine acall_by cP hpp ?_
  rintro _ rfl
  rw [← hsm]
  by_cases he : opE s (oMg a b) = 0
  case neg =>
    have he' := hfl he
    simp [he', eq_true hne.1, eq_true (hne.2.trans hln.2.2), hln.2.2]
    refine acall_by cLive (by simp) ?_
    rintro _ rfl
    simp
    exact hK _
  have hv := mg_next he
  have ka : a.toNat < s.rows.length := by omega
  have kb : b.toNat < s.rows.length := by omega
  have kab : ¬ b.toNat = a.toNat := by omega
  have v1 : (nextS s (oMg a b)).row b = 0 := by rw [hv]; unfold ShV.row; rw [getD_set _ _ _ _ (by simp; omega), if_pos rfl]
  have v2 : (nextS s (oMg a b)).turn b = 0 := by rw [hv]; unfold ShV.turn; rw [getD_set _ _ _ _ (by simp; omega), if_pos rfl]
  have v3 : (nextS s (oMg a b)).row a = s.row a + s.row b := by rw [hv]; unfold ShV.row; rw [getD_set _ _ _ _ (by simp; omega), if_neg kab, getD_set _ _ _ _ (by omega), if_pos rfl]
  have v4 : (nextS s (oMg a b)).turn a = max (s.turn a) (s.turn b) + sizeI s.cols := by rw [hv]; unfold ShV.turn; rw [getD_set _ _ _ _ (by simp; omega), if_neg kab, getD_set _ _ _ _ (by omega), if_pos rfl]
  clear hv
  generalize nextS s (oMg a b) = t at *
  have ka2 : a.toNat < s.turns.length := by omega
  have kb2 : b.toNat < s.turns.length := by omega
  have ka2' : a < s.turns.length := by omega
  have kb2' : b < s.turns.length := by omega
  have ua : a.toNat < t.rows.length := by omega
  have ub : b.toNat < t.rows.length := by omega
  have ua' : a < t.rows.length := by omega
  have ub' : b < t.rows.length := by omega
  have ua2 : a.toNat < t.turns.length := by omega
  have ub2 : b.toNat < t.turns.length := by omega
  have ua2' : a < t.turns.length := by omega
  have ub2' : b < t.turns.length := by omega
  have e1 : s.rows[a.toNat] = s.row a := by unfold ShV.row; simp [ka]
  have e2 : s.rows[b.toNat] = s.row b := by unfold ShV.row; simp [kb]
  have e3 : s.turns[a.toNat] = s.turn a := by unfold ShV.turn; simp [ka2]
  have e4 : s.turns[b.toNat] = s.turn b := by unfold ShV.turn; simp [kb2]
  have e5 : t.rows[a.toNat] = s.row a + s.row b := by rw [← v3]; unfold ShV.row; simp [ua]
  have e6 : t.rows[b.toNat] = 0 := by rw [← v1]; unfold ShV.row; simp [ub]
  have e7 : t.turns[a.toNat] = max (s.turn a) (s.turn b) + sizeI s.cols := by rw [← v4]; unfold ShV.turn; simp [ua2]
  have e8 : t.turns[b.toNat] = 0 := by rw [← v2]; unfold ShV.turn; simp [ub2]
  have cC := rcost_ctr s.cols
  have hz : 0 ≤ sizeI s.cols ∧ sizeI s.cols ≤ 100 := by
    have := sizeI_rng s.cols
    omega
  have wa : IntKind.i64.wrap (s.row a + s.row b) = s.row a + s.row b := w64 _ (by omega) (by omega)
  have wb : IntKind.i64.wrap (max (s.turn a) (s.turn b) + sizeI s.cols) = max (s.turn a) (s.turn b) + sizeI s.cols := w64 _ (by omega) (by omega)
  have wm : IntKind.i64.wrap ((if s.turn a < s.turn b then s.turn b else s.turn a) + sizeI s.cols) = max (s.turn a) (s.turn b) + sizeI s.cols := by
    rw [← wb]
    congr 2
    split <;> omega
  simp [he, eq_true hne.1, eq_true (hne.2.trans hln.2.2), hln.2.2]
  refine draw_at [1, 1, 0, 1, 1, 0, 0, 1, 1, 0, 1, 1, 0, 0, 0, 1, 1, 0, 1, 1, 1, 1, 0, 1, 1, 1, 1, 0, 1, 1, 0, 0, 0, 0, 1, 1, 0, 1, 1, 1, 1, 0, 1, 1, 1, 1, 0, 1, 1, 1, 1, 1, 3, 0, 0, 0, 0, 3, 0, 0] (by kernel_rfl) (by kernel_rfl) ?_
  simp (maxSteps := 2000000) [h0, h1, h2, h3, ka, kb, ka2, kb2, ka2', kb2', ua, ub, ua', ub', ua2, ub2, ua2', ub2', e1, e2, e3, e4, e5, e6, e7, e8, wa, wb]
  refine acall_by cC (by simp) ?_
  rintro _ rfl
  simp (maxSteps := 2000000) [h0, h1, h2, h3, ka, kb, ka2, kb2, ka2', kb2', ua, ub, ua', ub', ua2, ub2, ua2', ub2', e1, e2, e3, e4, e5, e6, e7, e8, wa, wb, wm]
  refine acall_by cLive (by simp) ?_
  rintro _ rfl
  simp
  exact hK _
end Go.Proofs.Nt
/- Lists that are appended to, many at a time; the law CheckParts. -/
set_option linter.unusedVariables false
set_option maxRecDepth 20000
set_option linter.unusedSimpArgs false
set_option linter.unnecessarySimpa false
namespace Go.Proofs.Nt
open Go Go.Proofs Go.Proofs.Va Go.RowKit

/-- An own list, of whatever room. -/
def OC (σ : AHeap) (k : Nat) (r : AV) (cs : List AV) (n : Nat) : Prop := ∃ j v cap b, r = .so j v 0 n 1 cap ∧ k ≤ j ∧ σ[j]? = some ⟨.own, v, b⟩ ∧ b.take n = cs ∧ cs.length = n
theorem append_oc {P : Program} {t e : TypeId} {E : ElT} {k n m : Nat} {σ : AHeap} {r : AV} {cs ys : List AV} {nl : Bool} {c2 : Option Nat} {K : AV → AHeap → Prop} (hT : elT P t = some (e, E)) (hS : srcT P t = some false) (hz : E.sz = 1) (h : OC σ k r cs n) (hl : (n + m) * (E.bytes + 1) ≤ 140737488355328) (hy : ys.length = m) (h0 : k ≤ σ.length)
    (hK : ∀ r' σ', OC σ' k r' (cs ++ ys) (n + m) → σ.length ≤ σ'.length → (∀ a, a < k → σ'[a]? = σ[a]?) → K r' σ') : aAppend P t t r (.pl nl ys m c2) σ K := by
  obtain ⟨j, v, cap, b, rfl, hk, hj, hc, hn⟩ := h
  have hlt := (List.getElem?_eq_some_iff.1 hj).1
  have hb : n ≤ b.length := by
    have := congrArg List.length hc
    rw [List.length_take, hn] at this
    omega
  have hsrc : srcC E.sz false σ (.pl nl ys m c2) = some (ys, m) := by
    show (if false = false ∧ ys.length = m * E.sz then some (ys, m) else none) = _
    rw [if_pos ⟨rfl, by rw [hz, hy, Nat.mul_one]⟩]
  have htk : (b.drop 0).take (n * 1) = cs := by rw [List.drop_zero, Nat.mul_one]; exact hc
  have hcl : (cs ++ ys).length = n + m := by rw [List.length_append, hn, hy]
  have inp : K (.so j (v + 1) 0 (n + m) 1 none) (σ.set j ⟨.own, v + 1, cs ++ ys⟩) :=
    hK _ _ ⟨j, v + 1, none, cs ++ ys, rfl, hk, by rw [List.getElem?_set_self hlt], List.take_of_length_le (by rw [hcl]; exact Nat.le_refl _), hcl⟩ (by simp) (fun a ha => by rw [List.getElem?_set_ne (by omega)])
  unfold aAppend
  rw [hT, hS]
  rw [hz] at hsrc
  simp only [hz]
  simp only [hsrc, hj, htk]
  refine ⟨by simp, by simp, by simp, trivial, by omega, hl, ?_⟩
  cases cap with
  | none => exact ⟨trivial, inp⟩
  | some c =>
    simp only
    refine ite_and.2 ⟨fun _ => ⟨trivial, inp⟩, fun _ c' hc' => ?_⟩
    refine hK _ _ ⟨σ.length, 0, some c', _, rfl, h0, by rw [List.getElem?_append_right (Nat.le_refl _), Nat.sub_self]; rfl, ?_, hcl⟩ (by simp) (fun a ha => by rw [List.getElem?_append_left (by omega)])
    rw [List.take_append_of_le_length (by rw [hcl]; exact Nat.le_refl _), List.take_of_length_le (by rw [hcl]; exact Nat.le_refl _)]
theorem OC.pur {σ : AHeap} {k : Nat} {r : AV} {cs : List AV} {n : Nat} (h : OC σ k r cs n) (hp : ∀ x ∈ cs, Pu x) : ∃ j cap, k ≤ j ∧ j < σ.length ∧ Pur σ (· ∈ [j]) r (.pl false cs n cap) := by
  obtain ⟨j, v, cap, b, rfl, hk, hj, hc, hn⟩ := h
  exact ⟨j, cap, hk, (List.getElem?_eq_some_iff.1 hj).1, pur_so hj (by simp) (by rw [Nat.mul_one]; exact hc) (by rw [Nat.mul_one]; exact hn) (by simp) hp⟩

/-! ### The law -/
theorem opcs_take {l : List OpV} {k : Nat} (h : k ≤ l.length) : (opcs l).take (k * 9) = opcs (l.take k) := by
  have e : opcs l = opcs (l.take k) ++ opcs (l.drop k) := by
    show l.flatMap _ = (l.take k).flatMap _ ++ (l.drop k).flatMap _
    rw [← List.flatMap_append, List.take_append_drop]
  have hl : (opcs (l.take k)).length = k * 9 := by rw [opcs_len, List.length_take]; omega
  rw [e, ← hl, List.take_left]
theorem opcs_drop {l : List OpV} {k : Nat} (h : k ≤ l.length) : (opcs l).drop (k * 9) = opcs (l.drop k) := by
  have e : opcs l = opcs (l.take k) ++ opcs (l.drop k) := by
    show l.flatMap _ = (l.take k).flatMap _ ++ (l.drop k).flatMap _
    rw [← List.flatMap_append, List.take_append_drop]
  have hl : (opcs (l.take k)).length = k * 9 := by rw [opcs_len, List.length_take]; omega
  rw [e, ← hl, List.drop_left]
theorem opsl_sub {l m : List OpV} {nl : Bool} {c : Option Nat} {n : Nat} (h : l.length = 0 → m.length = 0) (hn : n = m.length) : AV.pl (nl && l.isEmpty) (opcs m) n c = opsl (nl && l.isEmpty) m c := by
  subst hn
  unfold opsl
  have : ((nl && l.isEmpty) && m.isEmpty) = (nl && l.isEmpty) := by
    cases l with
    | nil =>
      have := List.eq_nil_of_length_eq_zero (h rfl)
      subst this
      simp
    | cons x l => simp
  rw [this]
theorem run_succ {s : ShV} {l : List OpV} {g : Nat} (h : g < l.length) : runS s l [] (g + 1) = nextS (runS s l [] g) l[g] := by
  simp only [runS]
  rw [if_pos (by rfl), show l.getD g opD = l[g] by simp [h]]

theorem ofew30 (l : List OpV) (nl : Bool) (cap : Option Nat) : Ctr Tryd.prog 8 [opsl nl l cap, i 30] (fun r => r = bo (fewO l 30)) := by
  by_cases hl : l.length ≤ 1000000
  · exact ofew_ctr l nl cap 30 hl
  refine ctr_val Tryd.func8 rfl (by kernel_rfl) rfl (by simp) fun K hK => ?_
  have h0 : 30 < l.length := by omega
  have : fewO l 30 = false := by unfold fewO; rw [decide_eq_false (by omega)]; rfl
  rw [this] at hK
  simp [Tryd.f8, opsl, h0]
  exact hK _
set_option maxHeartbeats 2000000 in
theorem lawparts_ctr (hc : CodeOk) (s : ShV) (f : Fg) (l : List OpV) (ln : Bool) (lc : Option Nat) (k : Int) (hw : ∀ o ∈ l, o.wf) : Ctr Tryd.prog 6 [s.av f, opsl ln l lc, i k] (fun r => r = bo true) := by
  refine ctr_val Tryd.func6 rfl (by kernel_rfl) rfl (by simp) fun K hK => ?_
  have cLive := clive_ctr hc
  have hp1 := pu_av _ (pu_sh s f)
  have cS := shsmall_ctr s f
  have cF := ofew30 l ln lc
  have hpF : ∀ x ∈ [opsl ln l lc, i 30], Pu x := by
    intro x hx
    simp only [List.mem_cons, List.not_mem_nil, or_false] at hx
    rcases hx with rfl | rfl
    · exact .pl ..
    · simp
  rw [fld_sh_av] at *
  simp [Tryd.f6, cells_g3, -cellsOf]
  refine acall_by cS hp1 ?_
  rintro _ rfl
  cases hs : s.small
  · simp
    refine acall_by cLive (by simp) ?_
    rintro _ rfl
    simp
    exact hK _
  simp
  refine acall_by cF hpF ?_
  rintro _ rfl
  cases hf : fewO l 30
  · simp
    refine acall_by cLive (by simp) ?_
    rintro _ rfl
    simp
    exact hK _
  by_cases h0 : 0 ≤ k
  case neg =>
    simp [h0, Int.not_le.1 h0]
    refine acall_by cLive (by simp) ?_
    rintro _ rfl
    simp
    exact hK _
  obtain ⟨k, rfl⟩ : ∃ n : Nat, k = n := ⟨k.toNat, by omega⟩
  by_cases h1 : k ≤ l.length
  case neg =>
    simp [h1, Nat.lt_of_not_le h1, opsl]
    refine acall_by cLive (by simp) ?_
    rintro _ rfl
    simp
    exact hK _
  have h1' : ¬ l.length < k := by omega
  have hfl : l.length ≤ 30 := by
    unfold fewO at hf
    rw [Bool.and_eq_true] at hf
    have := of_decide_eq_true hf.1
    omega
  have hof : ∀ o ∈ l, o.fit := fun o ho => by
    unfold fewO at hf
    rw [Bool.and_eq_true] at hf
    exact fit_of (hw o ho) (List.all_eq_true.1 hf.2 o ho)
  simp [h1, h1', opsl, cells_g3, -cellsOf]
  refine loop_on (γ := Nat × Fg × AHeap) 96 (fun g => [(1, opsl ln l lc), (2, i k), (3, .po 0 0 0), (7, .po 1 0 0), (8, i g.1)]) (fun g => g.2.2)
    (fun g => g.1 ≤ k ∧ 2 ≤ g.2.2.length ∧ g.2.2[0]? = some ⟨.own, 0, [i s.cols, zsl f.rn s.rows f.rc, zsl f.tn s.turns f.tc]⟩ ∧ g.2.2[1]? = some ⟨.own, 0, [i (runS s l [] g.1).cols, zsl g.2.1.rn (runS s l [] g.1).rows g.2.1.rc, zsl g.2.1.tn (runS s l [] g.1).turns g.2.1.tc]⟩) (fun g => k - g.1)
    (0, f, _) ⟨Nat.zero_le _, by simp, rfl, rfl⟩ (Wk.lst (by simp [opsl]) (by simp)) ?_
  rintro ⟨g, f', σ⟩ ⟨hg, hσ, s0, s1⟩ L hL
  simp only at hg hσ s0 s1
  have h0lt : 0 < σ.length := by omega
  have h1lt : 1 < σ.length := by omega
  by_cases hlt : g < k
  · have hlt2 : g < l.length := by omega
    have hw1 : IntKind.i64.wrap ((g : Int) + 1) = ((g + 1 : Nat) : Int) := w64 _ (by omega) (by omega)
    have hnext := fun f2 σ' => hL (g + 1, f2, σ')
    simp only [run_succ hlt2] at hnext
    have cN := cnext_ctr hc (runS s l [] g) f' l[g] (hof _ (List.getElem_mem hlt2))
    have hp := pu_shop (runS s l [] g) f' l[g]
    have rO := op_read hlt2
    have oa : g * 9 + 9 ≤ (opcs l).length := by rw [opcs_len]; omega
    have oa2 : g * 9 < (opcs l).length := by omega
    generalize runS s l [] g = t at *
    generalize l[g] = q at *
    simp [hlt, opsl, -getElem?_pos]
    refine draw_at [1, 0, 0, 1, 1, 3, 4] (by kernel_rfl) (by kernel_rfl) ?_
    simp [hlt2, h1lt, s1, oa, oa2, rO, -getElem?_pos, List.getElem?_cons_zero, List.getElem?_cons_succ]
    refine acall_by cN hp ?_
    rintro _ ⟨f2, rfl⟩
    simp [fld_sh_av, cells_g3, s1, wr, hw1, -cellsOf, -Int.natCast_add, -getElem?_pos, List.getElem?_cons_zero, List.getElem?_cons_succ]
    exact hnext f2 _ _ _ ⟨by omega, by simp; omega, by rw [List.getElem?_set_ne (by omega)]; exact s0, by rw [List.getElem?_set_self (by omega)]; rfl⟩ (Wk.lst (by simp [opsl]) (by simp)) (by show _ - (g + 1) < _ - g; omega)
  · have hge : g = k := by omega
    subst hge
    clear hL
    simp [opsl]
    refine draw_at [1, 0, 0, 1, 3, 0] (by kernel_rfl) (by kernel_rfl) ?_
    simp [h0lt, s0, h1, opcs_take h1, -getElem?_pos, List.getElem?_cons_zero, List.getElem?_cons_succ]
    have hT0 : (l.take g).length = g := by rw [List.length_take]; omega
    have hD0 : (l.drop g).length = l.length - g := by rw [List.length_drop]
    have e1 : AV.pl (ln && l.isEmpty) (opcs (l.take g)) g lc = opsl (ln && l.isEmpty) (l.take g) lc := opsl_sub (by intro h; rw [hT0]; omega) hT0.symm
    have hT := table_ctr hc s f (l.take g) (ln && l.isEmpty) lc [] true (some 0) (by omega) (by decide) (fun o ho => hof o (List.mem_of_mem_take ho))
    have hpa : ∀ (t : ShV) (f : Fg) (m : List OpV) (a : Bool) (c : Option Nat), ∀ x ∈ [t.av f, opsl a m c, bsl true [] (some 0)], Pu x := by
      intro t f m a c x hx
      simp only [List.mem_cons, List.not_mem_nil, or_false] at hx
      rcases hx with rfl | rfl | rfl
      · exact pu_sh _ _
      · exact .pl ..
      · exact .pl ..
    rw [e1]
    refine acall_by hT (hpa s f _ _ _) ?_
    rintro _ ⟨n1, c1, rfl⟩
    simp
    refine draw_at [1, 0, 0, 1, 3, 0] (by kernel_rfl) (by kernel_rfl) ?_
    simp [h1lt, s1, h1, opcs_drop h1, -getElem?_pos, List.getElem?_cons_zero, List.getElem?_cons_succ]
    have hT2 : List.take ((l.length - g) * 9) (opcs (l.drop g)) = opcs (l.drop g) := List.take_of_length_le (by rw [opcs_len, hD0]; exact Nat.le_refl _)
    rw [hT2, opsl_sub (by intro h; rw [hD0]; omega) hD0.symm]
    have hT := table_ctr hc (runS s l [] g) f' (l.drop g) (ln && l.isEmpty) (Option.map (fun x => x - g) lc) [] true (some 0) (by omega) (by decide) (fun o ho => hof o (List.mem_of_mem_drop ho))
    refine acall_by hT (hpa _ f' _ _ _) ?_
    rintro _ ⟨n2, c2, rfl⟩
    have hparts := tab_parts s l h1
    have l1 : (tabE s (l.take g) []).length = g := by rw [tab_len, hT0]
    have l2 : (tabE (runS s l [] g) (l.drop g) []).length = l.length - g := by rw [tab_len, hD0]
    generalize tabE (runS s l [] g) (l.drop g) [] = y2 at *
    generalize tabE s (l.take g) [] = y1 at *
    simp [-aAppend]
    generalize runS s l [] g = t at *
    have z1 : zsl n1 y1 c1 = .pl (n1 && y1.isEmpty) (y1.map i) y1.length c1 := rfl
    have z2 : zsl n2 y2 c2 = .pl (n2 && y2.isEmpty) (y2.map i) y2.length c2 := rfl
    rw [z1]
    refine append_oc (k := 2) (cs := []) (n := 0) (m := y1.length) elTEr srcErs rfl ⟨σ.length, 0, some 0, [], rfl, hσ, by simp, by simp, rfl⟩ (by show (0 + y1.length) * (8 + 1) ≤ _; omega) (by simp) (by simp; omega) fun r1 σ1 hO1 hl1' hk1 => ?_
    simp [-aAppend]
    rw [z2]
    refine append_oc (k := 2) (m := y2.length) elTEr srcErs rfl hO1 (by show (0 + y1.length + y2.length) * (8 + 1) ≤ _; omega) (by simp) (by simp at hl1'; omega) fun r2 σ2 hO2 hl2' hk2 => ?_
    simp
    obtain ⟨j, cp, hj2, hjl, hpj⟩ := hO2.pur (by
      intro x hx
      rcases List.mem_append.1 hx with h | h
      · obtain ⟨y, _, rfl⟩ := List.mem_map.1 (by simpa using h); simp
      · obtain ⟨y, _, rfl⟩ := List.mem_map.1 h; simp)
    refine aw_pureT [j] 11 _ hpj ?_
    have t0 : (froze σ2 [j])[0]? = some ⟨.own, 0, [i s.cols, zsl f.rn s.rows f.rc, zsl f.tn s.turns f.tc]⟩ := by
      rw [froze_ne (by simp; omega), hk2 0 (by omega), hk1 0 (by omega)]
      rw [List.getElem?_append_left h0lt]
      exact s0
    have t0lt : 0 < (froze σ2 [j]).length := (List.getElem?_eq_some_iff.1 t0).1
    generalize froze σ2 [j] = σ3 at *
    clear hO1 hO2 hpj hk1 hk2 hl1' hl2'
    refine draw_at [1, 0, 0, 1, 3, 3, 0] (by kernel_rfl) (by kernel_rfl) ?_
    simp [t0lt, t0, opsl, -getElem?_pos, List.getElem?_cons_zero, List.getElem?_cons_succ]
    have hR := table_ctr hc s f l ln lc (List.replicate l.length false) false (some l.length) (by omega) (by simp; omega) hof
    refine ⟨by omega, acall_froze [σ3.length] hR rfl (fun j hj => ?_) ?_⟩
    · have : j = 0 ∨ j = 1 ∨ j = 2 := by simp at hj; omega
      rcases this with rfl | rfl | rfl
      · exact .same _ (pu_sh s f)
      · exact .same _ (.pl ..)
      · have hcell : (σ3 ++ [(⟨.own, 0, List.replicate l.length (bo false)⟩ : ABlk)])[σ3.length]? = some ⟨.own, 0, List.replicate l.length (bo false)⟩ := by simp
        have e0 : (List.replicate l.length false).length = l.length := List.length_replicate
        have hx : Pur (σ3 ++ [(⟨.own, 0, List.replicate l.length (bo false)⟩ : ABlk)]) (· ∈ [σ3.length]) (.so σ3.length 0 0 l.length 1 (some l.length)) (.pl false (List.replicate l.length (bo false)) l.length (some l.length)) :=
          pur_so hcell (by simp) (by rw [Nat.mul_one]; exact List.take_of_length_le (by simp)) (by simp) (by simp) (by
            intro x hx
            rw [List.eq_of_mem_replicate hx]
            simp)
        have e1 : bsl false (List.replicate l.length false) (some l.length) = .pl false (List.replicate l.length (bo false)) l.length (some l.length) := by
          unfold bsl
          rw [e0, List.map_replicate]; rfl
        show Pur _ _ (.so σ3.length 0 0 l.length 1 (some l.length)) (bsl false (List.replicate l.length false) (some l.length))
        rw [e1]
        exact hx
    rintro _ ⟨n3, c3, rfl⟩
    have hlen := tab_len s l (List.replicate l.length false)
    have hget : ∀ j, j < l.length → (tabE s l (List.replicate l.length false)).getD j 0 = opE s (l.getD j opD) := fun j hj => by
      rw [tab_get hj, run_none (fun q hq => by simp [hq]) j (by omega)]
    generalize tabE s l (List.replicate l.length false) = y3 at *
    have t0' : (froze (σ3 ++ [⟨.own, 0, List.replicate l.length (bo false)⟩]) [σ3.length])[0]? = some ⟨.own, 0, [i s.cols, zsl f.rn s.rows f.rc, zsl f.tn s.turns f.tc]⟩ := by
      rw [froze_ne (by simp; omega), List.getElem?_append_left t0lt]; exact t0
    have hsame : Same σ3.length (σ3 ++ [⟨.own, 0, List.replicate l.length (bo false)⟩]) (froze (σ3 ++ [⟨.own, 0, List.replicate l.length (bo false)⟩]) [σ3.length]) :=
      ⟨by simp, by simp [froze_length], fun a ha => by rw [froze_ne (by simp; omega)]⟩
    refine ⟨hsame, ?_⟩
    have t4lt := (List.getElem?_eq_some_iff.1 t0').1
    have z3 : zsl n3 y3 c3 = .pl (n3 && y3.isEmpty) (y3.map i) y3.length c3 := rfl
    rw [z3]
    simp [hlen]
    refine loop_on (γ := Nat × AHeap) 96 (fun g => [(1, opsl ln l lc), (3, .po 0 0 0), (11, .pl false ([] ++ y1.map i ++ y2.map i) (0 + y1.length + y2.length) cp), (12, zsl n3 y3 c3), (13, i g.1)]) (fun g => g.2)
      (fun g => g.1 ≤ l.length ∧ 1 ≤ g.2.length ∧ g.2[0]? = some ⟨.own, 0, [i s.cols, zsl f.rn s.rows f.rc, zsl f.tn s.turns f.tc]⟩) (fun g => l.length - g.1)
      (0, _) ⟨Nat.zero_le _, t4lt, t0'⟩ (Wk.lst (by simp [opsl, z3, hlen]) (by simp)) ?_
    rintro ⟨q, σ⟩ ⟨hg, hσ, s0⟩ L hL
    simp only at hg hσ s0
    have h0lt : 0 < σ.length := by omega
    by_cases hlt : q < l.length
    · have hw1 : IntKind.i64.wrap ((q : Int) + 1) = ((q + 1 : Nat) : Int) := w64 _ (by omega) (by omega)
      have hnext := fun σ' => hL (q + 1, σ')
      have cO := cop_ctr hc s f l[q] (hof _ (List.getElem_mem hlt))
      have hp := pu_shop s f l[q]
      have rO := op_read hlt
      have oa : q * 9 + 9 ≤ (opcs l).length := by rw [opcs_len]; omega
      have oa2 : q * 9 < (opcs l).length := by omega
      have hge := hget q hlt
      have hq3 : q < y3.length := by omega
      have hq3' : y3[q]? = some (opE s l[q]) := by
        rw [List.getElem?_eq_getElem hq3]
        congr 1
        have : y3.getD q 0 = y3[q] := by simp [hq3]
        rw [← this, hge]
        simp [hlt]
      have hq4 : (y3.map i)[q]? = some (i (opE s l[q])) := by rw [List.getElem?_map, hq3']; rfl
      generalize l[q] = o at *
      simp [hlt, opsl, z3, -getElem?_pos]
      refine draw_at [0, 0, 1, 1, 1, 0, 0, 1, 1, 3, 0] (by kernel_rfl) (by kernel_rfl) ?_
      simp [hlt, hlen, h0lt, s0, oa, oa2, rO, hq4, -getElem?_pos, List.getElem?_cons_zero, List.getElem?_cons_succ, -List.getElem?_map]
      refine acall_by cO hp ?_
      rintro _ rfl
      simp [hw1, -Int.natCast_add]
      exact hnext _ _ _ ⟨by omega, hσ, s0⟩ (Wk.lst (by simp [opsl, z3, hlen]) (by simp)) (by show _ - (q + 1) < _ - q; omega)
    · have hge : q = l.length := by omega
      subst hge
      clear hL
      have hT := table_ctr hc s f l ln lc [] true (some 0) (by omega) (by decide) hof
      rw [hparts] at hT
      simp [h0lt, s0, opsl, -getElem?_pos, List.getElem?_cons_zero, List.getElem?_cons_succ]
      refine acall_by hT (hpa s f _ _ _) ?_
      rintro _ ⟨n6, c6, rfl⟩
      simp
      have cE := errnos_ctr (y1 ++ y2) (y1 ++ y2) n6 false c6 cp (by simp; omega) (by simp; omega)
      have e6 : zsl false (y1 ++ y2) cp = .pl false (y1.map i ++ y2.map i) (y1.length + y2.length) cp := by
        unfold zsl
        rw [List.map_append, List.length_append]; rfl
      rw [e6] at cE
      refine acall_by cE (by
        intro x hx
        simp only [List.mem_cons, List.not_mem_nil, or_false] at hx
        rcases hx with rfl | rfl
        · exact .pl ..
        · exact .pl ..) ?_
      rintro _ rfl
      simp
      refine acall_by cLive (by simp) ?_
      rintro _ rfl
      simp
      exact hK _
end Go.Proofs.Nt
