import Derived.Test.YtkmodieicfaohaaGreatWa
import Derived.Test.YtkmodieicfaohaaGreatWb
import Derived.Test.YtkmodieicfaohaaGreatWc
import Derived.Test.YtkmodieicfaohaaGreatWd
import Derived.Test.YtkmodieicfaohaaGreatWe
import Derived.Test.YtkmodieicfaohaaGreatWf
import Derived.Test.YtkmodieicfaohaaGreatWg
import Derived.Test.YtkmodieicfaohaaGreatWh
import Derived.Test.YtkmodieicfaohaaGreatWi
import Derived.Test.YtkmodieicfaohaaGreatWk
import Derived.Test.YtkmodieicfaohaaGreatWl
/- Books: the document's In, Out, New; LedgerTells. -/
set_option linter.unusedVariables false
set_option maxRecDepth 20000
set_option linter.unusedSimpArgs false
set_option linter.unnecessarySimpa false
namespace Go.Proofs.Nt
open Go Go.Proofs Go.Proofs.Va Go.RowKit

theorem rearly_cases (b : BV) (x : List Nat) (y : Nat) : (rearlyE b x y ≠ 0 ∧ inE b.c b.N.l b.I.l b.rows b.turns x y = rearlyE b x y ∧ outE b.c b.N.l b.I.l b.rows b.turns x y = rearlyE b x y) ∨
    (rearlyE b x y = 0 ∧ b.ok = true ∧ (x.length : Int) = b.c ∧ rangeOk x y = true ∧ inE b.c b.N.l b.I.l b.rows b.turns x y = (if b.rows + 1 > 200 ∨ b.turns + b.c + 1 > 4096 then 6 else 0) ∧ outE b.c b.N.l b.I.l b.rows b.turns x y = (if b.rows = 0 then 5 else if b.turns + b.c + 1 > 4096 then 6 else 0)) := by
  have hbo : b.ok = bookOk b.c b.N.l b.I.l b.rows b.turns := rfl
  unfold rearlyE inE outE
  rw [hbo]
  by_cases a0 : bookOk b.c b.N.l b.I.l b.rows b.turns = true
  · by_cases a1 : (x.length : Int) = b.c
    · by_cases a2 : rangeOk x y = true
      · right; simp only [if_pos a0, if_pos a1, if_pos a2]; exact ⟨trivial, a0, a1, a2, trivial, trivial⟩
      · left; simp only [if_pos a0, if_pos a1, if_neg a2]; exact ⟨by decide, trivial, trivial⟩
    · left; simp only [if_pos a0, if_neg a1]; exact ⟨by decide, trivial, trivial⟩
  · left; simp only [if_neg a0]; exact ⟨by decide, trivial, trivial⟩
set_option maxHeartbeats 1000000 in
theorem rlin_ctr (b : BV) (hb : b.fit) {H : Int} (hB : b.bnd H) (hH : 2048 ≤ H ∧ H ≤ 9500) (xn : Bool) (x : List Nat) (xc : Option Nat) (y : Nat) (hx : Fl x) (hy : y < 18446744073709551616) :
    Ctr Tryz.prog 10 [b.av, .agg [fsl xn x xc, fl y]] (toldB (inR b.c b.N.l b.I.l b.rows b.turns x y) (inE b.c b.N.l b.I.l b.rows b.turns x y)) := by
  refine ctr_in Tryz.func10 rfl (by kernel_rfl) rfl fun K hK => ?_
  have cE := rlearly_ctr b hb xn x xc y hx hy
  have hcs := rearly_cases b x y
  unfold inR at hK
  have pR : Pu (.agg [fsl xn x xc, .v (.float .f64 y)]) := pu_agg (by simp)
  have p2 : ∀ z ∈ [b.av, AV.agg [fsl xn x xc, .v (.float .f64 y)]], Pu z := by
    intro z hz
    simp only [List.mem_cons, List.not_mem_nil, or_false] at hz
    rcases hz with rfl | rfl
    · exact pu_bv _
    · exact pR
  simp [Tryz.f10, cells_bv, agg_bv, cells_g2, -cellsOf]
  refine acall_by cE p2 ?_
  rintro _ rfl
  rcases hcs with ⟨h0, h1, h2⟩ | ⟨h0, a0, a1, a2, h1, h2⟩
  · rw [h1] at hK
    rw [if_neg h0] at hK
    generalize rearlyE b x y = e at *
    simp [h0, cells_nil, cells_g5, cells_int, wr, -cellsOf]
    exact hK _ _ _ (.same _ (pz_told e)) (told_err e)
  rw [h0]
  rw [h1] at hK
  obtain ⟨n, hn, g1, g6, hxn, sN, sI, hq, hgl, mN, mI, oN, oI, hr, ht, hsz⟩ := ok_facts a0 a1 a2 hb.1 hb.2.1 hB.1 hB.2
  have w2 : IntKind.i64.wrap (b.turns + b.c) = b.turns + b.c := w64 _ (by omega) (by omega)
  have w3 : IntKind.i64.wrap (b.turns + b.c + 1) = b.turns + b.c + 1 := w64 _ (by omega) (by omega)
  have w1 : IntKind.i64.wrap (b.rows + 1) = b.rows + 1 := w64 _ (by omega) (by omega)
  by_cases b1 : 200 ≤ b.rows
  · have : b.rows + 1 > 200 ∨ b.turns + b.c + 1 > 4096 := .inl (by omega)
    rw [if_pos this, if_neg (by decide)] at hK
    simp [b1, cells_nil, cells_g5, cells_int, wr, -cellsOf]
    exact hK _ _ _ (.same _ (pz_told 6)) (told_err 6)
  by_cases b2 : 4096 < b.turns + b.c + 1
  · have : b.rows + 1 > 200 ∨ b.turns + b.c + 1 > 4096 := .inr (by omega)
    rw [if_pos this, if_neg (by decide)] at hK
    simp [b1, b2, w2, w3, cells_nil, cells_g5, cells_int, wr, -cellsOf]
    exact hK _ _ _ (.same _ (pz_told 6)) (told_err 6)
  have : ¬ (b.rows + 1 > 200 ∨ b.turns + b.c + 1 > 4096) := by omega
  rw [if_neg this, if_pos rfl] at hK
  have cR := rrow_ctr xn x xc y hx hy (by omega)
  unfold rowP at cR
  simp only [if_pos hq] at cR
  simp [b1, b2, w2, w3, cells_g5, cells_g2, -cellsOf]
  refine acall_by cR (pu_av1 pR) ?_
  rintro _ ⟨os, n2, c2, hos, rfl⟩
  obtain ⟨lo, mo⟩ := okl_us hos (okl_row x y) (by omega)
  have hol := us_len hos
  have cN := rgadd_ctr b.N.nl b.N.cap n2 c2 (a := b.N.l) (b := os) hb.2.2.1 hb.1 lo
  have cI := rgadd_ctr b.I.nl b.I.cap n2 c2 (a := b.I.l) (b := os) hb.2.2.2 hb.2.1 lo
  unfold joinR at cN cI
  simp only [if_pos (show b.N.l.length = os.length by omega), mN, mo] at cN
  simp only [if_pos (show b.I.l.length = os.length by omega), mI, mo] at cI
  simp
  refine acall_by cN (by intro z hz; simp only [List.mem_cons, List.not_mem_nil, or_false] at hz; rcases hz with rfl | rfl <;> exact .pl _ _ _ _) ?_
  rintro _ ⟨us, n3, c3, hus, rfl⟩
  simp
  refine acall_by cI (by intro z hz; simp only [List.mem_cons, List.not_mem_nil, or_false] at hz; rcases hz with rfl | rfl <;> exact .pl _ _ _ _) ?_
  rintro _ ⟨vs, n4, c4, hvs, rfl⟩
  simp [w1, w2, w3, cells_dsl, cells_g5, cells_int, wr, -cellsOf]
  refine hK _ _ _ (.same _ pu_told) (told_okl hus hvs (okl_zadd oN (okl_wide (okl_row x y) (by omega) (by omega)) (by omega)) (okl_zadd oI (okl_wide (okl_row x y) (by omega) (by omega)) (by omega)) (by omega) ?_ ?_)
  · simp [addL, sN, hgl]; omega
  · simp [addL, sI, hgl]; omega
set_option maxHeartbeats 1000000 in
theorem rlout_ctr (b : BV) (hb : b.fit) {H : Int} (hB : b.bnd H) (hH : 2048 ≤ H ∧ H ≤ 9500) (xn : Bool) (x : List Nat) (xc : Option Nat) (y : Nat) (hx : Fl x) (hy : y < 18446744073709551616) :
    Ctr Tryz.prog 12 [b.av, .agg [fsl xn x xc, fl y]] (toldB (outR b.c b.N.l b.I.l b.rows b.turns x y) (outE b.c b.N.l b.I.l b.rows b.turns x y)) := by
  refine ctr_in Tryz.func12 rfl (by kernel_rfl) rfl fun K hK => ?_
  have cE := rlearly_ctr b hb xn x xc y hx hy
  have hcs := rearly_cases b x y
  unfold outR at hK
  have pR : Pu (.agg [fsl xn x xc, .v (.float .f64 y)]) := pu_agg (by simp)
  have p2 : ∀ z ∈ [b.av, AV.agg [fsl xn x xc, .v (.float .f64 y)]], Pu z := by
    intro z hz
    simp only [List.mem_cons, List.not_mem_nil, or_false] at hz
    rcases hz with rfl | rfl
    · exact pu_bv _
    · exact pR
  simp [Tryz.f12, cells_bv, agg_bv, cells_g2, -cellsOf]
  refine acall_by cE p2 ?_
  rintro _ rfl
  rcases hcs with ⟨h0, h1, h2⟩ | ⟨h0, a0, a1, a2, h1, h2⟩
  · rw [h2] at hK
    rw [if_neg h0] at hK
    generalize rearlyE b x y = e at *
    simp [h0, cells_nil, cells_g5, cells_int, wr, -cellsOf]
    exact hK _ _ _ (.same _ (pz_told e)) (told_err e)
  rw [h0]
  rw [h2] at hK
  obtain ⟨n, hn, g1, g6, hxn, sN, sI, hq, hgl, mN, mI, oN, oI, hr, ht, hsz⟩ := ok_facts a0 a1 a2 hb.1 hb.2.1 hB.1 hB.2
  have w2 : IntKind.i64.wrap (b.turns + b.c) = b.turns + b.c := w64 _ (by omega) (by omega)
  have w3 : IntKind.i64.wrap (b.turns + b.c + 1) = b.turns + b.c + 1 := w64 _ (by omega) (by omega)
  have w1 : IntKind.i64.wrap (b.rows - 1) = b.rows - 1 := w64 _ (by omega) (by omega)
  by_cases b1 : b.rows = 0
  · rw [if_pos b1, if_neg (by decide)] at hK
    simp [b1, cells_nil, cells_g5, cells_int, wr, -cellsOf]
    exact hK _ _ _ (.same _ (pz_told 5)) (told_err 5)
  rw [if_neg b1] at hK
  by_cases b2 : 4096 < b.turns + b.c + 1
  · rw [if_pos (show b.turns + b.c + 1 > 4096 from b2), if_neg (by decide)] at hK
    simp [b1, b2, w2, w3, cells_nil, cells_g5, cells_int, wr, -cellsOf]
    exact hK _ _ _ (.same _ (pz_told 6)) (told_err 6)
  rw [if_neg (show ¬ b.turns + b.c + 1 > 4096 from b2), if_pos rfl] at hK
  have cR := rrow_ctr xn x xc y hx hy (by omega)
  unfold rowP at cR
  simp only [if_pos hq] at cR
  simp [b1, b2, w2, w3, cells_g5, cells_g2, -cellsOf]
  refine acall_by cR (pu_av1 pR) ?_
  rintro _ ⟨os, n2, c2, hos, rfl⟩
  obtain ⟨lo, mo⟩ := okl_us hos (okl_row x y) (by omega)
  have hol := us_len hos
  have cN := rgsub_ctr b.N.nl b.N.cap n2 c2 (a := b.N.l) (b := os) hb.2.2.1 hb.1 lo
  unfold joinR at cN
  simp only [if_pos (show b.N.l.length = os.length by omega), mN, mo] at cN
  simp
  refine acall_by cN (by intro z hz; simp only [List.mem_cons, List.not_mem_nil, or_false] at hz; rcases hz with rfl | rfl <;> exact .pl _ _ _ _) ?_
  rintro _ ⟨us, n3, c3, hus, rfl⟩
  have hIa : cellsOf b.I.av = some [b.I.av] := rfl
  simp [w1, w2, w3, hIa, cells_dsl, cells_g5, cells_int, wr, -cellsOf]
  refine hK _ _ _ (.same _ (pu_told (n2 := b.I.nl) (l2 := b.I.l) (c2 := b.I.cap))) (told_okl (H := H + 1) (L := -9000) (vs := b.I.l) (n2 := b.I.nl) (c2 := b.I.cap) hus rfl (okl_zsub oN (okl_wide (okl_row x y) (by omega) (by omega)) (by omega)) (okl_wide oI (by omega) (by omega)) (by omega) ?_ ?_)
  · simp [subL, sN, hgl]; omega
  · simp [sI]; omega
theorem rlnew_ctr (c : Int) : Ctr Tryz.prog 14 [i c] (toldB (newR c) (newE c)) := by
  refine ctr_in Tryz.func14 rfl (by kernel_rfl) rfl fun K hK => ?_
  simp [Tryz.f14]
  refine acall_by (rsize_ctr c) (by simp) ?_
  rintro _ rfl
  unfold newR newE at hK
  by_cases a1 : sizeI c = 0
  · rw [if_pos a1, if_pos a1] at hK
    simp [a1, cells_nil, cells_g5, cells_int, wr, -cellsOf]
    exact hK _ _ _ (.same _ (pz_told 1)) (told_err 1)
  rw [if_neg a1, if_neg a1] at hK
  simp [a1]
  refine acall_by (rzero2_ctr c) (by simp) ?_
  rintro _ ⟨c1, rfl⟩
  simp
  refine acall_by (rzero2_ctr c) (by simp) ?_
  rintro _ ⟨c2, rfl⟩
  simp [cells_dsl, cells_g5, cells_int, wr, -cellsOf]
  have hz := size_28 c
  exact hK _ _ _ (.same _ pu_told) ⟨_, false, c1, _, false, c2, rfl, zero_d _, zero_d _, zeros_ok _, zeros_ok _, by simp; omega, by simp; omega⟩

theorem pu_two {a b : AV} (h1 : Pu a) (h2 : Pu b) : ∀ z ∈ [a, b], Pu z := by
  intro z hz
  simp only [List.mem_cons, List.not_mem_nil, or_false] at hz
  rcases hz with rfl | rfl
  · exact h1
  · exact h2
theorem told_bvs {B : BD} {b b' : BV} (h : b.bd = B) (h' : b'.bd = B) (f : b.fit) : Ctr Tryz.prog 17 [b.av, b'.av] (fun r => r = bo true) := same_bv (h.trans h'.symm) f

set_option maxHeartbeats 2000000 in
theorem ltells_ctr (b : BV) (hb : BIn b) (xn : Bool) (x : List Nat) (xc : Option Nat) (y : Nat) (c : Int) (hx : Fl x) (hy : y < 18446744073709551616) :
    Ctr Tryz.prog 3 [b.av, .agg [fsl xn x xc, fl y], i c] (fun r => r = bo true) := by
  refine ctr_val Tryz.func3 rfl (by kernel_rfl) rfl (by simp) fun K hK => ?_
  have pR : Pu (.agg [fsl xn x xc, .v (.float .f64 y)]) := pu_agg (by simp)
  have p2 := pu_two (pu_bv b) pR
  simp [Tryz.f3, cells_bv, agg_bv, cells_g2, -cellsOf]
  refine acall_by (rlsmall_ctr b) (by simp) ?_
  rintro _ rfl
  by_cases hs : b.small = true
  case neg =>
    rw [Bool.not_eq_true] at hs
    simp [hs]
    refine lglive ?_
    simp
    exact hK _
  by_cases h12 : 20 < x.length
  · simp [hs, h12]
    refine lglive ?_
    simp
    exact hK _
  obtain ⟨fb, bb, dN, dI⟩ := small_bv hb hs
  simp [hs, h12, cells_bv, agg_bv, cells_g2, -cellsOf]
  refine acall_by (lin_ctr b fb bb (by decide) xn x xc y hx hy) p2 ?_
  intro r hr
  obtain ⟨b1, h1, f1, rfl⟩ := toldB_bv hr
  clear hr
  simp [cells_bv, agg_bv, cells_g2, wr, -cellsOf]
  refine acall_by (rlin_ctr b fb bb (by decide) xn x xc y hx hy) p2 ?_
  intro r hr
  obtain ⟨b2, h2, f2, rfl⟩ := toldB_bv hr
  clear hr
  simp [cells_bv, agg_bv, cells_g2, wr, -cellsOf]
  refine acall_by (lout2_ctr b fb bb (by decide) xn x xc y hx hy) p2 ?_
  intro r hr
  obtain ⟨b3, h3, f3, rfl⟩ := toldB_bv hr
  clear hr
  simp [cells_bv, agg_bv, cells_g2, wr, -cellsOf]
  refine acall_by (rlout_ctr b fb bb (by decide) xn x xc y hx hy) p2 ?_
  intro r hr
  obtain ⟨b4, h4, f4, rfl⟩ := toldB_bv hr
  clear hr
  simp [cells_bv, agg_bv, cells_g2, wr, -cellsOf]
  refine acall_by (lnew_ctr c) (by simp) ?_
  intro r hr
  obtain ⟨b5, h5, f5, rfl⟩ := toldB_bv hr
  clear hr
  simp [cells_bv, agg_bv, cells_g2, wr, -cellsOf]
  refine acall_by (rlnew_ctr c) (by simp) ?_
  intro r hr
  obtain ⟨b6, h6, f6, rfl⟩ := toldB_bv hr
  clear hr
  have s1 := told_bvs h1 h2 f1
  have s2 := told_bvs h3 h4 f3
  have s3 := told_bvs h5 h6 f5
  generalize inE b.c b.N.l b.I.l b.rows b.turns x y = e1 at *
  generalize outE b.c b.N.l b.I.l b.rows b.turns x y = e2 at *
  generalize newE c = e3 at *
  simp [cells_bv, agg_bv, cells_g2, wr, -cellsOf]
  refine draw_at [1, 3, 1, 3, 0, 0, 1, 1, 3, 0, 0, 0, 0, 0, 0, 0, 1, 1, 3, 0, 0, 0, 0, 0, 0, 0, 1, 1, 3, 0, 0, 0, 0, 0, 0, 0, 3, 0, 0] orders (by kernel_rfl) ?_
  simp [cells_bv, agg_bv, cells_g2, wr, -cellsOf]
  refine acall_by (lcheck_ctr b fb) (by simp) ?_
  rintro _ rfl
  simp [cells_bv, agg_bv, cells_g2, wr, -cellsOf]
  refine acall_by (rlcheck_ctr b fb) (by simp) ?_
  rintro _ rfl
  simp [cells_bv, agg_bv, cells_g2, wr, -cellsOf]
  refine acall_by s1 (pu_two (pu_bv _) (pu_bv _)) ?_
  rintro _ rfl
  simp [cells_bv, agg_bv, cells_g2, wr, -cellsOf]
  refine acall_by s2 (pu_two (pu_bv _) (pu_bv _)) ?_
  rintro _ rfl
  simp [cells_bv, agg_bv, cells_g2, wr, -cellsOf]
  refine acall_by s3 (pu_two (pu_bv _) (pu_bv _)) ?_
  rintro _ rfl
  simp [cells_bv, agg_bv, cells_g2, wr, -cellsOf]
  refine lglive ?_
  simp
  exact hK _
end Go.Proofs.Nt
/- Books: the document's Of, Near; LedgerNear. -/
set_option linter.unusedVariables false
set_option maxRecDepth 20000
set_option linter.unusedSimpArgs false
set_option linter.unnecessarySimpa false
namespace Go.Proofs.Nt
open Go Go.Proofs Go.Proofs.Va Go.RowKit

theorem rlof_ctr (c : Int) (t : List Nat) (tn : Bool) (tc : Option Nat) (rows turns : Int) (hf : Fl t) (hl : t.length ≤ 1000000) :
    Ctr Tryz.prog 25 [.agg [i c, fsl tn t tc, i rows, i turns]] (toldB (ofR c t rows turns) (ofE c t rows turns)) := by
  refine ctr_in Tryz.func25 rfl (by kernel_rfl) rfl fun K hK => ?_
  unfold ofR ofE at hK
  have cF := rgfactor_ctr c t tn tc rows turns hf hl
  unfold factorP at cF
  simp [Tryz.f25, cells_g4, -cellsOf]
  by_cases hok : triOk c t rows turns = true
  case neg =>
    rw [if_neg hok, if_neg hok] at hK
    simp only [if_neg hok] at cF
    refine acall_by cF (pu_av1 (pu_agg (by simp))) ?_
    rintro _ rfl
    simp [cells_nil, cells_g5, cells_int, wr, -cellsOf]
    exact hK _ _ _ (.same _ (pz_told 1)) (told_err 1)
  rw [if_pos hok, if_pos hok] at hK
  simp only [if_pos hok] at cF
  obtain ⟨ho, hgl, hsz⟩ := tri_gram hok
  refine acall_by cF (pu_av1 (pu_agg (by simp))) ?_
  rintro _ ⟨us, n1, c1, hus, rfl⟩
  simp [cells_dsl, cells_g5, cells_int, wr, -cellsOf]
  refine hK _ _ _ (.same _ pu_told) (told_okl (L := -2148) (H := 3100) hus hus ho ho (by omega) (by omega) (by omega))

theorem rlnear_ctr (b : BV) (hb : b.fit) (hN : DvOk b.N.l) (hI : DvOk b.I.l) (c : Int) (t : List Nat) (tn : Bool) (tc : Option Nat) (rows turns : Int) (hf : Fl t) (hl : t.length ≤ 1000000) :
    Ctr Tryz.prog 27 [b.av, .agg [i c, fsl tn t tc, i rows, i turns]] (nearP b c t rows turns) := by
  refine ctr_in Tryz.func27 rfl (by kernel_rfl) rfl fun K hK => ?_
  have cF := rgfactor_ctr c t tn tc rows turns hf hl
  have cC := rlcheck_ctr b hb
  unfold factorP at cF
  unfold nearP at hK
  have hno : nearQ b c t rows turns = false → ∀ σ, K (.tup [.v (.int .i64 0), .v (.bool false)]) σ := by
    intro h σ
    rw [h] at hK
    exact hK _ _ _ (.same _ (pu_tup (by simp))) rfl
  simp [Tryz.f27, cells_bv, agg_bv, cells_g4, -cellsOf]
  by_cases hok : triOk c t rows turns = true
  case neg =>
    simp only [if_neg hok] at cF
    rw [Bool.not_eq_true] at hok
    refine acall_by cF (pu_av1 (pu_agg (by simp))) ?_
    rintro _ rfl
    simp [agg_bv]
    refine acall_by cC (pu_av1 (pu_bv _)) ?_
    rintro _ rfl
    cases b.ok
    · simp
      exact hno (by unfold nearQ; rw [hok]; rfl) _
    · simp
      exact hno (by unfold nearQ; rw [hok]; rfl) _
  simp only [if_pos hok] at cF
  obtain ⟨ho, hgl, hsz⟩ := tri_gram hok
  refine acall_by cF (pu_av1 (pu_agg (by simp))) ?_
  rintro _ ⟨us, n1, c1, hus, rfl⟩
  simp [agg_bv]
  refine acall_by cC (pu_av1 (pu_bv _)) ?_
  rintro _ rfl
  by_cases a0 : b.ok = true
  case neg =>
    rw [Bool.not_eq_true] at a0
    simp [a0]
    exact hno (by unfold nearQ; rw [hok, a0]; rfl) _
  by_cases a1 : b.c = c
  case neg =>
    simp [a0, a1]
    exact hno (by unfold nearQ; rw [hok, a0, decide_eq_false (by omega)]; rfl) _
  by_cases a2 : b.rows = rows
  case neg =>
    simp [a0, a1, a2]
    exact hno (by unfold nearQ; rw [hok, a0, decide_eq_false (by omega)]; rfl) _
  by_cases a3 : b.turns = turns
  case neg =>
    simp [a0, a1, a2, a3]
    exact hno (by unfold nearQ; rw [hok, a0, decide_eq_false (by omega)]; rfl) _
  have hq : nearQ b c t rows turns = true := by unfold nearQ; rw [hok, a0, decide_eq_true (⟨a1, a2, a3⟩)]; rfl
  simp only [if_pos hq] at hK
  have cN := rcheck_ctr9 b.c b.turns b.N b.I ⟨n1, us, c1⟩ hN hI (dvok_of hus ho (by omega) (by omega))
  simp [a0, a1, a2, a3]
  rw [← a1, ← a3]
  refine acall_by cN (by intro z hz; simp only [List.mem_cons, List.not_mem_nil, or_false] at hz; rcases hz with rfl | rfl | rfl | rfl | rfl <;> first | exact .v _ | exact .pl _ _ _ _) ?_
  intro r hr
  obtain ⟨z, q, rfl⟩ := chk_pu hr
  simp
  exact hK _ _ _ (.same _ (pu_tup (by simp))) ⟨us, hus, hr⟩

theorem chk_same {N I G G' : List DV} {c k : Int} {r r' : AV} (hG : G.map DV.d = G'.map DV.d) (h : chkP N I G c k r) (h' : chkP N I G' c k r') : r = r' := by
  have hl : G.length = G'.length := by have := congrArg List.length hG; simpa using this
  have hv : chkV N I G c k ↔ chkV N I G' c k := by unfold chkV; rw [hl]
  unfold chkP at h h'
  by_cases e : chkV N I G c k
  · rw [if_pos e] at h
    rw [if_pos (hv.1 e)] at h'
    have hf : far N I G c.toNat k = far N I G' c.toNat k := by
      funext p q
      exact far_congr (fun _ => rfl) (fun _ => rfl) (gv_m hG) p q
    rw [hf] at h
    exact firstP_eq h h'
  · rw [if_neg e] at h
    rw [if_neg (fun x => e (hv.2 x))] at h'
    rw [h, h']
theorem near_same {b : BV} {c : Int} {t : List Nat} {rows turns : Int} {r r' : AV} (h : nearP b c t rows turns r) (h' : nearP b c t rows turns r') : r = r' ∧ ∃ z q, r = .tup [i z, bo q] := by
  unfold nearP at h h'
  by_cases e : nearQ b c t rows turns = true
  · rw [if_pos e] at h h'
    obtain ⟨gs, h1, h2⟩ := h
    obtain ⟨gs', h1', h2'⟩ := h'
    exact ⟨chk_same (h1.trans h1'.symm) h2 h2', chk_pu h2⟩
  · rw [if_neg e] at h h'
    exact ⟨h.trans h'.symm, _, _, h⟩

set_option maxHeartbeats 2000000 in
theorem lnears_ctr (b : BV) (hb : BIn b) (c : Int) (t : List Nat) (tn : Bool) (tc : Option Nat) (rows turns : Int) (hf : Fl t) :
    Ctr Tryz.prog 5 [b.av, .agg [i c, fsl tn t tc, i rows, i turns]] (fun r => r = bo true) := by
  refine ctr_val Tryz.func5 rfl (by kernel_rfl) rfl (by simp) fun K hK => ?_
  have pF : Pu (.agg [.v (.int .i64 c), fsl tn t tc, .v (.int .i64 rows), .v (.int .i64 turns)]) := pu_agg (by simp)
  simp [Tryz.f5, cells_bv, agg_bv, cells_g4, -cellsOf]
  refine acall_by (rlsmall_ctr b) (by simp) ?_
  rintro _ rfl
  by_cases hs : b.small = true
  case neg =>
    rw [Bool.not_eq_true] at hs
    simp [hs]
    refine lglive ?_
    simp
    exact hK _
  by_cases h60 : 60 < t.length
  · simp [hs, h60]
    refine lglive ?_
    simp
    exact hK _
  obtain ⟨fb, bb, dN, dI⟩ := small_bv hb hs
  have hl : t.length ≤ 1000000 := by omega
  simp [hs, h60, cells_bv, agg_bv, cells_g4, -cellsOf]
  refine acall_by (lof_ctr c t tn tc rows turns hf hl) (pu_av1 pF) ?_
  intro r hr
  obtain ⟨b1, h1, f1, rfl⟩ := toldB_bv hr
  clear hr
  simp [cells_bv, agg_bv, cells_g4, wr, -cellsOf]
  refine acall_by (rlof_ctr c t tn tc rows turns hf hl) (pu_av1 pF) ?_
  intro r hr
  obtain ⟨b2, h2, f2, rfl⟩ := toldB_bv hr
  clear hr
  simp [cells_bv, agg_bv, cells_g4, wr, -cellsOf]
  refine acall_by (lnear_ctr b fb dN dI c t tn tc rows turns hf hl) (pu_two (pu_bv _) pF) ?_
  intro r hr
  obtain ⟨_, z, q, rfl⟩ := near_same hr hr
  simp [cells_bv, agg_bv, cells_g4, wr, -cellsOf]
  refine acall_by (rlnear_ctr b fb dN dI c t tn tc rows turns hf hl) (pu_two (pu_bv _) pF) ?_
  intro r hr'
  obtain ⟨e1, _⟩ := near_same hr hr'
  subst e1
  clear hr hr'
  have s1 := told_bvs h1 h2 f1
  generalize ofE c t rows turns = e at *
  simp [cells_bv, agg_bv, cells_g4, wr, -cellsOf]
  refine acall_by s1 (pu_two (pu_bv _) (pu_bv _)) ?_
  rintro _ rfl
  simp
  refine lglive ?_
  simp
  exact hK _
end Go.Proofs.Nt
/- Books: the document's Fade, Join. -/
set_option linter.unusedVariables false
set_option maxRecDepth 20000
set_option linter.unusedSimpArgs false
set_option linter.unnecessarySimpa false
namespace Go.Proofs.Nt
open Go Go.Proofs Go.Proofs.Va Go.RowKit

set_option maxHeartbeats 1000000 in
theorem rlfade_ctr (b : BV) (hb : b.fit) {H : Int} (hB : b.bnd H) (hH : 2048 ≤ H ∧ H ≤ 9500) (beta : Nat) (hy : beta < 18446744073709551616) :
    Ctr Tryz.prog 19 [b.av, fl beta] (toldB (fadeR b.c b.N.l b.I.l b.rows b.turns beta) (fadeE b.c b.N.l b.I.l b.rows b.turns beta)) := by
  refine ctr_in Tryz.func19 rfl (by kernel_rfl) rfl fun K hK => ?_
  have cC := rlcheck_ctr b hb
  have cM := rfmay_ctr hy
  have hbo : b.ok = bookOk b.c b.N.l b.I.l b.rows b.turns := rfl
  unfold fadeR fadeE at hK
  rw [← hbo] at hK
  simp [Tryz.f19, cells_bv, agg_bv, -cellsOf]
  refine acall_by cC (pu_av1 (pu_bv _)) ?_
  rintro _ rfl
  generalize hq : b.ok = q at *
  cases q
  · simp only [Bool.false_eq_true, if_false] at hK
    simp [cells_nil, cells_g5, cells_int, wr, -cellsOf]
    exact hK _ _ _ (.same _ (pz_told 1)) (told_err 1)
  simp
  refine acall_by cM (by simp) ?_
  rintro _ rfl
  by_cases a1 : mayB beta = true
  case neg =>
    rw [Bool.not_eq_true] at a1
    rw [a1] at hK ⊢
    simp at hK
    simp [cells_nil, cells_g5, cells_int, wr, -cellsOf]
    exact hK _ _ _ (.same _ (pz_told 12)) (told_err 12)
  rw [a1] at hK ⊢
  obtain ⟨n, hn, h1, h6, sN, sI, hr, ht, kN, kI⟩ := bookOk_nat hbo.symm
  by_cases a2 : b.turns = 4096
  · simp [a2] at hK
    simp [a2, cells_nil, cells_g5, cells_int, wr, -cellsOf]
    exact hK _ _ _ (.same _ (pz_told 6)) (told_err 6)
  have a3 : ¬ 4096 ≤ b.turns := by omega
  simp [a2] at hK
  have mN := okl_ok kN
  have mI := okl_ok kI
  have oN := book_okl hb.1 hB.1
  have oI := book_okl hb.2.1 hB.2
  have w1 : IntKind.i64.wrap (b.turns + 1) = b.turns + 1 := w64 _ (by omega) (by omega)
  have cN := rgfade_ctr b.N.nl b.N.cap (a := b.N.l) hy hb.2.2.1 hb.1 oN (by omega)
  have cI := rgfade_ctr b.I.nl b.I.cap (a := b.I.l) hy hb.2.2.2 hb.2.1 oI (by omega)
  have pL : ∀ X : LV, ∀ z ∈ [X.av, AV.v (.float .f64 beta)], Pu z := fun X => pu_two (.pl _ _ _ _) (.v _)
  simp [a3]
  refine acall_by cN (pL b.N) ?_
  intro r hrr
  obtain ⟨us, n3, c3, rfl, hus, l3, k3⟩ := told_fade hrr oN (by omega) (by simpa using hb.2.2.1)
  clear hrr
  simp
  refine acall_by cI (pL b.I) ?_
  intro r hrr
  obtain ⟨vs, n4, c4, rfl, hvs, l4, k4⟩ := told_fade hrr oI (by omega) (by simpa using hb.2.2.2)
  clear hrr
  rw [mN] at hus
  rw [mI] at hvs
  simp [cells_g5, cells_dsl, cells_int, wr, w1, -cellsOf]
  exact hK _ _ _ (.same _ pu_told) ⟨us, n3, c3, vs, n4, c4, rfl, hus, hvs, l3, l4, k3, k4⟩

set_option maxHeartbeats 1000000 in
theorem rljoin_ctr (a b : BV) (ha : a.fit) (hb : b.fit) {H : Int} (hA : a.bnd H) (hB : b.bnd H) (hH : 2048 ≤ H ∧ H ≤ 9500) :
    Ctr Tryz.prog 21 [a.av, b.av] (toldB (joinBR a b) (joinE a b)) := by
  refine ctr_in Tryz.func21 rfl (by kernel_rfl) rfl fun K hK => ?_
  have cA := rlcheck_ctr a ha
  have cB := rlcheck_ctr b hb
  have hao : a.ok = bookOk a.c a.N.l a.I.l a.rows a.turns := rfl
  have hbo : b.ok = bookOk b.c b.N.l b.I.l b.rows b.turns := rfl
  unfold joinBR joinE at hK
  simp [Tryz.f21, cells_bv, agg_bv, -cellsOf]
  refine acall_by cA (pu_av1 (pu_bv _)) ?_
  rintro _ rfl
  generalize hq : a.ok = q at *
  cases q
  · simp only [Bool.false_and, Bool.false_eq_true, if_false] at hK
    simp [cells_nil, cells_g5, cells_int, wr, -cellsOf]
    exact hK _ _ _ (.same _ (pz_told 1)) (told_err 1)
  simp [agg_bv]
  refine acall_by cB (pu_av1 (pu_bv _)) ?_
  rintro _ rfl
  generalize hq' : b.ok = q' at *
  cases q'
  · simp only [Bool.and_false, Bool.false_eq_true, if_false] at hK
    simp [cells_nil, cells_g5, cells_int, wr, -cellsOf]
    exact hK _ _ _ (.same _ (pz_told 1)) (told_err 1)
  by_cases a1 : a.c = b.c
  case neg =>
    simp [a1] at hK
    simp [a1, cells_nil, cells_g5, cells_int, wr, -cellsOf]
    exact hK _ _ _ (.same _ (pz_told 3)) (told_err 3)
  obtain ⟨n, hn, h1, h6, sN, sI, hr, ht, kN, kI⟩ := bookOk_nat hao.symm
  obtain ⟨n', hn', _, _, sN', sI', hr', ht', kN', kI'⟩ := bookOk_nat hbo.symm
  obtain rfl : n = n' := by omega
  have hsz : sizeI b.c = (sizeN n : Int) := by rw [hn']; unfold sizeI; rw [if_pos (by omega)]; rfl
  have hsl := size_le h6
  have w1 : IntKind.i64.wrap (a.rows + b.rows) = a.rows + b.rows := w64 _ (by omega) (by omega)
  have w2 : IntKind.i64.wrap (max a.turns b.turns + sizeI b.c) = max a.turns b.turns + sizeI b.c := w64 _ (by omega) (by omega)
  have hmx : (if a.turns < b.turns then b.turns else a.turns) = max a.turns b.turns := by split <;> omega
  simp [a1]
  refine draw_at [1, 1, 1, 1, 1, 1, 1, 3, 0, 0] orders (by kernel_rfl) ?_
  simp [a1, hmx]
  refine acall_by (rcost_ctr b.c) (by simp) ?_
  rintro _ rfl
  rw [a1] at hK
  by_cases b1 : 200 < a.rows + b.rows
  · simp [b1] at hK
    simp [b1, w1, w2, hmx, cells_nil, cells_g5, cells_int, wr, -cellsOf]
    exact hK _ _ _ (.same _ (pz_told 6)) (told_err 6)
  by_cases b2 : 4096 < max a.turns b.turns + sizeI b.c
  · simp [b1, b2] at hK
    simp [b1, b2, w1, w2, hmx, cells_nil, cells_g5, cells_int, wr, -cellsOf]
    exact hK _ _ _ (.same _ (pz_told 6)) (told_err 6)
  simp [b1, b2] at hK
  have cN := rgadd_ctr a.N.nl a.N.cap b.N.nl b.N.cap (a := a.N.l) (b := b.N.l) ha.2.2.1 ha.1 hb.1
  have cI := rgadd_ctr a.I.nl a.I.cap b.I.nl b.I.cap (a := a.I.l) (b := b.I.l) ha.2.2.2 ha.2.1 hb.2.1
  unfold joinR at cN cI
  simp only [if_pos (show a.N.l.length = b.N.l.length by omega), okl_ok kN, okl_ok kN'] at cN
  simp only [if_pos (show a.I.l.length = b.I.l.length by omega), okl_ok kI, okl_ok kI'] at cI
  have oN := book_okl ha.1 hA.1
  have oI := book_okl ha.2.1 hA.2
  have oN' := book_okl hb.1 hB.1
  have oI' := book_okl hb.2.1 hB.2
  rw [okl_ok kN] at oN
  rw [okl_ok kI] at oI
  rw [okl_ok kN'] at oN'
  rw [okl_ok kI'] at oI'
  simp [b1, b2, w1, w2, hmx]
  refine acall_by cN (pu_two (.pl _ _ _ _) (.pl _ _ _ _)) ?_
  rintro _ ⟨us, c0, c3, hus, rfl⟩
  simp
  refine acall_by cI (pu_two (.pl _ _ _ _) (.pl _ _ _ _)) ?_
  rintro _ ⟨vs, c00, c4, hvs, rfl⟩
  simp [a1, w1, cells_dsl, cells_g5, cells_int, wr, -cellsOf]
  refine hK _ _ _ (.same _ pu_told) (told_okl hus hvs (okl_zadd oN oN' (by omega)) (okl_zadd oI oI' (by omega)) (by omega) ?_ ?_)
  · simp [addL, sN, sN']; omega
  · simp [addL, sI, sI']; omega
end Go.Proofs.Nt
/- Books: the document's Ridge. -/
set_option linter.unusedVariables false
set_option maxRecDepth 20000
set_option linter.unusedSimpArgs false
set_option linter.unnecessarySimpa false
namespace Go.Proofs.Nt
open Go Go.Proofs Go.Proofs.Va Go.RowKit

theorem unit_fl {n mu : Nat} (j k : Nat) (hy : mu < 18446744073709551616) : Fl (unitX n j mu) := by
  intro z hz
  rcases List.mem_or_eq_of_mem_set hz with h | rfl
  · rw [List.mem_replicate] at h; omega
  · exact hy
theorem unit_q {n j mu : Nat} (h1 : 1 ≤ n) (h6 : n ≤ 6) (h : inB mu = true) : rowQ (unitX n j mu) 0 = true := by
  unfold rowQ
  rw [unit_len, decide_eq_true h1, decide_eq_true h6, Bool.true_and, Bool.true_and, List.all_eq_true]
  intro z hz
  have f0 : fin 0 = true := by decide
  rcases List.mem_append.1 hz with e | e
  · rcases List.mem_or_eq_of_mem_set e with h' | rfl
    · rw [List.mem_replicate] at h'; rw [h'.2]; exact f0
    · exact in_fin h
  · rw [List.mem_singleton.1 e]; exact f0
set_option maxHeartbeats 2000000 in
theorem rlridge_ctr (b : BV) (hb : b.fit) {H : Int} (hB : b.bnd H) (hH : 2048 ≤ H ∧ H ≤ 9400) (mu : Nat) (hy : mu < 18446744073709551616) :
    Ctr Tryz.prog 23 [b.av, fl mu] (toldB (ridgeR b mu) (ridgeE b mu)) := by
  refine ctr_in Tryz.func23 rfl (by kernel_rfl) rfl fun K hK => ?_
  have cC := rlcheck_ctr b hb
  have hbo : b.ok = bookOk b.c b.N.l b.I.l b.rows b.turns := rfl
  unfold ridgeR ridgeE BV.bd at hK
  simp [Tryz.f23, cells_bv, agg_bv, -cellsOf]
  refine acall_by cC (pu_av1 (pu_bv _)) ?_
  rintro _ rfl
  generalize hq : b.ok = q at *
  cases q
  · simp only [Bool.false_eq_true, if_false] at hK
    simp [cells_nil, cells_g5, cells_int, wr, -cellsOf]
    exact hK _ _ _ (.same _ (pz_told 1)) (told_err 1)
  simp
  refine acall_by (rsplit_ctr hy) (by simp) ?_
  rintro _ rfl
  obtain ⟨n, hn, h1, h6, sN, sI, hr, ht, kN, kI⟩ := bookOk_nat hbo.symm
  have mN := okl_ok kN
  have mI := okl_ok kI
  have oN := book_okl hb.1 hB.1
  have oI := book_okl hb.2.1 hB.2
  rw [mN] at oN
  rw [mI] at oI
  have hsz := size_le h6
  unfold splitV
  simp
  refine acall_by (rin_ctr hy) (by simp) ?_
  rintro _ rfl
  by_cases a1 : inB mu = true
  case neg =>
    rw [Bool.not_eq_true] at a1
    simp [a1] at hK
    simp [a1, cells_nil, cells_g5, cells_int, wr, -cellsOf]
    exact hK _ _ _ (.same _ (pz_told 2)) (told_err 2)
  have hnan : ¬ 9218868437227405312 < frg mu := by
    unfold inB at a1
    have := of_decide_eq_true a1
    omega
  by_cases a2 : fsg mu = true
  · simp [a1, a2] at hK
    simp [a1, hnan, a2, cells_nil, cells_g5, cells_int, wr, -cellsOf]
    exact hK _ _ _ (.same _ (pz_told 2)) (told_err 2)
  rw [Bool.not_eq_true] at a2
  have hez := eq_zero_f mu
  have hNa : cellsOf b.N.av = some [b.N.av] := rfl
  have hIa : cellsOf b.I.av = some [b.I.av] := rfl
  by_cases a3 : frg mu = 0
  · simp [a1, a2, a3] at hK
    simp [a1, hnan, a2, a3, hez, cells_bv, agg_bv, hNa, hIa, wr, -cellsOf]
    refine hK _ _ (.tup [.agg [i b.c, dsl b.N.nl b.N.l b.N.cap, dsl b.I.nl b.I.l b.I.cap, i b.rows, i b.turns], i 0]) (.same _ pu_told) (told_okl rfl rfl oN oI (by omega) ?_ ?_)
    · simp; omega
    · simp; omega
  have hnn : 0 ≤ (n : Int) * ((n : Int) + 1) ∧ (n : Int) * ((n : Int) + 1) ≤ 42 := by
    have : n = 1 ∨ n = 2 ∨ n = 3 ∨ n = 4 ∨ n = 5 ∨ n = 6 := by omega
    rcases this with rfl | rfl | rfl | rfl | rfl | rfl <;> decide
  have w1 : IntKind.i64.wrap ((n : Int) + 1) = (n : Int) + 1 := w64 _ (by omega) (by omega)
  have w2 : IntKind.i64.wrap ((n : Int) * ((n : Int) + 1)) = (n : Int) * ((n : Int) + 1) := w64 _ (by omega) (by omega)
  have w3 : IntKind.i64.wrap (b.turns + (n : Int) * ((n : Int) + 1)) = b.turns + (n : Int) * ((n : Int) + 1) := w64 _ (by omega) (by omega)
  rw [hn] at hK
  generalize hmm : (n : Int) * ((n : Int) + 1) = m at *
  by_cases a4 : 4096 < b.turns + m
  · simp [a1, a2, a3, a4] at hK
    simp [a1, hnan, a2, a3, hez, hn, hmm, w1, w2, w3, a4, cells_nil, cells_g5, cells_int, wr, -cellsOf]
    exact hK _ _ _ (.same _ (pz_told 6)) (told_err 6)
  simp [a1, a2, a3, a4] at hK
  simp [a1, hnan, a2, a3, hez, hn, hmm, w1, w2, w3, a4, cells_bv, agg_bv, cells_nil, cells_g5, cells_int, wr, -cellsOf]
  have os : dOK (fromD mu) := ok_from mu
  obtain ⟨hbN, hbI, lbN, lbI⟩ := hb
  have hu : ∀ j, Fl (unitX n j mu) := fun j => unit_fl j j hy
  have hq1 : ∀ j, j < n → rowQ (unitX n j mu) 0 = true := fun j hj => unit_q h1 h6 a1
  have ou : ∀ j, (unitX n j mu).length = n := fun j => unit_len n j mu
  generalize hs : mulD (fromD mu) (fromD mu) = s at *
  refine loop_on (γ := Nat × LV × LV × AHeap) 101 (fun g => [(11, i g.1), (10, .po 2 0 0), (5, i 0), (4, .po 1 0 0), (2, .po 0 0 0), (1, fl mu)]) (fun g => g.2.2.2)
    (fun g => g.1 ≤ n ∧ g.2.1.l.map DV.d = ridgeL n s g.1 (b.N.l.map DV.d) ∧ g.2.2.1.l.map DV.d = ridgeL n s g.1 (b.I.l.map DV.d) ∧ LenOk g.2.1.l ∧ LenOk g.2.2.1.l ∧ g.2.1.l.map DV.m = g.2.1.l.map DV.d ∧ g.2.2.1.l.map DV.m = g.2.2.1.l.map DV.d ∧
      g.2.2.2[0]? = some ⟨.own, 0, [i n, b.N.av, b.I.av, i b.rows, i b.turns]⟩ ∧ g.2.2.2[1]? = some ⟨.own, 0, [i 0, .pl true [] 0 (some 0), .pl true [] 0 (some 0), i 0, i 0]⟩ ∧ g.2.2.2[2]? = some ⟨.own, 0, [i n, g.2.1.av, g.2.2.1.av, i b.rows, i b.turns]⟩) (fun g => n - g.1)
    (0, b.N, b.I, _) ⟨Nat.zero_le _, rfl, rfl, hbN, hbI, mN, mI, rfl, rfl, rfl⟩ (Wk.lst (by simp) (by simp)) ?_
  rintro ⟨g, X, Y, τ⟩ ⟨hg, hX, hY, lX, lY, mX, mY, t0, t1, t2⟩ L hL
  simp only at hg hX hY lX lY mX mY t0 t1 t2
  have q0 := (List.getElem?_eq_some_iff.1 t0).1
  have q1 := (List.getElem?_eq_some_iff.1 t1).1
  have q2 := (List.getElem?_eq_some_iff.1 t2).1
  by_cases hlt : g < n
  · have hnext := fun X' Y' τ' => hL (g + 1, X', Y', τ')
    have ap0 : ∀ x y, (τ ++ [x, y])[τ.length]? = some x := fun x y => by simp
    have ap1 : ∀ x y, (τ ++ [x, y])[τ.length + 1]? = some y := fun x y => by simp
    have sp0 : ∀ x y z, (τ ++ [x, y]).set τ.length z = τ ++ [z, y] := fun x y z => by simp
    have sp1 : ∀ x y z, (τ ++ [x, y]).set (τ.length + 1) z = τ ++ [x, z] := fun x y z => by simp
    have z1 : (n : Int) * 8 ≤ 140737488355328 := by omega
    have z2 : n ≤ 140737488355328 := by omega
    simp [hlt, t0, t2, ap0, ap1, sp0, sp1, z1, z2, List.getElem?_append_left q0, cells_g2, cells_vf, cells_so, wr, -cellsOf, -getElem?_pos, List.getElem?_cons_zero, List.getElem?_cons_succ]
    refine ⟨by kernel_rfl, by omega, ?_⟩
    have hcl : (List.replicate n (AV.v (.float .f64 0))).set g (AV.v (.float .f64 mu)) = (unitX n g mu).map fl := by
      unfold unitX; rw [List.map_set, List.map_replicate]; rfl
    rw [hcl]
    have hb0 : (τ ++ [⟨.own, 0, (unitX n g mu).map fl⟩, ⟨.own, 0, [.so τ.length 0 0 n 1 (some n), .v (.float .f64 0)]⟩])[τ.length]? = some ⟨.own, 0, (unitX n g mu).map fl⟩ := ap0 _ _
    have f0 : (froze (τ ++ [⟨.own, 0, (unitX n g mu).map fl⟩, ⟨.own, 0, [.so τ.length 0 0 n 1 (some n), .v (.float .f64 0)]⟩]) [τ.length])[0]? = some ⟨.own, 0, [i n, b.N.av, b.I.av, i b.rows, i b.turns]⟩ := by
      rw [froze_ne (by simp; omega), List.getElem?_append_left q0]; exact t0
    have f1 : (froze (τ ++ [⟨.own, 0, (unitX n g mu).map fl⟩, ⟨.own, 0, [.so τ.length 0 0 n 1 (some n), .v (.float .f64 0)]⟩]) [τ.length])[1]? = some ⟨.own, 0, [i 0, .pl true [] 0 (some 0), .pl true [] 0 (some 0), i 0, i 0]⟩ := by
      rw [froze_ne (by simp; omega), List.getElem?_append_left q1]; exact t1
    have f2 : (froze (τ ++ [⟨.own, 0, (unitX n g mu).map fl⟩, ⟨.own, 0, [.so τ.length 0 0 n 1 (some n), .v (.float .f64 0)]⟩]) [τ.length])[2]? = some ⟨.own, 0, [i n, X.av, Y.av, i b.rows, i b.turns]⟩ := by
      rw [froze_ne (by simp; omega), List.getElem?_append_left q2]; exact t2
    have cR := rrow_ctr false (unitX n g mu) (some n) 0 (hu g) (by decide) (by rw [ou]; omega)
    unfold rowP at cR
    simp only [if_pos (hq1 g hlt)] at cR
    refine acall_froze [τ.length] cR rfl (fun q hq => ?_) ?_
    · obtain rfl : q = 0 := by simp at hq; omega
      exact pur_g2 (pur_fsl (l := unitX n g mu) hb0 (by decide) (ou g).symm (by simp)) (.same _ (.v _))
    rintro _ ⟨os2, n2, c2, hos, rfl⟩
    generalize froze _ [τ.length] = τ2 at *
    clear hb0 hcl ap0 ap1 sp0 sp1 t0 t1 t2 hL q0 q1 q2
    have q0 := (List.getElem?_eq_some_iff.1 f0).1
    have q1 := (List.getElem?_eq_some_iff.1 f1).1
    have q2 := (List.getElem?_eq_some_iff.1 f2).1
    obtain ⟨lo, mo⟩ := okl_us hos (okl_row _ _) (by omega)
    have hol := us_len hos
    have hgl : (rowG (unitX n g mu) 0).length = sizeN n := by rw [row_len (by rw [unit_len]; exact h6), unit_len]; rfl
    have hXl : X.l.length = sizeN n := by rw [us_len hX, ridge_len]; simpa using sN
    have hYl : Y.l.length = sizeN n := by rw [us_len hY, ridge_len]; simpa using sI
    have cN := rgadd_ctr X.nl X.cap n2 c2 (a := X.l) (b := os2) (by omega) lX lo
    have cI := rgadd_ctr Y.nl Y.cap n2 c2 (a := Y.l) (b := os2) (by omega) lY lo
    unfold joinR at cN cI
    have rX := ridge_ok (n := n) (mu := mu) oN (by omega) hH.1 g
    have rY := ridge_ok (n := n) (mu := mu) oI (by omega) hH.1 g
    have rX' := ridge_ok (n := n) (mu := mu) oN (by omega) hH.1 (g + 1)
    have rY' := ridge_ok (n := n) (mu := mu) oI (by omega) hH.1 (g + 1)
    rw [hs] at rX rY rX' rY'
    have eX : addL (ridgeL n s g (b.N.l.map DV.d)) (rowG (unitX n g mu) 0) = ridgeL n s (g + 1) (b.N.l.map DV.d) := by
      rw [unit_add h6 hlt rX (by omega) (by omega) (by rw [ridge_len]; simpa using sN), hs]; rfl
    have eY : addL (ridgeL n s g (b.I.l.map DV.d)) (rowG (unitX n g mu) 0) = ridgeL n s (g + 1) (b.I.l.map DV.d) := by
      rw [unit_add h6 hlt rY (by omega) (by omega) (by rw [ridge_len]; simpa using sI), hs]; rfl
    unfold addL at eX eY
    simp only [if_pos (show X.l.length = os2.length by omega), mX, mo, hX, eX] at cN
    simp only [if_pos (show Y.l.length = os2.length by omega), mY, mo, hY, eY] at cI
    have pXY : ∀ X : LV, ∀ z ∈ [X.av, dsl n2 os2 c2], Pu z := fun X => pu_two (.pl _ _ _ _) (.pl _ _ _ _)
    simp [f0, f2, q0, q2, -cellsOf, -getElem?_pos, List.getElem?_cons_zero, List.getElem?_cons_succ]
    refine acall_by cN (pXY X) ?_
    rintro _ ⟨us, n3, c3, hus, rfl⟩
    simp [f0, f2, q0, q2, -cellsOf, -getElem?_pos, List.getElem?_cons_zero, List.getElem?_cons_succ]
    refine acall_by cI (pXY Y) ?_
    rintro _ ⟨vs, n4, c4, hvs, rfl⟩
    obtain ⟨l3, m3⟩ := okl_us hus rX' (by omega)
    obtain ⟨l4, m4⟩ := okl_us hvs rY' (by omega)
    have w4 : IntKind.i64.wrap ((g : Int) + 1) = ((g + 1 : Nat) : Int) := w64 _ (by omega) (by omega)
    simp [f0, f2, q0, q2, w4, cells_dsl, wr, -cellsOf, -getElem?_pos, List.getElem?_cons_zero, List.getElem?_cons_succ, -Int.natCast_add]
    refine hnext ⟨n3, us, c3⟩ ⟨n4, vs, c4⟩ (τ2.set 2 ⟨.own, 0, [i n, dsl n3 us c3, dsl n4 vs c4, i b.rows, i b.turns]⟩) _ _ ⟨by show g + 1 ≤ n; omega, hus, hvs, l3, l4, m3.trans hus.symm, m4.trans hvs.symm, ?_, ?_, ?_⟩ (Wk.lst (by simp) (by simp)) (by show n - (g + 1) < n - g; omega)
    · show (τ2.set 2 _)[0]? = _
      rw [List.getElem?_set_ne (by decide)]; exact f0
    · show (τ2.set 2 _)[1]? = _
      rw [List.getElem?_set_ne (by decide)]; exact f1
    · show (τ2.set 2 _)[2]? = _
      exact List.getElem?_set_self q2
  · obtain rfl : g = n := by omega
    have r1 := ridge_ok (n := g) (mu := mu) oN (by omega) hH.1 g
    have r2 := ridge_ok (n := g) (mu := mu) oI (by omega) hH.1 g
    rw [hs] at r1 r2
    have hXa : cellsOf X.av = some [X.av] := rfl
    have hYa : cellsOf Y.av = some [Y.av] := rfl
    simp [t0, t1, t2, q0, q1, q2, w1, w2, hmm, w3, hXa, hYa, cells_g5, cells_int, wr, List.getElem?_set_ne, -cellsOf, -getElem?_pos, List.getElem?_cons_zero, List.getElem?_cons_succ]
    exact hK _ _ (.tup [.agg [i g, dsl X.nl X.l X.cap, dsl Y.nl Y.l Y.cap, i b.rows, i (b.turns + m)], i 0]) (.same _ pu_told) (told_okl (L := -9000) (H := H + g) hX hY r1 r2 (by omega) (by rw [ridge_len]; simp; omega) (by rw [ridge_len]; simp; omega))
end Go.Proofs.Nt
/- LedgerMoves. -/
set_option linter.unusedVariables false
set_option maxRecDepth 20000
set_option linter.unusedSimpArgs false
set_option linter.unnecessarySimpa false
namespace Go.Proofs.Nt
open Go Go.Proofs Go.Proofs.Va Go.RowKit

@[simp] theorem arrF2 : arrT Tryz.prog 37 = some (2, 26, 1) := by kernel_rfl
set_option maxHeartbeats 2000000 in
theorem lmoves_ctr (a b : BV) (ha : BIn a) (hb : BIn b) (x0 x1 : Nat) (h0 : x0 < 18446744073709551616) (h1 : x1 < 18446744073709551616) :
    Ctr Tryz.prog 4 [a.av, b.av, .agg [fl x0, fl x1]] (fun r => r = bo true) := by
  refine ctr_val Tryz.func4 rfl (by kernel_rfl) rfl (by simp) fun K hK => ?_
  simp [Tryz.f4, cells_bv, agg_bv, cells_g2, -cellsOf]
  refine acall_by (rlsmall_ctr a) (by simp) ?_
  rintro _ rfl
  by_cases hs : a.small = true
  case neg =>
    rw [Bool.not_eq_true] at hs
    simp [hs]
    refine lglive ?_
    simp
    exact hK _
  simp [hs, cells_bv, agg_bv, -cellsOf]
  refine acall_by (rlsmall_ctr b) (by simp) ?_
  rintro _ rfl
  by_cases hs' : b.small = true
  case neg =>
    rw [Bool.not_eq_true] at hs'
    simp [hs']
    refine lglive ?_
    simp
    exact hK _
  obtain ⟨fa, ba, _, _⟩ := small_bv ha hs
  obtain ⟨fb, bb, _, _⟩ := small_bv hb hs'
  have p0 := pu_two (pu_bv a) (.v (.float .f64 x0))
  have p1 := pu_two (pu_bv a) (.v (.float .f64 x1))
  have pab := pu_two (pu_bv a) (pu_bv b)
  simp [hs', cells_bv, agg_bv, cells_g2, -cellsOf]
  refine acall_by (lfade_ctr a fa ba (by decide) x0 h0) p0 ?_
  intro r hr
  obtain ⟨b1, e1, f1, rfl⟩ := toldB_bv hr
  clear hr
  simp [cells_bv, agg_bv, cells_g2, wr, -cellsOf]
  refine acall_by (rlfade_ctr a fa ba (by decide) x0 h0) p0 ?_
  intro r hr
  obtain ⟨b2, e2, f2, rfl⟩ := toldB_bv hr
  clear hr
  simp [cells_bv, agg_bv, cells_g2, wr, -cellsOf]
  refine acall_by (ljoin_ctr a b fa fb ba bb (by decide)) pab ?_
  intro r hr
  obtain ⟨b3, e3, f3, rfl⟩ := toldB_bv hr
  clear hr
  simp [cells_bv, agg_bv, cells_g2, wr, -cellsOf]
  refine acall_by (rljoin_ctr a b fa fb ba bb (by decide)) pab ?_
  intro r hr
  obtain ⟨b4, e4, f4, rfl⟩ := toldB_bv hr
  clear hr
  simp [cells_bv, agg_bv, cells_g2, wr, -cellsOf]
  refine acall_by (lridge_ctr a fa ba (by decide) x1 h1) p1 ?_
  intro r hr
  obtain ⟨b5, e5, f5, rfl⟩ := toldB_bv hr
  clear hr
  simp [cells_bv, agg_bv, cells_g2, wr, -cellsOf]
  refine acall_by (rlridge_ctr a fa ba (by decide) x1 h1) p1 ?_
  intro r hr
  obtain ⟨b6, e6, f6, rfl⟩ := toldB_bv hr
  clear hr
  have s1 := told_bvs e1 e2 f1
  have s2 := told_bvs e3 e4 f3
  have s3 := told_bvs e5 e6 f5
  generalize fadeE a.c a.N.l a.I.l a.rows a.turns x0 = q1 at *
  generalize joinE a b = q2 at *
  generalize ridgeE a x1 = q3 at *
  simp [cells_bv, agg_bv, cells_g2, wr, -cellsOf]
  refine acall_by s1 (pu_two (pu_bv _) (pu_bv _)) ?_
  rintro _ rfl
  simp [cells_bv, agg_bv, cells_g2, wr, -cellsOf]
  refine acall_by s2 (pu_two (pu_bv _) (pu_bv _)) ?_
  rintro _ rfl
  simp [cells_bv, agg_bv, cells_g2, wr, -cellsOf]
  refine acall_by s3 (pu_two (pu_bv _) (pu_bv _)) ?_
  rintro _ rfl
  simp
  refine lglive ?_
  simp
  exact hK _
end Go.Proofs.Nt
