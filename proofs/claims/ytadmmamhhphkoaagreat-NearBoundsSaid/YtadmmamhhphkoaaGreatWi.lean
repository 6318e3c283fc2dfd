import Derived.Test.YtadmmamhhphkoaaGreatWa
import Derived.Test.YtadmmamhhphkoaaGreatWb
import Derived.Test.YtadmmamhhphkoaaGreatWc
import Derived.Test.YtadmmamhhphkoaaGreatWd
import Derived.Test.YtadmmamhhphkoaaGreatWe
import Derived.Test.YtadmmamhhphkoaaGreatWf
import Derived.Test.YtadmmamhhphkoaaGreatWg
import Derived.Test.YtadmmamhhphkoaaGreatWh
/- VA, part 21: a body whose statements are taken one by one, with less said between them. -/
set_option linter.unusedVariables false
set_option linter.unusedSimpArgs false
namespace Go.Proofs.Va
open Go Go.RowKit

/-- A call of a function with a body, of which less may be said between its statements. -/
theorem acall_body_aw {P : Program} {g : FuncId} {fn : Func} {c : Code} (hf : P.funcs[g]? = some fn) (hb : fn.body = some c) (hname : (fn.name == "runtime.NumGoroutine") = false) {args : List AV} {σ : AHeap} {K : AV → AHeap → Prop}
    (h : AW P σ.length true c (fun e s' => (e = .normal ∨ e = .ret) ∧ aRes P s'.t s'.σ fn.results.toList fun l => K (resV l) s'.σ) ⟨enterT args fn.ntmps, σ⟩) : ACall P g args σ K := by
  intro w0 ρ fz w vs hh hr
  have hname' : ¬ fn.name = "runtime.NumGoroutine" := by simpa using hname
  refine .inl ⟨by simp [callFunc, hf, hname', hb], (Wd.callsIn wd_wide (n := 10)).1 ?_⟩
  refine callsIn_of_wp_marks hf hb trivial (wpIn_mono (h Fence.wide 10 wd_wide (fun _ => rfl) w0 w.heap.size ρ fz { tmps := vs ++ Array.replicate (fn.ntmps - vs.size) undef, defers := [] } w
    ⟨hh, enter_rel hr _, [], rfl, List.nodup_nil, fun D hD => by cases hD⟩ (Nat.le_refl _) hh.le (Nat.le_refl _)) ?_)
  rintro e a' w' ⟨s', ρ', fz', ⟨he, hres⟩, hS, hE⟩
  obtain ⟨Ds, hds, hnd, hD⟩ := hS.m
  have hDf : ∀ D ∈ Ds, w'.heap[D]? = some (.deferred (some [])) ∧ w.heap.size ≤ D ∧ ¬ fz' D := fun D hDD => by
    obtain ⟨h1, h2⟩ := hD D hDD
    refine ⟨h1, h2, fun hf => ?_⟩
    rcases hE.fzn D hf with hf | ⟨_, c, el, fr, hc⟩
    · have := hh.fzlt D hf; omega
    · rw [h1] at hc; cases hc
  have main : LeavesInM Fence.wide 10 P fn a'.tmps (fun e w' => ∃ v r σ' ρ' fz', e = .returned v ∧ K r σ' ∧ HRel w0 ρ' fz' σ' w' ∧ R ρ' σ' fz' w' r v ∧ Ev w0 σ.length ρ σ fz w ρ' σ' fz' w') a'.defers .returning w' := by
    rw [hds]
    refine leave_marks wd_wide hh.le Ds w' hnd hDf hS.h ?_
    intro w2 hh2 hold hsz hcells hRR
    have ht2 : TRel ρ' s'.σ fz' w2 s'.t a'.tmps := ⟨hS.t.len, fun i hi => hRR _ _ (hS.t.at_ i hi)⟩
    obtain ⟨l, v, hrun, hK, hR⟩ := results_ok hh2 ht2 hres
    have lt : ∀ {k : Nat} {o : Obj}, w.heap[k]? = some o → k < w.heap.size := fun hk => (Array.getElem?_eq_some_iff.1 hk).1
    refine ⟨v, hrun, v, _, s'.σ, ρ', fz', rfl, hK, hh2, hR, ⟨hE.len, hE.len', hE.blk, hE.fzm, ?_, ?_, ?_, ?_, ?_⟩⟩
    · intro k hk
      rcases hE.fzn k hk with h1 | ⟨h1, c, e, fr, h2⟩
      · exact .inl h1
      · exact .inr ⟨h1, c, e, fr, hcells _ _ _ _ h2⟩
    · intro k hk; exact (hold k (hh.fzlt k hk)).trans (hE.fzs k hk)
    · rw [← hsz]; exact hE.size
    · intro k o hk ho; exact (hold k (lt hk)).trans (hE.same k o hk ho)
    · intro k c e fr hk
      obtain ⟨c', fr', h1, h2⟩ := hE.cells k c e fr hk
      exact ⟨c', fr', hcells _ _ _ _ h1, h2⟩
  rcases he with rfl | rfl <;> exact main

theorem ctr_in_aw {P : Program} {g : FuncId} {fn : Func} {c : Code} (hf : P.funcs[g]? = some fn) (hb : fn.body = some c) (hname : (fn.name == "runtime.NumGoroutine") = false) {args : List AV} {Post : AV → Prop} (hl : Nat.ble args.length fn.ntmps = true)
    (h : ∀ K : AV → AHeap → Prop, (∀ r σ' r', Pur σ' (fun _ => True) r r' → Post r' → K r σ') → AW P 0 true c (fun e s' => (e = .normal ∨ e = .ret) ∧ aRes P s'.t s'.σ fn.results.toList fun l => K (resV l) s'.σ) ⟨lst fn.ntmps (argT 0 args), []⟩) : Ctr P g args Post :=
  ctr_of (acall_body_aw hf hb hname (by rw [enter_lst args _ (Nat.le_of_ble_eq_true hl)]; exact h (fun r σ' => ∃ r', Pur σ' (fun _ => True) r r' ∧ Post r') fun r σ' r' h1 h2 => ⟨r', h1, h2⟩))
/-- One statement, and then the others. -/
theorem aw_seq {P : Program} {n0 : Nat} {top : Bool} {x y : Code} {Q : Exit → AState → Prop} {s : AState} (h : awp P n0 top x (thenA (LkS true fun s' => AW P n0 top y Q s') Q) s) : AW P n0 top (.seq x y) Q s := by
  intro F n hF ht w0 nb ρ fz a w hs hn hb1 hb2
  refine wpIn_seq (wpIn_mono (awp_ok x _ s h F n hF ht w0 nb ρ fz a w hs hn hb1 hb2) ?_)
  rintro e a1 w1 ⟨s1, ρ1, fz1, hQ, hS, hE⟩
  cases e with
  | normal => exact wpIn_mono (hQ F n hF ht w0 nb ρ1 fz1 a1 w1 hS hE.len' hb1 (Nat.le_trans hb2 hE.size)) fun e a w hq => hq.from hE
  | _ => exact ⟨s1, ρ1, fz1, hQ, hS, hE⟩
theorem aw_of {P : Program} {n0 : Nat} {top : Bool} {c : Code} {Q : Exit → AState → Prop} {s : AState} (h : awp P n0 top c Q s) : AW P n0 top c Q s := awp_ok c Q s h
end Go.Proofs.Va
/- Near: Normal. -/
set_option linter.unusedVariables false
set_option maxRecDepth 20000
set_option linter.unusedSimpArgs false
set_option linter.unnecessarySimpa false
namespace Go.Proofs.Nt
open Go Go.Proofs Go.Proofs.Va Go.RowKit

theorem reps_dcs : ∀ n : Nat, reps n [AV.v (.bool false), .pl true [] 0 (some 0), .v (.int .i64 0)] = dcs (List.replicate n zDV)
  | 0 => rfl
  | n + 1 => by
    show [AV.v (.bool false), .pl true [] 0 (some 0), .v (.int .i64 0)] ++ reps n _ = DV.cs zDV ++ dcs (List.replicate n zDV)
    rw [reps_dcs n]; rfl

theorem flat_dcs (n : Nat) : (List.replicate n [AV.v (.bool false), .pl true [] 0 (some 0), .v (.int .i64 0)]).flatten = dcs (List.replicate n zDV) := reps_dcs n

theorem nnormal_ctr (c k : Int) (N I : LV) (xn : Bool) (x : List Nat) (xc : Option Nat) (hN : DvOk N.l) (hI : DvOk I.l) (hx : Fl x) (hxl : x.length ≤ 12) :
    Ctr Tryz.prog 20 [i c, N.av, I.av, fsl xn x xc, i k] (norP N.l I.l c k x) := by
  refine ctr_in Tryz.func20 rfl (by kernel_rfl) rfl fun K hK => ?_
  simp only [Tryz.f20, List.append_eq, List.cons_append, List.nil_append]
  have cF := nfit_ctr c [N, I] (some 2) (by simp)
  have hbad : ¬ norV N.l I.l c k x → ∀ σ, K (.tup [.v (.int .i64 0), .v (.bool false)]) σ := by
    intro h σ
    refine hK _ _ _ (.same _ (pu_tup (by simp))) ?_
    unfold norP; rw [if_neg h]; rfl
  have hlen : ∀ σ (K : AV → AHeap → Prop), aLen Tryz.prog 40 (fsl xn x xc) σ K = K (i x.length) σ := fun σ K => by simp [fsl]
  simp
  refine acall_froze [0] cF rfl ?_ ?_
  · intro j hj
    have : j = 0 ∨ j = 1 := by simp at hj; omega
    rcases this with rfl | rfl
    · exact .same _ (by simp)
    · exact pur_lss (k := .own) (ls := [N, I]) rfl (by decide) rfl (by simp)
  rintro _ rfl
  by_cases hf : (([N, I].all fun x => decide ((x.l.length : Int) = sizeI c)) && decide (0 < sizeI c)) = true
  case neg =>
    have hf' := hf
    rw [Bool.not_eq_true] at hf'
    rw [hf']
    simp [froze]
    refine hbad ?_ _
    rintro ⟨h1, h2, h3, _⟩
    apply hf
    have : sizeI c = (sizeN c.toNat : Int) := if_pos h1
    have := (size_facts h1).2.2
    simp [h2, h3]
    omega
  rw [hf]
  have hc : 1 ≤ c ∧ c ≤ 6 := by
    apply Classical.byContradiction
    intro h
    have : sizeI c = 0 := if_neg h
    rw [this] at hf
    simp at hf
  obtain ⟨n, rfl⟩ : ∃ n : Nat, c = n := ⟨c.toNat, by omega⟩
  have hsz : sizeI n = (sizeN n : Int) := by unfold sizeI; rw [if_pos hc]; rfl
  rw [hsz] at hf
  obtain ⟨⟨lN, lI⟩, _⟩ : (N.l.length = sizeN n ∧ I.l.length = sizeN n) ∧ 0 < sizeN n := by simpa using hf
  by_cases hxn : x.length = n
  case neg =>
    have hxn' : ¬ ((x.length : Nat) : Int) = (n : Int) := by omega
    simp [froze, hlen, hxn, hxn']
    refine hbad (fun h => hxn ?_) _
    exact h.2.2.2.1
  simp [froze, hlen, hxn]
  refine acall_by (nmay_ctr k) (by simp) ?_
  rintro _ rfl
  by_cases hk0 : 0 ≤ k ∧ k ≤ 100000
  case neg =>
    simp only [decide_eq_false hk0]
    simp
    exact hbad (fun h => hk0 (by have := h.2.2.2.2.1; omega)) _
  simp only [decide_eq_true hk0]
  by_cases hk1 : k = 100000
  · simp [hk1]
    exact hbad (fun h => by have := h.2.2.2.2.1; omega) _
  have hk : 0 ≤ k ∧ k ≤ 99999 := by omega
  have hcn : n ≤ 6 := by omega
  have hc1 : 1 ≤ n := by omega
  clear hk0
  have hn0 : ¬ (n : Int) < 0 := by omega
  simp [hk1, hlen, flat_dcs]
  refine ⟨⟨by omega, by omega⟩, ?_⟩
  refine loop_on (γ := Nat × List DV) 138 (fun g => [(0, i n), (1, N.av), (2, I.av), (4, i k), (12, .so 1 0 0 n 3 (some n)), (47, fsl xn x xc), (48, i n), (49, i g.1)])
    (fun g => [⟨.ro, 0, [N.av, I.av]⟩, ⟨.own, 0, dcs g.2⟩])
    (fun g => g.1 ≤ n ∧ g.2.length = n ∧ ∀ q, q < g.1 → fin (x.getD q 0) = true ∧ (gv g.2 q).d = fromD (x.getD q 0)) (fun g => n - g.1)
    (0, List.replicate n zDV) ⟨Nat.zero_le _, by simp, fun q hq => by omega⟩ (Wk.lst (by simp [fsl, hxn]) (by simp)) ?_
  rintro ⟨g, vs⟩ ⟨hg, hvl, hvs⟩ L hL
  simp only at hg hvl hvs
  by_cases hlt : g < n
  · have hgx : g < x.length := by omega
    have hb := hx _ (List.getElem_mem hgx)
    have hgd : x.getD g 0 = x[g] := by simp [hgx]
    have hfr := from3_ctr hb
    rw [fTold_eq, ← hgd] at hfr
    rw [← hgd] at hb
    have hw1 : IntKind.i64.wrap ((g : Int) + 1) = ((g + 1 : Nat) : Int) := w64 _ (by omega) (by omega)
    by_cases hfk : fin (x.getD g 0) = true
    · rw [hfk] at hfr
      have hset : ∀ n1 c1, (((dcs vs).set (g * 3) (AV.v (.bool (fromD (x.getD g 0)).1))).set (g * 3 + 1) (sl n1 (fromD (x.getD g 0)).2.1 c1)).set (g * 3 + 1 + 1) (AV.v (.int .i64 (fromD (x.getD g 0)).2.2)) = dcs (vs.set g (toV (fromD (x.getD g 0)) n1 c1)) :=
        fun n1 c1 => dcs_set (l := vs) (k := g) (by omega) (toV (fromD (x.getD g 0)) n1 c1)
      have hpre : ∀ n1 c1, g + 1 ≤ n ∧ (vs.set g (toV (fromD (x.getD g 0)) n1 c1)).length = n ∧ ∀ q, q < g + 1 → fin (x.getD q 0) = true ∧ (gv (vs.set g (toV (fromD (x.getD g 0)) n1 c1)) q).d = fromD (x.getD q 0) := by
        intro n1 c1
        refine ⟨by omega, by simpa using hvl, fun q hq => ?_⟩
        by_cases hqg : q = g
        · subst hqg; rw [gv_set_self (by omega)]; exact ⟨hfk, rfl⟩
        · rw [gv_set_ne (by omega)]; exact hvs q (by omega)
      have ho3 : g * 3 + 3 ≤ (dcs vs).length := by rw [dcs_len]; omega
      have hnext := fun n1 c1 => hL (g + 1, vs.set g (toV (fromD (x.getD g 0)) n1 c1))
      generalize hxg : x.getD g 0 = xg at *
      generalize fromD xg = d at *
      simp [hlt, hgx, fsl, ← hgd]
      refine acall_by hfr (by simp) ?_
      rintro _ ⟨n1, c1, rfl⟩
      simp [cells_dy, cells_ag, wr, hw1, hlt, ho3, hset, -cellsOf, -Int.natCast_add]
      refine hnext n1 c1 _ _ (hpre n1 c1) (Wk.lst_drop 2 rfl (by simp [fsl, hxn]) (by simp) (by simp [fsl]) ?_) (by show n - (g + 1) < n - g; omega)
      intro b hb' _ y hy
      simp only [List.mem_cons, List.not_mem_nil, or_false] at hb'
      rcases hb' with rfl | rfl
      · simp at hy; rcases hy with rfl | rfl <;> simp
      · exact sc_dcs _ _ y hy
    · have hfk' : fin (x.getD g 0) = false := by simpa using hfk
      rw [hfk'] at hfr
      generalize fromD (x.getD g 0) = d at *
      simp [hlt, hgx, fsl]
      rw [← hgd]
      refine acall_by hfr (by simp) ?_
      rintro _ ⟨n1, c1, rfl⟩
      simp [cells_dy, cells_ag, wr, -cellsOf]
      refine hbad (fun h => hfk ?_) _
      have := h.2.2.2.2.2
      rw [List.all_eq_true] at this
      rw [hgd]
      exact this _ (List.getElem_mem hgx)
  obtain rfl : n = g := by omega
  have hfin : x.all fin = true := by
    rw [List.all_eq_true]
    intro y hy
    obtain ⟨q, hq, rfl⟩ := List.getElem_of_mem hy
    have := (hvs q (by omega)).1
    simpa [hq] using this
  have hv : norV N.l I.l n k x := ⟨hc, lN, lI, hxn, hk, hfin⟩
  simp only [norP, if_pos hv, Int.toNat_natCast] at hK
  clear hbad hv hL
  have cN := nall_ctr I.nl I.cap hc1 hcn lI hI
  change Ctr _ _ [i n, I.av] _ at cN
  simp
  refine acall_by cN (by simp) ?_
  rintro _ ⟨us, hU, rfl⟩
  have cSum := nsum_ctr hcn hI hU
  obtain ⟨u1, u2, u3⟩ := hU
  have hus : (dcs us).length = 21 := by rw [dcs_len, u1]
  have hwf : wr (dcs z7) 0 (dcs us) = dcs us := wr_full (by rw [hus, z7_len])
  have ht21 : (dcs us).take 21 = dcs us := List.take_of_length_le (by omega)
  simp [cells_dcs, hus, z7_len, hwf, -cellsOf]
  refine loop_on (γ := Nat) 138 (fun g => [(0, i n), (1, N.av), (4, i k), (12, .so 1 0 0 n 3 (some n)), (17, .po 2 0 0), (69, i n), (70, i g)])
    (fun _ => [⟨.ro, 0, [N.av, I.av]⟩, ⟨.own, 0, dcs vs⟩, ⟨.own, 0, dcs us⟩])
    (fun g => g ≤ n ∧ ∀ p, p < g → offB N.l I.l n k x p = false) (fun g => n - g)
    0 ⟨Nat.zero_le _, fun p h => by omega⟩ (Wk.lst (by simp) (by simp)) ?_
  rintro g ⟨hg, hgood⟩ L1 hL1
  by_cases hlt : g < n
  case neg =>
    obtain rfl : n = g := by omega
    simp
    exact hK _ _ _ (.same _ (pu_tup (by simp))) (.inr ⟨fun p h1 => hgood p h1, rfl⟩)
  have rI := dcs_read (l := us) (k := g) (by omega)
  have rIn := dcs_read (l := us) (k := n) (by omega)
  rw [av_of (u2 g (by omega))] at rI
  rw [av_of (u2 n (by omega))] at rIn
  have cE := nentry_ctr N.nl N.cap hc1 hcn (i' := g) (j' := n) (by omega) (by omega) lN
  change Ctr _ _ [i n, N.av, i g, i n] _ at cE
  have cB := nbound_ctr (k := k + 1) (gv us g).nl (gv us n).nl (gv us g).cap (gv us n).cap (by omega) (ok_upE I.l n g) (ok_upE I.l n n) (bd_upE hI n g) (bd_upE hI n n)
  have wk1' : IntKind.i64.wrap (k + 1) = k + 1 := w64 _ (by omega) (by omega)
  change Ctr _ _ _ (dTold (mostD I.l n k x g 0)) at cB
  have hl0 : (entV N.l n g n).m = leftD N.l n x g 0 := rfl
  obtain ⟨e1, e2, _⟩ := hN.at (entN n g n)
  change Dig (entV N.l n g n).a at e1
  change (entV N.l n g n).a.length ≤ 900 at e2
  have hg7 : g < 7 := by omega
  have hn7 : n < 7 := by omega
  have og3 : g * 3 + 3 ≤ (dcs us).length := by omega
  have on3 : n * 3 + 3 ≤ (dcs us).length := by omega
  generalize entV N.l n g n = E at *
  generalize hM0 : mostD I.l n k x g 0 = M0 at *
  simp [hlt]
  refine draw_at [0, 0, 0, 0, 5, 0, 1, 1, 0, 1, 1, 0, 0, 5, 9, 10, 4, 4] orders (by kernel_rfl) ?_
  simp [hg7, hn7, og3, on3, rI, rIn, wk1', -cellsOf]
  refine actr_by cE (by simp) ⟨_, rfl⟩ ?_
  rintro _ rfl
  simp [hg7, hn7, og3, on3, rI, rIn, wk1', -cellsOf]
  refine actr_by cB (by simp [dy]) ⟨_, told_ex M0⟩ ?_
  rintro _ ⟨m1, d1, rfl⟩
  simp [DV.av, cells_dy, wr, -cellsOf]
  refine ⟨same_pre (by simp) (by simp) rfl, same_pre (by simp) (by simp) rfl, ?_⟩
  subst hM0
  refine loop_on (γ := Nat × DV × Bool × Option Nat) 138 (fun g' => [(0, i n), (1, N.av), (4, i k), (12, .so 1 0 0 n 3 (some n)), (17, .po 2 0 0), (18, i g), (19, .po 3 1 0), (20, .po 4 1 0), (69, i n), (70, i g), (87, .so 1 0 0 n 3 (some n)), (88, i n), (89, i g'.1)])
    (fun g' => [⟨.ro, 0, [N.av, I.av]⟩, ⟨.own, 0, dcs vs⟩, ⟨.own, 0, dcs us⟩, ⟨.own, 1, [bo g'.2.1.neg, sl g'.2.1.nl g'.2.1.a g'.2.1.cap, i g'.2.1.e]⟩, ⟨.own, 1, [bo (mostD I.l n k x g g'.1).1, sl g'.2.2.1 (mostD I.l n k x g g'.1).2.1 g'.2.2.2, i (mostD I.l n k x g g'.1).2.2]⟩])
    (fun g' => g'.1 ≤ n ∧ g'.2.1.m = leftD N.l n x g g'.1 ∧ Dig g'.2.1.a ∧ g'.2.1.a.length ≤ 900) (fun g' => n - g'.1)
    (0, E, m1, d1) ⟨Nat.zero_le _, hl0, e1, e2⟩ (Wk.lst (by simp) (by simp)) ?_
  rintro ⟨j, lv, mn, mc⟩ ⟨hj, hlm, hld, hll⟩ L2 hL2
  simp only at hj hlm hld hll
  have oM := ok_most x g hI hk (c := n) j
  have lM := bd_len oM (bd_most x g hI hk j) (k := 900) (by omega)
  by_cases hlj : j < n
  · have rV := dcs_read (l := vs) (k := j) (by omega)
    rw [av_of (hvs j hlj).2] at rV
    have rJ := dcs_read (l := us) (k := j) (by omega)
    rw [av_of (u2 j (by omega))] at rJ
    have oF := ok_from (x.getD j 0)
    have lF := bd_len oF (from_bd (x.getD j 0)) (k := 900) (by omega)
    have cE2 := nentry_ctr N.nl N.cap hc1 hcn (i' := g) (j' := j) (by omega) (by omega) lN
    change Ctr _ _ [i n, N.av, i g, i j] _ at cE2
    obtain ⟨p1, p2, _⟩ := hN.at (entN n g j)
    change Dig (entV N.l n g j).a at p1
    change (entV N.l n g j).a.length ≤ 900 at p2
    have oP : dOK (mulD (entV N.l n g j).m (fromD (x.getD j 0))) := ok_mul _ _
    have lP := bd_len oP (bd_prodE x g hN j) (k := 900) (by omega)
    have cMul := mul3_ctr (entV N.l n g j).neg (entV N.l n g j).nl (fromD (x.getD j 0)).1 (gv vs j).nl (entV N.l n g j).a (fromD (x.getD j 0)).2.1 (entV N.l n g j).cap (gv vs j).cap (entV N.l n g j).e (fromD (x.getD j 0)).2.2 p1 oF.2 (by omega) (by omega)
    rw [may_of_ok oF.1] at cMul
    change Ctr _ _ _ (dTold (mulD (entV N.l n g j).m (fromD (x.getD j 0)))) at cMul
    have cSub := fun pn pc => sub3_ctr lv.neg lv.nl (mulD (entV N.l n g j).m (fromD (x.getD j 0))).1 pn lv.a (mulD (entV N.l n g j).m (fromD (x.getD j 0))).2.1 lv.cap pc lv.e (mulD (entV N.l n g j).m (fromD (x.getD j 0))).2.2 hld oP.2 (by omega) (by omega)
    have hmay : mayD lv.neg lv.a lv.e = leftD N.l n x g j := hlm
    rw [hmay] at cSub
    change ∀ pn pc, Ctr _ _ _ (dTold (leftD N.l n x g (j + 1))) at cSub
    have cB2 := nbound_ctr (k := k + 1) (gv us g).nl (gv us j).nl (gv us g).cap (gv us j).cap (by omega) (ok_upE I.l n g) (ok_upE I.l n j) (bd_upE hI n g) (bd_upE hI n j)
    have oB := ok_bound (upE I.l n g) (upE I.l n j) (k + 1)
    have lB := bd_len oB (bd_bnd hI hk g j) (k := 900) (by omega)
    have cAb := absC (n := (gv vs j).nl) (c := (gv vs j).cap) oF (by omega)
    have oA := ok_absX (fromD (x.getD j 0))
    have lA := bd_len oA (bd_absX (from_bd (x.getD j 0))) (k := 900) (by omega)
    have cM2 := fun n1 c1 n2 c2 => mulX (n := n1) (c := c1) (n' := n2) (c' := c2) oB (by omega) oA (by omega)
    have oP2 := ok_mul (boundD (upE I.l n g) (upE I.l n j) (k + 1)) (absX (fromD (x.getD j 0)))
    have lP2 := bd_len oP2 (bd_prodB x g hI hk j) (k := 900) (by omega)
    have cA2 := fun n2 c2 => addX (n := mn) (c := mc) (n' := n2) (c' := c2) oM (by omega) oP2 (by omega)
    change ∀ n2 c2, Ctr _ _ _ (dTold (mostD I.l n k x g (j + 1))) at cA2
    have oL := ok_left x g hN (c := n) (j + 1)
    have lL := bd_len oL (bd_left x g hN (j + 1)) (k := 900) (by omega)
    have hnext := fun ln lc n1 c1 => hL2 (j + 1, toV (leftD N.l n x g (j + 1)) ln lc, n1, c1)
    have hnp : ∀ ln lc, (toV (leftD N.l n x g (j + 1)) ln lc).m = leftD N.l n x g (j + 1) := fun ln lc => may_of_ok oL.1
    have hnd := oL.2
    clear hL2 oP lP oB lB oA lA oP2 lP2 oM lM hmay oL
    generalize hdL : leftD N.l n x g (j + 1) = dL at *
    generalize hMj : mostD I.l n k x g j = dM at *
    generalize hMj1 : mostD I.l n k x g (j + 1) = dM1 at *
    generalize mulD (boundD (upE I.l n g) (upE I.l n j) (k + 1)) (absX (fromD (x.getD j 0))) = dP2 at *
    generalize boundD (upE I.l n g) (upE I.l n j) (k + 1) = dB at *
    generalize mulD (entV N.l n g j).m (fromD (x.getD j 0)) = dP at *
    generalize absX (fromD (x.getD j 0)) = dA at *
    generalize fromD (x.getD j 0) = dF at *
    generalize entV N.l n g j = E2 at *
    generalize upE I.l n g = dg' at *
    generalize upE I.l n j = dj' at *
    generalize (gv vs j).nl = vn at *
    generalize (gv vs j).cap = vc at *
    generalize (gv us g).nl = gn at *
    generalize (gv us g).cap = gc at *
    generalize (gv us j).nl = jn at *
    generalize (gv us j).cap = jc at *
    have hj7 : j < 7 := by omega
    have oj3 : j * 3 + 3 ≤ (dcs us).length := by omega
    have ov3 : j * 3 + 3 ≤ (dcs vs).length := by rw [dcs_len]; omega
    have w3 : IntKind.i64.wrap ((j : Int) + 1) = ((j + 1 : Nat) : Int) := w64 _ (by omega) (by omega)
    simp [hlj, ov3, rV, cells_dy, wr, -cellsOf]
    refine draw_at [1, 0, 0, 0, 0, 3, 1, 3, 3, 4] orders (by kernel_rfl) ?_
    simp [cells_ag, -cellsOf]
    refine acall_by cE2 (by simp) ?_
    rintro _ rfl
    simp [cells_ag, DV.av, -cellsOf]
    refine acall_by cMul (by simp [dy]) ?_
    rintro _ ⟨n2, c2, rfl⟩
    simp [cells_ag, -cellsOf]
    refine acall_by (cSub n2 c2) (by simp [dy]) ?_
    rintro _ ⟨n3, c3, rfl⟩
    simp [cells_dy, wr, -cellsOf]
    refine draw_at [1, 0, 1, 1, 0, 1, 1, 0, 0, 3, 1, 3, 3, 3, 4] orders (by kernel_rfl) ?_
    simp [hg7, hj7, og3, oj3, rI, rJ, wk1', cells_ag, -cellsOf]
    refine acall_by cB2 (by simp [dy]) ?_
    rintro _ ⟨n4, c4, rfl⟩
    simp [cells_ag, -cellsOf]
    refine acall_by cAb (by simp [dy]) ?_
    rintro _ ⟨n5, c5, rfl⟩
    simp [cells_ag, -cellsOf]
    refine acall_by (cM2 n4 c4 n5 c5) (by simp [dy]) ?_
    rintro _ ⟨n6, c6, rfl⟩
    simp [cells_ag, -cellsOf]
    refine acall_by (cA2 n6 c6) (by simp [dy]) ?_
    rintro _ ⟨n7, c7, rfl⟩
    simp [cells_dy, wr, w3, -cellsOf, -Int.natCast_add]
    subst hMj1
    refine hnext n3 c3 n7 c7 _ _ ⟨by omega, (hnp n3 c3).trans hdL.symm, hnd, lL⟩ (Wk.lst_drop 5 rfl (by simp) (by simp) (by simp) ?_) (by show n - (j + 1) < n - j; omega)
    intro b hb _ z hz
    simp only [List.mem_cons, List.not_mem_nil, or_false] at hb
    rcases hb with rfl | rfl | rfl | rfl | rfl
    · simp at hz; rcases hz with rfl | rfl <;> simp
    · exact sc_dcs _ _ z hz
    · exact sc_dcs _ _ z hz
    · simp [toV] at hz; rcases hz with rfl | rfl | rfl <;> simp [sl]
    · simp at hz; rcases hz with rfl | rfl | rfl <;> simp [sl]
  obtain rfl : n = j := by omega
  have oU := ok_upE I.l n g
  have lU := bd_len oU (bd_upE hI n g) (k := 900) (by omega)
  have oW := ok_pow (-1060)
  have lW := bd_len oW (bd_pow (-1060)) (k := 900) (by omega)
  have cT := ntimes_ctr 1 (-1060) (by omega)
  change Ctr _ _ _ (dTold (powD (-1060))) at cT
  have oN1 := ok_add (upE I.l n g) (powD (-1060))
  have lN1 := bd_len oN1 (bd_near1 g hI (c := n)) (k := 900) (by omega)
  have cA1 := fun n2 c2 => addX (n := (gv us g).nl) (c := (gv us g).cap) (n' := n2) (c' := c2) oU (by omega) oW (by omega)
  have oSm := ok_sumU I.l n (n + 1)
  have lSm := bd_len oSm (bd_sumU hI n (n + 1)) (k := 900) (by omega)
  have cM1 := fun n1 c1 n2 c2 => mulX (n := n1) (c := c1) (n' := n2) (c' := c2) oN1 (by omega) oSm (by omega)
  change ∀ n1 c1 n2 c2, Ctr _ _ _ (dTold (restD I.l n g)) at cM1
  have oR : dOK (restD I.l n g) := ok_mul _ _
  have lR := bd_len oR (bd_rest g hI hcn) (k := 900) (by omega)
  have cM2 := fun n1 c1 n2 c2 => mulX (n := n1) (c := c1) (n' := n2) (c' := c2) oR (by omega) oW (by omega)
  have oR2 : dOK (mulD (restD I.l n g) (powD (-1060))) := ok_mul _ _
  have lR2 := bd_len oR2 (bd_rest2 g hI hcn) (k := 900) (by omega)
  have cA2 := fun n2 c2 => addX (n := mn) (c := mc) (n' := n2) (c' := c2) oM (by omega) oR2 (by omega)
  change ∀ n2 c2, Ctr _ _ _ (dTold (allD I.l n k x g)) at cA2
  have oAl : dOK (allD I.l n k x g) := ok_add _ _
  have lAl := bd_len oAl (bd_all x g hI hk hcn) (k := 900) (by omega)
  have cAb := abs_ctr lv.neg lv.nl lv.a lv.cap lv.e hld (by omega)
  rw [← absX_may] at cAb
  change Ctr _ _ _ (dTold (absX lv.m)) at cAb
  rw [hlm] at cAb
  have oAb := ok_absX (leftD N.l n x g n)
  have lAb := bd_len oAb (bd_absX (bd_left x g hN n)) (k := 900) (by omega)
  have cC := fun n1 c1 n2 c2 => cmpX (n := n1) (c := c1) (n' := n2) (c' := c2) oAb (by omega) oAl (by omega)
  rw [cmp_off x g hN hI hk hcn] at cC
  have hoff : offB N.l I.l n k x g = decide (0 < cmpD (absX (leftD N.l n x g n)) (allD I.l n k x g)) := rfl
  clear hL2 oU lU oW lW oN1 lN1 oSm lSm oR lR oR2 lR2 oAl lAl oAb lAb oM lM hl0
  generalize cmpD (absX (leftD N.l n x g n)) (allD I.l n k x g) = cm at *
  generalize absX (leftD N.l n x g n) = dAb at *
  generalize allD I.l n k x g = dAl at *
  generalize mulD (restD I.l n g) (powD (-1060)) = dR2 at *
  generalize restD I.l n g = dR at *
  generalize sumU I.l n (n + 1) = dSm at *
  generalize addD (upE I.l n g) (powD (-1060)) = dN1 at *
  generalize powD (-1060) = dW at *
  generalize mostD I.l n k x g n = dM at *
  generalize upE I.l n g = dU at *
  generalize (gv us g).nl = gn at *
  generalize (gv us g).cap = gc at *
  have hg18 : g * 3 ≤ 18 := by omega
  simp
  refine draw_at [0, 1, 1, 5, 5, 1, 5, 5, 2, 4] orders (by kernel_rfl) ?_
  simp [hg7, og3, hg18, rI, hus, ht21, cells_ag, -cellsOf]
  refine actr_by cT (by simp) ⟨_, told_ex dW⟩ ?_
  rintro _ ⟨n2, c2, rfl⟩
  simp [hg7, og3, hg18, rI, hus, ht21, cells_ag, -cellsOf]
  refine actr_by (cA1 n2 c2) (by simp [dy]) ⟨_, told_ex dN1⟩ ?_
  rintro _ ⟨n3, c3, rfl⟩
  simp [hg7, og3, hg18, rI, hus, ht21, cells_ag, -cellsOf]
  refine actr_by cSum (by simpa using pu_dcs us) ⟨_, told_ex dSm⟩ ?_
  rintro _ ⟨n4, c4, rfl⟩
  simp [cells_ag, -cellsOf]
  refine actr_by (cM1 n3 c3 n4 c4) (by simp [dy]) ⟨_, told_ex dR⟩ ?_
  rintro _ ⟨n5, c5, rfl⟩
  simp [cells_dy, wr, -cellsOf]
  refine ⟨same_pre (by simp) (by simp) rfl, ?_⟩
  simp [cells_dy, wr, -cellsOf]
  refine draw_at [1, 1, 3, 3, 3, 4] orders (by kernel_rfl) ?_
  simp [cells_ag, -cellsOf]
  refine acall_by cT (by simp) ?_
  rintro _ ⟨n6, c6, rfl⟩
  simp [cells_ag, -cellsOf]
  refine acall_by (cM2 n5 c5 n6 c6) (by simp [dy]) ?_
  rintro _ ⟨n7, c7, rfl⟩
  simp [cells_ag, -cellsOf]
  refine acall_by (cA2 n7 c7) (by simp [dy]) ?_
  rintro _ ⟨n8, c8, rfl⟩
  simp [cells_dy, wr, -cellsOf]
  refine draw_at [1, 3, 1, 3, 0] orders (by kernel_rfl) ?_
  simp [cells_ag, -cellsOf]
  refine acall_by cAb (by simp [dy]) ?_
  rintro _ ⟨n9, c9, rfl⟩
  simp [cells_ag, -cellsOf]
  refine acall_by (cC n9 c9 n8 c8) (by simp [dy]) ?_
  rintro _ rfl
  by_cases hcm : 0 < cm
  · rw [decide_eq_true hcm] at hoff
    simp [hcm]
    exact hK _ _ _ (.same _ (pu_tup (by simp))) (.inl ⟨g, hlt, hoff, hgood, rfl⟩)
  · rw [decide_eq_false hcm] at hoff
    have w4 : IntKind.i64.wrap ((g : Int) + 1) = ((g + 1 : Nat) : Int) := w64 _ (by omega) (by omega)
    simp [hcm, w4, -Int.natCast_add]
    refine hL1 (g + 1) _ _ ⟨by omega, fun p hp => ?_⟩ (Wk.lst_drop 3 rfl (by simp) (by simp) (by simp) ?_) (by show n - (g + 1) < n - g; omega)
    · by_cases hpg : p = g
      · subst hpg; exact hoff
      · exact hgood p (by omega)
    · intro b hb _ z hz
      simp only [List.mem_cons, List.not_mem_nil, or_false] at hb
      rcases hb with rfl | rfl | rfl
      · simp at hz; rcases hz with rfl | rfl <;> simp
      · exact sc_dcs _ _ z hz
      · exact sc_dcs _ _ z hz
end Go.Proofs.Nt
/- Gram lists, in plain Lean. -/
set_option linter.unusedVariables false
set_option maxRecDepth 20000
set_option linter.unusedSimpArgs false
namespace Go.Proofs.Nt
open Go Go.Proofs

/-- The first rows of products. -/
def prodRows (l : List Dy) : Nat → List Dy
  | 0 => []
  | p + 1 => prodRows l p ++ (l.drop p).map (mulD (l.getD p zeroD))
def rowG (x : List Nat) (y : Nat) : List Dy := prodRows ((x ++ [y]).map fromD) (x.length + 1)
def rowQ (x : List Nat) (y : Nat) : Bool := decide (1 ≤ x.length) && decide (x.length ≤ 6) && (x ++ [y]).all fin

def addL (a b : List Dy) : List Dy := List.zipWith addD a b
def subL (a b : List Dy) : List Dy := List.zipWith (fun x y => addD x (oppD y)) a b

/-- Dyads that may be, of few digits. -/
def Okl (L H : Int) (l : List Dy) : Prop := ∀ d ∈ l, dOK d ∧ Bd L H d
theorem okl_prod {l : List Dy} (h : Okl (-1074) 1024 l) : ∀ p, Okl (-2148) 2048 (prodRows l p)
  | 0 => by intro d hd; cases hd
  | p + 1 => by
    intro d hd
    unfold prodRows at hd
    rcases List.mem_append.1 hd with hd | hd
    · exact okl_prod h p d hd
    · obtain ⟨e, he, rfl⟩ := List.mem_map.1 hd
      have h1 := h e (List.mem_of_mem_drop he)
      refine ⟨ok_mul _ _, ?_⟩
      by_cases hp : p < l.length
      · have hg : l.getD p zeroD = l[p] := by simp [hp]
        rw [hg]
        exact bd_mul (h _ (List.getElem_mem hp)).2 h1.2
      · have hg : l.getD p zeroD = zeroD := by simp [hp]
        rw [hg]
        exact bd_mul (bd_zero (-1074) 1024) h1.2
theorem okl_from (l : List Nat) : Okl (-1074) 1024 (l.map fromD) := by
  intro d hd
  obtain ⟨b, _, rfl⟩ := List.mem_map.1 hd
  exact ⟨ok_from b, from_bd b⟩
theorem okl_row (x : List Nat) (y : Nat) : Okl (-2148) 2048 (rowG x y) := okl_prod (okl_from _) _
theorem prod_len (l : List Dy) : ∀ p, (prodRows l p).length = (List.range p).foldl (fun s q => s + (l.length - q)) 0
  | 0 => rfl
  | p + 1 => by
    unfold prodRows
    rw [List.length_append, prod_len l p, List.length_map, List.length_drop, List.range_succ, List.foldl_append]
    rfl
theorem row_len {x : List Nat} {y : Nat} (h : x.length ≤ 6) : (rowG x y).length = (x.length + 1) * (x.length + 2) / 2 := by
  unfold rowG
  rw [prod_len]
  have hl : ((x ++ [y]).map fromD).length = x.length + 1 := by simp
  rw [hl]
  generalize x.length = n at *
  have : ∀ n : Fin 7, (List.range (n.1 + 1)).foldl (fun s q => s + (n.1 + 1 - q)) 0 = (n.1 + 1) * (n.1 + 2) / 2 := by decide
  exact this ⟨n, by omega⟩

theorem addL_len {a b : List Dy} (h : a.length = b.length) : (addL a b).length = a.length := by simp [addL]; omega
theorem addL_get {a b : List Dy} {q : Nat} (ha : q < a.length) (hb : q < b.length) : (addL a b).getD q zeroD = addD (a.getD q zeroD) (b.getD q zeroD) := by
  simp [addL, List.getElem?_zipWith, ha, hb]
theorem okl_add {L H : Int} {a b : List Dy} (ha : Okl L H a) (hb : Okl L H b) (hL : L ≤ 0) : Okl L (H + 1) (addL a b) := by
  intro d hd
  unfold addL at hd
  obtain ⟨q, hq, rfl⟩ := List.getElem_of_mem hd
  rw [List.getElem_zipWith]
  simp at hq
  have h1 := ha _ (List.getElem_mem (show q < a.length by omega))
  have h2 := hb _ (List.getElem_mem (show q < b.length by omega))
  exact ⟨ok_add _ _, bd_add h1.1 h2.1 h1.2 h2.2 hL⟩

/-! ### Squares -/
def sab : List (Int × Int) → Int
  | [] => 0
  | (a, b) :: l => a * b + sab l
def saa : List (Int × Int) → Int
  | [] => 0
  | (a, _) :: l => a * a + saa l
def sbb : List (Int × Int) → Int
  | [] => 0
  | (_, b) :: l => b * b + sbb l
theorem sq_nonneg (a : Int) : 0 ≤ a * a := by
  rcases Int.le_total 0 a with h | h
  · exact Int.mul_nonneg h h
  · exact Int.mul_nonneg_of_nonpos_of_nonpos h h
theorem saa_pos : ∀ l, 0 ≤ saa l
  | [] => Int.le_refl _
  | (a, _) :: l => by have := sq_nonneg a; have := saa_pos l; unfold saa; omega
theorem sbb_pos : ∀ l, 0 ≤ sbb l
  | [] => Int.le_refl _
  | (_, b) :: l => by have := sq_nonneg b; have := sbb_pos l; unfold sbb; omega
theorem cs_mid (a b : Int) : ∀ l, 2 * (a * b * sab l) ≤ a * a * sbb l + b * b * saa l
  | [] => by unfold sab sbb saa; simp
  | (x, y) :: l => by
    have ih := cs_mid a b l
    unfold sab sbb saa
    have h := sq_nonneg (a * y - b * x)
    have e1 : (a * y - b * x) * (a * y - b * x) = a * a * (y * y) - 2 * (a * b * (x * y)) + b * b * (x * x) := by
      rw [Int.sub_mul, Int.mul_sub, Int.mul_sub]
      have e2 : a * y * (a * y) = a * a * (y * y) := by ac_rfl
      have e3 : b * x * (b * x) = b * b * (x * x) := by ac_rfl
      have e4 : a * y * (b * x) = a * b * (x * y) := by ac_rfl
      have e5 : b * x * (a * y) = a * b * (x * y) := by ac_rfl
      rw [e2, e3, e4, e5]; omega
    rw [Int.mul_add (a * b), Int.mul_add (a * a), Int.mul_add (b * b)]
    omega
/-- No sum's square is above the product of the sums of squares. -/
theorem cs_sums : ∀ l, sab l * sab l ≤ saa l * sbb l
  | [] => by unfold sab saa sbb; simp
  | (a, b) :: l => by
    have ih := cs_sums l
    have hm := cs_mid a b l
    unfold sab saa sbb
    generalize sab l = s at *
    generalize saa l = p at *
    generalize sbb l = q at *
    have e1 : (a * b + s) * (a * b + s) = a * a * (b * b) + 2 * (a * b * s) + s * s := by
      rw [Int.add_mul, Int.mul_add, Int.mul_add]
      have e2 : a * b * (a * b) = a * a * (b * b) := by ac_rfl
      have e3 : s * (a * b) = a * b * s := by ac_rfl
      rw [e2, e3]; omega
    have e4 : (a * a + p) * (b * b + q) = a * a * (b * b) + (a * a * q + b * b * p) + p * q := by
      rw [Int.add_mul, Int.mul_add, Int.mul_add]
      have : p * (b * b) = b * b * p := by ac_rfl
      rw [this]; omega
    rw [e1, e4]
    omega
end Go.Proofs.Nt
/- Near: the document's Normal. -/
set_option linter.unusedVariables false
set_option maxRecDepth 20000
set_option linter.unusedSimpArgs false
set_option linter.unnecessarySimpa false
namespace Go.Proofs.Nt
open Go Go.Proofs Go.Proofs.Va Go.RowKit

theorem rnormal_ctr (c k : Int) (N I : LV) (xn : Bool) (x : List Nat) (xc : Option Nat) (hN : DvOk N.l) (hI : DvOk I.l) (hx : Fl x) (hxl : x.length ≤ 12) :
    Ctr Tryz.prog 21 [i c, N.av, I.av, fsl xn x xc, i k] (norP N.l I.l c k x) := by
  refine ctr_in Tryz.func21 rfl (by kernel_rfl) rfl fun K hK => ?_
  simp only [Tryz.f21, List.append_eq, List.cons_append, List.nil_append]
  have hbad : ¬ norV N.l I.l c k x → ∀ σ, K (.tup [.v (.int .i64 0), .v (.bool false)]) σ := by
    intro h σ
    refine hK _ _ _ (.same _ (pu_tup (by simp))) ?_
    unfold norP; rw [if_neg h]; rfl
  have hlen : ∀ σ (K : AV → AHeap → Prop), aLen Tryz.prog 40 (fsl xn x xc) σ K = K (i x.length) σ := fun σ K => by simp [fsl]
  simp
  refine acall_by (rsize_ctr c) (by simp) ?_
  rintro _ rfl
  by_cases a1 : sizeI c = 0
  · simp [a1]
    refine hbad ?_ _
    rintro ⟨h1, _⟩
    have := (size_facts h1).2.2
    omega
  have hc : 1 ≤ c ∧ c ≤ 6 := by
    apply Classical.byContradiction
    intro h
    exact a1 (if_neg h)
  obtain ⟨n, rfl⟩ : ∃ n : Nat, c = n := ⟨c.toNat, by omega⟩
  have hsz : sizeI n = (sizeN n : Int) := by unfold sizeI; rw [if_pos hc]; rfl
  rw [hsz] at a1
  have a1' : ¬ sizeN n = 0 := by omega
  by_cases lN : N.l.length = sizeN n
  case neg =>
    have lN' : ¬ ((N.l.length : Nat) : Int) = (sizeN n : Int) := by omega
    simp [hsz, a1, a1', lN, lN']
    exact hbad (fun h => lN h.2.1) _
  by_cases lI : I.l.length = sizeN n
  case neg =>
    have lI' : ¬ ((I.l.length : Nat) : Int) = (sizeN n : Int) := by omega
    simp [hsz, a1, a1', lN, lI, lI']
    exact hbad (fun h => lI h.2.2.1) _
  by_cases hxn : x.length = n
  case neg =>
    have hxn' : ¬ ((x.length : Nat) : Int) = (n : Int) := by omega
    simp [hsz, a1, a1', lN, lI, hlen, hxn, hxn']
    exact hbad (fun h => hxn h.2.2.2.1) _
  by_cases k1 : k < 0
  · have k1' : ¬ 0 ≤ k := by omega
    simp [hsz, a1, a1', lN, lI, hlen, hxn, k1, k1']
    exact hbad (fun h => by have := h.2.2.2.2.1; omega) _
  by_cases k2 : 99999 < k
  · have k1' : 0 ≤ k := by omega
    simp [hsz, a1, a1', lN, lI, hlen, hxn, k1, k1', k2]
    exact hbad (fun h => by have := h.2.2.2.2.1; omega) _
  have hk : 0 ≤ k ∧ k ≤ 99999 := by omega
  have hcn : n ≤ 6 := by omega
  have hc1 : 1 ≤ n := by omega
  simp [hsz, a1, a1', lN, lI, hlen, hxn, k1, k2, hk.1, hk.2]
  refine loop_on (γ := Nat × List DV) 166 (fun g => [(0, i n), (1, N.av), (2, I.av), (3, fsl xn x xc), (4, i k), (13, match g.1 with | 0 => .pl true [] 0 (some 0) | q + 1 => .so 2 q 0 (q + 1) 3 none), (14, i g.1)])
    (fun g => match g.1 with
      | 0 => []
      | q + 1 => [⟨.own, 0, [.any, .any, .any]⟩, ⟨.own, 0, [.any, .any, .any]⟩, ⟨.own, q, dcs g.2⟩])
    (fun g => g.1 ≤ n ∧ g.2.length = g.1 ∧ ∀ q, q < g.1 → fin (x.getD q 0) = true ∧ (gv g.2 q).d = fromD (x.getD q 0)) (fun g => n - g.1)
    (0, []) ⟨Nat.zero_le _, rfl, fun q hq => by omega⟩ (Wk.lst (by simp [fsl]) (by simp)) ?_
  rintro ⟨g, vs⟩ ⟨hg, hvl, hvs⟩ L hL
  simp only at hg hvl hvs
  by_cases hlt : g < n
  · have hgx : g < x.length := by omega
    have hb := hx _ (List.getElem_mem hgx)
    have hgd : x.getD g 0 = x[g] := by simp [hgx]
    have hfr := rfrom3_ctr hb
    rw [fTold_eq, ← hgd] at hfr
    rw [← hgd] at hb
    have hw1 : IntKind.i64.wrap ((g : Int) + 1) = ((g + 1 : Nat) : Int) := w64 _ (by omega) (by omega)
    by_cases hfk : fin (x.getD g 0) = true
    · rw [hfk] at hfr
      have hpre : ∀ n1 c1, g + 1 ≤ n ∧ (vs ++ [toV (fromD (x.getD g 0)) n1 c1]).length = g + 1 ∧ ∀ q, q < g + 1 → fin (x.getD q 0) = true ∧ (gv (vs ++ [toV (fromD (x.getD g 0)) n1 c1]) q).d = fromD (x.getD q 0) := by
        intro n1 c1
        refine ⟨by omega, by simp [hvl], fun q hq => ?_⟩
        by_cases hqg : q = g
        · subst hqg
          rw [gv_at (by simp; omega)]
          refine ⟨hfk, ?_⟩
          simp [hvl]; rfl
        · rw [gv_at (by simp; omega), List.getElem_append_left (by omega), ← gv_at]
          exact hvs q (by omega)
      have hnext := fun n1 c1 => hL (g + 1, vs ++ [toV (fromD (x.getD g 0)) n1 c1])
      generalize hxg : x.getD g 0 = xg at *
      generalize fromD xg = d at *
      have hvl3 := dcs_len vs
      rcases g with _ | g
      · have hnil : vs = [] := List.eq_nil_of_length_eq_zero hvl
        subst hnil
        simp [hlen, hxn, hlt, hgx, fsl, ← hgd]
        refine acall_by hfr (by simp) ?_
        rintro _ ⟨n1, c1, rfl⟩
        simp [cells_dy, cells_ag, wr, -cellsOf]
        refine hnext n1 c1 _ _ (hpre n1 c1) ?_ (by show n - 1 < n - 0; omega)
        exact Wk.lst_of (by simp [fsl, hxn]; rfl) (by simp) (by simp [toV, dcs, DV.cs]) (by simp [fsl]) (by simp [toV, dcs, DV.cs, sl])
      · simp only
        generalize hq : g + 1 = q at *
        have htake : List.take (q * 3) (dcs vs) = dcs vs := List.take_of_length_le (by omega)
        have hql : q ≤ 1000 := by omega
        simp [hlen, hxn, hlt, hgx, fsl, ← hgd]
        refine acall_by hfr (by simp) ?_
        rintro _ ⟨n1, c1, rfl⟩
        simp [cells_dy, cells_ag, wr, hw1, htake, -cellsOf, -Int.natCast_add]
        refine ⟨by omega, by omega, ?_⟩
        refine hnext n1 c1 _ _ (hpre n1 c1) (Wk.lst_of (by simp [fsl, hxn, hq]) (by simp) (by simp [dcs_snoc, toV, DV.cs, hq]) (by simp [fsl]) ?_) (by show n - (q + 1) < n - q; omega)
        intro b hb z hz
        simp at hb
        rcases hb with rfl | rfl
        · have : z = .any := by simpa using hz
          subst this; simp
        · exact sc_dcs _ _ _ hz
    · have hfk' : fin (x.getD g 0) = false := by simpa using hfk
      rw [hfk'] at hfr
      generalize fromD (x.getD g 0) = d at *
      have hbd : ∀ σ, K (.tup [.v (.int .i64 0), .v (.bool false)]) σ := hbad (fun h => hfk (by
        have := h.2.2.2.2.2
        rw [List.all_eq_true] at this
        rw [hgd]
        exact this _ (List.getElem_mem hgx)))
      rcases g with _ | g
      · simp [hlen, hxn, hlt, hgx, fsl]
        rw [← hgd]
        refine acall_by hfr (by simp) ?_
        rintro _ ⟨n1, c1, rfl⟩
        simp [cells_dy, cells_ag, wr, -cellsOf]
        exact hbd _
      · simp [hlen, hxn, hlt, hgx, fsl, -Int.natCast_add]
        rw [← hgd]
        refine acall_by hfr (by simp) ?_
        rintro _ ⟨n1, c1, rfl⟩
        simp [cells_dy, cells_ag, wr, -cellsOf]
        exact hbd _
  obtain rfl : n = g := by omega
  have hfin : x.all fin = true := by
    rw [List.all_eq_true]
    intro y hy
    obtain ⟨q, hq, rfl⟩ := List.getElem_of_mem hy
    have := (hvs q (by omega)).1
    simpa [hq] using this
  have hv : norV N.l I.l n k x := ⟨hc, lN, lI, hxn, hk, hfin⟩
  simp only [norP, if_pos hv, Int.toNat_natCast] at hK
  clear hbad hv hL
  have cN := rnorms_ctr I.nl I.cap hc1 hcn lI hI
  change Ctr _ _ [i n, I.av] _ at cN
  have cP := rpow_ctr 0
  change Ctr _ _ _ (dTold (sumU I.l n 0)) at cP
  obtain ⟨k0, hk0⟩ : ∃ k0, n = k0 + 1 := ⟨n - 1, by omega⟩
  rw [hk0]
  simp only
  rw [← hk0]
  simp [hlen, hxn]
  refine acall_by cN (by simp) ?_
  rintro _ ⟨us, un, uc, ⟨u1, u2⟩, rfl⟩
  obtain ⟨U, hU⟩ : ∃ U : LV, U = ⟨un, us, uc⟩ := ⟨_, rfl⟩
  have hUa : dsl un us uc = U.av := by rw [hU]; rfl
  have hUl : U.l = us := by rw [hU]
  rw [hUa]
  subst hUl
  clear hU hUa
  simp
  refine acall_by cP (by simp) ?_
  rintro _ ⟨p0, q0, rfl⟩
  simp [cells_dy, wr, -cellsOf]
  refine loop_on (γ := Nat × Bool × Option Nat) 166 (fun g => [(0, i n), (1, N.av), (4, i k), (13, .so 2 k0 0 n 3 none), (17, U.av), (18, .po 3 0 0), (19, i g.1)])
    (fun g => [⟨.own, 0, [.any, .any, .any]⟩, ⟨.own, 0, [.any, .any, .any]⟩, ⟨.own, k0, dcs vs⟩, ⟨.own, 0, [bo (sumU I.l n g.1).1, sl g.2.1 (sumU I.l n g.1).2.1 g.2.2, i (sumU I.l n g.1).2.2]⟩])
    (fun g => g.1 ≤ n + 1) (fun g => n + 1 - g.1)
    (0, p0, q0) (Nat.zero_le _) (Wk.lst (by simp) (by simp)) ?_
  rintro ⟨m, sn, sc'⟩ hm L0 hL0
  have hm : m ≤ n + 1 := hm
  have hw1 : IntKind.i64.wrap ((m : Int) + 1) = ((m + 1 : Nat) : Int) := w64 _ (by omega) (by omega)
  by_cases hlm : m ≤ n
  · have rM := dcs_read (l := U.l) (k := m) (by omega)
    rw [av_of (u2 m hlm)] at rM
    have oS := ok_sumU I.l n m
    have lS := bd_len oS (bd_sumU hI n m) (k := 900) (by omega)
    have oU := ok_upE I.l n m
    have lU := bd_len oU (bd_upE hI n m) (k := 900) (by omega)
    have cA := raddX (n := sn) (c := sc') (n' := (gv U.l m).nl) (c' := (gv U.l m).cap) oS (by omega) oU (by omega)
    change Ctr _ _ _ (dTold (sumU I.l n (m + 1))) at cA
    have hnext := fun n1 c1 => hL0 (m + 1, n1, c1)
    clear hL0 oS lS oU lU
    generalize hS1 : sumU I.l n (m + 1) = s1 at *
    generalize sumU I.l n m = s0 at *
    generalize upE I.l n m = dU at *
    generalize (gv U.l m).nl = gn at *
    generalize (gv U.l m).cap = gc at *
    have hmU : m < U.l.length := by omega
    have om0 : m * 3 < (dcs U.l).length := by rw [dcs_len]; omega
    have om3 : m * 3 + 3 ≤ (dcs U.l).length := by rw [dcs_len]; omega
    simp [hlm]
    refine draw_at [1, 0, 0, 1, 1, 3, 4] orders (by kernel_rfl) ?_
    simp [hmU, om0, om3, rM, cells_ag, -cellsOf]
    refine acall_by cA (by simp [dy]) ?_
    rintro _ ⟨n1, c1, rfl⟩
    simp [cells_dy, wr, hw1, -cellsOf, -Int.natCast_add]
    subst hS1
    refine hnext n1 c1 _ _ (by show m + 1 ≤ n + 1; omega) (Wk.lst (by simp) (by simp)) (by show n + 1 - (m + 1) < n + 1 - m; omega)
  obtain rfl : m = n + 1 := by omega
  have hnl : ¬ ((n : Int) + 1 ≤ n) := by omega
  clear hL0
  have hsc : ∀ b ∈ ([⟨.own, 0, [.any, .any, .any]⟩, ⟨.own, 0, [.any, .any, .any]⟩, ⟨.own, k0, dcs vs⟩, ⟨.own, 0, [bo (sumU I.l n (n + 1)).1, sl sn (sumU I.l n (n + 1)).2.1 sc', i (sumU I.l n (n + 1)).2.2]⟩] : AHeap), ∀ z ∈ b.cells, ∀ N, Sc N z := by
    intro b hb z hz N
    simp only [List.mem_cons, List.not_mem_nil, or_false] at hb
    rcases hb with rfl | rfl | rfl | rfl
    · have : z = .any := by simpa using hz
      subst this; simp
    · have : z = .any := by simpa using hz
      subst this; simp
    · exact sc_dcs _ _ z hz
    · simp at hz; rcases hz with rfl | rfl | rfl <;> simp [sl]
  simp [hnl]
  refine loop_on (γ := Nat) 166 (fun g => [(0, i n), (1, N.av), (4, i k), (13, .so 2 k0 0 n 3 none), (17, U.av), (18, .po 3 0 0), (20, i g)])
    (fun _ => [⟨.own, 0, [.any, .any, .any]⟩, ⟨.own, 0, [.any, .any, .any]⟩, ⟨.own, k0, dcs vs⟩, ⟨.own, 0, [bo (sumU I.l n (n + 1)).1, sl sn (sumU I.l n (n + 1)).2.1 sc', i (sumU I.l n (n + 1)).2.2]⟩])
    (fun g => g ≤ n ∧ ∀ p, p < g → offB N.l I.l n k x p = false) (fun g => n - g)
    0 ⟨Nat.zero_le _, fun p h => by omega⟩ (Wk.lst (by simp) (by simp)) ?_
  rintro g ⟨hg, hgood⟩ L1 hL1
  by_cases hlt : g < n
  case neg =>
    obtain rfl : n = g := by omega
    simp
    exact hK _ _ _ (.same _ (pu_tup (by simp))) (.inr ⟨fun p h1 => hgood p h1, rfl⟩)
  have rI := dcs_read (l := U.l) (k := g) (by omega)
  have rIn := dcs_read (l := U.l) (k := n) (by omega)
  rw [av_of (u2 g (by omega))] at rI
  rw [av_of (u2 n (by omega))] at rIn
  have cE := rentry_ctr N.nl N.cap hc1 hcn (i' := g) (j' := n) (by omega) (by omega) lN hN
  change Ctr _ _ [i n, N.av, i g, i n] (dTold (leftD N.l n x g 0)) at cE
  have cB := rnbound_ctr (k := k + 1) (gv U.l g).nl (gv U.l n).nl (gv U.l g).cap (gv U.l n).cap (by omega) (ok_upE I.l n g) (ok_upE I.l n n) (bd_upE hI n g) (bd_upE hI n n)
  have wk1' : IntKind.i64.wrap (k + 1) = k + 1 := w64 _ (by omega) (by omega)
  change Ctr _ _ _ (dTold (mostD I.l n k x g 0)) at cB
  have hgU : g < U.l.length := by omega
  have hnU : n < U.l.length := by omega
  have og0 : g * 3 < (dcs U.l).length := by rw [dcs_len]; omega
  have on0 : n * 3 < (dcs U.l).length := by rw [dcs_len]; omega
  have og3 : g * 3 + 3 ≤ (dcs U.l).length := by rw [dcs_len]; omega
  have on3 : n * 3 + 3 ≤ (dcs U.l).length := by rw [dcs_len]; omega
  generalize hL00 : leftD N.l n x g 0 = D0 at *
  generalize hM00 : mostD I.l n k x g 0 = M0 at *
  generalize hSall : sumU I.l n (n + 1) = Sa at *
  simp [hlt]
  refine acall_by cE (by simp) ?_
  rintro _ ⟨l1, b1, rfl⟩
  simp [cells_dy, wr, -cellsOf]
  refine draw_at [0, 0, 1, 1, 0, 0, 1, 1, 0, 0, 5, 2, 4] orders (by kernel_rfl) ?_
  simp [hgU, hnU, og0, on0, og3, on3, rI, rIn, wk1', -cellsOf]
  refine actr_by cB (by simp [dy]) ⟨_, told_ex M0⟩ ?_
  rintro _ ⟨m1, d1, rfl⟩
  simp [cells_dy, wr, -cellsOf]
  refine ⟨same_pre (by simp) (by simp) rfl, ?_⟩
  simp [cells_dy, wr, -cellsOf]
  subst hL00
  subst hM00
  refine loop_on (γ := Nat × Bool × Option Nat × Bool × Option Nat) 166 (fun g' => [(0, i n), (1, N.av), (4, i k), (13, .so 2 k0 0 n 3 none), (17, U.av), (18, .po 3 0 0), (20, i g), (21, .po 4 0 0), (22, .po 5 0 0), (23, i g'.1)])
    (fun g' => [⟨.own, 0, [.any, .any, .any]⟩, ⟨.own, 0, [.any, .any, .any]⟩, ⟨.own, k0, dcs vs⟩, ⟨.own, 0, [bo Sa.1, sl sn Sa.2.1 sc', i Sa.2.2]⟩,
      ⟨.own, 0, [bo (leftD N.l n x g g'.1).1, sl g'.2.1 (leftD N.l n x g g'.1).2.1 g'.2.2.1, i (leftD N.l n x g g'.1).2.2]⟩, ⟨.own, 0, [bo (mostD I.l n k x g g'.1).1, sl g'.2.2.2.1 (mostD I.l n k x g g'.1).2.1 g'.2.2.2.2, i (mostD I.l n k x g g'.1).2.2]⟩])
    (fun g' => g'.1 ≤ n) (fun g' => n - g'.1)
    (0, l1, b1, m1, d1) (Nat.zero_le _) (Wk.lst (by simp) (by simp)) ?_
  rintro ⟨j, ln, lc, mn, mc⟩ hj L2 hL2
  have hj : j ≤ n := hj
  have oL := ok_left x g hN (c := n) j
  have lL := bd_len oL (bd_left x g hN j) (k := 900) (by omega)
  have oM := ok_most x g hI hk (c := n) j
  have lM := bd_len oM (bd_most x g hI hk j) (k := 900) (by omega)
  by_cases hlj : j < n
  · have rV := dcs_read (l := vs) (k := j) (by omega)
    rw [av_of (hvs j hlj).2] at rV
    have rJ := dcs_read (l := U.l) (k := j) (by omega)
    rw [av_of (u2 j (by omega))] at rJ
    have oF := ok_from (x.getD j 0)
    have lF := bd_len oF (from_bd (x.getD j 0)) (k := 900) (by omega)
    have cE2 := rentry_ctr N.nl N.cap hc1 hcn (i' := g) (j' := j) (by omega) (by omega) lN hN
    change Ctr _ _ [i n, N.av, i g, i j] _ at cE2
    obtain ⟨p1, p2, p3⟩ := hN.at (entN n g j)
    have oE : dOK (entV N.l n g j).m := ok_may p1
    have lE : (entV N.l n g j).m.2.1.length ≤ 900 := may_len p2
    have oP : dOK (mulD (entV N.l n g j).m (fromD (x.getD j 0))) := ok_mul _ _
    have lP := bd_len oP (bd_prodE x g hN j) (k := 900) (by omega)
    have cMul := fun n1 c1 => rmulX (n := n1) (c := c1) (n' := (gv vs j).nl) (c' := (gv vs j).cap) oE (by omega) oF (by omega)
    have cSub := fun pn pc => rsubX (n := ln) (c := lc) (n' := pn) (c' := pc) oL (by omega) oP (by omega)
    change ∀ pn pc, Ctr _ _ _ (dTold (leftD N.l n x g (j + 1))) at cSub
    have cB2 := rnbound_ctr (k := k + 1) (gv U.l g).nl (gv U.l j).nl (gv U.l g).cap (gv U.l j).cap (by omega) (ok_upE I.l n g) (ok_upE I.l n j) (bd_upE hI n g) (bd_upE hI n j)
    have oB := ok_bound (upE I.l n g) (upE I.l n j) (k + 1)
    have lB := bd_len oB (bd_bnd hI hk g j) (k := 900) (by omega)
    have cAb := rabsC (n := (gv vs j).nl) (c := (gv vs j).cap) oF (by omega)
    have oA := ok_absX (fromD (x.getD j 0))
    have lA := bd_len oA (bd_absX (from_bd (x.getD j 0))) (k := 900) (by omega)
    have cM2 := fun n1 c1 n2 c2 => rmulX (n := n1) (c := c1) (n' := n2) (c' := c2) oB (by omega) oA (by omega)
    have oP2 := ok_mul (boundD (upE I.l n g) (upE I.l n j) (k + 1)) (absX (fromD (x.getD j 0)))
    have lP2 := bd_len oP2 (bd_prodB x g hI hk j) (k := 900) (by omega)
    have cA2 := fun n2 c2 => raddX (n := mn) (c := mc) (n' := n2) (c' := c2) oM (by omega) oP2 (by omega)
    change ∀ n2 c2, Ctr _ _ _ (dTold (mostD I.l n k x g (j + 1))) at cA2
    have hnext := fun ln lc n1 c1 => hL2 (j + 1, ln, lc, n1, c1)
    clear hL2 oP lP oB lB oA lA oP2 lP2 oM lM oL lL oE lE p1 p2 p3
    generalize hdL : leftD N.l n x g (j + 1) = dL at *
    generalize leftD N.l n x g j = dL0 at *
    generalize mostD I.l n k x g j = dM at *
    generalize hMj1 : mostD I.l n k x g (j + 1) = dM1 at *
    generalize mulD (boundD (upE I.l n g) (upE I.l n j) (k + 1)) (absX (fromD (x.getD j 0))) = dP2 at *
    generalize boundD (upE I.l n g) (upE I.l n j) (k + 1) = dB at *
    generalize mulD (entV N.l n g j).m (fromD (x.getD j 0)) = dP at *
    generalize absX (fromD (x.getD j 0)) = dA at *
    generalize fromD (x.getD j 0) = dF at *
    generalize (entV N.l n g j).m = E2 at *
    generalize upE I.l n g = dg' at *
    generalize upE I.l n j = dj' at *
    generalize (gv vs j).nl = vn at *
    generalize (gv vs j).cap = vc at *
    generalize (gv U.l g).nl = gn at *
    generalize (gv U.l g).cap = gc at *
    generalize (gv U.l j).nl = jn at *
    generalize (gv U.l j).cap = jc at *
    have hjU : j < U.l.length := by omega
    have oj0 : j * 3 < (dcs U.l).length := by rw [dcs_len]; omega
    have oj3 : j * 3 + 3 ≤ (dcs U.l).length := by rw [dcs_len]; omega
    have ov3 : j * 3 + 3 ≤ (dcs vs).length := by rw [dcs_len]; omega
    have w3 : IntKind.i64.wrap ((j : Int) + 1) = ((j + 1 : Nat) : Int) := w64 _ (by omega) (by omega)
    simp [hlj]
    refine draw_at [1, 0, 0, 0, 0, 3, 0, 0, 1, 1, 3, 3, 4] orders (by kernel_rfl) ?_
    simp [hlj, ov3, rV, cells_ag, -cellsOf]
    refine acall_by cE2 (by simp) ?_
    rintro _ ⟨n1, c1, rfl⟩
    simp [hlj, ov3, rV, cells_ag, -cellsOf]
    refine acall_by (cMul n1 c1) (by simp [dy]) ?_
    rintro _ ⟨n2, c2, rfl⟩
    simp [cells_ag, -cellsOf]
    refine acall_by (cSub n2 c2) (by simp [dy]) ?_
    rintro _ ⟨n3, c3, rfl⟩
    simp [cells_dy, wr, -cellsOf]
    refine draw_at [1, 0, 0, 1, 1, 0, 0, 1, 1, 0, 0, 3, 0, 0, 1, 1, 3, 3, 3, 4] orders (by kernel_rfl) ?_
    simp [hlj, hgU, hjU, og0, oj0, og3, oj3, rI, rJ, wk1', cells_ag, -cellsOf]
    refine acall_by cB2 (by simp [dy]) ?_
    rintro _ ⟨n4, c4, rfl⟩
    simp [hlj, ov3, rV, cells_ag, -cellsOf]
    refine acall_by cAb (by simp [dy]) ?_
    rintro _ ⟨n5, c5, rfl⟩
    simp [cells_ag, -cellsOf]
    refine acall_by (cM2 n4 c4 n5 c5) (by simp [dy]) ?_
    rintro _ ⟨n6, c6, rfl⟩
    simp [cells_ag, -cellsOf]
    refine acall_by (cA2 n6 c6) (by simp [dy]) ?_
    rintro _ ⟨n7, c7, rfl⟩
    simp [cells_dy, wr, w3, -cellsOf, -Int.natCast_add]
    subst hMj1
    subst hdL
    refine hnext n3 c3 n7 c7 _ _ (by show j + 1 ≤ n; omega) (Wk.lst (by simp) (by simp)) (by show n - (j + 1) < n - j; omega)
  obtain rfl : n = j := by omega
  have oU := ok_upE I.l n g
  have lU := bd_len oU (bd_upE hI n g) (k := 900) (by omega)
  have oW := ok_pow (-1060)
  have lW := bd_len oW (bd_pow (-1060)) (k := 900) (by omega)
  have cT := rpow_ctr (-1060)
  have oN1 := ok_add (upE I.l n g) (powD (-1060))
  have lN1 := bd_len oN1 (bd_near1 g hI (c := n)) (k := 900) (by omega)
  have cA1 := fun n2 c2 => raddX (n := (gv U.l g).nl) (c := (gv U.l g).cap) (n' := n2) (c' := c2) oU (by omega) oW (by omega)
  have oSm := ok_sumU I.l n (n + 1)
  have lSm := bd_len oSm (bd_sumU hI n (n + 1)) (k := 900) (by omega)
  have cM1 := fun n1 c1 n2 c2 => rmulX (n := n1) (c := c1) (n' := n2) (c' := c2) oN1 (by omega) oSm (by omega)
  change ∀ n1 c1 n2 c2, Ctr _ _ _ (dTold (restD I.l n g)) at cM1
  rw [hSall] at cM1
  have oR : dOK (restD I.l n g) := ok_mul _ _
  have lR := bd_len oR (bd_rest g hI hcn) (k := 900) (by omega)
  have cM2 := fun n1 c1 n2 c2 => rmulX (n := n1) (c := c1) (n' := n2) (c' := c2) oR (by omega) oW (by omega)
  have oR2 : dOK (mulD (restD I.l n g) (powD (-1060))) := ok_mul _ _
  have lR2 := bd_len oR2 (bd_rest2 g hI hcn) (k := 900) (by omega)
  have cA2 := fun n2 c2 => raddX (n := mn) (c := mc) (n' := n2) (c' := c2) oM (by omega) oR2 (by omega)
  change ∀ n2 c2, Ctr _ _ _ (dTold (allD I.l n k x g)) at cA2
  have oAl : dOK (allD I.l n k x g) := ok_add _ _
  have lAl := bd_len oAl (bd_all x g hI hk hcn) (k := 900) (by omega)
  have cAb := rabsC (n := ln) (c := lc) oL (by omega)
  have oAb := ok_absX (leftD N.l n x g n)
  have lAb := bd_len oAb (bd_absX (bd_left x g hN n)) (k := 900) (by omega)
  have cC := fun n1 c1 n2 c2 => rcmpX (n := n1) (c := c1) (n' := n2) (c' := c2) oAb (by omega) oAl (by omega)
  have hoff : offB N.l I.l n k x g = decide (0 < cmpD (absX (leftD N.l n x g n)) (allD I.l n k x g)) := rfl
  clear hL2 oU lU oW lW oN1 lN1 oSm lSm oR lR oR2 lR2 oAl lAl oAb lAb oM lM oL lL
  generalize cmpD (absX (leftD N.l n x g n)) (allD I.l n k x g) = cm at *
  generalize absX (leftD N.l n x g n) = dAb at *
  generalize leftD N.l n x g n = dLn at *
  generalize allD I.l n k x g = dAl at *
  generalize mulD (restD I.l n g) (powD (-1060)) = dR2 at *
  generalize restD I.l n g = dR at *
  generalize addD (upE I.l n g) (powD (-1060)) = dN1 at *
  generalize powD (-1060) = dW at *
  generalize mostD I.l n k x g n = dM at *
  generalize upE I.l n g = dU at *
  generalize (gv U.l g).nl = gn at *
  generalize (gv U.l g).cap = gc at *
  simp
  refine draw_at [0, 0, 1, 1, 5, 5, 1, 5, 2, 4] orders (by kernel_rfl) ?_
  simp [hgU, og0, og3, rI, cells_ag, -cellsOf]
  refine actr_by cT (by simp) ⟨_, told_ex dW⟩ ?_
  rintro _ ⟨n2, c2, rfl⟩
  simp [cells_ag, -cellsOf]
  refine actr_by (cA1 n2 c2) (by simp [dy]) ⟨_, told_ex dN1⟩ ?_
  rintro _ ⟨n3, c3, rfl⟩
  simp [cells_ag, -cellsOf]
  refine actr_by (cM1 n3 c3 sn sc') (by simp [dy]) ⟨_, told_ex dR⟩ ?_
  rintro _ ⟨n5, c5, rfl⟩
  simp [cells_dy, wr, -cellsOf]
  refine ⟨same_pre (by simp) (by simp) rfl, ?_⟩
  simp [cells_dy, wr, -cellsOf]
  refine draw_at [1, 1, 3, 3, 3, 4] orders (by kernel_rfl) ?_
  simp [cells_ag, -cellsOf]
  refine acall_by cT (by simp) ?_
  rintro _ ⟨n6, c6, rfl⟩
  simp [cells_ag, -cellsOf]
  refine acall_by (cM2 n5 c5 n6 c6) (by simp [dy]) ?_
  rintro _ ⟨n7, c7, rfl⟩
  simp [cells_ag, -cellsOf]
  refine acall_by (cA2 n7 c7) (by simp [dy]) ?_
  rintro _ ⟨n8, c8, rfl⟩
  simp [cells_dy, wr, -cellsOf]
  refine draw_at [1, 3, 1, 3, 0] orders (by kernel_rfl) ?_
  simp [cells_ag, -cellsOf]
  refine acall_by cAb (by simp [dy]) ?_
  rintro _ ⟨n9, c9, rfl⟩
  simp [cells_ag, -cellsOf]
  refine acall_by (cC n9 c9 n8 c8) (by simp [dy]) ?_
  rintro _ rfl
  by_cases hcm : 0 < cm
  · rw [decide_eq_true hcm] at hoff
    simp [hcm]
    exact hK _ _ _ (.same _ (pu_tup (by simp))) (.inl ⟨g, hlt, hoff, hgood, rfl⟩)
  · rw [decide_eq_false hcm] at hoff
    have w4 : IntKind.i64.wrap ((g : Int) + 1) = ((g + 1 : Nat) : Int) := w64 _ (by omega) (by omega)
    simp [hcm, w4, -Int.natCast_add]
    refine hL1 (g + 1) _ _ ⟨by omega, fun p hp => ?_⟩ (Wk.lst_drop 4 rfl (by simp) (by simp) (by simp) (fun b hb _ z hz => hsc b hb z hz _)) (by show n - (g + 1) < n - g; omega)
    by_cases hpg : p = g
    · subst hpg; exact hoff
    · exact hgood p (by omega)
end Go.Proofs.Nt
/- Lists of dyads that are small; the Gram list of a row, as the document has it. -/
set_option linter.unusedVariables false
set_option maxRecDepth 20000
set_option linter.unusedSimpArgs false
set_option linter.unnecessarySimpa false
namespace Go.Proofs.Nt
open Go Go.Proofs Go.Proofs.Va Go.RowKit

def smallB (d : DV) : Bool := decide (d.a.length ≤ 40) && decide (-4000 ≤ d.e) && decide (d.e ≤ 4000)
def smallL (l : List DV) : Bool := decide (l.length ≤ 40) && l.all smallB
theorem small_ok {l : List DV} (hd : ∀ d ∈ l, Dig d.a) (h : smallL l = true) : DvOk l := by
  intro d hm
  unfold smallL at h
  rw [Bool.and_eq_true, List.all_eq_true] at h
  have h2 := h.2 d hm
  have h2 : (d.a.length ≤ 40 ∧ -4000 ≤ d.e) ∧ d.e ≤ 4000 := by simpa [smallB] using h2
  obtain ⟨⟨a1, a2⟩, a3⟩ := h2
  exact ⟨hd d hm, by omega, (bd_may (bn_len (hd d hm) a1 a2 a3)).mono (by omega) (by omega)⟩

theorem rsmallL_ctr (x : LV) : Ctr Tryz.prog 17 [x.av] (fun r => r = bo (smallL x.l)) := by
  refine ctr_in Tryz.func17 rfl (by kernel_rfl) rfl fun K hK => ?_
  simp only [Tryz.f17, List.append_eq, List.cons_append, List.nil_append]
  by_cases h1 : 40 < x.l.length
  · have : smallL x.l = false := by unfold smallL; rw [decide_eq_false (by omega)]; rfl
    rw [this] at hK
    simp [h1]
    exact hK _ _ _ (.same _ (by simp)) rfl
  simp [h1]
  refine loop_on (γ := Nat) 19 (fun g => [(0, x.av), (3, i g)]) (fun _ => []) (fun g => g ≤ x.l.length ∧ (x.l.take g).all smallB = true) (fun g => x.l.length - g)
    0 ⟨Nat.zero_le _, rfl⟩ (Wk.lst (by simp) (by simp)) ?_
  rintro g ⟨hg, hall⟩ L hL
  by_cases hlt : g < x.l.length
  · have hw1 : IntKind.i64.wrap ((g : Int) + 1) = ((g + 1 : Nat) : Int) := w64 _ (by omega) (by omega)
    have hrd := dcs_read hlt
    have h0 : g * 3 < (dcs x.l).length := by rw [dcs_len]; omega
    have h3 : g * 3 + 3 ≤ (dcs x.l).length := by rw [dcs_len]; omega
    have htk : x.l.take (g + 1) = x.l.take g ++ [x.l[g]] := take_snoc hlt
    have hgv : gv x.l g = x.l[g] := gv_at hlt
    have hmem : x.l[g] ∈ x.l := List.getElem_mem hlt
    have cS := small_ctr (gv x.l g).neg (gv x.l g).nl (gv x.l g).a (gv x.l g).cap (gv x.l g).e
    change Ctr _ _ _ (fun r => r = bo (smallB (gv x.l g))) at cS
    rw [← hgv] at htk hmem
    have hnext := hL (g + 1)
    simp only [htk] at hnext
    obtain ⟨q, hq⟩ : ∃ q, q = smallB (gv x.l g) := ⟨_, rfl⟩
    rw [← hq] at cS
    simp [hlt, h0, h3, hrd, DV.av]
    refine acall_by cS (by simp [dy]) ?_
    rintro _ rfl
    cases q
    · have hf : smallL x.l = false := by
        unfold smallL
        have : x.l.all smallB = false := by
          rw [Bool.eq_false_iff]
          intro h
          rw [List.all_eq_true] at h
          rw [h _ hmem] at hq; cases hq
        rw [this, Bool.and_false]
      rw [hf] at hK
      simp
      exact hK _ _ _ (.same _ (by simp)) rfl
    · simp [hw1, -Int.natCast_add]
      exact hnext _ _ ⟨by omega, by rw [List.all_append, hall]; simp [← hq]⟩ (Wk.lst (by simp) (by simp)) (by show _ - (g + 1) < _ - g; omega)
  · have hge : g = x.l.length := by omega
    subst hge
    rw [List.take_length] at hall
    have hf : smallL x.l = true := by unfold smallL; rw [hall, decide_eq_true (by omega)]; rfl
    rw [hf] at hK
    simp
    exact hK _ _ _ (.same _ (by simp)) rfl

/-! ### The Gram list of a row -/
def rowP (x : List Nat) (y : Nat) (r : AV) : Prop :=
  if rowQ x y = true then ∃ us nl cap, us.map DV.d = rowG x y ∧ r = .tup [dsl nl us cap, bo true] else r = .tup [.pl true [] 0 (some 0), bo false]

/-- An own list of dyads that lies at place k or above. -/
inductive OE (k : Nat) (σ : AHeap) : AV → List DV → Prop
  | nil : OE k σ (.pl true [] 0 (some 0)) []
  | so (j v : Nat) (l : List DV) : k ≤ j → σ[j]? = some ⟨.own, v, dcs l⟩ → OE k σ (.so j v 0 l.length 3 none) l
theorem take_app {k : Nat} {σ : AHeap} (h : k ≤ σ.length) (m : AHeap) : (σ ++ m).take k = σ.take k := by rw [List.take_append_of_le_length h]
theorem append_oe {k : Nat} {σ : AHeap} {r : AV} {l : List DV} {d : DV} {K : AV → AHeap → Prop} (h : OE k σ r l) (hk : k ≤ σ.length) (hl : l.length ≤ 1000000)
    (hK : ∀ r' σ', OE k σ' r' (l ++ [d]) → k ≤ σ'.length → σ'.take k = σ.take k → K r' σ') :
    aAppend Tryz.prog 32 32 r (.so σ.length 0 0 1 3 (some 1)) (σ ++ ([⟨.own, 0, d.cs⟩] : AHeap)) K := by
  have hlc := dcs_len l
  have hdc : d.cs.length = 3 := rfl
  cases h with
  | nil =>
    simp [hdc]
    have := hK (.so (σ.length + 1) 0 0 1 3 none) (σ ++ ([⟨.own, 0, d.cs⟩, ⟨.own, 0, d.cs⟩] : AHeap)) (.so _ _ [d] (by omega) (by simp [dcs])) (by simp; omega) (take_app hk _)
    rw [List.take_of_length_le (by omega)]
    exact this
  | so j v l hkj hj =>
    have hlt := (List.getElem?_eq_some_iff.1 hj).1
    simp [List.getElem?_append_left hlt, hj, hdc, hlc]
    refine ⟨by omega, ?_⟩
    rw [List.take_of_length_le (by omega), List.take_of_length_le (by omega)]
    have := hK (.so j (v + 1) 0 (l ++ [d]).length 3 none) (List.set (σ ++ ([⟨.own, 0, d.cs⟩] : AHeap)) j ⟨.own, v + 1, dcs l ++ d.cs⟩) (.so _ _ _ hkj (by rw [List.getElem?_set_self (by simp; omega), dcs_snoc]))
      (by simp; omega) (by rw [List.take_set_of_le hkj, take_app hk])
    simpa using this
theorem OE.more {k : Nat} {σ : AHeap} {r : AV} {l : List DV} (h : OE k σ r l) (m : AHeap) : OE k (σ ++ m) r l := by
  cases h with
  | nil => exact .nil
  | so j v l hk hj => exact .so j v l hk (by rw [List.getElem?_append_left (List.getElem?_eq_some_iff.1 hj).1]; exact hj)
theorem append_oe2 {k : Nat} {σ : AHeap} {z : ABlk} {r : AV} {l : List DV} {d : DV} {K : AV → AHeap → Prop} (h : OE k σ r l) (hk : k ≤ σ.length) (hl : l.length ≤ 1000000)
    (hK : ∀ r' σ', OE k σ' r' (l ++ [d]) → k ≤ σ'.length → σ'.take k = σ.take k → K r' σ') :
    aAppend Tryz.prog 32 32 r (.so (σ.length + 1) 0 0 1 3 (some 1)) (σ ++ ([z, ⟨.own, 0, d.cs⟩] : AHeap)) K := by
  have := append_oe (K := K) (d := d) (h.more [z]) (by simp; omega) hl fun r' σ' h1 h2 h3 => hK r' σ' h1 h2 (by rw [h3, take_app hk])
  simpa using this
theorem take_get {k i : Nat} {σ σ' : AHeap} (h : σ'.take k = σ.take k) (hi : i < k) : σ'[i]? = σ[i]? := by
  have : (σ'.take k)[i]? = (σ.take k)[i]? := by rw [h]
  rwa [List.getElem?_take_of_lt hi, List.getElem?_take_of_lt hi] at this
theorem OE.od {k : Nat} {σ : AHeap} {r : AV} {l : List DV} (h : OE k σ r l) : OD σ r l := by
  cases h with
  | nil => exact .nil
  | so j v l _ hj => exact .so j v l hj

@[simp] theorem fldR0 : fldT Tryz.prog 96 0 = some (40, 0) := by kernel_rfl
@[simp] theorem fldR1 : fldT Tryz.prog 96 1 = some (48, 1) := by kernel_rfl
@[simp] theorem aggFs : aggT Tryz.prog 40 = some false := by kernel_rfl
@[simp] theorem szFs : szT Tryz.prog 40 = some 1 := by kernel_rfl
@[simp] theorem zcR : zcT Tryz.prog 96 = some [.pl true [] 0 (some 0), .v (.float .f64 0)] := by kernel_rfl
@[simp] theorem aLen_fsl {nl : Bool} {l : List Nat} {cap : Option Nat} {σ : AHeap} {K : AV → AHeap → Prop} : aLen Tryz.prog 40 (fsl nl l cap) σ K = K (i l.length) σ := by
  unfold fsl; simp
@[simp] theorem aIA_fsl {nl : Bool} {l : List Nat} {cap : Option Nat} {k : IntKind} {j : Int} {σ : AHeap} {K : AV → AHeap → Prop} : aIndexAddr Tryz.prog 40 (fsl nl l cap) (.v (.int k j)) σ K = ((0 ≤ j ∧ j < l.length) ∧ j.toNat < l.length ∧ K (.pp (l.map fl) j.toNat) σ) := by
  unfold fsl; simp
@[simp] theorem pu_fslS {nl : Bool} {l : List Nat} {cap : Option Nat} : Pu (fsl nl l cap) := by simp [fsl]
@[simp] theorem scA_fsl (n : Nat) {nl : Bool} {l : List Nat} {cap : Option Nat} : scA n (fsl nl l cap) = True := (rfl)

theorem map_d_get {us : List DV} {L : List Dy} (h : us.map DV.d = L) (q : Nat) (hq : q < us.length) : (gv us q).d = L.getD q zeroD := by
  subst h
  rw [gv_at hq]; simp [hq]

theorem rrow_ctr (xn : Bool) (x : List Nat) (xc : Option Nat) (y : Nat) (hx : Fl x) (hy : y < 18446744073709551616) (hxl : x.length ≤ 1000000) :
    Ctr Tryz.prog 88 [.agg [fsl xn x xc, fl y]] (rowP x y) := by
  refine ctr_in Tryz.func88 rfl (by kernel_rfl) rfl fun K hK => ?_
  simp only [Tryz.f88, List.append_eq, List.cons_append, List.nil_append]
  have hbad : ¬ rowQ x y = true → ∀ σ, K (.tup [.pl true [] 0 (some 0), .v (.bool false)]) σ := by
    intro h σ
    refine hK _ _ _ (.same _ (pu_tup (by simp))) ?_
    unfold rowP; rw [if_neg h]; rfl
  simp
  refine acall_by (rsize_ctr x.length) (by simp) ?_
  rintro _ rfl
  by_cases a1 : sizeI x.length = 0
  · simp [a1]
    refine hbad ?_ _
    intro h
    have h : (1 ≤ x.length ∧ x.length ≤ 6) ∧ (∀ z, z ∈ x → fin z = true) ∧ fin y = true := by simpa [rowQ] using h
    have := (size_facts (c := x.length) (by omega)).2.2
    omega
  have hc : 1 ≤ x.length ∧ x.length ≤ 6 := by
    apply Classical.byContradiction
    intro h
    exact a1 (if_neg (by omega))
  obtain ⟨n, hn⟩ : ∃ n, n = x.length := ⟨_, rfl⟩
  simp [a1]
  refine loop_on (γ := Nat × List DV × AV × AHeap) 78 (fun g => [(1, .po 0 0 0), (4, g.2.2.1), (5, i g.1)]) (fun g => g.2.2.2)
    (fun g => g.1 ≤ n ∧ g.2.1.map DV.d = (x.take g.1).map fromD ∧ (x.take g.1).all fin = true ∧ OE 1 g.2.2.2 g.2.2.1 g.2.1 ∧ 1 ≤ g.2.2.2.length ∧ g.2.2.2[0]? = some ⟨.own, 0, [fsl xn x xc, fl y]⟩) (fun g => n - g.1)
    (0, [], _, _) ⟨Nat.zero_le _, rfl, rfl, .nil, by simp, rfl⟩ (Wk.lst (by simp) (by simp)) ?_
  rintro ⟨g, us, r, σ⟩ ⟨hg, hus, hfin, hD, hσ, h0⟩ L hL
  simp only at hg hus hfin hD hσ h0
  have hul : us.length = g := by
    have := congrArg List.length hus
    simp at this; omega
  by_cases hlt : g < x.length
  · have hb := hx _ (List.getElem_mem hlt)
    have hfr := rfrom3_ctr hb
    rw [fTold_eq] at hfr
    have hw1 : IntKind.i64.wrap ((g : Int) + 1) = ((g + 1 : Nat) : Int) := w64 _ (by omega) (by omega)
    have htk : x.take (g + 1) = x.take g ++ [x[g]] := take_snoc hlt
    by_cases hfk : fin x[g] = true
    · rw [hfk] at hfr
      have hpre : ∀ n1 c1, (us ++ [toV (fromD x[g]) n1 c1]).map DV.d = (x.take (g + 1)).map fromD ∧ (x.take (g + 1)).all fin = true := by
        intro n1 c1
        rw [htk, List.map_append, List.map_append, hus, List.all_append, hfin]
        refine ⟨?_, by simp [hfk]⟩
        rfl
      generalize fromD x[g] = d at *
      simp [hlt, h0]
      refine acall_by hfr (by simp) ?_
      rintro _ ⟨n1, c1, rfl⟩
      simp [cells_dy, cells_ag, h0, wr, hw1, hlt, -cellsOf, -Int.natCast_add, -aAppend]
      refine append_oe2 (d := toV d n1 c1) hD hσ (by omega) fun r' σ' h1 h2 h3 => ?_
      simp [hw1, -Int.natCast_add]
      exact hL (g + 1, us ++ [toV d n1 c1], r', σ') _ _ ⟨by omega, (hpre n1 c1).1, (hpre n1 c1).2, h1, h2, by rw [take_get h3 (by omega)]; exact h0⟩ (Wk.lst (by simp) (by simp)) (by show n - (g + 1) < n - g; omega)
    · have hfk' : fin x[g] = false := by simpa using hfk
      rw [hfk'] at hfr
      generalize fromD x[g] = d at *
      simp [hlt, h0]
      refine acall_by hfr (by simp) ?_
      rintro _ ⟨n1, c1, rfl⟩
      simp [cells_dy, cells_ag, wr, -cellsOf]
      refine hbad (fun h => hfk ?_) _
      have h : (1 ≤ x.length ∧ x.length ≤ 6) ∧ (∀ z, z ∈ x → fin z = true) ∧ fin y = true := by simpa [rowQ] using h
      exact h.2.1 _ (List.getElem_mem hlt)
  have hge : g = x.length := by omega
  rw [hge, List.take_length] at hus hfin
  have hgx : ¬ (x.length : Int) < x.length := by omega
  have hfr := rfrom3_ctr hy
  rw [fTold_eq] at hfr
  clear hL
  by_cases hfk : fin y = true
  case neg =>
    have hfk' : fin y = false := by simpa using hfk
    rw [hfk'] at hfr
    generalize fromD y = d at *
    simp [hge, h0]
    refine acall_by hfr (by simp) ?_
    rintro _ ⟨n1, c1, rfl⟩
    simp [cells_dy, cells_ag, wr, -cellsOf]
    refine hbad (fun h => hfk ?_) _
    have h : (1 ≤ x.length ∧ x.length ≤ 6) ∧ (∀ z, z ∈ x → fin z = true) ∧ fin y = true := by simpa [rowQ] using h
    exact h.2.2
  have hq : rowQ x y = true := by
    unfold rowQ
    rw [List.all_append, hfin, decide_eq_true hc.1, decide_eq_true hc.2]
    simp [hfk]
  simp only [rowP, if_pos hq] at hK
  clear hbad
  rw [hfk] at hfr
  have hLm : ∀ n1 c1, (us ++ [toV (fromD y) n1 c1]).map DV.d = (x ++ [y]).map fromD := by
    intro n1 c1
    rw [List.map_append, List.map_append, hus]; rfl
  have hLl : ((x ++ [y]).map fromD).length = n + 1 := by simp [hn]
  have hokL : ∀ q, dOK (((x ++ [y]).map fromD).getD q zeroD) ∧ (((x ++ [y]).map fromD).getD q zeroD).2.1.length ≤ 900 := by
    intro q
    by_cases hq : q < ((x ++ [y]).map fromD).length
    · rw [List.getD_eq_getElem?_getD, List.getElem?_eq_getElem hq, Option.getD_some, List.getElem_map]
      exact ⟨ok_from _, bd_len (ok_from _) (from_bd _) (by omega)⟩
    · rw [List.getD_eq_getElem?_getD, List.getElem?_eq_none (by omega)]
      exact ⟨ok_zero, by decide⟩
  have hG : rowG x y = prodRows ((x ++ [y]).map fromD) (n + 1) := by rw [hn]; rfl
  rw [hG] at hK
  generalize (x ++ [y]).map fromD = LL at *
  generalize fromD y = d at *
  simp [hge, h0]
  refine acall_by hfr (by simp) ?_
  rintro _ ⟨n1, c1, rfl⟩
  simp [cells_dy, cells_ag, wr, -cellsOf, -aAppend]
  refine append_oe2 (d := toV d n1 c1) hD hσ (by omega) fun r' σ' h1 h2 h3 => ?_
  have hLm := hLm n1 c1
  have hl1 : (us ++ [toV d n1 c1]).length = n + 1 := by simp; omega
  generalize us ++ [toV d n1 c1] = vs at *
  have hvv : ∀ q, q < n + 1 → (gv vs q).d = LL.getD q zeroD := fun q hq => map_d_get hLm q (by omega)
  clear hD hσ h0 hfr hus hfin hul hg hge h3
  cases h1 with
  | nil => simp at hl1
  | so jl v vs hjl hjg =>
  have hjlt := (List.getElem?_eq_some_iff.1 hjg).1
  simp
  refine loop_on (γ := Nat × List DV × AV × AHeap) 78 (fun g => [(4, .so jl v 0 vs.length 3 none), (10, g.2.2.1), (11, i g.1)]) (fun g => g.2.2.2)
    (fun g => g.1 ≤ n + 1 ∧ g.2.1.map DV.d = prodRows LL g.1 ∧ g.2.1.length ≤ 7 * g.1 ∧ OE (jl + 1) g.2.2.2 g.2.2.1 g.2.1 ∧ jl + 1 ≤ g.2.2.2.length ∧ g.2.2.2[jl]? = some ⟨.own, v, dcs vs⟩) (fun g => n + 1 - g.1)
    (0, [], _, _) ⟨Nat.zero_le _, rfl, by simp, .nil, (by show jl + 1 ≤ σ'.length; omega), hjg⟩ (Wk.lst (by simp) (by simp)) ?_
  rintro ⟨g, os, ro, σ⟩ ⟨hg, hos, hol, hO, hσ, h0⟩ L1 hL1
  simp only at hg hos hol hO hσ h0
  by_cases hlt : g < n + 1
  case neg =>
    obtain rfl : g = n + 1 := by omega
    have hnl : ¬ (n + 1 : Nat) < vs.length := by omega
    obtain ⟨n2, c2, hp⟩ := hO.od.pur (S := fun _ => True) (fun _ => trivial)
    simp [hl1, h0]
    refine hK _ _ (.tup [dsl n2 os c2, bo true]) ?_ ⟨os, n2, c2, hos, rfl⟩
    refine .tup _ _ rfl fun q hq => ?_
    have : q = 0 ∨ q = 1 := by simp at hq; omega
    rcases this with rfl | rfl
    · exact hp
    · exact .same _ (by simp)
  have hgv : g < vs.length := by omega
  simp [hgv, h0]
  refine loop_on (γ := Nat × List DV × AV × AHeap) 78 (fun j => [(4, .so jl v 0 vs.length 3 none), (10, j.2.2.1), (11, i g), (12, i j.1)]) (fun j => j.2.2.2)
    (fun j => (g ≤ j.1 ∧ j.1 ≤ n + 1) ∧ j.2.1.map DV.d = prodRows LL g ++ ((LL.drop g).take (j.1 - g)).map (mulD (LL.getD g zeroD)) ∧ j.2.1.length ≤ 7 * g + (j.1 - g) ∧ OE (jl + 1) j.2.2.2 j.2.2.1 j.2.1 ∧ jl + 1 ≤ j.2.2.2.length ∧ j.2.2.2[jl]? = some ⟨.own, v, dcs vs⟩) (fun j => n + 1 - j.1)
    (g, os, ro, σ) ⟨⟨Nat.le_refl _, by omega⟩, by simp [hos], by simp; omega, hO, hσ, h0⟩ (Wk.lst (by simp) (by simp)) ?_
  rintro ⟨j, os, ro, σ⟩ ⟨⟨hgj, hj⟩, hos, hol, hO, hσ, h0⟩ L2 hL2
  simp only at hgj hj hos hol hO hσ h0
  by_cases hlj : j < n + 1
  case neg =>
    obtain rfl : j = n + 1 := by omega
    have w1 : IntKind.i64.wrap ((g : Int) + 1) = ((g + 1 : Nat) : Int) := w64 _ (by omega) (by omega)
    simp [hl1, h0, w1, -Int.natCast_add]
    refine hL1 (g + 1, os, ro, σ) _ _ ⟨by omega, ?_, by show os.length ≤ 7 * (g + 1); omega, hO, hσ, h0⟩ (Wk.lst (by simp [hl1]) (by simp)) (by show n + 1 - (g + 1) < n + 1 - g; omega)
    show os.map DV.d = prodRows LL g ++ (LL.drop g).map (mulD (LL.getD g zeroD))
    rw [hos, List.take_of_length_le (by rw [List.length_drop]; omega)]
  have hjv : j < vs.length := by omega
  have w1 : IntKind.i64.wrap ((j : Int) + 1) = ((j + 1 : Nat) : Int) := w64 _ (by omega) (by omega)
  have rG := dcs_read hgv
  have rJ := dcs_read hjv
  rw [av_of (hvv g hlt)] at rG
  rw [av_of (hvv j hlj)] at rJ
  obtain ⟨og, lg⟩ := hokL g
  obtain ⟨oj, lj⟩ := hokL j
  have cM := rmulX (n := (gv vs g).nl) (c := (gv vs g).cap) (n' := (gv vs j).nl) (c' := (gv vs j).cap) og (by omega) oj (by omega)
  have hpre : ∀ n2 c2, (os ++ [toV (mulD (LL.getD g zeroD) (LL.getD j zeroD)) n2 c2]).map DV.d = prodRows LL g ++ ((LL.drop g).take (j + 1 - g)).map (mulD (LL.getD g zeroD)) := by
    intro n2 c2
    have e1 : j + 1 - g = (j - g) + 1 := by omega
    have e2 : (LL.drop g)[j - g]? = some (LL.getD j zeroD) := by
      rw [List.getElem?_drop, show g + (j - g) = j by omega, List.getD_eq_getElem?_getD, List.getElem?_eq_getElem (by omega)]; rfl
    rw [List.map_append, hos, e1, List.take_add_one, e2, List.map_append, List.append_assoc]
    rfl
  have og3 : g * 3 + 3 ≤ (dcs vs).length := by rw [dcs_len]; omega
  have oj3 : j * 3 + 3 ≤ (dcs vs).length := by rw [dcs_len]; omega
  generalize mulD (LL.getD g zeroD) (LL.getD j zeroD) = p at *
  generalize LL.getD g zeroD = dg' at *
  generalize LL.getD j zeroD = dj' at *
  generalize (gv vs g).nl = ng at *
  generalize (gv vs g).cap = cg at *
  generalize (gv vs j).nl = nj at *
  generalize (gv vs j).cap = cj at *
  simp [hgv, hjv, h0]
  refine draw_at [0, 0, 0, 1, 1, 0, 0, 1, 1, 3, 3, 4, 0] orders (by kernel_rfl) ?_
  have hjs : jl < σ.length := by omega
  simp [hgv, hjv, h0, og3, oj3, rG, rJ, -cellsOf, -aAppend]
  refine ⟨hjs, ?_⟩
  refine acall_by cM (by simp [dy]) ?_
  rintro _ ⟨n2, c2, rfl⟩
  simp [cells_dy, w1, -cellsOf, -aAppend, -Int.natCast_add]
  refine append_oe (d := toV p n2 c2) hO hσ (by omega) fun r' σ' h1 h2 h3 => ?_
  simp [w1, -Int.natCast_add]
  exact hL2 (j + 1, os ++ [toV p n2 c2], r', σ') _ _ ⟨⟨by omega, by omega⟩, hpre n2 c2, by show (os ++ [toV p n2 c2]).length ≤ 7 * g + (j + 1 - g); simp; omega, h1, h2, by rw [take_get h3 (by omega)]; exact h0⟩ (Wk.lst (by simp) (by simp)) (by show n + 1 - (j + 1) < n + 1 - j; omega)

@[simp] theorem arrA3 : arrT Tryz.prog 33 = some (3, 32, 1) := by kernel_rfl
@[simp] theorem arrA2 : arrT Tryz.prog 39 = some (2, 32, 1) := by kernel_rfl
@[simp] theorem arrI2 : arrT Tryz.prog 38 = some (2, 3, 1) := by kernel_rfl
end Go.Proofs.Nt
/- Near: the answers that the document gives. -/
set_option linter.unusedVariables false
set_option maxRecDepth 20000
set_option linter.unusedSimpArgs false
set_option linter.unnecessarySimpa false
namespace Go.Proofs.Nt
open Go Go.Proofs Go.Proofs.Va Go.RowKit

theorem pur_ds {σ : AHeap} {S : Nat → Prop} {j v n : Nat} {l : List DV} {cap : Option Nat} {k : BK} (hb : σ[j]? = some ⟨k, v, dcs l⟩) (hk : k ≠ .dead) (hn : n = l.length) (hS : S j) : Pur σ S (.so j v 0 n 3 cap) (dsl false l cap) := by
  subst hn
  refine .so j v 0 l.length 3 cap _ (dcs l) hb rfl hk hS ?_ (dcs_len l) fun q hq => ?_
  · show 0 + l.length * 3 ≤ (dcs l).length
    rw [dcs_len]; omega
  · rw [Nat.zero_add]
    exact getD_dcs l hq σ S

theorem rzero_ctr (c : Nat) (hc : 1 ≤ c ∧ c ≤ 6) : Ctr Tryz.prog 37 [i c] (fun r => ∃ cap, r = dsl false (List.replicate (sizeN c) zDV) cap) := by
  refine ctr_in Tryz.func37 rfl (by kernel_rfl) rfl fun K hK => ?_
  simp only [Tryz.f37, List.append_eq, List.cons_append, List.nil_append]
  have hsz : sizeI c = (sizeN c : Int) := by unfold sizeI; rw [if_pos (by omega)]; rfl
  have hle := size_le (c := c) (by omega)
  simp
  refine acall_by (rsize_ctr c) (by simp) ?_
  rintro _ rfl
  rw [hsz]
  simp [flat_dcs]
  refine ⟨⟨by omega, by omega⟩, ?_⟩
  exact hK _ _ _ (pur_ds (k := .own) (l := List.replicate (sizeN c) zDV) (by simp) (by decide) (by simp) (by simp)) ⟨_, rfl⟩

theorem m_of_d {x y : DV} (h : x.d = y.d) : x.m = y.m := by
  show mayD x.d.1 x.d.2.1 x.d.2.2 = mayD y.d.1 y.d.2.1 y.d.2.2
  rw [h]
theorem gv_m {us L : List DV} (h : us.map DV.d = L.map DV.d) (q : Nat) : (gv us q).m = (gv L q).m := by
  have hl : us.length = L.length := by have := congrArg List.length h; simpa using this
  by_cases hq : q < us.length
  · refine m_of_d ?_
    rw [map_d_get h q hq, ← map_d_get rfl q (by omega)]
  · have e1 : gv us q = zDV := by simp [gv, hq]
    have e2 : gv L q = zDV := by
      have : ¬ q < L.length := by omega
      simp [gv, this]
    rw [e1, e2]
theorem leftD_congr {N N' : List DV} {c : Nat} (hN : ∀ q, (gv N q).m = (gv N' q).m) (x : List Nat) (p : Nat) : ∀ j, leftD N c x p j = leftD N' c x p j
  | 0 => by unfold leftD entV; rw [hN]
  | j + 1 => by unfold leftD; rw [leftD_congr hN x p j]; unfold entV; rw [hN]
section
variable {N N' I I' G G' : List DV} {c : Nat} {k : Int} (hN : ∀ q, (gv N q).m = (gv N' q).m) (hI : ∀ q, (gv I q).m = (gv I' q).m) (hG : ∀ q, (gv G q).m = (gv G' q).m)
include hI
theorem upE_congr (p : Nat) : upE I c p = upE I' c p := by unfold upE entV; rw [hI]
theorem sumU_congr : ∀ m, sumU I c m = sumU I' c m
  | 0 => rfl
  | m + 1 => by unfold sumU; rw [sumU_congr m, upE_congr hI]
theorem mostD_congr (x : List Nat) (p : Nat) : ∀ j, mostD I c k x p j = mostD I' c k x p j
  | 0 => by unfold mostD; rw [upE_congr hI, upE_congr hI]
  | j + 1 => by unfold mostD; rw [mostD_congr x p j, upE_congr hI, upE_congr hI]
theorem allD_congr (x : List Nat) (p : Nat) : allD I c k x p = allD I' c k x p := by
  unfold allD restD; rw [mostD_congr hI, upE_congr hI, sumU_congr hI]
include hN
theorem offB_congr (x : List Nat) (p : Nat) : offB N I c k x p = offB N' I' c k x p := by
  unfold offB; rw [leftD_congr hN, allD_congr hI]
include hG
theorem far_congr (p q : Nat) : far N I G c k p q = far N' I' G' c k p q := by
  unfold far apart; rw [hN, hG, upE_congr hI, upE_congr hI]
end

def oneDV : List DV := [⟨false, true, [1], some 0, 2⟩, ⟨false, true, [3], some 0, 1⟩, ⟨false, true, [9], some 0, 0⟩]
def zerDV : List DV := List.replicate 3 zDV
theorem rowG_one : rowG [4611686018427387904] 4613937818241073152 = oneDV.map DV.d := by decide +kernel
theorem rowQ_one : rowQ [4611686018427387904] 4613937818241073152 = true := by decide +kernel
theorem far_1 : far oneDV oneDV oneDV 1 0 0 0 = false := by decide +kernel
theorem far_2 : far oneDV oneDV oneDV 1 0 0 1 = false := by decide +kernel
theorem far_3 : far oneDV oneDV oneDV 1 0 1 1 = false := by decide +kernel
theorem far_4 : far oneDV oneDV zerDV 1 1 0 0 = true := by decide +kernel
theorem off_1 : offB oneDV oneDV 1 0 [4609434218613702656] 0 = false := by decide +kernel
theorem off_2 : offB oneDV oneDV 1 9 [4607182418800017408] 0 = true := by decide +kernel
def twoD : Dy := (false, [1], 1)
def fourD : Dy := (false, [1], 2)
theorem cmp_1 : cmpD (upD fourD) twoD = 1 := by decide +kernel
theorem cmp_2 : cmpD (upD fourD) (addD twoD (powD (-50))) = -1 := by decide +kernel
theorem up_n : upD (true, [1], 1) = zeroD := by decide +kernel
theorem bnd_0 : boundX twoD twoD 0 = zeroD := by decide +kernel
theorem cmp_3 : cmpD (boundX twoD twoD 1) (powD (-46)) = 1 := by decide +kernel
theorem nv_2 : normD false (val [1]) 2 = fourD := by decide +kernel
theorem nv_1 : normD false (val [1]) 1 = twoD := by decide +kernel
theorem neg_2 : negD false [1] 1 = (true, [1], 1) := by decide +kernel
theorem ok_two : dOK twoD := ⟨by decide +kernel, dig1 (by decide)⟩
theorem ok_four : dOK fourD := ⟨by decide +kernel, dig1 (by decide)⟩
theorem bd_twoD : Bd (-9000) 9000 twoD := .inr ⟨by decide, by decide +kernel⟩
theorem bd_fourD : Bd (-9000) 9000 fourD := .inr ⟨by decide, by decide +kernel⟩

@[simp] theorem plR : placesT Tryz.prog 96 = some [(0, 1), (1, 1)] := by kernel_rfl
theorem one_ctr : Ctr Tryz.prog 36 [] (fun r => ∃ x : LV, x.l.map DV.d = oneDV.map DV.d ∧ r = x.av) := by
  refine ctr_in Tryz.func36 rfl (by kernel_rfl) rfl fun K hK => ?_
  simp only [Tryz.f36, List.append_eq, List.cons_append, List.nil_append]
  have cR := rrow_ctr false [4611686018427387904] (some 1) 4613937818241073152 (by intro b hb; simp at hb; omega) (by decide) (by decide)
  unfold rowP at cR
  rw [rowQ_one, rowG_one] at cR
  simp only [if_true] at cR
  simp
  refine acall_froze [0] cR rfl ?_ ?_
  · intro j hj
    have : j = 0 := by simp at hj; omega
    subst this
    refine .agg _ _ rfl fun q hq => ?_
    have : q = 0 ∨ q = 1 := by simp at hq; omega
    rcases this with rfl | rfl
    · exact pur_fsl (k := .own) (l := [4611686018427387904]) rfl (by decide) rfl (by simp)
    · exact .same _ (by simp)
  rintro _ ⟨us, nl, cap, hus, rfl⟩
  simp
  exact hK _ _ _ (.same _ (by simp [dsl])) ⟨⟨nl, us, cap⟩, hus, rfl⟩

theorem chk_val {N I G : List DV} {c k : Int} {r : AV} (hv : chkV N I G c k) (h : chkP N I G c k r) {r' : AV} (h' : firstP c.toNat (far N I G c.toNat k) r') : r = r' := by
  unfold chkP at h
  rw [if_pos hv] at h
  exact firstP_eq h h'
theorem nor_val {N I : List DV} {c k : Int} {x : List Nat} {r : AV} (hv : norV N I c k x) (h : norP N I c k x r) {r' : AV} (h' : firstQ c.toNat (offB N I c.toNat k x) r') : r = r' := by
  unfold norP at h
  rw [if_pos hv] at h
  exact firstQ_eq h h'
theorem pq_one {f : Nat → Nat → Bool} (h1 : f 0 0 = false) (h2 : f 0 1 = false) (h3 : f 1 1 = false) : ∀ p q, p ≤ q → q ≤ 1 → f p q = false := by
  intro p q h h'
  have : (p = 0 ∧ q = 0) ∨ (p = 0 ∧ q = 1) ∨ (p = 1 ∧ q = 1) := by omega
  rcases this with ⟨rfl, rfl⟩ | ⟨rfl, rfl⟩ | ⟨rfl, rfl⟩
  · exact h1
  · exact h2
  · exact h3

/-- What is told of the list of one row. -/
theorem live_vals {x : LV} (hx : x.l.map DV.d = oneDV.map DV.d) : DvOk x.l ∧
    (∀ r, chkP x.l x.l x.l 1 0 r → r = .tup [i 0, bo true]) ∧ (∀ r, chkP x.l x.l zerDV 1 1 r → r = .tup [i 0, bo false]) ∧
    (∀ r, norP x.l x.l 1 0 [4609434218613702656] r → r = .tup [i 0, bo true]) ∧ (∀ r, norP x.l x.l 1 9 [4607182418800017408] r → r = .tup [i 0, bo false]) ∧
    (∀ r, chkP x.l x.l x.l 2 0 r → r = .tup [i 0, bo false]) := by
  have hl : x.l.length = 3 := by have := congrArg List.length hx; simpa [oneDV] using this
  have hm := gv_m hx
  have hz : zerDV.length = 3 := rfl
  have hs : sizeN 1 = 3 := rfl
  refine ⟨?_, fun r h => ?_, fun r h => ?_, fun r h => ?_, fun r h => ?_, fun r h => ?_⟩
  · intro d hd
    have h1 : d.d ∈ oneDV.map DV.d := by rw [← hx]; exact List.mem_map.2 ⟨d, hd, rfl⟩
    have h2 : d.d = (false, [1], 2) ∨ d.d = (false, [3], 1) ∨ d.d = (false, [9], 0) := by simpa [oneDV, DV.d] using h1
    have key : ∀ D : Dy, d.d = D → dOK D → D.2.1.length ≤ 900 → Bd (-9000) 9000 D → Dig d.a ∧ d.a.length ≤ 900 ∧ Bd (-9000) 9000 d.m := by
      intro D hD o l b
      have e1 : d.m = D := by
        show mayD d.d.1 d.d.2.1 d.d.2.2 = D
        rw [hD]; exact may_of_ok o.1
      have e2 : d.a = D.2.1 := by rw [← hD]; rfl
      rw [e1, e2]
      exact ⟨o.2, l, b⟩
    rcases h2 with h2 | h2 | h2
    · exact key _ h2 ⟨by decide +kernel, dig1 (by decide)⟩ (by decide) (.inr ⟨by decide, by decide +kernel⟩)
    · exact key _ h2 ⟨by decide +kernel, dig1 (by decide)⟩ (by decide) (.inr ⟨by decide, by decide +kernel⟩)
    · exact key _ h2 ⟨by decide +kernel, dig1 (by decide)⟩ (by decide) (.inr ⟨by decide, by decide +kernel⟩)
  · refine chk_val ⟨by decide, hl, hl, hl, by decide⟩ h (.inr ⟨pq_one ?_ ?_ ?_, rfl⟩)
    · exact (far_congr hm hm hm 0 0).trans far_1
    · exact (far_congr hm hm hm 0 1).trans far_2
    · exact (far_congr hm hm hm 1 1).trans far_3
  · exact chk_val ⟨by decide, hl, hl, hz, by decide⟩ h (.inl ⟨0, 0, by decide, by decide, (far_congr hm hm (fun _ => rfl) 0 0).trans far_4, fun p q h1 h2 h3 => by omega, rfl⟩)
  · refine nor_val ⟨by decide, hl, hl, rfl, by decide, by decide⟩ h (.inr ⟨fun p hp => ?_, rfl⟩)
    have : p = 0 := by have hp : p < 1 := hp; omega
    subst this
    exact (offB_congr hm hm _ 0).trans off_1
  · exact nor_val ⟨by decide, hl, hl, rfl, by decide, by decide⟩ h (.inl ⟨0, by decide, (offB_congr hm hm _ 0).trans off_2, fun p hp => by omega, rfl⟩)
  · unfold chkP at h
    rw [if_neg (fun hv => by have h2 := hv.2.1; rw [hl] at h2; exact absurd h2 (by decide))] at h
    exact h
end Go.Proofs.Nt
/- Near: live. -/
set_option linter.unusedVariables false
set_option maxRecDepth 20000
set_option linter.unusedSimpArgs false
set_option linter.unnecessarySimpa false
namespace Go.Proofs.Nt
open Go Go.Proofs Go.Proofs.Va Go.RowKit

set_option maxHeartbeats 1000000 in
theorem nlive_ctr : Ctr Tryz.prog 11 [] (fun r => r = bo true) := by
  refine ctr_in Tryz.func11 rfl (by kernel_rfl) rfl fun K hK => ?_
  simp only [Tryz.f11, List.append_eq, List.cons_append, List.nil_append]
  have may2 : mayD false [1] 1 = twoD := may_of_ok ok_two.1
  have h1 := rnorm_ctr false false [1] (some 1) 2 (dig1 (by decide)) (by decide)
  have h2 := rnorm_ctr false false [1] (some 1) 1 (dig1 (by decide)) (by decide)
  rw [nv_2] at h1
  rw [nv_1] at h2
  have cU := fun n c => nup_ctr fourD.1 n fourD.2.1 c fourD.2.2 ok_four.2 (by decide) (by rw [may_of_ok ok_four.1]; exact bd_fourD)
  rw [may_of_ok ok_four.1] at cU
  have oUf := ok_up fourD
  have lUf : (upD fourD).2.1.length ≤ 900 := bd_len oUf (bd_up bd_fourD) (by omega)
  have cC1 := fun n c n' c' => rcmpX (n := n) (c := c) (n' := n') (c' := c') oUf (by omega) ok_two (by decide)
  rw [cmp_1] at cC1
  have oS := ok_add twoD (powD (-50))
  have bS := bd_add ok_two (ok_pow (-50)) bd_twoD ((bd_pow (-50)).mono (L' := -9000) (H' := 9000) (by omega) (by omega)) (by omega)
  have lS := bd_len oS bS (k := 900) (by omega)
  have oP := ok_pow (-50)
  have lP := bd_len oP (bd_pow (-50)) (k := 900) (by omega)
  have cA := fun n c n' c' => raddX (n := n) (c := c) (n' := n') (c' := c') ok_two (by decide) oP (by omega)
  have cC2 := fun n c n' c' => rcmpX (n := n) (c := c) (n' := n') (c' := c') oUf (by omega) oS (by omega)
  rw [cmp_2] at cC2
  have cN := fun n c => rneg_ctr twoD.1 n twoD.2.1 c twoD.2.2 ok_two.2 (by decide)
  rw [show negD twoD.1 twoD.2.1 twoD.2.2 = (true, [1], 1) from neg_2] at cN
  have okn : dOK (true, [1], 1) := ⟨by decide +kernel, dig1 (by decide)⟩
  have cUn := fun n c => nup_ctr true n [1] c 1 okn.2 (by decide) (by rw [may_of_ok (d := (true, [1], 1)) okn.1]; exact .inr ⟨by decide, by decide +kernel⟩)
  rw [may_of_ok (d := (true, [1], 1)) okn.1, up_n] at cUn
  have cZ := fun n c => sameX (d := zeroD) (d' := zeroD) (n := n) (c := c) (n' := true) (c' := some 0) (by decide) (by decide)
  have cB0 := fun n c => nBound_ctr twoD twoD 0 n n c c ok_two.2 ok_two.2 (by decide) (by decide) (by rw [may_of_ok ok_two.1]; exact bd_twoD) (by rw [may_of_ok ok_two.1]; exact bd_twoD)
  rw [may_of_ok ok_two.1, bnd_0] at cB0
  have cB1 := fun n c => nBound_ctr twoD twoD 1 n n c c ok_two.2 ok_two.2 (by decide) (by decide) (by rw [may_of_ok ok_two.1]; exact bd_twoD) (by rw [may_of_ok ok_two.1]; exact bd_twoD)
  rw [may_of_ok ok_two.1] at cB1
  have hbx : boundX twoD twoD 1 = boundD (upD twoD) (upD twoD) 1 := if_pos (by decide)
  have oB : dOK (boundX twoD twoD 1) := by rw [hbx]; exact ok_bound _ _ _
  have lB : (boundX twoD twoD 1).2.1.length ≤ 900 := by
    have h := bd_bound (k := 1) (by decide) (ok_up twoD) (ok_up twoD) (bd_up bd_twoD) (bd_up bd_twoD)
    rw [← hbx] at h
    exact bd_len oB h (by omega)
  have oQ := ok_pow (-46)
  have lQ := bd_len oQ (bd_pow (-46)) (k := 900) (by omega)
  have cC3 := fun n c n' c' => rcmpX (n := n) (c := c) (n' := n') (c' := c') oB (by omega) oQ (by omega)
  rw [cmp_3] at cC3
  have p50 := rpow_ctr (-50)
  have p46 := rpow_ctr (-46)
  clear oUf lUf oS bS lS oP lP hbx oB lB oQ lQ okn may2
  generalize boundX twoD twoD 1 = dB1 at *
  generalize addD twoD (powD (-50)) = dS at *
  generalize powD (-50) = d50 at *
  generalize powD (-46) = d46 at *
  generalize upD fourD = dU at *
  generalize twoD = two at *
  generalize fourD = four at *
  simp
  refine acall_froze [0] h1 rfl ?_ ?_
  · intro j hj
    have : j = 0 ∨ j = 1 ∨ j = 2 := by simp at hj; omega
    rcases this with rfl | rfl | rfl
    · exact .same _ (by simp)
    · exact pur_sl (k := .own) (a := [1]) rfl (by decide) rfl (by simp)
    · exact .same _ (by simp)
  rintro _ ⟨n1, c1, rfl⟩
  simp [froze, -cellsOf]
  refine acall_by (cU n1 c1) (by simp [dy]) ?_
  rintro _ ⟨n2, c2, rfl⟩
  simp [froze, cells_dy, wr, -cellsOf]
  refine acall_froze [2] h2 rfl ?_ ?_
  · intro j hj
    have : j = 0 ∨ j = 1 ∨ j = 2 := by simp at hj; omega
    rcases this with rfl | rfl | rfl
    · exact .same _ (by simp)
    · exact pur_sl (k := .own) (a := [1]) rfl (by decide) rfl (by simp)
    · exact .same _ (by simp)
  rintro _ ⟨n3, c3, rfl⟩
  simp [froze, cells_dy, wr, -cellsOf]
  refine acall_by one_ctr (by simp) ?_
  rintro _ ⟨x, hx, rfl⟩
  obtain ⟨hd, v1, v2, v3, v4, v5⟩ := live_vals hx
  simp [froze, -cellsOf]
  refine acall_by (ncheck_ctr 1 0 x x x hd hd hd) (by simp) ?_
  intro r hr
  have hr := v1 r hr
  subst hr
  simp [froze, -cellsOf]
  refine acall_by (rzero_ctr 1 (by decide)) (by simp) ?_
  rintro _ ⟨zc, rfl⟩
  obtain ⟨Z, hZ⟩ : ∃ Z : LV, Z = ⟨false, zerDV, zc⟩ := ⟨_, rfl⟩
  have hZa : dsl false (List.replicate (sizeN 1) zDV) zc = Z.av := by rw [hZ]; rfl
  have hZl : Z.l = zerDV := by rw [hZ]
  have hdz : DvOk Z.l := by
    rw [hZl]
    intro d hd
    have : d = zDV := by simpa [zerDV] using hd
    subst this
    exact ⟨dig_nil, by decide, .inl (by decide)⟩
  rw [hZa]
  simp [froze, -cellsOf]
  refine acall_by (ncheck_ctr 1 1 x x Z hd hd hdz) (by simp) ?_
  intro r hr
  rw [hZl] at hr
  have hr := v2 r hr
  subst hr
  simp [froze, -cellsOf]
  refine acall_froze [4] (nnormal_ctr 1 0 x x false [4609434218613702656] (some 1) hd hd (by intro b hb; simp at hb; omega) (by decide)) rfl ?_ ?_
  · intro j hj
    have : j = 0 ∨ j = 1 ∨ j = 2 ∨ j = 3 ∨ j = 4 := by simp at hj; omega
    rcases this with rfl | rfl | rfl | rfl | rfl
    · exact .same _ (by simp)
    · exact .same _ (by simp)
    · exact .same _ (by simp)
    · exact pur_fsl (k := .own) (l := [4609434218613702656]) rfl (by decide) rfl (by simp)
    · exact .same _ (by simp)
  intro r hr
  have hr := v3 r hr
  subst hr
  simp [froze, -cellsOf]
  refine acall_froze [5] (nnormal_ctr 1 9 x x false [4607182418800017408] (some 1) hd hd (by intro b hb; simp at hb; omega) (by decide)) rfl ?_ ?_
  · intro j hj
    have : j = 0 ∨ j = 1 ∨ j = 2 ∨ j = 3 ∨ j = 4 := by simp at hj; omega
    rcases this with rfl | rfl | rfl | rfl | rfl
    · exact .same _ (by simp)
    · exact .same _ (by simp)
    · exact .same _ (by simp)
    · exact pur_fsl (k := .own) (l := [4607182418800017408]) rfl (by decide) rfl (by simp)
    · exact .same _ (by simp)
  intro r hr
  have hr := v4 r hr
  subst hr
  simp [froze, -cellsOf]
  refine acall_by (ncheck_ctr 2 0 x x x hd hd hd) (by simp) ?_
  intro r hr
  have hr := v5 r hr
  subst hr
  simp [froze, -cellsOf]
  refine draw_at [1, 1, 3, 0, 0, 1, 1, 3, 3, 3, 0, 0, 0, 1, 3, 3, 0, 3, 0, 0, 0, 0, 0, 0, 0, 0, 0, 0, 0, 0, 0, 0, 0, 0, 0, 0, 0, 0, 0, 0, 0, 0, 1, 1, 3, 0, 3, 0, 0, 1, 1, 3, 3, 3, 0, 0, 0] orders (by kernel_rfl) ?_
  simp [cells_ag, -cellsOf]
  refine acall_by (cC1 n2 c2 n3 c3) (by simp [dy]) ?_
  rintro _ rfl
  simp [cells_ag, -cellsOf]
  refine acall_by p50 (by simp) ?_
  rintro _ ⟨n4, c4, rfl⟩
  simp [cells_ag, -cellsOf]
  refine acall_by (cA n3 c3 n4 c4) (by simp [dy]) ?_
  rintro _ ⟨n5, c5, rfl⟩
  simp [cells_ag, -cellsOf]
  refine acall_by (cC2 n2 c2 n5 c5) (by simp [dy]) ?_
  rintro _ rfl
  simp [cells_ag, -cellsOf]
  refine acall_by (cN n3 c3) (by simp [dy]) ?_
  rintro _ ⟨n6, c6, rfl⟩
  simp [cells_ag, -cellsOf]
  refine acall_by (cUn n6 c6) (by simp [dy]) ?_
  rintro _ ⟨n7, c7, rfl⟩
  simp [cells_ag, -cellsOf]
  refine acall_by (cZ n7 c7) (by intro z hz; simp only [List.mem_cons, List.not_mem_nil, or_false] at hz; rcases hz with rfl | rfl; exact pu_dy _ _ _ _ _; exact pu_ag4 _ _) ?_
  rintro _ rfl
  simp [cells_ag, -cellsOf]
  refine acall_by (cB0 n3 c3) (by simp [dy]) ?_
  rintro _ ⟨n8, c8, rfl⟩
  simp [cells_ag, -cellsOf]
  refine acall_by (cZ n8 c8) (by intro z hz; simp only [List.mem_cons, List.not_mem_nil, or_false] at hz; rcases hz with rfl | rfl; exact pu_dy _ _ _ _ _; exact pu_ag4 _ _) ?_
  rintro _ rfl
  simp [cells_ag, -cellsOf]
  refine acall_by (cB1 n3 c3) (by simp [dy]) ?_
  rintro _ ⟨n9, c9, rfl⟩
  simp [cells_ag, -cellsOf]
  refine acall_by p46 (by simp) ?_
  rintro _ ⟨n10, c10, rfl⟩
  simp [cells_ag, -cellsOf]
  refine acall_by (cC3 n9 c9 n10 c10) (by simp [dy]) ?_
  rintro _ rfl
  simp [cells_ag, -cellsOf]
  exact hK _ _ _ (.same _ (by simp)) rfl
end Go.Proofs.Nt
/- The laws NearTells, NearChecks, NearNormal as contracts. -/
set_option linter.unusedVariables false
set_option maxRecDepth 20000
set_option linter.unusedSimpArgs false
set_option linter.unnecessarySimpa false
namespace Go.Proofs.Nt
open Go Go.Proofs Go.Proofs.Va Go.RowKit

theorem nlive {σ : AHeap} {K' : AV → AHeap → Prop} (h : K' (bo true) σ) : ACall Tryz.prog 11 [] σ K' := acall_by nlive_ctr (by simp) (by rintro _ rfl; exact h)

theorem bd_small {A : Dy} (ha : Dig A.2.1) (hs : (A.2.1.length ≤ 40 ∧ -4000 ≤ A.2.2) ∧ A.2.2 ≤ 4000) : Bd (-9000) 9000 (mayD A.1 A.2.1 A.2.2) := (bd_may (bn_len ha hs.1.1 hs.1.2 hs.2)).mono (by omega) (by omega)
theorem len_boundX {A B : Dy} {k : Int} (bA : Bd (-9000) 9000 A) (bB : Bd (-9000) 9000 B) : dOK (boundX A B k) ∧ (boundX A B k).2.1.length ≤ 900 := by
  unfold boundX; split
  · rename_i hk
    exact ⟨ok_bound _ _ _, bd_len (ok_bound _ _ _) (bd_bound hk (ok_up _) (ok_up _) (bd_up bA) (bd_up bB)) (by omega)⟩
  · exact ⟨ok_zero, by decide⟩

theorem ntells_ctr (A B : Dy) (nl nl' : Bool) (cap cap' : Option Nat) (k : Int) (ha : Dig A.2.1) (hb : Dig B.2.1) :
    Ctr Tryz.prog 3 [dy A.1 nl A.2.1 cap A.2.2, dy B.1 nl' B.2.1 cap' B.2.2, i k] (fun r => r = bo true) := by
  refine ctr_in Tryz.func3 rfl (by kernel_rfl) rfl fun K hK => ?_
  have s1 := small_ctr A.1 nl A.2.1 cap A.2.2
  have s2 := small_ctr B.1 nl' B.2.1 cap' B.2.2
  obtain ⟨q1, hq1⟩ : ∃ q, q = (decide (A.2.1.length ≤ 40) && decide (-4000 ≤ A.2.2) && decide (A.2.2 ≤ 4000)) := ⟨_, rfl⟩
  obtain ⟨q2, hq2⟩ : ∃ q, q = (decide (B.2.1.length ≤ 40) && decide (-4000 ≤ B.2.2) && decide (B.2.2 ≤ 4000)) := ⟨_, rfl⟩
  rw [← hq1] at s1
  rw [← hq2] at s2
  simp only [Tryz.f3, List.append_eq, List.cons_append, List.nil_append]
  simp [cells_dy, cells_sl, cells_ag, cells_ag0, wr, -cellsOf]
  refine acall_by s1 (by simp [dy]) ?_
  rintro _ rfl
  cases q1
  · simp
    refine nlive ?_
    simp
    exact hK _ _ _ (.same _ (by simp)) rfl
  simp [cells_dy, cells_sl, cells_ag, cells_ag0, wr, -cellsOf]
  refine acall_by s2 (by simp [dy]) ?_
  rintro _ rfl
  cases q2
  · simp
    refine nlive ?_
    simp
    exact hK _ _ _ (.same _ (by simp)) rfl
  have hs : (A.2.1.length ≤ 40 ∧ -4000 ≤ A.2.2) ∧ A.2.2 ≤ 4000 := by simpa using hq1.symm
  have hs' : (B.2.1.length ≤ 40 ∧ -4000 ≤ B.2.2) ∧ B.2.2 ≤ 4000 := by simpa using hq2.symm
  have bA := bd_small ha hs
  have bB := bd_small hb hs'
  have c1 := nup_ctr A.1 nl A.2.1 cap A.2.2 ha (by omega) bA
  have c2 := rnup_ctr A.1 nl A.2.1 cap A.2.2 ha (by omega) bA
  have lU := bd_len (ok_up _) (bd_up bA) (k := 900) (by omega)
  have c3 := nBound_ctr A B k nl nl' cap cap' ha hb (by omega) (by omega) bA bB
  have c4 := rnBound_ctr A B k nl nl' cap cap' ha hb (by omega) (by omega) bA bB
  obtain ⟨_, lX⟩ := len_boundX (k := k) bA bB
  clear hs hs' bA bB hq1 hq2
  generalize boundX (mayD A.1 A.2.1 A.2.2) (mayD B.1 B.2.1 B.2.2) k = X at *
  generalize upD (mayD A.1 A.2.1 A.2.2) = U at *
  simp [cells_dy, cells_sl, cells_ag, cells_ag0, wr, -cellsOf]
  refine draw_at [1, 3, 1, 3, 3, 0, 1, 1, 0, 3, 1, 1, 0, 3, 3, 0, 0, 3, 0, 0] orders (by kernel_rfl) ?_
  simp [cells_dy, cells_sl, cells_ag, cells_ag0, wr, -cellsOf]
  refine acall_by c1 (by simp [dy]) ?_
  rintro _ ⟨n1, c1, rfl⟩
  simp
  refine acall_by c2 (by simp [dy]) ?_
  rintro _ ⟨n2, c2, rfl⟩
  simp
  refine acall_by (sameX (by omega) (by omega)) (by simp [dy]) ?_
  rintro _ rfl
  simp
  refine acall_by c3 (by simp [dy]) ?_
  rintro _ ⟨n3, c3, rfl⟩
  simp
  refine acall_by c4 (by simp [dy]) ?_
  rintro _ ⟨n4, c4, rfl⟩
  simp
  refine acall_by (sameX (d := X) (d' := X) (by omega) (by omega)) (by simp [dy]) ?_
  rintro _ rfl
  simp
  refine nlive ?_
  simp
  exact hK _ _ _ (.same _ (by simp)) rfl

theorem chk_shape {N I G : List DV} {c k : Int} {r : AV} (h : chkP N I G c k r) : ∃ a b, r = .tup [i a, bo b] := by
  unfold chkP at h
  split at h
  · rcases h with ⟨_, _, _, _, _, _, rfl⟩ | ⟨_, rfl⟩
    · exact ⟨_, _, rfl⟩
    · exact ⟨_, _, rfl⟩
  · exact ⟨_, _, h⟩
theorem nor_shape {N I : List DV} {c k : Int} {x : List Nat} {r : AV} (h : norP N I c k x r) : ∃ a b, r = .tup [i a, bo b] := by
  unfold norP at h
  split at h
  · rcases h with ⟨_, _, _, _, rfl⟩ | ⟨_, rfl⟩
    · exact ⟨_, _, rfl⟩
    · exact ⟨_, _, rfl⟩
  · exact ⟨_, _, h⟩

theorem nchecks_ctr (c k : Int) (X Y Z : LV) (hX : ∀ d ∈ X.l, Dig d.a) (hY : ∀ d ∈ Y.l, Dig d.a) (hZ : ∀ d ∈ Z.l, Dig d.a) :
    Ctr Tryz.prog 4 [i c, .agg [X.av, Y.av, Z.av], i k] (fun r => r = bo true) := by
  refine ctr_in Tryz.func4 rfl (by kernel_rfl) rfl fun K hK => ?_
  have s1 := rsmallL_ctr X
  have s2 := rsmallL_ctr Y
  have s3 := rsmallL_ctr Z
  obtain ⟨q1, hq1⟩ : ∃ q, q = smallL X.l := ⟨_, rfl⟩
  obtain ⟨q2, hq2⟩ : ∃ q, q = smallL Y.l := ⟨_, rfl⟩
  obtain ⟨q3, hq3⟩ : ∃ q, q = smallL Z.l := ⟨_, rfl⟩
  rw [← hq1] at s1
  rw [← hq2] at s2
  rw [← hq3] at s3
  simp only [Tryz.f4, List.append_eq, List.cons_append, List.nil_append]
  simp
  refine acall_by s1 (by simp) ?_
  rintro _ rfl
  cases q1
  · simp
    refine nlive ?_
    simp
    exact hK _ _ _ (.same _ (by simp)) rfl
  simp
  refine acall_by s2 (by simp) ?_
  rintro _ rfl
  cases q2
  · simp
    refine nlive ?_
    simp
    exact hK _ _ _ (.same _ (by simp)) rfl
  simp
  refine acall_by s3 (by simp) ?_
  rintro _ rfl
  cases q3
  · simp
    refine nlive ?_
    simp
    exact hK _ _ _ (.same _ (by simp)) rfl
  have dX := small_ok hX hq1.symm
  have dY := small_ok hY hq2.symm
  have dZ := small_ok hZ hq3.symm
  simp
  refine acall_by (ncheck_ctr c k X Y Z dX dY dZ) (by simp) ?_
  intro r hr
  obtain ⟨a, b, rfl⟩ := chk_shape hr
  simp
  refine acall_by (rcheck_ctr9 c k X Y Z dX dY dZ) (by simp) ?_
  intro r hr2
  have hr2 := chkP_eq hr2 hr
  subst hr2
  simp
  refine nlive ?_
  simp
  exact hK _ _ _ (.same _ (by simp)) rfl

theorem nnormals_ctr (c k : Int) (X Y : LV) (xn : Bool) (x : List Nat) (xc : Option Nat) (hX : ∀ d ∈ X.l, Dig d.a) (hY : ∀ d ∈ Y.l, Dig d.a) (hx : Fl x) :
    Ctr Tryz.prog 5 [.agg [i c, i k], .agg [X.av, Y.av], fsl xn x xc] (fun r => r = bo true) := by
  refine ctr_in Tryz.func5 rfl (by kernel_rfl) rfl fun K hK => ?_
  have s1 := rsmallL_ctr X
  have s2 := rsmallL_ctr Y
  obtain ⟨q1, hq1⟩ : ∃ q, q = smallL X.l := ⟨_, rfl⟩
  obtain ⟨q2, hq2⟩ : ∃ q, q = smallL Y.l := ⟨_, rfl⟩
  rw [← hq1] at s1
  rw [← hq2] at s2
  simp only [Tryz.f5, List.append_eq, List.cons_append, List.nil_append]
  simp
  refine acall_by s1 (by simp) ?_
  rintro _ rfl
  cases q1
  · simp
    refine nlive ?_
    simp
    exact hK _ _ _ (.same _ (by simp)) rfl
  simp
  refine acall_by s2 (by simp) ?_
  rintro _ rfl
  cases q2
  · simp
    refine nlive ?_
    simp
    exact hK _ _ _ (.same _ (by simp)) rfl
  by_cases hl : 12 < x.length
  · simp [hl]
    refine nlive ?_
    simp
    exact hK _ _ _ (.same _ (by simp)) rfl
  have dX := small_ok hX hq1.symm
  have dY := small_ok hY hq2.symm
  simp [hl]
  refine acall_by (nnormal_ctr c k X Y xn x xc dX dY hx (by omega)) (by simp) ?_
  intro r hr
  obtain ⟨a, b, rfl⟩ := nor_shape hr
  simp
  refine acall_by (rnormal_ctr c k X Y xn x xc dX dY hx (by omega)) (by simp) ?_
  intro r hr2
  have hr2 := norP_eq hr2 hr
  subst hr2
  simp
  refine nlive ?_
  simp
  exact hK _ _ _ (.same _ (by simp)) rfl
end Go.Proofs.Nt
/- The laws NearUp and NearBounds as contracts. -/
set_option linter.unusedVariables false
set_option maxRecDepth 20000
set_option linter.unusedSimpArgs false
set_option linter.unnecessarySimpa false
namespace Go.Proofs.Nt
open Go Go.Proofs Go.Proofs.Va Go.RowKit

theorem cmp3_gt {a b : Int} (h : b < a) : cmp3 a b = 1 := by
  unfold cmp3; rw [if_neg (by omega), if_pos h]
theorem cmp3_le {a b : Int} (h : a ≤ b) : cmp3 a b ≤ 0 := by
  unfold cmp3; split
  · omega
  · rw [if_neg (by omega)]; omega
theorem cmp3_ge {a b : Int} (h : b ≤ a) : 0 ≤ cmp3 a b := by
  unfold cmp3; rw [if_neg (by omega)]
  split <;> omega
theorem cmp3_le_iff {a b : Int} (h : cmp3 a b ≤ 0) : a ≤ b := by
  apply Classical.byContradiction
  intro h2
  rw [cmp3_gt (by omega)] at h; omega
theorem cmp3_eq {a b : Int} (h : cmp3 a b = 0) : a = b := by
  unfold cmp3 at h
  split at h
  · omega
  · split at h <;> omega

theorem norm_neg (n : Nat) (e : Int) : (normD false n e).1 = false := by
  unfold normD; split <;> rfl
theorem up_neg (D : Dy) : (upD D).1 = false := by
  unfold upD; split
  · rfl
  · exact norm_neg _ _
theorem pos_neg {d : Dy} (o : dOK d) {M : Int} (h : 0 ≤ iv d M) : d.1 = false := by
  by_cases h0 : val d.2.1 = 0
  · rw [ok_zero_eq o h0]; rfl
  · cases hd : d.1
    · rfl
    · have := up_pos' h0 d.2.2 M
      unfold iv at h
      rw [hd, sg_t] at h
      omega
theorem iv_nonneg {d : Dy} (h : d.1 = false) (M : Int) : 0 ≤ iv d M := by
  unfold iv; rw [h, sg_f]; omega

/-- Of a dyad above 0. -/
theorem up_facts {A : Dy} (oA : dOK A) (bA : Bd (-4000) 5280 A) (hn : A.1 = false) (h0 : val A.2.1 ≠ 0) :
    0 < cmpD (mulD (upD A) (upD A)) A ∧ cmpD (mulD (upD A) (upD A)) (addD A (mulD A (powD (-50)))) ≤ 0 := by
  have bA9 : Bd (-9000) 9000 A := bA.mono (by omega) (by omega)
  have hu : upD A = upN' (val A.2.1) A.2.2 := by unfold upD; rw [if_neg (by rintro (h | h); rw [hn] at h; cases h; exact h0 h)]
  have xA := ok_exp oA.1
  have bU := bd_up bA9
  have oU := ok_up A
  have xU : -4600 ≤ (upD A).2.2 := by
    rcases bU with h | h
    · rw [ok_zero_eq oU h]; decide
    · exact h.1
  obtain ⟨s1, s2⟩ := up_square h0 bA9 (M := -10000) (Int.le_refl _)
  have iU := iv_up h0 bA9 (M := -10000) (by omega)
  rw [← hu] at iU
  have iA : iv A (-20000) = ((up (val A.2.1) A.2.2 (-20000) : Nat) : Int) := by unfold iv; rw [hn, sg_f]
  rw [show (2 : Int) * -10000 = -20000 from rfl] at s1 s2
  generalize (isq (cutN (val A.2.1) (cutU (val A.2.1) A.2.2)) + 1) * 2 ^ ((A.2.2 + cutU (val A.2.1) A.2.2) / 2 - -10000).toNat = S at *
  generalize up (val A.2.1) A.2.2 (-20000) = T at *
  have iU2 : iv (upD A) (-10050) = (S : Int) * ((2 ^ 50 : Nat) : Int) := by
    have := iv_shift (d := upD A) (M := -10000) 50 (by omega)
    rw [← iU, ← this]; rfl
  have iA2 : iv A (-20050) = (T : Int) * ((2 ^ 50 : Nat) : Int) := by
    have := iv_shift (d := A) (M := -20000) 50 (by omega)
    rw [← iA, ← this]; rfl
  have bM : Bd (-4050) 5290 (mulD A (powD (-50))) := (bd_mul bA (bd_pow (-50))).mono (by omega) (by omega)
  constructor
  · rw [cmpD_iv (ok_mul _ _) oA (M := -20000) (by omega)]
    rw [show (-20000 : Int) = -10000 + -10000 from rfl, iv_mul bU bU (by omega) (by omega) (by omega) (by omega), iU, show (-10000 : Int) + -10000 = -20000 from rfl, iA, cmp3_gt (by rw [← Int.natCast_mul]; omega)]
    decide
  · rw [cmpD_iv (ok_mul _ _) (ok_add _ _) (M := -20050) (by omega)]
    refine cmp3_le ?_
    rw [iv_add oA (ok_mul _ _) (bA.mono (L' := -4050) (H' := 5290) (by omega) (by omega)) bM (by omega) (by omega) (by omega) (by omega), iA2]
    rw [show (-20050 : Int) = -20000 + -50 from rfl, iv_mul bA (bd_pow (-50)) (by omega) (by omega) (by omega) (norm_exp _ _ (by omega) (by omega)), iA]
    have hp : iv (powD (-50)) (-50) = 1 := by
      unfold powD
      rw [iv_num (by decide) (by omega) (Int.le_refl _)]; rfl
    rw [hp, show (-20000 : Int) + -50 = -10000 + -10050 from rfl, iv_mul bU bU (by omega) (by omega) (by omega) (by omega), iU, iU2]
    have e1 : ((S : Int) * ((S : Int) * ((2 ^ 50 : Nat) : Int))) = ((S * S * 2 ^ 50 : Nat) : Int) := by
      rw [← Int.mul_assoc, Int.natCast_mul, Int.natCast_mul]
    have e2 : (T : Int) * ((2 ^ 50 : Nat) : Int) + (T : Int) * 1 = ((T * (2 ^ 50 + 1) : Nat) : Int) := by
      rw [← Int.mul_add, Int.natCast_mul]; rfl
    rw [e1, e2]
    exact Int.ofNat_le.2 s2

theorem nups_ctr (A : Dy) (nl : Bool) (cap : Option Nat) (ha : Dig A.2.1) : Ctr Tryz.prog 6 [dy A.1 nl A.2.1 cap A.2.2] (fun r => r = bo true) := by
  refine ctr_in Tryz.func6 rfl (by kernel_rfl) rfl fun K hK => ?_
  have s1 := small_ctr A.1 nl A.2.1 cap A.2.2
  obtain ⟨q1, hq1⟩ : ∃ q, q = (decide (A.2.1.length ≤ 40) && decide (-4000 ≤ A.2.2) && decide (A.2.2 ≤ 4000)) := ⟨_, rfl⟩
  obtain ⟨q3, hq3⟩ : ∃ q, q = dOk A.1 A.2.1 A.2.2 := ⟨_, rfl⟩
  rw [← hq1] at s1
  simp only [Tryz.f6, List.append_eq, List.cons_append, List.nil_append]
  simp [cells_dy, cells_sl, cells_ag, cells_ag0, wr, -cellsOf]
  refine acall_by s1 (by simp [dy]) ?_
  rintro _ rfl
  cases q1
  · simp
    refine nlive ?_
    simp
    exact hK _ _ _ (.same _ (by simp)) rfl
  have hs : (A.2.1.length ≤ 40 ∧ -4000 ≤ A.2.2) ∧ A.2.2 ≤ 4000 := by simpa using hq1.symm
  have s3 := rdcheck_ctr A.1 nl A.2.1 cap A.2.2 ha (by omega)
  rw [← hq3] at s3
  simp [cells_dy, cells_sl, cells_ag, cells_ag0, wr, -cellsOf]
  refine acall_by s3 (by simp [dy]) ?_
  rintro _ rfl
  cases q3
  · simp
    refine nlive ?_
    simp
    exact hK _ _ _ (.same _ (by simp)) rfl
  have oA : dOK A := ⟨hq3.symm, ha⟩
  have zA := ok_zero_iff oA
  have bA : Bd (-4000) 5280 A := bn_len ha hs.1.1 hs.1.2 hs.2
  by_cases hn : A.1 = true
  · simp [cells_dy, cells_sl, cells_ag, cells_ag0, wr, hn, -cellsOf]
    refine nlive ?_
    simp
    exact hK _ _ _ (.same _ (by simp)) rfl
  have hn' : A.1 = false := by simpa using hn
  by_cases hz : A.2.1 = []
  · simp [cells_dy, cells_sl, cells_ag, cells_ag0, aLen_sl, wr, hn', hz, -cellsOf]
    refine nlive ?_
    simp
    exact hK _ _ _ (.same _ (by simp)) rfl
  have h0 : val A.2.1 ≠ 0 := fun h => hz (zA.2 h)
  obtain ⟨f1, f2⟩ := up_facts oA bA hn' h0
  have bA9 : Bd (-9000) 9000 A := bA.mono (by omega) (by omega)
  have c1 := nup_ctr A.1 nl A.2.1 cap A.2.2 ha (by omega) (by rw [may_of_ok oA.1]; exact bA9)
  rw [may_of_ok oA.1] at c1
  have oU := ok_up A
  have hUn := up_neg A
  have bU := bd_up bA9
  have lU := bd_len oU bU (k := 900) (by omega)
  have oS := ok_mul (upD A) (upD A)
  have lS := bd_len oS (bd_mul bU bU) (k := 900) (by omega)
  have lA : A.2.1.length ≤ 900 := by omega
  have c2 := fun n c n' c' => rmulX (n := n) (c := c) (n' := n') (c' := c') oU (by omega) oU (by omega)
  have oP := ok_pow (-50)
  have lP := bd_len oP (bd_pow (-50)) (k := 900) (by omega)
  have cP := rpow_ctr (-50)
  have c3 := fun n' c' => rmulX (n := nl) (c := cap) (n' := n') (c' := c') oA (by omega) oP (by omega)
  have oM := ok_mul A (powD (-50))
  have bM : Bd (-4050) 5290 (mulD A (powD (-50))) := (bd_mul bA (bd_pow (-50))).mono (by omega) (by omega)
  have lM := bd_len oM bM (k := 900) (by omega)
  have c4 := fun n' c' => raddX (n := nl) (c := cap) (n' := n') (c' := c') oA (by omega) oM (by omega)
  have oT := ok_add A (mulD A (powD (-50)))
  have lT := bd_len oT (bd_add oA oM (bA.mono (L' := -4050) (H' := 5290) (by omega) (by omega)) bM (by omega)) (k := 900) (by omega)
  have c5 := fun n c => rcheckX (n := n) (c := c) oU (by omega)
  have c6 := fun n c => rcmpX (n := n) (c := c) (n' := nl) (c' := cap) oS (by omega) oA (by omega)
  have c7 := fun n c n' c' => rcmpX (n := n) (c := c) (n' := n') (c' := c') oS (by omega) oT (by omega)
  clear oU bU lU oS lS oP lP oM bM lM oT lT bA bA9 zA
  generalize cmpD (mulD (upD A) (upD A)) A = cm1 at *
  generalize cmpD (mulD (upD A) (upD A)) (addD A (mulD A (powD (-50)))) = cm2 at *
  generalize addD A (mulD A (powD (-50))) = dT at *
  generalize mulD A (powD (-50)) = dM at *
  generalize powD (-50) = dP at *
  generalize mulD (upD A) (upD A) = dS at *
  generalize upD A = dU at *
  simp [cells_dy, cells_sl, cells_ag, cells_ag0, aLen_sl, wr, hn', hz, -cellsOf]
  rw [hn'] at c1 c3 c4 c6
  refine acall_by c1 (by simp [dy]) ?_
  rintro _ ⟨n1, c1, rfl⟩
  simp [cells_dy, cells_sl, cells_ag, cells_ag0, wr, -cellsOf]
  refine acall_by (c2 n1 c1 n1 c1) (by simp [dy]) ?_
  rintro _ ⟨n2, c2, rfl⟩
  simp [cells_dy, cells_sl, cells_ag, cells_ag0, wr, -cellsOf]
  refine draw_at [1, 1, 5, 5, 5, 2, 4] orders (by kernel_rfl) ?_
  simp [cells_dy, cells_sl, cells_ag, cells_ag0, wr, -cellsOf]
  refine actr_by cP (by simp) ⟨_, told_ex dP⟩ ?_
  rintro _ ⟨n3, c33, rfl⟩
  simp [cells_dy, cells_sl, cells_ag, cells_ag0, wr, -cellsOf]
  refine actr_by (c3 n3 c33) (by simp [dy]) ⟨_, told_ex dM⟩ ?_
  rintro _ ⟨n4, c44, rfl⟩
  simp [cells_dy, cells_sl, cells_ag, cells_ag0, wr, -cellsOf]
  refine actr_by (c4 n4 c44) (by simp [dy]) ⟨_, told_ex dT⟩ ?_
  rintro _ ⟨n5, c55, rfl⟩
  simp [cells_dy, cells_sl, cells_ag, cells_ag0, wr, -cellsOf]
  refine ⟨same_pre (by simp) (by simp) rfl, ?_⟩
  simp [cells_dy, cells_sl, cells_ag, cells_ag0, wr, -cellsOf]
  refine acall_by (c5 n1 c1) (by simp [dy]) ?_
  rintro _ rfl
  simp [cells_dy, cells_sl, cells_ag, cells_ag0, wr, hUn, -cellsOf]
  refine acall_by (c6 n2 c2) (by simp [dy]) ?_
  rintro _ rfl
  simp [cells_dy, cells_sl, cells_ag, cells_ag0, wr, f1, -cellsOf]
  refine acall_by (c7 n2 c2 n5 c55) (by simp [dy]) ?_
  rintro _ rfl
  simp [cells_dy, cells_sl, cells_ag, cells_ag0, wr, f2, -cellsOf]
  refine nlive ?_
  simp
  exact hK _ _ _ (.same _ (by simp)) rfl

/-! ### Bounds -/
theorem bd_up2 {D : Dy} (h : Bd (-4000) 5280 D) : Bd (-2100) 2800 (upD D) := by
  unfold upD; split
  · exact bd_zero _ _
  · rename_i h0
    have hn : val D.2.1 ≠ 0 := fun h => h0 (.inr h)
    refine bd_norm _ ?_
    obtain ⟨h1, h2⟩ : -4000 ≤ D.2.2 ∧ D.2.2 + bl (val D.2.1) ≤ 5280 := by
      rcases h with h | h
      · exact absurd h hn
      · exact h
    obtain ⟨r1, r2⟩ := up_room hn (e := D.2.2)
    have hb := cutU_bl (val D.2.1) D.2.2
    have hp : 1 ≤ bl (val D.2.1) := by
      rcases Nat.eq_zero_or_pos (bl (val D.2.1)) with h | h
      · have := lt_of_bl (n := val D.2.1) (k := 0) (by omega)
        omega
      · exact h
    exact .inr ⟨by omega, by omega⟩
theorem bd_bound2 {U V : Dy} {k : Int} (hk : 0 ≤ k ∧ k ≤ 100000) (oU : dOK U) (oV : dOK V) (bU : Bd (-2100) 2800 U) (bV : Bd (-2100) 2800 V) : Bd (-4300) 5710 (boundD U V k) := by
  have b1 : Bd (-4300) 5700 (mulD (normD false (64 * k).toNat (-53)) (mulD U V)) := (bd_mul (bd_num (bl_64k hk)) (bd_mul bU bV)).mono (by omega) (by omega)
  have b2 : Bd (-4300) 5700 (mulD (normD false k.toNat (-1060)) (addD U V)) := (bd_mul (bd_num (bl_k hk)) (bd_add oU oV bU bV (by omega))).mono (by omega) (by omega)
  have b3 := bd_add (ok_mul _ _) (ok_mul _ _) b1 b2 (by omega)
  have b4 := bd_add (ok_add _ _) (ok_norm _ _ _) b3 ((bd_num (e := -2140) (bl_kk hk)).mono (L' := -4300) (H' := 5701) (by omega) (by omega)) (by omega)
  exact b4.mono (by omega) (by omega)

theorem bound_comm {U V : Dy} {k : Int} (hk : 0 ≤ k ∧ k ≤ 100000) (oU : dOK U) (oV : dOK V) (bU : Bd (-4600) 4600 U) (bV : Bd (-4600) 4600 V) : boundD V U k = boundD U V k := by
  refine iv_inj (ok_bound _ _ _) (ok_bound _ _ _) (M := -20053) (by omega) ?_
  rw [iv_bound hk oU oV bU bV, iv_bound hk oV oU bV bU, Int.mul_comm (iv V _) (iv U _), Int.add_comm (iv V _) (iv U _)]
theorem bound_more {U V : Dy} {k : Int} (hk : 0 ≤ k ∧ k + 1 ≤ 100000) (oU : dOK U) (oV : dOK V) (bU : Bd (-4600) 4600 U) (bV : Bd (-4600) 4600 V) (nU : U.1 = false) (nV : V.1 = false) :
    iv (boundD U V k) (-20053) < iv (boundD U V (k + 1)) (-20053) := by
  rw [iv_bound (by omega) oU oV bU bV, iv_bound (k := k + 1) (by omega) oU oV bU bV]
  have u1 := iv_nonneg nU (-10000)
  have v1 := iv_nonneg nV (-10000)
  have u2 := iv_nonneg nU (-18993)
  have v2 := iv_nonneg nV (-18993)
  have uv := Int.mul_nonneg u1 v1
  have hc : (0 : Int) < ((2 ^ bigK : Nat) : Int) := by have := Nat.two_pow_pos bigK; omega
  generalize ((2 ^ bigK : Nat) : Int) = c at *
  generalize iv U (-10000) * iv V (-10000) = p at *
  have hs : 0 ≤ iv U (-18993) + iv V (-18993) := by omega
  generalize iv U (-18993) + iv V (-18993) = s at *
  have e1 : 64 * (k + 1) * p = 64 * k * p + 64 * p := by rw [Int.mul_add, Int.add_mul, Int.mul_one]
  have e2 : (k + 1) * s = k * s + s := by rw [Int.add_mul, Int.one_mul]
  have e3 : (k + 1) * (k + 1) * c = k * k * c + (2 * k + 1) * c := by
    rw [← Int.add_mul]; congr 1; rw [Int.add_mul, Int.mul_add]; omega
  have h4 : 0 < (2 * k + 1) * c := Int.mul_pos (by omega) hc
  rw [e1, e2, e3]
  generalize k * k * c = x1 at *
  generalize (2 * k + 1) * c = x2 at *
  generalize k * s = x3 at *
  generalize 64 * k * p = x4 at *
  omega
theorem bound_nonneg {U V : Dy} {k : Int} (hk : 0 ≤ k ∧ k ≤ 100000) (oU : dOK U) (oV : dOK V) (bU : Bd (-4600) 4600 U) (bV : Bd (-4600) 4600 V) (nU : U.1 = false) (nV : V.1 = false) :
    64 * k * (iv U (-10000) * iv V (-10000)) ≤ iv (boundD U V k) (-20053) ∧ 0 ≤ iv (boundD U V k) (-20053) := by
  rw [iv_bound hk oU oV bU bV]
  have u1 := iv_nonneg nU (-10000)
  have v1 := iv_nonneg nV (-10000)
  have u2 := iv_nonneg nU (-18993)
  have v2 := iv_nonneg nV (-18993)
  have uv := Int.mul_nonneg u1 v1
  have hc : (0 : Int) ≤ ((2 ^ bigK : Nat) : Int) := Int.natCast_nonneg _
  generalize ((2 ^ bigK : Nat) : Int) = c at *
  generalize iv U (-10000) * iv V (-10000) = p at *
  have hs : 0 ≤ iv U (-18993) + iv V (-18993) := by omega
  generalize iv U (-18993) + iv V (-18993) = s at *
  have h1 := Int.mul_nonneg (show 0 ≤ 64 * k by omega) uv
  have h2 := Int.mul_nonneg hk.1 hs
  have h3 := Int.mul_nonneg (Int.mul_nonneg hk.1 hk.1) hc
  generalize k * k * c = x1 at *
  generalize k * s = x3 at *
  generalize 64 * k * p = x4 at *
  omega

/-- The square of a norm is not below the dyad. -/
theorem up_ge {A : Dy} (oA : dOK A) (bA : Bd (-9000) 9000 A) (hn : A.1 = false) : iv A (-20000) ≤ iv (upD A) (-10000) * iv (upD A) (-10000) := by
  by_cases h0 : val A.2.1 = 0
  · rw [ok_zero_eq oA h0, iv_zero]
    have : upD zeroD = zeroD := by decide
    rw [this, iv_zero]; decide
  · have hu : upD A = upN' (val A.2.1) A.2.2 := by unfold upD; rw [if_neg (by rintro (h | h); rw [hn] at h; cases h; exact h0 h)]
    obtain ⟨s1, _⟩ := up_square h0 bA (M := -10000) (Int.le_refl _)
    have iU := iv_up h0 bA (M := -10000) (by omega)
    have iA : iv A (-20000) = ((up (val A.2.1) A.2.2 (-20000) : Nat) : Int) := by unfold iv; rw [hn, sg_f]
    rw [hu, iU, iA, ← Int.natCast_mul]
    rw [show (2 : Int) * -10000 = -20000 from rfl] at s1
    exact Int.ofNat_le.2 (Nat.le_of_lt s1)

theorem sq_le {α β u v k p : Int} (ha : 0 ≤ α) (hb : 0 ≤ β) (h1 : α ≤ u * u) (h2 : β ≤ v * v) (hu : 0 ≤ u) (hv : 0 ≤ v) (hk : 0 ≤ k) (hp : 64 * k * (u * v) ≤ p) : α * β * (k * k * 4096) ≤ p * p := by
  have huv := Int.mul_nonneg hu hv
  have h3 : α * β ≤ (u * v) * (u * v) := by
    have := Int.mul_le_mul h1 h2 hb (Int.le_trans ha h1)
    have e : u * u * (v * v) = (u * v) * (u * v) := by rw [Int.mul_assoc, Int.mul_assoc, Int.mul_left_comm u v]
    rwa [e] at this
  have h4 : 0 ≤ 64 * k * (u * v) := Int.mul_nonneg (by omega) huv
  have h5 : (64 * k * (u * v)) * (64 * k * (u * v)) ≤ p * p := Int.mul_le_mul hp hp h4 (Int.le_trans h4 hp)
  have h6 : α * β * (k * k * 4096) ≤ (u * v) * (u * v) * (k * k * 4096) := Int.mul_le_mul_of_nonneg_right h3 (by have := Int.mul_nonneg hk hk; omega)
  have e2 : (u * v) * (u * v) * (k * k * 4096) = (64 * k * (u * v)) * (64 * k * (u * v)) := by
    rw [show (4096 : Int) = 64 * 64 from rfl]
    generalize (64 : Int) = c
    generalize u * v = w
    ac_rfl
  rw [← e2] at h5
  exact Int.le_trans h6 h5
end Go.Proofs.Nt
/- The law NearBounds as a contract. -/
set_option linter.unusedVariables false
set_option maxRecDepth 20000
set_option linter.unusedSimpArgs false
set_option linter.unnecessarySimpa false
namespace Go.Proofs.Nt
open Go Go.Proofs Go.Proofs.Va Go.RowKit

theorem exp_ge {d : Dy} {L H : Int} (o : dOK d) (b : Bd L H d) (hL : L ≤ 0) : L ≤ d.2.2 := by
  rcases b with h | h
  · rw [ok_zero_eq o h]; exact hL
  · exact h.1

def times47 (k : Int) : Dy := timesD (powD (-47)) k
theorem bd_t47 {k : Int} (hk : 0 ≤ k ∧ k ≤ 100000) : Bd (-47) 73 (times47 k) := (bd_times (bd_pow _) (bl_k hk)).mono (by omega) (by omega)
theorem ok_t47 (k : Int) : dOK (times47 k) := ok_mul _ _
theorem iv_t47 {k : Int} (hk : 0 ≤ k ∧ k ≤ 100000) : iv (times47 k) (-47) = k := by
  unfold times47
  rw [iv_times (bd_pow _) (by omega) (by omega) (bl_k hk) (norm_exp _ _ (by omega) (by omega))]
  have : iv (powD (-47)) (-47) = 1 := by
    unfold powD
    rw [iv_num (by decide) (by omega) (Int.le_refl _)]; rfl
  rw [this]; omega
theorem iv_most {k : Int} (hk : 0 ≤ k ∧ k ≤ 100000) : iv (mulD (times47 k) (times47 k)) (-106) = k * k * 4096 := by
  have bT := bd_t47 hk
  have xT := exp_ge (ok_t47 k) bT (by omega)
  have xM := exp_ge (ok_mul (times47 k) (times47 k)) (bd_mul bT bT) (by omega)
  have h1 := iv_mul bT bT (M := -47) (M' := -47) (by omega) (by omega) xT xT
  rw [iv_t47 hk] at h1
  have h2 := iv_shift (d := mulD (times47 k) (times47 k)) (M := -47 + -47) 12 (by omega)
  rw [h1] at h2
  rw [show (-106 : Int) = -47 + -47 - ((12 : Nat) : Int) from rfl, h2]; rfl

theorem bounds_facts {A B : Dy} {k : Int} (oA : dOK A) (oB : dOK B) (bA : Bd (-4000) 5280 A) (bB : Bd (-4000) 5280 B) (nA : A.1 = false) (nB : B.1 = false) (hk : 1 ≤ k ∧ k < 100000) :
    0 ≤ cmpD (mulD (boundD (upD A) (upD B) k) (boundD (upD A) (upD B) k)) (mulD (mulD A B) (mulD (times47 k) (times47 k))) ∧
    cmpD (boundD (upD A) (upD B) (k + 1)) (boundD (upD A) (upD B) k) = 1 ∧ boundD (upD B) (upD A) k = boundD (upD A) (upD B) k ∧ (boundD (upD A) (upD B) k).1 = false := by
  have hk' : 0 ≤ k ∧ k ≤ 100000 := by omega
  have b9A : Bd (-9000) 9000 A := bA.mono (by omega) (by omega)
  have b9B : Bd (-9000) 9000 B := bB.mono (by omega) (by omega)
  have oU := ok_up A
  have oV := ok_up B
  have bU := bd_up b9A
  have bV := bd_up b9B
  have nU := up_neg A
  have nV := up_neg B
  obtain ⟨p1, p2⟩ := bound_nonneg hk' oU oV bU bV nU nV
  have bX := bd_bound2 hk' oU oV (bd_up2 bA) (bd_up2 bB)
  have oX := ok_bound (upD A) (upD B) k
  have xX := exp_ge oX bX (by omega)
  have xA := exp_ge oA bA (by omega)
  have xB := exp_ge oB bB (by omega)
  have bAB := bd_mul bA bB
  have xAB := exp_ge (ok_mul A B) bAB (by omega)
  have bT := bd_t47 hk'
  have bTT := bd_mul bT bT
  have xTT := exp_ge (ok_mul (times47 k) (times47 k)) bTT (by omega)
  refine ⟨?_, ?_, bound_comm hk' oU oV bU bV, pos_neg oX p2⟩
  · rw [cmpD_iv (ok_mul _ _) (ok_mul _ _) (M := -40106) (by omega)]
    refine cmp3_ge ?_
    rw [show (-40106 : Int) = -20053 + -20053 from rfl, iv_mul bX bX (by omega) (by omega) (by omega) (by omega)]
    rw [show (-20053 : Int) + -20053 = -40000 + -106 from rfl, iv_mul bAB bTT (by omega) (by omega) (by omega) (by omega), iv_most hk']
    rw [show (-40000 : Int) = -20000 + -20000 from rfl, iv_mul bA bB (by omega) (by omega) (by omega) (by omega)]
    exact sq_le (iv_nonneg nA _) (iv_nonneg nB _) (up_ge oA b9A nA) (up_ge oB b9B nB) (iv_nonneg nU _) (iv_nonneg nV _) (by omega) p1
  · rw [cmpD_iv (ok_bound _ _ _) oX (M := -20053) (by omega)]
    exact cmp3_gt (bound_more (by omega) oU oV bU bV nU nV)

theorem nbounds_ctr (A B : Dy) (nl nl' : Bool) (cap cap' : Option Nat) (k : Int) (ha : Dig A.2.1) (hb : Dig B.2.1) :
    Ctr Tryz.prog 7 [dy A.1 nl A.2.1 cap A.2.2, dy B.1 nl' B.2.1 cap' B.2.2, i k] (fun r => r = bo true) := by
  refine ctr_in Tryz.func7 rfl (by kernel_rfl) rfl fun K hK => ?_
  have s1 := small_ctr A.1 nl A.2.1 cap A.2.2
  have s2 := small_ctr B.1 nl' B.2.1 cap' B.2.2
  obtain ⟨q1, hq1⟩ : ∃ q, q = (decide (A.2.1.length ≤ 40) && decide (-4000 ≤ A.2.2) && decide (A.2.2 ≤ 4000)) := ⟨_, rfl⟩
  obtain ⟨q2, hq2⟩ : ∃ q, q = (decide (B.2.1.length ≤ 40) && decide (-4000 ≤ B.2.2) && decide (B.2.2 ≤ 4000)) := ⟨_, rfl⟩
  obtain ⟨q3, hq3⟩ : ∃ q, q = dOk A.1 A.2.1 A.2.2 := ⟨_, rfl⟩
  obtain ⟨q4, hq4⟩ : ∃ q, q = dOk B.1 B.2.1 B.2.2 := ⟨_, rfl⟩
  rw [← hq1] at s1
  rw [← hq2] at s2
  simp only [Tryz.f7, List.append_eq, List.cons_append, List.nil_append]
  simp [cells_dy, cells_sl, cells_ag, cells_ag0, wr, -cellsOf]
  refine acall_by s1 (by simp [dy]) ?_
  rintro _ rfl
  cases q1
  · simp
    refine nlive ?_
    simp
    exact hK _ _ _ (.same _ (by simp)) rfl
  simp [cells_dy, cells_sl, cells_ag, cells_ag0, wr, -cellsOf]
  refine acall_by s2 (by simp [dy]) ?_
  rintro _ rfl
  cases q2
  · simp
    refine nlive ?_
    simp
    exact hK _ _ _ (.same _ (by simp)) rfl
  have hs : (A.2.1.length ≤ 40 ∧ -4000 ≤ A.2.2) ∧ A.2.2 ≤ 4000 := by simpa using hq1.symm
  have hs' : (B.2.1.length ≤ 40 ∧ -4000 ≤ B.2.2) ∧ B.2.2 ≤ 4000 := by simpa using hq2.symm
  have s3 := rdcheck_ctr A.1 nl A.2.1 cap A.2.2 ha (by omega)
  have s4 := rdcheck_ctr B.1 nl' B.2.1 cap' B.2.2 hb (by omega)
  rw [← hq3] at s3
  rw [← hq4] at s4
  simp [cells_dy, cells_sl, cells_ag, cells_ag0, wr, -cellsOf]
  refine acall_by s3 (by simp [dy]) ?_
  rintro _ rfl
  cases q3
  · simp
    refine nlive ?_
    simp
    exact hK _ _ _ (.same _ (by simp)) rfl
  simp [cells_dy, cells_sl, cells_ag, cells_ag0, wr, -cellsOf]
  refine acall_by s4 (by simp [dy]) ?_
  rintro _ rfl
  cases q4
  · simp
    refine nlive ?_
    simp
    exact hK _ _ _ (.same _ (by simp)) rfl
  have oA : dOK A := ⟨hq3.symm, ha⟩
  have oB : dOK B := ⟨hq4.symm, hb⟩
  have bA : Bd (-4000) 5280 A := bn_len ha hs.1.1 hs.1.2 hs.2
  have bB : Bd (-4000) 5280 B := bn_len hb hs'.1.1 hs'.1.2 hs'.2
  by_cases hn : A.1 = true
  · simp [cells_dy, cells_sl, cells_ag, cells_ag0, wr, hn, -cellsOf]
    refine nlive ?_
    simp
    exact hK _ _ _ (.same _ (by simp)) rfl
  have hn' : A.1 = false := by simpa using hn
  by_cases hm : B.1 = true
  · simp [cells_dy, cells_sl, cells_ag, cells_ag0, wr, hn', hm, -cellsOf]
    refine nlive ?_
    simp
    exact hK _ _ _ (.same _ (by simp)) rfl
  have hm' : B.1 = false := by simpa using hm
  by_cases k1 : k < 1
  · simp [cells_dy, cells_sl, cells_ag, cells_ag0, wr, hn', hm', k1, -cellsOf]
    refine nlive ?_
    simp
    exact hK _ _ _ (.same _ (by simp)) rfl
  by_cases k2 : 100000 ≤ k
  · simp [cells_dy, cells_sl, cells_ag, cells_ag0, wr, hn', hm', k1, k2, -cellsOf]
    refine nlive ?_
    simp
    exact hK _ _ _ (.same _ (by simp)) rfl
  have hk : 1 ≤ k ∧ k < 100000 := by omega
  obtain ⟨f1, f2, f3, f4⟩ := bounds_facts oA oB bA bB hn' hm' hk
  have b9A : Bd (-9000) 9000 A := bA.mono (by omega) (by omega)
  have b9B : Bd (-9000) 9000 B := bB.mono (by omega) (by omega)
  have cX := nBound_ctr A B k nl nl' cap cap' ha hb (by omega) (by omega) (by rw [may_of_ok oA.1]; exact b9A) (by rw [may_of_ok oB.1]; exact b9B)
  have cX1 := nBound_ctr A B (k + 1) nl nl' cap cap' ha hb (by omega) (by omega) (by rw [may_of_ok oA.1]; exact b9A) (by rw [may_of_ok oB.1]; exact b9B)
  have cXr := nBound_ctr B A k nl' nl cap' cap hb ha (by omega) (by omega) (by rw [may_of_ok oB.1]; exact b9B) (by rw [may_of_ok oA.1]; exact b9A)
  have e1 : boundX A B k = boundD (upD A) (upD B) k := if_pos (by omega)
  have e2 : boundX A B (k + 1) = boundD (upD A) (upD B) (k + 1) := if_pos (by omega)
  have e3 : boundX B A k = boundD (upD B) (upD A) k := if_pos (by omega)
  rw [may_of_ok oA.1, may_of_ok oB.1] at cX cX1 cXr
  rw [e1] at cX
  rw [e2] at cX1
  rw [e3, f3] at cXr
  have oX := ok_bound (upD A) (upD B) k
  have bX := bd_bound2 (k := k) (by omega) (ok_up A) (ok_up B) (bd_up2 bA) (bd_up2 bB)
  have lX := bd_len oX bX (k := 900) (by omega)
  have oX1 := ok_bound (upD A) (upD B) (k + 1)
  have lX1 := bd_len oX1 (bd_bound2 (k := k + 1) (by omega) (ok_up A) (ok_up B) (bd_up2 bA) (bd_up2 bB)) (k := 900) (by omega)
  have oXX := ok_mul (boundD (upD A) (upD B) k) (boundD (upD A) (upD B) k)
  have lXX := bd_len oXX (bd_mul bX bX) (k := 900) (by omega)
  have oAB := ok_mul A B
  have bAB := bd_mul bA bB
  have lAB := bd_len oAB bAB (k := 900) (by omega)
  have oT := ok_t47 k
  have bT := bd_t47 (k := k) (by omega)
  have lT := bd_len oT bT (k := 900) (by omega)
  have oTT := ok_mul (times47 k) (times47 k)
  have lTT := bd_len oTT (bd_mul bT bT) (k := 900) (by omega)
  have oQ := ok_mul (mulD A B) (mulD (times47 k) (times47 k))
  have lQ := bd_len oQ (bd_mul bAB (bd_mul bT bT)) (k := 900) (by omega)
  have oP := ok_pow (-47)
  have lP := bd_len oP (bd_pow (-47)) (k := 900) (by omega)
  have cP := rpow_ctr (-47)
  have cT := fun n c => rtimes_ctr (powD (-47)).1 n (powD (-47)).2.1 c (powD (-47)).2.2 k oP.2 (by omega) (by omega)
  rw [may_of_ok oP.1] at cT
  change ∀ n c, Ctr _ _ _ (dTold (times47 k)) at cT
  have cTT := fun n c n' c' => rmulX (n := n) (c := c) (n' := n') (c' := c') oT (by omega) oT (by omega)
  have cXX := fun n c => rmulX (n := n) (c := c) (n' := n) (c' := c) oX (by omega) oX (by omega)
  have cAB := rmulX (n := nl) (c := cap) (n' := nl') (c' := cap') oA (by omega) oB (by omega)
  have cQ := fun n c n' c' => rmulX (n := n) (c := c) (n' := n') (c' := c') oAB (by omega) oTT (by omega)
  have cC1 := fun n c n' c' => rcmpX (n := n) (c := c) (n' := n') (c' := c') oXX (by omega) oQ (by omega)
  have cC2 := fun n c n' c' => rcmpX (n := n) (c := c) (n' := n') (c' := c') oX1 (by omega) oX (by omega)
  rw [f2] at cC2
  have wk : IntKind.i64.wrap (k + 1) = k + 1 := w64 _ (by omega) (by omega)
  clear oX bX oX1 lX1 oXX lXX oAB bAB lAB oT bT lT oTT lTT oQ lQ oP lP e1 e2 e3 f2 f3 b9A b9B bA bB oA oB
  generalize cmpD (mulD (boundD (upD A) (upD B) k) (boundD (upD A) (upD B) k)) (mulD (mulD A B) (mulD (times47 k) (times47 k))) = cm at *
  generalize mulD (mulD A B) (mulD (times47 k) (times47 k)) = dQ at *
  generalize mulD (times47 k) (times47 k) = dTT at *
  generalize times47 k = dT at *
  generalize mulD (boundD (upD A) (upD B) k) (boundD (upD A) (upD B) k) = dXX at *
  generalize boundD (upD A) (upD B) (k + 1) = dX1 at *
  generalize boundD (upD A) (upD B) k = dX at *
  generalize mulD A B = dAB at *
  generalize powD (-47) = dP at *
  have g1 : ¬ cm < 0 := by omega
  rw [hn'] at cX cX1 cXr cAB
  rw [hm'] at cX cX1 cXr cAB
  simp [cells_dy, cells_sl, cells_ag, cells_ag0, wr, hn', hm', k1, k2, -cellsOf]
  refine acall_by cX (by simp [dy]) ?_
  rintro _ ⟨n1, c1, rfl⟩
  simp [cells_dy, cells_sl, cells_ag, cells_ag0, wr, -cellsOf]
  refine acall_by cP (by simp) ?_
  rintro _ ⟨n2, c2, rfl⟩
  simp [cells_dy, cells_sl, cells_ag, cells_ag0, wr, -cellsOf]
  refine acall_by (cT n2 c2) (by simp [dy]) ?_
  rintro _ ⟨n3, c3, rfl⟩
  simp [cells_dy, cells_sl, cells_ag, cells_ag0, wr, -cellsOf]
  refine acall_by cP (by simp) ?_
  rintro _ ⟨n4, c4, rfl⟩
  simp [cells_dy, cells_sl, cells_ag, cells_ag0, wr, -cellsOf]
  refine acall_by (cT n4 c4) (by simp [dy]) ?_
  rintro _ ⟨n5, c5, rfl⟩
  simp [cells_dy, cells_sl, cells_ag, cells_ag0, wr, -cellsOf]
  refine acall_by (cTT n3 c3 n5 c5) (by simp [dy]) ?_
  rintro _ ⟨n6, c6, rfl⟩
  simp [cells_dy, cells_sl, cells_ag, cells_ag0, wr, -cellsOf]
  refine draw_at [1, 1, 3, 1, 1, 3, 1, 3, 3, 0] orders (by kernel_rfl) ?_
  simp [cells_dy, cells_sl, cells_ag, cells_ag0, wr, -cellsOf]
  refine acall_by (cXX n1 c1) (by simp [dy]) ?_
  rintro _ ⟨n7, c7, rfl⟩
  simp [cells_dy, cells_sl, cells_ag, cells_ag0, wr, -cellsOf]
  refine acall_by cAB (by simp [dy]) ?_
  rintro _ ⟨n8, c8, rfl⟩
  simp [cells_dy, cells_sl, cells_ag, cells_ag0, wr, -cellsOf]
  refine acall_by (cQ n8 c8 n6 c6) (by simp [dy]) ?_
  rintro _ ⟨n9, c9, rfl⟩
  simp [cells_dy, cells_sl, cells_ag, cells_ag0, wr, -cellsOf]
  refine acall_by (cC1 n7 c7 n9 c9) (by simp [dy]) ?_
  rintro _ rfl
  simp [cells_dy, cells_sl, cells_ag, cells_ag0, wr, g1, -cellsOf]
  refine draw_at [1, 1, 0, 0, 3, 1, 3, 0, 0, 1, 1, 0, 3, 1, 3, 0, 0, 1, 1, 0, 0, 0, 3, 0, 0] orders (by kernel_rfl) ?_
  simp [cells_dy, cells_sl, cells_ag, cells_ag0, wr, wk, -cellsOf]
  refine acall_by cX1 (by simp [dy]) ?_
  rintro _ ⟨n10, c10, rfl⟩
  simp [cells_dy, cells_sl, cells_ag, cells_ag0, wr, -cellsOf]
  refine acall_by (cC2 n10 c10 n1 c1) (by simp [dy]) ?_
  rintro _ rfl
  simp [cells_dy, cells_sl, cells_ag, cells_ag0, wr, -cellsOf]
  refine acall_by cXr (by simp [dy]) ?_
  rintro _ ⟨n11, c11, rfl⟩
  simp [cells_dy, cells_sl, cells_ag, cells_ag0, wr, -cellsOf]
  refine acall_by (sameX (d := dX) (d' := dX) (by omega) (by omega)) (by simp [dy]) ?_
  rintro _ rfl
  simp [cells_dy, cells_sl, cells_ag, cells_ag0, wr, f4, -cellsOf]
  refine nlive ?_
  simp
  exact hK _ _ _ (.same _ (by simp)) rfl
end Go.Proofs.Nt
/- The law NearMore as a contract. -/
set_option linter.unusedVariables false
set_option maxRecDepth 20000
set_option linter.unusedSimpArgs false
set_option linter.unnecessarySimpa false
namespace Go.Proofs.Nt
open Go Go.Proofs Go.Proofs.Va Go.RowKit

section
variable {N I G : List DV} {c : Nat} {k : Int} (hN : DvOk N) (hI : DvOk I) (hG : DvOk G)
include hN hG
theorem iv_apart (q : Nat) {M : Int} (hM : M ≤ -20000) : iv (apart N G q) M = ((iv (gv G q).m M - iv (gv N q).m M).natAbs : Int) := by
  unfold apart
  rw [iv_absX (ok_add _ _) hM, iv_add (ok_m hG q) (ok_opp _) (hG.at q).2.2 (bd_opp (hN.at q).2.2) (by omega) (by omega) (by omega) (by omega), iv_opp (ok_m hN q) hM, ← Int.sub_eq_add_neg]
theorem cmp_far_iv (p q : Nat) : far N I G c k p q = decide (0 < cmp3 (((iv (gv G (atN c p q)).m (-20053) - iv (gv N (atN c p q)).m (-20053)).natAbs : Nat) : Int) (iv (boundD (upE I c p) (upE I c q) k) (-20053))) := by
  have oa : dOK (apart N G (atN c p q)) := ok_absX _
  unfold far
  rw [cmpD_iv oa (ok_bound _ _ _) (M := -20053) (by omega), iv_apart hN hG _ (by omega)]
include hI
theorem far_more (hk : 0 ≤ k ∧ k + 1 ≤ 100000) (p q : Nat) (h : far N I G c k p q = false) : far N I G c (k + 1) p q = false := by
  rw [cmp_far_iv hN hG] at h ⊢
  have h1 := bound_more hk (ok_upE I c p) (ok_upE I c q) (bd_upE hI _ _) (bd_upE hI _ _) (up_neg _) (up_neg _)
  have h2 := of_decide_eq_false h
  have h3 := cmp3_le_iff (a := (((iv (gv G (atN c p q)).m (-20053) - iv (gv N (atN c p q)).m (-20053)).natAbs : Nat) : Int)) (b := iv (boundD (upE I c p) (upE I c q) k) (-20053)) (by omega)
  rw [decide_eq_false]
  have h4 := cmp3_le (a := (((iv (gv G (atN c p q)).m (-20053) - iv (gv N (atN c p q)).m (-20053)).natAbs : Nat) : Int)) (b := iv (boundD (upE I c p) (upE I c q) (k + 1)) (-20053)) (by omega)
  omega
theorem far_differ (hk : 0 ≤ k ∧ k ≤ 100000) (p q : Nat) (h : far N I G c k p q = true) : ¬ cmpD (gv N (atN c p q)).m (gv G (atN c p q)).m = 0 := by
  intro h0
  rw [cmpD_iv (ok_m hN _) (ok_m hG _) (M := -20053) (by omega)] at h0
  have h0 := cmp3_eq h0
  rw [cmp_far_iv hN hG, ← h0, Int.sub_self] at h
  obtain ⟨_, h2⟩ := bound_nonneg hk (ok_upE I c p) (ok_upE I c q) (bd_upE hI _ _) (bd_upE hI _ _) (up_neg _) (up_neg _)
  have h3 := cmp3_le (a := ((0 : Nat) : Int)) h2
  have h4 := of_decide_eq_true h
  have h4 : 0 < cmp3 ((0 : Nat) : Int) _ := h4
  exact absurd h4 (Int.not_lt.2 h3)
end
theorem far_self {N I : List DV} {c : Nat} {k : Int} (hN : DvOk N) (hI : DvOk I) (hk : 0 ≤ k ∧ k ≤ 100000) (p q : Nat) : far N I N c k p q = false := by
  rw [cmp_far_iv hN hN, Int.sub_self]
  obtain ⟨_, h⟩ := bound_nonneg hk (ok_upE I c p) (ok_upE I c q) (bd_upE hI _ _) (bd_upE hI _ _) (up_neg _) (up_neg _)
  rw [decide_eq_false]
  have h3 := cmp3_le (a := ((0 : Nat) : Int)) h
  show ¬ 0 < cmp3 ((0 : Nat) : Int) _
  exact Int.not_lt.2 h3

theorem chk_bad {N I G : List DV} {c k : Int} {a : Int} {b : Bool} (hv : ¬ chkV N I G c k) (h : chkP N I G c k (.tup [i a, bo b])) : b = false := by
  unfold chkP at h
  rw [if_neg hv] at h
  have h2 := congrArg (fun r => match r with
    | AV.tup [_, .v (.bool b)] => b
    | _ => false) h
  exact h2

theorem tup2 {a a' : Int} {b b' : Bool} (h : AV.tup [i a, bo b] = AV.tup [i a', bo b']) : a = a' ∧ b = b' := by
  have h1 := congrArg (fun r => match r with
    | AV.tup [.v (.int _ z), _] => z
    | _ => 0) h
  have h2 := congrArg (fun r => match r with
    | AV.tup [_, .v (.bool b)] => b
    | _ => false) h
  exact ⟨h1, h2⟩
theorem first_cases {c : Nat} {f : Nat → Nat → Bool} {a : Int} {b : Bool} (h : firstP c f (.tup [i a, bo b])) :
    (∃ i' j', i' ≤ j' ∧ j' ≤ c ∧ f i' j' = true ∧ a = atI c i' j' ∧ b = false) ∨ ((∀ p q, p ≤ q → q ≤ c → f p q = false) ∧ a = 0 ∧ b = true) := by
  rcases h with ⟨i', j', h1, h2, h3, _, h5⟩ | ⟨h1, h5⟩
  · exact .inl ⟨i', j', h1, h2, h3, (tup2 h5).1, (tup2 h5).2⟩
  · exact .inr ⟨h1, (tup2 h5).1, (tup2 h5).2⟩
theorem chk_one {N I G : List DV} {c : Nat} {k : Int} {a : Int} {b : Bool} (hv : chkV N I G c k) (hg : ∀ p q, p ≤ q → q ≤ c → far N I G c k p q = false) (h : chkP N I G c k (.tup [i a, bo b])) : a = 0 ∧ b = true := by
  have h2 := chk_val hv h (r' := .tup [i 0, bo true]) (.inr ⟨hg, rfl⟩)
  exact tup2 h2

set_option maxHeartbeats 1000000 in
theorem nmore_ctr (c k : Int) (X Y Z : LV) (hX : ∀ d ∈ X.l, Dig d.a) (hY : ∀ d ∈ Y.l, Dig d.a) (hZ : ∀ d ∈ Z.l, Dig d.a) :
    Ctr Tryz.prog 8 [i c, .agg [X.av, Y.av, Z.av], i k] (fun r => r = bo true) := by
  refine ctr_in_aw Tryz.func8 rfl (by kernel_rfl) rfl fun K hK => ?_
  have s1 := rsmallL_ctr X
  have s2 := rsmallL_ctr Y
  have s3 := rsmallL_ctr Z
  obtain ⟨q1, hq1⟩ : ∃ q, q = smallL X.l := ⟨_, rfl⟩
  obtain ⟨q2, hq2⟩ : ∃ q, q = smallL Y.l := ⟨_, rfl⟩
  obtain ⟨q3, hq3⟩ : ∃ q, q = smallL Z.l := ⟨_, rfl⟩
  rw [← hq1] at s1
  rw [← hq2] at s2
  rw [← hq3] at s3
  simp only [Tryz.f8, List.append_eq, List.cons_append, List.nil_append]
  refine aw_seq ?_
  simp
  refine aw_seq ?_
  simp
  refine acall_by s1 (by simp) ?_
  rintro _ rfl
  cases q1
  · simp
    refine nlive ?_
    simp
    exact hK _ _ _ (.same _ (by simp)) rfl
  simp
  refine acall_by s2 (by simp) ?_
  rintro _ rfl
  cases q2
  · simp
    refine nlive ?_
    simp
    exact hK _ _ _ (.same _ (by simp)) rfl
  simp
  refine acall_by s3 (by simp) ?_
  rintro _ rfl
  cases q3
  · simp
    refine nlive ?_
    simp
    exact hK _ _ _ (.same _ (by simp)) rfl
  have dX := small_ok hX hq1.symm
  have dY := small_ok hY hq2.symm
  have dZ := small_ok hZ hq3.symm
  simp
  refine aw_wk (Wk.lst (T' := [(0, i c), (2, i k), (4, .po 0 0 0)]) (by simp) (by simp)) ?_
  refine aw_seq ?_
  simp
  refine acall_by (rsize_ctr c) (by simp) ?_
  rintro _ rfl
  simp
  refine aw_wk (Wk.lst (T' := [(0, i c), (2, i k), (4, .po 0 0 0), (7, i (sizeI c))]) (by simp) (by simp)) ?_
  refine aw_seq ?_
  simp
  refine acall_by (ncheck_ctr c k X Y Z dX dY dZ) (by simp) ?_
  intro r hr
  obtain ⟨a, b, rfl⟩ := chk_shape hr
  simp
  refine aw_wk (Wk.lst (T' := [(0, i c), (2, i k), (4, .po 0 0 0), (7, i (sizeI c)), (8, i a), (9, bo b)]) (by simp) (by simp)) ?_
  refine aw_seq ?_
  by_cases a1 : sizeI c = 0
  · have hb := chk_bad (fun hv => by have := (size_facts hv.1).2.2; omega) hr
    subst hb
    simp [a1]
    refine nlive ?_
    simp
    exact hK _ _ _ (.same _ (by simp)) rfl
  have hc : 1 ≤ c ∧ c ≤ 6 := by
    apply Classical.byContradiction
    intro h
    exact a1 (if_neg h)
  obtain ⟨n, rfl⟩ : ∃ n : Nat, c = n := ⟨c.toNat, by omega⟩
  have hsz : sizeI n = (sizeN n : Int) := by unfold sizeI; rw [if_pos hc]; rfl
  rw [hsz] at a1
  have a1' : ¬ sizeN n = 0 := by omega
  by_cases lX : X.l.length = sizeN n
  case neg =>
    have lX' : ¬ ((X.l.length : Nat) : Int) = (sizeN n : Int) := by omega
    have hb := chk_bad (fun hv => lX hv.2.1) hr
    subst hb
    simp [hsz, a1, a1', lX, lX']
    refine nlive ?_
    simp
    exact hK _ _ _ (.same _ (by simp)) rfl
  by_cases lY : Y.l.length = sizeN n
  case neg =>
    have lY' : ¬ ((Y.l.length : Nat) : Int) = (sizeN n : Int) := by omega
    have hb := chk_bad (fun hv => lY hv.2.2.1) hr
    subst hb
    simp [hsz, a1, a1', lX, lY, lY']
    refine nlive ?_
    simp
    exact hK _ _ _ (.same _ (by simp)) rfl
  by_cases lZ : Z.l.length = sizeN n
  case neg =>
    have lZ' : ¬ ((Z.l.length : Nat) : Int) = (sizeN n : Int) := by omega
    have hb := chk_bad (fun hv => lZ hv.2.2.2.1) hr
    subst hb
    simp [hsz, a1, a1', lX, lY, lZ, lZ']
    refine nlive ?_
    simp
    exact hK _ _ _ (.same _ (by simp)) rfl
  by_cases k1 : k < 0
  · have k1' : ¬ 0 ≤ k := by omega
    have hb := chk_bad (fun hv => by have := hv.2.2.2.2; omega) hr
    subst hb
    simp [hsz, a1, a1', lX, lY, lZ, k1, k1']
    refine nlive ?_
    simp
    exact hK _ _ _ (.same _ (by simp)) rfl
  have k1' : 0 ≤ k := by omega
  by_cases k2 : 100000 ≤ k
  · by_cases k3 : k = 100000
    · cases b
      · simp [hsz, a1, a1', lX, lY, lZ, k1, k1', k2]
        refine nlive ?_
        simp
        exact hK _ _ _ (.same _ (by simp)) rfl
      · subst k3
        simp [hsz, a1, a1', lX, lY, lZ]
        refine nlive ?_
        simp
        exact hK _ _ _ (.same _ (by simp)) rfl
    · have hb := chk_bad (fun hv => by have := hv.2.2.2.2; omega) hr
      subst hb
      simp [hsz, a1, a1', lX, lY, lZ, k1, k1', k2]
      refine nlive ?_
      simp
      exact hK _ _ _ (.same _ (by simp)) rfl
  have k2' : k < 100000 := by omega
  have hcn : n ≤ 6 := by omega
  have hv : chkV X.l Y.l Z.l n k := ⟨hc, lX, lY, lZ, by omega⟩
  have hv1 : chkV X.l Y.l Z.l n (k + 1) := ⟨hc, lX, lY, lZ, by omega⟩
  have hvs : chkV X.l Y.l X.l n k := ⟨hc, lX, lY, lX, by omega⟩
  have wk : IntKind.i64.wrap (k + 1) = k + 1 := w64 _ (by omega) (by omega)
  have hr : firstP n (far X.l Y.l Z.l n k) (.tup [i a, bo b]) := by
    unfold chkP at hr
    rw [if_pos hv] at hr
    exact hr
  simp [hsz, a1, a1', lX, lY, lZ, k1, k1', k2, k2']
  refine aw_wk (Wk.lst (T' := [(0, i n), (2, i k), (4, .po 0 0 0), (7, i (sizeN n)), (8, i a), (9, bo b)]) (by simp) (by simp)) ?_
  refine aw_seq ?_
  simp [wk]
  refine acall_by (ncheck_ctr n (k + 1) X Y Z dX dY dZ) (by simp) ?_
  intro r2 hr2
  obtain ⟨a2, b2, rfl⟩ := chk_shape hr2
  simp
  refine aw_wk (Wk.lst (T' := [(0, i n), (2, i k), (4, .po 0 0 0), (7, i (sizeN n)), (8, i a), (9, bo b), (11, bo b2)]) (by simp) (by simp)) ?_
  refine aw_seq ?_
  simp
  refine acall_by (ncheck_ctr n k X Y X dX dY dX) (by simp) ?_
  intro r3 hr3
  obtain ⟨a3, b3, rfl⟩ := chk_shape hr3
  have hself : ∀ p q, p ≤ q → q ≤ n → far X.l Y.l X.l n k p q = false := fun p q _ _ => far_self dX dY (by omega) p q
  obtain ⟨rfl, rfl⟩ := chk_one hvs hself hr3
  have hfc := first_cases hr
  clear hr hr3
  simp
  refine aw_wk (Wk.lst (T' := [(4, .po 0 0 0), (7, i (sizeN n)), (8, i a), (9, bo b), (11, bo b2), (13, bo true)]) (by simp) (by simp)) ?_
  refine aw_seq ?_
  rcases hfc with h | h
  · obtain ⟨i', j', h1, h2, h3, h6, h7⟩ := h
    clear hr2 hv1 hvs hv
    obtain ⟨g1, g2⟩ := atN_lt hcn h1 h2
    have hd := far_differ dX dY dZ (by omega) i' j' h3
    rw [← g2] at h6
    have rX := dcs_read (l := X.l) (k := atN n i' j') (by omega)
    have rZ := dcs_read (l := Z.l) (k := atN n i' j') (by omega)
    obtain ⟨x1, x2, _⟩ := dX.at (atN n i' j')
    obtain ⟨z1, z2, _⟩ := dZ.at (atN n i' j')
    have hqX : atN n i' j' < X.l.length := by omega
    have hqZ : atN n i' j' < Z.l.length := by omega
    have oX : atN n i' j' * 3 < (dcs X.l).length := by rw [dcs_len]; omega
    have oX3 : atN n i' j' * 3 + 3 ≤ (dcs X.l).length := by rw [dcs_len]; omega
    have oZ : atN n i' j' * 3 < (dcs Z.l).length := by rw [dcs_len]; omega
    have oZ3 : atN n i' j' * 3 + 3 ≤ (dcs Z.l).length := by rw [dcs_len]; omega
    have cC := rcmp3_ctr (gv X.l (atN n i' j')).neg (gv X.l (atN n i' j')).nl (gv Z.l (atN n i' j')).neg (gv Z.l (atN n i' j')).nl (gv X.l (atN n i' j')).a (gv Z.l (atN n i' j')).a (gv X.l (atN n i' j')).cap (gv Z.l (atN n i' j')).cap
      (gv X.l (atN n i' j')).e (gv Z.l (atN n i' j')).e x1 z1 (by omega) (by omega)
    change Ctr _ _ _ (fun r => r = i (cmpD (gv X.l (atN n i' j')).m (gv Z.l (atN n i' j')).m)) at cC
    generalize cmpD (gv X.l (atN n i' j')).m (gv Z.l (atN n i' j')).m = cm at *
    generalize atN n i' j' = q at *
    generalize gv X.l q = xX at *
    generalize gv Z.l q = xZ at *
    have hqn : (q : Int) < sizeN n := by omega
    have hqn' : q < sizeN n := by omega
    rw [h6, h7]
    clear h6 h7
    simp
    refine aw_wk (Wk.lst (T' := [(4, .po 0 0 0), (7, i (sizeN n)), (8, i q), (9, bo false)]) (by simp) (by simp)) ?_
    refine aw_seq ?_
    simp
    refine draw_at [0, 0, 0, 0, 0, 0, 0, 0, 0, 0, 1, 1, 0, 1, 1, 1, 1, 0, 1, 1, 3, 0, 0, 0, 0, 3, 0, 0] orders (by kernel_rfl) ?_
    simp [hqn, hqn', hqX, hqZ, oX, oX3, oZ, oZ3, rX, rZ, DV.av]
    refine acall_by cC (by simp [dy]) ?_
    rintro _ rfl
    simp [hd]
    refine nlive ?_
    simp [hd]
    refine aw_of ?_
    simp
    exact hK _ _ _ (.same _ (by simp)) rfl
  · obtain ⟨h1, h6, h7⟩ := h
    have hgood : ∀ p q, p ≤ q → q ≤ n → far X.l Y.l Z.l n (k + 1) p q = false := fun p q h2 h3 => far_more dX dY dZ (by omega) p q (h1 p q h2 h3)
    obtain ⟨rfl, rfl⟩ := chk_one hv1 hgood hr2
    rw [h6, h7]
    clear h6 h7
    simp
    refine aw_wk (Wk.lst (T' := [(4, .po 0 0 0), (7, i (sizeN n)), (8, i 0), (9, bo true)]) (by simp) (by simp)) ?_
    refine aw_seq ?_
    simp
    refine draw_at [0, 0, 0, 0, 0, 0, 0, 0, 0, 0, 1, 1, 0, 1, 1, 1, 1, 0, 1, 1, 3, 0, 0, 0, 0, 3, 0, 0] orders (by kernel_rfl) ?_
    simp
    refine nlive ?_
    simp
    refine aw_of ?_
    simp
    exact hK _ _ _ (.same _ (by simp)) rfl
end Go.Proofs.Nt
