/- VA, part 9: a region, walked on what values are said to be, is the region walked in the world. -/
import Derived.Test.YtmfnjmcgmogncaaVa8
set_option linter.unusedVariables false
set_option linter.unusedSimpArgs false
namespace Go.Proofs.Va
open Go Go.RowKit

section
variable {P : Program} {w0 : World} {ρ : Nat → Nat × Nat} {σ : AHeap} {fz : Nat → Prop} {w : World}

theorem wpIn_of_run {F : Fence} (hF : Wd F) {n : Nat} {o : Oper} {a : Act} {next : Act → World → Prop} {Q : Exit → Act → World → Prop} (hd : ∀ c, o.op ≠ .defer c) {v : Value} {w' : World}
    (hr : (execOp a.eval o).run P w = .ok (.value v) w') (hn : next (a.put o.dst v) w') : o.wpIn F n P a w next Q := by
  refine ⟨fun f _ => hF.1 f, ?_⟩
  rw [Oper.semAt_eq _ _ _ hd, hr]
  exact hn

theorem wpIn_of_sem {F : Fence} (hF : Wd F) {n : Nat} {o : Oper} {a : Act} {next : Act → World → Prop} {Q : Exit → Act → World → Prop} (hd : ∀ c, o.op ≠ .defer c) {s : Sem Value}
    (he : execOp a.eval o = (do pure (.value (← s)))) {K : AV → AHeap → Prop} (hs : SemOK P w0 ρ fz σ w s K) (hn : OpNext w0 ρ fz σ w K (fun v w' => next (a.put o.dst v) w')) :
    o.wpIn F n P a w next Q := by
  obtain ⟨v, w', ρ', fz', r, σ', hr, hK, hh, hR, hE⟩ := hs
  exact wpIn_of_run hF hd (v := v) (w' := w') (by rw [he]; simp [hr]) (hn v w' ρ' fz' r σ' hK hh hR hE)

theorem builtin_ok (h : HRel w0 ρ fz σ w) {b : Builtin} {ts : Array TypeId} {ty : TypeId} {cs : Array Bool} {args : List AV} {vs : Array Value} (hr : RL ρ σ fz w args vs) {K : AV → AHeap → Prop}
    (hK : aBuiltin P b ts args σ K) : ∃ s : Sem Value, builtin b ts ty cs vs = (do pure (.value (← s))) ∧ SemOK P w0 ρ fz σ w s K := by
  have one : ∀ {x : AV}, RL ρ σ fz w [x] vs → ∃ v, vs = #[v] ∧ R ρ σ fz w x v := fun {x} hr => by
    obtain ⟨h1, h2⟩ := hr
    have hs : vs.size = 1 := h1
    have := h2 0 (by simp)
    refine ⟨vs.getD 0 undef, ?_, this⟩
    apply Array.ext (by simp [hs])
    intro i hi _
    have : i = 0 := by omega
    subst this; simp [Array.getD, hs]
  have two : ∀ {x y : AV}, RL ρ σ fz w [x, y] vs → ∃ u v, vs = #[u, v] ∧ R ρ σ fz w x u ∧ R ρ σ fz w y v := fun {x y} hr => by
    obtain ⟨h1, h2⟩ := hr
    have hs : vs.size = 2 := h1
    refine ⟨vs.getD 0 undef, vs.getD 1 undef, ?_, h2 0 (by simp), h2 1 (by simp)⟩
    apply Array.ext (by simp [hs])
    intro i hi _
    have : i = 0 ∨ i = 1 := by omega
    rcases this with rfl | rfl <;> simp [Array.getD, hs]
  have tsl : ∀ l, ts.toList = l → ts = l.toArray := fun l hl => by rw [← hl]
  unfold aBuiltin at hK
  split at hK
  · rename_i t x ht
    obtain ⟨v, rfl, hx⟩ := one hr
    rw [tsl _ ht]
    exact ⟨_, rfl, len_ok h hx hK⟩
  · rename_i t x ht
    obtain ⟨v, rfl, hx⟩ := one hr
    rw [tsl _ ht]
    exact ⟨_, rfl, cap_ok h hx hK⟩
  · rename_i t tx x y ht
    obtain ⟨u, v, rfl, hx, hy⟩ := two hr
    rw [tsl _ ht]
    split at hK
    · rename_i hi
      exact ⟨_, rfl, appz_ok h hx hy hi hK⟩
    · exact ⟨_, rfl, append_ok h hx hy hK⟩
  · rename_i t tx x y ht
    obtain ⟨u, v, rfl, hx, hy⟩ := two hr
    rw [tsl _ ht]
    exact ⟨_, rfl, copy_ok h hx hy hK⟩
  · obtain ⟨u, v, rfl, hx, hy⟩ := two hr
    exact ⟨_, rfl, max_ok h hx hy hK⟩
  · obtain ⟨u, v, rfl, hx, hy⟩ := two hr
    exact ⟨_, rfl, min_ok h hx hy hK⟩
  · exact hK.elim

theorem call_ok {F : Fence} (hF : Wd F) {n : Nat} (h : HRel w0 ρ fz σ w) {t : List AV} {o : Oper} {a : Act} (ht : TRel ρ σ fz w t a.tmps) {c : Call} (ho : o.op = .call c) {K : AV → AHeap → Prop} (hK : aCallOp P c t σ K)
    {next : Act → World → Prop} {Q : Exit → Act → World → Prop} (hn : OpNext w0 ρ fz σ w K (fun v w' => next (a.put o.dst v) w')) : o.wpIn F n P a w next Q := by
  have hd : ∀ c, o.op ≠ .defer c := fun c hc => by rw [ho] at hc; cases hc
  have ha := args_ok ht c.args
  unfold aCallOp at hK
  split at hK
  · rename_i b hcal
    obtain ⟨s, hs, hok⟩ := builtin_ok (ty := o.type) (cs := c.args.map fun | .const _ => true | _ => false) h ha hK
    refine wpIn_of_sem hF hd (s := s) ?_ hok hn
    unfold execOp
    rw [ho]
    simp only [resolve, hcal]
    exact hs
  · rename_i f hcal
    have hf := ev_ok ht f
    split at hK
    · rename_i g first caps hfe
      rw [hfe] at hf
      obtain ⟨arr, brr, hfv, hl1, hl2, hR1, hR2⟩ := hf.fn_inv
      have hargs : RL ρ σ fz w (first ++ c.args.toList.map (ev t) ++ caps) ((arr ++ c.args.map a.eval) ++ brr) := RL.append (RL.append ⟨hl1, hR1⟩ ha) ⟨hl2, hR2⟩
      have hex : execOp a.eval o = callFunc g ((arr ++ c.args.map a.eval) ++ brr) := by
        unfold execOp
        rw [ho]
        simp only [resolve, hcal, hfv]
        rfl
      rcases hK w0 ρ fz w _ h hargs with ⟨h1, h2⟩ | ⟨v, w', r, σ', ρ', fz', h1, h2, h3, h4, h5⟩
      · refine ⟨fun f _ => hF.1 f, ?_⟩
        rw [Oper.semAt_eq _ _ _ hd, hex, h1]
        refine ⟨fun hs => (by rw [hF.2.1] at hs; cases hs), hF.callsIn.2 (h2.mono ?_)⟩
        rintro e w' ⟨v, r, σ', ρ', fz', rfl, hK, hh, hR, hE⟩
        exact hn v w' ρ' fz' r σ' hK hh hR hE
      · exact wpIn_of_run hF hd (by rw [hex]; exact h1) (hn v w' ρ' fz' r σ' h2 h3 h4 h5)
    · rename_i l first caps hfe
      rw [hfe] at hf
      obtain ⟨arr, brr, hfv, hl1, hl2, hR1, hR2⟩ := hf.fn_inv
      have hargs : RL ρ σ fz w (first ++ c.args.toList.map (ev t)) (arr ++ c.args.map a.eval) := RL.append ⟨hl1, hR1⟩ ha
      have hex : execOp a.eval o = Instr.yield l (arr ++ c.args.map a.eval) := by
        unfold execOp
        rw [ho]
        simp only [resolve, hcal, hfv]
        rfl
      obtain ⟨fn, tmps, assign, body, hy, hround⟩ := hK F (n - 1) w0 ρ fz w _ hF h hargs
      refine ⟨fun f _ => hF.1 f, ?_⟩
      rw [Oper.semAt_eq _ _ _ hd, hex, hy]
      refine ⟨fun hs => (by rw [hF.2.1] at hs; cases hs), hround.mono ?_⟩
      rintro e w' ⟨v, r, σ', ρ', fz', rfl, hK, hh, hR, hE⟩
      exact hn v w' ρ' fz' r σ' hK hh hR hE
    · exact hK.elim
  · exact hK.elim

theorem RO.map {t : List AV} {a : Act} (h : TRel ρ σ fz w t a.tmps) (x : Option Operand) : RO ρ σ fz w (x.map (ev t)) (x.map a.eval) := by
  cases x with
  | none => trivial
  | some x => exact ev_ok h x

theorem store_ok (h : HRel w0 ρ fz σ w) {t : TypeId} {x y : AV} {u v : Value} (hx : R ρ σ fz w x u) (hy : R ρ σ fz w y v) {K : AHeap → Prop} (hK : aStore P t x y σ K) :
    ∃ w' σ', (Instr.storeAt t u v).run P w = .ok () w' ∧ K σ' ∧ HRel w0 ρ fz σ' w' ∧ Ev w0 σ.length ρ σ fz w ρ σ' fz w' := by
  unfold aStore at hK
  split at hK
  · rename_i i ver off
    split at hK
    · rename_i b hb
      obtain ⟨hv, hk, hK⟩ := hK
      split at hK
      · rename_i ys hys
        obtain ⟨hs, hoff, hK⟩ := hK
        obtain ⟨blk, hb', hle, _, hval⟩ := hx.po_inv
        rw [hb] at hb'; cases hb'
        rw [hval hv (by rw [hk]; decide)]
        obtain ⟨hsz, h1, hR⟩ := cellsOf_ok hys hy
        have hg : ∀ j, v.cells.toList.getD j undef = v.cells.getD j undef := fun j => by simp [Array.getD_eq_getD_getElem?, List.getD_eq_getElem?_getD]
        obtain ⟨w', hst, hh, hE⟩ := storeCells_ok (P := P) h hb hk v.cells.toList ys (by simpa using hsz) (fun j hj => by rw [hg]; exact h1 j hj) (fun j hj => by rw [hg]; exact hR j hj) hoff
        exact ⟨w', _, by simp [Instr.storeAt, Instr.sureAddr, storeVar, run_szT hs, hsz, hst], hK, hh, hE⟩
      · exact hK.elim
    · exact hK.elim
  · exact hK.elim

theorem aop_ok {F : Fence} (hF : Wd F) {n : Nat} (h : HRel w0 ρ fz σ w) {t : List AV} {o : Oper} {a : Act} (ht : TRel ρ σ fz w t a.tmps) {K : AV → AHeap → Prop} (hK : aop P o.op t σ K)
    {next : Act → World → Prop} {Q : Exit → Act → World → Prop} (hn : OpNext w0 ρ fz σ w K (fun v w' => next (a.put o.dst v) w')) : o.wpIn F n P a w next Q := by
  have E0 : Ev w0 σ.length ρ σ fz w ρ σ fz w := Ev.refl _ _ _ _ (Nat.le_refl _)
  have same : ∀ {x : AV} {v : Value}, (∀ c, o.op ≠ .defer c) → (execOp a.eval o).run P w = .ok (.value v) w → R ρ σ fz w x v → K x σ → o.wpIn F n P a w next Q :=
    fun {x v} hd he hR hK => wpIn_of_run hF hd he (hn v w ρ fz x σ hK h hR E0)
  cases ho : o.op with
  | move x => rw [ho] at hK; exact same (by rw [ho]; simp) (by simp [execOp, ho]) (ev_ok ht x) hK
  | assign x => rw [ho] at hK; exact same (by rw [ho]; simp) (by simp [execOp, ho]) (ev_ok ht x) hK
  | pick c x y =>
    rw [ho] at hK
    simp only [aop] at hK
    have hc := ev_ok ht c
    split at hK
    · rename_i q hq
      rw [hq] at hc
      have hc := hc.v_eq
      cases q with
      | true => exact same (v := a.eval x) (by rw [ho]; simp) (by simp [execOp, ho, hc, asBool]) (ev_ok ht x) ((iteB.1 hK).1 rfl)
      | false => exact same (v := a.eval y) (by rw [ho]; simp) (by simp [execOp, ho, hc, asBool]) (ev_ok ht y) ((iteB.1 hK).2 rfl)
    · exact hK.elim
  | alloc e => rw [ho] at hK; exact wpIn_of_sem hF (by rw [ho]; simp) (by simp only [execOp, ho]) (alloc_ok h hK) hn
  | box e x => rw [ho] at hK; exact wpIn_of_sem hF (by rw [ho]; simp) (by simp only [execOp, ho]) (box_ok (t := e) h (ev_ok ht x) hK) hn
  | build e ps => rw [ho] at hK; exact wpIn_of_sem hF (by rw [ho]; simp) (by simp only [execOp, ho]) (build_ok h (by simp) (parts_ok ht ps) hK) hn
  | buildSlice e k ps => rw [ho] at hK; exact wpIn_of_sem hF (by rw [ho]; simp) (by simp only [execOp, ho]) (buildSlice_ok h (by simp) (parts_ok ht ps) hK) hn
  | load e x => rw [ho] at hK; exact wpIn_of_sem hF (by rw [ho]; simp) (by simp only [execOp, ho]) (load_ok h (ev_ok ht x) hK) hn
  | store e x y =>
    rw [ho] at hK
    obtain ⟨w', σ', hr, hK, hh, hE⟩ := store_ok h (ev_ok ht x) (ev_ok ht y) hK
    refine ⟨fun f _ => hF.1 f, ?_⟩
    rw [Oper.semAt_eq _ _ _ (by rw [ho]; simp)]
    have : (execOp a.eval o).run P w = .ok .skip w' := by simp [execOp, ho, hr]
    rw [this]
    exact hn undef w' ρ fz .any σ' hK hh (R.top _) hE
  | nilCheck x =>
    rw [ho] at hK
    simp only [aop] at hK
    have hx := ev_ok ht x
    unfold aNil at hK
    split at hK
    · rename_i i ver off hex
      split at hK
      · rename_i b hb
        obtain ⟨hv, hd, hK⟩ := hK
        rw [hex] at hx
        obtain ⟨blk, hb', hle, _, hval⟩ := hx.po_inv
        rw [hb] at hb'; cases hb'
        have hval := hval hv hd
        refine same (v := a.eval x) (by rw [ho]; simp) ?_ hx (by rwa [hex] at hK)
        simp [execOp, ho, hval]
      · exact hK.elim
    · rename_i cs off hex
      rw [hex] at hx
      obtain ⟨b, o', us, hval, _⟩ := hx.pp_inv
      exact same (v := a.eval x) (by rw [ho]; simp) (by simp [execOp, ho, hval]) hx (by rwa [hex] at hK)
    · rename_i ti y hex
      rw [hex] at hx
      obtain ⟨u, hval, _⟩ := hx.ifc_inv
      exact same (v := a.eval x) (by rw [ho]; simp) (by simp [execOp, ho, hval]) hx (by rwa [hex] at hK)
    · rename_i g first caps hex
      rw [hex] at hx
      obtain ⟨arr, brr, hval, _⟩ := hx.fn_inv
      exact same (v := a.eval x) (by rw [ho]; simp) (by simp [execOp, ho, hval]) hx (by rwa [hex] at hK)
    · exact hK.elim
  | binOp op e x y e' => rw [ho] at hK; exact wpIn_of_sem hF (by rw [ho]; simp) (by simp only [execOp, ho]) (bin_ok (ox := x) (oy := y) h (ev_ok ht x) (ev_ok ht y) hK) hn
  | unOp op e x => rw [ho] at hK; exact wpIn_of_sem hF (by rw [ho]; simp) (by simp only [execOp, ho]) (un_ok h (ev_ok ht x) hK) hn
  | convert s d x => rw [ho] at hK; exact wpIn_of_sem hF (by rw [ho]; simp) (by simp only [execOp, ho]) (conv_ok h (ev_ok ht x) hK) hn
  | makeInterface e x => rw [ho] at hK; exact wpIn_of_sem hF (by rw [ho]; simp) (by simp only [execOp, ho]) (makeInterface_ok h (ev_ok ht x) hK) hn
  | makeFunc f first caps =>
    rw [ho] at hK
    have h1 := args_ok ht first
    have h2 := args_ok ht caps
    exact same (by rw [ho]; simp) (by simp [execOp, ho, Instr.makeFunc]) (.fn f _ _ _ _ h1.1 h2.1 h1.2 h2.2) hK
  | makeSlice e x y => rw [ho] at hK; exact wpIn_of_sem hF (by rw [ho]; simp) (by simp only [execOp, ho]) (makeSlice_ok h (ev_ok ht x) (ev_ok ht y) hK) hn
  | slice e x lo hi mx => rw [ho] at hK; exact wpIn_of_sem hF (by rw [ho]; simp) (by simp only [execOp, ho]) (slice_ok h (ev_ok ht x) (RO.map ht lo) (RO.map ht hi) (RO.map ht mx) hK) hn
  | fieldAddr s x f => rw [ho] at hK; exact wpIn_of_sem hF (by rw [ho]; simp) (by simp only [execOp, ho]) (fieldAddr_ok h (ev_ok ht x) hK) hn
  | field s x f => rw [ho] at hK; exact wpIn_of_sem hF (by rw [ho]; simp) (by simp only [execOp, ho]) (field_ok h (ev_ok ht x) hK) hn
  | indexAddr e x y => rw [ho] at hK; exact wpIn_of_sem hF (by rw [ho]; simp) (by simp only [execOp, ho]) (indexAddr_ok h (ev_ok ht x) (ev_ok ht y) hK) hn
  | index e x y => rw [ho] at hK; exact wpIn_of_sem hF (by rw [ho]; simp) (by simp only [execOp, ho]) (index_ok h (ev_ok ht x) (ev_ok ht y) hK) hn
  | extract x i => rw [ho] at hK; exact wpIn_of_sem hF (by rw [ho]; simp) (by simp only [execOp, ho]) (extract_ok h (ev_ok ht x) hK) hn
  | call c => rw [ho] at hK; exact call_ok hF h ht ho hK hn
  | _ => rw [ho] at hK; exact hK.elim
end
end Go.Proofs.Va
