/- VA, part 11: statements; a function's body; what a function without memory of the caller's comes to. -/
import Derived.Test.YtmfnjmcgmogncaaVa10
set_option linter.unusedVariables false
set_option linter.unusedSimpArgs false
namespace Go.Proofs.Va
open Go Go.RowKit

def thenA (next : AState → Prop) (Q : Exit → AState → Prop) : Exit → AState → Prop
  | .normal, s => next s
  | e, s => Q e s
def inBlockA (id : Nat) (Q : Exit → AState → Prop) : Exit → AState → Prop
  | .exit id', s => if id' = id then Q .normal s else Q (.exit id') s
  | e, s => Q e s

/-- A statement leads from s to Q, wherever the call's own blocks lie. -/
def AW (P : Program) (n0 : Nat) (top : Bool) (c : Code) (Q : Exit → AState → Prop) (s : AState) : Prop :=
  ∀ (F : Fence) (n : Nat), Wd F → (top = true → F.round = none) → ∀ (w0 : World) (nb : Nat) (ρ : Nat → Nat × Nat) (fz : Nat → Prop) (a : Act) (w : World),
    SRel w0 nb ρ fz s a w → n0 ≤ s.σ.length → w0.heap.size ≤ nb → nb ≤ w.heap.size → c.wpIn F n P (Beh w0 nb n0 ρ s.σ fz w Q) a w

def awp (P : Program) (n0 : Nat) (top : Bool) : Code → (Exit → AState → Prop) → AState → Prop
  | .skip, Q, s => Q .normal s
  | .label _, Q, s => Q .normal s
  | .region _ ops false, Q, s => awpOps P ops ops.toList (Q .normal) s
  | .region id ops true, Q, s => AW P n0 top (.region id ops true) Q s
  | .seq x y, Q, s => awp P n0 top x (thenA (awp P n0 top y Q) Q) s
  | .cond c x y, Q, s => match ev s.t c with
    | .v (.bool q) => if q = true then awp P n0 top x Q s else awp P n0 top y Q s
    | _ => False
  | .block id c, Q, s => awp P n0 top c (inBlockA id Q) s
  | .loop c, Q, s => AW P n0 top (.loop c) Q s
  | .rangeFunc f ps x y, Q, s => AW P n0 top (.rangeFunc f ps x y) Q s
  | .exit id, Q, s => Q (.exit id) s
  | .goto l, Q, s => Q (.goto l) s
  | .ret, Q, s => Q .ret s
  | .scope c, Q, s => AW P n0 top (.scope c) Q s
  | .refuse _, _, _ => False

section
variable {P : Program} {n0 : Nat} {top : Bool}

theorem Beh.here {w0 : World} {nb : Nat} {ρ : Nat → Nat × Nat} {fz : Nat → Prop} {a : Act} {w : World} {Q : Exit → AState → Prop} {s : AState} {e : Exit} (hs : SRel w0 nb ρ fz s a w) (hn : n0 ≤ s.σ.length) (h : Q e s) :
    Beh w0 nb n0 ρ s.σ fz w Q e a w := ⟨s, ρ, fz, h, hs, Ev.refl _ _ _ _ hn⟩

theorem Beh.from {w0 : World} {nb : Nat} {ρ ρ1 : Nat → Nat × Nat} {σ σ1 : AHeap} {fz fz1 : Nat → Prop} {w w1 : World} {Q : Exit → AState → Prop} {e : Exit} {a' : Act} {w' : World}
    (E : Ev w0 n0 ρ σ fz w ρ1 σ1 fz1 w1) (h : Beh w0 nb n0 ρ1 σ1 fz1 w1 Q e a' w') : Beh w0 nb n0 ρ σ fz w Q e a' w' := by
  obtain ⟨s', ρ', fz', h1, h2, h3⟩ := h
  exact ⟨s', ρ', fz', h1, h2, E.trans h3⟩

theorem awp_ok (c : Code) : ∀ (Q : Exit → AState → Prop) (s : AState), awp P n0 top c Q s → AW P n0 top c Q s := by
  induction c with
  | skip => exact fun Q s h F n hF ht w0 nb ρ fz a w hs hn _ _ => wpIn_skip (Beh.here hs hn h)
  | label l => exact fun Q s h F n hF ht w0 nb ρ fz a w hs hn _ _ => wpIn_label (Beh.here hs hn h)
  | exit id => exact fun Q s h F n hF ht w0 nb ρ fz a w hs hn _ _ => wpIn_exit (Beh.here hs hn h)
  | goto l => exact fun Q s h F n hF ht w0 nb ρ fz a w hs hn _ _ => wpIn_goto (Beh.here hs hn h)
  | ret => exact fun Q s h F n hF ht w0 nb ρ fz a w hs hn _ _ => wpIn_ret (Beh.here hs hn h)
  | refuse _ => exact fun Q s h => h.elim
  | scope c _ => exact fun Q s h => h
  | loop c _ => exact fun Q s h => h
  | rangeFunc f ps x y _ _ => exact fun Q s h => h
  | region id ops draw =>
    cases draw with
    | true => exact fun Q s h => h
    | false =>
      intro Q s h F n hF ht w0 nb ρ fz a w hs hn _ _
      exact wpIn_region_list (awpOps_ok hF ops.toList s ρ fz a w h hs hn fun s' ρ' fz' a' w' hQ hS hE => ⟨s', ρ', fz', hQ, hS, hE⟩)
  | seq x y ihx ihy =>
    intro Q s h F n hF ht w0 nb ρ fz a w hs hn hb1 hb2
    refine wpIn_seq (wpIn_mono (ihx _ s h F n hF ht w0 nb ρ fz a w hs hn hb1 hb2) ?_)
    rintro e a1 w1 ⟨s1, ρ1, fz1, hQ, hS, hE⟩
    cases e with
    | normal => exact wpIn_mono (ihy Q s1 hQ F n hF ht w0 nb ρ1 fz1 a1 w1 hS hE.len' hb1 (Nat.le_trans hb2 hE.size)) fun e a w hq => hq.from hE
    | _ => exact ⟨s1, ρ1, fz1, hQ, hS, hE⟩
  | cond c x y ihx ihy =>
    intro Q s h F n hF ht w0 nb ρ fz a w hs hn hb1 hb2
    simp only [awp] at h
    split at h
    · rename_i q hq
      have hc := ev_ok hs.t c
      rw [hq] at hc
      refine wpIn_cond hc.v_eq ?_
      cases q with
      | true => exact ihx Q s ((iteB.1 h).1 rfl) F n hF ht w0 nb ρ fz a w hs hn hb1 hb2
      | false => exact ihy Q s ((iteB.1 h).2 rfl) F n hF ht w0 nb ρ fz a w hs hn hb1 hb2
    · exact h.elim
  | block id c ih =>
    intro Q s h F n hF ht w0 nb ρ fz a w hs hn hb1 hb2
    refine wpIn_block (wpIn_mono (ih _ s h F n hF ht w0 nb ρ fz a w hs hn hb1 hb2) ?_)
    rintro e a1 w1 ⟨s1, ρ1, fz1, hQ, hS, hE⟩
    cases e with
    | exit id' =>
      simp only [Exit.inBlock, inBlockA] at hQ ⊢
      split
      · rename_i hid; rw [if_pos hid] at hQ; exact ⟨s1, ρ1, fz1, hQ, hS, hE⟩
      · rename_i hid; rw [if_neg hid] at hQ; exact ⟨s1, ρ1, fz1, hQ, hS, hE⟩
    | _ => exact ⟨s1, ρ1, fz1, hQ, hS, hE⟩

/-- A LOOP: its states are S g; each round lowers μ g. -/
theorem loop_rule {γ : Type} (S : γ → AState) (Pre : γ → Prop) (μ : γ → Nat) {c : Code} {Q : Exit → AState → Prop} {s : AState} (g0 : γ) (h0 : Pre g0) (hw : Wk n0 s (S g0))
    (step : ∀ g, Pre g → awp P n0 top c (thenA (fun s1 => ∃ g', Pre g' ∧ Wk n0 s1 (S g') ∧ μ g' < μ g) Q) (S g)) : AW P n0 top (.loop c) Q s := by
  intro F n hF ht w0 nb ρ fz a w hs hn hb1 hb2
  obtain ⟨hs0, hE0⟩ := hw.ok hs
  refine wpIn_loop_known (γ := γ) (I := fun g a' w' => Pre g ∧ ∃ ρ' fz', SRel w0 nb ρ' fz' (S g) a' w' ∧ Ev w0 n0 ρ s.σ fz w ρ' (S g).σ fz' w') μ (g0 := g0) ⟨h0, ρ, fz, hs0, hE0⟩ ?_
  rintro g a1 w1 ⟨hp, ρ1, fz1, hs1, hE1⟩
  refine wpIn_mono (awp_ok c _ _ (step g hp) F n hF ht w0 nb ρ1 fz1 a1 w1 hs1 hE1.len' hb1 (Nat.le_trans hb2 hE1.size)) ?_
  rintro e a2 w2 ⟨s2, ρ2, fz2, hQ, hS, hE⟩
  cases e with
  | normal =>
    obtain ⟨g', hp', hw', hm⟩ := hQ
    obtain ⟨hs3, hE3⟩ := hw'.ok hS
    exact ⟨g', ⟨hp', ρ2, fz2, hs3, (hE1.trans hE).trans hE3⟩, hm⟩
  | _ => exact ⟨s2, ρ2, fz2, hQ, hS, hE1.trans hE⟩

/-! ### A function -/
def aRes (P : Program) (t : List AV) (σ : AHeap) : List ResultVar → (List AV → Prop) → Prop
  | [], K => K []
  | .tmp i :: rs, K => aRes P t σ rs fun l => K (ev t (.tmp i) :: l)
  | .cell i ty :: rs, K => aLoad P ty (ev t (.tmp i)) σ fun r _ => aRes P t σ rs fun l => K (r :: l)

def resV : List AV → AV
  | [r] => r
  | l => .tup l

def rvOf (tmps : Array Value) : ResultVar → Sem Value
  | .tmp t => pure (tmps.getD t undef)
  | .cell a t => do loadVar t (← asAddr (tmps.getD a undef))

theorem aRes_ok {w0 : World} {ρ : Nat → Nat × Nat} {σ : AHeap} {fz : Nat → Prop} {w : World} (h : HRel w0 ρ fz σ w) {t : List AV} {a : Act} (ht : TRel ρ σ fz w t a.tmps) : ∀ (rs : List ResultVar) (K : List AV → Prop), aRes P t σ rs K →
    ∃ l vs, (rs.mapM (rvOf a.tmps)).run P w = .ok vs w ∧ K l ∧ vs.length = l.length ∧ vs.length = rs.length ∧ ∀ j (hj : j < l.length), R ρ σ fz w l[j] (vs.getD j undef)
  | [], K, hK => ⟨[], [], rfl, hK, rfl, rfl, fun j hj => by simp at hj⟩
  | .tmp i :: rs, K, hK => by
    obtain ⟨l, vs, h1, h2, h3, h4, h5⟩ := aRes_ok h ht rs _ hK
    refine ⟨_, a.tmps.getD i undef :: vs, by simp [List.mapM_cons, rvOf, h1], h2, by simp [h3], by simp [h4], fun j hj => ?_⟩
    cases j with
    | zero => exact ev_ok ht (.tmp i)
    | succ j => simpa using h5 j (by simpa using hj)
  | .cell i ty :: rs, K, hK => by
    simp only [aRes] at hK
    have hx := ev_ok ht (.tmp i)
    obtain ⟨ad, u, r, hv, hr, hR, hK⟩ := load_same (P := P) h hx hK
    obtain ⟨l, vs, h1, h2, h3, h4, h5⟩ := aRes_ok h ht rs _ hK
    have hv' : a.tmps.getD i undef = .pointer (some ad) := hv
    refine ⟨r :: l, u :: vs, by simp [List.mapM_cons, rvOf, hv', asAddr, hr, h1], h2, by simp [h3], by simp [h4], fun j hj => ?_⟩
    cases j with
    | zero => exact hR
    | succ j => simpa using h5 j (by simpa using hj)

theorem results_eq (fn : Func) (tmps : Array Value) : results fn tmps = (do
    let vs ← fn.results.mapM (rvOf tmps)
    pure (if h : vs.size = 1 then vs[0] else .tuple vs)) := by
  unfold results
  congr 1

theorem results_ok {w0 : World} {ρ : Nat → Nat × Nat} {σ : AHeap} {fz : Nat → Prop} {w : World} (h : HRel w0 ρ fz σ w) {t : List AV} {a : Act} (ht : TRel ρ σ fz w t a.tmps) {fn : Func} {K : List AV → Prop} (hK : aRes P t σ fn.results.toList K) :
    ∃ l v, (results fn a.tmps).run P w = .ok v w ∧ K l ∧ R ρ σ fz w (resV l) v := by
  obtain ⟨l, vs, h1, h2, h3, h4, h5⟩ := aRes_ok h ht fn.results.toList K hK
  refine ⟨l, if h : vs.length = 1 then vs[0] else .tuple vs.toArray, ?_, h2, ?_⟩
  · rw [results_eq]
    simp only [Array.mapM_eq_mapM_toList, Sem.run_bind, Sem.run_map, h1, Result.andThen_ok, Sem.run_pure]
    congr 1
  · by_cases hl : vs.length = 1
    · rw [dif_pos hl]
      have hll : l.length = 1 := by omega
      match l, hll with
      | [r], _ =>
        have := h5 0 (by simp)
        simpa [resV, List.getD, hl] using this
    · rw [dif_neg hl]
      have : resV l = .tup l := by
        match l, (show l.length ≠ 1 by omega) with
        | [], _ => rfl
        | _ :: _ :: _, _ => rfl
      rw [this]
      exact .tup _ _ (by simpa using h3) fun j hj => by simpa [Array.getD_eq_getD_getElem?, List.getD_eq_getElem?_getD] using h5 j hj

/-! ### A call of a function with a body, gone into -/
theorem HRel.putObj {w0 : World} {ρ : Nat → Nat × Nat} {σ : AHeap} {fz : Nat → Prop} {w : World} (h : HRel w0 ρ fz σ w) {l : Nat} {o o' : Obj} (hl : w.heap[l]? = some o) (hc : o.isCells = false) (hb : w0.heap.size ≤ l)
    (hf : ¬ fz l) : HRel w0 ρ fz σ (w.putObj l o') := by
  have other : ∀ {k : Nat} {c : Array Value} {e : TypeId} {fr : Nat × Nat}, w.heap[k]? = some (.cells c e fr) → (w.putObj l o').heap[k]? = w.heap[k]? := fun {k c e fr} hk => by
    refine World.putObj_heap_other fun hh => ?_
    subst hh; rw [hl] at hk; cases hk; cases hc
  have cell : ∀ k, fz k → (w.putObj l o').heap[k]? = w.heap[k]? := fun k hk => World.putObj_heap_other fun hh => hf (hh ▸ hk)
  have hsz : (w.putObj l o').heap.size = w.heap.size := by simp
  have E : Ev w0 σ.length ρ σ fz w ρ σ fz w := Ev.refl _ _ _ _ (Nat.le_refl _)
  have hR : ∀ {x : AV} {v : Value}, R ρ σ fz w x v → R ρ σ fz (w.putObj l o') x v := by
    intro x v hx
    induction hx with
    | pure x v h => exact .pure _ _ (h.keep (fun _ h => h) cell)
    | po i ver off blk v hb hle h1 hv => exact .po _ _ _ blk _ hb hle h1 hv
    | so i ver off n sz cap blk v hb hle h1 hv =>
      refine .so _ _ _ _ _ _ blk _ hb hle h1 fun hver hd => ?_
      obtain ⟨a, c, q1, q2, q3, q4, cells, e, fr, q5, q6⟩ := hv hver hd
      exact ⟨a, c, q1, q2, q3, q4, cells, e, fr, (other q5).trans q5, q6⟩
    | agg cs arr hl h1 hR ih => exact .agg _ _ hl h1 ih
    | tup cs arr hl hR ih => exact .tup _ _ hl ih
    | fn f cs ds arr brr hl hl' hR hR' ih ih' => exact .fn _ _ _ _ _ hl hl' ih ih'
    | ifc t x u h ih => exact .ifc _ _ _ ih
  refine ⟨h.below.trans ⟨rfl, rfl, rfl, by rw [hsz]; exact Nat.le_refl _, fun k hk => World.putObj_heap_other (by omega)⟩, fun k hk => by rw [hsz]; exact h.fzlt k hk, ?_, h.inj⟩
  intro i blk hb hd
  obtain ⟨cells, e, q1, q2, q3, q4, q5, q6⟩ := h.blk i blk hb hd
  refine ⟨cells, e, (other q1).trans q1, q2, q3, q4, q5, fun j hj => ?_⟩
  obtain ⟨u, hu, h1, hx⟩ := q6 j hj
  exact ⟨u, hu, h1, hR hx⟩

theorem R.putObj {ρ : Nat → Nat × Nat} {σ : AHeap} {fz : Nat → Prop} {w : World} {l : Nat} {o o' : Obj} (hl : w.heap[l]? = some o) (hc : o.isCells = false) (hf : ¬ fz l) {x : AV} {v : Value} (hx : R ρ σ fz w x v) : R ρ σ fz (w.putObj l o') x v := by
  have other : ∀ {k : Nat} {c : Array Value} {e : TypeId} {fr : Nat × Nat}, w.heap[k]? = some (.cells c e fr) → (w.putObj l o').heap[k]? = w.heap[k]? := fun {k c e fr} hk => by
    refine World.putObj_heap_other fun hh => ?_
    subst hh; rw [hl] at hk; cases hk; cases hc
  have cell : ∀ k, fz k → (w.putObj l o').heap[k]? = w.heap[k]? := fun k hk => World.putObj_heap_other fun hh => hf (hh ▸ hk)
  induction hx with
  | pure x v h => exact .pure _ _ (h.keep (fun _ h => h) cell)
  | po i ver off blk v hb hle h1 hv => exact .po _ _ _ blk _ hb hle h1 hv
  | so i ver off n sz cap blk v hb hle h1 hv =>
    refine .so _ _ _ _ _ _ blk _ hb hle h1 fun hver hd => ?_
    obtain ⟨a, c, q1, q2, q3, q4, cells, e, fr, q5, q6⟩ := hv hver hd
    exact ⟨a, c, q1, q2, q3, q4, cells, e, fr, (other q5).trans q5, q6⟩
  | agg cs arr hl h1 hR ih => exact .agg _ _ hl h1 ih
  | tup cs arr hl hR ih => exact .tup _ _ hl ih
  | fn f cs ds arr brr hl hl' hR hR' ih ih' => exact .fn _ _ _ _ _ hl hl' ih ih'
  | ifc t x u h ih => exact .ifc _ _ _ ih

def enterT (args : List AV) (n : Nat) : List AV := args ++ List.replicate (n - args.length) .any

theorem enter_rel {ρ : Nat → Nat × Nat} {σ : AHeap} {fz : Nat → Prop} {w : World} {args : List AV} {vs : Array Value} (h : RL ρ σ fz w args vs) (n : Nat) : TRel ρ σ fz w (enterT args n) (vs ++ Array.replicate (n - vs.size) undef) := by
  have hl := h.1
  refine ⟨by simp [enterT, hl], fun i hi => ?_⟩
  simp only [enterT, List.length_append, List.length_replicate] at hi
  rcases Nat.lt_or_ge i args.length with h1 | h1
  · have e : (vs ++ Array.replicate (n - vs.size) undef).getD i undef = vs.getD i undef := by
      simp only [Array.getD_eq_getD_getElem?]; rw [Array.getElem?_append_left (by omega)]
    rw [e]
    simp only [enterT, List.getElem_append_left h1]
    exact h.2 i h1
  · simp only [enterT, List.getElem_append_right h1, List.getElem_replicate]
    exact R.top _

theorem leave_marks {F : Fence} (hF : Wd F) {n : Nat} {fn : Func} {tmps : Array Value} {RR : Ending → World → Prop} {w0 : World} {nb : Nat} {ρ : Nat → Nat × Nat} {σ : AHeap} {fz : Nat → Prop} (hnb : w0.heap.size ≤ nb)   :
    ∀ (Ds : List Nat) (w : World), Ds.Nodup → (∀ D ∈ Ds, w.heap[D]? = some (.deferred (some [])) ∧ nb ≤ D ∧ ¬ fz D) → HRel w0 ρ fz σ w →
      (∀ w', HRel w0 ρ fz σ w' → (∀ k, k < nb → w'.heap[k]? = w.heap[k]?) → w.heap.size = w'.heap.size → (∀ (k : Nat) (c : Array Value) (e : TypeId) (fr : Nat × Nat), w.heap[k]? = some (.cells c e fr) → w'.heap[k]? = some (.cells c e fr)) → (∀ x u, R ρ σ fz w x u → R ρ σ fz w' x u) → ∃ v, (results fn tmps).run P w' = .ok v w' ∧ RR (.returned v) w') →
      LeavesInM F n P fn tmps RR (Ds.map fun D => { target := .collected D, args := #[] }) .returning w
  | [], w, _, _, h, hq => by
    exact hq w h (fun _ _ => rfl) rfl (fun _ _ _ _ h => h) (fun _ _ h => h)
  | D :: Ds, w, hnd, hD, h, hq => by
    obtain ⟨hd1, hd2, hff⟩ := hD D (by simp)
    have hnd' := List.nodup_cons.1 hnd
    refine ⟨by simp, .inl ⟨D, _, rfl, run_takeDeferred hd1, ?_⟩⟩
    refine leave_marks hF hnb Ds _ hnd'.2 (fun D' hD' => ?_) (h.putObj hd1 rfl (by omega) hff) ?_
    · have hne : D' ≠ D := fun hh => hnd'.1 (hh ▸ hD')
      exact ⟨(World.putObj_heap_other (by first | exact hne | exact Ne.symm hne)).trans (hD D' (by simp [hD'])).1, (hD D' (by simp [hD'])).2⟩
    · intro w' hh hk hs hc hx
      refine hq w' hh (fun k hk' => (hk k hk').trans (World.putObj_heap_other (by omega))) (by rw [← hs]; simp) (fun k c e fr hkc => hc k c e fr ((World.putObj_heap_other fun hh => ?_).trans hkc)) (fun x u hxu => hx x u (hxu.putObj hd1 rfl hff))
      subst hh; rw [hd1] at hkc; cases hkc

/-- A CALL OF A FUNCTION WITH A BODY: its body is walked. -/
theorem acall_body {g : FuncId} {fn : Func} {c : Code} (hf : P.funcs[g]? = some fn) (hb : fn.body = some c) (hname : (fn.name == "runtime.NumGoroutine") = false) {args : List AV} {σ : AHeap} {K : AV → AHeap → Prop}
    (h : awp P σ.length true c (fun e s' => (e = .normal ∨ e = .ret) ∧ aRes P s'.t s'.σ fn.results.toList fun l => K (resV l) s'.σ) ⟨enterT args fn.ntmps, σ⟩) : ACall P g args σ K := by
  intro w0 ρ fz w vs hh hr
  have hname' : ¬ fn.name = "runtime.NumGoroutine" := by simpa using hname
  refine .inl ⟨by simp [callFunc, hf, hname', hb], (Wd.callsIn wd_wide (n := 10)).1 ?_⟩
  refine callsIn_of_wp_marks hf hb trivial (wpIn_mono (awp_ok c _ _ h Fence.wide 10 wd_wide (fun _ => rfl) w0 w.heap.size ρ fz { tmps := vs ++ Array.replicate (fn.ntmps - vs.size) undef, defers := [] } w
    ⟨hh, enter_rel hr _, [], rfl, List.nodup_nil, fun D hD => by cases hD⟩ (Nat.le_refl _) hh.le (Nat.le_refl _)) ?_)
  rintro e a' w' ⟨s', ρ', fz', ⟨he, hres⟩, hS, hE⟩
  obtain ⟨Ds, hds, hnd, hD⟩ := hS.m
  have hDf : ∀ D ∈ Ds, w'.heap[D]? = some (.deferred (some [])) ∧ w.heap.size ≤ D ∧ ¬ fz' D := fun D hDD => by
    obtain ⟨h1, h2⟩ := hD D hDD
    refine ⟨h1, h2, fun hf => ?_⟩
    rcases hE.fzn D hf with hf | ⟨_, c, el, fr, hc⟩
    · have := hh.fzlt D hf; omega
    · rw [h1] at hc; cases hc
  have main : LeavesInM Fence.wide 10 P fn a'.tmps (fun e w' => ∃ v r σ' ρ' fz', e = .returned v ∧ K r σ' ∧ HRel w0 ρ' fz' σ' w' ∧ R ρ' σ' fz' w' r v ∧ Ev w0 σ.length ρ σ fz w ρ' σ' fz' w') a'.defers .returning w' := by
    rw [hds]
    refine leave_marks wd_wide hh.le Ds w' hnd hDf hS.h ?_
    intro w2 hh2 hold hsz hcells hRR
    have ht2 : TRel ρ' s'.σ fz' w2 s'.t a'.tmps := ⟨hS.t.len, fun i hi => hRR _ _ (hS.t.at_ i hi)⟩
    obtain ⟨l, v, hrun, hK, hR⟩ := results_ok hh2 ht2 hres
    have lt : ∀ {k : Nat} {o : Obj}, w.heap[k]? = some o → k < w.heap.size := fun hk => (Array.getElem?_eq_some_iff.1 hk).1
    refine ⟨v, hrun, v, _, s'.σ, ρ', fz', rfl, hK, hh2, hR, ⟨hE.len, hE.len', hE.blk, hE.fzm, ?_, ?_, ?_, ?_, ?_⟩⟩
    · intro k hk
      rcases hE.fzn k hk with h1 | ⟨h1, c, e, fr, h2⟩
      · exact .inl h1
      · exact .inr ⟨h1, c, e, fr, hcells _ _ _ _ h2⟩
    · intro k hk; exact (hold k (hh.fzlt k hk)).trans (hE.fzs k hk)
    · rw [← hsz]; exact hE.size
    · intro k o hk ho; exact (hold k (lt hk)).trans (hE.same k o hk ho)
    · intro k c e fr hk
      obtain ⟨c', fr', h1, h2⟩ := hE.cells k c e fr hk
      exact ⟨c', fr', hcells _ _ _ _ h1, h2⟩
  rcases he with rfl | rfl <;> exact main
end
end Go.Proofs.Va
