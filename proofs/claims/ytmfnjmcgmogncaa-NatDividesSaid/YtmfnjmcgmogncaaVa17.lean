/- VA, part 17: the rule for a range over a function. -/
import Derived.Test.YtmfnjmcgmogncaaVa16
import Derived.RangeFuncRecord
set_option linter.unusedVariables false
set_option linter.unusedSimpArgs false
namespace Go.Proofs.Va
open Go Go.RowKit

section
variable {P : Program} {w0 : World} {n0 : Nat} {ρ ρ' : Nat → Nat × Nat} {σ σ' : AHeap} {fz fz' : Nat → Prop} {w w' : World}

theorem Ev.putput {l : Nat} {o o' : Obj} (E : Ev w0 n0 ρ σ fz (w.putObj l o') ρ' σ' fz' w') (hl : w.heap[l]? = some o) (ho : o.isCells = false) (ho' : o'.isCells = false) (hf : ¬ fz l) : Ev w0 n0 ρ σ fz w ρ' σ' fz' (w'.putObj l o) := by
  have hlt : l < w.heap.size := (Array.getElem?_eq_some_iff.1 hl).1
  have h1 : (w.putObj l o').heap[l]? = some o' := World.putObj_heap_same hlt
  have h2 : w'.heap[l]? = some o' := E.same _ _ h1 ho'
  have hlt' : l < w'.heap.size := (Array.getElem?_eq_some_iff.1 h2).1
  have hsz := E.size
  rw [World.putObj_size] at hsz
  refine ⟨E.len, E.len', E.blk, E.fzm, ?_, ?_, by rw [World.putObj_size]; exact hsz, ?_, ?_⟩
  · intro k hk
    rcases E.fzn k hk with h | ⟨h, c, e, fr, hc⟩
    · exact .inl h
    · have : k ≠ l := fun hh => by subst hh; rw [h2] at hc; cases hc; cases ho'
      exact .inr ⟨h, c, e, fr, (World.putObj_heap_other this).trans hc⟩
  · intro k hk
    have : k ≠ l := fun hh => hf (hh ▸ hk)
    rw [World.putObj_heap_other this, E.fzs k hk, World.putObj_heap_other this]
  · intro k ob hk hc
    by_cases hkl : k = l
    · subst hkl
      rw [hl] at hk; cases hk
      exact World.putObj_heap_same hlt'
    · rw [World.putObj_heap_other hkl]
      exact E.same k ob ((World.putObj_heap_other hkl).trans hk) hc
  · intro k c e fr hk
    have hkl : k ≠ l := fun hh => by subst hh; rw [hl] at hk; cases hk; cases ho
    obtain ⟨c', fr', h3, h4⟩ := E.cells k c e fr ((World.putObj_heap_other hkl).trans hk)
    exact ⟨c', fr', (World.putObj_heap_other hkl).trans h3, h4⟩

theorem Ev.putNew {l : Nat} {o o' : Obj} (E : Ev w0 n0 ρ σ fz w ρ' σ' fz' w') (hw : w.heap.size ≤ l) (hl : w'.heap[l]? = some o) (ho : o.isCells = false) (hfz : ∀ k, fz k → k < w.heap.size) : Ev w0 n0 ρ σ fz w ρ' σ' fz' (w'.putObj l o') := by
  refine ⟨E.len, E.len', E.blk, E.fzm, ?_, ?_, by rw [World.putObj_size]; exact E.size, ?_, ?_⟩
  · intro k hk
    rcases E.fzn k hk with h | ⟨h, c, e, fr, hc⟩
    · exact .inl h
    · have : k ≠ l := fun hh => by subst hh; rw [hl] at hc; cases hc; cases ho
      exact .inr ⟨h, c, e, fr, (World.putObj_heap_other this).trans hc⟩
  · intro k hk
    rw [World.putObj_heap_other (by have := hfz k hk; omega)]
    exact E.fzs k hk
  · intro k ob hk hc
    have := (Array.getElem?_eq_some_iff.1 hk).1
    rw [World.putObj_heap_other (by omega)]
    exact E.same k ob hk hc
  · intro k c e fr hk
    have := (Array.getElem?_eq_some_iff.1 hk).1
    obtain ⟨c', fr', h3, h4⟩ := E.cells k c e fr hk
    exact ⟨c', fr', (World.putObj_heap_other (by omega)).trans h3, h4⟩

theorem Ev.notfz {l : Nat} {o : Obj} (E : Ev w0 n0 ρ σ fz w ρ' σ' fz' w') (hw : w.heap.size ≤ l) (hl : w'.heap[l]? = some o) (ho : o.isCells = false) (hfz : ∀ k, fz k → k < w.heap.size) : ¬ fz' l := by
  intro h
  rcases E.fzn l h with h | ⟨_, c, e, fr, hc⟩
  · have := hfz l h; omega
  · rw [hl] at hc; cases hc; cases ho

theorem TRel.putObj {l : Nat} {o o' : Obj} (hl : w.heap[l]? = some o) (hc : o.isCells = false) (hf : ¬ fz l) {t : List AV} {tmps : Array Value} (h : TRel ρ σ fz w t tmps) : TRel ρ σ fz (w.putObj l o') t tmps :=
  ⟨h.len, fun i hi => (h.at_ i hi).putObj hl hc hf⟩

/-! ### The iterator's function -/
theorem aiter_body {g : FuncId} {fn : Func} {c : Code} {lb : List AV} {Y : List AV → AHeap → (AHeap → Prop) → (Exit → AHeap → Prop) → Prop} {D : AHeap → Prop} {X : Exit → AHeap → Prop} (hf : P.funcs[g]? = some fn) (hb : fn.body = some c) (hres : fn.results = #[])
    (h : ∀ l, AWI P l Y X c (fun e s' => (e = .normal ∨ e = .ret) ∧ D s'.σ) ⟨enterT ([.fn (.yield l) [] []] ++ lb) fn.ntmps, σ⟩) : AIter P g lb σ Y D X := by
  intro F n w0 l G Gx hF hro hG hGx hY ρ fz w vs hh hg hr
  refine callsIn_of_wp_marks hf hb (hF.1 g) (wpIn_mono (h l F n w0 G Gx hF hG hGx hY ρ fz _ w hh (enter_rel ?_ _) rfl hg) ?_) hro
  · refine RL.append (xs := [.fn (.yield l) [] []]) (us := #[.func (.yield l) #[] #[]]) ⟨rfl, fun j hj => ?_⟩ hr
    simp at hj
    subst hj
    exact .pure _ _ (.fn _ [] [] #[] #[] rfl rfl (fun j hj => by simp at hj) (fun j hj => by simp at hj))
  · rintro e a' w' ⟨hd, h1⟩
    have hrun : (results fn a'.tmps).run P w' = .ok (.tuple #[]) w' := by
      rw [results_eq, hres]; simp
    have fin : (∃ σ' ρ' fz', HRel w0 ρ' fz' σ' w' ∧ ((G ρ' σ' fz' w' ∧ D σ') ∨ ∃ x, Gx x ρ' σ' fz' w' ∧ X x σ')) → LeavesInM F n P fn a'.tmps (fun e w' => ∃ v σ' ρ' fz', e = .returned v ∧ HRel w0 ρ' fz' σ' w' ∧ ((G ρ' σ' fz' w' ∧ D σ') ∨ ∃ x, Gx x ρ' σ' fz' w' ∧ X x σ')) a'.defers .returning w' := by
      rintro ⟨σ', ρ', fz', q⟩
      rw [hd]
      exact ⟨_, hrun, _, σ', ρ', fz', rfl, q⟩
    rcases h1 with ⟨s', ρ', fz', ⟨he, hD⟩, hh', ht', hg'⟩ | ⟨rfl, x, σ', ρ', fz', hh', hg', hX⟩
    · rcases he with rfl | rfl <;> exact fin ⟨s'.σ, ρ', fz', hh', .inl ⟨hg', hD⟩⟩
    · exact fin ⟨σ', ρ', fz', hh', .inr ⟨x, hg', hX⟩⟩

/-! ### The statement -/
def setPs (t : List AV) (ps : List Tmp) (args : List AV) : List AV := (ps.zip args).foldl (fun t p => t.set p.1 p.2) t

theorem setPs_ok (ps : List Tmp) : ∀ (args : List AV) (vs : List Value) (t : List AV) (tmps : Array Value), vs.length = args.length → (∀ j (h : j < args.length), R ρ σ fz w args[j] (vs.getD j undef)) → TRel ρ σ fz w t tmps →
    TRel ρ σ fz w (setPs t ps args) ((ps.zip vs).foldl (fun t p => t.setIfInBounds p.1 p.2) tmps) := by
  induction ps with
  | nil => intro args vs t tmps _ _ h; simpa [setPs] using h
  | cons p ps ih =>
    intro args vs t tmps hl hR h
    match args, vs, hl with
    | [], [], _ => simpa [setPs] using h
    | x :: args, v :: vs, hl =>
      simp only [setPs, List.zip_cons_cons, List.foldl_cons]
      refine ih args vs _ _ (by simpa using hl) (fun j hj => by have := hR (j + 1) (by simpa using hj); simpa only [List.getElem_cons_succ, List.getD_cons_succ] using this) ?_
      have := h.put (a := { tmps := tmps, defers := [] }) (some p) (by simpa using hR 0 (by simp))
      simpa [put, Act.put] using this

def jumps : Exit → Option Code
  | .ret => some .ret
  | .exit id => some (.exit id)
  | .goto t => some (.goto t)
  | _ => none

/-- ONE ROUND: the left sides are assigned to; the body. -/
def bodyY (P : Program) (ps : Array Tmp) (assign body : Code) (t : List AV) (args : List AV) (σ : AHeap) (Kt : AHeap → Prop) (Kf : Exit → AHeap → Prop) : Prop :=
  args.length = ps.size ∧ awp P σ.length false assign (fun e s1 => e = .normal ∧ awp P σ.length false body (fun e s2 => (e = .normal ∧ Kt s2.σ) ∨ ((jumps e).isSome = true ∧ Kf e s2.σ)) s1) ⟨setPs t ps.toList args, σ⟩

theorem range_rule {g : Operand} {ps : Array Tmp} {assign body c : Code} {gf : FuncId} {fn : Func} {lb : List AV} {Q : Exit → AState → Prop} {s : AState} (hg : ev s.t g = .fn (.func gf) [] lb) (hf : P.funcs[gf]? = some fn) (hb : fn.body = some c) (hname : (fn.name == "runtime.NumGoroutine") = false)
    (hit : AIter P gf lb s.σ (bodyY P ps assign body s.t) (fun σ' => Q .normal ⟨s.t, σ'⟩) (fun x σ' => Q x ⟨s.t, σ'⟩)) : AW P n0 true (.rangeFunc g ps assign body) Q s := by
  intro F n hF htop w0 nb ρ fz a w hs hn hb1 hb2
  have hro := htop rfl
  refine wpIn_rangeFunc ?_
  intro fnid hfn
  rw [hro]
  have hname' : ¬ fn.name = "runtime.NumGoroutine" := by simpa using hname
  have eg : ∀ args w, (callFunc gf args).run P w = .ok (.enter gf args) w := fun args w => by simp [callFunc, hf, hname', hb]
  have hfe := ev_ok hs.t g
  rw [hg] at hfe
  obtain ⟨arr, vs, hfv, hl1, hl2, _, hRl⟩ := hfe.fn_inv
  have harr : arr = #[] := by simpa using hl1
  subst harr
  obtain ⟨rec, hrec⟩ : ∃ rec : LoopState → Option Code → Loop, rec = fun st pe => { state := st, pending := pe, fn := fnid, tmps := a.tmps, params := ps, assign, body, defers := w.heap.size } := ⟨_, rfl⟩
  obtain ⟨W1, hW1⟩ : ∃ W1, (w.alloc (.deferred (some []))).alloc (.loop (rec .ready none)) = W1 := ⟨_, rfl⟩
  have hL1 : W1.heap[w.heap.size + 1]? = some (.loop (rec .ready none)) := by
    rw [← hW1]; have := World.alloc_heap_new (w.alloc (.deferred (some []))) (.loop (rec .ready none)); rwa [World.size_alloc] at this
  have hK1 : W1.heap[w.heap.size]? = some (.deferred (some [])) := by
    rw [← hW1]; exact (Below.heap_alloc _ _ _ (by simp)).trans (World.alloc_heap_new w _)
  have hbel : Below w.heap.size w W1 := by
    rw [← hW1]; exact (((Below.refl _ w).alloc (Nat.le_refl _) _).alloc (by simp) _)
  obtain ⟨hh1, hE1⟩ := hs.h.grow (fz' := fz) hbel (fun _ h => h) (fun k hk => Nat.lt_of_lt_of_le (hs.h.fzlt k hk) hbel.size) (fun k hk => .inl hk)
  have hle := hs.h.le
  let G : GP := fun ρ' σ' fz' w' => Ev w0 s.σ.length ρ s.σ fz w ρ' σ' fz' w' ∧ w'.heap[w.heap.size + 1]? = some (.loop (rec .ready none)) ∧ w'.heap[w.heap.size]? = some (.deferred (some []))
  let Gx : Exit → GP := fun x ρ' σ' fz' w' => Ev w0 s.σ.length ρ s.σ fz w ρ' σ' fz' w' ∧ (∃ c, jumps x = some c ∧ w'.heap[w.heap.size + 1]? = some (.loop (rec .done (some c)))) ∧ w'.heap[w.heap.size]? = some (.deferred (some []))
  have hG : GCl w0 G := fun ρ1 σ1 fz1 w1 ρ2 σ2 fz2 w2 ⟨h1, h2, h3⟩ hh hE => ⟨h1.trans (hE.lower h1.len'), hE.same _ _ h2 rfl, hE.same _ _ h3 rfl⟩
  have hGx : ∀ x, GCl w0 (Gx x) := fun x ρ1 σ1 fz1 w1 ρ2 σ2 fz2 w2 ⟨h1, ⟨c, h2, h2'⟩, h3⟩ hh hE => ⟨h1.trans (hE.lower h1.len'), ⟨c, h2, hE.same _ _ h2' rfl⟩, hE.same _ _ h3 rfl⟩
  refine ⟨w.heap.size + 1, [{ target := .collected w.heap.size, args := #[] }], W1, { target := .fn (.func gf) vs, args := #[.func (.yield (w.heap.size + 1)) #[] #[]] }, W1, gf,
    #[.func (.yield (w.heap.size + 1)) #[] #[]] ++ vs, W1, ?_, ?_, ?_, ?_, (fun hs => (by rw [hF.2.1] at hs; cases hs)), ?_⟩
  · rw [← hW1, hrec]; exact run_enterLoop_outer _ _ _ _ _
  · simp only [resolve, hfv]
    simp [go_sem]
  · intro f' _; exact hF.1 f'
  · simp [invoke, go_sem, eg]
  · have hRl1 : RL ρ s.σ fz W1 lb vs := ⟨hl2, fun j hj => (hRl j hj).ev hE1 (hRl j hj).sc⟩
    refine (hit F (n - 1) w0 (w.heap.size + 1) G Gx hF hro hG hGx ?_ ρ fz W1 vs hh1 ⟨hE1, hL1, hK1⟩ hRl1).mono ?_
    · -- a round
      rintro args σ1 Kt Kf ⟨hal, hY⟩ m ρ1 fz1 w1 us hw1 ⟨hE, hL, hK⟩ hR
      have hy := run_yield (P := P) (args := us) hL (by rw [hrec]; simpa using hR.1.trans hal)
      rw [hrec] at hy
      refine ⟨fnid, _, assign, body, hy, roundIn_of_wpIn hfn ?_⟩
      have ht1 : TRel ρ1 σ1 fz1 w1 (setPs s.t ps.toList args) ((ps.zip us).foldl (fun tmps (t, a) => tmps.setIfInBounds t a) a.tmps) := by
        have h0 := setPs_ok ps.toList args us.toList s.t a.tmps (by simpa using hR.1) (fun j hj => by simpa using hR.2 j hj) (hs.t.ev' (n0 := n0) hE)
        have e : (ps.zip us).foldl (fun tmps (t, a) => tmps.setIfInBounds t a) a.tmps = (ps.toList.zip us.toList).foldl (fun t p => t.setIfInBounds p.1 p.2) a.tmps := by
          rw [← Array.foldl_toList, Array.toList_zip]
        rw [e]; exact h0
      have hl0 : w.heap.size ≤ w.heap.size + 1 := by omega
      have hasg := awp_ok assign _ _ hY (F.inRound (w.heap.size + 1)) m (hF.inRound _) (fun h => (by cases h)) w0 w1.heap.size ρ1 fz1 { tmps := (ps.zip us).foldl (fun tmps (t, a) => tmps.setIfInBounds t a) a.tmps, defers := [] } w1
        ⟨hw1, ht1, [], rfl, List.nodup_nil, fun D hD => by cases hD⟩ (Nat.le_refl _) hw1.le (Nat.le_refl _)
      refine wpIn_mono hasg ?_
      rintro e a2 w2 ⟨s2, ρ2, fz2, ⟨rfl, hB⟩, hS2, hE2⟩
      have hEE2 := hE.trans (hE2.lower hE.len')
      have hL2 := hE2.same _ _ hL rfl
      have hK2 := hE2.same _ _ hK rfl
      refine ⟨_, run_beginRound hL2 (by rw [hrec]), ?_⟩
      have hnf2 := hEE2.notfz hl0 hL2 rfl hs.h.fzlt
      have hlt2 : w.heap.size + 1 < w2.heap.size := (Array.getElem?_eq_some_iff.1 hL2).1
      obtain ⟨W3, hW3⟩ : ∃ W3, w2.putObj (w.heap.size + 1) (.loop { rec .ready none with state := .busy }) = W3 := ⟨_, rfl⟩
      have hL3 : W3.heap[w.heap.size + 1]? = some (.loop { rec .ready none with state := .busy }) := by rw [← hW3]; exact World.putObj_heap_same hlt2
      have hK3 : W3.heap[w.heap.size]? = some (.deferred (some [])) := by rw [← hW3]; exact (World.putObj_heap_other (by omega)).trans hK2
      have hh3 : HRel w0 ρ2 fz2 s2.σ W3 := by rw [← hW3]; exact hS2.h.putObj hL2 rfl (by omega) hnf2
      have ht3 : TRel ρ2 s2.σ fz2 W3 s2.t a2.tmps := by rw [← hW3]; exact hS2.t.putObj hL2 rfl hnf2
      have hE3 : Ev w0 s.σ.length ρ s.σ fz w ρ2 s2.σ fz2 W3 := by rw [← hW3]; exact hEE2.putNew hl0 hL2 rfl hs.h.fzlt
      have hm3 : MRel w1.heap.size a2.defers W3 := by
        obtain ⟨Ds, h1, h2, h3⟩ := hS2.m
        have hlt1 : w.heap.size + 1 < w1.heap.size := (Array.getElem?_eq_some_iff.1 hL).1
        refine ⟨Ds, h1, h2, fun D hD => ⟨?_, (h3 D hD).2⟩⟩
        rw [← hW3, World.putObj_heap_other (by have := (h3 D hD).2; omega)]
        exact (h3 D hD).1
      rw [hW3]
      have hbody := awp_ok body _ _ hB (F.inRound (w.heap.size + 1)) m (hF.inRound _) (fun h => (by cases h)) w0 w1.heap.size ρ2 fz2 a2 W3 ⟨hh3, ht3, hm3⟩ hE2.len' hw1.le
        (by have := hE2.size; rw [← hW3, World.putObj_size]; exact this)
      refine wpIn_mono hbody ?_
      rintro e a4 w4 ⟨s4, ρ4, fz4, hQ, hS4, hE4⟩
      have hEE4 := hE3.trans (hE4.lower hE.len')
      have hL4 := hE4.same _ _ hL3 rfl
      have hK4 := hE4.same _ _ hK3 rfl
      have hlt4 : w.heap.size + 1 < w4.heap.size := (Array.getElem?_eq_some_iff.1 hL4).1
      have hnf4 := hEE4.notfz hl0 hL4 rfl hs.h.fzlt
      have done : ∀ x, (jumps x).isSome = true → Kf x s4.σ → ∃ c, jumps x = some c ∧ ∃ v w5, (Instr.endRound (w.heap.size + 1) (some c)).run P w4 = .ok v w5 ∧ ∃ σ' ρ' fz', HRel w0 ρ' fz' σ' w5 ∧
          ((Ending.returned v = .returned (.bool true) ∧ G ρ' σ' fz' w5 ∧ Kt σ' ∧ Ev w0 σ1.length ρ1 σ1 fz1 w1 ρ' σ' fz' w5) ∨ ∃ x, Ending.returned v = .returned (.bool false) ∧ Gx x ρ' σ' fz' w5 ∧ Kf x σ') := by
        intro x hx hkf
        obtain ⟨c, hc⟩ := Option.isSome_iff_exists.1 hx
        have hr := run_endRound (P := P) (some c) hL4
        refine ⟨c, hc, _, _, hr, s4.σ, ρ4, fz4, hS4.h.putObj hL4 rfl (by omega) hnf4, .inr ⟨x, rfl, ⟨hEE4.putNew hl0 hL4 rfl hs.h.fzlt, ⟨c, hc, ?_⟩, ?_⟩, hkf⟩⟩
        · rw [World.putObj_heap_same hlt4, hrec]; rfl
        · exact (World.putObj_heap_other (by omega)).trans hK4
      rcases hQ with ⟨rfl, hkt⟩ | ⟨hx, hkf⟩
      · have hr := run_endRound (P := P) none hL4
        have hobj : (Obj.loop { ({ rec .ready none with state := .busy } : Loop) with state := if (none : Option Code).isNone then .ready else .done, pending := none }) = .loop (rec .ready none) := by rw [hrec]; rfl
        rw [hobj] at hr
        refine ⟨_, _, hr, s4.σ, ρ4, fz4, hS4.h.putObj hL4 rfl (by omega) hnf4, .inl ⟨rfl, ⟨hEE4.putNew hl0 hL4 rfl hs.h.fzlt, World.putObj_heap_same hlt4, (World.putObj_heap_other (by omega)).trans hK4⟩, hkt, ?_⟩⟩
        refine hE2.trans (Ev.putput (o' := .loop { rec .ready none with state := .busy }) ?_ hL2 rfl rfl hnf2)
        rw [hW3]; exact hE4
      · obtain ⟨c, hc, v, w5, hr, hres⟩ := done e hx hkf
        cases e with
        | ret => cases hc; exact ⟨v, w5, hr, hres⟩
        | exit id => cases hc; exact ⟨v, w5, hr, hres⟩
        | goto t => cases hc; exact ⟨v, w5, hr, hres⟩
        | normal => cases hx
        | panic c => cases hx
        | outgrown => cases hx
    · -- behind the function
      rintro e w2 ⟨v, σ2, ρ2, fz2, rfl, hh2, hres⟩
      have fin : ∀ (st : LoopState) (pe : Option Code) (hst : st ≠ .busy), w2.heap[w.heap.size + 1]? = some (.loop (rec st pe)) → w2.heap[w.heap.size]? = some (.deferred (some [])) → Ev w0 s.σ.length ρ s.σ fz w ρ2 σ2 fz2 w2 →
          ∃ w3, (Instr.endLoop (w.heap.size + 1)).run P w2 = .ok pe w3 ∧ SRel w0 nb ρ2 fz2 ⟨s.t, σ2⟩ { a with defers := [{ target := .collected w.heap.size, args := #[] }] ++ a.defers } w3 ∧ Ev w0 n0 ρ s.σ fz w ρ2 σ2 fz2 w3 := by
        intro st pe hst hL hK hE
        have hr : (Instr.endLoop (w.heap.size + 1)).run P w2 = .ok pe (w2.putObj (w.heap.size + 1) (.loop { rec st pe with state := .exhausted })) :=
          (run_endLoop (P := P) hL (by rw [hrec]; exact hst)).trans (by rw [hrec])
        have hnf := hE.notfz (l := w.heap.size + 1) (by omega) hL rfl hs.h.fzlt
        have hE' : Ev w0 s.σ.length ρ s.σ fz w ρ2 σ2 fz2 (w2.putObj (w.heap.size + 1) (.loop { rec st pe with state := .exhausted })) := hE.putNew (by omega) hL rfl hs.h.fzlt
        refine ⟨_, hr, ⟨hh2.putObj hL rfl (by omega) hnf, hs.t.ev' (n0 := n0) hE', ?_⟩, hE'.lower hn⟩
        obtain ⟨Ds, h1, h2, h3⟩ := hs.m
        refine ⟨w.heap.size :: Ds, by simp [h1], List.nodup_cons.2 ⟨fun hD => ?_, h2⟩, fun D hD => ?_⟩
        · have := (Array.getElem?_eq_some_iff.1 (h3 _ hD).1).1; omega
        · rcases List.mem_cons.1 hD with rfl | hD
          · exact ⟨(World.putObj_heap_other (by omega)).trans hK, hb2⟩
          · exact ⟨hE'.same _ _ (h3 D hD).1 rfl, (h3 D hD).2⟩
      rcases hres with ⟨⟨hE, hL, hK⟩, hD⟩ | ⟨x, ⟨hE, ⟨c, hc, hL⟩, hK⟩, hX⟩
      · obtain ⟨w3, hr, hS, hE3⟩ := fin _ _ (by simp) hL hK hE
        exact ⟨none, w3, hr, ⟨⟨s.t, σ2⟩, ρ2, fz2, hD, hS, hE3⟩⟩
      · obtain ⟨w3, hr, hS, hE3⟩ := fin _ _ (by simp) hL hK hE
        refine ⟨some c, w3, hr, ?_⟩
        cases x with
        | ret => cases hc; exact wpIn_ret ⟨⟨s.t, σ2⟩, ρ2, fz2, hX, hS, hE3⟩
        | exit id => cases hc; exact wpIn_exit ⟨⟨s.t, σ2⟩, ρ2, fz2, hX, hS, hE3⟩
        | goto t => cases hc; exact wpIn_goto ⟨⟨s.t, σ2⟩, ρ2, fz2, hX, hS, hE3⟩
        | normal => cases hc
        | panic c => cases hc
        | outgrown => cases hc
end
end Go.Proofs.Va
