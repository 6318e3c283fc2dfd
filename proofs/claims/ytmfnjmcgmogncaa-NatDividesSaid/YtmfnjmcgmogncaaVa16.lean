/- VA, part 16: a range over a function, and the functions that are ranged over. -/
import Derived.Test.YtmfnjmcgmogncaaVa15
import Derived.RangeFuncSeq
set_option linter.unusedVariables false
set_option linter.unusedSimpArgs false
namespace Go.Proofs.Va
open Go Go.RowKit

abbrev GP := (Nat → Nat × Nat) → AHeap → (Nat → Prop) → World → Prop

/-- What grows along with the blocks. -/
def GCl (w0 : World) (G : GP) : Prop := ∀ ρ σ fz w ρ' σ' fz' w', G ρ σ fz w → HRel w0 ρ' fz' σ' w' → Ev w0 σ.length ρ σ fz w ρ' σ' fz' w' → G ρ' σ' fz' w'

/-- What a round comes to: Y; it goes on (G), or is left (Gx). -/
def YieldOk (F : Fence) (P : Program) (w0 : World) (l : Nat) (Y : List AV → AHeap → (AHeap → Prop) → (Exit → AHeap → Prop) → Prop) (G : GP) (Gx : Exit → GP) : Prop :=
  ∀ args σ Kt Kf, Y args σ Kt Kf → ∀ (n : Nat) (ρ : Nat → Nat × Nat) (fz : Nat → Prop) (w : World) (vs : Array Value), HRel w0 ρ fz σ w → G ρ σ fz w → RL ρ σ fz w args vs → YieldAt F n P l vs w fun e w' =>
    ∃ σ' ρ' fz', HRel w0 ρ' fz' σ' w' ∧ ((e = .returned (.bool true) ∧ G ρ' σ' fz' w' ∧ Kt σ' ∧ Ev w0 σ.length ρ σ fz w ρ' σ' fz' w') ∨ ∃ x, e = .returned (.bool false) ∧ Gx x ρ' σ' fz' w' ∧ Kf x σ')

/-- A function that is ranged over. -/
def AIter (P : Program) (g : FuncId) (lb : List AV) (σ : AHeap) (Y : List AV → AHeap → (AHeap → Prop) → (Exit → AHeap → Prop) → Prop) (D : AHeap → Prop) (X : Exit → AHeap → Prop) : Prop :=
  ∀ (F : Fence) (n : Nat) (w0 : World) (l : Nat) (G : GP) (Gx : Exit → GP), Wd F → F.round = none → GCl w0 G → (∀ x, GCl w0 (Gx x)) → YieldOk F P w0 l Y G Gx → ∀ (ρ : Nat → Nat × Nat) (fz : Nat → Prop) (w : World) (vs : Array Value), HRel w0 ρ fz σ w → G ρ σ fz w → RL ρ σ fz w lb vs →
    CallsIn F n P g (#[.func (.yield l) #[] #[]] ++ vs) w fun e w' => ∃ v σ' ρ' fz', e = .returned v ∧ HRel w0 ρ' fz' σ' w' ∧ ((G ρ' σ' fz' w' ∧ D σ') ∨ ∃ x, Gx x ρ' σ' fz' w' ∧ X x σ')

section
variable {P : Program} {ops : Array Oper} {w0 : World} {F : Fence} {n n0 : Nat}

theorem opsPut_ok (hF : Wd F) {Q : AState → Prop} {Q' : Exit → Act → World → Prop} {more : List Oper} (l : List Oper) : ∀ (s : AState) (ρ : Nat → Nat × Nat) (fz : Nat → Prop) (a : Act) (w : World),
    awpOps P ops l Q s → HRel w0 ρ fz s.σ w → TRel ρ s.σ fz w s.t a.tmps →
    (∀ s' ρ' fz' a' w', Q s' → HRel w0 ρ' fz' s'.σ w' → TRel ρ' s'.σ fz' w' s'.t a'.tmps → a'.defers = a.defers → Ev w0 s.σ.length ρ s.σ fz w ρ' s'.σ fz' w' → wpListIn F n P ops Q' more a' w') → wpListIn F n P ops Q' (l ++ more) a w := by
  induction l with
  | nil => intro s ρ fz a w h hh ht hq; exact hq s ρ fz a w h hh ht rfl (Ev.refl _ _ _ _ (Nat.le_refl _))
  | cons o rest ih =>
    intro s ρ fz a w h hh ht hq
    simp only [awpOps] at h
    simp only [List.cons_append, wpListIn]
    rcases guardA_ok ht h with ⟨hw, h⟩ | ⟨hw, h⟩
    · rw [if_pos hw]
      refine aop_ok hF hh ht h ?_
      intro v w' ρ' fz' r σ' hK hh' hR hE
      refine ih ⟨put s.t o.dst r, σ'⟩ ρ' fz' _ w' hK hh' ((ht.ev' (n0 := s.σ.length) hE).put o.dst hR) ?_
      intro s' ρ2 fz2 a' w2 hQ hh2 ht2 hd hE2
      refine hq s' ρ2 fz2 a' w2 hQ hh2 ht2 (hd.trans ?_) (hE.trans (hE2.lower hE.len'))
      cases o.dst <;> rfl
    · rw [if_neg (by simp [hw])]
      refine ⟨fun f _ => hF.1 f, ih ⟨put s.t o.dst .any, s.σ⟩ ρ fz _ w h hh (ht.put o.dst (R.top _)) ?_⟩
      intro s' ρ2 fz2 a' w2 hQ hh2 ht2 hd hE2
      refine hq s' ρ2 fz2 a' w2 hQ hh2 ht2 (hd.trans ?_) hE2
      cases o.dst <;> rfl
end

/-- A statement of a function that is ranged over. -/
def AWI (P : Program) (l : Nat) (Y : List AV → AHeap → (AHeap → Prop) → (Exit → AHeap → Prop) → Prop) (X : Exit → AHeap → Prop) (c : Code) (Q : Exit → AState → Prop) (s : AState) : Prop :=
  ∀ (F : Fence) (n : Nat) (w0 : World) (G : GP) (Gx : Exit → GP), Wd F → GCl w0 G → (∀ x, GCl w0 (Gx x)) → YieldOk F P w0 l Y G Gx → ∀ (ρ : Nat → Nat × Nat) (fz : Nat → Prop) (a : Act) (w : World), HRel w0 ρ fz s.σ w → TRel ρ s.σ fz w s.t a.tmps → a.defers = [] → G ρ s.σ fz w →
    c.wpIn F n P (fun e a' w' => a'.defers = [] ∧ ((∃ s' ρ' fz', Q e s' ∧ HRel w0 ρ' fz' s'.σ w' ∧ TRel ρ' s'.σ fz' w' s'.t a'.tmps ∧ G ρ' s'.σ fz' w') ∨ (e = .ret ∧ ∃ x σ' ρ' fz', HRel w0 ρ' fz' σ' w' ∧ Gx x ρ' σ' fz' w' ∧ X x σ'))) a w

section
variable {P : Program} {l : Nat} {Y : List AV → AHeap → (AHeap → Prop) → (Exit → AHeap → Prop) → Prop} {X : Exit → AHeap → Prop} {Q : Exit → AState → Prop} {s : AState}

theorem awi_mono {c : Code} {Q' : Exit → AState → Prop} (hq : ∀ e s', Q e s' → Q' e s') (h : AWI P l Y X c Q s) : AWI P l Y X c Q' s := by
  intro F n w0 G Gx hF hG hGx hY ρ fz a w hh ht hd hg
  refine wpIn_mono (h F n w0 G Gx hF hG hGx hY ρ fz a w hh ht hd hg) ?_
  rintro e a' w' ⟨hd', h1 | h1⟩
  · obtain ⟨s', ρ', fz', hQ, h1⟩ := h1
    exact ⟨hd', .inl ⟨s', ρ', fz', hq _ _ hQ, h1⟩⟩
  · exact ⟨hd', .inr h1⟩
theorem awi_skip (h : Q .normal s) : AWI P l Y X .skip Q s := fun F n w0 G Gx hF hG hGx hY ρ fz a w hh ht hd hg => wpIn_skip ⟨hd, .inl ⟨s, ρ, fz, h, hh, ht, hg⟩⟩
theorem awi_exit {id : Nat} (h : Q (.exit id) s) : AWI P l Y X (.exit id) Q s := fun F n w0 G Gx hF hG hGx hY ρ fz a w hh ht hd hg => wpIn_exit ⟨hd, .inl ⟨s, ρ, fz, h, hh, ht, hg⟩⟩
theorem awi_ret (h : Q .ret s) : AWI P l Y X .ret Q s := fun F n w0 G Gx hF hG hGx hY ρ fz a w hh ht hd hg => wpIn_ret ⟨hd, .inl ⟨s, ρ, fz, h, hh, ht, hg⟩⟩
theorem awi_region {id : Nat} {ops : Array Oper} (h : awpOps P ops ops.toList (Q .normal) s) : AWI P l Y X (.region id ops false) Q s := by
  intro F n w0 G Gx hF hG hGx hY ρ fz a w hh ht hd hg
  refine wpIn_region_list ?_
  rw [← List.append_nil ops.toList]
  refine opsPut_ok hF ops.toList s ρ fz a w h hh ht ?_
  intro s' ρ' fz' a' w' hQ hh' ht' hd' hE
  exact ⟨hd'.trans hd, .inl ⟨s', ρ', fz', hQ, hh', ht', hG _ _ _ _ _ _ _ _ hg hh' hE⟩⟩
theorem awi_seq {x y : Code} (h : AWI P l Y X x (thenA (AWI P l Y X y Q) Q) s) : AWI P l Y X (.seq x y) Q s := by
  intro F n w0 G Gx hF hG hGx hY ρ fz a w hh ht hd hg
  refine wpIn_seq (wpIn_mono (h F n w0 G Gx hF hG hGx hY ρ fz a w hh ht hd hg) ?_)
  rintro e a' w' ⟨hd', ⟨s', ρ', fz', hQ, hh', ht', hg'⟩ | ⟨rfl, h1⟩⟩
  · cases e with
    | normal => exact hQ F n w0 G Gx hF hG hGx hY ρ' fz' a' w' hh' ht' hd' hg'
    | _ => exact ⟨hd', .inl ⟨s', ρ', fz', hQ, hh', ht', hg'⟩⟩
  · exact ⟨hd', .inr ⟨rfl, h1⟩⟩
theorem awi_cond {c : Operand} {x y : Code} {q : Bool} (hc : ev s.t c = .v (.bool q)) (h1 : q = true → AWI P l Y X x Q s) (h2 : q = false → AWI P l Y X y Q s) : AWI P l Y X (.cond c x y) Q s := by
  intro F n w0 G Gx hF hG hGx hY ρ fz a w hh ht hd hg
  have hv := ev_ok ht c
  rw [hc] at hv
  refine wpIn_cond hv.v_eq ?_
  cases q with
  | true => exact h1 rfl F n w0 G Gx hF hG hGx hY ρ fz a w hh ht hd hg
  | false => exact h2 rfl F n w0 G Gx hF hG hGx hY ρ fz a w hh ht hd hg
theorem awi_block {id : Nat} {c : Code} (h : AWI P l Y X c (inBlockA id Q) s) : AWI P l Y X (.block id c) Q s := by
  intro F n w0 G Gx hF hG hGx hY ρ fz a w hh ht hd hg
  refine wpIn_block (wpIn_mono (h F n w0 G Gx hF hG hGx hY ρ fz a w hh ht hd hg) ?_)
  rintro e a' w' ⟨hd', ⟨s', ρ', fz', hQ, hh', ht', hg'⟩ | ⟨rfl, h1⟩⟩
  · cases e with
    | exit id' =>
      simp only [Exit.inBlock, inBlockA] at hQ ⊢
      split
      · rename_i hid; rw [if_pos hid] at hQ; exact ⟨hd', .inl ⟨s', ρ', fz', hQ, hh', ht', hg'⟩⟩
      · rename_i hid; rw [if_neg hid] at hQ; exact ⟨hd', .inl ⟨s', ρ', fz', hQ, hh', ht', hg'⟩⟩
    | _ => exact ⟨hd', .inl ⟨s', ρ', fz', hQ, hh', ht', hg'⟩⟩
  · exact ⟨hd', .inr ⟨rfl, h1⟩⟩
/-- A loop, from states of Pre; each round lowers μ. -/
theorem awi_loop (Pre : AState → Prop) (μ : AState → Nat) {c : Code} (h0 : Pre s)
    (step : ∀ s1, Pre s1 → AWI P l Y X c (thenA (fun s2 => Pre s2 ∧ μ s2 < μ s1) Q) s1) : AWI P l Y X (.loop c) Q s := by
  intro F n w0 G Gx hF hG hGx hY ρ fz a w hh ht hd hg
  refine wpIn_loop_known (γ := AState) (I := fun s1 a' w' => Pre s1 ∧ a'.defers = [] ∧ ∃ ρ' fz', HRel w0 ρ' fz' s1.σ w' ∧ TRel ρ' s1.σ fz' w' s1.t a'.tmps ∧ G ρ' s1.σ fz' w') μ (g0 := s) ⟨h0, hd, ρ, fz, hh, ht, hg⟩ ?_
  rintro s1 a1 w1 ⟨hp, hd1, ρ1, fz1, hh1, ht1, hg1⟩
  refine wpIn_mono (step s1 hp F n w0 G Gx hF hG hGx hY ρ1 fz1 a1 w1 hh1 ht1 hd1 hg1) ?_
  rintro e a' w' ⟨hd', ⟨s', ρ', fz', hQ, hh', ht', hg'⟩ | ⟨rfl, h1⟩⟩
  · cases e with
    | normal => exact ⟨s', ⟨hQ.1, hd', ρ', fz', hh', ht', hg'⟩, hQ.2⟩
    | _ => exact ⟨hd', .inl ⟨s', ρ', fz', hQ, hh', ht', hg'⟩⟩
  · exact ⟨hd', .inr ⟨rfl, h1⟩⟩

/-- One round is asked for. -/
theorem awi_yield {id : Nat} {ops : Array Oper} {pre : List Oper} {y nt : Oper} {c : Call} {f : Operand} {dy dn : Tmp} {ty : TypeId} (hops : ops.toList = pre ++ [y, nt]) (hy : y.op = .call c) (hc : c.callee = .value f) (hyd : y.dst = some dy) (hyg : y.guard = none)
    (hn : nt.op = .unOp .not ty (.tmp dy)) (hnd : nt.dst = some dn) (hng : nt.guard = none)
    (h : awpOps P ops pre (fun s1 => dy < s1.t.length ∧ dn < s1.t.length ∧ ev s1.t f = .fn (.yield l) [] [] ∧ Y (c.args.toList.map (ev s1.t)) s1.σ (fun σ' => Q .normal ⟨put (put s1.t (some dy) (.v (.bool true))) (some dn) (.v (.bool false)), σ'⟩) X) s) :
    AWI P l Y X (.seq (.region id ops false) (.cond (.tmp dn) .ret .skip)) Q s := by
  intro F n w0 G Gx hF hG hGx hY ρ fz a w hh ht hd hg
  refine wpIn_seq (wpIn_region_list ?_)
  rw [hops]
  refine opsPut_ok hF pre s ρ fz a w h hh ht ?_
  rintro s1 ρ1 fz1 a1 w1 ⟨hdy, hdn, hf, hK⟩ hh1 ht1 hd1 hE1
  have hg1 := hG _ _ _ _ _ _ _ _ hg hh1 hE1
  have hfe := ev_ok ht1 f
  rw [hf] at hfe
  obtain ⟨arr, brr, hfv, hl1, hl2, _, _⟩ := hfe.fn_inv
  have harr : arr = #[] := by simpa using hl1
  have hbrr : brr = #[] := by simpa using hl2
  subst harr hbrr
  have hargs : RL ρ1 s1.σ fz1 w1 (c.args.toList.map (ev s1.t)) (c.args.map a1.eval) := args_ok ht1 c.args
  have hex : execOp a1.eval y = Instr.yield l (c.args.map a1.eval) := by
    unfold execOp
    rw [hy]
    simp only [resolve, hc, hfv]
    simp [go_sem]
  obtain ⟨fn, tmps, assign, body, hyr, hround⟩ := hY _ _ _ _ hK (n - 1) ρ1 fz1 w1 _ hh1 hg1 hargs
  rw [wpListIn, if_pos (by simp [Region.wanted, hyg])]
  refine ⟨fun f _ => hF.1 f, ?_⟩
  rw [Oper.semAt_eq _ _ _ (by intro c' hh'; rw [hy] at hh'; cases hh'), hex, hyr]
  refine ⟨fun hs => (by rw [hF.2.1] at hs; cases hs), hround.mono ?_⟩
  rintro e w2 ⟨σ2, ρ2, fz2, hh2, hres⟩
  have hop : ∀ (b : Bool) (t : List AV) (Q2 : AState → Prop), ev t (.tmp dy) = .v (.bool b) → Q2 ⟨put t (some dn) (.v (.bool (!b))), σ2⟩ → awpOps P ops [nt] Q2 ⟨t, σ2⟩ := by
    intro b t Q2 he hQ
    simp only [awpOps, guardA, hng, hn, aop, he, aUn, hnd]
    exact hQ
  have hdd : a1.defers = [] := hd1.trans hd
  rcases hres with ⟨rfl, hg2, hK2, hE2⟩ | ⟨x, rfl, hg2, hK2⟩
  · have ht2 : TRel ρ2 σ2 fz2 w2 (put s1.t (some dy) (.v (.bool true))) (a1.put y.dst (.bool true)).tmps := by
      rw [hyd]; exact (ht1.ev' (n0 := s1.σ.length) hE2).put (some dy) (.lit _)
    change wpListIn F n P ops _ ([nt] ++ []) (a1.put y.dst (.bool true)) w2
    refine opsPut_ok hF [nt] ⟨_, σ2⟩ ρ2 fz2 _ w2 (hop true _ (fun s' => s' = ⟨put (put s1.t (some dy) (.v (.bool true))) (some dn) (.v (.bool false)), σ2⟩) (by simp [ev, put, hdy]) rfl) hh2 ht2 ?_
    rintro s' ρ3 fz3 a3 w3 rfl hh3 ht3 hd3 hE3
    refine wpIn_cond_false ?_ ?_
    · have := ev_ok ht3 (.tmp dn)
      have he : ev (put (put s1.t (some dy) (.v (.bool true))) (some dn) (.v (.bool false))) (.tmp dn) = .v (.bool false) := by simp [ev, put, hdn]
      rw [he] at this
      exact this.v_eq
    · exact wpIn_skip ⟨hd3.trans ((by rw [hyd]; rfl : (a1.put y.dst (.bool true)).defers = a1.defers).trans hdd), .inl ⟨_, ρ3, fz3, hK2, hh3, ht3, hG _ _ _ _ _ _ _ _ hg2 hh3 hE3⟩⟩
  · have ht2 : TRel ρ2 σ2 fz2 w2 (put (List.replicate a1.tmps.size .any) (some dy) (.v (.bool false))) (a1.put y.dst (.bool false)).tmps := by
      rw [hyd]
      refine TRel.put ⟨by simp, fun i hi => ?_⟩ (some dy) (.lit _)
      simp only [List.getElem_replicate]; exact R.top _
    have hly : dy < a1.tmps.size := by rw [ht1.len]; exact hdy
    have hln : dn < a1.tmps.size := by rw [ht1.len]; exact hdn
    change wpListIn F n P ops _ ([nt] ++ []) (a1.put y.dst (.bool false)) w2
    refine opsPut_ok hF [nt] ⟨_, σ2⟩ ρ2 fz2 _ w2 (hop false _ (fun s' => s' = ⟨put (put (List.replicate a1.tmps.size .any) (some dy) (.v (.bool false))) (some dn) (.v (.bool true)), σ2⟩) (by simp [ev, put, hly]) rfl) hh2 ht2 ?_
    rintro s' ρ3 fz3 a3 w3 rfl hh3 ht3 hd3 hE3
    refine wpIn_cond_true ?_ ?_
    · have := ev_ok ht3 (.tmp dn)
      have he : ev (put (put (List.replicate a1.tmps.size .any) (some dy) (.v (.bool false))) (some dn) (.v (.bool true))) (.tmp dn) = .v (.bool true) := by simp [ev, put, hln]
      rw [he] at this
      exact this.v_eq
    · exact wpIn_ret ⟨hd3.trans ((by rw [hyd]; rfl : (a1.put y.dst (.bool false)).defers = a1.defers).trans hdd), .inr ⟨rfl, x, σ2, ρ3, fz3, hh3, hGx x _ _ _ _ _ _ _ _ hg2 hh3 hE3, hK2⟩⟩
end
end Go.Proofs.Va
