/- VA, part 15: the rule for a region that draws its order. -/
import Derived.Test.YtmfnjmcgmogncaaVa14
set_option linter.unusedVariables false
set_option linter.unusedSimpArgs false
namespace Go.Proofs.Va
open Go Go.RowKit

section
variable {P : Program} {σ : AHeap} {ops : Array Oper} {N0 : Nat}

theorem aop_congr_all {t t' : List AV} {op : Op} (h : ∀ x ∈ op.operands.toList, ev t x = ev t' x) (K : AV → AHeap → Prop) : aop P op t σ K ↔ aop P op t' σ K := by
  by_cases hl : light op = true
  · exact aop_congr hl h K
  · have one : ∀ {x : Operand}, x ∈ op.operands.toList → ev t x = ev t' x := fun {x} hx => h x hx
    cases op <;> (try exact absurd rfl hl) <;> (try exact Iff.rfl)
    case box e x => simp only [aop, one (x := x) (by simp [Op.operands])]
    case buildSlice e n ps =>
      have : (ps.toList.map fun p => (p.1, ev t p.2)) = (ps.toList.map fun p => (p.1, ev t' p.2)) := List.map_congr_left fun p hp => by
        rw [one (x := p.2) (by simp [Op.operands]; exact ⟨p.1, by simpa using hp⟩)]
      simp only [aop, this]
    case store e x y => simp only [aop, one (x := x) (by simp [Op.operands]), one (x := y) (by simp [Op.operands])]
    case makeSlice e x y => simp only [aop, one (x := x) (by simp [Op.operands]), one (x := y) (by simp [Op.operands])]
    case call c =>
      have hargs : c.args.toList.map (ev t) = c.args.toList.map (ev t') := map_ev fun x hx => one (by simp [Op.operands, Call.operands]; right; simpa using hx)
      simp only [aop, aCallOp]
      split
      · rw [hargs]
      · rename_i f hf
        have e1 : ev t f = ev t' f := h f (by simp [Op.operands, Call.operands, hf])
        rw [e1, hargs]
      · exact Iff.rfl

/-! ### The operations, by their classes: 0: hangs on no block; 1: reads blocks that were there; 3: leaves those as they are; others: whatever -/
/-- A slice's cells are laid, and not written again. -/
def aBS (P : Program) (e : TypeId) (n : Nat) (parts : List (Nat × AV)) (S : AV → Prop) : Prop :=
  match elT P e with
  | some (_, x) => n * x.sz ≤ 16777216 ∧ (∀ p ∈ parts, Pu p.2) ∧ match afill ((List.range n).map fun k => (k * x.sz, x.sz)) (reps n x.zero) parts with
    | some cs => (∀ c ∈ cs, Pu c) ∧ cs.length = n * x.sz ∧ S (.pl false cs n (some n))
    | none => False
  | none => False

def lop (P : Program) (op : Op) (t : List AV) (σ : AHeap) (S : AV → Prop) : Prop :=
  match op with
  | .buildSlice e n ps => aBS P e n (ps.toList.map fun p => (p.1, ev t p.2)) S
  | op => aop P op t σ fun r _ => S r

def gop (P : Program) (N0 c : Nat) (op : Op) (t : List AV) (σ : AHeap) (S : AV → AHeap → Prop) : Prop :=
  if c = 0 then lop P op t σ fun r => S r σ
  else if c = 1 then (∀ x ∈ op.operands.toList, scA N0 (ev t x)) ∧ aop P op t σ fun r _ => S r σ
  else if c = 3 then aop P op t σ fun r σ' => Same N0 σ σ' ∧ S r σ'
  else aop P op t σ S

def okc (c : Nat) (op : Op) : Bool := if c = 0 then pureOp op else if c = 1 then light op else true

theorem light_of_pure {op : Op} (h : pureOp op = true) : light op = true ∨ ∃ e n ps, op = .buildSlice e n ps := by
  cases op <;> first
    | exact .inl rfl
    | exact .inr ⟨_, _, _, rfl⟩
    | cases h

theorem lop_light {op : Op} (h : light op = true) (t : List AV) (σ : AHeap) (S : AV → Prop) : lop P op t σ S = aop P op t σ fun r _ => S r := by
  cases op <;> first
    | rfl
    | cases h

theorem lop_det {op : Op} (hp : pureOp op = true) {t : List AV} {S : AV → Prop} (h : lop P op t σ S) : ∃ u, S u ∧ ∀ (σ' : AHeap) (S' : AV → Prop), lop P op t σ' S' ↔ S' u := by
  rcases light_of_pure hp with hl | ⟨e, n, ps, rfl⟩
  · rw [lop_light hl] at h
    obtain ⟨u, h1, h2⟩ := det_light hl t _ h
    refine ⟨u, h1, fun σ' S' => ?_⟩
    rw [lop_light hl, ← pure_stable (σ := σ) hp hl]
    exact h2 _
  · simp only [lop, aBS] at h ⊢
    split at h
    · rename_i x hx
      obtain ⟨h1, h2, h3⟩ := h
      split at h3
      · rename_i cs hcs
        obtain ⟨q1, q2, q3⟩ := h3
        exact ⟨_, q3, fun σ' S' => ⟨fun h' => h'.2.2.2.2, fun hS => ⟨h1, h2, q1, q2, hS⟩⟩⟩
      · exact h3.elim
    · exact h.elim

theorem lop_other {op : Op} (h : ∀ e n ps, op ≠ .buildSlice e n ps) (t : List AV) (σ : AHeap) (S : AV → Prop) : lop P op t σ S = aop P op t σ fun r _ => S r := by
  unfold lop
  split
  · exact absurd rfl (h _ _ _)
  · rfl

theorem lop_congr {t t' : List AV} {op : Op} (h : ∀ x ∈ op.operands.toList, ev t x = ev t' x) (S : AV → Prop) : lop P op t σ S ↔ lop P op t' σ S := by
  by_cases hb : ∃ e n ps, op = .buildSlice e n ps
  · obtain ⟨e, n, ps, rfl⟩ := hb
    have : (ps.toList.map fun p => (p.1, ev t p.2)) = (ps.toList.map fun p => (p.1, ev t' p.2)) := List.map_congr_left fun p hp => by
      rw [h p.2 (by simp [Op.operands]; exact ⟨p.1, by simpa using hp⟩)]
    simp only [lop, this]
  · have hb' : ∀ e n ps, op ≠ .buildSlice e n ps := fun e n ps he => hb ⟨e, n, ps, he⟩
    rw [lop_other hb', lop_other hb']
    exact aop_congr_all h _

theorem gop_congr {c : Nat} {t t' : List AV} {op : Op} (h : ∀ x ∈ op.operands.toList, ev t x = ev t' x) (S : AV → AHeap → Prop) : gop P N0 c op t σ S ↔ gop P N0 c op t' σ S := by
  unfold gop
  split
  · exact lop_congr h _
  · split
    · rw [aop_congr_all h]
      exact and_congr_left fun _ => ⟨fun hh x hx => by rw [← h x hx]; exact hh x hx, fun hh x hx => by rw [h x hx]; exact hh x hx⟩
    · split <;> exact aop_congr_all h _

theorem gop_info {c : Nat} {t : List AV} {op : Op} (hc : okc c op = true) {S : AV → AHeap → Prop} (h : gop P N0 c op t σ S) : gop P N0 c op t σ fun r σ' => S r σ' ∧ (c ≤ 1 → σ' = σ) ∧ (c = 3 → Same N0 σ σ') := by
  unfold gop at h ⊢
  split
  · rename_i h0
    rw [if_pos h0] at h
    simp only [okc, if_pos h0] at hc
    obtain ⟨u, h1, h2⟩ := lop_det hc h
    exact (h2 _ _).2 ⟨h1, fun _ => rfl, fun h3 => by omega⟩
  · rename_i h0
    rw [if_neg h0] at h
    split
    · rename_i h1
      rw [if_pos h1] at h
      exact ⟨h.1, aop_mono h.2 fun r σ' hS => ⟨hS, fun _ => rfl, fun h3 => by omega⟩⟩
    · rename_i h1
      rw [if_neg h1] at h
      split
      · rename_i h3
        rw [if_pos h3] at h
        exact aop_mono h fun r σ' hS => ⟨hS.1, hS.2, fun _ => by omega, fun _ => hS.1⟩
      · rename_i h3
        rw [if_neg h3] at h
        exact aop_mono h fun r σ' hS => ⟨hS, fun _ => by omega, fun hh => absurd hh h3⟩

theorem gop_mono {c : Nat} {t : List AV} {op : Op} (hc : okc c op = true) {S S' : AV → AHeap → Prop} (h : gop P N0 c op t σ S) (hk : ∀ r σ', S r σ' → S' r σ') : gop P N0 c op t σ S' := by
  unfold gop at h ⊢
  split
  · rename_i h0
    rw [if_pos h0] at h
    simp only [okc, if_pos h0] at hc
    obtain ⟨u, h1, h2⟩ := lop_det hc h
    exact (h2 _ _).2 (hk _ _ h1)
  · rename_i h0
    rw [if_neg h0] at h
    split
    · rename_i h1
      rw [if_pos h1] at h
      exact ⟨h.1, aop_mono h.2 fun r σ' hS => hk _ _ hS⟩
    · rename_i h1
      rw [if_neg h1] at h
      split
      · rename_i h3
        rw [if_pos h3] at h
        exact aop_mono h fun r σ' hS => ⟨hS.1, hk _ _ hS.2⟩
      · rename_i h3
        rw [if_neg h3] at h
        exact aop_mono h hk

theorem gop_put {c : Nat} {t : List AV} {o : Oper} {d : Option Tmp} {r : AV} (h : ∀ k, d = some k → k ∉ o.looksAt ops) (S : AV → AHeap → Prop) : gop P N0 c o.op (put t d r) σ S ↔ gop P N0 c o.op t σ S :=
  gop_congr (fun x hx => ev_put fun k hk => looks_op hx (h k hk)) S

/-- A class of 0 or 1: its answer. -/
def DetAt (P : Program) (N0 : Nat) (ops : Array Oper) (c : Nat) (σ : AHeap) (t : List AV) (o : Oper) (u : AV) : Prop :=
  ∀ K : AV → AHeap → Prop, guardA ops t o (gop P N0 c o.op t σ K) (K .any σ) ↔ K u σ

theorem gop_det {c : Nat} {t : List AV} {op : Op} (hc : okc c op = true) (h1 : c ≤ 1) {S : AV → AHeap → Prop} (h : gop P N0 c op t σ S) : ∃ u, S u σ ∧ ∀ S' : AV → AHeap → Prop, gop P N0 c op t σ S' ↔ S' u σ := by
  have h01 : c = 0 ∨ c = 1 := by omega
  rcases h01 with rfl | rfl
  · have hc' : pureOp op = true := by simpa [okc] using hc
    have h' : lop P op t σ fun r => S r σ := by simpa [gop] using h
    obtain ⟨u, q1, q2⟩ := lop_det hc' h'
    refine ⟨u, q1, fun S' => ?_⟩
    have : gop P N0 0 op t σ S' = lop P op t σ fun r => S' r σ := by simp [gop]
    rw [this]; exact q2 _ _
  · have hc' : light op = true := by simpa [okc] using hc
    have h' : (∀ x ∈ op.operands.toList, scA N0 (ev t x)) ∧ aop P op t σ fun r _ => S r σ := by simpa [gop] using h
    obtain ⟨u, q1, q2⟩ := det_light hc' t _ h'.2
    refine ⟨u, q1, fun S' => ?_⟩
    have : gop P N0 1 op t σ S' = ((∀ x ∈ op.operands.toList, scA N0 (ev t x)) ∧ aop P op t σ fun r _ => S' r σ) := by simp [gop]
    rw [this]
    exact ⟨fun hh => (q2 fun r _ => S' r σ).1 hh.2, fun hS => ⟨h'.1, (q2 fun r _ => S' r σ).2 hS⟩⟩

theorem light_det {c : Nat} {o : Oper} (hc : okc c o.op = true) (h1 : c ≤ 1) {t : List AV} {K : AV → AHeap → Prop} (h : guardA ops t o (gop P N0 c o.op t σ K) (K .any σ)) : ∃ u, K u σ ∧ DetAt P N0 ops c σ t o u := by
  rcases guard_cases h with ⟨q1, q2⟩ | ⟨q1, q2⟩
  · obtain ⟨r, hr, hi⟩ := gop_det hc h1 q1
    exact ⟨r, hr, fun K' => by rw [q2]; exact hi _⟩
  · exact ⟨.any, q1, fun K' => q2 _ _⟩

theorem guard_congr {t : List AV} {o : Oper} {y y' n n' : Prop} (hy : y ↔ y') (hn : n ↔ n') : guardA ops t o y n ↔ guardA ops t o y' n' := by
  unfold guardA
  split
  · exact hy
  · split
    · split
      · split
        · exact hy
        · exact hn
      · exact Iff.rfl
    · exact Iff.rfl

theorem DetAt.put {c : Nat} {t : List AV} {o : Oper} {u : AV} {d : Option Tmp} {r : AV} (h : ∀ k, d = some k → k ∉ o.looksAt ops) : DetAt P N0 ops c σ (put t d r) o u ↔ DetAt P N0 ops c σ t o u := by
  have e : ∀ K : AV → AHeap → Prop, guardA ops (Va.put t d r) o (gop P N0 c o.op (Va.put t d r) σ K) (K .any σ) ↔ guardA ops t o (gop P N0 c o.op t σ K) (K .any σ) := fun K => by
    rw [guard_put h]; exact guard_congr (gop_put h K) Iff.rfl
  exact ⟨fun hd K => (e K).symm.trans (hd K), fun hd K => (e K).trans (hd K)⟩

theorem gop_stable {c : Nat} {op : Op} (hc : okc c op = true) (h1 : c ≤ 1) {σ' : AHeap} (hs : c = 0 ∨ Same N0 σ σ') {t : List AV} {S : AV → Prop} (h : gop P N0 c op t σ fun r _ => S r) : gop P N0 c op t σ' fun r _ => S r := by
  have h01 : c = 0 ∨ c = 1 := by omega
  rcases h01 with rfl | rfl
  · have hc' : pureOp op = true := by simpa [okc] using hc
    have h' : lop P op t σ S := by simpa [gop] using h
    obtain ⟨u, q1, q2⟩ := lop_det hc' h'
    have : lop P op t σ' S := (q2 _ _).2 q1
    simpa [gop] using this
  · have hc' : light op = true := by simpa [okc] using hc
    have hs : Same N0 σ σ' := hs.resolve_left (by decide)
    have h' : (∀ x ∈ op.operands.toList, scA N0 (ev t x)) ∧ aop P op t σ fun r _ => S r := by simpa [gop] using h
    have : (∀ x ∈ op.operands.toList, scA N0 (ev t x)) ∧ aop P op t σ' fun r _ => S r := ⟨h'.1, (light_stable hc' hs h'.1 S).1 h'.2⟩
    simpa [gop] using this

theorem DetAt.heap {c : Nat} {o : Oper} (hc : okc c o.op = true) (h1 : c ≤ 1) {σ' : AHeap} (hs : c = 0 ∨ Same N0 σ σ') {t : List AV} {u : AV} (h : DetAt P N0 ops c σ t o u) : DetAt P N0 ops c σ' t o u := by
  have hu := (h fun r _ => r = u).2 rfl
  have hu' : guardA ops t o (gop P N0 c o.op t σ' fun r _ => r = u) (AV.any = u) := by
    rcases guard_cases hu with ⟨q1, q2⟩ | ⟨q1, q2⟩
    · rw [q2]; exact gop_stable hc h1 hs q1
    · rw [q2]; exact q1
  obtain ⟨v, hv, hd⟩ := light_det (K := fun r _ => r = u) hc h1 hu'
  have hv : v = u := hv
  rw [hv] at hd; exact hd

/-! ### The order of the text -/
def gstep (P : Program) (N0 : Nat) (ops : Array Oper) (o : Oper) (c : Nat) (K : List AV → AHeap → Prop) (t : List AV) (σ : AHeap) : Prop :=
  guardA ops t o (gop P N0 c o.op t σ fun r σ' => K (put t o.dst r) σ') (K (put t o.dst .any) σ)

def grun (P : Program) (N0 : Nat) (ops : Array Oper) (cl : Nat → Nat) : List Nat → (List AV → AHeap → Prop) → List AV → AHeap → Prop
  | [], K, t, σ => K t σ
  | i :: l, K, t, σ => match ops[i]? with
    | some o => gstep P N0 ops o (cl i) (grun P N0 ops cl l K) t σ
    | none => grun P N0 ops cl l K t σ

/-- The temporaries and the heap are those of some world. -/
def Cx (w0 : World) (σ : AHeap) (t : List AV) : Prop := ∃ ρ fz w a, HRel w0 ρ fz σ w ∧ TRel ρ σ fz w t (Act.tmps a)

theorem wpIn_some {F : Fence} (hF : Wd F) {n : Nat} {o : Oper} {a : Act} {w : World} {next : Act → World → Prop} (h : o.wpIn F n P a w next (fun _ _ _ => False)) : ∃ a' w', next a' w' := by
  obtain ⟨_, h⟩ := h
  cases hr : (o.semAt F.round a.eval).run P w with
  | ok x w' =>
    rw [hr] at h
    cases x <;> simp only [Oper.uponIn] at h <;> first
      | exact ⟨_, _, h⟩
      | exact h.elim
      | skip
    case enter f args =>
      obtain ⟨e, w'', fr, hR, _⟩ := h.2.2 [] (hF.room _)
      cases e with
      | returned v => exact ⟨_, _, hR⟩
      | panicked c => exact hR.elim
      | outgrown => obtain ⟨_, _, hR⟩ := hR; exact hR.elim
    case row row args =>
      obtain ⟨v, w'', hR, _⟩ := h.2 default [] (hF.room _)
      exact ⟨_, _, hR⟩
    case round l f tmps as bd =>
      obtain ⟨e, w'', hR, _⟩ := h.2.2 default [] (hF.room _)
      cases e with
      | returned v => exact ⟨_, _, hR⟩
      | panicked c => exact hR.elim
      | outgrown => obtain ⟨_, _, hR⟩ := hR; exact hR.elim
  | halt x w' =>
    rw [hr] at h
    cases x <;> simp only [Oper.uponIn] at h


/-- A slice's cells, laid and not written again. -/
theorem bs_ok {w0 : World} {ρ : Nat → Nat × Nat} {fz : Nat → Prop} {w : World} (h : HRel w0 ρ fz σ w) {e : TypeId} {len : Nat} {parts : List (Nat × AV)} {vparts : Array (Nat × Value)} (hl : vparts.size = parts.length)
    (hparts : ∀ (j : Nat) (p : Nat × AV) (q : Nat × Value), parts[j]? = some p → vparts[j]? = some q → q.1 = p.1 ∧ R ρ σ fz w p.2 q.2) {S : AV → Prop} (hS : aBS P e len parts S) : SemOK P w0 ρ fz σ w (Instr.buildSlice e len vparts) (fun r σ' => σ' = σ ∧ S r) := by
  unfold aBS at hS
  split at hS
  · rename_i el x hx
    obtain ⟨h1, h2, h3⟩ := hS
    split at h3
    · rename_i cs hcs
      obtain ⟨q1, q2, q3⟩ := h3
      have hh : HRel w (fun _ => (0, 0)) fz [] w := ⟨Below.refl _ _, h.fzlt, fun i b hb => by simp at hb, fun i j bi bj hi => by simp at hi⟩
      have hb : aBuildSlice P e len parts [] (fun r σ' => r = .so 0 0 0 len x.sz (some len) ∧ σ' = [⟨.own, 0, cs⟩]) := by
        simp only [aBuildSlice, hx, hcs]
        exact ⟨h1, rfl, rfl⟩
      obtain ⟨v, w', ρ', fz', r, σ', hrun, ⟨rfl, rfl⟩, hH, hR, hE⟩ := buildSlice_ok hh hl (fun j p q hp hq => by
        obtain ⟨r1, r2⟩ := hparts j p q hp hq
        exact ⟨r1, .pure _ _ (r2.toRp (h2 p (List.mem_of_getElem? hp)))⟩) hb
      have hpur : Pur [⟨.own, 0, cs⟩] (fun _ => True) (.so 0 0 0 len x.sz (some len)) (.pl false cs len (some len)) := by
        refine .so 0 0 0 len x.sz (some len) ⟨.own, 0, cs⟩ cs rfl rfl (fun h => by cases h) trivial (by simp [q2]) q2 fun j hj => ?_
        have e1 : ([⟨.own, 0, cs⟩] : AHeap)[0]?.isSome = true := rfl
        simp only [Nat.zero_add]
        rw [getD_eq hj]
        exact .same _ (q1 _ (List.getElem_mem hj))
      have hval := hpur.ok hH hR
      obtain ⟨hg, hEg⟩ := h.grow (fz' := fzS ρ' [⟨.own, 0, cs⟩] fz' (fun _ => True)) hH.below (fun k hk => .inl (hE.fzm k hk)) (fun k hk => by
        rcases hk with hk | ⟨i, b, _, hb, hd, rfl⟩
        · exact hH.fzlt k hk
        · obtain ⟨c, e, r1, _⟩ := hH.blk i b hb hd
          exact (Array.getElem?_eq_some_iff.1 r1).1) (fun k hk => by
        rcases hk with hk | ⟨i, b, _, hb, hd, rfl⟩
        · exact hE.fzn k hk
        · obtain ⟨c, e, r1, r2, _⟩ := hH.blk i b hb hd
          exact .inr ⟨r2, c, e, _, r1⟩)
      exact ⟨v, w', ρ, _, _, σ, hrun, ⟨rfl, q3⟩, hg, .pure _ _ hval, hEg⟩
    · exact h3.elim
  · exact hS.elim

theorem gop_ok {w0 : World} {ρ : Nat → Nat × Nat} {fz : Nat → Prop} {w : World} {F : Fence} (hF : Wd F) {n c : Nat} (h : HRel w0 ρ fz σ w) {t : List AV} {o : Oper} {a : Act} (hc : okc c o.op = true) (ht : TRel ρ σ fz w t a.tmps) {K : AV → AHeap → Prop} (hK : gop P N0 c o.op t σ K)
    {next : Act → World → Prop} {Q : Exit → Act → World → Prop} (hn : OpNext w0 ρ fz σ w K (fun v w' => next (a.put o.dst v) w')) : o.wpIn F n P a w next Q := by
  have lgt : ∀ {S : AV → AHeap → Prop}, light o.op = true → (aop P o.op t σ fun r _ => S r σ) → OpNext w0 ρ fz σ w S (fun v w' => next (a.put o.dst v) w') → o.wpIn F n P a w next Q := fun {S} hl hS hn => by
    obtain ⟨r, q1, q2⟩ := det_light hl t _ hS
    refine aop_ok hF h ht (K := fun r' σ' => r' = r ∧ σ' = σ) ((q2 _).2 ⟨rfl, rfl⟩) ?_
    rintro v w' ρ' fz' r' σ' ⟨rfl, rfl⟩ hh hR hE
    exact hn v w' ρ' fz' _ _ q1 hh hR hE
  unfold gop at hK
  split at hK
  · rename_i h0
    simp only [okc, if_pos h0] at hc
    rcases light_of_pure hc with hl | ⟨e, k, ps, ho⟩
    · rw [lop_light hl] at hK
      exact lgt hl hK hn
    · rw [ho] at hK
      simp only [lop] at hK
      refine wpIn_of_sem hF (by rw [ho]; simp) (by simp only [execOp, ho]) (bs_ok h (by simp) (parts_ok ht ps) hK) ?_
      rintro v w' ρ' fz' r σ' ⟨rfl, hS⟩ hh hR hE
      exact hn v w' ρ' fz' r _ hS hh hR hE
  · rename_i h0
    split at hK
    · rename_i h1
      simp only [okc, if_neg h0, if_pos h1] at hc
      exact lgt hc hK.2 hn
    · split at hK
      · exact aop_ok hF h ht (aop_mono hK fun r σ' hS => hS.2) hn
      · exact aop_ok hF h ht hK hn

theorem gop_some {w0 : World} {t : List AV} {o : Oper} {c : Nat} (hc : okc c o.op = true) {S : AV → AHeap → Prop} (h : gop P N0 c o.op t σ S) (hx : Cx w0 σ t) : ∃ r σ', S r σ' ∧ Cx w0 σ' (put t o.dst r) ∧ (c ≤ 1 → σ' = σ) ∧ (c = 3 → Same N0 σ σ') ∧ σ.length ≤ σ'.length := by
  obtain ⟨ρ, fz, w, a, hh, ht⟩ := hx
  have hw := gop_ok (F := Fence.wide) wd_wide (n := 0) (o := o) (a := a) (next := fun a' w' => ∃ r σ', S r σ' ∧ Cx w0 σ' (put t o.dst r) ∧ (c ≤ 1 → σ' = σ) ∧ (c = 3 → Same N0 σ σ') ∧ σ.length ≤ σ'.length) (Q := fun _ _ _ => False) hh hc ht (gop_info hc h) (by
    rintro v w' ρ' fz' r σ' ⟨hS, h1, h3⟩ hh' hR hE
    exact ⟨r, σ', hS, ⟨ρ', fz', w', a.put o.dst v, hh', (ht.ev' (n0 := 0) hE).put o.dst hR⟩, h1, h3, hE.len'⟩)
  obtain ⟨_, _, hr⟩ := wpIn_some wd_wide hw
  exact hr

theorem Cx.any {w0 : World} {t : List AV} (hc : Cx w0 σ t) (d : Option Tmp) : Cx w0 σ (put t d .any) := by
  obtain ⟨ρ, fz, w, a, hh, ht⟩ := hc
  exact ⟨ρ, fz, w, a.put d undef, hh, ht.put d (R.top _)⟩

/-- Which classes may change places. -/
def compat (a b : Nat) : Bool := a == 0 || b == 0 || (a == 1 && b == 1) || (a == 1 && b == 3) || (a == 3 && b == 1)

theorem compat_symm {a b : Nat} (h : compat a b = true) : compat b a = true := by
  simp only [compat, Bool.or_eq_true, Bool.and_eq_true, beq_iff_eq] at h ⊢; omega

theorem compat_heap {a b : Nat} (h : compat a b = true) (ha : a ≤ 1) {σ σ' : AHeap} (h1 : b ≤ 1 → σ' = σ) (h3 : b = 3 → Same N0 σ σ') (hl : N0 ≤ σ.length ∨ a = 0) : a = 0 ∨ Same N0 σ σ' := by
  simp only [compat, Bool.or_eq_true, Bool.and_eq_true, beq_iff_eq] at h
  by_cases h0 : a = 0
  · exact .inl h0
  · by_cases hb : b ≤ 1
    · rw [h1 hb]; exact .inr (Same.refl (hl.resolve_right h0))
    · exact .inr (h3 (by omega))

variable {cl : Nat → Nat}

theorem front_value {w0 : World} {i : Nat} {o : Oper} (hi : ops[i]? = some o) (hl : cl i ≤ 1) (hci : okc (cl i) o.op = true) {post : List Nat} {K : List AV → AHeap → Prop} : ∀ (pre : List Nat) (t : List AV) (σ : AHeap),
    (∀ j ∈ pre, ∀ oj, ops[j]? = some oj → oj.apart ops o = true ∧ compat (cl i) (cl j) = true ∧ okc (cl j) oj.op = true) → grun P N0 ops cl (pre ++ i :: post) K t σ → Cx w0 σ t → N0 ≤ σ.length → ∃ u, DetAt P N0 ops (cl i) σ t o u
  | [], t, σ, _, h, _, _ => by
    simp only [List.nil_append, grun, hi] at h
    obtain ⟨u, _, hd⟩ := light_det (K := fun r σ' => grun P N0 ops cl post K (put t o.dst r) σ') hci hl h
    exact ⟨u, hd⟩
  | j :: pre, t, σ, hp, h, hx, hN => by
    simp only [List.cons_append, grun] at h
    have hp' : ∀ k ∈ pre, ∀ ok, ops[k]? = some ok → ok.apart ops o = true ∧ compat (cl i) (cl k) = true ∧ okc (cl k) ok.op = true := fun k hk => hp k (by simp [hk])
    split at h
    · rename_i oj hoj
      obtain ⟨hap, hcm, hcj⟩ := hp j (by simp) oj hoj
      obtain ⟨a1, a2, a3⟩ := Oper.apart_spec hap
      rcases guard_cases h with ⟨h1, _⟩ | ⟨h1, _⟩
      · obtain ⟨r, σ', hr, hx', q1, q3, hle⟩ := gop_some hcj h1 hx
        obtain ⟨u, hu⟩ := front_value hi hl hci pre _ σ' hp' hr hx' (Nat.le_trans hN hle)
        have hs := (compat_heap hcm hl q1 q3 (.inl hN)).imp id Same.symm
        exact ⟨u, ((DetAt.put a1).1 hu).heap hci hl hs⟩
      · obtain ⟨u, hu⟩ := front_value hi hl hci pre _ σ hp' h1 (hx.any _) hN
        exact ⟨u, (DetAt.put a1).1 hu⟩
    · exact front_value hi hl hci pre t σ hp' h hx hN

theorem front_light {i : Nat} {o : Oper} (hi : ops[i]? = some o) (hl : cl i ≤ 1) (hci : okc (cl i) o.op = true) {post : List Nat} {K : List AV → AHeap → Prop} {u : AV} : ∀ (pre : List Nat) (t : List AV) (σ : AHeap),
    (∀ j ∈ pre, ∀ oj, ops[j]? = some oj → oj.apart ops o = true ∧ compat (cl i) (cl j) = true ∧ okc (cl j) oj.op = true) → (N0 ≤ σ.length ∨ cl i = 0) → DetAt P N0 ops (cl i) σ t o u → grun P N0 ops cl (pre ++ i :: post) K t σ → grun P N0 ops cl (pre ++ post) K (put t o.dst u) σ
  | [], t, σ, _, _, hd, h => by
    simp only [List.nil_append, grun, hi] at h
    exact (hd fun u σ' => grun P N0 ops cl post K (put t o.dst u) σ').1 h
  | j :: pre, t, σ, hp, hN, hd, h => by
    simp only [List.cons_append, grun] at h ⊢
    have hp' : ∀ k ∈ pre, ∀ ok, ops[k]? = some ok → ok.apart ops o = true ∧ compat (cl i) (cl k) = true ∧ okc (cl k) ok.op = true := fun k hk => hp k (by simp [hk])
    split at h
    · rename_i oj hoj
      obtain ⟨hap, hcm, hcj⟩ := hp j (by simp) oj hoj
      obtain ⟨a1, a2, a3⟩ := Oper.apart_spec hap
      unfold gstep
      rw [guard_put (fun k hk => a3 k hk)]
      have a2' : ∀ k, o.dst = some k → oj.dst ≠ some k := fun k hk hh => a2 k hh hk
      rcases guard_cases h with ⟨h1, h2⟩ | ⟨h1, h2⟩
      · rw [h2, gop_put (fun k hk => a3 k hk)]
        refine gop_mono hcj (gop_info hcj h1) fun r σ' ⟨hr, q1, q3⟩ => ?_
        rw [put_comm a2']
        have hs := compat_heap hcm hl q1 q3 hN
        exact front_light hi hl hci pre _ σ' hp' (hs.elim .inr fun hs => .inl hs.lo') (((DetAt.put a1).2 hd).heap hci hl hs) hr
      · rw [h2, put_comm a2']
        exact front_light hi hl hci pre _ σ hp' hN ((DetAt.put a1).2 hd) h1
    · exact front_light hi hl hci pre t σ hp' hN hd h

theorem front_call {i : Nat} {o : Oper} (hi : ops[i]? = some o) (hci : okc (cl i) o.op = true) {post : List Nat} {K : List AV → AHeap → Prop} : ∀ (pre : List Nat) (t : List AV) (σ : AHeap),
    (∀ j ∈ pre, ∀ oj, ops[j]? = some oj → cl j ≤ 1 ∧ oj.apart ops o = true ∧ compat (cl i) (cl j) = true ∧ okc (cl j) oj.op = true) → N0 ≤ σ.length → grun P N0 ops cl (pre ++ i :: post) K t σ →
      guardA ops t o (gop P N0 (cl i) o.op t σ fun r σ' => grun P N0 ops cl (pre ++ post) K (put t o.dst r) σ') (grun P N0 ops cl (pre ++ post) K (put t o.dst .any) σ)
  | [], t, σ, _, _, h => by simpa only [List.nil_append, grun, hi, gstep] using h
  | j :: pre, t, σ, hp, hN, h => by
    simp only [List.cons_append, grun] at h ⊢
    have hp' : ∀ k ∈ pre, ∀ ok, ops[k]? = some ok → cl k ≤ 1 ∧ ok.apart ops o = true ∧ compat (cl i) (cl k) = true ∧ okc (cl k) ok.op = true := fun k hk => hp k (by simp [hk])
    split at h
    · rename_i oj hoj
      obtain ⟨hlj, haj, hcm, hcj⟩ := hp j (by simp) oj hoj
      obtain ⟨a1, a2, a3⟩ := Oper.apart_spec haj
      obtain ⟨u, hu, hd⟩ := light_det (K := fun u σ' => grun P N0 ops cl (pre ++ i :: post) K (put t oj.dst u) σ') hcj hlj h
      have ih := front_call hi hci pre _ σ hp' hN hu
      rw [guard_put (fun k hk => a1 k hk)] at ih
      have back : ∀ r σ', (cl j = 0 ∨ Same N0 σ σ') → grun P N0 ops cl (pre ++ post) K (put (put t oj.dst u) o.dst r) σ' → gstep P N0 ops oj (cl j) (grun P N0 ops cl (pre ++ post) K) (put t o.dst r) σ' := fun r σ' hs hr => by
        refine (((DetAt.put (r := r) (fun k hk => a3 k hk)).2 (hd.heap hcj hlj hs)) fun u σ' => grun P N0 ops cl (pre ++ post) K (put (put t o.dst r) oj.dst u) σ').2 ?_
        rwa [put_comm (fun k hk hh => a2 k hh hk)]
      rcases guard_cases ih with ⟨h1, h2⟩ | ⟨h1, h2⟩
      · rw [h2]
        rw [gop_put (fun k hk => a1 k hk)] at h1
        exact gop_mono hci (gop_info hci h1) fun r σ' ⟨hr, q1, q3⟩ => back r σ' (compat_heap (compat_symm hcm) hlj q1 q3 (.inl hN)) hr
      · rw [h2]; exact back _ _ (.inr (Same.refl hN)) h1
    · exact front_call hi hci pre t σ hp' hN h

/-! ### Who comes ahead of whom -/
def edgesOf (o : Oper) : List Nat := (o.after.toList.filter (Region.binds .any)).map (·.on)

inductive Anc (ops : Array Oper) : Nat → Nat → Prop
  | edge {j i : Nat} {o : Oper} : ops[i]? = some o → j ∈ edgesOf o → Anc ops j i
  | more {j k i : Nat} {o : Oper} : ops[i]? = some o → k ∈ edgesOf o → Anc ops j k → Anc ops j i

def ancTab (ops : List Oper) : List (List Nat) := ops.foldl (fun tab o => tab ++ [(edgesOf o).flatMap fun e => e :: tab.getD e []]) []

theorem ancTab_ok (l : List Oper) : ∀ (pre : List Oper) (tab : List (List Nat)), ops.toList = pre ++ l → tab.length = pre.length → (∀ i, ∀ j ∈ tab.getD i [], Anc ops j i) →
    ∀ i, ∀ j ∈ (l.foldl (fun tab o => tab ++ [(edgesOf o).flatMap fun e => e :: tab.getD e []]) tab).getD i [], Anc ops j i := by
  induction l with
  | nil => intro pre tab _ _ h; exact h
  | cons o l ih =>
    intro pre tab hp hl h
    refine ih (pre ++ [o]) _ (by simp [hp]) (by simp [hl]) ?_
    intro i j hj
    by_cases hi : i < tab.length
    · refine h i j ?_
      simpa [List.getElem?_append_left hi] using hj
    · by_cases he : i = tab.length
      · subst he
        have ho : ops[tab.length]? = some o := by
          rw [← Array.getElem?_toList, hp, hl]; simp
        simp only [List.getD_eq_getElem?_getD, List.getElem?_concat_length, Option.getD_some, List.mem_flatMap, List.mem_cons] at hj
        obtain ⟨e, he, hj⟩ := hj
        rcases hj with rfl | hj
        · exact .edge ho he
        · exact .more ho he (h e j (by simpa using hj))
      · have : (tab ++ [(edgesOf o).flatMap fun e => e :: tab.getD e []]).length ≤ i := by simp; omega
        rw [List.getD_eq_getElem?_getD, List.getElem?_eq_none this] at hj
        cases hj

def Closed (ops : Array Oper) (listed : Array Bool) : Prop := ∀ i o, ops[i]? = some o → listed.getD i false = true → ∀ e ∈ edgesOf o, listed.getD e false = true

theorem Anc.listed {listed : Array Bool} (hc : Closed ops listed) {j i : Nat} (h : Anc ops j i) : listed.getD i false = true → listed.getD j false = true := by
  induction h with
  | edge ho he => exact fun hi => hc _ _ ho hi _ he
  | more ho he _ ih => exact fun hi => ih (hc _ _ ho hi _ he)

theorem Anc.ready {listed : Array Bool} (hc : Closed ops listed) {j i : Nat} (h : Anc ops j i) (hr : i ∈ Region.ready .any ops listed) : listed.getD j false = true := by
  obtain ⟨_, o, ho, hall⟩ := mem_ready.1 hr
  have hall' : ∀ e ∈ edgesOf o, listed.getD e false = true := by
    intro e he
    obtain ⟨d, hd, rfl⟩ := List.mem_map.1 he
    obtain ⟨h1, h2⟩ := List.mem_filter.1 hd
    exact hall d (Array.mem_toList_iff.1 h1) h2
  cases h with
  | edge ho' he => rw [ho] at ho'; cases ho'; exact hall' _ he
  | more ho' he h => rw [ho] at ho'; cases ho'; exact h.listed hc (hall' _ he)

theorem Closed.set {listed : Array Bool} (hc : Closed ops listed) {i : Nat} (hr : i ∈ Region.ready .any ops listed) : Closed ops (listed.setIfInBounds i true) := by
  intro k o ho hk e he
  by_cases hki : i = k
  · subst hki
    exact getD_set_true ((Anc.edge ho he).ready hc hr)
  · rw [getD_set_ne false hki] at hk
    exact getD_set_true (hc k o ho hk e he)

/-- Each operation waits for those ahead of it, or could as well go first. -/
def okDraw (cs : List Nat) (ops : Array Oper) : Bool :=
  let tab := ancTab ops.toList
  (List.range ops.size).all fun i => match ops[i]? with
    | none => false
    | some o => okc (cs.getD i 4) o.op && (edgesOf o).all (· < i) && (List.range i).all fun j => (tab.getD i []).contains j || match ops[j]? with
      | none => false
      | some oj => compat (cs.getD i 4) (cs.getD j 4) && oj.apart ops o

structure OkDraw (cl : Nat → Nat) (ops : Array Oper) : Prop where
  back : ∀ i o, ops[i]? = some o → ∀ e ∈ edgesOf o, e < i
  okc : ∀ i o, ops[i]? = some o → okc (cl i) o.op = true
  pair : ∀ (i : Nat) (o : Oper) (j : Nat) (oj : Oper), ops[i]? = some o → j < i → ops[j]? = some oj → Anc ops j i ∨ (compat (cl i) (cl j) = true ∧ oj.apart ops o = true)

theorem okDraw_ok {cs : List Nat} (h : okDraw cs ops = true) : OkDraw (fun i => cs.getD i 4) ops := by
  have hall := List.all_eq_true.1 h
  have tabok : ∀ i, ∀ j ∈ (ancTab ops.toList).getD i [], Anc ops j i := ancTab_ok ops.toList [] [] (by simp) rfl (by simp)
  have get : ∀ i o, ops[i]? = some o → _ := fun i o ho => by
    have hi := hall i (List.mem_range.2 (Array.getElem?_eq_some_iff.1 ho).1)
    simp only [ho, Bool.and_eq_true] at hi
    exact hi
  constructor
  · intro i o ho e he
    simpa using List.all_eq_true.1 (get i o ho).1.2 e he
  · intro i o ho
    exact (get i o ho).1.1
  · intro i o j oj ho hj hoj
    have h2 := List.all_eq_true.1 (get i o ho).2 j (List.mem_range.2 hj)
    simp only [hoj, Bool.or_eq_true, Bool.and_eq_true] at h2
    rcases h2 with h2 | h2
    · exact .inl (tabok i j (by simpa using h2))
    · exact .inr h2

/-! ### The steps -/
section
variable {w0 : World} {nb n0 : Nat} {F : Fence} {n : Nat}

theorem opIn_ok (hF : Wd F) {i : Nat} {o : Oper} (hi : ops[i]? = some o) {c : Nat} (hc : okc c o.op = true) {Nx : AState → Prop} {Q' : Exit → Act → World → Prop} {K : Act → World → Prop} {s : AState} {ρ : Nat → Nat × Nat} {fz : Nat → Prop} {a : Act} {w : World}
    (h : guardA ops s.t o (gop P N0 c o.op s.t s.σ fun r σ' => Nx ⟨put s.t o.dst r, σ'⟩) (Nx ⟨put s.t o.dst .any, s.σ⟩)) (hs : SRel w0 nb ρ fz s a w) (hn : n0 ≤ s.σ.length)
    (hq : ∀ s' ρ' fz' a' w', Nx s' → s.σ.length ≤ s'.σ.length → SRel w0 nb ρ' fz' s' a' w' → Ev w0 n0 ρ s.σ fz w ρ' s'.σ fz' w' → K a' w') : wpOpIn F n P ops Q' i K a w := by
  simp only [wpOpIn, hi]
  rcases guardA_ok hs.t h with ⟨hw, h⟩ | ⟨hw, h⟩
  · rw [if_pos hw]
    refine gop_ok hF hs.h hc hs.t h ?_
    intro v w' ρ' fz' r σ' hK hh hR hE
    refine hq ⟨put s.t o.dst r, σ'⟩ ρ' fz' _ w' hK hE.len' ⟨hh, (hs.t.ev' (n0 := n0) hE).put o.dst hR, ?_⟩ (hE.lower hn)
    have : (a.put o.dst v).defers = a.defers := by cases o.dst <;> rfl
    rw [this]; exact hs.m.ev hE
  · rw [if_neg (by simp [hw])]
    refine ⟨fun f _ => hF.1 f, hq ⟨put s.t o.dst .any, s.σ⟩ ρ fz _ w h (Nat.le_refl _) ⟨hs.h, hs.t.put o.dst (R.top _), ?_⟩ (Ev.refl _ _ _ _ hn)⟩
    have : (a.put o.dst undef).defers = a.defers := by cases o.dst <;> rfl
    rw [this]; exact hs.m

theorem ready_head (hd : OkDraw cl ops) {listed : Array Bool} {i : Nat} (hlt : i < ops.size) (hun : listed.getD i true = false) (hl : ∀ j, j < i → listed.getD j false = true) : i ∈ Region.ready .any ops listed := by
  obtain ⟨o, ho⟩ : ∃ o, ops[i]? = some o := ⟨_, Array.getElem?_eq_getElem hlt⟩
  refine mem_ready.2 ⟨hun, o, ho, fun e he hb => ?_⟩
  exact hl _ (hd.back i o ho e.on (List.mem_map.2 ⟨e, List.mem_filter.2 ⟨Array.mem_toList_iff.2 he, hb⟩, rfl⟩))

theorem getD_two {listed : Array Bool} {i : Nat} (h : i < listed.size) (d d' : Bool) : listed.getD i d = listed.getD i d' := by simp [h]

theorem ready_lt {listed : Array Bool} {i : Nat} (hr : i ∈ Region.ready .any ops listed) : i < ops.size := by
  obtain ⟨_, o, ho, _⟩ := mem_ready.1 hr
  exact (Array.getElem?_eq_some_iff.1 ho).1

theorem any_ok (hF : Wd F) (hd : OkDraw cl ops) {Q : AState → Prop} {Q' : Exit → Act → World → Prop} : ∀ (fuel : Nat) (L : List Nat) (listed : Array Bool) (s : AState) (ρ : Nat → Nat × Nat) (fz : Nat → Prop) (a : Act) (w : World),
    L.length ≤ fuel → listed.size = ops.size → Closed ops listed → L.Pairwise (· < ·) → (∀ i ∈ L, i < ops.size) → (∀ i, i < ops.size → (i ∈ L ↔ listed.getD i true = false)) → N0 ≤ s.σ.length →
    grun P N0 ops cl L (fun t σ => Q ⟨t, σ⟩) s.t s.σ → SRel w0 nb ρ fz s a w → n0 ≤ s.σ.length →
    (∀ s' ρ' fz' a' w', Q s' → SRel w0 nb ρ' fz' s' a' w' → Ev w0 n0 ρ s.σ fz w ρ' s'.σ fz' w' → Q' .normal a' w') → wpAnyIn F n P .any ops Q' fuel listed a w := by
  intro fuel
  have fin : ∀ (L : List Nat) (listed : Array Bool) (s : AState) (ρ : Nat → Nat × Nat) (fz : Nat → Prop) (a : Act) (w : World), L = [] → listed.size = ops.size → (∀ i, i < ops.size → (i ∈ L ↔ listed.getD i true = false)) →
      grun P N0 ops cl L (fun t σ => Q ⟨t, σ⟩) s.t s.σ → SRel w0 nb ρ fz s a w → n0 ≤ s.σ.length →
      (∀ s' ρ' fz' a' w', Q s' → SRel w0 nb ρ' fz' s' a' w' → Ev w0 n0 ρ s.σ fz w ρ' s'.σ fz' w' → Q' .normal a' w') → Region.ready .any ops listed = [] ∧ Q' .normal a w := by
    intro L listed s ρ fz a w hL hz hin h hs hn hq
    subst hL
    refine ⟨?_, hq s ρ fz a w h hs (Ev.refl _ _ _ _ hn)⟩
    rw [List.eq_nil_iff_forall_not_mem]
    intro i hi
    exact List.not_mem_nil ((hin i (ready_lt hi)).2 (mem_ready.1 hi).1)
  induction fuel with
  | zero =>
    intro L listed s ρ fz a w hf hz hc hp hm hin hN h hs hn hq
    exact fin L listed s ρ fz a w (List.length_eq_zero_iff.1 (by omega)) hz hin h hs hn hq
  | succ fuel ih =>
    intro L listed s ρ fz a w hf hz hc hp hm hin hN h hs hn hq
    cases hL : L with
    | nil =>
      obtain ⟨h1, h2⟩ := fin L listed s ρ fz a w hL hz hin h hs hn hq
      exact ⟨fun _ => h2, fun i hi => (by rw [h1] at hi; cases hi)⟩
    | cons i0 L0 =>
      have hi0 : i0 ∈ L := by simp [hL]
      have hlisted : ∀ j, j < ops.size → j ∉ L → listed.getD j false = true := fun j hj hnot => by
        rw [getD_two (by omega) false true]
        have := fun h0 => hnot ((hin j hj).2 h0)
        simpa using this
      have hr0 : i0 ∈ Region.ready .any ops listed := ready_head hd (hm i0 hi0) ((hin i0 (hm i0 hi0)).1 hi0) fun j hj => by
        refine hlisted j (by have := hm i0 hi0; omega) fun hj' => ?_
        rw [hL] at hj' hp
        rcases List.mem_cons.1 hj' with h1 | h1
        · omega
        · have := (List.pairwise_cons.1 hp).1 j h1; omega
      refine ⟨fun h0 => (by rw [h0] at hr0; cases hr0), fun i hi => ?_⟩
      have hilt := ready_lt hi
      obtain ⟨hun, o, ho, _⟩ := mem_ready.1 hi
      have hiL := (hin i hilt).2 hun
      obtain ⟨pre, post, hsp⟩ := List.append_of_mem hiL
      have hp' := hp
      rw [hsp] at hp' h
      have hpre : ∀ j ∈ pre, j < i := fun j hj => (List.pairwise_append.1 hp').2.2 j hj i (by simp)
      have hpost : ∀ j ∈ post, i < j := fun j hj => (List.pairwise_cons.1 (List.pairwise_append.1 hp').2.1).1 j hj
      have hpair : ∀ j ∈ pre, ∀ oj, ops[j]? = some oj → oj.apart ops o = true ∧ compat (cl i) (cl j) = true ∧ okc (cl j) oj.op = true := by
        intro j hj oj hoj
        rcases hd.pair i o j oj ho (hpre j hj) hoj with h2 | h2
        · have := h2.ready hc hi
          have hjL : j ∈ L := by rw [hsp]; simp [hj]
          rw [getD_two (by have := hm j hjL; omega) false true, (hin j (hm j hjL)).1 hjL] at this
          cases this
        · exact ⟨h2.2, h2.1, hd.okc j oj hoj⟩
      have hg : guardA ops s.t o (gop P N0 (cl i) o.op s.t s.σ fun r σ' => grun P N0 ops cl (pre ++ post) (fun t σ => Q ⟨t, σ⟩) (put s.t o.dst r) σ') (grun P N0 ops cl (pre ++ post) (fun t σ => Q ⟨t, σ⟩) (put s.t o.dst .any) s.σ) := by
        by_cases hl : cl i ≤ 1
        · obtain ⟨u, hu'⟩ := front_value ho hl (hd.okc i o ho) pre s.t s.σ hpair h ⟨ρ, fz, w, a, hs.h, hs.t⟩ hN
          exact (hu' fun r σ' => grun P N0 ops cl (pre ++ post) (fun t σ => Q ⟨t, σ⟩) (put s.t o.dst r) σ').2 (front_light ho hl (hd.okc i o ho) pre s.t s.σ hpair (.inl hN) hu' h)
        · refine front_call ho (hd.okc i o ho) pre s.t s.σ (fun j hj oj hoj => ?_) hN h
          obtain ⟨q1, q2, q3⟩ := hpair j hj oj hoj
          refine ⟨?_, q1, q2, q3⟩
          simp only [compat, Bool.or_eq_true, Bool.and_eq_true, beq_iff_eq] at q2
          omega
      refine opIn_ok hF ho (hd.okc i o ho) (Nx := fun s' => grun P N0 ops cl (pre ++ post) (fun t σ => Q ⟨t, σ⟩) s'.t s'.σ) hg hs hn ?_
      intro s' ρ' fz' a' w' hNx hle hs' hE
      have hsub : ∀ j, j ∈ pre ++ post ↔ j ∈ L ∧ j ≠ i := by
        intro j
        rw [hsp]
        simp only [List.mem_append, List.mem_cons]
        constructor
        · rintro (h1 | h1)
          · exact ⟨.inl h1, by have := hpre j h1; omega⟩
          · exact ⟨.inr (.inr h1), by have := hpost j h1; omega⟩
        · rintro ⟨h1 | h1 | h1, h2⟩
          · exact .inl h1
          · exact absurd h1 h2
          · exact .inr h1
      refine ih (pre ++ post) _ s' ρ' fz' a' w' ?_ (by simpa using hz) (hc.set hi) ?_ ?_ ?_ (Nat.le_trans hN hle) hNx hs' hE.len' ?_
      · have : L.length = pre.length + post.length + 1 := by rw [hsp]; simp; omega
        simp only [List.length_append]; omega
      · exact List.Pairwise.sublist (List.Sublist.append (List.Sublist.refl _) (List.sublist_cons_self _ _)) hp'
      · exact fun j hj => hm j ((hsub j).1 hj).1
      · intro j hj
        rw [hsub]
        by_cases hji : i = j
        · subst hji; simp [hz, hilt]
        · rw [getD_set_ne true hji, ← hin j hj]
          exact ⟨fun hh => hh.1, fun hh => ⟨hh, fun h2 => hji h2.symm⟩⟩
      · intro s2 ρ2 fz2 a2 w2 hQ hS hE2
        exact hq s2 ρ2 fz2 a2 w2 hQ hS (hE.trans hE2)
end

/-- In the order of the text; beside each operation its class. -/
def gops (P : Program) (N0 : Nat) (ops : Array Oper) : List Oper → List Nat → (List AV → AHeap → Prop) → List AV → AHeap → Prop
  | [], _, K, t, σ => K t σ
  | o :: l, cs, K, t, σ => gstep P N0 ops o (cs.headD 4) (gops P N0 ops l cs.tail K) t σ

theorem gops_run {cs : List Nat} {K : List AV → AHeap → Prop} (hok : ∀ i o, ops[i]? = some o → okc (cs.getD i 4) o.op = true) (l : List Oper) : ∀ (k : Nat) (t : List AV) (σ : AHeap), (∀ i o, l[i]? = some o → ops[k + i]? = some o) → gops P N0 ops l (cs.drop k) K t σ →
    grun P N0 ops (fun i => cs.getD i 4) ((List.range l.length).map (k + ·)) K t σ := by
  induction l with
  | nil => intro k t σ _ h; exact h
  | cons o l ih =>
    intro k t σ hat h
    have h0 : ops[k + 0]? = some o := hat 0 o (by simp)
    rw [List.length_cons, List.range_succ_eq_map, List.map_cons]
    simp only [grun, h0]
    simp only [gops] at h
    have hhd : (cs.drop k).headD 4 = cs.getD (k + 0) 4 := by
      simp [List.headD_eq_head?_getD, List.head?_drop]
    have htl : (cs.drop k).tail = cs.drop (k + 1) := by simp
    rw [hhd, htl] at h
    have hl : ∀ t σ, gops P N0 ops l (cs.drop (k + 1)) K t σ → grun P N0 ops (fun i => cs.getD i 4) ((List.map Nat.succ (List.range l.length)).map (k + ·)) K t σ := by
      intro t σ ht
      have := ih (k + 1) t σ (fun i o hi => by have := hat (i + 1) o (by simpa using hi); rwa [show k + 1 + i = k + (i + 1) by omega]) ht
      rw [List.map_map]
      have e : ((k + ·) ∘ Nat.succ : Nat → Nat) = (k + 1 + ·) := by funext x; simp; omega
      rw [e]; exact this
    unfold gstep at h ⊢
    rcases guard_cases h with ⟨h1, h2⟩ | ⟨h1, h2⟩
    · rw [h2]; exact gop_mono (hok _ _ h0) h1 fun r σ' hr => hl _ _ hr
    · rw [h2]; exact hl _ _ h1

theorem draw_rule {n0 : Nat} {top : Bool} {id : Nat} {Q : Exit → AState → Prop} {s : AState} (cs : List Nat) (hP : P.follows .mixedOrders = true) (hd : okDraw cs ops = true)
    (h : gops P s.σ.length ops ops.toList cs (fun t σ => Q .normal ⟨t, σ⟩) s.t s.σ) : AW P n0 top (.region id ops true) Q s := by
  intro F n hF ht w0 nb ρ fz a w hs hn _ _
  refine wpIn_region_any hP ?_
  have hdd := okDraw_ok hd
  have hrun := gops_run (cs := cs) hdd.okc ops.toList 0 s.t s.σ (fun i o hi => by simpa using hi) h
  have e : (List.range ops.toList.length).map (0 + ·) = List.range ops.size := by simp
  rw [e] at hrun
  obtain ⟨hh, hE⟩ := hs.h.drew
  refine any_ok hF hdd (Q := Q .normal) ops.size (List.range ops.size) _ s ρ fz a w.drew (by simp) (by simp) ?_ List.pairwise_lt_range (by simp) ?_ (Nat.le_refl _) hrun ⟨hh, hs.t.ev' (n0 := n0) hE, hs.m.ev hE⟩ hn ?_
  · intro i o ho hl
    have hlt := (Array.getElem?_eq_some_iff.1 ho).1
    simp [hlt] at hl
  · intro i hi
    simp [hi]
  · intro s' ρ' fz' a' w' hQ hS hE2
    exact ⟨s', ρ', fz', hQ, hS, (hE.lower hn).trans hE2⟩
end
end Go.Proofs.Va
