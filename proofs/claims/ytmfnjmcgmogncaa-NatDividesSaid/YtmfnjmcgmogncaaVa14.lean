/- VA, part 14: operations of a region that draws its order: what they hang on. -/
import Derived.Test.YtmfnjmcgmogncaaVa13
set_option linter.unusedVariables false
set_option linter.unusedSimpArgs false
namespace Go.Proofs.Va
open Go Go.RowKit

section
variable {P : Program} {σ : AHeap} {ops : Array Oper}

/-! ### More is asked, more is known -/
theorem load_mono {t : TypeId} {x : AV} {K K' : AV → AHeap → Prop} (h : aLoad P t x σ K) (hk : ∀ r, K r σ → K' r σ) : aLoad P t x σ K' := by
  obtain ⟨r, h1, h2⟩ := det_load t x K h
  exact (h2 _).2 (hk _ h1)

theorem builtin_mono {b : Builtin} {ts : Array TypeId} {args : List AV} {K K' : AV → AHeap → Prop} (h : aBuiltin P b ts args σ K) (hk : ∀ r σ', K r σ' → K' r σ') : aBuiltin P b ts args σ K' := by
  unfold aBuiltin at h ⊢
  split at h
  · unfold aLen at h ⊢
    split at h <;> first
      | exact hk _ _ h
      | exact h.elim
      | (split at h
         · exact ⟨h.1, h.2.1, hk _ _ h.2.2⟩
         · exact h.elim)
  · unfold aCap at h ⊢
    split at h <;> first
      | exact hk _ _ h
      | exact h.elim
      | (split at h
         · exact ⟨h.1, h.2.1, hk _ _ h.2.2⟩
         · exact h.elim)
  · refine ite_and.2 ⟨fun hi => ?_, fun hi => ?_⟩
    · have h := (ite_and.1 h).1 hi
      unfold aAppZ at h ⊢
      split at h
      · split at h
        · obtain ⟨h1, h2, h3, h4, h5, h6⟩ := h
          exact ⟨h1, h2, h3, h4, h5, fun c' hc => hk _ _ (h6 c' hc)⟩
        · exact h.elim
      · exact h.elim
    have h := (ite_and.1 h).2 hi
    unfold aAppend at h ⊢
    split at h
    · split at h
      · obtain ⟨h0, h⟩ := h
        refine ⟨h0, ?_⟩
        split at h
        · obtain ⟨h1, h2, h3⟩ := h
          obtain ⟨h3, h4⟩ := ite_and.1 h3
          exact ⟨h1, h2, ite_and.2 ⟨fun hc => ⟨(h3 hc).1, hk _ _ (h3 hc).2⟩, fun hc => hk _ _ (h4 hc)⟩⟩
        · split at h
          · obtain ⟨h1, h2, h3, h4, h5, h⟩ := h
            refine ⟨h1, h2, h3, h4, h5, ?_⟩
            split at h
            · exact ⟨h.1, hk _ _ h.2⟩
            · obtain ⟨h3, h4⟩ := ite_and.1 h
              exact ite_and.2 ⟨fun hc => ⟨(h3 hc).1, hk _ _ (h3 hc).2⟩, fun hc c hcc => hk _ _ (h4 hc c hcc)⟩
          · exact h.elim
        · exact h.elim
      · exact h.elim
    · exact h.elim
  · unfold aCopy at h ⊢
    split at h
    · split at h
      · split at h
        · split at h
          · obtain ⟨h1, h2, h3, h4, h⟩ := h
            exact ⟨h1, h2, h3, h4, hk _ _ h⟩
          · exact h.elim
        · exact ⟨h.1, hk _ _ h.2⟩
        · exact h.elim
      · exact h.elim
    · exact h.elim
  · unfold aMax at h ⊢
    split at h
    · exact hk _ _ h
    · exact h.elim
  · unfold aMin at h ⊢
    split at h
    · exact hk _ _ h
    · exact h.elim
  · exact h.elim

theorem aop_mono {t : List AV} {op : Op} {K K' : AV → AHeap → Prop} (h : aop P op t σ K) (hk : ∀ r σ', K r σ' → K' r σ') : aop P op t σ K' := by
  by_cases hl : light op = true
  · obtain ⟨r, h1, h2⟩ := det_light hl t K h
    exact (h2 _).2 (hk _ _ h1)
  · cases op <;> (try exact absurd rfl hl) <;> simp only [aop] at h ⊢ <;> (try exact h.elim)
    case alloc e =>
      unfold aAlloc at h ⊢
      split at h
      · exact hk _ _ h
      · exact h.elim
    case box e x =>
      unfold aBox at h ⊢
      split at h
      · exact hk _ _ h
      · exact h.elim
    case buildSlice e n ps =>
      unfold aBuildSlice at h ⊢
      split at h
      · refine ⟨h.1, ?_⟩
        have h := h.2
        split at h
        · exact hk _ _ h
        · exact h.elim
      · exact h.elim
    case store e x y =>
      unfold aStore at h ⊢
      split at h
      · split at h
        · obtain ⟨h1, h2, h⟩ := h
          refine ⟨h1, h2, ?_⟩
          split at h
          · exact ⟨h.1, h.2.1, hk _ _ h.2.2⟩
          · exact h.elim
        · exact h.elim
      · exact h.elim
    case makeSlice e x y =>
      unfold aMakeSlice at h ⊢
      split at h
      · split at h
        · exact ⟨h.1, hk _ _ h.2⟩
        · exact h.elim
      · exact h.elim
    case call c =>
      unfold aCallOp at h ⊢
      split at h
      · exact builtin_mono h hk
      · split at h
        · exact h.mono hk
        · intro F n w0 ρ fz w vs hF hh hr
          obtain ⟨fn, tmps, assign, body, hy, hround⟩ := h F n w0 ρ fz w vs hF hh hr
          exact ⟨fn, tmps, assign, body, hy, hround.mono fun e w' ⟨v, r, σ', ρ', fz', he, hK, hx⟩ => ⟨v, r, σ', ρ', fz', he, hk _ _ hK, hx⟩⟩
        · exact h.elim
      · exact h.elim

/-! ### What hangs on which temporaries -/
theorem ev_put {t : List AV} {d : Option Tmp} {r : AV} {x : Operand} (h : ∀ k, d = some k → x ≠ .tmp k) : ev (put t d r) x = ev t x := by
  cases d with
  | none => rfl
  | some k =>
    cases x with
    | tmp i =>
      have : k ≠ i := fun hh => h k rfl (by rw [hh])
      simp [ev, put, List.getElem?_set_ne this]
    | _ => rfl

theorem map_ev {t t' : List AV} {xs : Array Operand} (h : ∀ x ∈ xs.toList, ev t x = ev t' x) : xs.toList.map (ev t) = xs.toList.map (ev t') := List.map_congr_left h

theorem aop_congr {t t' : List AV} {op : Op} (hl : light op = true) (h : ∀ x ∈ op.operands.toList, ev t x = ev t' x) (K : AV → AHeap → Prop) : aop P op t σ K ↔ aop P op t' σ K := by
  have one : ∀ {x : Operand}, x ∈ op.operands.toList → ev t x = ev t' x := fun {x} hx => h x hx
  have opt : ∀ (x : Option Operand), (∀ y, x = some y → y ∈ op.operands.toList) → x.map (ev t) = x.map (ev t') := fun x hx => by
    cases x with
    | none => rfl
    | some y => simp [one (hx y rfl)]
  cases op <;> simp only [light] at hl <;> (try cases hl)
  case move x => simp only [aop, one (x := x) (by simp [Op.operands])]
  case assign x => simp only [aop, one (x := x) (by simp [Op.operands])]
  case pick c x y => simp only [aop, one (x := c) (by simp [Op.operands]), one (x := x) (by simp [Op.operands]), one (x := y) (by simp [Op.operands])]
  case build e ps =>
    have : (ps.toList.map fun p => (p.1, ev t p.2)) = (ps.toList.map fun p => (p.1, ev t' p.2)) := List.map_congr_left fun p hp => by
      rw [one (x := p.2) (by simp [Op.operands]; exact ⟨p.1, by simpa using hp⟩)]
    simp only [aop, this]
  case load e x => simp only [aop, one (x := x) (by simp [Op.operands])]
  case nilCheck x => simp only [aop, one (x := x) (by simp [Op.operands])]
  case binOp o e x y e' => simp only [aop, one (x := x) (by simp [Op.operands]), one (x := y) (by simp [Op.operands])]
  case unOp o e x => simp only [aop, one (x := x) (by simp [Op.operands])]
  case convert s d x => simp only [aop, one (x := x) (by simp [Op.operands])]
  case makeInterface e x => simp only [aop, one (x := x) (by simp [Op.operands])]
  case makeFunc f first caps =>
    simp only [aop, map_ev (xs := first) (fun x hx => one (by simp [Op.operands]; exact .inl (by simpa using hx))), map_ev (xs := caps) (fun x hx => one (by simp [Op.operands]; exact .inr (by simpa using hx)))]
  case slice e x lo hi mx =>
    simp only [aop, one (x := x) (by simp [Op.operands]), opt lo (fun y hy => by simp [Op.operands, hy]), opt hi (fun y hy => by simp [Op.operands, hy]), opt mx (fun y hy => by simp [Op.operands, hy])]
  case fieldAddr s x f => simp only [aop, one (x := x) (by simp [Op.operands])]
  case field s x f => simp only [aop, one (x := x) (by simp [Op.operands])]
  case indexAddr e x y => simp only [aop, one (x := x) (by simp [Op.operands]), one (x := y) (by simp [Op.operands])]
  case index e x y => simp only [aop, one (x := x) (by simp [Op.operands]), one (x := y) (by simp [Op.operands])]
  case extract x i => simp only [aop, one (x := x) (by simp [Op.operands])]
  case call c =>
    have hargs : c.args.toList.map (ev t) = c.args.toList.map (ev t') := map_ev fun x hx => one (by simp [Op.operands, Call.operands]; right; simpa using hx)
    split at hl
    · rename_i b hb; simp only [aop, aCallOp, hb, hargs]
    · cases hl

theorem looks_op {o : Oper} {x : Operand} (hx : x ∈ o.op.operands.toList) {d : Tmp} (h : d ∉ o.looksAt ops) : x ≠ .tmp d := by
  rintro rfl
  exact h (List.mem_append_left _ (List.mem_filterMap.2 ⟨.tmp d, hx, rfl⟩))

theorem guard_put {t : List AV} {o : Oper} {d : Option Tmp} {r : AV} (h : ∀ k, d = some k → k ∉ o.looksAt ops) (yes no : Prop) : guardA ops (put t d r) o yes no ↔ guardA ops t o yes no := by
  cases d with
  | none => exact Iff.rfl
  | some k =>
    cases hg : o.guard with
    | none => simp only [guardA, hg]
    | some g =>
      obtain ⟨j, want⟩ := g
      cases hd : (ops[j]?).bind (·.dst) with
      | none => simp only [guardA, hg, hd]
      | some d =>
        have hne : k ≠ d := fun hh => h k rfl (List.mem_append_right _ (by simp [hg, hd, hh]))
        have e : (put t (some k) r)[d]? = t[d]? := by simp only [put, List.getElem?_set_ne hne]
        simp only [guardA, hg, hd, e]

theorem guard_cases {t : List AV} {o : Oper} {yes no : Prop} (h : guardA ops t o yes no) :
    (yes ∧ ∀ y n : Prop, guardA ops t o y n ↔ y) ∨ (no ∧ ∀ y n : Prop, guardA ops t o y n ↔ n) := by
  unfold guardA at h ⊢
  split at h
  · exact .inl ⟨h, fun y n => Iff.rfl⟩
  · split at h
    · split at h
      · rename_i want _ _ _ _ _ b _
        by_cases hb : b = want
        · exact .inl ⟨(ite_and.1 h).1 hb, fun y n => by simp only [hb, if_true]⟩
        · exact .inr ⟨(ite_and.1 h).2 hb, fun y n => by simp only [hb, if_false]⟩
      · exact h.elim
    · exact h.elim

theorem put_comm {t : List AV} {d e : Option Tmp} {r s : AV} (h : ∀ k, d = some k → e ≠ some k) : put (put t d r) e s = put (put t e s) d r := by
  cases d with
  | none => rfl
  | some k =>
    cases e with
    | none => rfl
    | some j =>
      have : k ≠ j := fun hh => h k rfl (by rw [hh])
      exact List.set_comm _ _ this

/-! ### What hangs on which blocks -/
structure Same (N0 : Nat) (σ σ' : AHeap) : Prop where
  lo : N0 ≤ σ.length
  lo' : N0 ≤ σ'.length
  eq : ∀ i, i < N0 → σ'[i]? = σ[i]?

theorem Same.refl {N0 : Nat} {σ : AHeap} (h : N0 ≤ σ.length) : Same N0 σ σ := ⟨h, h, fun _ _ => rfl⟩
theorem Same.trans {N0 : Nat} {σ σ1 σ2 : AHeap} (h : Same N0 σ σ1) (k : Same N0 σ1 σ2) : Same N0 σ σ2 := ⟨h.lo, k.lo', fun i hi => (k.eq i hi).trans (h.eq i hi)⟩
theorem Same.symm {N0 : Nat} {σ σ1 : AHeap} (h : Same N0 σ σ1) : Same N0 σ1 σ := ⟨h.lo', h.lo, fun i hi => (h.eq i hi).symm⟩

/-- It names no block behind the first n ones. -/
def scA (n : Nat) : AV → Prop
  | .po i _ _ => i < n
  | .so i _ _ _ _ _ => i < n
  | _ => True

/-- Its answer hangs on no block. -/
def pureOp : Op → Bool
  | .move _ | .assign _ | .pick .. | .build .. | .binOp .. | .unOp .. | .convert .. | .makeInterface .. | .makeFunc .. | .extract .. | .field .. | .index .. => true
  | .buildSlice .. => true
  | _ => false

theorem pure_stable {t : List AV} {op : Op} (hp : pureOp op = true) (hl : light op = true) {σ' : AHeap} (S : AV → Prop) : aop P op t σ (fun r _ => S r) ↔ aop P op t σ' (fun r _ => S r) := by
  cases op <;> simp only [pureOp] at hp <;> (try cases hp) <;> (try cases hl) <;> exact Iff.rfl

theorem light_stable {N0 : Nat} {t : List AV} {op : Op} (hl : light op = true) {σ' : AHeap} (hs : Same N0 σ σ') (hsc : ∀ x ∈ op.operands.toList, scA N0 (ev t x)) (S : AV → Prop) : aop P op t σ (fun r _ => S r) ↔ aop P op t σ' (fun r _ => S r) := by
  by_cases hp : pureOp op = true
  · exact pure_stable hp hl S
  · cases op <;> (try exact absurd rfl hp) <;> simp only [light] at hl <;> (try exact absurd hl Bool.false_ne_true)
    case load e x =>
      have h1 := hsc x (by simp [Op.operands])
      simp only [aop, aLoad]
      split
      · rename_i i ver off hx; rw [hx] at h1; rw [hs.eq i h1]
      · exact Iff.rfl
      · exact Iff.rfl
    case nilCheck x =>
      have h1 := hsc x (by simp [Op.operands])
      simp only [aop, aNil]
      split
      · rename_i i ver off hx; rw [hx] at h1; rw [hs.eq i h1]
      all_goals exact Iff.rfl
    case slice e x lo hi mx =>
      have h1 := hsc x (by simp [Op.operands])
      simp only [aop, aSlice]
      split
      · exact Iff.rfl
      · rename_i i ver off n sz cap hx; rw [hx] at h1; rw [hs.eq i h1]
      all_goals exact Iff.rfl
    case fieldAddr s x f =>
      have h1 := hsc x (by simp [Op.operands])
      simp only [aop, aFieldAddr]
      split
      · split
        · rename_i i ver off hx; rw [hx] at h1; rw [hs.eq i h1]
        all_goals exact Iff.rfl
      · exact Iff.rfl
    case indexAddr e x y =>
      have h1 := hsc x (by simp [Op.operands])
      simp only [aop, aIndexAddr]
      split
      · split
        · exact Iff.rfl
        · rename_i i ver off n sz cap hx; rw [hx] at h1; rw [hs.eq i h1]
        · rename_i i ver off hx; rw [hx] at h1; rw [hs.eq i h1]
        all_goals exact Iff.rfl
      · exact Iff.rfl
    case call c =>
      split at hl
      · rename_i b hb
        have harg : ∀ x ∈ c.args.toList.map (ev t), scA N0 x := by
          intro x hx
          obtain ⟨o, ho, rfl⟩ := List.mem_map.1 hx
          exact hsc o (by simp [Op.operands, Call.operands]; right; simpa using ho)
        simp only [aop, aCallOp, hb]
        generalize c.args.toList.map (ev t) = args at harg
        unfold aBuiltin
        split
        · rename_i tt x hts
          have h1 := harg x (by simp)
          unfold aLen
          split
          · exact Iff.rfl
          · rw [hs.eq _ h1]
          all_goals exact Iff.rfl
        · rename_i tt x hts
          have h1 := harg x (by simp)
          unfold aCap
          split
          · exact Iff.rfl
          · rw [hs.eq _ h1]
          · exact Iff.rfl
        · exact absurd hl Bool.false_ne_true
        · exact absurd hl Bool.false_ne_true
        all_goals exact Iff.rfl
      · cases hl
end
end Go.Proofs.Va
