/- VA, part 8: a region's operations, calls. -/
import Derived.Test.YtmfnjmcgmogncaaVa7
import Derived.TacticsIn
set_option linter.unusedVariables false
set_option linter.unusedSimpArgs false
namespace Go.Proofs.Va
open Go Go.RowKit

/-! ### Operands -/
def cav : Value → AV
  | .agg cs => if cs.all (·.oneCell') then .agg (cs.toList.map cav1) else .v (.agg cs)
  | v => cav1 v

def ev (t : List AV) : Operand → AV
  | .tmp i => (t[i]?).getD .any
  | .const v => cav v
  | .global g => .v (.pointer (some ⟨g, 0, none⟩))
  | .func f => .fn (.func f) [] []

/-- The temporaries. -/
structure TRel (ρ : Nat → Nat × Nat) (σ : AHeap) (fz : Nat → Prop) (w : World) (t : List AV) (tmps : Array Value) : Prop where
  len : tmps.size = t.length
  at_ : ∀ i (h : i < t.length), R ρ σ fz w t[i] (tmps.getD i undef)

section
variable {P : Program} {w0 : World} {ρ : Nat → Nat × Nat} {σ : AHeap} {fz : Nat → Prop} {w : World}

theorem cav_ok (v : Value) : R ρ σ fz w (cav v) v := by
  unfold cav
  split
  · rename_i cs
    split
    · rename_i hall
      refine .agg _ _ (by simp) (fun j hj => ?_) (fun j hj => ?_)
      · simp at hj
        have := Array.all_eq_true.1 hall j hj
        simpa [Array.getD, hj] using this
      · simp at hj
        simpa [Array.getD, hj] using R.pure (ρ := ρ) (σ := σ) _ _ (cav1_ok (fz := fz) (w := w) cs[j])
    · exact .lit _
  · exact .pure _ _ (cav1_ok _)

theorem ev_ok {t : List AV} {a : Act} (h : TRel ρ σ fz w t a.tmps) (x : Operand) : R ρ σ fz w (ev t x) (a.eval x) := by
  cases x with
  | tmp i =>
    rcases Nat.lt_or_ge i t.length with hi | hi
    · have := h.at_ i hi
      simpa [ev, Act.eval, List.getElem?_eq_getElem hi] using this
    · simp [ev, List.getElem?_eq_none hi]; exact R.top _
  | const v => exact cav_ok v
  | global g => exact .lit _
  | func f => exact .pure _ _ (.fn _ [] [] #[] #[] rfl rfl (fun j hj => by simp at hj) (fun j hj => by simp at hj))

theorem TRel.ev' {n0 : Nat} {ρ' : Nat → Nat × Nat} {σ' : AHeap} {fz' : Nat → Prop} {w' : World} {t : List AV} {tmps : Array Value} (h : TRel ρ σ fz w t tmps) (E : Ev w0 σ.length ρ σ fz w ρ' σ' fz' w') : TRel ρ' σ' fz' w' t tmps :=
  ⟨h.len, fun i hi => (h.at_ i hi).ev E (h.at_ i hi).sc⟩

def put (t : List AV) (d : Option Tmp) (r : AV) : List AV :=
  match d with
  | some i => t.set i r
  | none => t

theorem TRel.put {t : List AV} {a : Act} (h : TRel ρ σ fz w t a.tmps) (d : Option Tmp) {r : AV} {v : Value} (hr : R ρ σ fz w r v) : TRel ρ σ fz w (Va.put t d r) (a.put d v).tmps := by
  cases d with
  | none => exact h
  | some i =>
    refine ⟨by simp [Act.put, Va.put, h.len], fun j hj => ?_⟩
    simp only [Va.put, List.length_set] at hj
    have hl := h.len
    have hs : j < a.tmps.size := by omega
    by_cases hij : i = j
    · subst hij
      simpa [Act.put, Va.put, Array.getD, hs] using hr
    · have := h.at_ j hj
      simpa [Act.put, Va.put, Array.getD, hs, hij, List.getElem_set_ne hij, Array.getElem_setIfInBounds] using this

/-! ### Calls -/
def RL (ρ : Nat → Nat × Nat) (σ : AHeap) (fz : Nat → Prop) (w : World) (args : List AV) (vs : Array Value) : Prop :=
  vs.size = args.length ∧ ∀ j (h : j < args.length), R ρ σ fz w args[j] (vs.getD j undef)

/-- What a call comes to, wherever the call's own blocks lie: K. -/
def ACall (P : Program) (g : FuncId) (args : List AV) (σ : AHeap) (K : AV → AHeap → Prop) : Prop :=
  ∀ (w0 : World) (ρ : Nat → Nat × Nat) (fz : Nat → Prop) (w : World) (vs : Array Value), HRel w0 ρ fz σ w → RL ρ σ fz w args vs →
    ((callFunc g vs).run P w = .ok (.enter g vs) w ∧ Calls P g vs w fun e w' => ∃ v r σ' ρ' fz', e = .returned v ∧ K r σ' ∧ HRel w0 ρ' fz' σ' w' ∧ R ρ' σ' fz' w' r v ∧ Ev w0 σ.length ρ σ fz w ρ' σ' fz' w') ∨
    (∃ v w' r σ' ρ' fz', (callFunc g vs).run P w = .ok (.value v) w' ∧ K r σ' ∧ HRel w0 ρ' fz' σ' w' ∧ R ρ' σ' fz' w' r v ∧ Ev w0 σ.length ρ σ fz w ρ' σ' fz' w')

theorem ACall.mono {g : FuncId} {args : List AV} {K K' : AV → AHeap → Prop} (h : ACall P g args σ K) (hk : ∀ r σ', K r σ' → K' r σ') : ACall P g args σ K' := by
  intro w0 ρ fz w vs hh hr
  rcases h w0 ρ fz w vs hh hr with ⟨h1, h2⟩ | ⟨v, w', r, σ', ρ', fz', h1, h2, h3⟩
  · exact .inl ⟨h1, h2.mono fun e w' ⟨v, r, σ', ρ', fz', he, hK, hx⟩ => ⟨v, r, σ', ρ', fz', he, hk _ _ hK, hx⟩⟩
  · exact .inr ⟨v, w', r, σ', ρ', fz', h1, hk _ _ h2, h3⟩

/-- A fence that lets all in. -/
def Wd (F : Fence) : Prop := (∀ f, F.fn f) ∧ F.depth = none ∧ F.alive = false

theorem Wd.room {F : Fence} (h : Wd F) (n : Nat) : F.room n := fun d hd => by rw [h.2.1] at hd; cases hd
theorem Wd.fenced {F : Fence} (h : Wd F) (m : Machine) : m.fenced P F := by
  intro g _
  exact ⟨(fun ha => by rw [h.2.2] at ha; cases ha), Or.inl (h.1 _), fun f _ => h.1 f, h.room _⟩
theorem Wd.stepsIn {F : Fence} (h : Wd F) {m m' : Machine} : StepsIn (Machine.fenced P F) P m m' ↔ Steps P m m' :=
  ⟨StepsIn.steps, fun hs => (StepsIn.of_steps hs).mono fun m _ => h.fenced m⟩
theorem Wd.comesIn {F : Fence} (h : Wd F) {m m' : Machine} {e : Ending} : ComesIn (Machine.fenced P F) P m m' e ↔ Comes P m m' e := by
  cases e with
  | returned v => exact h.stepsIn
  | panicked chain => exact h.stepsIn
  | outgrown => exact Iff.rfl
theorem Wd.callsIn {F : Fence} (h : Wd F) {n : Nat} {f : FuncId} {args : Array Value} {R : Ending → World → Prop} : CallsIn F n P f args w R ↔ Calls P f args w R :=
  ⟨fun hh cs => let ⟨e, w', fr, r, s, x⟩ := hh.2 cs (h.room _); ⟨e, w', fr, r, h.comesIn.1 s, x⟩,
   fun hh => ⟨h.1 f, fun cs _ => let ⟨e, w', fr, r, s, x⟩ := hh cs; ⟨e, w', fr, r, h.comesIn.2 s, x⟩⟩⟩
theorem wd_wide : Wd Fence.wide := ⟨fun _ => trivial, rfl, rfl⟩
theorem Wd.inRound {F : Fence} (h : Wd F) (l : Nat) : Wd (F.inRound l) := h

/-- What a call of the rounds' function comes to. -/
def AYield (P : Program) (l : Nat) (args : List AV) (σ : AHeap) (K : AV → AHeap → Prop) : Prop :=
  ∀ (F : Fence) (n : Nat) (w0 : World) (ρ : Nat → Nat × Nat) (fz : Nat → Prop) (w : World) (vs : Array Value), Wd F → HRel w0 ρ fz σ w → RL ρ σ fz w args vs →
    YieldAt F n P l vs w fun e w' => ∃ v r σ' ρ' fz', e = .returned v ∧ K r σ' ∧ HRel w0 ρ' fz' σ' w' ∧ R ρ' σ' fz' w' r v ∧ Ev w0 σ.length ρ σ fz w ρ' σ' fz' w'

def aBuiltin (P : Program) (b : Builtin) (ts : Array TypeId) (args : List AV) (σ : AHeap) (K : AV → AHeap → Prop) : Prop :=
  match b, ts.toList, args with
  | .len, [t], [x] => aLen P t x σ K
  | .cap, [t], [x] => aCap P t x σ K
  | .append, [t, tx], [x, y] => if (intT P tx).isSome = true then aAppZ P t x y σ K else aAppend P t tx x y σ K
  | .copy, [t, tx], [x, y] => aCopy P t x y σ K
  | .max, _, [x, y] => aMax x y σ K
  | .min, _, [x, y] => aMin x y σ K
  | _, _, _ => False

def aNil (x : AV) (σ : AHeap) (K : AV → AHeap → Prop) : Prop :=
  match x with
  | .po i ver _ => match σ[i]? with
    | some b => b.ver = ver ∧ b.kind ≠ .dead ∧ K x σ
    | none => False
  | .pp _ _ => K x σ
  | .ifc _ _ => K x σ
  | .fn (.func _) _ _ => K x σ
  | _ => False

def aCallOp (P : Program) (c : Call) (t : List AV) (σ : AHeap) (K : AV → AHeap → Prop) : Prop :=
  match c.callee with
  | .builtin b => aBuiltin P b c.argTypes (c.args.toList.map (ev t)) σ K
  | .value f => match ev t f with
    | .fn (.func g) first caps => ACall P g (first ++ c.args.toList.map (ev t) ++ caps) σ K
    | .fn (.yield l) first caps => AYield P l (first ++ c.args.toList.map (ev t)) σ K
    | _ => False
  | .invoke _ _ => False

/-- An operation on what the temporaries are said to be. -/
def aop (P : Program) (op : Op) (t : List AV) (σ : AHeap) (K : AV → AHeap → Prop) : Prop :=
  match op with
  | .move x | .assign x => K (ev t x) σ
  | .pick c x y => match ev t c with
    | .v (.bool q) => if q = true then K (ev t x) σ else K (ev t y) σ
    | _ => False
  | .alloc e => aAlloc P e σ K
  | .box _ x => aBox (ev t x) σ K
  | .build e ps => aBuild P e (ps.toList.map fun p => (p.1, ev t p.2)) σ K
  | .buildSlice e n ps => aBuildSlice P e n (ps.toList.map fun p => (p.1, ev t p.2)) σ K
  | .load e x => aLoad P e (ev t x) σ K
  | .store e x y => aStore P e (ev t x) (ev t y) σ (K .any)
  | .nilCheck x => aNil (ev t x) σ K
  | .binOp op e x y _ => aBin P op e (ev t x) (ev t y) σ K
  | .unOp op _ x => aUn op (ev t x) σ K
  | .convert a b x => aConv P a b (ev t x) σ K
  | .makeInterface e x => aMakeInterface P e (ev t x) σ K
  | .makeFunc f first caps => K (.fn f (first.toList.map (ev t)) (caps.toList.map (ev t))) σ
  | .makeSlice e x y => aMakeSlice P e (ev t x) (ev t y) σ K
  | .slice e x lo hi mx => aSlice P e (ev t x) (lo.map (ev t)) (hi.map (ev t)) (mx.map (ev t)) σ K
  | .fieldAddr s x f => aFieldAddr P s (ev t x) f σ K
  | .field s x f => aField P s (ev t x) f σ K
  | .indexAddr e x y => aIndexAddr P e (ev t x) (ev t y) σ K
  | .index e x y => aIndex P e (ev t x) (ev t y) σ K
  | .extract x i => aExtract (ev t x) i σ K
  | .call c => aCallOp P c t σ K
  | _ => False

def OpNext (w0 : World) (ρ : Nat → Nat × Nat) (fz : Nat → Prop) (σ : AHeap) (w : World) (K : AV → AHeap → Prop) (N : Value → World → Prop) : Prop :=
  ∀ v w' ρ' fz' r σ', K r σ' → HRel w0 ρ' fz' σ' w' → R ρ' σ' fz' w' r v → Ev w0 σ.length ρ σ fz w ρ' σ' fz' w' → N v w'

theorem args_ok {t : List AV} {a : Act} (h : TRel ρ σ fz w t a.tmps) (xs : Array Operand) : RL ρ σ fz w (xs.toList.map (ev t)) (xs.map a.eval) := by
  refine ⟨by simp, fun j hj => ?_⟩
  simp at hj
  simpa [Array.getD, hj] using ev_ok h xs[j]

theorem RL.append {xs ys : List AV} {us vs : Array Value} (h : RL ρ σ fz w xs us) (k : RL ρ σ fz w ys vs) : RL ρ σ fz w (xs ++ ys) (us ++ vs) := by
  refine ⟨by simp [h.1, k.1], fun j hj => ?_⟩
  rw [List.length_append] at hj
  rcases Nat.lt_or_ge j xs.length with h1 | h1
  · have e : (us ++ vs).getD j undef = us.getD j undef := by
      simp only [Array.getD_eq_getD_getElem?]; rw [Array.getElem?_append_left (by have := h.1; omega)]
    rw [e, List.getElem_append_left h1]; exact h.2 j h1
  · have e : (us ++ vs).getD j undef = vs.getD (j - xs.length) undef := by
      simp only [Array.getD_eq_getD_getElem?]; rw [Array.getElem?_append_right (by have := h.1; omega), h.1]
    rw [e, List.getElem_append_right h1]; exact k.2 _ (by omega)

theorem parts_ok {t : List AV} {a : Act} (h : TRel ρ σ fz w t a.tmps) (ps : Array (Nat × Operand)) :
    ∀ (j : Nat) (p : Nat × AV) (q : Nat × Value), (ps.toList.map fun p => (p.1, ev t p.2))[j]? = some p → (ps.map fun x => (x.1, a.eval x.2))[j]? = some q → q.1 = p.1 ∧ R ρ σ fz w p.2 q.2 := by
  intro j p q hp hq
  rw [List.getElem?_map] at hp
  rw [Array.getElem?_map] at hq
  cases hj : ps[j]? with
  | none => rw [hj] at hq; cases hq
  | some x =>
    rw [hj] at hq
    rw [Array.getElem?_toList, hj] at hp
    cases hp; cases hq
    exact ⟨rfl, ev_ok h x.2⟩
end
end Go.Proofs.Va
