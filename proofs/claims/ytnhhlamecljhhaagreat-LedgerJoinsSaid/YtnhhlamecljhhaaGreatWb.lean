import Derived.Test.YtnhhlamecljhhaaGreatWa
import Derived.OrdersIn
import Derived.RangeFuncSeq
import Derived.RangeFuncRecord
/- VA, part 10: statements, loops, a function's body. -/
set_option linter.unusedVariables false
set_option linter.unusedSimpArgs false
namespace Go.Proofs.Va
open Go Go.RowKit

structure AState where
  t : List AV
  σ : AHeap

/-- The marks that ranges over functions leave among the deferred calls. -/
def MRel (nb : Nat) (ds : List Deferred) (w : World) : Prop :=
  ∃ Ds : List Nat, ds = Ds.map (fun D => { target := .collected D, args := #[] }) ∧ Ds.Nodup ∧ ∀ D ∈ Ds, w.heap[D]? = some (.deferred (some [])) ∧ nb ≤ D

structure SRel (w0 : World) (nb : Nat) (ρ : Nat → Nat × Nat) (fz : Nat → Prop) (s : AState) (a : Act) (w : World) : Prop where
  h : HRel w0 ρ fz s.σ w
  t : TRel ρ s.σ fz w s.t a.tmps
  m : MRel nb a.defers w

/-- What is asked behind a statement, in the world. -/
def Beh (w0 : World) (nb n0 : Nat) (ρ : Nat → Nat × Nat) (σ : AHeap) (fz : Nat → Prop) (w : World) (Q : Exit → AState → Prop) : Exit → Act → World → Prop :=
  fun e a' w' => ∃ s' ρ' fz', Q e s' ∧ SRel w0 nb ρ' fz' s' a' w' ∧ Ev w0 n0 ρ σ fz w ρ' s'.σ fz' w'

theorem MRel.ev {w0 : World} {n0 nb : Nat} {ρ ρ' : Nat → Nat × Nat} {σ σ' : AHeap} {fz fz' : Nat → Prop} {w w' : World} {ds : List Deferred} (h : MRel nb ds w) (E : Ev w0 n0 ρ σ fz w ρ' σ' fz' w') : MRel nb ds w' := by
  obtain ⟨Ds, h1, h2, h3⟩ := h
  exact ⟨Ds, h1, h2, fun D hD => ⟨E.same _ _ (h3 D hD).1 rfl, (h3 D hD).2⟩⟩

/-! ### A region -/
def guardA (ops : Array Oper) (t : List AV) (o : Oper) (yes no : Prop) : Prop :=
  match o.guard with
  | none => yes
  | some (j, want) => match (ops[j]?).bind (·.dst) with
    | some d => match t[d]? with
      | some (.v (.bool b)) => if b = want then yes else no
      | some (.tup []) => no
      | _ => False
    | none => False

def awpOps (P : Program) (ops : Array Oper) : List Oper → (AState → Prop) → AState → Prop
  | [], Q, s => Q s
  | o :: rest, Q, s => guardA ops s.t o (aop P o.op s.t s.σ fun r σ' => awpOps P ops rest Q ⟨put s.t o.dst r, σ'⟩) (awpOps P ops rest Q ⟨put s.t o.dst (.tup []), s.σ⟩)

section
variable {P : Program} {w0 : World} {nb n0 : Nat} {ρ : Nat → Nat × Nat} {fz : Nat → Prop} {w : World}

theorem R.skip {σ : AHeap} : R ρ σ fz w (.tup []) undef := .tup [] #[] rfl (fun j hj => by simp at hj)
theorem Rp.skip_eq {fz : Nat → Prop} {w : World} {v : Value} (h : Rp fz w (.tup []) v) : v = undef := by
  cases h with
  | tup _ arr hl _ =>
    have : arr = #[] := Array.eq_empty_of_size_eq_zero (by simpa using hl)
    rw [this]; rfl
theorem R.skip_eq {σ : AHeap} {v : Value} (h : R ρ σ fz w (.tup []) v) : v = undef := by
  cases h with
  | pure _ _ h => exact h.skip_eq
  | tup _ arr hl _ =>
    have : arr = #[] := Array.eq_empty_of_size_eq_zero (by simpa using hl)
    rw [this]; rfl
theorem guardA_ok {ops : Array Oper} {σ : AHeap} {t : List AV} {a : Act} (ht : TRel ρ σ fz w t a.tmps) {o : Oper} {yes no : Prop} (h : guardA ops t o yes no) :
    (Region.wanted o (yielded ops a.tmps) = true ∧ yes) ∨ (Region.wanted o (yielded ops a.tmps) = false ∧ no) := by
  unfold guardA at h
  split at h
  · rename_i hg; exact .inl ⟨by simp [Region.wanted, hg], h⟩
  · rename_i j want hg
    split at h
    · rename_i d hd
      split at h
      · rename_i b hb
        obtain ⟨hlt, hb'⟩ := List.getElem?_eq_some_iff.1 hb
        have hv := ht.at_ d hlt
        rw [hb'] at hv
        have hv := hv.v_eq
        have hs : d < a.tmps.size := by rw [ht.len]; exact hlt
        have hy : yielded ops a.tmps j = some b := by
          have hq : a.tmps[d]? = some (.bool b) := by rw [get_of_getD hs, hv]
          simp [yielded, hd, hq]
        by_cases hbw : b = want
        · exact .inl ⟨by simp [Region.wanted, hg, hy, hbw], (ite_and.1 h).1 hbw⟩
        · exact .inr ⟨by simp [Region.wanted, hg, hy, hbw], (ite_and.1 h).2 hbw⟩
      · rename_i hb
        obtain ⟨hlt, hb'⟩ := List.getElem?_eq_some_iff.1 hb
        have hv := ht.at_ d hlt
        rw [hb'] at hv
        have hs : d < a.tmps.size := by rw [ht.len]; exact hlt
        have hy : yielded ops a.tmps j = none := by
          have hq : a.tmps[d]? = some undef := by rw [get_of_getD hs, hv.skip_eq]
          simp [yielded, hd, hq, undef]
        exact .inr ⟨by simp [Region.wanted, hg, hy], h⟩
      · exact h.elim
    · exact h.elim

theorem awpOps_ok {F : Fence} (hF : Wd F) {n : Nat} {ops : Array Oper} {Q : AState → Prop} {Q' : Exit → Act → World → Prop} (l : List Oper) : ∀ (s : AState) (ρ : Nat → Nat × Nat) (fz : Nat → Prop) (a : Act) (w : World),
    awpOps P ops l Q s → SRel w0 nb ρ fz s a w → n0 ≤ s.σ.length →
    (∀ s' ρ' fz' a' w', Q s' → SRel w0 nb ρ' fz' s' a' w' → Ev w0 n0 ρ s.σ fz w ρ' s'.σ fz' w' → Q' .normal a' w') → wpListIn F n P ops Q' l a w := by
  induction l with
  | nil => intro s ρ fz a w h hs hn hq; exact hq s ρ fz a w h hs (Ev.refl _ _ _ _ hn)
  | cons o rest ih =>
    intro s ρ fz a w h hs hn hq
    simp only [awpOps] at h
    simp only [wpListIn]
    rcases guardA_ok hs.t h with ⟨hw, h⟩ | ⟨hw, h⟩
    · rw [if_pos hw]
      refine aop_ok hF hs.h hs.t h ?_
      intro v w' ρ' fz' r σ' hK hh hR hE
      have hE' := hE.lower hn
      refine ih ⟨put s.t o.dst r, σ'⟩ ρ' fz' _ w' hK ⟨hh, (hs.t.ev' (n0 := n0) hE).put o.dst hR, ?_⟩ hE'.len' ?_
      · have : (a.put o.dst v).defers = a.defers := by cases o.dst <;> rfl
        rw [this]; exact hs.m.ev hE
      · intro s' ρ2 fz2 a' w2 hQ hS hE2
        exact hq s' ρ2 fz2 a' w2 hQ hS (hE'.trans hE2)
    · rw [if_neg (by simp [hw])]
      refine ⟨fun f _ => hF.1 f, ih ⟨put s.t o.dst (.tup []), s.σ⟩ ρ fz _ w h ⟨hs.h, hs.t.put o.dst R.skip, ?_⟩ hn hq⟩
      have : (a.put o.dst undef).defers = a.defers := by cases o.dst <;> rfl
      rw [this]; exact hs.m

/-! ### Less is known -/
def wk1 : AV → AV → Prop
  | .any, _ => True
  | .so i v o n z none, y => match y with
    | .so i' v' o' n' z' _ => i = i' ∧ v = v' ∧ o = o' ∧ n = n' ∧ z = z'
    | _ => False
  | .pl nl cs n none, y => match y with
    | .pl nl' cs' n' _ => nl = nl' ∧ cs = cs' ∧ n = n'
    | _ => False
  | x, y => x = y

theorem wk1_refl (x : AV) : wk1 x x := by
  unfold wk1
  split <;> first
    | trivial
    | exact ⟨rfl, rfl, rfl, rfl, rfl⟩
    | exact ⟨rfl, rfl, rfl⟩
    | rfl

theorem R.wk {x y : AV} (h : wk1 x y) {σ : AHeap} {v : Value} (hy : R ρ σ fz w y v) : R ρ σ fz w x v := by
  unfold wk1 at h
  split at h
  · exact R.top _
  · split at h
    · obtain ⟨rfl, rfl, rfl, rfl, rfl⟩ := h
      cases hy with
      | pure _ _ h => cases h
      | so _ _ _ _ _ _ blk v hb hle h1 hv =>
        refine .so _ _ _ _ _ _ blk v hb hle h1 fun q1 q2 => ?_
        obtain ⟨a, c, r1, r2, r3, r4⟩ := hv q1 q2
        exact ⟨a, c, r1, r2, fun k hk => (by cases hk), r4⟩
    · exact h.elim
  · split at h
    · obtain ⟨rfl, rfl, rfl⟩ := h
      cases hy with
      | pure _ _ h =>
        cases h with
        | pl _ _ _ _ a c b o us q1 q2 q3 q4 q5 q6 q7 q8 q9 q10 => exact .pure _ _ (.pl _ _ _ _ a c b o us q1 q2 q3 (fun k hk => by cases hk) q5 q6 q7 q8 q9 (fun k hk => by cases hk))
    · exact h.elim
  · subst h; exact hy

structure Wk (n0 : Nat) (s s' : AState) : Prop where
  len : s'.t.length = s.t.length
  t : ∀ (i : Nat) (x : AV), s'.t[i]? = some x → ∃ y, s.t[i]? = some y ∧ wk1 x y
  lo : n0 ≤ s'.σ.length
  hi : s'.σ.length ≤ s.σ.length
  blk : ∀ (i : Nat) (b' : ABlk), s'.σ[i]? = some b' → ∃ b, s.σ[i]? = some b ∧ b'.ver = b.ver ∧ (b'.kind ≠ .dead → b'.kind = b.kind) ∧
    (b'.kind ≠ .dead → b'.cells.length ≤ b.cells.length ∧ ∀ (j : Nat) (x : AV), b'.cells[j]? = some x → ∃ y, b.cells[j]? = some y ∧ wk1 x y)
  sc : s'.σ.length < s.σ.length → (∀ x ∈ s'.t, Sc s'.σ.length x) ∧ ∀ b ∈ s'.σ, b.kind ≠ .dead → ∀ x ∈ b.cells, Sc s'.σ.length x

theorem R.less {σ σ' : AHeap} (hs : ∀ (i : Nat) (b' : ABlk), σ'[i]? = some b' → ∃ b, σ[i]? = some b ∧ b'.ver = b.ver ∧ (b'.kind ≠ .dead → b'.kind = b.kind)) {x : AV} {v : Value} (h : R ρ σ fz w x v) :
    Sc σ'.length x → R ρ σ' fz w x v := by
  induction h with
  | pure x v h => exact fun _ => .pure _ _ h
  | po i ver off blk v hb hle h1 hv =>
    intro hsc
    cases hsc with
    | po _ _ _ hi =>
      have hb' := List.getElem?_eq_getElem hi
      obtain ⟨b, hb2, he, hk⟩ := hs i _ hb'
      rw [hb] at hb2; cases hb2
      exact .po _ _ _ _ _ hb' (by omega) h1 fun hver hd => hv (by omega) (by rw [← hk hd]; exact hd)
  | so i ver off n sz cap blk v hb hle h1 hv =>
    intro hsc
    cases hsc with
    | so _ _ _ _ _ _ hi =>
      have hb' := List.getElem?_eq_getElem hi
      obtain ⟨b, hb2, he, hk⟩ := hs i _ hb'
      rw [hb] at hb2; cases hb2
      exact .so _ _ _ _ _ _ _ _ hb' (by omega) h1 fun hver hd => hv (by omega) (by rw [← hk hd]; exact hd)
  | agg cs arr hl h1 hR ih => intro hsc; cases hsc with | agg _ h => exact .agg _ _ hl h1 fun j hj => ih j hj (h j hj)
  | tup cs arr hl hR ih => intro hsc; cases hsc with | tup _ h => exact .tup _ _ hl fun j hj => ih j hj (h j hj)
  | fn f cs ds arr brr hl hl' hR hR' ih ih' => intro hsc; cases hsc with | fn _ _ _ h h' => exact .fn _ _ _ _ _ hl hl' (fun j hj => ih j hj (h j hj)) (fun j hj => ih' j hj (h' j hj))
  | ifc t x u h ih => intro hsc; cases hsc with | ifc _ _ h => exact .ifc _ _ _ (ih h)

theorem Wk.ok {s s' : AState} (h : Wk n0 s s') {a : Act} (hs : SRel w0 nb ρ fz s a w) : SRel w0 nb ρ fz s' a w ∧ Ev w0 n0 ρ s.σ fz w ρ s'.σ fz w := by
  have hsb : ∀ (i : Nat) (b' : ABlk), s'.σ[i]? = some b' → ∃ b, s.σ[i]? = some b ∧ b'.ver = b.ver ∧ (b'.kind ≠ .dead → b'.kind = b.kind) := fun i b' hb => by
    obtain ⟨b, h1, h2, h3, _⟩ := h.blk i b' hb
    exact ⟨b, h1, h2, h3⟩
  have sct : ∀ (i : Nat) (x : AV) (v : Value), s'.t[i]? = some x → R ρ s.σ fz w x v → Sc s'.σ.length x := fun i x v hx hR => by
    rcases Nat.lt_or_ge s'.σ.length s.σ.length with hl | hl
    · exact (h.sc hl).1 x (List.mem_of_getElem? hx)
    · have := hR.sc; have := h.hi; rw [show s'.σ.length = s.σ.length by omega]; assumption
  have hlen : n0 ≤ s.σ.length := Nat.le_trans h.lo h.hi
  refine ⟨⟨⟨hs.h.below, hs.h.fzlt, ?_, ?_⟩, ⟨by rw [hs.t.len, h.len], ?_⟩, hs.m⟩, ?_⟩
  · intro i b' hb hd
    obtain ⟨b, h1, h2, h3, h4⟩ := h.blk i b' hb
    have hk := h3 hd
    obtain ⟨hcl, hcx⟩ := h4 hd
    obtain ⟨cells, e, q1, q2, q3, q4, q5, q6⟩ := hs.h.blk i b h1 (by rw [← hk]; exact hd)
    refine ⟨cells, e, q1, q2, by omega, by rw [hk]; exact q4, by rw [hk]; exact q5, fun j hj => ?_⟩
    obtain ⟨u, hu, hone, hR⟩ := q6 j (by omega)
    refine ⟨u, hu, hone, ?_⟩
    obtain ⟨y, he, hwk⟩ := hcx j _ (List.getElem?_eq_getElem hj)
    have he2 := (List.getElem?_eq_some_iff.1 he).2
    rw [he2] at hR
    have hR := hR.wk hwk
    refine hR.less hsb ?_
    rcases Nat.lt_or_ge s'.σ.length s.σ.length with hl | hl
    · exact (h.sc hl).2 b' (List.mem_of_getElem? hb) hd _ (List.getElem_mem hj)
    · have := hR.sc; have := h.hi; rw [show s'.σ.length = s.σ.length by omega]; assumption
  · intro i j bi bj hi hj ki kj he
    obtain ⟨b1, h1, _, h3, _⟩ := h.blk i bi hi
    obtain ⟨b2, h4, _, h6, _⟩ := h.blk j bj hj
    exact hs.h.inj i j b1 b2 h1 h4 (by rw [← h3 (by rw [ki]; decide)]; exact ki) (by rw [← h6 (by rw [kj]; decide)]; exact kj) he
  · intro i hi
    have hx := List.getElem?_eq_getElem hi
    obtain ⟨y, he, hwk⟩ := h.t i _ hx
    obtain ⟨hlt, he2⟩ := List.getElem?_eq_some_iff.1 he
    have hR := hs.t.at_ i hlt
    rw [he2] at hR
    have hR := hR.wk hwk
    exact hR.less hsb (sct i _ _ hx hR)
  · refine ⟨hlen, h.lo, ?_, fun _ h => h, fun _ h => .inl h, fun _ _ => rfl, Nat.le_refl _, fun _ _ h _ => h, fun _ c _ fr h => ⟨c, fr, h, rfl⟩⟩
    intro i hi b b' hb hb'
    obtain ⟨b1, h1, h2, h3, _⟩ := h.blk i b' hb'
    rw [hb] at h1; cases h1
    exact ⟨by omega, fun _ hd => ⟨by rw [← h3 hd]; exact hd, rfl⟩⟩

/-- Lists that are weakened place by place. -/
def wkL : List AV → List AV → Prop
  | [], [] => True
  | x :: xs, y :: ys => wk1 x y ∧ wkL xs ys
  | _, _ => False

theorem wkL_at : ∀ {l' l : List AV}, wkL l' l → l'.length = l.length ∧ ∀ (i : Nat) (x : AV), l'[i]? = some x → ∃ y, l[i]? = some y ∧ wk1 x y
  | [], [], _ => ⟨rfl, fun i x h => by simp at h⟩
  | a :: l', b :: l, h => by
    obtain ⟨h1, h2⟩ := wkL_at h.2
    refine ⟨by simp [h1], fun i x hx => ?_⟩
    cases i with
    | zero =>
      simp only [List.getElem?_cons_zero, Option.some.injEq] at hx
      subst hx
      exact ⟨b, rfl, h.1⟩
    | succ i => simpa using h2 i x (by simpa using hx)
  | [], _ :: _, h => h.elim
  | _ :: _, [], h => h.elim

/-- Some blocks are dropped, too. -/
theorem Wk.drop {t t' : List AV} {σ : AHeap} (more : AHeap) (h : wkL t' t) (hn : n0 ≤ σ.length) (hs : ∀ x ∈ t', Sc σ.length x) (hb : ∀ b ∈ σ, b.kind ≠ .dead → ∀ x ∈ b.cells, Sc σ.length x) : Wk n0 ⟨t, σ ++ more⟩ ⟨t', σ⟩ := by
  obtain ⟨h1, h2⟩ := wkL_at h
  refine ⟨h1, h2, hn, by simp, fun i b hb => ⟨b, ?_, rfl, fun _ => rfl, fun _ => ⟨Nat.le_refl _, fun j x hx => ⟨x, hx, wk1_refl x⟩⟩⟩, fun _ => ⟨hs, hb⟩⟩
  have hlt := (List.getElem?_eq_some_iff.1 hb).1
  show (σ ++ more)[i]? = some b
  rw [List.getElem?_append_left hlt]; exact hb

/-! ### A loop, each state of which is known by a thing beside it -/
theorem wpIn_loop_known {F : Fence} {n : Nat} {c : Code} {Q : Exit → Act → World → Prop} {γ : Type} (I : γ → Act → World → Prop) (μ : γ → Nat) {g0 : γ} {a : Act} {w : World} (h₀ : I g0 a w)
    (round : ∀ g a w, I g a w → c.wpIn F n P (Exit.then (fun a' w' => ∃ g', I g' a' w' ∧ μ g' < μ g) Q) a w) : (Code.loop c).wpIn F n P Q a w := by
  intro b k cs hro hb hr
  have key : ∀ (j : Nat) (g : γ) (a : Act) (w : World), μ g = j → I g a w →
      ∃ e a' w', Q e a' w' ∧ ArrivesIn (Machine.fenced P F) P (lone (b.atR a (.code c :: .inLoop c :: k)) cs w) b k cs e a' w' := by
    intro j
    induction j using Nat.strongRecOn with
    | _ j ih =>
      intro g a w hn hI
      obtain ⟨e, a₁, w₁, hq, harr⟩ := round g a w hI b (.inLoop c :: k) cs hro hb hr
      cases e with
      | normal =>
        obtain ⟨g', hI₁, hlt⟩ := hq
        obtain ⟨e₂, a₂, w₂, hq₂, harr₂⟩ := ih (μ g') (hn ▸ hlt) g' a₁ w₁ rfl hI₁
        exact ⟨e₂, a₂, w₂, hq₂, .of_steps (StepsIn.trans harr (.one (fenced_calm hb hr rfl) stepR_inLoop)) harr₂⟩
      | exit id => exact ⟨_, a₁, w₁, hq, .pass (x := .inLoop c) rfl (fun _ _ => .inl (by simp)) harr⟩
      | goto l => exact ⟨_, a₁, w₁, hq, .pass (x := .inLoop c) rfl (fun _ _ => .inl (by simp)) harr⟩
      | ret => exact ⟨_, a₁, w₁, hq, .pass (x := .inLoop c) rfl (fun _ _ => .inl (by simp)) harr⟩
      | panic ch => exact ⟨_, a₁, w₁, hq, .pass (x := .inLoop c) rfl (fun _ _ => .inl (by simp)) harr⟩
      | outgrown => exact ⟨_, a₁, w₁, hq, .pass (x := .inLoop c) rfl (fun _ _ => .inl (by simp)) harr⟩
  obtain ⟨e, a', w', hq, harr⟩ := key _ g0 a w rfl h₀
  exact ⟨e, a', w', hq, .of_steps (.one (fenced_calm hb hr rfl) stepR_loop) harr⟩
end
end Go.Proofs.Va
/- VA, part 11: statements; a function's body; what a function without memory of the caller's comes to. -/
set_option linter.unusedVariables false
set_option linter.unusedSimpArgs false
namespace Go.Proofs.Va
open Go Go.RowKit

def thenA (next : AState → Prop) (Q : Exit → AState → Prop) : Exit → AState → Prop
  | .normal, s => next s
  | e, s => Q e s
def inBlockA (id : Nat) (Q : Exit → AState → Prop) : Exit → AState → Prop
  | .exit id', s => if id' = id then Q .normal s else Q (.exit id') s
  | e, s => Q e s

/-- A statement leads from s to Q, wherever the call's own blocks lie. -/
def AW (P : Program) (n0 : Nat) (top : Bool) (c : Code) (Q : Exit → AState → Prop) (s : AState) : Prop :=
  ∀ (F : Fence) (n : Nat), Wd F → (top = true → F.round = none) → ∀ (w0 : World) (nb : Nat) (ρ : Nat → Nat × Nat) (fz : Nat → Prop) (a : Act) (w : World),
    SRel w0 nb ρ fz s a w → n0 ≤ s.σ.length → w0.heap.size ≤ nb → nb ≤ w.heap.size → c.wpIn F n P (Beh w0 nb n0 ρ s.σ fz w Q) a w

def awp (P : Program) (n0 : Nat) (top : Bool) : Code → (Exit → AState → Prop) → AState → Prop
  | .skip, Q, s => Q .normal s
  | .label _, Q, s => Q .normal s
  | .region _ ops false, Q, s => awpOps P ops ops.toList (Q .normal) s
  | .region id ops true, Q, s => AW P n0 top (.region id ops true) Q s
  | .seq x y, Q, s => awp P n0 top x (thenA (awp P n0 top y Q) Q) s
  | .cond c x y, Q, s => match ev s.t c with
    | .v (.bool q) => if q = true then awp P n0 top x Q s else awp P n0 top y Q s
    | _ => False
  | .block id c, Q, s => awp P n0 top c (inBlockA id Q) s
  | .loop c, Q, s => AW P n0 top (.loop c) Q s
  | .rangeFunc f ps x y, Q, s => AW P n0 top (.rangeFunc f ps x y) Q s
  | .exit id, Q, s => Q (.exit id) s
  | .goto l, Q, s => Q (.goto l) s
  | .ret, Q, s => Q .ret s
  | .scope c, Q, s => AW P n0 top (.scope c) Q s
  | .refuse _, _, _ => False

section
variable {P : Program} {n0 : Nat} {top : Bool}

theorem Beh.here {w0 : World} {nb : Nat} {ρ : Nat → Nat × Nat} {fz : Nat → Prop} {a : Act} {w : World} {Q : Exit → AState → Prop} {s : AState} {e : Exit} (hs : SRel w0 nb ρ fz s a w) (hn : n0 ≤ s.σ.length) (h : Q e s) :
    Beh w0 nb n0 ρ s.σ fz w Q e a w := ⟨s, ρ, fz, h, hs, Ev.refl _ _ _ _ hn⟩

theorem Beh.from {w0 : World} {nb : Nat} {ρ ρ1 : Nat → Nat × Nat} {σ σ1 : AHeap} {fz fz1 : Nat → Prop} {w w1 : World} {Q : Exit → AState → Prop} {e : Exit} {a' : Act} {w' : World}
    (E : Ev w0 n0 ρ σ fz w ρ1 σ1 fz1 w1) (h : Beh w0 nb n0 ρ1 σ1 fz1 w1 Q e a' w') : Beh w0 nb n0 ρ σ fz w Q e a' w' := by
  obtain ⟨s', ρ', fz', h1, h2, h3⟩ := h
  exact ⟨s', ρ', fz', h1, h2, E.trans h3⟩

theorem awp_ok (c : Code) : ∀ (Q : Exit → AState → Prop) (s : AState), awp P n0 top c Q s → AW P n0 top c Q s := by
  induction c with
  | skip => exact fun Q s h F n hF ht w0 nb ρ fz a w hs hn _ _ => wpIn_skip (Beh.here hs hn h)
  | label l => exact fun Q s h F n hF ht w0 nb ρ fz a w hs hn _ _ => wpIn_label (Beh.here hs hn h)
  | exit id => exact fun Q s h F n hF ht w0 nb ρ fz a w hs hn _ _ => wpIn_exit (Beh.here hs hn h)
  | goto l => exact fun Q s h F n hF ht w0 nb ρ fz a w hs hn _ _ => wpIn_goto (Beh.here hs hn h)
  | ret => exact fun Q s h F n hF ht w0 nb ρ fz a w hs hn _ _ => wpIn_ret (Beh.here hs hn h)
  | refuse _ => exact fun Q s h => h.elim
  | scope c _ => exact fun Q s h => h
  | loop c _ => exact fun Q s h => h
  | rangeFunc f ps x y _ _ => exact fun Q s h => h
  | region id ops draw =>
    cases draw with
    | true => exact fun Q s h => h
    | false =>
      intro Q s h F n hF ht w0 nb ρ fz a w hs hn _ _
      exact wpIn_region_list (awpOps_ok hF ops.toList s ρ fz a w h hs hn fun s' ρ' fz' a' w' hQ hS hE => ⟨s', ρ', fz', hQ, hS, hE⟩)
  | seq x y ihx ihy =>
    intro Q s h F n hF ht w0 nb ρ fz a w hs hn hb1 hb2
    refine wpIn_seq (wpIn_mono (ihx _ s h F n hF ht w0 nb ρ fz a w hs hn hb1 hb2) ?_)
    rintro e a1 w1 ⟨s1, ρ1, fz1, hQ, hS, hE⟩
    cases e with
    | normal => exact wpIn_mono (ihy Q s1 hQ F n hF ht w0 nb ρ1 fz1 a1 w1 hS hE.len' hb1 (Nat.le_trans hb2 hE.size)) fun e a w hq => hq.from hE
    | _ => exact ⟨s1, ρ1, fz1, hQ, hS, hE⟩
  | cond c x y ihx ihy =>
    intro Q s h F n hF ht w0 nb ρ fz a w hs hn hb1 hb2
    simp only [awp] at h
    split at h
    · rename_i q hq
      have hc := ev_ok hs.t c
      rw [hq] at hc
      refine wpIn_cond hc.v_eq ?_
      cases q with
      | true => exact ihx Q s ((iteB.1 h).1 rfl) F n hF ht w0 nb ρ fz a w hs hn hb1 hb2
      | false => exact ihy Q s ((iteB.1 h).2 rfl) F n hF ht w0 nb ρ fz a w hs hn hb1 hb2
    · exact h.elim
  | block id c ih =>
    intro Q s h F n hF ht w0 nb ρ fz a w hs hn hb1 hb2
    refine wpIn_block (wpIn_mono (ih _ s h F n hF ht w0 nb ρ fz a w hs hn hb1 hb2) ?_)
    rintro e a1 w1 ⟨s1, ρ1, fz1, hQ, hS, hE⟩
    cases e with
    | exit id' =>
      simp only [Exit.inBlock, inBlockA] at hQ ⊢
      split
      · rename_i hid; rw [if_pos hid] at hQ; exact ⟨s1, ρ1, fz1, hQ, hS, hE⟩
      · rename_i hid; rw [if_neg hid] at hQ; exact ⟨s1, ρ1, fz1, hQ, hS, hE⟩
    | _ => exact ⟨s1, ρ1, fz1, hQ, hS, hE⟩

/-- A LOOP: its states are S g; each round lowers μ g. -/
theorem loop_rule {γ : Type} (S : γ → AState) (Pre : γ → Prop) (μ : γ → Nat) {c : Code} {Q : Exit → AState → Prop} {s : AState} (g0 : γ) (h0 : Pre g0) (hw : Wk n0 s (S g0))
    (step : ∀ g, Pre g → awp P n0 top c (thenA (fun s1 => ∃ g', Pre g' ∧ Wk n0 s1 (S g') ∧ μ g' < μ g) Q) (S g)) : AW P n0 top (.loop c) Q s := by
  intro F n hF ht w0 nb ρ fz a w hs hn hb1 hb2
  obtain ⟨hs0, hE0⟩ := hw.ok hs
  refine wpIn_loop_known (γ := γ) (I := fun g a' w' => Pre g ∧ ∃ ρ' fz', SRel w0 nb ρ' fz' (S g) a' w' ∧ Ev w0 n0 ρ s.σ fz w ρ' (S g).σ fz' w') μ (g0 := g0) ⟨h0, ρ, fz, hs0, hE0⟩ ?_
  rintro g a1 w1 ⟨hp, ρ1, fz1, hs1, hE1⟩
  refine wpIn_mono (awp_ok c _ _ (step g hp) F n hF ht w0 nb ρ1 fz1 a1 w1 hs1 hE1.len' hb1 (Nat.le_trans hb2 hE1.size)) ?_
  rintro e a2 w2 ⟨s2, ρ2, fz2, hQ, hS, hE⟩
  cases e with
  | normal =>
    obtain ⟨g', hp', hw', hm⟩ := hQ
    obtain ⟨hs3, hE3⟩ := hw'.ok hS
    exact ⟨g', ⟨hp', ρ2, fz2, hs3, (hE1.trans hE).trans hE3⟩, hm⟩
  | _ => exact ⟨s2, ρ2, fz2, hQ, hS, hE1.trans hE⟩

/-! ### A function -/
def aRes (P : Program) (t : List AV) (σ : AHeap) : List ResultVar → (List AV → Prop) → Prop
  | [], K => K []
  | .tmp i :: rs, K => aRes P t σ rs fun l => K (ev t (.tmp i) :: l)
  | .cell i ty :: rs, K => aLoad P ty (ev t (.tmp i)) σ fun r _ => aRes P t σ rs fun l => K (r :: l)

def resV : List AV → AV
  | [r] => r
  | l => .tup l

def rvOf (tmps : Array Value) : ResultVar → Sem Value
  | .tmp t => pure (tmps.getD t undef)
  | .cell a t => do loadVar t (← asAddr (tmps.getD a undef))

theorem aRes_ok {w0 : World} {ρ : Nat → Nat × Nat} {σ : AHeap} {fz : Nat → Prop} {w : World} (h : HRel w0 ρ fz σ w) {t : List AV} {a : Act} (ht : TRel ρ σ fz w t a.tmps) : ∀ (rs : List ResultVar) (K : List AV → Prop), aRes P t σ rs K →
    ∃ l vs, (rs.mapM (rvOf a.tmps)).run P w = .ok vs w ∧ K l ∧ vs.length = l.length ∧ vs.length = rs.length ∧ ∀ j (hj : j < l.length), R ρ σ fz w l[j] (vs.getD j undef)
  | [], K, hK => ⟨[], [], rfl, hK, rfl, rfl, fun j hj => by simp at hj⟩
  | .tmp i :: rs, K, hK => by
    obtain ⟨l, vs, h1, h2, h3, h4, h5⟩ := aRes_ok h ht rs _ hK
    refine ⟨_, a.tmps.getD i undef :: vs, by simp [List.mapM_cons, rvOf, h1], h2, by simp [h3], by simp [h4], fun j hj => ?_⟩
    cases j with
    | zero => exact ev_ok ht (.tmp i)
    | succ j => simpa using h5 j (by simpa using hj)
  | .cell i ty :: rs, K, hK => by
    simp only [aRes] at hK
    have hx := ev_ok ht (.tmp i)
    obtain ⟨ad, u, r, hv, hr, hR, hK⟩ := load_same (P := P) h hx hK
    obtain ⟨l, vs, h1, h2, h3, h4, h5⟩ := aRes_ok h ht rs _ hK
    have hv' : a.tmps.getD i undef = .pointer (some ad) := hv
    refine ⟨r :: l, u :: vs, by simp [List.mapM_cons, rvOf, hv', asAddr, hr, h1], h2, by simp [h3], by simp [h4], fun j hj => ?_⟩
    cases j with
    | zero => exact hR
    | succ j => simpa using h5 j (by simpa using hj)

theorem results_eq (fn : Func) (tmps : Array Value) : results fn tmps = (do
    let vs ← fn.results.mapM (rvOf tmps)
    pure (if h : vs.size = 1 then vs[0] else .tuple vs)) := by
  unfold results
  congr 1

theorem results_ok {w0 : World} {ρ : Nat → Nat × Nat} {σ : AHeap} {fz : Nat → Prop} {w : World} (h : HRel w0 ρ fz σ w) {t : List AV} {a : Act} (ht : TRel ρ σ fz w t a.tmps) {fn : Func} {K : List AV → Prop} (hK : aRes P t σ fn.results.toList K) :
    ∃ l v, (results fn a.tmps).run P w = .ok v w ∧ K l ∧ R ρ σ fz w (resV l) v := by
  obtain ⟨l, vs, h1, h2, h3, h4, h5⟩ := aRes_ok h ht fn.results.toList K hK
  refine ⟨l, if h : vs.length = 1 then vs[0] else .tuple vs.toArray, ?_, h2, ?_⟩
  · rw [results_eq]
    simp only [Array.mapM_eq_mapM_toList, Sem.run_bind, Sem.run_map, h1, Result.andThen_ok, Sem.run_pure]
    congr 1
  · by_cases hl : vs.length = 1
    · rw [dif_pos hl]
      have hll : l.length = 1 := by omega
      match l, hll with
      | [r], _ =>
        have := h5 0 (by simp)
        simpa [resV, List.getD, hl] using this
    · rw [dif_neg hl]
      have : resV l = .tup l := by
        match l, (show l.length ≠ 1 by omega) with
        | [], _ => rfl
        | _ :: _ :: _, _ => rfl
      rw [this]
      exact .tup _ _ (by simpa using h3) fun j hj => by simpa [Array.getD_eq_getD_getElem?, List.getD_eq_getElem?_getD] using h5 j hj

/-! ### A call of a function with a body, gone into -/
theorem HRel.putObj {w0 : World} {ρ : Nat → Nat × Nat} {σ : AHeap} {fz : Nat → Prop} {w : World} (h : HRel w0 ρ fz σ w) {l : Nat} {o o' : Obj} (hl : w.heap[l]? = some o) (hc : o.isCells = false) (hb : w0.heap.size ≤ l)
    (hf : ¬ fz l) : HRel w0 ρ fz σ (w.putObj l o') := by
  have other : ∀ {k : Nat} {c : Array Value} {e : TypeId} {fr : Nat × Nat}, w.heap[k]? = some (.cells c e fr) → (w.putObj l o').heap[k]? = w.heap[k]? := fun {k c e fr} hk => by
    refine World.putObj_heap_other fun hh => ?_
    subst hh; rw [hl] at hk; cases hk; cases hc
  have cell : ∀ k, fz k → (w.putObj l o').heap[k]? = w.heap[k]? := fun k hk => World.putObj_heap_other fun hh => hf (hh ▸ hk)
  have hsz : (w.putObj l o').heap.size = w.heap.size := by simp
  have E : Ev w0 σ.length ρ σ fz w ρ σ fz w := Ev.refl _ _ _ _ (Nat.le_refl _)
  have hR : ∀ {x : AV} {v : Value}, R ρ σ fz w x v → R ρ σ fz (w.putObj l o') x v := by
    intro x v hx
    induction hx with
    | pure x v h => exact .pure _ _ (h.keep (fun _ h => h) cell)
    | po i ver off blk v hb hle h1 hv => exact .po _ _ _ blk _ hb hle h1 hv
    | so i ver off n sz cap blk v hb hle h1 hv =>
      refine .so _ _ _ _ _ _ blk _ hb hle h1 fun hver hd => ?_
      obtain ⟨a, c, q1, q2, q3, q4, cells, e, fr, q5, q6⟩ := hv hver hd
      exact ⟨a, c, q1, q2, q3, q4, cells, e, fr, (other q5).trans q5, q6⟩
    | agg cs arr hl h1 hR ih => exact .agg _ _ hl h1 ih
    | tup cs arr hl hR ih => exact .tup _ _ hl ih
    | fn f cs ds arr brr hl hl' hR hR' ih ih' => exact .fn _ _ _ _ _ hl hl' ih ih'
    | ifc t x u h ih => exact .ifc _ _ _ ih
  refine ⟨h.below.trans ⟨rfl, rfl, rfl, by rw [hsz]; exact Nat.le_refl _, fun k hk => World.putObj_heap_other (by omega)⟩, ⟨fun k hk => by rw [hsz]; exact h.fzlt k hk, h.fzlt.gl.keep (fun _ h => h) cell⟩, ?_, h.inj⟩
  intro i blk hb hd
  obtain ⟨cells, e, q1, q2, q3, q4, q5, q6⟩ := h.blk i blk hb hd
  refine ⟨cells, e, (other q1).trans q1, q2, q3, q4, q5, fun j hj => ?_⟩
  obtain ⟨u, hu, h1, hx⟩ := q6 j hj
  exact ⟨u, hu, h1, hR hx⟩

theorem R.putObj {ρ : Nat → Nat × Nat} {σ : AHeap} {fz : Nat → Prop} {w : World} {l : Nat} {o o' : Obj} (hl : w.heap[l]? = some o) (hc : o.isCells = false) (hf : ¬ fz l) {x : AV} {v : Value} (hx : R ρ σ fz w x v) : R ρ σ fz (w.putObj l o') x v := by
  have other : ∀ {k : Nat} {c : Array Value} {e : TypeId} {fr : Nat × Nat}, w.heap[k]? = some (.cells c e fr) → (w.putObj l o').heap[k]? = w.heap[k]? := fun {k c e fr} hk => by
    refine World.putObj_heap_other fun hh => ?_
    subst hh; rw [hl] at hk; cases hk; cases hc
  have cell : ∀ k, fz k → (w.putObj l o').heap[k]? = w.heap[k]? := fun k hk => World.putObj_heap_other fun hh => hf (hh ▸ hk)
  induction hx with
  | pure x v h => exact .pure _ _ (h.keep (fun _ h => h) cell)
  | po i ver off blk v hb hle h1 hv => exact .po _ _ _ blk _ hb hle h1 hv
  | so i ver off n sz cap blk v hb hle h1 hv =>
    refine .so _ _ _ _ _ _ blk _ hb hle h1 fun hver hd => ?_
    obtain ⟨a, c, q1, q2, q3, q4, cells, e, fr, q5, q6⟩ := hv hver hd
    exact ⟨a, c, q1, q2, q3, q4, cells, e, fr, (other q5).trans q5, q6⟩
  | agg cs arr hl h1 hR ih => exact .agg _ _ hl h1 ih
  | tup cs arr hl hR ih => exact .tup _ _ hl ih
  | fn f cs ds arr brr hl hl' hR hR' ih ih' => exact .fn _ _ _ _ _ hl hl' ih ih'
  | ifc t x u h ih => exact .ifc _ _ _ ih

def enterT (args : List AV) (n : Nat) : List AV := args ++ List.replicate (n - args.length) .any

theorem enter_rel {ρ : Nat → Nat × Nat} {σ : AHeap} {fz : Nat → Prop} {w : World} {args : List AV} {vs : Array Value} (h : RL ρ σ fz w args vs) (n : Nat) : TRel ρ σ fz w (enterT args n) (vs ++ Array.replicate (n - vs.size) undef) := by
  have hl := h.1
  refine ⟨by simp [enterT, hl], fun i hi => ?_⟩
  simp only [enterT, List.length_append, List.length_replicate] at hi
  rcases Nat.lt_or_ge i args.length with h1 | h1
  · have e : (vs ++ Array.replicate (n - vs.size) undef).getD i undef = vs.getD i undef := by
      simp only [Array.getD_eq_getD_getElem?]; rw [Array.getElem?_append_left (by omega)]
    rw [e]
    simp only [enterT, List.getElem_append_left h1]
    exact h.2 i h1
  · simp only [enterT, List.getElem_append_right h1, List.getElem_replicate]
    exact R.top _

theorem leave_marks {F : Fence} (hF : Wd F) {n : Nat} {fn : Func} {tmps : Array Value} {RR : Ending → World → Prop} {w0 : World} {nb : Nat} {ρ : Nat → Nat × Nat} {σ : AHeap} {fz : Nat → Prop} (hnb : w0.heap.size ≤ nb)   :
    ∀ (Ds : List Nat) (w : World), Ds.Nodup → (∀ D ∈ Ds, w.heap[D]? = some (.deferred (some [])) ∧ nb ≤ D ∧ ¬ fz D) → HRel w0 ρ fz σ w →
      (∀ w', HRel w0 ρ fz σ w' → (∀ k, k < nb → w'.heap[k]? = w.heap[k]?) → w.heap.size = w'.heap.size → (∀ (k : Nat) (c : Array Value) (e : TypeId) (fr : Nat × Nat), w.heap[k]? = some (.cells c e fr) → w'.heap[k]? = some (.cells c e fr)) → (∀ x u, R ρ σ fz w x u → R ρ σ fz w' x u) → ∃ v, (results fn tmps).run P w' = .ok v w' ∧ RR (.returned v) w') →
      LeavesInM F n P fn tmps RR (Ds.map fun D => { target := .collected D, args := #[] }) .returning w
  | [], w, _, _, h, hq => by
    exact hq w h (fun _ _ => rfl) rfl (fun _ _ _ _ h => h) (fun _ _ h => h)
  | D :: Ds, w, hnd, hD, h, hq => by
    obtain ⟨hd1, hd2, hff⟩ := hD D (by simp)
    have hnd' := List.nodup_cons.1 hnd
    refine ⟨by simp, .inl ⟨D, _, rfl, run_takeDeferred hd1, ?_⟩⟩
    refine leave_marks hF hnb Ds _ hnd'.2 (fun D' hD' => ?_) (h.putObj hd1 rfl (by omega) hff) ?_
    · have hne : D' ≠ D := fun hh => hnd'.1 (hh ▸ hD')
      exact ⟨(World.putObj_heap_other (by first | exact hne | exact Ne.symm hne)).trans (hD D' (by simp [hD'])).1, (hD D' (by simp [hD'])).2⟩
    · intro w' hh hk hs hc hx
      refine hq w' hh (fun k hk' => (hk k hk').trans (World.putObj_heap_other (by omega))) (by rw [← hs]; simp) (fun k c e fr hkc => hc k c e fr ((World.putObj_heap_other fun hh => ?_).trans hkc)) (fun x u hxu => hx x u (hxu.putObj hd1 rfl hff))
      subst hh; rw [hd1] at hkc; cases hkc

/-- A CALL OF A FUNCTION WITH A BODY: its body is walked. -/
theorem acall_body {g : FuncId} {fn : Func} {c : Code} (hf : P.funcs[g]? = some fn) (hb : fn.body = some c) (hname : (fn.name == "runtime.NumGoroutine") = false) {args : List AV} {σ : AHeap} {K : AV → AHeap → Prop}
    (h : awp P σ.length true c (fun e s' => (e = .normal ∨ e = .ret) ∧ aRes P s'.t s'.σ fn.results.toList fun l => K (resV l) s'.σ) ⟨enterT args fn.ntmps, σ⟩) : ACall P g args σ K := by
  intro w0 ρ fz w vs hh hr
  have hname' : ¬ fn.name = "runtime.NumGoroutine" := by simpa using hname
  refine .inl ⟨by simp [callFunc, hf, hname', hb], (Wd.callsIn wd_wide (n := 10)).1 ?_⟩
  refine callsIn_of_wp_marks hf hb trivial (wpIn_mono (awp_ok c _ _ h Fence.wide 10 wd_wide (fun _ => rfl) w0 w.heap.size ρ fz { tmps := vs ++ Array.replicate (fn.ntmps - vs.size) undef, defers := [] } w
    ⟨hh, enter_rel hr _, [], rfl, List.nodup_nil, fun D hD => by cases hD⟩ (Nat.le_refl _) hh.le (Nat.le_refl _)) ?_)
  rintro e a' w' ⟨s', ρ', fz', ⟨he, hres⟩, hS, hE⟩
  obtain ⟨Ds, hds, hnd, hD⟩ := hS.m
  have hDf : ∀ D ∈ Ds, w'.heap[D]? = some (.deferred (some [])) ∧ w.heap.size ≤ D ∧ ¬ fz' D := fun D hDD => by
    obtain ⟨h1, h2⟩ := hD D hDD
    refine ⟨h1, h2, fun hf => ?_⟩
    rcases hE.fzn D hf with hf | ⟨_, c, el, fr, hc⟩
    · have := hh.fzlt D hf; omega
    · rw [h1] at hc; cases hc
  have main : LeavesInM Fence.wide 10 P fn a'.tmps (fun e w' => ∃ v r σ' ρ' fz', e = .returned v ∧ K r σ' ∧ HRel w0 ρ' fz' σ' w' ∧ R ρ' σ' fz' w' r v ∧ Ev w0 σ.length ρ σ fz w ρ' σ' fz' w') a'.defers .returning w' := by
    rw [hds]
    refine leave_marks wd_wide hh.le Ds w' hnd hDf hS.h ?_
    intro w2 hh2 hold hsz hcells hRR
    have ht2 : TRel ρ' s'.σ fz' w2 s'.t a'.tmps := ⟨hS.t.len, fun i hi => hRR _ _ (hS.t.at_ i hi)⟩
    obtain ⟨l, v, hrun, hK, hR⟩ := results_ok hh2 ht2 hres
    have lt : ∀ {k : Nat} {o : Obj}, w.heap[k]? = some o → k < w.heap.size := fun hk => (Array.getElem?_eq_some_iff.1 hk).1
    refine ⟨v, hrun, v, _, s'.σ, ρ', fz', rfl, hK, hh2, hR, ⟨hE.len, hE.len', hE.blk, hE.fzm, ?_, ?_, ?_, ?_, ?_⟩⟩
    · intro k hk
      rcases hE.fzn k hk with h1 | ⟨h1, c, e, fr, h2⟩
      · exact .inl h1
      · exact .inr ⟨h1, c, e, fr, hcells _ _ _ _ h2⟩
    · intro k hk; exact (hold k (hh.fzlt k hk)).trans (hE.fzs k hk)
    · rw [← hsz]; exact hE.size
    · intro k o hk ho; exact (hold k (lt hk)).trans (hE.same k o hk ho)
    · intro k c e fr hk
      obtain ⟨c', fr', h1, h2⟩ := hE.cells k c e fr hk
      exact ⟨c', fr', hcells _ _ _ _ h1, h2⟩
  rcases he with rfl | rfl <;> exact main
end
end Go.Proofs.Va
/- VA, part 12: contracts of functions whose answers lead to no block that is written again. -/
set_option linter.unusedVariables false
set_option linter.unusedSimpArgs false
namespace Go.Proofs.Va
open Go Go.RowKit

/-- What names no block of the call's own. -/
inductive Pu : AV → Prop
  | v (x : Value) : Pu (.v x)
  | any : Pu .any
  | nan : Pu .nan
  | pl (nl : Bool) (cs : List AV) (k : Nat) (cap : Option Nat) : Pu (.pl nl cs k cap)
  | pp (cs : List AV) (off : Nat) : Pu (.pp cs off)
  | agg (cs : List AV) (h : ∀ j (h : j < cs.length), Pu cs[j]) : Pu (.agg cs)
  | tup (cs : List AV) (h : ∀ j (h : j < cs.length), Pu cs[j]) : Pu (.tup cs)
  | fn (f : Fn) (cs ds : List AV) (h : ∀ j (h : j < cs.length), Pu cs[j]) (h' : ∀ j (h : j < ds.length), Pu ds[j]) : Pu (.fn f cs ds)
  | ifc (t : TypeId) (x : AV) (h : Pu x) : Pu (.ifc t x)

/-- x, where the blocks of S are written no more, is y. -/
inductive Pur (σ : AHeap) (S : Nat → Prop) : AV → AV → Prop
  | same (x : AV) (h : Pu x) : Pur σ S x x
  | so (i ver off n sz : Nat) (cap : Option Nat) (b : ABlk) (cs : List AV) (hb : σ[i]? = some b) (hv : b.ver = ver) (hk : b.kind ≠ .dead) (hS : S i) (hl : off + n * sz ≤ b.cells.length)
      (hcl : cs.length = n * sz) (h : ∀ j (hj : j < cs.length), Pur σ S (b.cells.getD (off + j) .any) cs[j]) : Pur σ S (.so i ver off n sz cap) (.pl false cs n cap)
  | po (i ver off : Nat) (b : ABlk) (cs : List AV) (hb : σ[i]? = some b) (hv : b.ver = ver) (hk : b.kind ≠ .dead) (hS : S i) (hcl : cs.length = b.cells.length)
      (h : ∀ j (hj : j < cs.length), Pur σ S (b.cells.getD j .any) cs[j]) : Pur σ S (.po i ver off) (.pp cs off)
  | agg (cs ds : List AV) (hl : ds.length = cs.length) (h : ∀ j (hj : j < ds.length), Pur σ S (cs.getD j .any) ds[j]) : Pur σ S (.agg cs) (.agg ds)
  | tup (cs ds : List AV) (hl : ds.length = cs.length) (h : ∀ j (hj : j < ds.length), Pur σ S (cs.getD j .any) ds[j]) : Pur σ S (.tup cs) (.tup ds)
  | fn (f : Fn) (cs ds es fs : List AV) (hl : ds.length = cs.length) (hl' : fs.length = es.length) (h : ∀ j (hj : j < ds.length), Pur σ S (cs.getD j .any) ds[j])
      (h' : ∀ j (hj : j < fs.length), Pur σ S (es.getD j .any) fs[j]) : Pur σ S (.fn f cs es) (.fn f ds fs)
  | ifc (t : TypeId) (x y : AV) (h : Pur σ S x y) : Pur σ S (.ifc t x) (.ifc t y)

section
variable {P : Program} {w0 : World} {ρ : Nat → Nat × Nat} {σ : AHeap} {fz : Nat → Prop} {w : World}

theorem R.toRp {x : AV} {v : Value} (h : R ρ σ fz w x v) : Pu x → Rp fz w x v := by
  induction h with
  | pure x v h => exact fun _ => h
  | po i ver off blk v hb hle h1 hv => intro h; cases h
  | so i ver off n sz cap blk v hb hle h1 hv => intro h; cases h
  | agg cs arr hl h1 hR ih => intro h; cases h with | agg _ h => exact .agg _ _ hl h1 fun j hj => ih j hj (h j hj)
  | tup cs arr hl hR ih => intro h; cases h with | tup _ h => exact .tup _ _ hl fun j hj => ih j hj (h j hj)
  | fn f cs ds arr brr hl hl' hR hR' ih ih' => intro h; cases h with | fn _ _ _ h h' => exact .fn _ _ _ _ _ hl hl' (fun j hj => ih j hj (h j hj)) (fun j hj => ih' j hj (h' j hj))
  | ifc t x u h ih => intro h; cases h with | ifc _ _ h => exact .ifc _ _ _ (ih h)

/-- The blocks that are written no more, those of S too. -/
def fzS (ρ : Nat → Nat × Nat) (σ : AHeap) (fz S : Nat → Prop) : Nat → Prop := fun k => fz k ∨ ∃ i b, S i ∧ σ[i]? = some b ∧ b.kind ≠ .dead ∧ k = (ρ i).1

theorem getD_eq {cs : List AV} {j : Nat} (h : j < cs.length) : cs.getD j .any = cs[j] := by simp [List.getD, h]

theorem Pur.ok (hh : HRel w0 ρ fz σ w) {S : Nat → Prop} {x y : AV} (h : Pur σ S x y) : ∀ {v : Value}, R ρ σ fz w x v → Rp (fzS ρ σ fz S) w y v := by
  induction h with
  | same x h => exact fun hR => (hR.toRp h).keep (fun _ h => .inl h) (fun _ _ => rfl)
  | so i ver off n sz cap b cs hb hv hk hS hl hcl h ih =>
    intro v hR
    obtain ⟨b', hb', hle, _, hval⟩ := hR.so_inv
    rw [hb] at hb'; cases hb'
    obtain ⟨a, c, rfl, hnc, hcap, ha, hroom⟩ := hval hv hk
    obtain ⟨cells, e, hw, hbase, hlen, _, _, hc⟩ := hh.blk i b hb hk
    let us : Nat → Value := fun j => cells.getD ((ρ i).2 + (off + j)) undef
    have hus : ∀ j, j < n * sz → cells[(ρ i).2 + (off + j)]? = some (us j) ∧ (us j).oneCell' = true ∧ R ρ σ fz w (b.cells.getD (off + j) .any) (us j) := fun j hj => by
      obtain ⟨u, hu, h1, hR⟩ := hc (off + j) (by omega)
      have hq : cells[(ρ i).2 + (off + j)]? = some (us j) := get_of_getD (Array.getElem?_eq_some_iff.1 hu).1
      rw [hu] at hq
      have hq' := Option.some.inj hq
      rw [getD_eq (by omega)]
      exact ⟨by rw [hu, hq'], by rw [← hq']; exact h1, by rw [← hq']; exact hR⟩
    refine .pl false cs n cap (some a) c (ρ i).1 ((ρ i).2 + off) us rfl (fun h => by cases h) hnc hcap (fun hp => ?_) (fun _ => .inr ⟨i, b, hS, hb, hk, rfl⟩) (fun j hj => ?_) (fun j hj => (hus j (by omega)).2.1) (fun j hj => ih j hj (hus j (by omega)).2.2) (fun _ _ _ => ⟨cells, e, hw⟩)
    · have : 0 < c := by
        rcases Nat.eq_zero_or_pos c with h0 | h0
        · have : n = 0 := by omega
          rw [this, Nat.zero_mul] at hcl; omega
        · exact h0
      rw [ha this]
    · have := (hus j (by omega)).1
      rw [← Nat.add_assoc] at this
      simp [World.cell?, hw, this]
  | po i ver off b cs hb hv hk hS hcl h ih =>
    intro v hR
    obtain ⟨b', hb', hle, _, hval⟩ := hR.po_inv
    rw [hb] at hb'; cases hb'
    rw [hval hv hk]
    obtain ⟨cells, e, hw, hbase, hlen, _, _, hc⟩ := hh.blk i b hb hk
    let us : Nat → Value := fun j => cells.getD ((ρ i).2 + j) undef
    have hus : ∀ j, j < b.cells.length → cells[(ρ i).2 + j]? = some (us j) ∧ (us j).oneCell' = true ∧ R ρ σ fz w (b.cells.getD j .any) (us j) := fun j hj => by
      obtain ⟨u, hu, h1, hR⟩ := hc j hj
      have hq : cells[(ρ i).2 + j]? = some (us j) := get_of_getD (Array.getElem?_eq_some_iff.1 hu).1
      rw [hu] at hq
      have hq' := Option.some.inj hq
      rw [getD_eq hj]
      exact ⟨by rw [hu, hq'], by rw [← hq']; exact h1, by rw [← hq']; exact hR⟩
    exact .pp cs off (ρ i).1 (ρ i).2 us (fun _ => .inr ⟨i, b, hS, hb, hk, rfl⟩) (fun j hj => by simp [World.cell?, hw, (hus j (by omega)).1]) (fun j hj => (hus j (by omega)).2.1) (fun j hj => ih j hj (hus j (by omega)).2.2)
  | agg cs ds hl h ih =>
    intro v hR
    obtain ⟨arr, rfl, hs, h1, hR⟩ := hR.agg_inv
    refine .agg ds arr (by omega) (fun j hj => h1 j (by omega)) fun j hj => ih j hj ?_
    rw [getD_eq (by omega)]; exact hR j (by omega)
  | tup cs ds hl h ih =>
    intro v hR
    obtain ⟨arr, rfl, hs, hR⟩ := hR.tup_inv
    refine .tup ds arr (by omega) fun j hj => ih j hj ?_
    rw [getD_eq (by omega)]; exact hR j (by omega)
  | fn f cs ds es fs hl hl' h h' ih ih' =>
    intro v hR
    obtain ⟨arr, brr, rfl, hs, hs', hR, hR'⟩ := hR.fn_inv
    refine .fn f ds fs arr brr (by omega) (by omega) (fun j hj => ih j hj ?_) (fun j hj => ih' j hj ?_)
    · rw [getD_eq (by omega)]; exact hR j (by omega)
    · rw [getD_eq (by omega)]; exact hR' j (by omega)
  | ifc t x y h ih =>
    intro v hR
    obtain ⟨u, rfl, hR'⟩ := hR.ifc_inv
    exact .ifc t y u (ih hR')

def RpL (fz : Nat → Prop) (w : World) (args : List AV) (vs : Array Value) : Prop := vs.size = args.length ∧ ∀ j (h : j < args.length), Rp fz w args[j] (vs.getD j undef)

/-- A FUNCTION's CONTRACT: its arguments lead to memory that nobody writes; so does its answer; of what was there nothing turns. -/
def Ctr (P : Program) (g : FuncId) (args : List AV) (Post : AV → Prop) : Prop :=
  ∀ (fz : Nat → Prop) (w : World) (vs : Array Value), FzLt fz w → RpL fz w args vs →
    ((callFunc g vs).run P w = .ok (.enter g vs) w ∧ Calls P g vs w fun e w' => ∃ v r fz', e = .returned v ∧ Post r ∧ Rp fz' w' r v ∧ Below w.heap.size w w' ∧ (∀ k, fz k → fz' k) ∧ (∀ k, fz' k → k < w'.heap.size) ∧
      ∀ k, fz' k → fz k ∨ (w.heap.size ≤ k ∧ ∃ c e fr, w'.heap[k]? = some (.cells c e fr))) ∨
    (∃ v w' r fz', (callFunc g vs).run P w = .ok (.value v) w' ∧ Post r ∧ Rp fz' w' r v ∧ Below w.heap.size w w' ∧ (∀ k, fz k → fz' k) ∧ (∀ k, fz' k → k < w'.heap.size) ∧
      ∀ k, fz' k → fz k ∨ (w.heap.size ≤ k ∧ ∃ c e fr, w'.heap[k]? = some (.cells c e fr)))

theorem Ctr.mono {g : FuncId} {args : List AV} {Post Post' : AV → Prop} (h : Ctr P g args Post) (hp : ∀ r, Post r → Post' r) : Ctr P g args Post' := by
  intro fz w vs hf hr
  rcases h fz w vs hf hr with ⟨h1, h2⟩ | ⟨v, w', r, fz', h1, h2, h3⟩
  · exact .inl ⟨h1, h2.mono fun e w' ⟨v, r, fz', he, hK, hx⟩ => ⟨v, r, fz', he, hp _ hK, hx⟩⟩
  · exact .inr ⟨v, w', r, fz', h1, hp _ h2, h3⟩

/-- From a walk that begins without a block of its own. -/
theorem ctr_of {g : FuncId} {args : List AV} {Post : AV → Prop} (h : ACall P g args [] fun r σ' => ∃ r', Pur σ' (fun _ => True) r r' ∧ Post r') : Ctr P g args Post := by
  intro fz w vs hf hr
  have hh : HRel w (fun _ => (0, 0)) fz [] w := ⟨Below.refl _ _, hf, fun i b hb => by simp at hb, fun i j bi bj hi => by simp at hi⟩
  have fin : ∀ {v : Value} {r : AV} {σ' : AHeap} {ρ' : Nat → Nat × Nat} {fz' : Nat → Prop} {w' : World}, (∃ r', Pur σ' (fun _ => True) r r' ∧ Post r') → HRel w ρ' fz' σ' w' → R ρ' σ' fz' w' r v → Ev w 0 (fun _ => (0, 0)) [] fz w ρ' σ' fz' w' →
      ∃ r' fz2, Post r' ∧ Rp fz2 w' r' v ∧ Below w.heap.size w w' ∧ (∀ k, fz k → fz2 k) ∧ (∀ k, fz2 k → k < w'.heap.size) ∧ ∀ k, fz2 k → fz k ∨ (w.heap.size ≤ k ∧ ∃ c e fr, w'.heap[k]? = some (.cells c e fr)) := by
    intro v r σ' ρ' fz' w' ⟨r', hp, hP⟩ hH hR hE
    refine ⟨r', fzS ρ' σ' fz' (fun _ => True), hP, hp.ok hH hR, hH.below, fun k hk => .inl (hE.fzm k hk), ?_, ?_⟩
    · rintro k (hk | ⟨i, b, _, hb, hd, rfl⟩)
      · exact hH.fzlt k hk
      · obtain ⟨c, e, h1, _⟩ := hH.blk i b hb hd
        exact (Array.getElem?_eq_some_iff.1 h1).1
    · rintro k (hk | ⟨i, b, _, hb, hd, rfl⟩)
      · exact hE.fzn k hk
      · obtain ⟨c, e, h1, h2, _⟩ := hH.blk i b hb hd
        exact .inr ⟨h2, c, e, _, h1⟩
  rcases h w (fun _ => (0, 0)) fz w vs hh ⟨hr.1, fun j hj => .pure _ _ (hr.2 j hj)⟩ with ⟨h1, h2⟩ | ⟨v, w', r, σ', ρ', fz', h1, h2, h3, h4, h5⟩
  · refine .inl ⟨h1, h2.mono ?_⟩
    rintro e w' ⟨v, r, σ', ρ', fz', rfl, hK, hH, hR, hE⟩
    obtain ⟨r', fz2, q⟩ := fin hK hH hR hE
    exact ⟨v, r', fz2, rfl, q⟩
  · obtain ⟨r', fz2, q⟩ := fin h2 h3 h4 h5
    exact .inr ⟨v, w', r', fz2, h1, q⟩

/-- Of what was there nothing turns: the call's own blocks are as they were. -/
theorem HRel.grow (h : HRel w0 ρ fz σ w) {fz' : Nat → Prop} {w' : World} (hb : Below w.heap.size w w') (hm : ∀ k, fz k → fz' k) (hl : ∀ k, fz' k → k < w'.heap.size) (hn : ∀ k, fz' k → fz k ∨ (w.heap.size ≤ k ∧ ∃ c e fr, w'.heap[k]? = some (.cells c e fr))) :
    HRel w0 ρ fz' σ w' ∧ Ev w0 σ.length ρ σ fz w ρ σ fz' w' := by
  have lt : ∀ {k : Nat} {o : Obj}, w.heap[k]? = some o → k < w.heap.size := fun hk => (Array.getElem?_eq_some_iff.1 hk).1
  have hle := h.le
  have E : Ev w0 σ.length ρ σ fz w ρ σ fz' w' := by
    refine ⟨Nat.le_refl _, Nat.le_refl _, fun i _ b b' hb hb' => ?_, hm, fun k hk => ?_, fun k hk => hb.block k (h.fzlt k hk), hb.size, fun k o hk _ => (hb.block k (lt hk)).trans hk, fun k c e fr hk => ⟨c, fr, (hb.block k (lt hk)).trans hk, rfl⟩⟩
    · rw [hb] at hb'; cases hb'
      exact ⟨Nat.le_refl _, fun _ hd => ⟨hd, rfl⟩⟩
    · rcases hn k hk with h1 | ⟨h1, h2⟩
      · exact .inl h1
      · exact .inr ⟨by omega, h2⟩
  refine ⟨⟨h.below.trans (hb.mono hle), ⟨hl, h.fzlt.gl.keep E.fzm E.fzs⟩, ?_, h.inj⟩, E⟩
  intro i blk hbk hd
  obtain ⟨cells, e, q1, q2, q3, q4, q5, q6⟩ := h.blk i blk hbk hd
  refine ⟨cells, e, (hb.block _ (lt q1)).trans q1, q2, q3, fun hk hf => ?_, fun hk => hm _ (q5 hk), fun j hj => ?_⟩
  · rcases hn _ hf with h1 | ⟨h1, _⟩
    · exact q4 hk h1
    · have := lt q1; omega
  · obtain ⟨u, hu, h1, hR⟩ := q6 j hj
    exact ⟨u, hu, h1, hR.ev E hR.sc⟩

/-- A call by the contract; the arguments name no block of the call's own. -/
theorem acall_ctr {g : FuncId} {args : List AV} {Post : AV → Prop} {K : AV → AHeap → Prop} (h : Ctr P g args Post) (hp : ∀ j (hj : j < args.length), Pu args[j]) (hK : ∀ r, Post r → K r σ) : ACall P g args σ K := by
  intro w0 ρ fz w vs hh hr
  rcases h fz w vs hh.fzlt ⟨hr.1, fun j hj => (hr.2 j hj).toRp (hp j hj)⟩ with ⟨h1, h2⟩ | ⟨v, w', r, fz', h1, h2, h3, h4, h5, h6, h7⟩
  · refine .inl ⟨h1, h2.mono ?_⟩
    rintro e w' ⟨v, r, fz', rfl, hP, hR, hb, hm, hl, hn⟩
    obtain ⟨hh', hE⟩ := hh.grow hb hm hl hn
    exact ⟨v, r, σ, ρ, fz', rfl, hK r hP, hh', .pure _ _ hR, hE⟩
  · obtain ⟨hh', hE⟩ := hh.grow h4 h5 h6 h7
    exact .inr ⟨v, w', r, σ, ρ, fz', h1, hK r h2, hh', .pure _ _ h3, hE⟩

/-- Some of the call's own blocks are written no more. -/
def froze (σ : AHeap) (ids : List Nat) : AHeap := σ.mapIdx fun i b => if ids.contains i && b.kind == .own then { b with kind := .ro } else b

theorem froze_get (ids : List Nat) (i : Nat) : (froze σ ids)[i]? = (σ[i]?).map fun b => if ids.contains i && b.kind == .own then { b with kind := .ro } else b := by simp [froze]
theorem froze_length (ids : List Nat) : (froze σ ids).length = σ.length := by simp [froze]

theorem HRel.froze (h : HRel w0 ρ fz σ w) (ids : List Nat) : HRel w0 ρ (fzS ρ σ fz (· ∈ ids)) (froze σ ids) w ∧ Ev w0 σ.length ρ σ fz w ρ (froze σ ids) (fzS ρ σ fz (· ∈ ids)) w := by
  have get : ∀ {i : Nat} {b' : ABlk}, (Va.froze σ ids)[i]? = some b' → ∃ b, σ[i]? = some b ∧ b'.ver = b.ver ∧ b'.cells = b.cells ∧ (b'.kind ≠ .dead → b.kind ≠ .dead) ∧ (b'.kind = .own → b.kind = .own ∧ i ∉ ids) ∧ (b'.kind = .ro → b.kind = .ro ∨ i ∈ ids) := by
    intro i b' hb'
    rw [froze_get] at hb'
    obtain ⟨b, hb, rfl⟩ := Option.map_eq_some_iff.1 hb'
    refine ⟨b, hb, ?_⟩
    by_cases hc : (ids.contains i && b.kind == .own) = true
    · rw [if_pos hc]
      simp at hc
      exact ⟨rfl, rfl, fun _ => by rw [hc.2]; decide, fun hh => by simp at hh, fun _ => .inr hc.1⟩
    · rw [if_neg hc]
      refine ⟨rfl, rfl, id, fun hh => ⟨hh, fun hm => hc (by simp [hm, hh])⟩, fun hh => .inl hh⟩
  have E : Ev w0 σ.length ρ σ fz w ρ (Va.froze σ ids) (fzS ρ σ fz (· ∈ ids)) w := by
    refine ⟨Nat.le_refl _, by rw [froze_length]; exact Nat.le_refl _, ?_, fun k hk => .inl hk, ?_, fun _ _ => rfl, Nat.le_refl _, fun _ _ h _ => h, fun _ c _ fr h => ⟨c, fr, h, rfl⟩⟩
    · intro i hi b b' hb hb'
      obtain ⟨b1, h1, h2, h3, h4, _⟩ := get hb'
      rw [hb] at h1; cases h1
      exact ⟨by omega, fun _ hd => ⟨h4 hd, rfl⟩⟩
    · rintro k (hk | ⟨i, b, _, hb, hd, rfl⟩)
      · exact .inl hk
      · obtain ⟨c, e, q1, q2, _⟩ := h.blk i b hb hd
        exact .inr ⟨q2, c, e, _, q1⟩
  refine ⟨⟨h.below, ⟨?_, h.fzlt.gl.keep E.fzm E.fzs⟩, ?_, ?_⟩, E⟩
  · rintro k (hk | ⟨i, b, _, hb, hd, rfl⟩)
    · exact h.fzlt k hk
    · obtain ⟨c, e, q1, _⟩ := h.blk i b hb hd
      exact (Array.getElem?_eq_some_iff.1 q1).1
  · intro i b' hb' hd
    obtain ⟨b, h1, h2, h3, h4, h5, h6⟩ := get hb'
    obtain ⟨cells, e, q1, q2, q3, q4, q5, q6⟩ := h.blk i b h1 (h4 hd)
    refine ⟨cells, e, q1, q2, by rw [h3]; exact q3, ?_, ?_, ?_⟩
    · intro hk
      obtain ⟨hk1, hni⟩ := h5 hk
      rintro (hf | ⟨i', b2, hm, hb2, hd2, he⟩)
      · exact q4 hk1 hf
      · cases hkk : b2.kind with
        | own => exact hni (by rw [h.inj i i' b b2 h1 hb2 hk1 hkk he]; exact hm)
        | ro => obtain ⟨_, _, _, _, _, _, p5, _⟩ := h.blk i' b2 hb2 hd2; exact q4 hk1 (he ▸ p5 hkk)
        | dead => exact hd2 hkk
    · intro hk
      rcases h6 hk with h7 | h7
      · exact .inl (q5 h7)
      · exact .inr ⟨i, b, h7, h1, h4 hd, rfl⟩
    · intro j hj
      have hj' : j < b.cells.length := by rw [← h3]; exact hj
      obtain ⟨u, hu, hone, hR⟩ := q6 j hj'
      refine ⟨u, hu, hone, ?_⟩
      have : b'.cells[j] = b.cells[j] := by congr 1
      rw [this]
      exact hR.ev E hR.sc
  · intro i j bi bj hi hj ki kj he
    obtain ⟨b1, h1, _, _, _, h5, _⟩ := get hi
    obtain ⟨b2, h2, _, _, _, h6, _⟩ := get hj
    exact h.inj i j b1 b2 h1 h2 (h5 ki).1 (h6 kj).1 he

/-- A call by the contract, behind which the blocks 'ids' are written no more. -/
theorem acall_froze {g : FuncId} {args args' : List AV} {Post : AV → Prop} {K : AV → AHeap → Prop} (ids : List Nat) (h : Ctr P g args' Post) (hl : args'.length = args.length)
    (hp : ∀ j (hj : j < args'.length), Pur σ (· ∈ ids) (args.getD j .any) args'[j]) (hK : ∀ r, Post r → K r (froze σ ids)) : ACall P g args σ K := by
  intro w0 ρ fz w vs hh hr
  obtain ⟨hh1, hE1⟩ := hh.froze ids
  have hargs : RpL (fzS ρ σ fz (· ∈ ids)) w args' vs := ⟨by rw [hr.1, hl], fun j hj => by
    have := hp j hj
    refine this.ok hh ?_
    rw [getD_eq (by omega)]; exact hr.2 j (by omega)⟩
  rcases h _ w vs hh1.fzlt hargs with ⟨h1, h2⟩ | ⟨v, w', r, fz', h1, h2, h3, h4, h5, h6, h7⟩
  · refine .inl ⟨h1, h2.mono ?_⟩
    rintro e w' ⟨v, r, fz', rfl, hP, hR, hb, hm, hl, hn⟩
    obtain ⟨hh', hE⟩ := hh1.grow hb hm hl hn
    exact ⟨v, r, _, ρ, fz', rfl, hK r hP, hh', .pure _ _ hR, hE1.trans (hE.lower (by rw [froze_length]; exact Nat.le_refl _))⟩
  · obtain ⟨hh', hE⟩ := hh1.grow h4 h5 h6 h7
    exact .inr ⟨v, w', r, _, ρ, fz', h1, hK r h2, hh', .pure _ _ h3, hE1.trans (hE.lower (by rw [froze_length]; exact Nat.le_refl _))⟩
end
end Go.Proofs.Va
/- VA, part 13: a region that draws its order. First: which operations answer one thing and leave the heap as it is. -/
set_option linter.unusedVariables false
set_option linter.unusedSimpArgs false
namespace Go.Proofs.Va
open Go Go.RowKit

def light : Op → Bool
  | .move _ | .assign _ | .pick .. | .build .. | .load .. | .nilCheck _ | .binOp .. | .unOp .. | .convert .. | .makeInterface .. | .makeFunc .. | .slice .. | .fieldAddr .. | .field .. | .indexAddr .. | .index .. | .extract .. => true
  | .call c => match c.callee with
    | .builtin b => match b with
      | .len | .cap | .max | .min => true
      | _ => false
    | _ => false
  | _ => false

/-- It answers one thing, and leaves the heap as it is. -/
def Det (σ : AHeap) (A : (AV → AHeap → Prop) → Prop) : Prop := ∀ K, A K → ∃ r, K r σ ∧ ∀ K' : AV → AHeap → Prop, A K' ↔ K' r σ

section
variable {P : Program} {σ : AHeap}

theorem det_read {t : TypeId} {cs : List AV} {off : Nat} {K : AV → Prop} (h : aRead P t cs off K) : ∃ r, K r ∧ ∀ K', aRead P t cs off K' ↔ K' r := by
  unfold aRead at h ⊢
  split at h
  · rename_i ha
    split at h
    · rename_i n hn; exact ⟨_, h.2, fun K' => ⟨fun h' => h'.2, fun hK => ⟨h.1, hK⟩⟩⟩
    · exact h.elim
  · rename_i ha
    split at h
    · rename_i x hx; exact ⟨_, h, fun K' => ⟨fun h' => h', fun hK => hK⟩⟩
    · exact h.elim
  · exact h.elim

theorem det_load (t : TypeId) (x : AV) : Det σ (aLoad P t x σ) := by
  intro K h
  unfold aLoad at h ⊢
  split at h
  · split at h
    · rename_i b hb
      obtain ⟨h1, h2, h3⟩ := h
      obtain ⟨r, q1, q2⟩ := det_read h3
      exact ⟨r, q1, fun K' => ⟨fun h' => (q2 _).1 h'.2.2, fun hK => ⟨h1, h2, (q2 _).2 hK⟩⟩⟩
    · exact h.elim
  · obtain ⟨r, q1, q2⟩ := det_read h
    exact ⟨r, q1, fun K' => q2 _⟩
  · exact h.elim

theorem det_build (t : TypeId) (ps : List (Nat × AV)) : Det σ (aBuild P t ps σ) := by
  intro K h
  unfold aBuild at h ⊢
  split at h
  · rename_i a b h1 h2
    split at h
    · rename_i cs hcs; exact ⟨_, h, fun K' => ⟨fun h' => h', fun hK => hK⟩⟩
    · exact h.elim
  · exact h.elim

theorem det_nil (x : AV) : Det σ (aNil x σ) := by
  intro K h
  unfold aNil at h ⊢
  split at h
  · split at h
    · rename_i b hb; exact ⟨_, h.2.2, fun K' => ⟨fun h' => h'.2.2, fun hK => ⟨h.1, h.2.1, hK⟩⟩⟩
    · exact h.elim
  · exact ⟨_, h, fun K' => ⟨fun h' => h', fun hK => hK⟩⟩
  · exact ⟨_, h, fun K' => ⟨fun h' => h', fun hK => hK⟩⟩
  · exact ⟨_, h, fun K' => ⟨fun h' => h', fun hK => hK⟩⟩
  · exact h.elim

theorem det_nanK (op : BinOp) : Det σ (nanK op σ) := by
  intro K h
  unfold nanK at h ⊢
  split at h
  all_goals first
    | exact ⟨_, h, fun K' => ⟨fun h' => h', fun hK => hK⟩⟩
    | exact h.elim
theorem det_bin (op : BinOp) (t : TypeId) (c : Bool) (x y : AV) : Det σ (aBin P op t c x y σ) := by
  intro K h
  unfold aBin at h ⊢
  split at h
  · split at h
    · rename_i hs
      split at h
      · rename_i r hr; exact ⟨_, h, fun K' => by rw [if_pos hs]⟩
      · exact h.elim
    · rename_i hs
      obtain ⟨h1, h⟩ := h
      split at h
      · rename_i r hr; exact ⟨_, h, fun K' => by rw [if_neg hs]; exact ⟨fun h' => h'.2, fun hK => ⟨h1, hK⟩⟩⟩
      · exact h.elim
  · split at h
    · rename_i r hr; exact ⟨_, h, fun K' => ⟨fun h' => h', fun hK => hK⟩⟩
    · exact h.elim
  · split at h
    · rename_i r hr; exact ⟨_, h, fun K' => ⟨fun h' => h', fun hK => hK⟩⟩
    · exact det_nanK op _ h
  · exact det_nanK op _ h
  · exact det_nanK op _ h
  · exact det_nanK op _ h
  · obtain ⟨h1, h⟩ := h
    split at h
    · exact ⟨_, h, fun K' => ⟨fun h' => h'.2, fun hK => ⟨h1, hK⟩⟩⟩
    · exact ⟨_, h, fun K' => ⟨fun h' => h'.2, fun hK => ⟨h1, hK⟩⟩⟩
    · exact h.elim
  · obtain ⟨h1, h⟩ := h
    split at h
    · exact ⟨_, h, fun K' => ⟨fun h' => h'.2, fun hK => ⟨h1, hK⟩⟩⟩
    · exact ⟨_, h, fun K' => ⟨fun h' => h'.2, fun hK => ⟨h1, hK⟩⟩⟩
    · exact h.elim
  · obtain ⟨h1, h⟩ := h
    split at h
    · exact ⟨_, h, fun K' => ⟨fun h' => h'.2, fun hK => ⟨h1, hK⟩⟩⟩
    · exact ⟨_, h, fun K' => ⟨fun h' => h'.2, fun hK => ⟨h1, hK⟩⟩⟩
    · exact h.elim
  · obtain ⟨h1, h⟩ := h
    split at h
    · exact ⟨_, h, fun K' => ⟨fun h' => h'.2, fun hK => ⟨h1, hK⟩⟩⟩
    · exact ⟨_, h, fun K' => ⟨fun h' => h'.2, fun hK => ⟨h1, hK⟩⟩⟩
    · exact h.elim
  · obtain ⟨h1, h⟩ := h
    split at h
    · exact ⟨_, h, fun K' => ⟨fun h' => h'.2, fun hK => ⟨h1, hK⟩⟩⟩
    · exact h.elim
  · exact h.elim

theorem det_un (op : UnOp) (x : AV) : Det σ (aUn op x σ) := by
  intro K h
  unfold aUn at h ⊢
  split at h <;> first | exact ⟨_, h, fun K' => ⟨fun h' => h', fun hK => hK⟩⟩ | exact h.elim

theorem det_conv (s d : TypeId) (x : AV) : Det σ (aConv P s d x σ) := by
  intro K h
  unfold aConv at h ⊢
  obtain ⟨h1, h⟩ := h
  split at h <;> first
    | exact h.elim
    | (rename_i hd; exact ⟨_, h, fun K' => ⟨fun h' => h'.2, fun hK => ⟨h1, hK⟩⟩⟩)
    | (split at h
       · exact ⟨_, h, fun K' => ⟨fun h' => h'.2, fun hK => ⟨h1, hK⟩⟩⟩
       · exact h.elim)

theorem det_slice (t : TypeId) (x : AV) (lo hi mx : Option AV) : Det σ (aSlice P t x lo hi mx σ) := by
  intro K h
  unfold aSlice at h ⊢
  split at h
  · split at h
    · rename_i h1 h2 h3; exact ⟨_, h.2, fun K' => ⟨fun h' => h'.2, fun hK => ⟨h.1, hK⟩⟩⟩
    · rename_i h1 h2 h3; exact ⟨_, h.2.2, fun K' => ⟨fun h' => h'.2.2, fun hK => ⟨h.1, h.2.1, hK⟩⟩⟩
    · exact h.elim
  · split at h
    · rename_i h1 h2 h3 h4; exact ⟨_, h.2.2.2.2.2, fun K' => ⟨fun h' => h'.2.2.2.2.2, fun hK => ⟨h.1, h.2.1, h.2.2.1, h.2.2.2.1, h.2.2.2.2.1, hK⟩⟩⟩
    · rename_i h1 h2 h3 h4; exact ⟨_, h.2.2.2.2.2.2, fun K' => ⟨fun h' => h'.2.2.2.2.2.2, fun hK => ⟨h.1, h.2.1, h.2.2.1, h.2.2.2.1, h.2.2.2.2.1, h.2.2.2.2.2.1, hK⟩⟩⟩
    · exact h.elim
  · split at h
    · rename_i h1 h2; exact ⟨_, h.2.2, fun K' => ⟨fun h' => h'.2.2, fun hK => ⟨h.1, h.2.1, hK⟩⟩⟩
    · exact h.elim
  · split at h
    · exact ⟨_, h.2.2.2, fun K' => ⟨fun h' => h'.2.2.2, fun hK => ⟨h.1, h.2.1, h.2.2.1, hK⟩⟩⟩
    · exact h.elim
  · exact h.elim

theorem det_fieldAddr (s : TypeId) (x : AV) (f : Nat) : Det σ (aFieldAddr P s x f σ) := by
  intro K h
  unfold aFieldAddr at h ⊢
  split at h
  · rename_i hf
    split at h
    · split at h
      · rename_i b hb; exact ⟨_, h.2.2, fun K' => ⟨fun h' => h'.2.2, fun hK => ⟨h.1, h.2.1, hK⟩⟩⟩
      · exact h.elim
    · exact ⟨_, h, fun K' => ⟨fun h' => h', fun hK => hK⟩⟩
    · exact h.elim
  · exact h.elim

theorem det_field (s : TypeId) (x : AV) (f : Nat) : Det σ (aField P s x f σ) := by
  intro K h
  unfold aField at h ⊢
  split at h
  · rename_i hf
    split at h
    · obtain ⟨r, q1, q2⟩ := det_read h
      exact ⟨r, q1, fun K' => q2 _⟩
    · exact h.elim
  · exact h.elim

theorem det_indexAddr (t : TypeId) (x ix : AV) : Det σ (aIndexAddr P t x ix σ) := by
  intro K h
  unfold aIndexAddr at h ⊢
  split at h
  · split at h
    · split at h
      · rename_i h1; exact ⟨_, h.2.2, fun K' => ⟨fun h' => h'.2.2, fun hK => ⟨h.1, h.2.1, hK⟩⟩⟩
      · exact h.elim
    · split at h
      · rename_i h1 h2; exact ⟨_, h.2.2.2, fun K' => ⟨fun h' => h'.2.2.2, fun hK => ⟨h.1, h.2.1, h.2.2.1, hK⟩⟩⟩
      · exact h.elim
    · split at h
      · rename_i h1 h2; exact ⟨_, h.2.2.2, fun K' => ⟨fun h' => h'.2.2.2, fun hK => ⟨h.1, h.2.1, h.2.2.1, hK⟩⟩⟩
      · exact h.elim
    · split at h
      · rename_i h1; exact ⟨_, h.2, fun K' => ⟨fun h' => h'.2, fun hK => ⟨h.1, hK⟩⟩⟩
      · exact h.elim
    · exact h.elim
  · exact h.elim

theorem det_index (t : TypeId) (x ix : AV) : Det σ (aIndex P t x ix σ) := by
  intro K h
  unfold aIndex at h ⊢
  split at h
  · split at h
    · split at h
      · rename_i h1
        obtain ⟨h2, h⟩ := h
        obtain ⟨r, q1, q2⟩ := det_read h
        exact ⟨r, q1, fun K' => ⟨fun h' => (q2 _).1 h'.2, fun hK => ⟨h2, (q2 _).2 hK⟩⟩⟩
      · exact h.elim
    · obtain ⟨h1, h2, h⟩ := h
      split at h
      · rename_i b hb; exact ⟨_, h, fun K' => ⟨fun h' => h'.2.2, fun hK => ⟨h1, h2, hK⟩⟩⟩
      · exact h.elim
    · exact h.elim
  · exact h.elim

theorem det_extract (x : AV) (i : Nat) : Det σ (aExtract x i σ) := by
  intro K h
  unfold aExtract at h ⊢
  split at h
  · split at h
    · rename_i y hy; exact ⟨_, h, fun K' => ⟨fun h' => h', fun hK => hK⟩⟩
    · exact h.elim
  · exact h.elim

theorem det_len (t : TypeId) (x : AV) : Det σ (aLen P t x σ) := by
  intro K h
  unfold aLen at h ⊢
  split at h
  · rename_i h1; exact ⟨_, h, fun K' => ⟨fun h' => h', fun hK => hK⟩⟩
  · rename_i h1
    split at h
    · rename_i b hb; exact ⟨_, h.2.2, fun K' => ⟨fun h' => h'.2.2, fun hK => ⟨h.1, h.2.1, hK⟩⟩⟩
    · exact h.elim
  · rename_i h1; exact ⟨_, h, fun K' => ⟨fun h' => h', fun hK => hK⟩⟩
  · rename_i h1; exact ⟨_, h, fun K' => ⟨fun h' => h', fun hK => hK⟩⟩
  · exact h.elim

theorem det_cap (t : TypeId) (x : AV) : Det σ (aCap P t x σ) := by
  intro K h
  unfold aCap at h ⊢
  split at h
  · rename_i h1; exact ⟨_, h, fun K' => ⟨fun h' => h', fun hK => hK⟩⟩
  · rename_i h1
    split at h
    · rename_i b hb; exact ⟨_, h.2.2, fun K' => ⟨fun h' => h'.2.2, fun hK => ⟨h.1, h.2.1, hK⟩⟩⟩
    · exact h.elim
  · exact h.elim

theorem det_max (x y : AV) : Det σ (aMax x y σ) := by
  intro K h
  unfold aMax at h ⊢
  split at h <;> first | exact ⟨_, h, fun K' => ⟨fun h' => h', fun hK => hK⟩⟩ | exact h.elim
theorem det_min (x y : AV) : Det σ (aMin x y σ) := by
  intro K h
  unfold aMin at h ⊢
  split at h <;> first | exact ⟨_, h, fun K' => ⟨fun h' => h', fun hK => hK⟩⟩ | exact h.elim

theorem det_light {op : Op} (hl : light op = true) (t : List AV) : Det σ (aop P op t σ) := by
  cases op <;> simp only [light] at hl <;> (try cases hl)
  case move x => exact fun K h => ⟨_, h, fun K' => ⟨fun h' => h', fun hK => hK⟩⟩
  case assign x => exact fun K h => ⟨_, h, fun K' => ⟨fun h' => h', fun hK => hK⟩⟩
  case pick c x y =>
    intro K h
    simp only [aop] at h ⊢
    split at h
    · rename_i q hq
      cases q with
      | true => exact ⟨_, (iteB.1 h).1 rfl, fun K' => ⟨fun h' => (iteB.1 h').1 rfl, fun hK => iteB.2 ⟨fun _ => hK, (fun hh => by cases hh)⟩⟩⟩
      | false => exact ⟨_, (iteB.1 h).2 rfl, fun K' => ⟨fun h' => (iteB.1 h').2 rfl, fun hK => iteB.2 ⟨(fun hh => by cases hh), fun _ => hK⟩⟩⟩
    · exact h.elim
  case build => exact det_build _ _
  case load => exact det_load _ _
  case nilCheck => exact det_nil _
  case binOp => exact det_bin _ _ _ _ _
  case unOp => exact det_un _ _
  case convert => exact det_conv _ _ _
  case makeInterface => exact fun K h => ⟨_, h.2, fun K' => ⟨fun h' => h'.2, fun hK => ⟨h.1, hK⟩⟩⟩
  case makeFunc => exact fun K h => ⟨_, h, fun K' => ⟨fun h' => h', fun hK => hK⟩⟩
  case slice => exact det_slice _ _ _ _ _
  case fieldAddr => exact det_fieldAddr _ _ _
  case field => exact det_field _ _ _
  case indexAddr => exact det_indexAddr _ _ _
  case index => exact det_index _ _ _
  case extract => exact det_extract _ _
  case call c =>
    intro K h
    simp only [aop, aCallOp] at h ⊢
    split at hl
    · rename_i b hb
      simp only [hb] at h ⊢
      have key : ∀ (b : Builtin), (match b with
          | .len | .cap | .max | .min => true
          | _ => false) = true → ∀ (ts : Array TypeId) (args : List AV), aBuiltin P b ts args σ K → ∃ r, K r σ ∧ ∀ K', aBuiltin P b ts args σ K' ↔ K' r σ := by
        intro b hl ts args h
        revert hl
        unfold aBuiltin at h ⊢
        split at h <;> intro hl
        · exact det_len _ _ K h
        · exact det_cap _ _ K h
        · cases hl
        · cases hl
        · exact det_max _ _ K h
        · exact det_min _ _ K h
        · exact h.elim
      exact key b hl _ _ h
    · cases hl
end
end Go.Proofs.Va
/- VA, part 14: operations of a region that draws its order: what they hang on. -/
set_option linter.unusedVariables false
set_option linter.unusedSimpArgs false
namespace Go.Proofs.Va
open Go Go.RowKit

section
variable {P : Program} {σ : AHeap} {ops : Array Oper}

/-! ### More is asked, more is known -/
theorem builtin_mono {b : Builtin} {ts : Array TypeId} {args : List AV} {K K' : AV → AHeap → Prop} (h : aBuiltin P b ts args σ K) (hk : ∀ r σ', K r σ' → K' r σ') : aBuiltin P b ts args σ K' := by
  unfold aBuiltin at h ⊢
  split at h
  · unfold aLen at h ⊢
    split at h <;> first
      | exact hk _ _ h
      | exact h.elim
      | (split at h
         · exact ⟨h.1, h.2.1, hk _ _ h.2.2⟩
         · exact h.elim)
  · unfold aCap at h ⊢
    split at h <;> first
      | exact hk _ _ h
      | exact h.elim
      | (split at h
         · exact ⟨h.1, h.2.1, hk _ _ h.2.2⟩
         · exact h.elim)
  · refine ite_and.2 ⟨fun hi => ?_, fun hi => ?_⟩
    · have h := (ite_and.1 h).1 hi
      unfold aAppZ at h ⊢
      split at h
      · split at h
        · obtain ⟨h1, h2, h3, h4, h5, h6⟩ := h
          exact ⟨h1, h2, h3, h4, h5, fun c' hc => hk _ _ (h6 c' hc)⟩
        · exact h.elim
      · exact h.elim
    have h := (ite_and.1 h).2 hi
    unfold aAppend at h ⊢
    split at h
    · split at h
      · obtain ⟨h0, h⟩ := h
        refine ⟨h0, ?_⟩
        split at h
        · obtain ⟨h1, h2, h3⟩ := h
          obtain ⟨h3, h4⟩ := ite_and.1 h3
          exact ⟨h1, h2, ite_and.2 ⟨fun hc => ⟨(h3 hc).1, hk _ _ (h3 hc).2⟩, fun hc => hk _ _ (h4 hc)⟩⟩
        · split at h
          · obtain ⟨h1, h2, h3, h4, h5, h⟩ := h
            refine ⟨h1, h2, h3, h4, h5, ?_⟩
            split at h
            · exact ⟨h.1, hk _ _ h.2⟩
            · obtain ⟨h3, h4⟩ := ite_and.1 h
              exact ite_and.2 ⟨fun hc => ⟨(h3 hc).1, hk _ _ (h3 hc).2⟩, fun hc c hcc => hk _ _ (h4 hc c hcc)⟩
          · exact h.elim
        · exact h.elim
      · exact h.elim
    · exact h.elim
  · unfold aCopyY at h ⊢
    split at h
    · unfold aCopyS at h ⊢
      split at h
      · obtain ⟨h0, h⟩ := h
        refine ⟨h0, ?_⟩
        split at h
        · split at h
          · obtain ⟨h1, h2, h3, h4, h⟩ := h
            exact ⟨h1, h2, h3, h4, hk _ _ h⟩
          · exact h.elim
        · exact h.elim
      · exact h.elim
    unfold aCopy at h ⊢
    split at h
    · split at h
      · split at h
        · split at h
          · obtain ⟨h1, h2, h3, h4, h⟩ := h
            exact ⟨h1, h2, h3, h4, hk _ _ h⟩
          · exact h.elim
        · exact ⟨h.1, hk _ _ h.2⟩
        · exact h.elim
      · exact h.elim
    · exact h.elim
  · unfold aMax at h ⊢
    split at h
    · exact hk _ _ h
    · exact h.elim
  · unfold aMin at h ⊢
    split at h
    · exact hk _ _ h
    · exact h.elim
  · exact h.elim

theorem aop_mono {t : List AV} {op : Op} {K K' : AV → AHeap → Prop} (h : aop P op t σ K) (hk : ∀ r σ', K r σ' → K' r σ') : aop P op t σ K' := by
  by_cases hl : light op = true
  · obtain ⟨r, h1, h2⟩ := det_light hl t K h
    exact (h2 _).2 (hk _ _ h1)
  · cases op <;> (try exact absurd rfl hl) <;> simp only [aop] at h ⊢ <;> (try exact h.elim)
    case alloc e =>
      unfold aAlloc at h ⊢
      split at h
      · exact hk _ _ h
      · exact h.elim
    case box e x =>
      unfold aBox at h ⊢
      split at h
      · exact hk _ _ h
      · exact h.elim
    case buildSlice e n ps =>
      unfold aBuildSlice at h ⊢
      split at h
      · refine ⟨h.1, ?_⟩
        have h := h.2
        split at h
        · exact hk _ _ h
        · exact h.elim
      · exact h.elim
    case store e x y =>
      unfold aStore at h ⊢
      split at h
      · split at h
        · obtain ⟨h1, h2, h⟩ := h
          refine ⟨h1, h2, ?_⟩
          split at h
          · exact ⟨h.1, h.2.1, hk _ _ h.2.2⟩
          · exact h.elim
        · exact h.elim
      · exact h.elim
    case makeSlice e x y =>
      unfold aMakeSlice at h ⊢
      split at h
      · split at h
        · exact ⟨h.1, hk _ _ h.2⟩
        · exact h.elim
      · exact h.elim
    case call c =>
      unfold aCallOp at h ⊢
      split at h
      · exact builtin_mono h hk
      · split at h
        · exact h.mono hk
        · intro F n w0 ρ fz w vs hF hh hr
          obtain ⟨fn, tmps, assign, body, hy, hround⟩ := h F n w0 ρ fz w vs hF hh hr
          exact ⟨fn, tmps, assign, body, hy, hround.mono fun e w' ⟨v, r, σ', ρ', fz', he, hK, hx⟩ => ⟨v, r, σ', ρ', fz', he, hk _ _ hK, hx⟩⟩
        · exact h.elim
      · split at h
        · obtain ⟨g, h1, h2⟩ := h
          exact ⟨g, h1, h2.mono hk⟩
        · exact h.elim
    case typeAssert x xT e ck =>
      unfold aTypeAssert at h ⊢
      split at h
      · obtain ⟨h1, h⟩ := h
        refine ⟨h1, ?_⟩
        split at h
        · rename_i e; rw [if_pos e]; exact hk _ _ h
        · rename_i e
          rw [if_neg e]
          split at h
          · exact hk _ _ h
          · exact h.elim
      · exact h.elim

/-! ### What hangs on which temporaries -/
theorem ev_put {t : List AV} {d : Option Tmp} {r : AV} {x : Operand} (h : ∀ k, d = some k → x ≠ .tmp k) : ev (put t d r) x = ev t x := by
  cases d with
  | none => rfl
  | some k =>
    cases x with
    | tmp i =>
      have : k ≠ i := fun hh => h k rfl (by rw [hh])
      simp [ev, put, List.getElem?_set_ne this]
    | _ => rfl

theorem map_ev {t t' : List AV} {xs : Array Operand} (h : ∀ x ∈ xs.toList, ev t x = ev t' x) : xs.toList.map (ev t) = xs.toList.map (ev t') := List.map_congr_left h

theorem aop_congr {t t' : List AV} {op : Op} (hl : light op = true) (h : ∀ x ∈ op.operands.toList, ev t x = ev t' x) (K : AV → AHeap → Prop) : aop P op t σ K ↔ aop P op t' σ K := by
  have one : ∀ {x : Operand}, x ∈ op.operands.toList → ev t x = ev t' x := fun {x} hx => h x hx
  have opt : ∀ (x : Option Operand), (∀ y, x = some y → y ∈ op.operands.toList) → x.map (ev t) = x.map (ev t') := fun x hx => by
    cases x with
    | none => rfl
    | some y => simp [one (hx y rfl)]
  cases op <;> simp only [light] at hl <;> (try cases hl)
  case move x => simp only [aop, one (x := x) (by simp [Op.operands])]
  case assign x => simp only [aop, one (x := x) (by simp [Op.operands])]
  case pick c x y => simp only [aop, one (x := c) (by simp [Op.operands]), one (x := x) (by simp [Op.operands]), one (x := y) (by simp [Op.operands])]
  case build e ps =>
    have : (ps.toList.map fun p => (p.1, ev t p.2)) = (ps.toList.map fun p => (p.1, ev t' p.2)) := List.map_congr_left fun p hp => by
      rw [one (x := p.2) (by simp [Op.operands]; exact ⟨p.1, by simpa using hp⟩)]
    simp only [aop, this]
  case load e x => simp only [aop, one (x := x) (by simp [Op.operands])]
  case nilCheck x => simp only [aop, one (x := x) (by simp [Op.operands])]
  case binOp o e x y e' => simp only [aop, one (x := x) (by simp [Op.operands]), one (x := y) (by simp [Op.operands])]
  case unOp o e x => simp only [aop, one (x := x) (by simp [Op.operands])]
  case convert s d x => simp only [aop, one (x := x) (by simp [Op.operands])]
  case makeInterface e x => simp only [aop, one (x := x) (by simp [Op.operands])]
  case makeFunc f first caps =>
    simp only [aop, map_ev (xs := first) (fun x hx => one (by simp [Op.operands]; exact .inl (by simpa using hx))), map_ev (xs := caps) (fun x hx => one (by simp [Op.operands]; exact .inr (by simpa using hx)))]
  case slice e x lo hi mx =>
    simp only [aop, one (x := x) (by simp [Op.operands]), opt lo (fun y hy => by simp [Op.operands, hy]), opt hi (fun y hy => by simp [Op.operands, hy]), opt mx (fun y hy => by simp [Op.operands, hy])]
  case fieldAddr s x f => simp only [aop, one (x := x) (by simp [Op.operands])]
  case field s x f => simp only [aop, one (x := x) (by simp [Op.operands])]
  case indexAddr e x y => simp only [aop, one (x := x) (by simp [Op.operands]), one (x := y) (by simp [Op.operands])]
  case index e x y => simp only [aop, one (x := x) (by simp [Op.operands]), one (x := y) (by simp [Op.operands])]
  case extract x i => simp only [aop, one (x := x) (by simp [Op.operands])]
  case call c =>
    have hargs : c.args.toList.map (ev t) = c.args.toList.map (ev t') := map_ev fun x hx => one (by simp [Op.operands, Call.operands]; right; simpa using hx)
    split at hl
    · rename_i b hb; simp only [aop, aCallOp, hb, hargs]
    · cases hl

theorem looks_op {o : Oper} {x : Operand} (hx : x ∈ o.op.operands.toList) {d : Tmp} (h : d ∉ o.looksAt ops) : x ≠ .tmp d := by
  rintro rfl
  exact h (List.mem_append_left _ (List.mem_filterMap.2 ⟨.tmp d, hx, rfl⟩))

theorem guard_put {t : List AV} {o : Oper} {d : Option Tmp} {r : AV} (h : ∀ k, d = some k → k ∉ o.looksAt ops) (yes no : Prop) : guardA ops (put t d r) o yes no ↔ guardA ops t o yes no := by
  cases d with
  | none => exact Iff.rfl
  | some k =>
    cases hg : o.guard with
    | none => simp only [guardA, hg]
    | some g =>
      obtain ⟨j, want⟩ := g
      cases hd : (ops[j]?).bind (·.dst) with
      | none => simp only [guardA, hg, hd]
      | some d =>
        have hne : k ≠ d := fun hh => h k rfl (List.mem_append_right _ (by simp [hg, hd, hh]))
        have e : (put t (some k) r)[d]? = t[d]? := by simp only [put, List.getElem?_set_ne hne]
        simp only [guardA, hg, hd, e]

theorem guard_cases {t : List AV} {o : Oper} {yes no : Prop} (h : guardA ops t o yes no) :
    (yes ∧ ∀ y n : Prop, guardA ops t o y n ↔ y) ∨ (no ∧ ∀ y n : Prop, guardA ops t o y n ↔ n) := by
  unfold guardA at h ⊢
  split at h
  · exact .inl ⟨h, fun y n => Iff.rfl⟩
  · split at h
    · split at h
      · rename_i want _ _ _ _ _ b _
        by_cases hb : b = want
        · exact .inl ⟨(ite_and.1 h).1 hb, fun y n => by simp only [hb, if_true]⟩
        · exact .inr ⟨(ite_and.1 h).2 hb, fun y n => by simp only [hb, if_false]⟩
      · exact .inr ⟨h, fun y n => Iff.rfl⟩
      · exact h.elim
    · exact h.elim

theorem put_comm {t : List AV} {d e : Option Tmp} {r s : AV} (h : ∀ k, d = some k → e ≠ some k) : put (put t d r) e s = put (put t e s) d r := by
  cases d with
  | none => rfl
  | some k =>
    cases e with
    | none => rfl
    | some j =>
      have : k ≠ j := fun hh => h k rfl (by rw [hh])
      exact List.set_comm _ _ this

/-! ### What hangs on which blocks -/
structure Same (N0 : Nat) (σ σ' : AHeap) : Prop where
  lo : N0 ≤ σ.length
  lo' : N0 ≤ σ'.length
  eq : ∀ i, i < N0 → σ'[i]? = σ[i]?

theorem Same.refl {N0 : Nat} {σ : AHeap} (h : N0 ≤ σ.length) : Same N0 σ σ := ⟨h, h, fun _ _ => rfl⟩
theorem Same.trans {N0 : Nat} {σ σ1 σ2 : AHeap} (h : Same N0 σ σ1) (k : Same N0 σ1 σ2) : Same N0 σ σ2 := ⟨h.lo, k.lo', fun i hi => (k.eq i hi).trans (h.eq i hi)⟩
theorem Same.symm {N0 : Nat} {σ σ1 : AHeap} (h : Same N0 σ σ1) : Same N0 σ1 σ := ⟨h.lo', h.lo, fun i hi => (h.eq i hi).symm⟩

/-- It names no block behind the first n ones. -/
def scA (n : Nat) : AV → Prop
  | .po i _ _ => i < n
  | .so i _ _ _ _ _ => i < n
  | _ => True

/-- Its answer hangs on no block. -/
def pureOp : Op → Bool
  | .move _ | .assign _ | .pick .. | .build .. | .binOp .. | .unOp .. | .convert .. | .makeInterface .. | .makeFunc .. | .extract .. | .field .. | .index .. => true
  | .buildSlice .. => true
  | _ => false

theorem pure_stable {t : List AV} {op : Op} (hp : pureOp op = true) (hl : light op = true) {σ' : AHeap} (S : AV → Prop) : aop P op t σ (fun r _ => S r) ↔ aop P op t σ' (fun r _ => S r) := by
  cases op <;> simp only [pureOp] at hp <;> (try cases hp) <;> (try cases hl) <;> exact Iff.rfl

theorem light_stable {N0 : Nat} {t : List AV} {op : Op} (hl : light op = true) {σ' : AHeap} (hs : Same N0 σ σ') (hsc : ∀ x ∈ op.operands.toList, scA N0 (ev t x)) (S : AV → Prop) : aop P op t σ (fun r _ => S r) ↔ aop P op t σ' (fun r _ => S r) := by
  by_cases hp : pureOp op = true
  · exact pure_stable hp hl S
  · cases op <;> (try exact absurd rfl hp) <;> simp only [light] at hl <;> (try exact absurd hl Bool.false_ne_true)
    case load e x =>
      have h1 := hsc x (by simp [Op.operands])
      simp only [aop, aLoad]
      split
      · rename_i i ver off hx; rw [hx] at h1; rw [hs.eq i h1]
      · exact Iff.rfl
      · exact Iff.rfl
    case nilCheck x =>
      have h1 := hsc x (by simp [Op.operands])
      simp only [aop, aNil]
      split
      · rename_i i ver off hx; rw [hx] at h1; rw [hs.eq i h1]
      all_goals exact Iff.rfl
    case slice e x lo hi mx =>
      have h1 := hsc x (by simp [Op.operands])
      simp only [aop, aSlice]
      split
      · exact Iff.rfl
      · rename_i i ver off n sz cap hx; rw [hx] at h1; rw [hs.eq i h1]
      · exact Iff.rfl
      · rename_i i ver off hx; rw [hx] at h1; rw [hs.eq i h1]
      · exact Iff.rfl
    case fieldAddr s x f =>
      have h1 := hsc x (by simp [Op.operands])
      simp only [aop, aFieldAddr]
      split
      · split
        · rename_i i ver off hx; rw [hx] at h1; rw [hs.eq i h1]
        all_goals exact Iff.rfl
      · exact Iff.rfl
    case indexAddr e x y =>
      have h1 := hsc x (by simp [Op.operands])
      simp only [aop, aIndexAddr]
      split
      · split
        · exact Iff.rfl
        · rename_i i ver off n sz cap hx; rw [hx] at h1; rw [hs.eq i h1]
        · rename_i i ver off hx; rw [hx] at h1; rw [hs.eq i h1]
        all_goals exact Iff.rfl
      · exact Iff.rfl
    case call c =>
      split at hl
      · rename_i b hb
        have harg : ∀ x ∈ c.args.toList.map (ev t), scA N0 x := by
          intro x hx
          obtain ⟨o, ho, rfl⟩ := List.mem_map.1 hx
          exact hsc o (by simp [Op.operands, Call.operands]; right; simpa using ho)
        simp only [aop, aCallOp, hb]
        generalize c.args.toList.map (ev t) = args at harg
        unfold aBuiltin
        split
        · rename_i tt x hts
          have h1 := harg x (by simp)
          unfold aLen
          split
          · exact Iff.rfl
          · rw [hs.eq _ h1]
          all_goals exact Iff.rfl
        · rename_i tt x hts
          have h1 := harg x (by simp)
          unfold aCap
          split
          · exact Iff.rfl
          · rw [hs.eq _ h1]
          · exact Iff.rfl
        · exact absurd hl Bool.false_ne_true
        · exact absurd hl Bool.false_ne_true
        all_goals exact Iff.rfl
      · cases hl
end
end Go.Proofs.Va
/- VA, between parts 14 and 15: a new block is taken in at a place of its own; functions that clone a slice. -/
set_option linter.unusedVariables false
set_option linter.unusedSimpArgs false
namespace Go.Proofs.Va
open Go Go.RowKit

theorem Rp.pu {fz : Nat → Prop} {w : World} {x : AV} {v : Value} (h : Rp fz w x v) : Pu x := by
  induction h with
  | v x => exact .v _
  | any x => exact .any
  | nan b h => exact .nan
  | pl nl cs n cap a c b o us hnl hn hc hcap ha hfz hcell h1 hR hfr ih => exact .pl ..
  | pp cs off b o us hfz hcell h1 hR ih => exact .pp ..
  | agg cs arr hl h1 hR ih => exact .agg _ ih
  | tup cs arr hl hR ih => exact .tup _ ih
  | fn f cs ds arr brr hl hl' hR hR' ih ih' => exact .fn _ _ _ ih ih'
  | ifc t x u h ih => exact .ifc _ _ ih

section
variable {P : Program} {w0 : World} {ρ : Nat → Nat × Nat} {σ : AHeap} {fz : Nat → Prop} {w : World}

theorem HRel.adopt (h : HRel w0 ρ fz σ w) {w' : World} {fz' : Nat → Prop} (hg : HRel w0 ρ fz' σ w' ∧ Ev w0 σ.length ρ σ fz w ρ σ fz' w') {p : Nat} (hp : freeAt σ p) (cs : List AV) {k off : Nat} {cells : Array Value} {e : TypeId}
    (hk : w'.heap[k]? = some (.cells cells e (0, 0))) (hnew : w.heap.size ≤ k) (hfz : ¬ fz' k) (hsz : off + cs.length ≤ cells.size) (hc : ∀ j (hj : j < cs.length), ∃ u, cells[off + j]? = some u ∧ u.oneCell' = true ∧ R ρ σ fz' w' cs[j] u) :
    HRel w0 (upd ρ p (k, off)) fz' (putA σ p ⟨.own, 1, cs⟩) w' ∧ Ev w0 σ.length ρ σ fz w (upd ρ p (k, off)) (putA σ p ⟨.own, 1, cs⟩) fz' w' := by
  have hle := h.le
  have lt : ∀ {k : Nat} {o : Obj}, w.heap[k]? = some o → k < w.heap.size := fun hk => (Array.getElem?_eq_some_iff.1 hk).1
  have E : Ev w0 σ.length ρ σ fz' w' (upd ρ p (k, off)) (putA σ p ⟨.own, 1, cs⟩) fz' w' := by
    refine ⟨Nat.le_refl _, by rw [putA_len]; omega, ?_, fun _ h => h, fun _ h => .inl h, fun _ _ => rfl, Nat.le_refl _, fun _ _ h _ => h, fun _ c _ fr h => ⟨c, fr, h, rfl⟩⟩
    intro i hi b b' hb hb'
    rw [putA_get] at hb'
    by_cases hip : i = p
    · subst hip
      rw [if_pos rfl] at hb'
      cases hb'
      have := hp b hb
      subst this
      exact ⟨Nat.zero_le _, fun hv => by cases hv⟩
    · rw [if_neg hip, if_pos hi, hb] at hb'
      cases hb'
      exact ⟨Nat.le_refl _, fun _ hd => ⟨hd, upd_other hip⟩⟩
  refine ⟨⟨hg.1.below, hg.1.fzlt, ?_, ?_⟩, hg.2.trans E⟩
  · intro i blk hb hd
    rw [putA_get] at hb
    by_cases hip : i = p
    · subst hip
      rw [if_pos rfl] at hb
      cases hb
      rw [upd_same]
      refine ⟨cells, e, hk, by omega, hsz, fun _ hf => hfz hf, (fun hk => by simp at hk), fun j hj => ?_⟩
      obtain ⟨u, hu, h1, hR⟩ := hc j hj
      exact ⟨u, hu, h1, hR.ev E hR.sc⟩
    · rw [if_neg hip] at hb
      by_cases hl : i < σ.length
      · rw [if_pos hl] at hb
        obtain ⟨cells, el, h1, h2, hs, h3, h4, h5⟩ := hg.1.blk i blk hb hd
        have hr : upd ρ p (k, off) i = ρ i := upd_other hip
        rw [hr]
        refine ⟨cells, el, h1, h2, hs, h3, h4, fun j hj => ?_⟩
        obtain ⟨u, hu, h1, hR⟩ := h5 j hj
        exact ⟨u, hu, h1, hR.ev E hR.sc⟩
      · rw [if_neg hl] at hb
        split at hb
        · cases hb; exact absurd rfl hd
        · cases hb
  · intro i j bi bj hi hj ki kj he
    have key : ∀ (i : Nat) (bi : ABlk), (putA σ p ⟨.own, 1, cs⟩)[i]? = some bi → bi.kind = .own → i = p ∨ (i ≠ p ∧ σ[i]? = some bi) := by
      intro i bi hi ki
      rw [putA_get] at hi
      by_cases hip : i = p
      · exact .inl hip
      · rw [if_neg hip] at hi
        by_cases hl : i < σ.length
        · rw [if_pos hl] at hi; exact .inr ⟨hip, hi⟩
        · rw [if_neg hl] at hi
          split at hi
          · cases hi; cases ki
          · cases hi
    rcases key i bi hi ki with h1 | ⟨h1, h2⟩ <;> rcases key j bj hj kj with h3 | ⟨h3, h4⟩
    · omega
    · subst h1
      rw [upd_same, upd_other h3] at he
      obtain ⟨_, _, h5, _, _⟩ := h.blk j bj h4 (by rw [kj]; decide)
      have := lt h5; simp at he; omega
    · subst h3
      rw [upd_other h1, upd_same] at he
      obtain ⟨_, _, h5, _, _⟩ := h.blk i bi h2 (by rw [ki]; decide)
      have := lt h5; simp at he; omega
    · rw [upd_other h1, upd_other h3] at he
      exact h.inj i j bi bj h2 h4 ki kj he

/-- A function that makes a slice of its own of a slice: its cells. -/
def CloneFn (P : Program) (g : FuncId) (sz : Nat) : Prop := ∀ (nl : Bool) (cs : List AV) (n : Nat) (cap : Option Nat), 0 < n → n ≤ 100000 → cs.length = n * sz →
  ACall P g [.pl nl cs n cap] [] (fun r σ' => ∃ j v cap' more, r = .so j v 0 n sz cap' ∧ σ'[j]? = some ⟨.own, v, cs ++ more⟩)

/-- What a new slice, made in a heap of its own, is to this heap. -/
theorem clone_fin {n sz : Nat} {cs : List AV} (hh : HRel w0 ρ fz σ w) (hpu : ∀ q (hq : q < cs.length), Pu cs[q]) {p : Nat} (hp : freeAt σ p) (v : Value) (w' : World) (r : AV) (σ' : AHeap) (ρ' : Nat → Nat × Nat) (fz' : Nat → Prop)
    (hr : ∃ j v cap' more, r = .so j v 0 n sz cap' ∧ σ'[j]? = some ⟨.own, v, cs ++ more⟩) (hH : HRel w ρ' fz' σ' w') (hR : R ρ' σ' fz' w' r v) (hE : Ev w 0 (fun _ => (0, 0)) [] fz w ρ' σ' fz' w') :
      ∃ r2 σ2 ρ2 fz2, (r2 = .so p 1 0 n sz none ∧ σ2 = putA σ p ⟨.own, 1, cs⟩) ∧ HRel w0 ρ2 fz2 σ2 w' ∧ R ρ2 σ2 fz2 w' r2 v ∧ Ev w0 σ.length ρ σ fz w ρ2 σ2 fz2 w' := by
  obtain ⟨j, ver, cap', more, rfl, hj⟩ := hr
  obtain ⟨cells, e, q1, q2, q3, q4, _, q6⟩ := hH.blk j _ hj (by simp)
  obtain ⟨b', hb', _, hone, hval⟩ := hR.so_inv
  rw [hj] at hb'; cases hb'
  obtain ⟨a, c, rfl, hnc, _, ha, hroom⟩ := hval rfl (by simp)
  have hgr := hh.grow (fz' := fz') hH.below hE.fzm hH.fzlt.lt hE.fzn
  have hq3 : (ρ' j).2 + cs.length ≤ cells.size := by
    simp only [List.length_append] at q3; omega
  have had := hh.adopt hgr hp cs q1 q2 (q4 rfl) hq3 (fun q hq => by
    obtain ⟨u, u1, u2, u3⟩ := q6 q (by simp; omega)
    refine ⟨u, u1, u2, .pure _ _ ?_⟩
    have e1 : (cs ++ more)[q]'(by simp; omega) = cs[q] := List.getElem_append_left hq
    have u3' : R ρ' σ' fz' w' ((cs ++ more)[q]'(by simp; omega)) u := u3
    rw [e1] at u3'
    exact u3'.toRp (hpu q hq))
  refine ⟨_, _, _, _, ⟨rfl, rfl⟩, had.1, .so _ _ _ _ _ _ ⟨.own, 1, cs⟩ _ (by rw [putA_get, if_pos rfl]) (Nat.le_refl _) rfl (fun _ _ => ⟨a, c, rfl, hnc, (fun k hk => by cases hk), (fun hc => by rw [upd_same]; exact ha hc), ?_⟩), had.2⟩
  obtain ⟨cells2, e2, fr2, h1, h2⟩ := hroom
  exact ⟨cells2, e2, fr2, by rw [upd_same]; exact h1, by rw [upd_same]; exact h2⟩

theorem clone_at {g : FuncId} {sz : Nat} (hC : CloneFn P g sz) {nl : Bool} {cs : List AV} {n : Nat} {cap : Option Nat} (hn : 0 < n) (hn2 : n ≤ 100000) (hl : cs.length = n * sz) {p : Nat} (hp : freeAt σ p) :
    ACall P g [.pl nl cs n cap] σ (fun r σ' => r = .so p 1 0 n sz none ∧ σ' = putA σ p ⟨.own, 1, cs⟩) := by
  intro w0 ρ fz w vs hh hr
  have hb : HRel w (fun _ => (0, 0)) fz [] w := ⟨Below.refl _ _, hh.fzlt, fun i b hb => by simp at hb, fun i j bi bj hi => by simp at hi⟩
  have hr0 : RL (fun _ => (0, 0)) [] fz w [.pl nl cs n cap] vs := ⟨hr.1, fun j hj => .pure _ _ ((hr.2 j hj).toRp (by
    have : j = 0 := by simpa using hj
    subst this
    exact .pl ..))⟩
  have hpu : ∀ q (hq : q < cs.length), Pu cs[q] := by
    obtain ⟨_, _, _, _, _, _, _, _, _, _, _, _, _, _, h⟩ := (hr.2 0 (by simp)).pl_inv
    exact fun q hq => (h q hq).pu
  have fin := fun v w' r σ' ρ' fz' => clone_fin (n := n) (sz := sz) hh hpu hp v w' r σ' ρ' fz'
  rcases hC nl cs n cap hn hn2 hl w (fun _ => (0, 0)) fz w vs hb hr0 with ⟨h1, h2⟩ | ⟨v, w', r, σ', ρ', fz', h1, h2, h3, h4, h5⟩
  · refine .inl ⟨h1, h2.mono fun e w' ⟨v, r, σ', ρ', fz', he, hK, hH, hR, hE⟩ => ?_⟩
    obtain ⟨r2, σ2, ρ2, fz2, k1, k2, k3, k4⟩ := fin v w' r σ' ρ' fz' hK hH hR hE
    exact ⟨v, r2, σ2, ρ2, fz2, he, k1, k2, k3, k4⟩
  · obtain ⟨r2, σ2, ρ2, fz2, k1, k2, k3, k4⟩ := fin v w' r σ' ρ' fz' h2 h3 h4 h5
    exact .inr ⟨v, w', r2, σ2, ρ2, fz2, h1, k1, k2, k3, k4⟩

/-- append(none, that..): a new block at a place of its own. -/
theorem append_at {t e : TypeId} {E : ElT} {n2 nl : Bool} {cs : List AV} {m : Nat} {cap : Option Nat} (hT : elT P t = some (e, E)) (hI : ¬ (intT P t).isSome = true) (hS : srcT P t = some false) (hm : 0 < m) (hl : cs.length = m * E.sz) (hb : m * (E.bytes + 1) ≤ 140737488355328)
    {p : Nat} (hp : freeAt σ p) (hh : HRel w0 ρ fz σ w) {ty : TypeId} {u v : Value} (hx : R ρ σ fz w (.pl n2 [] 0 (some 0)) u) (hy : R ρ σ fz w (.pl nl cs m cap) v) :
    SemOK P w0 ρ fz σ w (Builtin.append_ #[t, t] ty #[u, v]) (fun r σ' => r = .so p 1 0 m E.sz none ∧ σ' = putA σ p ⟨.own, 1, cs⟩) := by
  have hb0 : HRel w (fun _ => (0, 0)) fz [] w := ⟨Below.refl _ _, hh.fzlt, fun i b hb => by simp at hb, fun i j bi bj hi => by simp at hi⟩
  have hx0 : R (fun _ => (0, 0)) [] fz w (.pl n2 [] 0 (some 0)) u := .pure _ _ (hx.toRp (.pl ..))
  have hy0 : R (fun _ => (0, 0)) [] fz w (.pl nl cs m cap) v := .pure _ _ (hy.toRp (.pl ..))
  have hpu : ∀ q (hq : q < cs.length), Pu cs[q] := by
    obtain ⟨_, _, _, _, _, _, _, _, _, _, _, _, _, _, h⟩ := hy.pl_inv
    exact fun q hq => (h q hq).pu
  have hK : aAppend P t t (.pl n2 [] 0 (some 0)) (.pl nl cs m cap) [] (fun r σ' => ∃ j v cap' more, r = .so j v 0 m E.sz cap' ∧ σ'[j]? = some ⟨.own, v, cs ++ more⟩) := by
    have hsrc : srcC E.sz false [] (.pl nl cs m cap) = some (cs, m) := by
      show (if false = false ∧ cs.length = m * E.sz then some (cs, m) else none) = _
      rw [if_pos ⟨rfl, hl⟩]
    unfold aAppend
    rw [hT, hS]
    simp only [hsrc]
    refine ⟨by simp, by simp, by rw [Nat.zero_add]; exact hb, ?_⟩
    rw [if_neg (by omega)]
    exact ⟨0, 0, none, [], by simp, by simp⟩
  obtain ⟨v', w', ρ', fz', r, σ', h1, h2, h3, h4, h5⟩ := append_ok (ty := ty) hb0 hx0 hy0 hK
  obtain ⟨r2, σ2, ρ2, fz2, k1, k2, k3, k4⟩ := clone_fin (n := m) (sz := E.sz) hh hpu hp v' w' r σ' ρ' fz' h2 h3 h4 h5
  exact ⟨v', w', ρ2, fz2, r2, σ2, h1, k1, k2, k3, k4⟩
end
end Go.Proofs.Va
/- VA, part 15: the rule for a region that draws its order. -/
set_option linter.unusedVariables false
set_option linter.unusedSimpArgs false
namespace Go.Proofs.Va
open Go Go.RowKit

section
variable {P : Program} {σ : AHeap} {ops : Array Oper} {N0 : Nat}

theorem aop_congr_all {t t' : List AV} {op : Op} (h : ∀ x ∈ op.operands.toList, ev t x = ev t' x) (K : AV → AHeap → Prop) : aop P op t σ K ↔ aop P op t' σ K := by
  by_cases hl : light op = true
  · exact aop_congr hl h K
  · have one : ∀ {x : Operand}, x ∈ op.operands.toList → ev t x = ev t' x := fun {x} hx => h x hx
    cases op <;> (try exact absurd rfl hl) <;> (try exact Iff.rfl)
    case box e x => simp only [aop, one (x := x) (by simp [Op.operands])]
    case buildSlice e n ps =>
      have : (ps.toList.map fun p => (p.1, ev t p.2)) = (ps.toList.map fun p => (p.1, ev t' p.2)) := List.map_congr_left fun p hp => by
        rw [one (x := p.2) (by simp [Op.operands]; exact ⟨p.1, by simpa using hp⟩)]
      simp only [aop, this]
    case store e x y => simp only [aop, one (x := x) (by simp [Op.operands]), one (x := y) (by simp [Op.operands])]
    case makeSlice e x y => simp only [aop, one (x := x) (by simp [Op.operands]), one (x := y) (by simp [Op.operands])]
    case call c =>
      have hargs : c.args.toList.map (ev t) = c.args.toList.map (ev t') := map_ev fun x hx => one (by simp [Op.operands, Call.operands]; right; simpa using hx)
      simp only [aop, aCallOp]
      split
      · rw [hargs]
      · rename_i f hf
        have e1 : ev t f = ev t' f := h f (by simp [Op.operands, Call.operands, hf])
        rw [e1, hargs]
      · rename_i r name hf
        have e1 : ev t r = ev t' r := h r (by simp [Op.operands, Call.operands, hf])
        rw [e1, hargs]
    case typeAssert x xT e ck => simp only [aop, one (x := x) (by simp [Op.operands])]

/-! ### The operations, by their classes: 0: hangs on no block; 1: reads blocks that were there; 3: leaves those as they are; others: whatever -/
/-- A slice's cells are laid, and not written again. -/
def aBS (P : Program) (e : TypeId) (n : Nat) (parts : List (Nat × AV)) (S : AV → Prop) : Prop :=
  match elT P e with
  | some (_, x) => n * x.sz ≤ 16777216 ∧ (∀ p ∈ parts, Pu p.2) ∧ match afill ((List.range n).map fun k => (k * x.sz, x.sz)) (reps n x.zero) parts with
    | some cs => (∀ c ∈ cs, Pu c) ∧ cs.length = n * x.sz ∧ S (.pl false cs n (some n))
    | none => False
  | none => False

def lop (P : Program) (op : Op) (t : List AV) (σ : AHeap) (S : AV → Prop) : Prop :=
  match op with
  | .buildSlice e n ps => aBS P e n (ps.toList.map fun p => (p.1, ev t p.2)) S
  | op => aop P op t σ fun r _ => S r

/-- A call that is known by its contract alone. -/
def ACtr (P : Program) (g : FuncId) (args : List AV) (S : AV → Prop) : Prop := ∃ Post, Ctr P g args Post ∧ (∀ x ∈ args, Pu x) ∧ (∃ r, Post r) ∧ ∀ r, Post r → S r
def cVal (P : Program) (f : AV) (args : List AV) (S : AV → Prop) : Prop := match f with
  | .fn (.func g) first caps => ACtr P g (first ++ args ++ caps) S
  | _ => False
def cop (P : Program) (op : Op) (t : List AV) (S : AV → Prop) : Prop :=
  match op with
  | .call c => match c.callee with
    | .value f => cVal P (ev t f) (c.args.toList.map (ev t)) S
    | _ => False
  | _ => False
def allocOp : Op → Bool
  | .alloc _ => true
  | _ => false

def cloneOp : Op → Bool
  | .call c => (match c.callee with
    | .value _ => true
    | .builtin _ => true
    | _ => false)
  | _ => false
/-- append(none, that..) -/
def aAppAt (P : Program) (p : Nat) (b : Builtin) (ts : List TypeId) (args : List AV) (σ : AHeap) (S : AV → AHeap → Prop) : Prop :=
  match b, ts, args with
  | .append, [t, t'], [.pl _ [] 0 (some 0), .pl nl cs m cap] => (match elT P t with
    | some (_, E) => ((t' = t ∧ ¬ (intT P t).isSome = true ∧ srcT P t = some false) ∧ 0 < m ∧ cs.length = m * E.sz ∧ m * (E.bytes + 1) ≤ 140737488355328) ∧ freeAt σ p ∧ S (.so p 1 0 m E.sz none) (putA σ p ⟨.own, 1, cs⟩)
    | none => False)
  | _, _, _ => False
def aCloneAt (P : Program) (p : Nat) (f : AV) (args : List AV) (σ : AHeap) (S : AV → AHeap → Prop) : Prop :=
  match f, args with
  | .fn (.func g) [] [], [.pl nl cs n cap] => ((0 < n ∧ n ≤ 100000 ∧ cs.length = n * (cs.length / n)) ∧ CloneFn P g (cs.length / n)) ∧ freeAt σ p ∧ S (.so p 1 0 n (cs.length / n) none) (putA σ p ⟨.own, 1, cs⟩)
  | _, _ => False
/-- An allocation, or a clone, at a place of its own. -/
def gAt (P : Program) (N0 p : Nat) (op : Op) (t : List AV) (σ : AHeap) (S : AV → AHeap → Prop) : Prop :=
  match op with
  | .alloc e => aAllocAt P e p σ fun r σ' => Same N0 σ σ' ∧ S r σ'
  | .call c => (match c.callee with
    | .value f => aCloneAt P p (ev t f) (c.args.toList.map (ev t)) σ fun r σ' => Same N0 σ σ' ∧ S r σ'
    | .builtin b => aAppAt P p b c.argTypes.toList (c.args.toList.map (ev t)) σ fun r σ' => Same N0 σ σ' ∧ S r σ'
    | _ => False)
  | _ => False
theorem appAt_mono {p : Nat} {b : Builtin} {ts : List TypeId} {args : List AV} {S S' : AV → AHeap → Prop} (h : aAppAt P p b ts args σ S) (hk : ∀ r σ', S r σ' → S' r σ') : aAppAt P p b ts args σ S' := by
  unfold aAppAt at h ⊢
  split at h
  · split at h
    · exact ⟨h.1, h.2.1, hk _ _ h.2.2⟩
    · exact h.elim
  · exact h.elim
theorem cloneAt_mono {p : Nat} {f : AV} {args : List AV} {S S' : AV → AHeap → Prop} (h : aCloneAt P p f args σ S) (hk : ∀ r σ', S r σ' → S' r σ') : aCloneAt P p f args σ S' := by
  unfold aCloneAt at h ⊢
  split at h
  · exact ⟨h.1, h.2.1, hk _ _ h.2.2⟩
  · exact h.elim
theorem allocAt_mono {e : TypeId} {p : Nat} {S S' : AV → AHeap → Prop} (h : aAllocAt P e p σ S) (hk : ∀ r σ', S r σ' → S' r σ') : aAllocAt P e p σ S' := by
  unfold aAllocAt at h ⊢
  split at h
  · exact ⟨h.1, hk _ _ h.2⟩
  · exact h.elim
theorem gAt_mono {p : Nat} {op : Op} {t : List AV} {S S' : AV → AHeap → Prop} (h : gAt P N0 p op t σ S) (hk : ∀ r σ', S r σ' → S' r σ') : gAt P N0 p op t σ S' := by
  unfold gAt at h ⊢
  split at h
  · exact allocAt_mono h fun r σ' hS => ⟨hS.1, hk _ _ hS.2⟩
  · split at h
    · exact cloneAt_mono h fun r σ' hS => ⟨hS.1, hk _ _ hS.2⟩
    · exact appAt_mono h fun r σ' hS => ⟨hS.1, hk _ _ hS.2⟩
    · exact h.elim
  · exact h.elim
theorem gAt_info {p : Nat} {op : Op} {t : List AV} {S : AV → AHeap → Prop} (h : gAt P N0 p op t σ S) : gAt P N0 p op t σ fun r σ' => S r σ' ∧ Same N0 σ σ' := by
  unfold gAt at h ⊢
  split at h
  · exact allocAt_mono h fun r σ' hS => ⟨hS.1, hS.2, hS.1⟩
  · split at h
    · exact cloneAt_mono h fun r σ' hS => ⟨hS.1, hS.2, hS.1⟩
    · exact appAt_mono h fun r σ' hS => ⟨hS.1, hS.2, hS.1⟩
    · exact h.elim
  · exact h.elim
theorem gAt_congr {p : Nat} {t t' : List AV} {op : Op} (h : ∀ x ∈ op.operands.toList, ev t x = ev t' x) (S : AV → AHeap → Prop) : gAt P N0 p op t σ S ↔ gAt P N0 p op t' σ S := by
  cases op with
  | call c =>
    obtain ⟨f, args, ts⟩ := c
    cases f with
    | value f =>
      have h1 : ev t f = ev t' f := h f (by simp [Op.operands, Call.operands])
      have h2 : args.toList.map (ev t) = args.toList.map (ev t') := List.map_congr_left fun x hx => h x (by simp [Op.operands, Call.operands]; exact .inr (by simpa using hx))
      simp only [gAt, h1, h2]
    | builtin b =>
      have h2 : args.toList.map (ev t) = args.toList.map (ev t') := List.map_congr_left fun x hx => h x (by simp [Op.operands, Call.operands]; simpa using hx)
      simp only [gAt, h2]
    | _ => exact Iff.rfl
  | _ => exact Iff.rfl

def gop (P : Program) (N0 c : Nat) (op : Op) (t : List AV) (σ : AHeap) (S : AV → AHeap → Prop) : Prop :=
  if c = 0 then lop P op t σ fun r => S r σ
  else if c = 1 then (∀ x ∈ op.operands.toList, scA N0 (ev t x)) ∧ aop P op t σ fun r _ => S r σ
  else if c = 3 then aop P op t σ fun r σ' => Same N0 σ σ' ∧ S r σ'
  else if c = 2 then aop P op t σ fun r σ' => Same N0 σ σ' ∧ S r σ'
  else if c = 5 then cop P op t fun r => S r σ
  else if 6 ≤ c then gAt P N0 (c - 6) op t σ S
  else aop P op t σ S

def okc (c : Nat) (op : Op) : Bool := if c = 0 then pureOp op else if c = 1 then light op else if c = 2 then allocOp op else if 6 ≤ c then (allocOp op || cloneOp op) else true

theorem light_of_pure {op : Op} (h : pureOp op = true) : light op = true ∨ ∃ e n ps, op = .buildSlice e n ps := by
  cases op <;> first
    | exact .inl rfl
    | exact .inr ⟨_, _, _, rfl⟩
    | cases h

theorem lop_light {op : Op} (h : light op = true) (t : List AV) (σ : AHeap) (S : AV → Prop) : lop P op t σ S = aop P op t σ fun r _ => S r := by
  cases op <;> first
    | rfl
    | cases h

theorem lop_det {op : Op} (hp : pureOp op = true) {t : List AV} {S : AV → Prop} (h : lop P op t σ S) : ∃ u, S u ∧ ∀ (σ' : AHeap) (S' : AV → Prop), lop P op t σ' S' ↔ S' u := by
  rcases light_of_pure hp with hl | ⟨e, n, ps, rfl⟩
  · rw [lop_light hl] at h
    obtain ⟨u, h1, h2⟩ := det_light hl t _ h
    refine ⟨u, h1, fun σ' S' => ?_⟩
    rw [lop_light hl, ← pure_stable (σ := σ) hp hl]
    exact h2 _
  · simp only [lop, aBS] at h ⊢
    split at h
    · rename_i x hx
      obtain ⟨h1, h2, h3⟩ := h
      split at h3
      · rename_i cs hcs
        obtain ⟨q1, q2, q3⟩ := h3
        exact ⟨_, q3, fun σ' S' => ⟨fun h' => h'.2.2.2.2, fun hS => ⟨h1, h2, q1, q2, hS⟩⟩⟩
      · exact h3.elim
    · exact h.elim

theorem lop_other {op : Op} (h : ∀ e n ps, op ≠ .buildSlice e n ps) (t : List AV) (σ : AHeap) (S : AV → Prop) : lop P op t σ S = aop P op t σ fun r _ => S r := by
  unfold lop
  split
  · exact absurd rfl (h _ _ _)
  · rfl

theorem lop_congr {t t' : List AV} {op : Op} (h : ∀ x ∈ op.operands.toList, ev t x = ev t' x) (S : AV → Prop) : lop P op t σ S ↔ lop P op t' σ S := by
  by_cases hb : ∃ e n ps, op = .buildSlice e n ps
  · obtain ⟨e, n, ps, rfl⟩ := hb
    have : (ps.toList.map fun p => (p.1, ev t p.2)) = (ps.toList.map fun p => (p.1, ev t' p.2)) := List.map_congr_left fun p hp => by
      rw [h p.2 (by simp [Op.operands]; exact ⟨p.1, by simpa using hp⟩)]
    simp only [lop, this]
  · have hb' : ∀ e n ps, op ≠ .buildSlice e n ps := fun e n ps he => hb ⟨e, n, ps, he⟩
    rw [lop_other hb', lop_other hb']
    exact aop_congr_all h _

theorem cop_congr {t t' : List AV} {op : Op} (h : ∀ x ∈ op.operands.toList, ev t x = ev t' x) (S : AV → Prop) : cop P op t S = cop P op t' S := by
  cases op with
  | call c =>
    obtain ⟨f, args, ts⟩ := c
    cases f with
    | value f =>
      have h1 : ev t f = ev t' f := h f (by simp [Op.operands, Call.operands])
      have h2 : args.toList.map (ev t) = args.toList.map (ev t') := List.map_congr_left fun x hx => h x (by simp [Op.operands, Call.operands]; exact .inr (by simpa using hx))
      simp only [cop, h1, h2]
    | _ => rfl
  | _ => rfl
theorem cVal_mono {f : AV} {args : List AV} {S S' : AV → Prop} (h : cVal P f args S) (hk : ∀ r, S r → S' r) : cVal P f args S' := by
  unfold cVal at h ⊢
  split at h
  · obtain ⟨Post, h1, h2, h4, h3⟩ := h
    exact ⟨Post, h1, h2, h4, fun r hr => hk r (h3 r hr)⟩
  · exact h.elim
theorem cop_some {t : List AV} {op : Op} {S : AV → Prop} (h : cop P op t S) : ∃ r, S r := by
  unfold cop at h
  split at h
  · split at h
    · unfold cVal at h
      split at h
      · obtain ⟨Post, h1, h2, ⟨r, hr⟩, h3⟩ := h
        exact ⟨r, h3 r hr⟩
      · exact h.elim
    · exact h.elim
  · exact h.elim
theorem cop_mono {t : List AV} {op : Op} {S S' : AV → Prop} (h : cop P op t S) (hk : ∀ r, S r → S' r) : cop P op t S' := by
  unfold cop at h ⊢
  split at h
  · split at h
    · exact cVal_mono h hk
    · exact h.elim
  · exact h.elim
/-- What is known by a contract holds in any heap. -/
theorem cop_aop {t : List AV} {op : Op} {S : AV → Prop} (h : cop P op t S) (σ : AHeap) : aop P op t σ fun r σ' => σ' = σ ∧ S r := by
  unfold cop at h
  split at h
  · rename_i c
    obtain ⟨f, args, ts⟩ := c
    simp only at h
    split at h
    · rename_i f0
      unfold cVal at h
      split at h
      · rename_i g first caps hf
        obtain ⟨Post, h1, h2, _, h3⟩ := h
        simp only [aop, aCallOp, hf]
        exact acall_ctr h1 (fun j hj => h2 _ (List.getElem_mem hj)) fun r hr => ⟨rfl, h3 r hr⟩
      · exact h.elim
    · exact h.elim
  · exact h.elim

theorem gop_congr {c : Nat} {t t' : List AV} {op : Op} (h : ∀ x ∈ op.operands.toList, ev t x = ev t' x) (S : AV → AHeap → Prop) : gop P N0 c op t σ S ↔ gop P N0 c op t' σ S := by
  unfold gop
  split
  · exact lop_congr h _
  · split
    · rw [aop_congr_all h]
      exact and_congr_left fun _ => ⟨fun hh x hx => by rw [← h x hx]; exact hh x hx, fun hh x hx => by rw [h x hx]; exact hh x hx⟩
    · split
      · exact aop_congr_all h _
      · split
        · exact aop_congr_all h _
        · split
          · rw [cop_congr h]
          · split
            · exact gAt_congr h _
            · exact aop_congr_all h _

theorem gop_info {c : Nat} {t : List AV} {op : Op} (hc : okc c op = true) {S : AV → AHeap → Prop} (h : gop P N0 c op t σ S) : gop P N0 c op t σ fun r σ' => S r σ' ∧ (c ≤ 1 ∨ c = 5 → σ' = σ) ∧ (c = 3 ∨ c = 2 ∨ 6 ≤ c → Same N0 σ σ') := by
  unfold gop at h ⊢
  split
  · rename_i h0
    rw [if_pos h0] at h
    simp only [okc, if_pos h0] at hc
    obtain ⟨u, h1, h2⟩ := lop_det hc h
    exact (h2 _ _).2 ⟨h1, fun _ => rfl, fun h3 => by omega⟩
  · rename_i h0
    rw [if_neg h0] at h
    split
    · rename_i h1
      rw [if_pos h1] at h
      exact ⟨h.1, aop_mono h.2 fun r σ' hS => ⟨hS, fun _ => rfl, fun h3 => by omega⟩⟩
    · rename_i h1
      rw [if_neg h1] at h
      split
      · rename_i h3
        rw [if_pos h3] at h
        exact aop_mono h fun r σ' hS => ⟨hS.1, hS.2, fun _ => by omega, fun _ => hS.1⟩
      · rename_i h3
        rw [if_neg h3] at h
        split
        · rename_i h2
          rw [if_pos h2] at h
          exact aop_mono h fun r σ' hS => ⟨hS.1, hS.2, fun _ => by omega, fun _ => hS.1⟩
        · rename_i h2
          rw [if_neg h2] at h
          split
          · rename_i h5
            rw [if_pos h5] at h
            exact cop_mono h fun r hS => ⟨hS, fun _ => rfl, fun hh => by omega⟩
          · rename_i h5
            rw [if_neg h5] at h
            split
            · rename_i h6
              rw [if_pos h6] at h
              exact gAt_mono (gAt_info h) fun r σ' hS => ⟨hS.1, fun _ => by omega, fun _ => hS.2⟩
            · rename_i h6
              rw [if_neg h6] at h
              exact aop_mono h fun r σ' hS => ⟨hS, fun _ => by omega, fun hh => by omega⟩

theorem gop_mono {c : Nat} {t : List AV} {op : Op} (hc : okc c op = true) {S S' : AV → AHeap → Prop} (h : gop P N0 c op t σ S) (hk : ∀ r σ', S r σ' → S' r σ') : gop P N0 c op t σ S' := by
  unfold gop at h ⊢
  split
  · rename_i h0
    rw [if_pos h0] at h
    simp only [okc, if_pos h0] at hc
    obtain ⟨u, h1, h2⟩ := lop_det hc h
    exact (h2 _ _).2 (hk _ _ h1)
  · rename_i h0
    rw [if_neg h0] at h
    split
    · rename_i h1
      rw [if_pos h1] at h
      exact ⟨h.1, aop_mono h.2 fun r σ' hS => hk _ _ hS⟩
    · rename_i h1
      rw [if_neg h1] at h
      split
      · rename_i h3
        rw [if_pos h3] at h
        exact aop_mono h fun r σ' hS => ⟨hS.1, hk _ _ hS.2⟩
      · rename_i h3
        rw [if_neg h3] at h
        split
        · rename_i h2
          rw [if_pos h2] at h
          exact aop_mono h fun r σ' hS => ⟨hS.1, hk _ _ hS.2⟩
        · rename_i h2
          rw [if_neg h2] at h
          split
          · rename_i h5
            rw [if_pos h5] at h
            exact cop_mono h fun r hS => hk _ _ hS
          · rename_i h5
            rw [if_neg h5] at h
            split
            · rename_i h6
              rw [if_pos h6] at h
              exact gAt_mono h hk
            · rename_i h6
              rw [if_neg h6] at h
              exact aop_mono h hk

theorem gop_put {c : Nat} {t : List AV} {o : Oper} {d : Option Tmp} {r : AV} (h : ∀ k, d = some k → k ∉ o.looksAt ops) (S : AV → AHeap → Prop) : gop P N0 c o.op (put t d r) σ S ↔ gop P N0 c o.op t σ S :=
  gop_congr (fun x hx => ev_put fun k hk => looks_op hx (h k hk)) S

/-- A class of 0 or 1: its answer. -/
def DetAt (P : Program) (N0 : Nat) (ops : Array Oper) (c : Nat) (σ : AHeap) (t : List AV) (o : Oper) (u : AV) : Prop :=
  ∀ K : AV → AHeap → Prop, guardA ops t o (gop P N0 c o.op t σ K) (K (.tup []) σ) ↔ K u σ

theorem gop_det {c : Nat} {t : List AV} {op : Op} (hc : okc c op = true) (h1 : c ≤ 1) {S : AV → AHeap → Prop} (h : gop P N0 c op t σ S) : ∃ u, S u σ ∧ ∀ S' : AV → AHeap → Prop, gop P N0 c op t σ S' ↔ S' u σ := by
  have h01 : c = 0 ∨ c = 1 := by omega
  rcases h01 with rfl | rfl
  · have hc' : pureOp op = true := by simpa [okc] using hc
    have h' : lop P op t σ fun r => S r σ := by simpa [gop] using h
    obtain ⟨u, q1, q2⟩ := lop_det hc' h'
    refine ⟨u, q1, fun S' => ?_⟩
    have : gop P N0 0 op t σ S' = lop P op t σ fun r => S' r σ := by simp [gop]
    rw [this]; exact q2 _ _
  · have hc' : light op = true := by simpa [okc] using hc
    have h' : (∀ x ∈ op.operands.toList, scA N0 (ev t x)) ∧ aop P op t σ fun r _ => S r σ := by simpa [gop] using h
    obtain ⟨u, q1, q2⟩ := det_light hc' t _ h'.2
    refine ⟨u, q1, fun S' => ?_⟩
    have : gop P N0 1 op t σ S' = ((∀ x ∈ op.operands.toList, scA N0 (ev t x)) ∧ aop P op t σ fun r _ => S' r σ) := by simp [gop]
    rw [this]
    exact ⟨fun hh => (q2 fun r _ => S' r σ).1 hh.2, fun hS => ⟨h'.1, (q2 fun r _ => S' r σ).2 hS⟩⟩

theorem light_det {c : Nat} {o : Oper} (hc : okc c o.op = true) (h1 : c ≤ 1) {t : List AV} {K : AV → AHeap → Prop} (h : guardA ops t o (gop P N0 c o.op t σ K) (K (.tup []) σ)) : ∃ u, K u σ ∧ DetAt P N0 ops c σ t o u := by
  rcases guard_cases h with ⟨q1, q2⟩ | ⟨q1, q2⟩
  · obtain ⟨r, hr, hi⟩ := gop_det hc h1 q1
    exact ⟨r, hr, fun K' => by rw [q2]; exact hi _⟩
  · exact ⟨.tup [], q1, fun K' => q2 _ _⟩

theorem guard_congr {t : List AV} {o : Oper} {y y' n n' : Prop} (hy : y ↔ y') (hn : n ↔ n') : guardA ops t o y n ↔ guardA ops t o y' n' := by
  unfold guardA
  split
  · exact hy
  · split
    · split
      · split
        · exact hy
        · exact hn
      · exact hn
      · exact Iff.rfl
    · exact Iff.rfl

theorem DetAt.put {c : Nat} {t : List AV} {o : Oper} {u : AV} {d : Option Tmp} {r : AV} (h : ∀ k, d = some k → k ∉ o.looksAt ops) : DetAt P N0 ops c σ (put t d r) o u ↔ DetAt P N0 ops c σ t o u := by
  have e : ∀ K : AV → AHeap → Prop, guardA ops (Va.put t d r) o (gop P N0 c o.op (Va.put t d r) σ K) (K (.tup []) σ) ↔ guardA ops t o (gop P N0 c o.op t σ K) (K (.tup []) σ) := fun K => by
    rw [guard_put h]; exact guard_congr (gop_put h K) Iff.rfl
  exact ⟨fun hd K => (e K).symm.trans (hd K), fun hd K => (e K).trans (hd K)⟩

theorem gop_stable {c : Nat} {op : Op} (hc : okc c op = true) (h1 : c ≤ 1) {σ' : AHeap} (hs : c = 0 ∨ Same N0 σ σ') {t : List AV} {S : AV → Prop} (h : gop P N0 c op t σ fun r _ => S r) : gop P N0 c op t σ' fun r _ => S r := by
  have h01 : c = 0 ∨ c = 1 := by omega
  rcases h01 with rfl | rfl
  · have hc' : pureOp op = true := by simpa [okc] using hc
    have h' : lop P op t σ S := by simpa [gop] using h
    obtain ⟨u, q1, q2⟩ := lop_det hc' h'
    have : lop P op t σ' S := (q2 _ _).2 q1
    simpa [gop] using this
  · have hc' : light op = true := by simpa [okc] using hc
    have hs : Same N0 σ σ' := hs.resolve_left (by decide)
    have h' : (∀ x ∈ op.operands.toList, scA N0 (ev t x)) ∧ aop P op t σ fun r _ => S r := by simpa [gop] using h
    have : (∀ x ∈ op.operands.toList, scA N0 (ev t x)) ∧ aop P op t σ' fun r _ => S r := ⟨h'.1, (light_stable hc' hs h'.1 S).1 h'.2⟩
    simpa [gop] using this

theorem DetAt.heap {c : Nat} {o : Oper} (hc : okc c o.op = true) (h1 : c ≤ 1) {σ' : AHeap} (hs : c = 0 ∨ Same N0 σ σ') {t : List AV} {u : AV} (h : DetAt P N0 ops c σ t o u) : DetAt P N0 ops c σ' t o u := by
  have hu := (h fun r _ => r = u).2 rfl
  have hu' : guardA ops t o (gop P N0 c o.op t σ' fun r _ => r = u) (AV.tup [] = u) := by
    rcases guard_cases hu with ⟨q1, q2⟩ | ⟨q1, q2⟩
    · rw [q2]; exact gop_stable hc h1 hs q1
    · rw [q2]; exact q1
  obtain ⟨v, hv, hd⟩ := light_det (K := fun r _ => r = u) hc h1 hu'
  have hv : v = u := hv
  rw [hv] at hd; exact hd

/-! ### The order of the text -/
def gstep (P : Program) (N0 : Nat) (ops : Array Oper) (o : Oper) (c : Nat) (K : List AV → AHeap → Prop) (t : List AV) (σ : AHeap) : Prop :=
  guardA ops t o (gop P N0 c o.op t σ fun r σ' => K (put t o.dst r) σ') (K (put t o.dst (.tup [])) σ)

def grun (P : Program) (N0 : Nat) (ops : Array Oper) (cl : Nat → Nat) : List Nat → (List AV → AHeap → Prop) → List AV → AHeap → Prop
  | [], K, t, σ => K t σ
  | i :: l, K, t, σ => match ops[i]? with
    | some o => gstep P N0 ops o (cl i) (grun P N0 ops cl l K) t σ
    | none => grun P N0 ops cl l K t σ

/-- The temporaries and the heap are those of some world. -/
def Cx (w0 : World) (σ : AHeap) (t : List AV) : Prop := ∃ ρ fz w a, HRel w0 ρ fz σ w ∧ TRel ρ σ fz w t (Act.tmps a)

theorem wpIn_some {F : Fence} (hF : Wd F) {n : Nat} {o : Oper} {a : Act} {w : World} {next : Act → World → Prop} (h : o.wpIn F n P a w next (fun _ _ _ => False)) : ∃ a' w', next a' w' := by
  obtain ⟨_, h⟩ := h
  cases hr : (o.semAt F.round a.eval).run P w with
  | ok x w' =>
    rw [hr] at h
    cases x <;> simp only [Oper.uponIn] at h <;> first
      | exact ⟨_, _, h⟩
      | exact h.elim
      | skip
    case enter f args =>
      obtain ⟨e, w'', fr, hR, _⟩ := h.2.2 [] (hF.room _)
      cases e with
      | returned v => exact ⟨_, _, hR⟩
      | panicked c => exact hR.elim
      | outgrown => obtain ⟨_, _, hR⟩ := hR; exact hR.elim
    case row row args =>
      obtain ⟨v, w'', hR, _⟩ := h.2 default [] (hF.room _)
      exact ⟨_, _, hR⟩
    case round l f tmps as bd =>
      obtain ⟨e, w'', hR, _⟩ := h.2.2 default [] (hF.room _)
      cases e with
      | returned v => exact ⟨_, _, hR⟩
      | panicked c => exact hR.elim
      | outgrown => obtain ⟨_, _, hR⟩ := hR; exact hR.elim
  | halt x w' =>
    rw [hr] at h
    cases x <;> simp only [Oper.uponIn] at h


/-- A slice's cells, laid and not written again. -/
theorem bs_ok {w0 : World} {ρ : Nat → Nat × Nat} {fz : Nat → Prop} {w : World} (h : HRel w0 ρ fz σ w) {e : TypeId} {len : Nat} {parts : List (Nat × AV)} {vparts : Array (Nat × Value)} (hl : vparts.size = parts.length)
    (hparts : ∀ (j : Nat) (p : Nat × AV) (q : Nat × Value), parts[j]? = some p → vparts[j]? = some q → q.1 = p.1 ∧ R ρ σ fz w p.2 q.2) {S : AV → Prop} (hS : aBS P e len parts S) : SemOK P w0 ρ fz σ w (Instr.buildSlice e len vparts) (fun r σ' => σ' = σ ∧ S r) := by
  unfold aBS at hS
  split at hS
  · rename_i el x hx
    obtain ⟨h1, h2, h3⟩ := hS
    split at h3
    · rename_i cs hcs
      obtain ⟨q1, q2, q3⟩ := h3
      have hh : HRel w (fun _ => (0, 0)) fz [] w := ⟨Below.refl _ _, h.fzlt, fun i b hb => by simp at hb, fun i j bi bj hi => by simp at hi⟩
      have hb : aBuildSlice P e len parts [] (fun r σ' => r = .so 0 0 0 len x.sz (some len) ∧ σ' = [⟨.own, 0, cs⟩]) := by
        simp only [aBuildSlice, hx, hcs]
        exact ⟨h1, rfl, rfl⟩
      obtain ⟨v, w', ρ', fz', r, σ', hrun, ⟨rfl, rfl⟩, hH, hR, hE⟩ := buildSlice_ok hh hl (fun j p q hp hq => by
        obtain ⟨r1, r2⟩ := hparts j p q hp hq
        exact ⟨r1, .pure _ _ (r2.toRp (h2 p (List.mem_of_getElem? hp)))⟩) hb
      have hpur : Pur [⟨.own, 0, cs⟩] (fun _ => True) (.so 0 0 0 len x.sz (some len)) (.pl false cs len (some len)) := by
        refine .so 0 0 0 len x.sz (some len) ⟨.own, 0, cs⟩ cs rfl rfl (fun h => by cases h) trivial (by simp [q2]) q2 fun j hj => ?_
        have e1 : ([⟨.own, 0, cs⟩] : AHeap)[0]?.isSome = true := rfl
        simp only [Nat.zero_add]
        rw [getD_eq hj]
        exact .same _ (q1 _ (List.getElem_mem hj))
      have hval := hpur.ok hH hR
      obtain ⟨hg, hEg⟩ := h.grow (fz' := fzS ρ' [⟨.own, 0, cs⟩] fz' (fun _ => True)) hH.below (fun k hk => .inl (hE.fzm k hk)) (fun k hk => by
        rcases hk with hk | ⟨i, b, _, hb, hd, rfl⟩
        · exact hH.fzlt k hk
        · obtain ⟨c, e, r1, _⟩ := hH.blk i b hb hd
          exact (Array.getElem?_eq_some_iff.1 r1).1) (fun k hk => by
        rcases hk with hk | ⟨i, b, _, hb, hd, rfl⟩
        · exact hE.fzn k hk
        · obtain ⟨c, e, r1, r2, _⟩ := hH.blk i b hb hd
          exact .inr ⟨r2, c, e, _, r1⟩)
      exact ⟨v, w', ρ, _, _, σ, hrun, ⟨rfl, q3⟩, hg, .pure _ _ hval, hEg⟩
    · exact h3.elim
  · exact hS.elim

theorem gop_ok {w0 : World} {ρ : Nat → Nat × Nat} {fz : Nat → Prop} {w : World} {F : Fence} (hF : Wd F) {n c : Nat} (h : HRel w0 ρ fz σ w) {t : List AV} {o : Oper} {a : Act} (hc : okc c o.op = true) (ht : TRel ρ σ fz w t a.tmps) {K : AV → AHeap → Prop} (hK : gop P N0 c o.op t σ K)
    {next : Act → World → Prop} {Q : Exit → Act → World → Prop} (hn : OpNext w0 ρ fz σ w K (fun v w' => next (a.put o.dst v) w')) : o.wpIn F n P a w next Q := by
  have lgt : ∀ {S : AV → AHeap → Prop}, light o.op = true → (aop P o.op t σ fun r _ => S r σ) → OpNext w0 ρ fz σ w S (fun v w' => next (a.put o.dst v) w') → o.wpIn F n P a w next Q := fun {S} hl hS hn => by
    obtain ⟨r, q1, q2⟩ := det_light hl t _ hS
    refine aop_ok hF h ht (K := fun r' σ' => r' = r ∧ σ' = σ) ((q2 _).2 ⟨rfl, rfl⟩) ?_
    rintro v w' ρ' fz' r' σ' ⟨rfl, rfl⟩ hh hR hE
    exact hn v w' ρ' fz' _ _ q1 hh hR hE
  unfold gop at hK
  split at hK
  · rename_i h0
    simp only [okc, if_pos h0] at hc
    rcases light_of_pure hc with hl | ⟨e, k, ps, ho⟩
    · rw [lop_light hl] at hK
      exact lgt hl hK hn
    · rw [ho] at hK
      simp only [lop] at hK
      refine wpIn_of_sem hF (by rw [ho]; simp) (by simp only [execOp, ho]) (bs_ok h (by simp) (parts_ok ht ps) hK) ?_
      rintro v w' ρ' fz' r σ' ⟨rfl, hS⟩ hh hR hE
      exact hn v w' ρ' fz' r _ hS hh hR hE
  · rename_i h0
    split at hK
    · rename_i h1
      simp only [okc, if_neg h0, if_pos h1] at hc
      exact lgt hc hK.2 hn
    · split at hK
      · exact aop_ok hF h ht (aop_mono hK fun r σ' hS => hS.2) hn
      · split at hK
        · exact aop_ok hF h ht (aop_mono hK fun r σ' hS => hS.2) hn
        · split at hK
          · refine aop_ok hF h ht (cop_aop hK σ) ?_
            rintro v w' ρ' fz' r σ' ⟨rfl, hS⟩ hh hR hE
            exact hn v w' ρ' fz' r _ hS hh hR hE
          · split at hK
            · unfold gAt at hK
              split at hK
              · rename_i e ho
                refine wpIn_of_sem hF (by rw [ho]; simp) (by simp only [execOp, ho]) (allocAt_ok h hK) ?_
                rintro v w' ρ' fz' r σ' ⟨_, hS⟩ hh hR hE
                exact hn v w' ρ' fz' r _ hS hh hR hE
              · rename_i c ho
                split at hK
                · rename_i f hf
                  unfold aCloneAt at hK
                  split at hK
                  · rename_i g nl cs m cap hfv hav
                    obtain ⟨⟨⟨k1, k2, k3⟩, kC⟩, kf, _, kS⟩ := hK
                    refine aop_ok hF h ht (K := fun r σ' => r = .so _ 1 0 m (cs.length / m) none ∧ σ' = putA σ _ ⟨.own, 1, cs⟩) (by
                      rw [ho]
                      simp only [aop, aCallOp, hf, hfv, hav]
                      exact clone_at kC k1 k2 k3 kf) ?_
                    rintro v w' ρ' fz' r σ' ⟨rfl, rfl⟩ hh hR hE
                    exact hn v w' ρ' fz' _ _ kS hh hR hE
                  · exact hK.elim
                · rename_i b hf
                  unfold aAppAt at hK
                  split at hK
                  · rename_i t1 t2 n2 nl cs m cap hts hav
                    split at hK
                    · rename_i e E hT
                      obtain ⟨⟨⟨k1, k2, k3⟩, k4, k5, k6⟩, kf, _, kS⟩ := hK
                      subst k1
                      have ha := args_ok ht c.args
                      rw [hav] at ha
                      obtain ⟨hz1, hz2⟩ := ha
                      have hs2 : (c.args.map a.eval).size = 2 := hz1
                      have hx := hz2 0 (by simp)
                      have hy := hz2 1 (by simp)
                      have hvs : c.args.map a.eval = #[(c.args.map a.eval).getD 0 undef, (c.args.map a.eval).getD 1 undef] := by
                        apply Array.ext (by simpa using hs2)
                        intro i hi _
                        have : i = 0 ∨ i = 1 := by omega
                        rcases this with rfl | rfl <;> simp [Array.getD, hs2, hi]
                      have hts2 : c.argTypes = #[t2, t2] := by rw [← Array.toArray_toList (xs := c.argTypes), hts]
                      refine wpIn_of_sem hF (by rw [ho]; simp) (s := Builtin.append_ #[t2, t2] o.type #[(c.args.map a.eval).getD 0 undef, (c.args.map a.eval).getD 1 undef]) ?_ (append_at hT k2 k3 k4 k5 k6 kf h hx hy) ?_
                      · unfold execOp
                        rw [ho]
                        simp only [resolve, hf, hts2]
                        rw [← hvs]
                        rfl
                      · rintro v w' ρ' fz' r σ' ⟨rfl, rfl⟩ hh hR hE
                        exact hn v w' ρ' fz' _ _ kS hh hR hE
                    · exact hK.elim
                  · exact hK.elim
                · exact hK.elim
              · exact hK.elim
            · exact aop_ok hF h ht hK hn

theorem gop_some {w0 : World} {t : List AV} {o : Oper} {c : Nat} (hc : okc c o.op = true) {S : AV → AHeap → Prop} (h : gop P N0 c o.op t σ S) (hx : Cx w0 σ t) : ∃ r σ', S r σ' ∧ Cx w0 σ' (put t o.dst r) ∧ (c ≤ 1 ∨ c = 5 → σ' = σ) ∧ (c = 3 ∨ c = 2 ∨ 6 ≤ c → Same N0 σ σ') ∧ σ.length ≤ σ'.length := by
  obtain ⟨ρ, fz, w, a, hh, ht⟩ := hx
  have hw := gop_ok (F := Fence.wide) wd_wide (n := 0) (o := o) (a := a) (next := fun a' w' => ∃ r σ', S r σ' ∧ Cx w0 σ' (put t o.dst r) ∧ (c ≤ 1 ∨ c = 5 → σ' = σ) ∧ (c = 3 ∨ c = 2 ∨ 6 ≤ c → Same N0 σ σ') ∧ σ.length ≤ σ'.length) (Q := fun _ _ _ => False) hh hc ht (gop_info hc h) (by
    rintro v w' ρ' fz' r σ' ⟨hS, h1, h3⟩ hh' hR hE
    exact ⟨r, σ', hS, ⟨ρ', fz', w', a.put o.dst v, hh', (ht.ev' (n0 := 0) hE).put o.dst hR⟩, h1, h3, hE.len'⟩)
  obtain ⟨_, _, hr⟩ := wpIn_some wd_wide hw
  exact hr

theorem Cx.any {w0 : World} {t : List AV} (hc : Cx w0 σ t) (d : Option Tmp) : Cx w0 σ (put t d (.tup [])) := by
  obtain ⟨ρ, fz, w, a, hh, ht⟩ := hc
  exact ⟨ρ, fz, w, a.put d undef, hh, ht.put d R.skip⟩

/-- Which classes may change places. -/
def compat1 (a b : Nat) : Bool := a == 0 || (a == 1 && (b == 1 || b == 2 || b == 3 || b == 5 || Nat.ble 6 b)) || (a == 2 && b == 5) || (Nat.ble 6 a && (b == 5 || (Nat.ble 6 b && a != b)))
def compat (a b : Nat) : Bool := compat1 a b || compat1 b a

theorem compat_symm {a b : Nat} (h : compat a b = true) : compat b a = true := by
  unfold compat at h ⊢; rwa [Bool.or_comm]
theorem compat1_spec {a b : Nat} (h : compat1 a b = true) : a = 0 ∨ (a = 1 ∧ (b = 1 ∨ b = 2 ∨ b = 3 ∨ b = 5 ∨ 6 ≤ b)) ∨ (a = 2 ∧ b = 5) ∨ (6 ≤ a ∧ (b = 5 ∨ (6 ≤ b ∧ a ≠ b))) := by
  simp only [compat1, Bool.or_eq_true, Bool.and_eq_true, beq_iff_eq, Nat.ble_eq, bne_iff_ne] at h
  omega
theorem compat_spec {a b : Nat} (h : compat a b = true) : (a ≤ 1 ∧ (a = 0 ∨ b ≤ 3 ∨ b = 5 ∨ 6 ≤ b)) ∨ (b ≤ 1 ∧ (b = 0 ∨ a ≤ 3 ∨ a = 5 ∨ 6 ≤ a)) ∨ ((a = 2 ∨ 6 ≤ a) ∧ b = 5) ∨ (a = 5 ∧ (b = 2 ∨ 6 ≤ b)) ∨ (6 ≤ a ∧ 6 ≤ b ∧ a ≠ b) := by
  unfold compat at h
  rw [Bool.or_eq_true] at h
  rcases h with h | h
  · have := compat1_spec h; omega
  · have := compat1_spec h; omega

theorem compat_heap {a b : Nat} (h : compat a b = true) (ha : a ≤ 1) {σ σ' : AHeap} (h1 : b ≤ 1 ∨ b = 5 → σ' = σ) (h3 : b = 3 ∨ b = 2 ∨ 6 ≤ b → Same N0 σ σ') (hl : N0 ≤ σ.length ∨ a = 0) : a = 0 ∨ Same N0 σ σ' := by
  have h := compat_spec h
  by_cases h0 : a = 0
  · exact .inl h0
  · by_cases hb : b ≤ 1 ∨ b = 5
    · rw [h1 hb]; exact .inr (Same.refl (hl.resolve_right h0))
    · exact .inr (h3 (by omega))

variable {cl : Nat → Nat}

theorem front_value {w0 : World} {i : Nat} {o : Oper} (hi : ops[i]? = some o) (hl : cl i ≤ 1) (hci : okc (cl i) o.op = true) {post : List Nat} {K : List AV → AHeap → Prop} : ∀ (pre : List Nat) (t : List AV) (σ : AHeap),
    (∀ j ∈ pre, ∀ oj, ops[j]? = some oj → oj.apart ops o = true ∧ compat (cl i) (cl j) = true ∧ okc (cl j) oj.op = true) → grun P N0 ops cl (pre ++ i :: post) K t σ → Cx w0 σ t → N0 ≤ σ.length → ∃ u, DetAt P N0 ops (cl i) σ t o u
  | [], t, σ, _, h, _, _ => by
    simp only [List.nil_append, grun, hi] at h
    obtain ⟨u, _, hd⟩ := light_det (K := fun r σ' => grun P N0 ops cl post K (put t o.dst r) σ') hci hl h
    exact ⟨u, hd⟩
  | j :: pre, t, σ, hp, h, hx, hN => by
    simp only [List.cons_append, grun] at h
    have hp' : ∀ k ∈ pre, ∀ ok, ops[k]? = some ok → ok.apart ops o = true ∧ compat (cl i) (cl k) = true ∧ okc (cl k) ok.op = true := fun k hk => hp k (by simp [hk])
    split at h
    · rename_i oj hoj
      obtain ⟨hap, hcm, hcj⟩ := hp j (by simp) oj hoj
      obtain ⟨a1, a2, a3⟩ := Oper.apart_spec hap
      rcases guard_cases h with ⟨h1, _⟩ | ⟨h1, _⟩
      · obtain ⟨r, σ', hr, hx', q1, q3, hle⟩ := gop_some hcj h1 hx
        obtain ⟨u, hu⟩ := front_value hi hl hci pre _ σ' hp' hr hx' (Nat.le_trans hN hle)
        have hs := (compat_heap hcm hl q1 q3 (.inl hN)).imp id Same.symm
        exact ⟨u, ((DetAt.put a1).1 hu).heap hci hl hs⟩
      · obtain ⟨u, hu⟩ := front_value hi hl hci pre _ σ hp' h1 (hx.any _) hN
        exact ⟨u, (DetAt.put a1).1 hu⟩
    · exact front_value hi hl hci pre t σ hp' h hx hN

theorem front_light {i : Nat} {o : Oper} (hi : ops[i]? = some o) (hl : cl i ≤ 1) (hci : okc (cl i) o.op = true) {post : List Nat} {K : List AV → AHeap → Prop} {u : AV} : ∀ (pre : List Nat) (t : List AV) (σ : AHeap),
    (∀ j ∈ pre, ∀ oj, ops[j]? = some oj → oj.apart ops o = true ∧ compat (cl i) (cl j) = true ∧ okc (cl j) oj.op = true) → (N0 ≤ σ.length ∨ cl i = 0) → DetAt P N0 ops (cl i) σ t o u → grun P N0 ops cl (pre ++ i :: post) K t σ → grun P N0 ops cl (pre ++ post) K (put t o.dst u) σ
  | [], t, σ, _, _, hd, h => by
    simp only [List.nil_append, grun, hi] at h
    exact (hd fun u σ' => grun P N0 ops cl post K (put t o.dst u) σ').1 h
  | j :: pre, t, σ, hp, hN, hd, h => by
    simp only [List.cons_append, grun] at h ⊢
    have hp' : ∀ k ∈ pre, ∀ ok, ops[k]? = some ok → ok.apart ops o = true ∧ compat (cl i) (cl k) = true ∧ okc (cl k) ok.op = true := fun k hk => hp k (by simp [hk])
    split at h
    · rename_i oj hoj
      obtain ⟨hap, hcm, hcj⟩ := hp j (by simp) oj hoj
      obtain ⟨a1, a2, a3⟩ := Oper.apart_spec hap
      unfold gstep
      rw [guard_put (fun k hk => a3 k hk)]
      have a2' : ∀ k, o.dst = some k → oj.dst ≠ some k := fun k hk hh => a2 k hh hk
      rcases guard_cases h with ⟨h1, h2⟩ | ⟨h1, h2⟩
      · rw [h2, gop_put (fun k hk => a3 k hk)]
        refine gop_mono hcj (gop_info hcj h1) fun r σ' ⟨hr, q1, q3⟩ => ?_
        rw [put_comm a2']
        have hs := compat_heap hcm hl q1 q3 hN
        exact front_light hi hl hci pre _ σ' hp' (hs.elim .inr fun hs => .inl hs.lo') (((DetAt.put a1).2 hd).heap hci hl hs) hr
      · rw [h2, put_comm a2']
        exact front_light hi hl hci pre _ σ hp' hN ((DetAt.put a1).2 hd) h1
    · exact front_light hi hl hci pre t σ hp' hN hd h

theorem alloc_form {e : TypeId} {t : List AV} {S : AV → AHeap → Prop} (h : aop P (.alloc e) t σ S) : ∃ z, S (.po σ.length 0 0) (σ ++ [z]) ∧ ∀ (t' : List AV) (σ' : AHeap) (S' : AV → AHeap → Prop), aop P (.alloc e) t' σ' S' ↔ S' (.po σ'.length 0 0) (σ' ++ [z]) := by
  simp only [aop, aAlloc] at h ⊢
  split at h
  · rename_i cs hcs
    exact ⟨_, h, fun t' σ' S' => Iff.rfl⟩
  · exact h.elim
theorem alloc_op {op : Op} (h : allocOp op = true) : ∃ e, op = .alloc e := by
  cases op <;> first
    | exact ⟨_, rfl⟩
    | cases h
theorem gop_2 {op : Op} {t : List AV} {S : AV → AHeap → Prop} : gop P N0 2 op t σ S = aop P op t σ fun r σ' => Same N0 σ σ' ∧ S r σ' := by simp [gop]
theorem gop_5 {op : Op} {t : List AV} {S : AV → AHeap → Prop} : gop P N0 5 op t σ S = cop P op t fun r => S r σ := by simp [gop]
theorem okc_2 {op : Op} (h : okc 2 op = true) : ∃ e, op = .alloc e := alloc_op (by simpa [okc] using h)

theorem gop_at {c : Nat} (h : 6 ≤ c) {op : Op} {t : List AV} {S : AV → AHeap → Prop} : gop P N0 c op t σ S = gAt P N0 (c - 6) op t σ S := by
  unfold gop
  rw [if_neg (by omega), if_neg (by omega), if_neg (by omega), if_neg (by omega), if_neg (by omega), if_pos h]
/-- Where an allocation, or a clone, at a place of its own goes. -/
theorem at_form {c : Nat} (h : 6 ≤ c) {op : Op} (ho : okc c op = true) {t : List AV} {S : AV → AHeap → Prop} (hg : gop P N0 c op t σ S) :
    ∃ z r0, z ≠ deadB ∧ (freeAt σ (c - 6) ∧ Same N0 σ (putA σ (c - 6) z) ∧ S r0 (putA σ (c - 6) z)) ∧ ∀ (t' : List AV) (σ' : AHeap) (S' : AV → AHeap → Prop), (∀ x ∈ op.operands.toList, ev t x = ev t' x) →
      (gop P N0 c op t' σ' S' ↔ (freeAt σ' (c - 6) ∧ Same N0 σ' (putA σ' (c - 6) z) ∧ S' r0 (putA σ' (c - 6) z))) := by
  rw [gop_at h] at hg
  have hg0 := hg
  unfold gAt at hg
  split at hg
  · simp only [aAllocAt] at hg
    split at hg
    · rename_i cs hcs
      refine ⟨_, _, (fun h => by cases h), hg, fun t' σ' S' _ => ?_⟩
      rw [gop_at h]
      simp only [gAt, aAllocAt, hcs]
    · exact hg.elim
  · rename_i c0
    split at hg
    · rename_i f hf
      unfold aCloneAt at hg
      split at hg
      · rename_i g nl cs m cap hfv hav
        refine ⟨_, _, (fun h => by cases h), hg.2, fun t' σ' S' heq => ?_⟩
        rw [gop_at h, ← gAt_congr heq]
        simp only [gAt, hf, aCloneAt, hfv, hav]
        exact ⟨fun h => h.2, fun h => ⟨hg.1, h⟩⟩
      · exact hg.elim
    · rename_i b hf
      unfold aAppAt at hg
      split at hg
      · rename_i t1 t2 n2 nl cs m cap hts hav
        split at hg
        · rename_i e E hT
          refine ⟨_, _, (fun h => by cases h), hg.2, fun t' σ' S' heq => ?_⟩
          rw [gop_at h, ← gAt_congr heq]
          simp only [gAt, hf, aAppAt, hts, hav, hT]
          exact ⟨fun h => h.2, fun h => ⟨hg.1, h⟩⟩
        · exact hg.elim
      · exact hg.elim
    · exact hg.elim
  · exact hg.elim
theorem same_put {p : Nat} (hN : N0 ≤ σ.length) (hp : N0 ≤ p) (z : ABlk) : Same N0 σ (putA σ p z) := by
  refine ⟨hN, by rw [putA_len]; omega, fun i hi => ?_⟩
  rw [putA_get, if_neg (by omega), if_pos (by omega)]
theorem at_low {p : Nat} {z : ABlk} {τ : AHeap} (hN : N0 ≤ σ.length) (hf : freeAt τ p) (hs : Same N0 τ (putA τ p z)) (hz : z ≠ deadB) : N0 ≤ p := by
  rcases Nat.lt_or_ge p N0 with h | h
  · have h1 := hs.eq p h
    rw [putA_get, if_pos rfl] at h1
    have := hf z h1.symm
    exact absurd this hz
  · exact h
theorem alloc_det {c : Nat} (h : c = 2 ∨ 6 ≤ c) {op : Op} (ho : okc c op = true) {t : List AV} {S : AV → AHeap → Prop} (hg : gop P N0 c op t σ S) :
    ∃ r σ1, S r σ1 ∧ σ.length ≤ σ1.length ∧ ∀ (t' : List AV) (S' : AV → AHeap → Prop), (∀ x ∈ op.operands.toList, ev t x = ev t' x) → (gop P N0 c op t' σ S' ↔ S' r σ1) := by
  rcases h with rfl | h
  · obtain ⟨e, rfl⟩ := okc_2 ho
    rw [gop_2] at hg
    obtain ⟨z, ⟨hsm, hu⟩, hz⟩ := alloc_form hg
    refine ⟨_, _, hu, by simp, fun t' S' _ => ?_⟩
    rw [gop_2]
    exact (hz t' σ _).trans ⟨fun h => h.2, fun h => ⟨hsm, h⟩⟩
  · obtain ⟨z, r0, _, ⟨f1, f2, f3⟩, hz⟩ := at_form h ho hg
    refine ⟨_, _, f3, by rw [putA_len]; omega, fun t' S' heq => ?_⟩
    exact (hz t' σ S' heq).trans ⟨fun h => h.2.2, fun h => ⟨f1, f2, h⟩⟩
theorem ops_put {t : List AV} {o : Oper} {d : Option Tmp} {r : AV} (h : ∀ k, d = some k → k ∉ o.looksAt ops) : ∀ x ∈ o.op.operands.toList, ev t x = ev (put t d r) x :=
  fun x hx => (ev_put fun k hk => looks_op hx (h k hk)).symm

theorem front_call {i : Nat} {o : Oper} (hi : ops[i]? = some o) (hci : okc (cl i) o.op = true) {post : List Nat} {K : List AV → AHeap → Prop} : ∀ (pre : List Nat) (t : List AV) (σ : AHeap),
    (∀ j ∈ pre, ∀ oj, ops[j]? = some oj → (cl j ≤ 1 ∨ (cl i = 5 ∧ (cl j = 2 ∨ 6 ≤ cl j)) ∨ ((cl i = 2 ∨ 6 ≤ cl i) ∧ cl j = 5) ∨ (6 ≤ cl i ∧ 6 ≤ cl j ∧ cl i ≠ cl j)) ∧ oj.apart ops o = true ∧ compat (cl i) (cl j) = true ∧ okc (cl j) oj.op = true) → N0 ≤ σ.length → grun P N0 ops cl (pre ++ i :: post) K t σ →
      guardA ops t o (gop P N0 (cl i) o.op t σ fun r σ' => grun P N0 ops cl (pre ++ post) K (put t o.dst r) σ') (grun P N0 ops cl (pre ++ post) K (put t o.dst (.tup [])) σ)
  | [], t, σ, _, _, h => by simpa only [List.nil_append, grun, hi, gstep] using h
  | j :: pre, t, σ, hp, hN, h => by
    simp only [List.cons_append, grun] at h ⊢
    have hp' : ∀ k ∈ pre, ∀ ok, ops[k]? = some ok → (cl k ≤ 1 ∨ (cl i = 5 ∧ (cl k = 2 ∨ 6 ≤ cl k)) ∨ ((cl i = 2 ∨ 6 ≤ cl i) ∧ cl k = 5) ∨ (6 ≤ cl i ∧ 6 ≤ cl k ∧ cl i ≠ cl k)) ∧ ok.apart ops o = true ∧ compat (cl i) (cl k) = true ∧ okc (cl k) ok.op = true := fun k hk => hp k (by simp [hk])
    split at h
    · rename_i oj hoj
      obtain ⟨hlj, haj, hcm, hcj⟩ := hp j (by simp) oj hoj
      obtain ⟨a1, a2, a3⟩ := Oper.apart_spec haj
      rcases hlj with hlj | ⟨hl5, hl2⟩ | ⟨hl2, hl5⟩ | ⟨hi6, hj6, hne⟩
      · obtain ⟨u, hu, hd⟩ := light_det (K := fun u σ' => grun P N0 ops cl (pre ++ i :: post) K (put t oj.dst u) σ') hcj hlj h
        have ih := front_call hi hci pre _ σ hp' hN hu
        rw [guard_put (fun k hk => a1 k hk)] at ih
        have back : ∀ r σ', (cl j = 0 ∨ Same N0 σ σ') → grun P N0 ops cl (pre ++ post) K (put (put t oj.dst u) o.dst r) σ' → gstep P N0 ops oj (cl j) (grun P N0 ops cl (pre ++ post) K) (put t o.dst r) σ' := fun r σ' hs hr => by
          refine (((DetAt.put (r := r) (fun k hk => a3 k hk)).2 (hd.heap hcj hlj hs)) fun u σ' => grun P N0 ops cl (pre ++ post) K (put (put t o.dst r) oj.dst u) σ').2 ?_
          rwa [put_comm (fun k hk hh => a2 k hh hk)]
        rcases guard_cases ih with ⟨h1, h2⟩ | ⟨h1, h2⟩
        · rw [h2]
          rw [gop_put (fun k hk => a1 k hk)] at h1
          exact gop_mono hci (gop_info hci h1) fun r σ' ⟨hr, q1, q3⟩ => back r σ' (compat_heap (compat_symm hcm) hlj q1 q3 (.inl hN)) hr
        · rw [h2]; exact back _ _ (.inr (Same.refl hN)) h1
      · -- an allocation ahead of a call by contract
        unfold gstep at h
        rcases guard_cases h with ⟨g1, g2⟩ | ⟨g1, g2⟩
        · obtain ⟨r0, σ0, hu, hle, hz⟩ := alloc_det hl2 hcj g1
          have ih := front_call hi hci pre _ _ hp' (Nat.le_trans hN hle) hu
          rw [guard_put (fun k hk => a1 k hk)] at ih
          have back : ∀ r, grun P N0 ops cl (pre ++ post) K (put (put t oj.dst r0) o.dst r) σ0 → gstep P N0 ops oj (cl j) (grun P N0 ops cl (pre ++ post) K) (put t o.dst r) σ := fun r hr => by
            unfold gstep
            rw [guard_put (fun k hk => a3 k hk), g2]
            refine (hz _ _ (ops_put (fun k hk => a3 k hk))).2 ?_
            rwa [put_comm (fun k hk hh => a2 k hh hk)]
          rcases guard_cases ih with ⟨h1, h2⟩ | ⟨h1, h2⟩
          · rw [h2]
            rw [gop_put (fun k hk => a1 k hk), hl5, gop_5] at h1
            rw [hl5, gop_5]
            exact cop_mono h1 fun r hr => back r hr
          · rw [h2]; exact back _ h1
        · have ih := front_call hi hci pre _ _ hp' hN g1
          rw [guard_put (fun k hk => a1 k hk)] at ih
          have back : ∀ r, grun P N0 ops cl (pre ++ post) K (put (put t oj.dst (.tup [])) o.dst r) σ → gstep P N0 ops oj (cl j) (grun P N0 ops cl (pre ++ post) K) (put t o.dst r) σ := fun r hr => by
            unfold gstep
            rw [guard_put (fun k hk => a3 k hk), g2]
            rwa [put_comm (fun k hk hh => a2 k hh hk)]
          rcases guard_cases ih with ⟨h1, h2⟩ | ⟨h1, h2⟩
          · rw [h2]
            rw [gop_put (fun k hk => a1 k hk), hl5, gop_5] at h1
            rw [hl5, gop_5]
            exact cop_mono h1 fun r hr => back r hr
          · rw [h2]; exact back _ h1
      · -- a call by contract ahead of an allocation
        unfold gstep at h
        rw [hl5] at h
        rcases guard_cases h with ⟨g1, g2⟩ | ⟨g1, g2⟩
        · rw [gop_5] at g1
          obtain ⟨r0, hr0⟩ := cop_some g1
          have ih0 := front_call hi hci pre _ _ hp' hN hr0
          rw [guard_put (fun k hk => a1 k hk)] at ih0
          rcases guard_cases ih0 with ⟨h1, h2⟩ | ⟨h1, h2⟩
          · rw [gop_put (fun k hk => a1 k hk)] at h1
            obtain ⟨r1, σ1, _, _, hz⟩ := alloc_det hl2 hci h1
            rw [h2]
            refine (hz _ _ (fun _ _ => rfl)).2 ?_
            unfold gstep
            rw [guard_put (fun k hk => a3 k hk), hl5, g2, gop_put (fun k hk => a3 k hk), gop_5]
            refine cop_mono g1 fun r hr => ?_
            have ih := front_call hi hci pre _ _ hp' hN hr
            rw [guard_put (fun k hk => a1 k hk), h2, gop_put (fun k hk => a1 k hk)] at ih
            have := (hz _ _ (fun _ _ => rfl)).1 ih
            rwa [put_comm (fun k hk hh => a2 k hh hk)]
          · rw [h2]
            unfold gstep
            rw [guard_put (fun k hk => a3 k hk), hl5, g2, gop_put (fun k hk => a3 k hk), gop_5]
            refine cop_mono g1 fun r hr => ?_
            have ih := front_call hi hci pre _ _ hp' hN hr
            rw [guard_put (fun k hk => a1 k hk), h2] at ih
            rwa [put_comm (fun k hk hh => a2 k hh hk)]
        · have ih := front_call hi hci pre _ _ hp' hN g1
          rw [guard_put (fun k hk => a1 k hk)] at ih
          have back : ∀ r σ', grun P N0 ops cl (pre ++ post) K (put (put t oj.dst (.tup [])) o.dst r) σ' → gstep P N0 ops oj (cl j) (grun P N0 ops cl (pre ++ post) K) (put t o.dst r) σ' := fun r σ' hr => by
            unfold gstep
            rw [guard_put (fun k hk => a3 k hk), hl5, g2]
            rwa [put_comm (fun k hk hh => a2 k hh hk)]
          rcases guard_cases ih with ⟨h1, h2⟩ | ⟨h1, h2⟩
          · rw [h2]
            rw [gop_put (fun k hk => a1 k hk)] at h1
            exact gop_mono hci h1 fun r σ' hr => back r σ' hr
          · rw [h2]; exact back _ _ h1
      · -- two allocations, each at a place of its own
        unfold gstep at h
        rcases guard_cases h with ⟨g1, g2⟩ | ⟨g1, g2⟩
        · obtain ⟨zj, rj, nj, ⟨fj, smj, hu⟩, hzj⟩ := at_form hj6 hcj g1
          have ih := front_call hi hci pre _ _ hp' smj.lo' hu
          rw [guard_put (fun k hk => a1 k hk)] at ih
          rcases guard_cases ih with ⟨h1, h2⟩ | ⟨h1, h2⟩
          · rw [gop_put (fun k hk => a1 k hk)] at h1
            obtain ⟨zi, ri, ni, ⟨fi, smi, hr⟩, hzi⟩ := at_form hi6 hci h1
            have hq : cl i - 6 ≠ cl j - 6 := by omega
            have fi' := (freeAt_put hq _).1 fi
            have hli : N0 ≤ cl i - 6 := at_low smj.lo' fi smi ni
            have hlj : N0 ≤ cl j - 6 := at_low hN fj smj nj
            rw [h2]
            refine (hzi _ _ _ (fun _ _ => rfl)).2 ⟨fi', same_put hN hli _, ?_⟩
            unfold gstep
            rw [guard_put (fun k hk => a3 k hk), g2]
            refine (hzj _ _ _ (ops_put (fun k hk => a3 k hk))).2 ⟨(freeAt_put hq.symm _).2 fj, same_put (by rw [putA_len]; omega) hlj _, ?_⟩
            rw [← put_comm (fun k hk => a2 k hk), putA_comm hq.symm]
            exact hr
          · rw [h2]
            unfold gstep
            rw [guard_put (fun k hk => a3 k hk), g2]
            refine (hzj _ _ _ (ops_put (fun k hk => a3 k hk))).2 ⟨fj, smj, ?_⟩
            rw [← put_comm (fun k hk => a2 k hk)]
            exact h1
        · have ih := front_call hi hci pre _ _ hp' hN g1
          rw [guard_put (fun k hk => a1 k hk)] at ih
          have back : ∀ r σ', grun P N0 ops cl (pre ++ post) K (put (put t oj.dst (.tup [])) o.dst r) σ' → gstep P N0 ops oj (cl j) (grun P N0 ops cl (pre ++ post) K) (put t o.dst r) σ' := fun r σ' hr => by
            unfold gstep
            rw [guard_put (fun k hk => a3 k hk), g2]
            rwa [put_comm (fun k hk hh => a2 k hh hk)]
          rcases guard_cases ih with ⟨h1, h2⟩ | ⟨h1, h2⟩
          · rw [h2]
            rw [gop_put (fun k hk => a1 k hk)] at h1
            exact gop_mono hci h1 fun r σ' hr => back r σ' hr
          · rw [h2]; exact back _ _ h1
    · exact front_call hi hci pre t σ hp' hN h

/-! ### Who comes ahead of whom -/
def edgesOf (o : Oper) : List Nat := (o.after.toList.filter (Region.binds .any)).map (·.on)

inductive Anc (ops : Array Oper) : Nat → Nat → Prop
  | edge {j i : Nat} {o : Oper} : ops[i]? = some o → j ∈ edgesOf o → Anc ops j i
  | more {j k i : Nat} {o : Oper} : ops[i]? = some o → k ∈ edgesOf o → Anc ops j k → Anc ops j i

def ancTab (ops : List Oper) : List (List Nat) := ops.foldl (fun tab o => tab ++ [(edgesOf o).flatMap fun e => e :: tab.getD e []]) []

theorem ancTab_ok (l : List Oper) : ∀ (pre : List Oper) (tab : List (List Nat)), ops.toList = pre ++ l → tab.length = pre.length → (∀ i, ∀ j ∈ tab.getD i [], Anc ops j i) →
    ∀ i, ∀ j ∈ (l.foldl (fun tab o => tab ++ [(edgesOf o).flatMap fun e => e :: tab.getD e []]) tab).getD i [], Anc ops j i := by
  induction l with
  | nil => intro pre tab _ _ h; exact h
  | cons o l ih =>
    intro pre tab hp hl h
    refine ih (pre ++ [o]) _ (by simp [hp]) (by simp [hl]) ?_
    intro i j hj
    by_cases hi : i < tab.length
    · refine h i j ?_
      simpa [List.getElem?_append_left hi] using hj
    · by_cases he : i = tab.length
      · subst he
        have ho : ops[tab.length]? = some o := by
          rw [← Array.getElem?_toList, hp, hl]; simp
        simp only [List.getD_eq_getElem?_getD, List.getElem?_concat_length, Option.getD_some, List.mem_flatMap, List.mem_cons] at hj
        obtain ⟨e, he, hj⟩ := hj
        rcases hj with rfl | hj
        · exact .edge ho he
        · exact .more ho he (h e j (by simpa using hj))
      · have : (tab ++ [(edgesOf o).flatMap fun e => e :: tab.getD e []]).length ≤ i := by simp; omega
        rw [List.getD_eq_getElem?_getD, List.getElem?_eq_none this] at hj
        cases hj

def Closed (ops : Array Oper) (listed : Array Bool) : Prop := ∀ i o, ops[i]? = some o → listed.getD i false = true → ∀ e ∈ edgesOf o, listed.getD e false = true

theorem Anc.listed {listed : Array Bool} (hc : Closed ops listed) {j i : Nat} (h : Anc ops j i) : listed.getD i false = true → listed.getD j false = true := by
  induction h with
  | edge ho he => exact fun hi => hc _ _ ho hi _ he
  | more ho he _ ih => exact fun hi => ih (hc _ _ ho hi _ he)

theorem Anc.ready {listed : Array Bool} (hc : Closed ops listed) {j i : Nat} (h : Anc ops j i) (hr : i ∈ Region.ready .any ops listed) : listed.getD j false = true := by
  obtain ⟨_, o, ho, hall⟩ := mem_ready.1 hr
  have hall' : ∀ e ∈ edgesOf o, listed.getD e false = true := by
    intro e he
    obtain ⟨d, hd, rfl⟩ := List.mem_map.1 he
    obtain ⟨h1, h2⟩ := List.mem_filter.1 hd
    exact hall d (Array.mem_toList_iff.1 h1) h2
  cases h with
  | edge ho' he => rw [ho] at ho'; cases ho'; exact hall' _ he
  | more ho' he h => rw [ho] at ho'; cases ho'; exact h.listed hc (hall' _ he)

theorem Closed.set {listed : Array Bool} (hc : Closed ops listed) {i : Nat} (hr : i ∈ Region.ready .any ops listed) : Closed ops (listed.setIfInBounds i true) := by
  intro k o ho hk e he
  by_cases hki : i = k
  · subst hki
    exact getD_set_true ((Anc.edge ho he).ready hc hr)
  · rw [getD_set_ne false hki] at hk
    exact getD_set_true (hc k o ho hk e he)

/-- Each operation waits for those ahead of it, or could as well go first. -/
def okDraw (cs : List Nat) (ops : Array Oper) : Bool :=
  let tab := ancTab ops.toList
  (List.range ops.size).all fun i => match ops[i]? with
    | none => false
    | some o => okc (cs.getD i 4) o.op && (edgesOf o).all (· < i) && (List.range i).all fun j => (tab.getD i []).contains j || match ops[j]? with
      | none => false
      | some oj => compat (cs.getD i 4) (cs.getD j 4) && oj.apart ops o

structure OkDraw (cl : Nat → Nat) (ops : Array Oper) : Prop where
  back : ∀ i o, ops[i]? = some o → ∀ e ∈ edgesOf o, e < i
  okc : ∀ i o, ops[i]? = some o → okc (cl i) o.op = true
  pair : ∀ (i : Nat) (o : Oper) (j : Nat) (oj : Oper), ops[i]? = some o → j < i → ops[j]? = some oj → Anc ops j i ∨ (compat (cl i) (cl j) = true ∧ oj.apart ops o = true)

theorem okDraw_ok {cs : List Nat} (h : okDraw cs ops = true) : OkDraw (fun i => cs.getD i 4) ops := by
  have hall := List.all_eq_true.1 h
  have tabok : ∀ i, ∀ j ∈ (ancTab ops.toList).getD i [], Anc ops j i := ancTab_ok ops.toList [] [] (by simp) rfl (by simp)
  have get : ∀ i o, ops[i]? = some o → _ := fun i o ho => by
    have hi := hall i (List.mem_range.2 (Array.getElem?_eq_some_iff.1 ho).1)
    simp only [ho, Bool.and_eq_true] at hi
    exact hi
  constructor
  · intro i o ho e he
    simpa using List.all_eq_true.1 (get i o ho).1.2 e he
  · intro i o ho
    exact (get i o ho).1.1
  · intro i o j oj ho hj hoj
    have h2 := List.all_eq_true.1 (get i o ho).2 j (List.mem_range.2 hj)
    simp only [hoj, Bool.or_eq_true, Bool.and_eq_true] at h2
    rcases h2 with h2 | h2
    · exact .inl (tabok i j (by simpa using h2))
    · exact .inr h2

/-! ### The steps -/
section
variable {w0 : World} {nb n0 : Nat} {F : Fence} {n : Nat}

theorem opIn_ok (hF : Wd F) {i : Nat} {o : Oper} (hi : ops[i]? = some o) {c : Nat} (hc : okc c o.op = true) {Nx : AState → Prop} {Q' : Exit → Act → World → Prop} {K : Act → World → Prop} {s : AState} {ρ : Nat → Nat × Nat} {fz : Nat → Prop} {a : Act} {w : World}
    (h : guardA ops s.t o (gop P N0 c o.op s.t s.σ fun r σ' => Nx ⟨put s.t o.dst r, σ'⟩) (Nx ⟨put s.t o.dst (.tup []), s.σ⟩)) (hs : SRel w0 nb ρ fz s a w) (hn : n0 ≤ s.σ.length)
    (hq : ∀ s' ρ' fz' a' w', Nx s' → s.σ.length ≤ s'.σ.length → SRel w0 nb ρ' fz' s' a' w' → Ev w0 n0 ρ s.σ fz w ρ' s'.σ fz' w' → K a' w') : wpOpIn F n P ops Q' i K a w := by
  simp only [wpOpIn, hi]
  rcases guardA_ok hs.t h with ⟨hw, h⟩ | ⟨hw, h⟩
  · rw [if_pos hw]
    refine gop_ok hF hs.h hc hs.t h ?_
    intro v w' ρ' fz' r σ' hK hh hR hE
    refine hq ⟨put s.t o.dst r, σ'⟩ ρ' fz' _ w' hK hE.len' ⟨hh, (hs.t.ev' (n0 := n0) hE).put o.dst hR, ?_⟩ (hE.lower hn)
    have : (a.put o.dst v).defers = a.defers := by cases o.dst <;> rfl
    rw [this]; exact hs.m.ev hE
  · rw [if_neg (by simp [hw])]
    refine ⟨fun f _ => hF.1 f, hq ⟨put s.t o.dst (.tup []), s.σ⟩ ρ fz _ w h (Nat.le_refl _) ⟨hs.h, hs.t.put o.dst R.skip, ?_⟩ (Ev.refl _ _ _ _ hn)⟩
    have : (a.put o.dst undef).defers = a.defers := by cases o.dst <;> rfl
    rw [this]; exact hs.m

theorem ready_head (hd : OkDraw cl ops) {listed : Array Bool} {i : Nat} (hlt : i < ops.size) (hun : listed.getD i true = false) (hl : ∀ j, j < i → listed.getD j false = true) : i ∈ Region.ready .any ops listed := by
  obtain ⟨o, ho⟩ : ∃ o, ops[i]? = some o := ⟨_, Array.getElem?_eq_getElem hlt⟩
  refine mem_ready.2 ⟨hun, o, ho, fun e he hb => ?_⟩
  exact hl _ (hd.back i o ho e.on (List.mem_map.2 ⟨e, List.mem_filter.2 ⟨Array.mem_toList_iff.2 he, hb⟩, rfl⟩))

theorem getD_two {listed : Array Bool} {i : Nat} (h : i < listed.size) (d d' : Bool) : listed.getD i d = listed.getD i d' := by simp [h]

theorem ready_lt {listed : Array Bool} {i : Nat} (hr : i ∈ Region.ready .any ops listed) : i < ops.size := by
  obtain ⟨_, o, ho, _⟩ := mem_ready.1 hr
  exact (Array.getElem?_eq_some_iff.1 ho).1

theorem any_ok (hF : Wd F) (hd : OkDraw cl ops) {Q : AState → Prop} {Q' : Exit → Act → World → Prop} : ∀ (fuel : Nat) (L : List Nat) (listed : Array Bool) (s : AState) (ρ : Nat → Nat × Nat) (fz : Nat → Prop) (a : Act) (w : World),
    L.length ≤ fuel → listed.size = ops.size → Closed ops listed → L.Pairwise (· < ·) → (∀ i ∈ L, i < ops.size) → (∀ i, i < ops.size → (i ∈ L ↔ listed.getD i true = false)) → N0 ≤ s.σ.length →
    grun P N0 ops cl L (fun t σ => Q ⟨t, σ⟩) s.t s.σ → SRel w0 nb ρ fz s a w → n0 ≤ s.σ.length →
    (∀ s' ρ' fz' a' w', Q s' → SRel w0 nb ρ' fz' s' a' w' → Ev w0 n0 ρ s.σ fz w ρ' s'.σ fz' w' → Q' .normal a' w') → wpAnyIn F n P .any ops Q' fuel listed a w := by
  intro fuel
  have fin : ∀ (L : List Nat) (listed : Array Bool) (s : AState) (ρ : Nat → Nat × Nat) (fz : Nat → Prop) (a : Act) (w : World), L = [] → listed.size = ops.size → (∀ i, i < ops.size → (i ∈ L ↔ listed.getD i true = false)) →
      grun P N0 ops cl L (fun t σ => Q ⟨t, σ⟩) s.t s.σ → SRel w0 nb ρ fz s a w → n0 ≤ s.σ.length →
      (∀ s' ρ' fz' a' w', Q s' → SRel w0 nb ρ' fz' s' a' w' → Ev w0 n0 ρ s.σ fz w ρ' s'.σ fz' w' → Q' .normal a' w') → Region.ready .any ops listed = [] ∧ Q' .normal a w := by
    intro L listed s ρ fz a w hL hz hin h hs hn hq
    subst hL
    refine ⟨?_, hq s ρ fz a w h hs (Ev.refl _ _ _ _ hn)⟩
    rw [List.eq_nil_iff_forall_not_mem]
    intro i hi
    exact List.not_mem_nil ((hin i (ready_lt hi)).2 (mem_ready.1 hi).1)
  induction fuel with
  | zero =>
    intro L listed s ρ fz a w hf hz hc hp hm hin hN h hs hn hq
    exact fin L listed s ρ fz a w (List.length_eq_zero_iff.1 (by omega)) hz hin h hs hn hq
  | succ fuel ih =>
    intro L listed s ρ fz a w hf hz hc hp hm hin hN h hs hn hq
    cases hL : L with
    | nil =>
      obtain ⟨h1, h2⟩ := fin L listed s ρ fz a w hL hz hin h hs hn hq
      exact ⟨fun _ => h2, fun i hi => (by rw [h1] at hi; cases hi)⟩
    | cons i0 L0 =>
      have hi0 : i0 ∈ L := by simp [hL]
      have hlisted : ∀ j, j < ops.size → j ∉ L → listed.getD j false = true := fun j hj hnot => by
        rw [getD_two (by omega) false true]
        have := fun h0 => hnot ((hin j hj).2 h0)
        simpa using this
      have hr0 : i0 ∈ Region.ready .any ops listed := ready_head hd (hm i0 hi0) ((hin i0 (hm i0 hi0)).1 hi0) fun j hj => by
        refine hlisted j (by have := hm i0 hi0; omega) fun hj' => ?_
        rw [hL] at hj' hp
        rcases List.mem_cons.1 hj' with h1 | h1
        · omega
        · have := (List.pairwise_cons.1 hp).1 j h1; omega
      refine ⟨fun h0 => (by rw [h0] at hr0; cases hr0), fun i hi => ?_⟩
      have hilt := ready_lt hi
      obtain ⟨hun, o, ho, _⟩ := mem_ready.1 hi
      have hiL := (hin i hilt).2 hun
      obtain ⟨pre, post, hsp⟩ := List.append_of_mem hiL
      have hp' := hp
      rw [hsp] at hp' h
      have hpre : ∀ j ∈ pre, j < i := fun j hj => (List.pairwise_append.1 hp').2.2 j hj i (by simp)
      have hpost : ∀ j ∈ post, i < j := fun j hj => (List.pairwise_cons.1 (List.pairwise_append.1 hp').2.1).1 j hj
      have hpair : ∀ j ∈ pre, ∀ oj, ops[j]? = some oj → oj.apart ops o = true ∧ compat (cl i) (cl j) = true ∧ okc (cl j) oj.op = true := by
        intro j hj oj hoj
        rcases hd.pair i o j oj ho (hpre j hj) hoj with h2 | h2
        · have := h2.ready hc hi
          have hjL : j ∈ L := by rw [hsp]; simp [hj]
          rw [getD_two (by have := hm j hjL; omega) false true, (hin j (hm j hjL)).1 hjL] at this
          cases this
        · exact ⟨h2.2, h2.1, hd.okc j oj hoj⟩
      have hg : guardA ops s.t o (gop P N0 (cl i) o.op s.t s.σ fun r σ' => grun P N0 ops cl (pre ++ post) (fun t σ => Q ⟨t, σ⟩) (put s.t o.dst r) σ') (grun P N0 ops cl (pre ++ post) (fun t σ => Q ⟨t, σ⟩) (put s.t o.dst (.tup [])) s.σ) := by
        by_cases hl : cl i ≤ 1
        · obtain ⟨u, hu'⟩ := front_value ho hl (hd.okc i o ho) pre s.t s.σ hpair h ⟨ρ, fz, w, a, hs.h, hs.t⟩ hN
          exact (hu' fun r σ' => grun P N0 ops cl (pre ++ post) (fun t σ => Q ⟨t, σ⟩) (put s.t o.dst r) σ').2 (front_light ho hl (hd.okc i o ho) pre s.t s.σ hpair (.inl hN) hu' h)
        · refine front_call ho (hd.okc i o ho) pre s.t s.σ (fun j hj oj hoj => ?_) hN h
          obtain ⟨q1, q2, q3⟩ := hpair j hj oj hoj
          refine ⟨?_, q1, q2, q3⟩
          have := compat_spec q2
          omega
      refine opIn_ok hF ho (hd.okc i o ho) (Nx := fun s' => grun P N0 ops cl (pre ++ post) (fun t σ => Q ⟨t, σ⟩) s'.t s'.σ) hg hs hn ?_
      intro s' ρ' fz' a' w' hNx hle hs' hE
      have hsub : ∀ j, j ∈ pre ++ post ↔ j ∈ L ∧ j ≠ i := by
        intro j
        rw [hsp]
        simp only [List.mem_append, List.mem_cons]
        constructor
        · rintro (h1 | h1)
          · exact ⟨.inl h1, by have := hpre j h1; omega⟩
          · exact ⟨.inr (.inr h1), by have := hpost j h1; omega⟩
        · rintro ⟨h1 | h1 | h1, h2⟩
          · exact .inl h1
          · exact absurd h1 h2
          · exact .inr h1
      refine ih (pre ++ post) _ s' ρ' fz' a' w' ?_ (by simpa using hz) (hc.set hi) ?_ ?_ ?_ (Nat.le_trans hN hle) hNx hs' hE.len' ?_
      · have : L.length = pre.length + post.length + 1 := by rw [hsp]; simp; omega
        simp only [List.length_append]; omega
      · exact List.Pairwise.sublist (List.Sublist.append (List.Sublist.refl _) (List.sublist_cons_self _ _)) hp'
      · exact fun j hj => hm j ((hsub j).1 hj).1
      · intro j hj
        rw [hsub]
        by_cases hji : i = j
        · subst hji; simp [hz, hilt]
        · rw [getD_set_ne true hji, ← hin j hj]
          exact ⟨fun hh => hh.1, fun hh => ⟨hh, fun h2 => hji h2.symm⟩⟩
      · intro s2 ρ2 fz2 a2 w2 hQ hS hE2
        exact hq s2 ρ2 fz2 a2 w2 hQ hS (hE.trans hE2)
end

/-- In the order of the text; beside each operation its class. -/
def gops (P : Program) (N0 : Nat) (ops : Array Oper) : List Oper → List Nat → (List AV → AHeap → Prop) → List AV → AHeap → Prop
  | [], _, K, t, σ => K t σ
  | o :: l, cs, K, t, σ => gstep P N0 ops o (cs.headD 4) (gops P N0 ops l cs.tail K) t σ

theorem gops_run {cs : List Nat} {K : List AV → AHeap → Prop} (hok : ∀ i o, ops[i]? = some o → okc (cs.getD i 4) o.op = true) (l : List Oper) : ∀ (k : Nat) (t : List AV) (σ : AHeap), (∀ i o, l[i]? = some o → ops[k + i]? = some o) → gops P N0 ops l (cs.drop k) K t σ →
    grun P N0 ops (fun i => cs.getD i 4) ((List.range l.length).map (k + ·)) K t σ := by
  induction l with
  | nil => intro k t σ _ h; exact h
  | cons o l ih =>
    intro k t σ hat h
    have h0 : ops[k + 0]? = some o := hat 0 o (by simp)
    rw [List.length_cons, List.range_succ_eq_map, List.map_cons]
    simp only [grun, h0]
    simp only [gops] at h
    have hhd : (cs.drop k).headD 4 = cs.getD (k + 0) 4 := by
      simp [List.headD_eq_head?_getD, List.head?_drop]
    have htl : (cs.drop k).tail = cs.drop (k + 1) := by simp
    rw [hhd, htl] at h
    have hl : ∀ t σ, gops P N0 ops l (cs.drop (k + 1)) K t σ → grun P N0 ops (fun i => cs.getD i 4) ((List.map Nat.succ (List.range l.length)).map (k + ·)) K t σ := by
      intro t σ ht
      have := ih (k + 1) t σ (fun i o hi => by have := hat (i + 1) o (by simpa using hi); rwa [show k + 1 + i = k + (i + 1) by omega]) ht
      rw [List.map_map]
      have e : ((k + ·) ∘ Nat.succ : Nat → Nat) = (k + 1 + ·) := by funext x; simp; omega
      rw [e]; exact this
    unfold gstep at h ⊢
    rcases guard_cases h with ⟨h1, h2⟩ | ⟨h1, h2⟩
    · rw [h2]; exact gop_mono (hok _ _ h0) h1 fun r σ' hr => hl _ _ hr
    · rw [h2]; exact hl _ _ h1

theorem draw_rule {n0 : Nat} {top : Bool} {id : Nat} {Q : Exit → AState → Prop} {s : AState} (cs : List Nat) (hP : P.follows .mixedOrders = true) (hd : okDraw cs ops = true)
    (h : gops P s.σ.length ops ops.toList cs (fun t σ => Q .normal ⟨t, σ⟩) s.t s.σ) : AW P n0 top (.region id ops true) Q s := by
  intro F n hF ht w0 nb ρ fz a w hs hn _ _
  refine wpIn_region_any hP ?_
  have hdd := okDraw_ok hd
  have hrun := gops_run (cs := cs) hdd.okc ops.toList 0 s.t s.σ (fun i o hi => by simpa using hi) h
  have e : (List.range ops.toList.length).map (0 + ·) = List.range ops.size := by simp
  rw [e] at hrun
  obtain ⟨hh, hE⟩ := hs.h.drew
  refine any_ok hF hdd (Q := Q .normal) ops.size (List.range ops.size) _ s ρ fz a w.drew (by simp) (by simp) ?_ List.pairwise_lt_range (by simp) ?_ (Nat.le_refl _) hrun ⟨hh, hs.t.ev' (n0 := n0) hE, hs.m.ev hE⟩ hn ?_
  · intro i o ho hl
    have hlt := (Array.getElem?_eq_some_iff.1 ho).1
    simp [hlt] at hl
  · intro i hi
    simp [hi]
  · intro s' ρ' fz' a' w' hQ hS hE2
    exact ⟨s', ρ', fz', hQ, hS, (hE.lower hn).trans hE2⟩
end
end Go.Proofs.Va
/- VA, part 16: a range over a function, and the functions that are ranged over. -/
set_option linter.unusedVariables false
set_option linter.unusedSimpArgs false
namespace Go.Proofs.Va
open Go Go.RowKit

abbrev GP := (Nat → Nat × Nat) → AHeap → (Nat → Prop) → World → Prop

/-- What grows along with the blocks. -/
def GCl (w0 : World) (G : GP) : Prop := ∀ ρ σ fz w ρ' σ' fz' w', G ρ σ fz w → HRel w0 ρ' fz' σ' w' → Ev w0 σ.length ρ σ fz w ρ' σ' fz' w' → G ρ' σ' fz' w'

/-- What a round comes to: Y; it goes on (G), or is left (Gx). -/
def YieldOk (F : Fence) (P : Program) (w0 : World) (l : Nat) (Y : List AV → AHeap → (AHeap → Prop) → (Exit → AHeap → Prop) → Prop) (G : GP) (Gx : Exit → GP) : Prop :=
  ∀ args σ Kt Kf, Y args σ Kt Kf → ∀ (n : Nat) (ρ : Nat → Nat × Nat) (fz : Nat → Prop) (w : World) (vs : Array Value), HRel w0 ρ fz σ w → G ρ σ fz w → RL ρ σ fz w args vs → YieldAt F n P l vs w fun e w' =>
    ∃ σ' ρ' fz', HRel w0 ρ' fz' σ' w' ∧ ((e = .returned (.bool true) ∧ G ρ' σ' fz' w' ∧ Kt σ' ∧ Ev w0 σ.length ρ σ fz w ρ' σ' fz' w') ∨ ∃ x, e = .returned (.bool false) ∧ Gx x ρ' σ' fz' w' ∧ Kf x σ')

/-- A function that is ranged over. -/
def AIter (P : Program) (g : FuncId) (lb : List AV) (σ : AHeap) (Y : List AV → AHeap → (AHeap → Prop) → (Exit → AHeap → Prop) → Prop) (D : AHeap → Prop) (X : Exit → AHeap → Prop) : Prop :=
  ∀ (F : Fence) (n : Nat) (w0 : World) (l : Nat) (G : GP) (Gx : Exit → GP), Wd F → F.round = none → GCl w0 G → (∀ x, GCl w0 (Gx x)) → YieldOk F P w0 l Y G Gx → ∀ (ρ : Nat → Nat × Nat) (fz : Nat → Prop) (w : World) (vs : Array Value), HRel w0 ρ fz σ w → G ρ σ fz w → RL ρ σ fz w lb vs →
    CallsIn F n P g (#[.func (.yield l) #[] #[]] ++ vs) w fun e w' => ∃ v σ' ρ' fz', e = .returned v ∧ HRel w0 ρ' fz' σ' w' ∧ ((G ρ' σ' fz' w' ∧ D σ') ∨ ∃ x, Gx x ρ' σ' fz' w' ∧ X x σ')

section
variable {P : Program} {ops : Array Oper} {w0 : World} {F : Fence} {n n0 : Nat}

theorem opsPut_ok (hF : Wd F) {Q : AState → Prop} {Q' : Exit → Act → World → Prop} {more : List Oper} (l : List Oper) : ∀ (s : AState) (ρ : Nat → Nat × Nat) (fz : Nat → Prop) (a : Act) (w : World),
    awpOps P ops l Q s → HRel w0 ρ fz s.σ w → TRel ρ s.σ fz w s.t a.tmps →
    (∀ s' ρ' fz' a' w', Q s' → HRel w0 ρ' fz' s'.σ w' → TRel ρ' s'.σ fz' w' s'.t a'.tmps → a'.defers = a.defers → Ev w0 s.σ.length ρ s.σ fz w ρ' s'.σ fz' w' → wpListIn F n P ops Q' more a' w') → wpListIn F n P ops Q' (l ++ more) a w := by
  induction l with
  | nil => intro s ρ fz a w h hh ht hq; exact hq s ρ fz a w h hh ht rfl (Ev.refl _ _ _ _ (Nat.le_refl _))
  | cons o rest ih =>
    intro s ρ fz a w h hh ht hq
    simp only [awpOps] at h
    simp only [List.cons_append, wpListIn]
    rcases guardA_ok ht h with ⟨hw, h⟩ | ⟨hw, h⟩
    · rw [if_pos hw]
      refine aop_ok hF hh ht h ?_
      intro v w' ρ' fz' r σ' hK hh' hR hE
      refine ih ⟨put s.t o.dst r, σ'⟩ ρ' fz' _ w' hK hh' ((ht.ev' (n0 := s.σ.length) hE).put o.dst hR) ?_
      intro s' ρ2 fz2 a' w2 hQ hh2 ht2 hd hE2
      refine hq s' ρ2 fz2 a' w2 hQ hh2 ht2 (hd.trans ?_) (hE.trans (hE2.lower hE.len'))
      cases o.dst <;> rfl
    · rw [if_neg (by simp [hw])]
      refine ⟨fun f _ => hF.1 f, ih ⟨put s.t o.dst (.tup []), s.σ⟩ ρ fz _ w h hh (ht.put o.dst R.skip) ?_⟩
      intro s' ρ2 fz2 a' w2 hQ hh2 ht2 hd hE2
      refine hq s' ρ2 fz2 a' w2 hQ hh2 ht2 (hd.trans ?_) hE2
      cases o.dst <;> rfl
end

/-- A statement of a function that is ranged over. -/
def AWI (P : Program) (l : Nat) (Y : List AV → AHeap → (AHeap → Prop) → (Exit → AHeap → Prop) → Prop) (X : Exit → AHeap → Prop) (c : Code) (Q : Exit → AState → Prop) (s : AState) : Prop :=
  ∀ (F : Fence) (n : Nat) (w0 : World) (G : GP) (Gx : Exit → GP), Wd F → GCl w0 G → (∀ x, GCl w0 (Gx x)) → YieldOk F P w0 l Y G Gx → ∀ (ρ : Nat → Nat × Nat) (fz : Nat → Prop) (a : Act) (w : World), HRel w0 ρ fz s.σ w → TRel ρ s.σ fz w s.t a.tmps → a.defers = [] → G ρ s.σ fz w →
    c.wpIn F n P (fun e a' w' => a'.defers = [] ∧ ((∃ s' ρ' fz', Q e s' ∧ HRel w0 ρ' fz' s'.σ w' ∧ TRel ρ' s'.σ fz' w' s'.t a'.tmps ∧ G ρ' s'.σ fz' w') ∨ (e = .ret ∧ ∃ x σ' ρ' fz', HRel w0 ρ' fz' σ' w' ∧ Gx x ρ' σ' fz' w' ∧ X x σ'))) a w

section
variable {P : Program} {l : Nat} {Y : List AV → AHeap → (AHeap → Prop) → (Exit → AHeap → Prop) → Prop} {X : Exit → AHeap → Prop} {Q : Exit → AState → Prop} {s : AState}

theorem awi_skip (h : Q .normal s) : AWI P l Y X .skip Q s := fun F n w0 G Gx hF hG hGx hY ρ fz a w hh ht hd hg => wpIn_skip ⟨hd, .inl ⟨s, ρ, fz, h, hh, ht, hg⟩⟩
theorem awi_exit {id : Nat} (h : Q (.exit id) s) : AWI P l Y X (.exit id) Q s := fun F n w0 G Gx hF hG hGx hY ρ fz a w hh ht hd hg => wpIn_exit ⟨hd, .inl ⟨s, ρ, fz, h, hh, ht, hg⟩⟩
theorem awi_region {id : Nat} {ops : Array Oper} (h : awpOps P ops ops.toList (Q .normal) s) : AWI P l Y X (.region id ops false) Q s := by
  intro F n w0 G Gx hF hG hGx hY ρ fz a w hh ht hd hg
  refine wpIn_region_list ?_
  rw [← List.append_nil ops.toList]
  refine opsPut_ok hF ops.toList s ρ fz a w h hh ht ?_
  intro s' ρ' fz' a' w' hQ hh' ht' hd' hE
  exact ⟨hd'.trans hd, .inl ⟨s', ρ', fz', hQ, hh', ht', hG _ _ _ _ _ _ _ _ hg hh' hE⟩⟩
theorem awi_seq {x y : Code} (h : AWI P l Y X x (thenA (AWI P l Y X y Q) Q) s) : AWI P l Y X (.seq x y) Q s := by
  intro F n w0 G Gx hF hG hGx hY ρ fz a w hh ht hd hg
  refine wpIn_seq (wpIn_mono (h F n w0 G Gx hF hG hGx hY ρ fz a w hh ht hd hg) ?_)
  rintro e a' w' ⟨hd', ⟨s', ρ', fz', hQ, hh', ht', hg'⟩ | ⟨rfl, h1⟩⟩
  · cases e with
    | normal => exact hQ F n w0 G Gx hF hG hGx hY ρ' fz' a' w' hh' ht' hd' hg'
    | _ => exact ⟨hd', .inl ⟨s', ρ', fz', hQ, hh', ht', hg'⟩⟩
  · exact ⟨hd', .inr ⟨rfl, h1⟩⟩
theorem awi_cond {c : Operand} {x y : Code} {q : Bool} (hc : ev s.t c = .v (.bool q)) (h1 : q = true → AWI P l Y X x Q s) (h2 : q = false → AWI P l Y X y Q s) : AWI P l Y X (.cond c x y) Q s := by
  intro F n w0 G Gx hF hG hGx hY ρ fz a w hh ht hd hg
  have hv := ev_ok ht c
  rw [hc] at hv
  refine wpIn_cond hv.v_eq ?_
  cases q with
  | true => exact h1 rfl F n w0 G Gx hF hG hGx hY ρ fz a w hh ht hd hg
  | false => exact h2 rfl F n w0 G Gx hF hG hGx hY ρ fz a w hh ht hd hg
theorem awi_block {id : Nat} {c : Code} (h : AWI P l Y X c (inBlockA id Q) s) : AWI P l Y X (.block id c) Q s := by
  intro F n w0 G Gx hF hG hGx hY ρ fz a w hh ht hd hg
  refine wpIn_block (wpIn_mono (h F n w0 G Gx hF hG hGx hY ρ fz a w hh ht hd hg) ?_)
  rintro e a' w' ⟨hd', ⟨s', ρ', fz', hQ, hh', ht', hg'⟩ | ⟨rfl, h1⟩⟩
  · cases e with
    | exit id' =>
      simp only [Exit.inBlock, inBlockA] at hQ ⊢
      split
      · rename_i hid; rw [if_pos hid] at hQ; exact ⟨hd', .inl ⟨s', ρ', fz', hQ, hh', ht', hg'⟩⟩
      · rename_i hid; rw [if_neg hid] at hQ; exact ⟨hd', .inl ⟨s', ρ', fz', hQ, hh', ht', hg'⟩⟩
    | _ => exact ⟨hd', .inl ⟨s', ρ', fz', hQ, hh', ht', hg'⟩⟩
  · exact ⟨hd', .inr ⟨rfl, h1⟩⟩
/-- One round is asked for. -/
theorem awi_yield {id : Nat} {ops : Array Oper} {pre : List Oper} {y nt : Oper} {c : Call} {f : Operand} {dy dn : Tmp} {ty : TypeId} (hops : ops.toList = pre ++ [y, nt]) (hy : y.op = .call c) (hc : c.callee = .value f) (hyd : y.dst = some dy) (hyg : y.guard = none)
    (hn : nt.op = .unOp .not ty (.tmp dy)) (hnd : nt.dst = some dn) (hng : nt.guard = none)
    (h : awpOps P ops pre (fun s1 => dy < s1.t.length ∧ dn < s1.t.length ∧ ev s1.t f = .fn (.yield l) [] [] ∧ Y (c.args.toList.map (ev s1.t)) s1.σ (fun σ' => Q .normal ⟨put (put s1.t (some dy) (.v (.bool true))) (some dn) (.v (.bool false)), σ'⟩) X) s) :
    AWI P l Y X (.seq (.region id ops false) (.cond (.tmp dn) .ret .skip)) Q s := by
  intro F n w0 G Gx hF hG hGx hY ρ fz a w hh ht hd hg
  refine wpIn_seq (wpIn_region_list ?_)
  rw [hops]
  refine opsPut_ok hF pre s ρ fz a w h hh ht ?_
  rintro s1 ρ1 fz1 a1 w1 ⟨hdy, hdn, hf, hK⟩ hh1 ht1 hd1 hE1
  have hg1 := hG _ _ _ _ _ _ _ _ hg hh1 hE1
  have hfe := ev_ok ht1 f
  rw [hf] at hfe
  obtain ⟨arr, brr, hfv, hl1, hl2, _, _⟩ := hfe.fn_inv
  have harr : arr = #[] := by simpa using hl1
  have hbrr : brr = #[] := by simpa using hl2
  subst harr hbrr
  have hargs : RL ρ1 s1.σ fz1 w1 (c.args.toList.map (ev s1.t)) (c.args.map a1.eval) := args_ok ht1 c.args
  have hex : execOp a1.eval y = Instr.yield l (c.args.map a1.eval) := by
    unfold execOp
    rw [hy]
    simp only [resolve, hc, hfv]
    simp [go_sem]
  obtain ⟨fn, tmps, assign, body, hyr, hround⟩ := hY _ _ _ _ hK (n - 1) ρ1 fz1 w1 _ hh1 hg1 hargs
  rw [wpListIn, if_pos (by simp [Region.wanted, hyg])]
  refine ⟨fun f _ => hF.1 f, ?_⟩
  rw [Oper.semAt_eq _ _ _ (by intro c' hh'; rw [hy] at hh'; cases hh'), hex, hyr]
  refine ⟨fun hs => (by rw [hF.2.1] at hs; cases hs), hround.mono ?_⟩
  rintro e w2 ⟨σ2, ρ2, fz2, hh2, hres⟩
  have hop : ∀ (b : Bool) (t : List AV) (Q2 : AState → Prop), ev t (.tmp dy) = .v (.bool b) → Q2 ⟨put t (some dn) (.v (.bool (!b))), σ2⟩ → awpOps P ops [nt] Q2 ⟨t, σ2⟩ := by
    intro b t Q2 he hQ
    simp only [awpOps, guardA, hng, hn, aop, he, aUn, hnd]
    exact hQ
  have hdd : a1.defers = [] := hd1.trans hd
  rcases hres with ⟨rfl, hg2, hK2, hE2⟩ | ⟨x, rfl, hg2, hK2⟩
  · have ht2 : TRel ρ2 σ2 fz2 w2 (put s1.t (some dy) (.v (.bool true))) (a1.put y.dst (.bool true)).tmps := by
      rw [hyd]; exact (ht1.ev' (n0 := s1.σ.length) hE2).put (some dy) (.lit _)
    change wpListIn F n P ops _ ([nt] ++ []) (a1.put y.dst (.bool true)) w2
    refine opsPut_ok hF [nt] ⟨_, σ2⟩ ρ2 fz2 _ w2 (hop true _ (fun s' => s' = ⟨put (put s1.t (some dy) (.v (.bool true))) (some dn) (.v (.bool false)), σ2⟩) (by simp [ev, put, hdy]) rfl) hh2 ht2 ?_
    rintro s' ρ3 fz3 a3 w3 rfl hh3 ht3 hd3 hE3
    refine wpIn_cond_false ?_ ?_
    · have := ev_ok ht3 (.tmp dn)
      have he : ev (put (put s1.t (some dy) (.v (.bool true))) (some dn) (.v (.bool false))) (.tmp dn) = .v (.bool false) := by simp [ev, put, hdn]
      rw [he] at this
      exact this.v_eq
    · exact wpIn_skip ⟨hd3.trans ((by rw [hyd]; rfl : (a1.put y.dst (.bool true)).defers = a1.defers).trans hdd), .inl ⟨_, ρ3, fz3, hK2, hh3, ht3, hG _ _ _ _ _ _ _ _ hg2 hh3 hE3⟩⟩
  · have ht2 : TRel ρ2 σ2 fz2 w2 (put (List.replicate a1.tmps.size .any) (some dy) (.v (.bool false))) (a1.put y.dst (.bool false)).tmps := by
      rw [hyd]
      refine TRel.put ⟨by simp, fun i hi => ?_⟩ (some dy) (.lit _)
      simp only [List.getElem_replicate]; exact R.top _
    have hly : dy < a1.tmps.size := by rw [ht1.len]; exact hdy
    have hln : dn < a1.tmps.size := by rw [ht1.len]; exact hdn
    change wpListIn F n P ops _ ([nt] ++ []) (a1.put y.dst (.bool false)) w2
    refine opsPut_ok hF [nt] ⟨_, σ2⟩ ρ2 fz2 _ w2 (hop false _ (fun s' => s' = ⟨put (put (List.replicate a1.tmps.size .any) (some dy) (.v (.bool false))) (some dn) (.v (.bool true)), σ2⟩) (by simp [ev, put, hly]) rfl) hh2 ht2 ?_
    rintro s' ρ3 fz3 a3 w3 rfl hh3 ht3 hd3 hE3
    refine wpIn_cond_true ?_ ?_
    · have := ev_ok ht3 (.tmp dn)
      have he : ev (put (put (List.replicate a1.tmps.size .any) (some dy) (.v (.bool false))) (some dn) (.v (.bool true))) (.tmp dn) = .v (.bool true) := by simp [ev, put, hln]
      rw [he] at this
      exact this.v_eq
    · exact wpIn_ret ⟨hd3.trans ((by rw [hyd]; rfl : (a1.put y.dst (.bool false)).defers = a1.defers).trans hdd), .inr ⟨rfl, x, σ2, ρ3, fz3, hh3, hGx x _ _ _ _ _ _ _ _ hg2 hh3 hE3, hK2⟩⟩
end
end Go.Proofs.Va
/- VA, part 17: the rule for a range over a function. -/
set_option linter.unusedVariables false
set_option linter.unusedSimpArgs false
namespace Go.Proofs.Va
open Go Go.RowKit

section
variable {P : Program} {w0 : World} {n0 : Nat} {ρ ρ' : Nat → Nat × Nat} {σ σ' : AHeap} {fz fz' : Nat → Prop} {w w' : World}

theorem Ev.putput {l : Nat} {o o' : Obj} (E : Ev w0 n0 ρ σ fz (w.putObj l o') ρ' σ' fz' w') (hl : w.heap[l]? = some o) (ho : o.isCells = false) (ho' : o'.isCells = false) (hf : ¬ fz l) : Ev w0 n0 ρ σ fz w ρ' σ' fz' (w'.putObj l o) := by
  have hlt : l < w.heap.size := (Array.getElem?_eq_some_iff.1 hl).1
  have h1 : (w.putObj l o').heap[l]? = some o' := World.putObj_heap_same hlt
  have h2 : w'.heap[l]? = some o' := E.same _ _ h1 ho'
  have hlt' : l < w'.heap.size := (Array.getElem?_eq_some_iff.1 h2).1
  have hsz := E.size
  rw [World.putObj_size] at hsz
  refine ⟨E.len, E.len', E.blk, E.fzm, ?_, ?_, by rw [World.putObj_size]; exact hsz, ?_, ?_⟩
  · intro k hk
    rcases E.fzn k hk with h | ⟨h, c, e, fr, hc⟩
    · exact .inl h
    · have : k ≠ l := fun hh => by subst hh; rw [h2] at hc; cases hc; cases ho'
      exact .inr ⟨h, c, e, fr, (World.putObj_heap_other this).trans hc⟩
  · intro k hk
    have : k ≠ l := fun hh => hf (hh ▸ hk)
    rw [World.putObj_heap_other this, E.fzs k hk, World.putObj_heap_other this]
  · intro k ob hk hc
    by_cases hkl : k = l
    · subst hkl
      rw [hl] at hk; cases hk
      exact World.putObj_heap_same hlt'
    · rw [World.putObj_heap_other hkl]
      exact E.same k ob ((World.putObj_heap_other hkl).trans hk) hc
  · intro k c e fr hk
    have hkl : k ≠ l := fun hh => by subst hh; rw [hl] at hk; cases hk; cases ho
    obtain ⟨c', fr', h3, h4⟩ := E.cells k c e fr ((World.putObj_heap_other hkl).trans hk)
    exact ⟨c', fr', (World.putObj_heap_other hkl).trans h3, h4⟩

theorem Ev.putNew {l : Nat} {o o' : Obj} (E : Ev w0 n0 ρ σ fz w ρ' σ' fz' w') (hw : w.heap.size ≤ l) (hl : w'.heap[l]? = some o) (ho : o.isCells = false) (hfz : ∀ k, fz k → k < w.heap.size) : Ev w0 n0 ρ σ fz w ρ' σ' fz' (w'.putObj l o') := by
  refine ⟨E.len, E.len', E.blk, E.fzm, ?_, ?_, by rw [World.putObj_size]; exact E.size, ?_, ?_⟩
  · intro k hk
    rcases E.fzn k hk with h | ⟨h, c, e, fr, hc⟩
    · exact .inl h
    · have : k ≠ l := fun hh => by subst hh; rw [hl] at hc; cases hc; cases ho
      exact .inr ⟨h, c, e, fr, (World.putObj_heap_other this).trans hc⟩
  · intro k hk
    rw [World.putObj_heap_other (by have := hfz k hk; omega)]
    exact E.fzs k hk
  · intro k ob hk hc
    have := (Array.getElem?_eq_some_iff.1 hk).1
    rw [World.putObj_heap_other (by omega)]
    exact E.same k ob hk hc
  · intro k c e fr hk
    have := (Array.getElem?_eq_some_iff.1 hk).1
    obtain ⟨c', fr', h3, h4⟩ := E.cells k c e fr hk
    exact ⟨c', fr', (World.putObj_heap_other (by omega)).trans h3, h4⟩

theorem Ev.notfz {l : Nat} {o : Obj} (E : Ev w0 n0 ρ σ fz w ρ' σ' fz' w') (hw : w.heap.size ≤ l) (hl : w'.heap[l]? = some o) (ho : o.isCells = false) (hfz : ∀ k, fz k → k < w.heap.size) : ¬ fz' l := by
  intro h
  rcases E.fzn l h with h | ⟨_, c, e, fr, hc⟩
  · have := hfz l h; omega
  · rw [hl] at hc; cases hc; cases ho

theorem TRel.putObj {l : Nat} {o o' : Obj} (hl : w.heap[l]? = some o) (hc : o.isCells = false) (hf : ¬ fz l) {t : List AV} {tmps : Array Value} (h : TRel ρ σ fz w t tmps) : TRel ρ σ fz (w.putObj l o') t tmps :=
  ⟨h.len, fun i hi => (h.at_ i hi).putObj hl hc hf⟩

/-! ### The iterator's function -/
theorem aiter_body {g : FuncId} {fn : Func} {c : Code} {lb : List AV} {Y : List AV → AHeap → (AHeap → Prop) → (Exit → AHeap → Prop) → Prop} {D : AHeap → Prop} {X : Exit → AHeap → Prop} (hf : P.funcs[g]? = some fn) (hb : fn.body = some c) (hres : fn.results = #[])
    (h : ∀ l, AWI P l Y X c (fun e s' => (e = .normal ∨ e = .ret) ∧ D s'.σ) ⟨enterT ([.fn (.yield l) [] []] ++ lb) fn.ntmps, σ⟩) : AIter P g lb σ Y D X := by
  intro F n w0 l G Gx hF hro hG hGx hY ρ fz w vs hh hg hr
  refine callsIn_of_wp_marks hf hb (hF.1 g) (wpIn_mono (h l F n w0 G Gx hF hG hGx hY ρ fz _ w hh (enter_rel ?_ _) rfl hg) ?_) hro
  · refine RL.append (xs := [.fn (.yield l) [] []]) (us := #[.func (.yield l) #[] #[]]) ⟨rfl, fun j hj => ?_⟩ hr
    simp at hj
    subst hj
    exact .pure _ _ (.fn _ [] [] #[] #[] rfl rfl (fun j hj => by simp at hj) (fun j hj => by simp at hj))
  · rintro e a' w' ⟨hd, h1⟩
    have hrun : (results fn a'.tmps).run P w' = .ok (.tuple #[]) w' := by
      rw [results_eq, hres]; simp
    have fin : (∃ σ' ρ' fz', HRel w0 ρ' fz' σ' w' ∧ ((G ρ' σ' fz' w' ∧ D σ') ∨ ∃ x, Gx x ρ' σ' fz' w' ∧ X x σ')) → LeavesInM F n P fn a'.tmps (fun e w' => ∃ v σ' ρ' fz', e = .returned v ∧ HRel w0 ρ' fz' σ' w' ∧ ((G ρ' σ' fz' w' ∧ D σ') ∨ ∃ x, Gx x ρ' σ' fz' w' ∧ X x σ')) a'.defers .returning w' := by
      rintro ⟨σ', ρ', fz', q⟩
      rw [hd]
      exact ⟨_, hrun, _, σ', ρ', fz', rfl, q⟩
    rcases h1 with ⟨s', ρ', fz', ⟨he, hD⟩, hh', ht', hg'⟩ | ⟨rfl, x, σ', ρ', fz', hh', hg', hX⟩
    · rcases he with rfl | rfl <;> exact fin ⟨s'.σ, ρ', fz', hh', .inl ⟨hg', hD⟩⟩
    · exact fin ⟨σ', ρ', fz', hh', .inr ⟨x, hg', hX⟩⟩

/-! ### The statement -/
def setPs (t : List AV) (ps : List Tmp) (args : List AV) : List AV := (ps.zip args).foldl (fun t p => t.set p.1 p.2) t

theorem setPs_ok (ps : List Tmp) : ∀ (args : List AV) (vs : List Value) (t : List AV) (tmps : Array Value), vs.length = args.length → (∀ j (h : j < args.length), R ρ σ fz w args[j] (vs.getD j undef)) → TRel ρ σ fz w t tmps →
    TRel ρ σ fz w (setPs t ps args) ((ps.zip vs).foldl (fun t p => t.setIfInBounds p.1 p.2) tmps) := by
  induction ps with
  | nil => intro args vs t tmps _ _ h; simpa [setPs] using h
  | cons p ps ih =>
    intro args vs t tmps hl hR h
    match args, vs, hl with
    | [], [], _ => simpa [setPs] using h
    | x :: args, v :: vs, hl =>
      simp only [setPs, List.zip_cons_cons, List.foldl_cons]
      refine ih args vs _ _ (by simpa using hl) (fun j hj => by have := hR (j + 1) (by simpa using hj); simpa only [List.getElem_cons_succ, List.getD_cons_succ] using this) ?_
      have := h.put (a := { tmps := tmps, defers := [] }) (some p) (by simpa using hR 0 (by simp))
      simpa [put, Act.put] using this

def jumps : Exit → Option Code
  | .ret => some .ret
  | .exit id => some (.exit id)
  | .goto t => some (.goto t)
  | _ => none

/-- ONE ROUND: the left sides are assigned to; the body. -/
def bodyY (P : Program) (ps : Array Tmp) (assign body : Code) (t : List AV) (args : List AV) (σ : AHeap) (Kt : AHeap → Prop) (Kf : Exit → AHeap → Prop) : Prop :=
  args.length = ps.size ∧ awp P σ.length false assign (fun e s1 => e = .normal ∧ awp P σ.length false body (fun e s2 => (e = .normal ∧ Kt s2.σ) ∨ ((jumps e).isSome = true ∧ Kf e s2.σ)) s1) ⟨setPs t ps.toList args, σ⟩

theorem range_rule {g : Operand} {ps : Array Tmp} {assign body c : Code} {gf : FuncId} {fn : Func} {lb : List AV} {Q : Exit → AState → Prop} {s : AState} (hg : ev s.t g = .fn (.func gf) [] lb) (hf : P.funcs[gf]? = some fn) (hb : fn.body = some c) (hname : (fn.name == "runtime.NumGoroutine") = false)
    (hit : AIter P gf lb s.σ (bodyY P ps assign body s.t) (fun σ' => Q .normal ⟨s.t, σ'⟩) (fun x σ' => Q x ⟨s.t, σ'⟩)) : AW P n0 true (.rangeFunc g ps assign body) Q s := by
  intro F n hF htop w0 nb ρ fz a w hs hn hb1 hb2
  have hro := htop rfl
  refine wpIn_rangeFunc ?_
  intro fnid hfn
  rw [hro]
  have hname' : ¬ fn.name = "runtime.NumGoroutine" := by simpa using hname
  have eg : ∀ args w, (callFunc gf args).run P w = .ok (.enter gf args) w := fun args w => by simp [callFunc, hf, hname', hb]
  have hfe := ev_ok hs.t g
  rw [hg] at hfe
  obtain ⟨arr, vs, hfv, hl1, hl2, _, hRl⟩ := hfe.fn_inv
  have harr : arr = #[] := by simpa using hl1
  subst harr
  obtain ⟨rec, hrec⟩ : ∃ rec : LoopState → Option Code → Loop, rec = fun st pe => { state := st, pending := pe, fn := fnid, tmps := a.tmps, params := ps, assign, body, defers := w.heap.size } := ⟨_, rfl⟩
  obtain ⟨W1, hW1⟩ : ∃ W1, (w.alloc (.deferred (some []))).alloc (.loop (rec .ready none)) = W1 := ⟨_, rfl⟩
  have hL1 : W1.heap[w.heap.size + 1]? = some (.loop (rec .ready none)) := by
    rw [← hW1]; have := World.alloc_heap_new (w.alloc (.deferred (some []))) (.loop (rec .ready none)); rwa [World.size_alloc] at this
  have hK1 : W1.heap[w.heap.size]? = some (.deferred (some [])) := by
    rw [← hW1]; exact (Below.heap_alloc _ _ _ (by simp)).trans (World.alloc_heap_new w _)
  have hbel : Below w.heap.size w W1 := by
    rw [← hW1]; exact (((Below.refl _ w).alloc (Nat.le_refl _) _).alloc (by simp) _)
  obtain ⟨hh1, hE1⟩ := hs.h.grow (fz' := fz) hbel (fun _ h => h) (fun k hk => Nat.lt_of_lt_of_le (hs.h.fzlt k hk) hbel.size) (fun k hk => .inl hk)
  have hle := hs.h.le
  let G : GP := fun ρ' σ' fz' w' => Ev w0 s.σ.length ρ s.σ fz w ρ' σ' fz' w' ∧ w'.heap[w.heap.size + 1]? = some (.loop (rec .ready none)) ∧ w'.heap[w.heap.size]? = some (.deferred (some []))
  let Gx : Exit → GP := fun x ρ' σ' fz' w' => Ev w0 s.σ.length ρ s.σ fz w ρ' σ' fz' w' ∧ (∃ c, jumps x = some c ∧ w'.heap[w.heap.size + 1]? = some (.loop (rec .done (some c)))) ∧ w'.heap[w.heap.size]? = some (.deferred (some []))
  have hG : GCl w0 G := fun ρ1 σ1 fz1 w1 ρ2 σ2 fz2 w2 ⟨h1, h2, h3⟩ hh hE => ⟨h1.trans (hE.lower h1.len'), hE.same _ _ h2 rfl, hE.same _ _ h3 rfl⟩
  have hGx : ∀ x, GCl w0 (Gx x) := fun x ρ1 σ1 fz1 w1 ρ2 σ2 fz2 w2 ⟨h1, ⟨c, h2, h2'⟩, h3⟩ hh hE => ⟨h1.trans (hE.lower h1.len'), ⟨c, h2, hE.same _ _ h2' rfl⟩, hE.same _ _ h3 rfl⟩
  refine ⟨w.heap.size + 1, [{ target := .collected w.heap.size, args := #[] }], W1, { target := .fn (.func gf) vs, args := #[.func (.yield (w.heap.size + 1)) #[] #[]] }, W1, gf,
    #[.func (.yield (w.heap.size + 1)) #[] #[]] ++ vs, W1, ?_, ?_, ?_, ?_, (fun hs => (by rw [hF.2.1] at hs; cases hs)), ?_⟩
  · rw [← hW1, hrec]; exact run_enterLoop_outer _ _ _ _ _
  · simp only [resolve, hfv]
    simp [go_sem]
  · intro f' _; exact hF.1 f'
  · simp [invoke, go_sem, eg]
  · have hRl1 : RL ρ s.σ fz W1 lb vs := ⟨hl2, fun j hj => (hRl j hj).ev hE1 (hRl j hj).sc⟩
    refine (hit F (n - 1) w0 (w.heap.size + 1) G Gx hF hro hG hGx ?_ ρ fz W1 vs hh1 ⟨hE1, hL1, hK1⟩ hRl1).mono ?_
    · -- a round
      rintro args σ1 Kt Kf ⟨hal, hY⟩ m ρ1 fz1 w1 us hw1 ⟨hE, hL, hK⟩ hR
      have hy := run_yield (P := P) (args := us) hL (by rw [hrec]; simpa using hR.1.trans hal)
      rw [hrec] at hy
      refine ⟨fnid, _, assign, body, hy, roundIn_of_wpIn hfn ?_⟩
      have ht1 : TRel ρ1 σ1 fz1 w1 (setPs s.t ps.toList args) ((ps.zip us).foldl (fun tmps (t, a) => tmps.setIfInBounds t a) a.tmps) := by
        have h0 := setPs_ok ps.toList args us.toList s.t a.tmps (by simpa using hR.1) (fun j hj => by simpa using hR.2 j hj) (hs.t.ev' (n0 := n0) hE)
        have e : (ps.zip us).foldl (fun tmps (t, a) => tmps.setIfInBounds t a) a.tmps = (ps.toList.zip us.toList).foldl (fun t p => t.setIfInBounds p.1 p.2) a.tmps := by
          rw [← Array.foldl_toList, Array.toList_zip]
        rw [e]; exact h0
      have hl0 : w.heap.size ≤ w.heap.size + 1 := by omega
      have hasg := awp_ok assign _ _ hY (F.inRound (w.heap.size + 1)) m (hF.inRound _) (fun h => (by cases h)) w0 w1.heap.size ρ1 fz1 { tmps := (ps.zip us).foldl (fun tmps (t, a) => tmps.setIfInBounds t a) a.tmps, defers := [] } w1
        ⟨hw1, ht1, [], rfl, List.nodup_nil, fun D hD => by cases hD⟩ (Nat.le_refl _) hw1.le (Nat.le_refl _)
      refine wpIn_mono hasg ?_
      rintro e a2 w2 ⟨s2, ρ2, fz2, ⟨rfl, hB⟩, hS2, hE2⟩
      have hEE2 := hE.trans (hE2.lower hE.len')
      have hL2 := hE2.same _ _ hL rfl
      have hK2 := hE2.same _ _ hK rfl
      refine ⟨_, run_beginRound hL2 (by rw [hrec]), ?_⟩
      have hnf2 := hEE2.notfz hl0 hL2 rfl hs.h.fzlt.lt
      have hlt2 : w.heap.size + 1 < w2.heap.size := (Array.getElem?_eq_some_iff.1 hL2).1
      obtain ⟨W3, hW3⟩ : ∃ W3, w2.putObj (w.heap.size + 1) (.loop { rec .ready none with state := .busy }) = W3 := ⟨_, rfl⟩
      have hL3 : W3.heap[w.heap.size + 1]? = some (.loop { rec .ready none with state := .busy }) := by rw [← hW3]; exact World.putObj_heap_same hlt2
      have hK3 : W3.heap[w.heap.size]? = some (.deferred (some [])) := by rw [← hW3]; exact (World.putObj_heap_other (by omega)).trans hK2
      have hh3 : HRel w0 ρ2 fz2 s2.σ W3 := by rw [← hW3]; exact hS2.h.putObj hL2 rfl (by omega) hnf2
      have ht3 : TRel ρ2 s2.σ fz2 W3 s2.t a2.tmps := by rw [← hW3]; exact hS2.t.putObj hL2 rfl hnf2
      have hE3 : Ev w0 s.σ.length ρ s.σ fz w ρ2 s2.σ fz2 W3 := by rw [← hW3]; exact hEE2.putNew hl0 hL2 rfl hs.h.fzlt.lt
      have hm3 : MRel w1.heap.size a2.defers W3 := by
        obtain ⟨Ds, h1, h2, h3⟩ := hS2.m
        have hlt1 : w.heap.size + 1 < w1.heap.size := (Array.getElem?_eq_some_iff.1 hL).1
        refine ⟨Ds, h1, h2, fun D hD => ⟨?_, (h3 D hD).2⟩⟩
        rw [← hW3, World.putObj_heap_other (by have := (h3 D hD).2; omega)]
        exact (h3 D hD).1
      rw [hW3]
      have hbody := awp_ok body _ _ hB (F.inRound (w.heap.size + 1)) m (hF.inRound _) (fun h => (by cases h)) w0 w1.heap.size ρ2 fz2 a2 W3 ⟨hh3, ht3, hm3⟩ hE2.len' hw1.le
        (by have := hE2.size; rw [← hW3, World.putObj_size]; exact this)
      refine wpIn_mono hbody ?_
      rintro e a4 w4 ⟨s4, ρ4, fz4, hQ, hS4, hE4⟩
      have hEE4 := hE3.trans (hE4.lower hE.len')
      have hL4 := hE4.same _ _ hL3 rfl
      have hK4 := hE4.same _ _ hK3 rfl
      have hlt4 : w.heap.size + 1 < w4.heap.size := (Array.getElem?_eq_some_iff.1 hL4).1
      have hnf4 := hEE4.notfz hl0 hL4 rfl hs.h.fzlt.lt
      have done : ∀ x, (jumps x).isSome = true → Kf x s4.σ → ∃ c, jumps x = some c ∧ ∃ v w5, (Instr.endRound (w.heap.size + 1) (some c)).run P w4 = .ok v w5 ∧ ∃ σ' ρ' fz', HRel w0 ρ' fz' σ' w5 ∧
          ((Ending.returned v = .returned (.bool true) ∧ G ρ' σ' fz' w5 ∧ Kt σ' ∧ Ev w0 σ1.length ρ1 σ1 fz1 w1 ρ' σ' fz' w5) ∨ ∃ x, Ending.returned v = .returned (.bool false) ∧ Gx x ρ' σ' fz' w5 ∧ Kf x σ') := by
        intro x hx hkf
        obtain ⟨c, hc⟩ := Option.isSome_iff_exists.1 hx
        have hr := run_endRound (P := P) (some c) hL4
        refine ⟨c, hc, _, _, hr, s4.σ, ρ4, fz4, hS4.h.putObj hL4 rfl (by omega) hnf4, .inr ⟨x, rfl, ⟨hEE4.putNew hl0 hL4 rfl hs.h.fzlt.lt, ⟨c, hc, ?_⟩, ?_⟩, hkf⟩⟩
        · rw [World.putObj_heap_same hlt4, hrec]; rfl
        · exact (World.putObj_heap_other (by omega)).trans hK4
      rcases hQ with ⟨rfl, hkt⟩ | ⟨hx, hkf⟩
      · have hr := run_endRound (P := P) none hL4
        have hobj : (Obj.loop { ({ rec .ready none with state := .busy } : Loop) with state := if (none : Option Code).isNone then .ready else .done, pending := none }) = .loop (rec .ready none) := by rw [hrec]; rfl
        rw [hobj] at hr
        refine ⟨_, _, hr, s4.σ, ρ4, fz4, hS4.h.putObj hL4 rfl (by omega) hnf4, .inl ⟨rfl, ⟨hEE4.putNew hl0 hL4 rfl hs.h.fzlt.lt, World.putObj_heap_same hlt4, (World.putObj_heap_other (by omega)).trans hK4⟩, hkt, ?_⟩⟩
        refine hE2.trans (Ev.putput (o' := .loop { rec .ready none with state := .busy }) ?_ hL2 rfl rfl hnf2)
        rw [hW3]; exact hE4
      · obtain ⟨c, hc, v, w5, hr, hres⟩ := done e hx hkf
        cases e with
        | ret => cases hc; exact ⟨v, w5, hr, hres⟩
        | exit id => cases hc; exact ⟨v, w5, hr, hres⟩
        | goto t => cases hc; exact ⟨v, w5, hr, hres⟩
        | normal => cases hx
        | panic c => cases hx
        | outgrown => cases hx
    · -- behind the function
      rintro e w2 ⟨v, σ2, ρ2, fz2, rfl, hh2, hres⟩
      have fin : ∀ (st : LoopState) (pe : Option Code) (hst : st ≠ .busy), w2.heap[w.heap.size + 1]? = some (.loop (rec st pe)) → w2.heap[w.heap.size]? = some (.deferred (some [])) → Ev w0 s.σ.length ρ s.σ fz w ρ2 σ2 fz2 w2 →
          ∃ w3, (Instr.endLoop (w.heap.size + 1)).run P w2 = .ok pe w3 ∧ SRel w0 nb ρ2 fz2 ⟨s.t, σ2⟩ { a with defers := [{ target := .collected w.heap.size, args := #[] }] ++ a.defers } w3 ∧ Ev w0 n0 ρ s.σ fz w ρ2 σ2 fz2 w3 := by
        intro st pe hst hL hK hE
        have hr : (Instr.endLoop (w.heap.size + 1)).run P w2 = .ok pe (w2.putObj (w.heap.size + 1) (.loop { rec st pe with state := .exhausted })) :=
          (run_endLoop (P := P) hL (by rw [hrec]; exact hst)).trans (by rw [hrec])
        have hnf := hE.notfz (l := w.heap.size + 1) (by omega) hL rfl hs.h.fzlt.lt
        have hE' : Ev w0 s.σ.length ρ s.σ fz w ρ2 σ2 fz2 (w2.putObj (w.heap.size + 1) (.loop { rec st pe with state := .exhausted })) := hE.putNew (by omega) hL rfl hs.h.fzlt.lt
        refine ⟨_, hr, ⟨hh2.putObj hL rfl (by omega) hnf, hs.t.ev' (n0 := n0) hE', ?_⟩, hE'.lower hn⟩
        obtain ⟨Ds, h1, h2, h3⟩ := hs.m
        refine ⟨w.heap.size :: Ds, by simp [h1], List.nodup_cons.2 ⟨fun hD => ?_, h2⟩, fun D hD => ?_⟩
        · have := (Array.getElem?_eq_some_iff.1 (h3 _ hD).1).1; omega
        · rcases List.mem_cons.1 hD with rfl | hD
          · exact ⟨(World.putObj_heap_other (by omega)).trans hK, hb2⟩
          · exact ⟨hE'.same _ _ (h3 D hD).1 rfl, (h3 D hD).2⟩
      rcases hres with ⟨⟨hE, hL, hK⟩, hD⟩ | ⟨x, ⟨hE, ⟨c, hc, hL⟩, hK⟩, hX⟩
      · obtain ⟨w3, hr, hS, hE3⟩ := fin _ _ (by simp) hL hK hE
        exact ⟨none, w3, hr, ⟨⟨s.t, σ2⟩, ρ2, fz2, hD, hS, hE3⟩⟩
      · obtain ⟨w3, hr, hS, hE3⟩ := fin _ _ (by simp) hL hK hE
        refine ⟨some c, w3, hr, ?_⟩
        cases x with
        | ret => cases hc; exact wpIn_ret ⟨⟨s.t, σ2⟩, ρ2, fz2, hX, hS, hE3⟩
        | exit id => cases hc; exact wpIn_exit ⟨⟨s.t, σ2⟩, ρ2, fz2, hX, hS, hE3⟩
        | goto t => cases hc; exact wpIn_goto ⟨⟨s.t, σ2⟩, ρ2, fz2, hX, hS, hE3⟩
        | normal => cases hc
        | panic c => cases hc
        | outgrown => cases hc
end
end Go.Proofs.Va
/- VA, part 18: temporaries beside their numbers; what reckons on what values are said to be. -/
set_option linter.unusedVariables false
set_option linter.unusedSimpArgs false
namespace Go.Proofs.Va
open Go Go.RowKit

/-! ### What lies behind is not looked at ahead of time -/
def Nop (b : Bool) : Bool := b
@[simp] theorem nop_eq (b : Bool) : Nop b = b := by cases b <;> rfl
def LkS (b : Bool) (f : AState → Prop) : AState → Prop := f
def LkC (b : Bool) (f : AV → AHeap → Prop) : AV → AHeap → Prop := f
def LkE (b : Bool) (f : Exit → AState → Prop) : Exit → AState → Prop := f
def LkT (b : Bool) (f : List AV → AHeap → Prop) : List AV → AHeap → Prop := f
def LkV (b : Bool) (f : AV → Prop) : AV → Prop := f
@[simp ↓] theorem lkV_on (b : Bool) (f : AV → Prop) (r : AV) : LkV b f r = f r := (rfl)
@[congr] theorem lkV_cong {b b' : Bool} {f : AV → Prop} (h : Nop b = b') : LkV b f = LkV b' f := rfl
@[simp ↓] theorem lkS_on (b : Bool) (f : AState → Prop) (s : AState) : LkS b f s = f s := (rfl)
@[simp ↓] theorem lkC_on (b : Bool) (f : AV → AHeap → Prop) (r : AV) (σ : AHeap) : LkC b f r σ = f r σ := (rfl)
@[simp ↓] theorem lkE_on (b : Bool) (f : Exit → AState → Prop) (e : Exit) (s : AState) : LkE b f e s = f e s := (rfl)
@[simp ↓] theorem lkT_on (b : Bool) (f : List AV → AHeap → Prop) (t : List AV) (σ : AHeap) : LkT b f t σ = f t σ := (rfl)
@[congr] theorem lkS_cong {b b' : Bool} {f : AState → Prop} (h : Nop b = b') : LkS b f = LkS b' f := rfl
@[congr] theorem lkC_cong {b b' : Bool} {f : AV → AHeap → Prop} (h : Nop b = b') : LkC b f = LkC b' f := rfl
@[congr] theorem lkT_cong {b b' : Bool} {f : List AV → AHeap → Prop} (h : Nop b = b') : LkT b f = LkT b' f := rfl

/-! ### Temporaries beside their numbers -/
abbrev Tm := List (Nat × AV)
def look : Tm → Nat → AV
  | [], _ => .any
  | p :: T, i => if i = p.1 then p.2 else look T i
def lst (n : Nat) (T : Tm) : List AV := (List.range n).map (look T)
def putT (T : Tm) : Option Tmp → AV → Tm
  | some d, r => (d, r) :: T
  | none, _ => T
def argT : Nat → List AV → Tm
  | _, [] => []
  | k, x :: l => (k, x) :: argT (k + 1) l
def setT (T : Tm) : List Tmp → List AV → Tm
  | p :: ps, x :: xs => setT ((p, x) :: T) ps xs
  | _, _ => T

@[simp ↓] theorem look_nil (i : Nat) : look [] i = .any := (rfl)
@[simp ↓] theorem look_cons (j : Nat) (x : AV) (T : Tm) (i : Nat) : look ((j, x) :: T) i = if i = j then x else look T i := (rfl)
attribute [simp] putT argT setT

theorem lst_len (n : Nat) (T : Tm) : (lst n T).length = n := by simp [lst]
theorem lst_get (n : Nat) (T : Tm) (i : Nat) : (lst n T)[i]? = if i < n then some (look T i) else none := by
  unfold lst
  by_cases h : i < n <;> simp [h]
@[simp ↓] theorem lst_get_lt (n : Nat) (T : Tm) (i : Nat) (h : Nat.blt i n = true) : (lst n T)[i]? = some (look T i) := by
  rw [lst_get, if_pos (by simpa using h)]
@[simp] theorem lst_length (n : Nat) (T : Tm) : (lst n T).length = n := lst_len n T
theorem put_lst (n : Nat) (T : Tm) (d : Option Tmp) (r : AV) : put (lst n T) d r = lst n (putT T d r) := by
  cases d with
  | none => rfl
  | some d =>
    apply List.ext_getElem?
    intro i
    simp only [put, putT, List.getElem?_set, lst_get, lst_len, look]
    by_cases h1 : d = i
    · subst h1; by_cases h2 : d < n <;> simp [h2]
    · have h2 : ¬ i = d := fun h => h1 h.symm
      rw [if_neg h1, if_neg h2]
@[simp ↓] theorem ev_tmp (n : Nat) (T : Tm) (i : Nat) (h : Nat.blt i n = true) : ev (lst n T) (.tmp i) = look T i := by
  have : i < n := by simpa using h
  simp [ev, lst_get, this]
@[simp ↓] theorem ev_const (t : List AV) (v : Value) : ev t (.const v) = cav v := (rfl)
@[simp ↓] theorem ev_func (t : List AV) (f : Nat) : ev t (.func f) = .fn (.func f) [] [] := (rfl)

theorem argT_get (l : List AV) : ∀ (k i : Nat), k ≤ i → i < k + l.length → some (look (argT k l) i) = l[i - k]? := by
  induction l with
  | nil => intro k i h1 h2; simp at h2; omega
  | cons x l ih =>
    intro k i h1 h2
    simp only [argT, look]
    by_cases h : i = k
    · subst h; simp
    · rw [if_neg h, ih (k + 1) i (by omega) (by simp at h2; omega), show i - k = (i - (k + 1)) + 1 by omega]; simp
theorem argT_none (l : List AV) : ∀ (k i : Nat), k + l.length ≤ i → look (argT k l) i = .any := by
  induction l with
  | nil => intro k i h; rfl
  | cons x l ih =>
    intro k i h
    simp only [List.length_cons] at h
    simp only [argT, look]
    rw [if_neg (by omega), ih (k + 1) i (by omega)]
theorem enter_lst (args : List AV) (n : Nat) (h : args.length ≤ n) : enterT args n = lst n (argT 0 args) := by
  apply List.ext_getElem?
  intro i
  rw [lst_get]
  unfold enterT
  by_cases h1 : i < args.length
  · rw [List.getElem?_append_left h1, if_pos (by omega), argT_get args 0 i (by omega) (by omega)]; simp
  · rw [List.getElem?_append_right (by omega)]
    by_cases h2 : i < n
    · rw [if_pos h2, argT_none args 0 i (by omega), List.getElem?_replicate, if_pos (by omega)]
    · rw [if_neg h2, List.getElem?_replicate, if_neg (by omega)]
theorem setPs_lst (n : Nat) (ps : List Tmp) : ∀ (T : Tm) (args : List AV), setPs (lst n T) ps args = lst n (setT T ps args) := by
  induction ps with
  | nil => intro T args; cases args <;> rfl
  | cons p ps ih =>
    intro T args
    cases args with
    | nil => rfl
    | cons x xs =>
      have h2 : setPs (lst n T) (p :: ps) (x :: xs) = setPs (put (lst n T) (some p) x) ps xs := rfl
      rw [h2, put_lst]
      exact ih ((p, x) :: T) xs

/-! ### Operations, one by one -/
def wops (b : Bool) (P : Program) (n : Nat) (ops : Array Oper) (l : List Oper) (Q : AState → Prop) (T : Tm) (σ : AHeap) : Prop := awpOps P ops l Q ⟨lst n T, σ⟩
@[congr] theorem wops_cong {b b' : Bool} {P : Program} {n : Nat} {ops : Array Oper} {l : List Oper} {Q : AState → Prop} {T T' : Tm} {σ σ' : AHeap} (h : Nop b = b') (hT : T = T') (hσ : σ = σ') :
    wops b P n ops l Q T σ = wops b' P n ops l Q T' σ' := by subst hT; subst hσ; rfl
@[simp] theorem wops_nil (b : Bool) (P : Program) (n : Nat) (ops : Array Oper) (Q : AState → Prop) (T : Tm) (σ : AHeap) : wops b P n ops [] Q T σ = Q ⟨lst n T, σ⟩ := (rfl)
@[simp] theorem wops_cons (b : Bool) (P : Program) (n : Nat) (ops : Array Oper) (o : Oper) (l : List Oper) (Q : AState → Prop) (T : Tm) (σ : AHeap) :
    wops b P n ops (o :: l) Q T σ = guardA ops (lst n T) o (aop P o.op (lst n T) σ (LkC true fun r σ' => wops true P n ops l Q (putT T o.dst r) σ')) (wops true P n ops l Q (putT T o.dst (.tup [])) σ) := by
  show guardA ops (lst n T) o (aop P o.op (lst n T) σ fun r σ' => awpOps P ops l Q ⟨put (lst n T) o.dst r, σ'⟩) (awpOps P ops l Q ⟨put (lst n T) o.dst (.tup []), σ⟩) = _
  simp only [put_lst]; rfl

section
variable {P : Program} {n0 : Nat} {top : Bool} {Q : Exit → AState → Prop}
@[simp ↓] theorem awp_reg {n id : Nat} {l : List Oper} {T : Tm} {σ : AHeap} : awp P n0 top (.region id (List.toArray l) false) Q ⟨lst n T, σ⟩ = wops true P n (List.toArray l) l (LkS true (Q .normal)) T σ := (rfl)
@[simp ↓] theorem awp_seq {x y : Code} {s : AState} : awp P n0 top (.seq x y) Q s = awp P n0 top x (thenA (LkS true (awp P n0 top y Q)) Q) s := (rfl)
@[simp ↓] theorem awp_cond {c : Operand} {x y : Code} {s : AState} : awp P n0 top (.cond c x y) Q s = match ev s.t c with
    | .v (.bool q) => if q = true then awp P n0 top x Q s else awp P n0 top y Q s
    | _ => False := (rfl)
@[simp ↓] theorem awp_block {id : Nat} {c : Code} {s : AState} : awp P n0 top (.block id c) Q s = awp P n0 top c (inBlockA id Q) s := (rfl)
@[simp ↓] theorem awp_loop {c : Code} {s : AState} : awp P n0 top (.loop c) Q s = AW P n0 top (.loop c) (LkE true Q) s := (rfl)
@[simp ↓] theorem awp_draw {id : Nat} {ops : Array Oper} {s : AState} : awp P n0 top (.region id ops true) Q s = AW P n0 top (.region id ops true) (LkE true Q) s := (rfl)
@[simp ↓] theorem awp_range {f : Operand} {ps : Array Tmp} {x y : Code} {s : AState} : awp P n0 top (.rangeFunc f ps x y) Q s = AW P n0 top (.rangeFunc f ps x y) (LkE true Q) s := (rfl)
@[simp ↓] theorem awp_skip {s : AState} : awp P n0 top .skip Q s = Q .normal s := (rfl)
@[simp ↓] theorem awp_exit {id : Nat} {s : AState} : awp P n0 top (.exit id) Q s = Q (.exit id) s := (rfl)
@[simp ↓] theorem awp_ret {s : AState} : awp P n0 top .ret Q s = Q .ret s := (rfl)

/-- A statement that is known to lead on is not looked into. -/
@[congr] theorem aw_cong {b b' : Bool} {n n' : Nat} {c : Code} {s s' : AState} (hb : Nop b = b') (hn : n = n') (h : s = s') : AW P n b c Q s = AW P n' b' c Q s' := by subst h; subst hn; subst hb; rw [nop_eq]

theorem loop_on {γ : Type} (n : Nat) (Tg : γ → Tm) (Hg : γ → AHeap) (Pre : γ → Prop) (μ : γ → Nat) {c : Code} {T : Tm} {σ : AHeap} (g0 : γ) (h0 : Pre g0) (hw : Wk n0 ⟨lst n T, σ⟩ ⟨lst n (Tg g0), Hg g0⟩)
    (step : ∀ g, Pre g → ∀ K : AState → Prop, (∀ g' T' σ', Pre g' → Wk n0 ⟨lst n T', σ'⟩ ⟨lst n (Tg g'), Hg g'⟩ → μ g' < μ g → K ⟨lst n T', σ'⟩) → awp P n0 top c (thenA K Q) ⟨lst n (Tg g), Hg g⟩) : AW P n0 top (.loop c) Q ⟨lst n T, σ⟩ := by
  refine loop_rule (fun g => ⟨lst n (Tg g), Hg g⟩) Pre μ g0 h0 hw fun g hp => step g hp _ fun g' T' σ' h1 h2 h3 => ⟨g', h1, h2, h3⟩
end

theorem Wk.lst {n0 n : Nat} {T T' : Tm} {σ : AHeap} (h : ∀ p ∈ T', wk1 p.2 (look T p.1)) (hn : n0 ≤ σ.length) : Wk n0 ⟨Va.lst n T, σ⟩ ⟨Va.lst n T', σ⟩ := by
  have key : ∀ (T' : Tm), (∀ p ∈ T', wk1 p.2 (look T p.1)) → ∀ i, wk1 (look T' i) (look T i) := by
    intro T'
    induction T' with
    | nil => intro _ i; exact trivial
    | cons p T' ih =>
      intro h i
      simp only [look]
      by_cases hi : i = p.1
      · rw [if_pos hi, hi]; exact h p (by simp)
      · rw [if_neg hi]; exact ih (fun q hq => h q (by simp [hq])) i
  refine ⟨by simp, fun i x hx => ?_, hn, Nat.le_refl _, fun i b hb => ⟨b, hb, rfl, fun _ => rfl, fun _ => ⟨Nat.le_refl _, fun j x hx => ⟨x, hx, wk1_refl x⟩⟩⟩, fun hl => absurd hl (Nat.lt_irrefl _)⟩
  simp only [lst_get] at hx ⊢
  by_cases hi : i < n
  · rw [if_pos hi] at hx ⊢
    cases hx
    exact ⟨_, rfl, key T' h i⟩
  · rw [if_neg hi] at hx; cases hx

def bAnd (k : IntKind) (a b : Int) : Int := (BitVec.ofInt k.bits a &&& BitVec.ofInt k.bits b).toNat
def bOr (k : IntKind) (a b : Int) : Int := (BitVec.ofInt k.bits a ||| BitVec.ofInt k.bits b).toNat
def bAndNot (k : IntKind) (a b : Int) : Int := (BitVec.ofInt k.bits a &&& ~~~ BitVec.ofInt k.bits b).toNat

/-! ### Operations, where what they work on is known -/
section
variable {ops : Array Oper} {t : List AV} {yes no : Prop}
@[simp ↓] theorem guardA_none {d : Option Tmp} {op : Op} {ty : TypeId} {ps : String} {af : Array Edge} : guardA ops t (Oper.mk d op ty ps af none) yes no = yes := (rfl)
theorem guardA_some {d : Option Tmp} {op : Op} {ty : TypeId} {ps : String} {af : Array Edge} {j : Nat} {want : Bool} : guardA ops t (Oper.mk d op ty ps af (some (j, want))) yes no = match (ops[j]?).bind (·.dst) with
    | some d => match t[d]? with
      | some (.v (.bool b)) => if b = want then yes else no
      | some (.tup []) => no
      | _ => False
    | none => False := (rfl)
def gB (x : AV) (want : Bool) (yes no : Prop) : Prop := match x with
  | .v (.bool b) => if b = want then yes else no
  | .tup [] => no
  | _ => False
@[simp ↓] theorem guardA_at {n : Nat} {T : Tm} {d : Option Tmp} {op : Op} {ty : TypeId} {ps : String} {af : Array Edge} {j d' : Nat} {want : Bool} (h : (ops[j]?).bind (·.dst) = some d') (hd : Nat.blt d' n = true) :
    guardA ops (lst n T) (Oper.mk d op ty ps af (some (j, want))) yes no = gB (look T d') want yes no := by
  rw [guardA_some, h]
  have : d' < n := by simpa using hd
  simp only [lst_get, if_pos this]
  unfold gB
  generalize look T d' = x
  cases x with
  | v y => cases y <;> rfl
  | tup cs => cases cs <;> rfl
  | _ => rfl
@[simp] theorem gB_v (b want : Bool) : gB (.v (.bool b)) want yes no = if b = want then yes else no := (rfl)
@[simp] theorem gB_skip (want : Bool) : gB (.tup []) want yes no = no := (rfl)
@[congr] theorem gB_cong {x x' : AV} {want : Bool} (h : x = x') : gB x want yes no = gB x' want yes no := by subst h; rfl
end
section
variable {next : AState → Prop} {Q : Exit → AState → Prop} {s : AState}
@[simp ↓] theorem thenA_normal : thenA next Q .normal s = next s := (rfl)
@[simp ↓] theorem thenA_exit {id : Nat} : thenA next Q (.exit id) s = Q (.exit id) s := (rfl)
@[simp ↓] theorem thenA_ret : thenA next Q .ret s = Q .ret s := (rfl)
@[simp ↓] theorem inBlockA_normal {id : Nat} : inBlockA id Q .normal s = Q .normal s := (rfl)
@[simp ↓] theorem inBlockA_exit {id id' : Nat} : inBlockA id Q (.exit id') s = if id' = id then Q .normal s else Q (.exit id') s := (rfl)
@[simp ↓] theorem inBlockA_ret {id : Nat} : inBlockA id Q .ret s = Q .ret s := (rfl)
end
section
variable {P : Program} {t : List AV} {σ : AHeap} {K : AV → AHeap → Prop} {x y z : Operand} {e e' : TypeId}
@[simp ↓] theorem aop_move : aop P (.move x) t σ K = K (ev t x) σ := (rfl)
@[simp ↓] theorem aop_assign : aop P (.assign x) t σ K = K (ev t x) σ := (rfl)
def aPick (c x y : AV) (σ : AHeap) (K : AV → AHeap → Prop) : Prop := match c with
  | .v (.bool q) => if q = true then K x σ else K y σ
  | _ => False
@[simp] theorem aPick_v {q : Bool} {x y : AV} : aPick (.v (.bool q)) x y σ K = if q = true then K x σ else K y σ := (rfl)
@[simp ↓] theorem aop_pick : aop P (.pick x y z) t σ K = aPick (ev t x) (ev t y) (ev t z) σ K := by
  show (match ev t x with
    | .v (.bool q) => if q = true then K (ev t y) σ else K (ev t z) σ
    | _ => False) = _
  unfold aPick
  generalize ev t x = c
  cases c with
  | v y => cases y <;> rfl
  | _ => rfl
@[simp ↓] theorem aop_alloc : aop P (.alloc e) t σ K = aAlloc P e σ K := (rfl)
@[simp ↓] theorem aop_box : aop P (.box e x) t σ K = aBox (ev t x) σ K := (rfl)
@[simp ↓] theorem aop_build {ps : Array (Nat × Operand)} : aop P (.build e ps) t σ K = aBuild P e (ps.toList.map fun p => (p.1, ev t p.2)) σ K := (rfl)
@[simp ↓] theorem aop_buildSlice {n : Nat} {ps : Array (Nat × Operand)} : aop P (.buildSlice e n ps) t σ K = aBuildSlice P e n (ps.toList.map fun p => (p.1, ev t p.2)) σ K := (rfl)
@[simp ↓] theorem aop_load : aop P (.load e x) t σ K = aLoad P e (ev t x) σ K := (rfl)
@[simp ↓] theorem aop_store : aop P (.store e x y) t σ K = aStore P e (ev t x) (ev t y) σ (K .any) := (rfl)
@[simp ↓] theorem aop_nil : aop P (.nilCheck x) t σ K = aNil (ev t x) σ K := (rfl)
@[simp ↓] theorem aop_bin {o : BinOp} : aop P (.binOp o e x y e') t σ K = aBin P o e (isC x || isC y) (ev t x) (ev t y) σ K := (rfl)
@[simp ↓] theorem aop_un {o : UnOp} : aop P (.unOp o e x) t σ K = aUn o (ev t x) σ K := (rfl)
@[simp ↓] theorem aop_conv : aop P (.convert e e' x) t σ K = aConv P e e' (ev t x) σ K := (rfl)
@[simp ↓] theorem aop_mf {f : Fn} {first caps : Array Operand} : aop P (.makeFunc f first caps) t σ K = K (.fn f (first.toList.map (ev t)) (caps.toList.map (ev t))) σ := (rfl)
@[simp ↓] theorem aop_ms : aop P (.makeSlice e x y) t σ K = aMakeSlice P e (ev t x) (ev t y) σ K := (rfl)
@[simp ↓] theorem aop_slice {lo hi mx : Option Operand} : aop P (.slice e x lo hi mx) t σ K = aSlice P e (ev t x) (lo.map (ev t)) (hi.map (ev t)) (mx.map (ev t)) σ K := (rfl)
@[simp ↓] theorem aop_fa {f : Nat} : aop P (.fieldAddr e x f) t σ K = aFieldAddr P e (ev t x) f σ K := (rfl)
@[simp ↓] theorem aop_ia : aop P (.indexAddr e x y) t σ K = aIndexAddr P e (ev t x) (ev t y) σ K := (rfl)
@[simp ↓] theorem aop_ix : aop P (.index e x y) t σ K = aIndex P e (ev t x) (ev t y) σ K := (rfl)
@[simp ↓] theorem aop_extract {j : Nat} : aop P (.extract x j) t σ K = aExtract (ev t x) j σ K := (rfl)
def aVal (P : Program) (f : AV) (args : List AV) (σ : AHeap) (K : AV → AHeap → Prop) : Prop := match f with
  | .fn (.func g) first caps => ACall P g (first ++ args ++ caps) σ K
  | .fn (.yield l) first caps => AYield P l (first ++ args) σ K
  | _ => False
@[simp] theorem aVal_func {g : FuncId} {args first caps : List AV} : aVal P (.fn (.func g) first caps) args σ K = ACall P g (first ++ args ++ caps) σ K := (rfl)
@[simp ↓] theorem aop_call {f : Operand} {args : Array Operand} {ts : Array TypeId} : aop P (.call { callee := .value f, args := args, argTypes := ts }) t σ K = aVal P (ev t f) (args.toList.map (ev t)) σ K := by
  show (match ev t f with
    | .fn (.func g) first caps => ACall P g (first ++ args.toList.map (ev t) ++ caps) σ K
    | .fn (.yield l) first caps => AYield P l (first ++ args.toList.map (ev t)) σ K
    | _ => False) = _
  unfold aVal
  generalize ev t f = c
  cases c with
  | fn g a b => cases g <;> rfl
  | _ => rfl
@[simp] theorem isC_const {v : Value} : isC (.const v) = true := (rfl)
@[simp] theorem isC_tmp {j : Nat} : isC (.tmp j) = false := (rfl)
@[simp ↓] theorem aop_len : aop P (.call { callee := .builtin .len, args := #[x], argTypes := #[e] }) t σ K = aLen P e (ev t x) σ K := (rfl)
@[simp ↓] theorem aop_cap : aop P (.call { callee := .builtin .cap, args := #[x], argTypes := #[e] }) t σ K = aCap P e (ev t x) σ K := (rfl)
@[simp ↓] theorem aop_append : aop P (.call { callee := .builtin .append, args := #[x, y], argTypes := #[e, e'] }) t σ K = if (intT P e').isSome = true then aAppZ P e (ev t x) (ev t y) σ K else aAppend P e e' (ev t x) (ev t y) σ K := (rfl)
@[simp ↓] theorem aop_copy : aop P (.call { callee := .builtin .copy, args := #[x, y], argTypes := #[e, e'] }) t σ K = aCopyY P e (ev t x) (ev t y) σ K := (rfl)
@[simp ↓] theorem aop_max {ts : Array TypeId} : aop P (.call { callee := .builtin .max, args := #[x, y], argTypes := ts }) t σ K = aMax (ev t x) (ev t y) σ K := (rfl)
@[simp ↓] theorem aop_min {ts : Array TypeId} : aop P (.call { callee := .builtin .min, args := #[x, y], argTypes := ts }) t σ K = aMin (ev t x) (ev t y) σ K := (rfl)
end
section
variable {P : Program} {σ : AHeap} {K : AV → AHeap → Prop} {t t' : TypeId} {cc : Bool}
section
variable {k k' : IntKind} {a b : Int}
@[simp] theorem aBin_add : aBin P .add t cc (.v (.int k a)) (.v (.int k' b)) σ K = (k = k' ∧ K (.v (.int k (k.wrap (a + b)))) σ) := (rfl)
@[simp] theorem aBin_sub : aBin P .sub t cc (.v (.int k a)) (.v (.int k' b)) σ K = (k = k' ∧ K (.v (.int k (k.wrap (a - b)))) σ) := (rfl)
@[simp] theorem aBin_mul : aBin P .mul t cc (.v (.int k a)) (.v (.int k' b)) σ K = (k = k' ∧ K (.v (.int k (k.wrap (a * b)))) σ) := (rfl)
@[simp] theorem aBin_quo : aBin P .quo t cc (.v (.int k a)) (.v (.int k' b)) σ K = (k = k' ∧ b ≠ 0 ∧ K (.v (.int k (k.wrap (a.tdiv b)))) σ) := by by_cases h : b = 0 <;> simp [aBin, isShift, intBin, h]
@[simp] theorem aBin_rem : aBin P .rem t cc (.v (.int k a)) (.v (.int k' b)) σ K = (k = k' ∧ b ≠ 0 ∧ K (.v (.int k (a.tmod b))) σ) := by by_cases h : b = 0 <;> simp [aBin, isShift, intBin, h]
@[simp] theorem aBin_and : aBin P .and t cc (.v (.int k a)) (.v (.int k' b)) σ K = (k = k' ∧ K (.v (.int k (k.wrap (bAnd k a b)))) σ) := (rfl)
@[simp] theorem aBin_or : aBin P .or t cc (.v (.int k a)) (.v (.int k' b)) σ K = (k = k' ∧ K (.v (.int k (k.wrap (bOr k a b)))) σ) := (rfl)
@[simp] theorem aBin_andNot : aBin P .andNot t cc (.v (.int k a)) (.v (.int k' b)) σ K = (k = k' ∧ K (.v (.int k (k.wrap (bAndNot k a b)))) σ) := (rfl)
@[simp] theorem aBin_eql : aBin P .eql t cc (.v (.int k a)) (.v (.int k' b)) σ K = (k = k' ∧ K (.v (.bool (a == b))) σ) := (rfl)
@[simp] theorem aBin_neq : aBin P .neq t cc (.v (.int k a)) (.v (.int k' b)) σ K = (k = k' ∧ K (.v (.bool (a != b))) σ) := (rfl)
@[simp] theorem aBin_lss : aBin P .lss t cc (.v (.int k a)) (.v (.int k' b)) σ K = (k = k' ∧ K (.v (.bool (decide (a < b)))) σ) := by simp [aBin, isShift, intBin]
@[simp] theorem aBin_leq : aBin P .leq t cc (.v (.int k a)) (.v (.int k' b)) σ K = (k = k' ∧ K (.v (.bool (decide (a ≤ b)))) σ) := by simp [aBin, isShift, intBin]
@[simp] theorem aBin_gtr : aBin P .gtr t cc (.v (.int k a)) (.v (.int k' b)) σ K = (k = k' ∧ K (.v (.bool (decide (b < a)))) σ) := by simp [aBin, isShift, intBin]
@[simp] theorem aBin_geq : aBin P .geq t cc (.v (.int k a)) (.v (.int k' b)) σ K = (k = k' ∧ K (.v (.bool (decide (b ≤ a)))) σ) := by simp [aBin, isShift, intBin]
@[simp] theorem aBin_shl : aBin P .shl t cc (.v (.int k a)) (.v (.int k' b)) σ K = (¬ b < 0 ∧ K (.v (.int k (k.wrap (a * 2 ^ (min b.toNat k.bits))))) σ) := by by_cases h : b < 0 <;> simp [aBin, isShift, intShift, h]
@[simp] theorem aBin_shr : aBin P .shr t cc (.v (.int k a)) (.v (.int k' b)) σ K = (¬ b < 0 ∧ K (.v (.int k (a.fdiv (2 ^ (min b.toNat k.bits))))) σ) := by by_cases h : b < 0 <;> simp [aBin, isShift, intShift, h]
end
@[simp] theorem aBin_beql {a b : Bool} : aBin P .eql t cc (.v (.bool a)) (.v (.bool b)) σ K = (isBoolT P t = true ∧ K (.v (.bool (a == b))) σ) := (rfl)
@[simp] theorem aBin_bneq {a b : Bool} : aBin P .neq t cc (.v (.bool a)) (.v (.bool b)) σ K = (isBoolT P t = true ∧ K (.v (.bool (!(a == b)))) σ) := (rfl)
@[simp] theorem aBin_nil {nl : Bool} {cs : List AV} {n : Nat} {c : Option Nat} : aBin P .eql t cc (.pl nl cs n c) (.pl true [] 0 (some 0)) σ K = (isSliceT P t = true ∧ K (.v (.bool nl)) σ) := (rfl)
@[simp] theorem aTA_ifc {ty : TypeId} {y : AV} {ck : Bool} : aTypeAssert P (.ifc ty y) t ck σ K = ((ck = true ∧ noIfT P t = true) ∧ if ty = t then K (.tup [y, .v (.bool true)]) σ else match zaT P t with
    | some z => K (.tup [z, .v (.bool false)]) σ
    | none => False) := (rfl)
@[simp] theorem aBin_str {o : BinOp} {a b : ByteArray} : aBin P o t cc (.v (.string a)) (.v (.string b)) σ K = match strBin o a b with
    | some r => K (.v r) σ
    | none => False := (rfl)
section
variable {a b : Nat}
@[simp] theorem aBin_feql : aBin P .eql t cc (.v (.float .f64 a)) (.v (.float .f64 b)) σ K = K (.v (.bool (Ieee.double.order a b == some .eq))) σ := (rfl)
@[simp] theorem aBin_fneq : aBin P .neq t cc (.v (.float .f64 a)) (.v (.float .f64 b)) σ K = K (.v (.bool (Ieee.double.order a b != some .eq))) σ := (rfl)
@[simp] theorem aBin_flss : aBin P .lss t cc (.v (.float .f64 a)) (.v (.float .f64 b)) σ K = K (.v (.bool (Ieee.double.order a b == some .lt))) σ := (rfl)
@[simp] theorem aBin_fleq : aBin P .leq t cc (.v (.float .f64 a)) (.v (.float .f64 b)) σ K = K (.v (.bool (Ieee.double.order a b == some .lt || Ieee.double.order a b == some .eq))) σ := (rfl)
@[simp] theorem aBin_fgtr : aBin P .gtr t cc (.v (.float .f64 a)) (.v (.float .f64 b)) σ K = K (.v (.bool (Ieee.double.order a b == some .gt))) σ := (rfl)
@[simp] theorem aBin_fgeq : aBin P .geq t cc (.v (.float .f64 a)) (.v (.float .f64 b)) σ K = K (.v (.bool (Ieee.double.order a b == some .gt || Ieee.double.order a b == some .eq))) σ := (rfl)
@[simp] theorem aBin_fadd : aBin P .add t cc (.v (.float .f64 a)) (.v (.float .f64 b)) σ K = K (fA (Ieee.double.add a b)) σ := by
  show (match (Ieee.double.add a b).map (Value.float .f64) with | some r => K (.v r) σ | none => K .nan σ) = _
  cases Ieee.double.add a b <;> rfl
@[simp] theorem aBin_fsub : aBin P .sub t cc (.v (.float .f64 a)) (.v (.float .f64 b)) σ K = K (fA (Ieee.double.sub a b)) σ := by
  show (match (Ieee.double.sub a b).map (Value.float .f64) with | some r => K (.v r) σ | none => K .nan σ) = _
  cases Ieee.double.sub a b <;> rfl
@[simp] theorem aBin_fmul : aBin P .mul t cc (.v (.float .f64 a)) (.v (.float .f64 b)) σ K = K (fA (Ieee.double.mul a b)) σ := by
  show (match (Ieee.double.mul a b).map (Value.float .f64) with | some r => K (.v r) σ | none => K .nan σ) = _
  cases Ieee.double.mul a b <;> rfl
@[simp] theorem aBin_fquo : aBin P .quo t cc (.v (.float .f64 a)) (.v (.float .f64 b)) σ K = K (fA (Ieee.double.div a b)) σ := by
  show (match (Ieee.double.div a b).map (Value.float .f64) with | some r => K (.v r) σ | none => K .nan σ) = _
  cases Ieee.double.div a b <;> rfl
end
@[simp] theorem aBin_pair {a b a' b' : Nat} : aBin P .eql t cc (.agg [.v (.float .f64 a), .v (.float .f64 b)]) (.agg [.v (.float .f64 a'), .v (.float .f64 b')]) σ K = (pairT P t = true ∧ K (.v (.bool (Ieee.double.order a a' == some .eq && Ieee.double.order b b' == some .eq))) σ) := (rfl)
/-! ### Floats, or NaN -/
@[simp] theorem fA_some (b : Nat) : fA (some b) = .v (.float .f64 b) := (rfl)
section
variable {x y : Option Nat} {a b : Nat}
end
@[simp] theorem aUn_neg {k : IntKind} {n : Int} : aUn .neg (.v (.int k n)) σ K = K (.v (.int k (k.wrap (0 - n)))) σ := (rfl)
@[simp] theorem aUn_not {b : Bool} : aUn .not (.v (.bool b)) σ K = K (.v (.bool (!b))) σ := (rfl)
@[simp] theorem aConv_int {k' : IntKind} {n : Int} : aConv P t t' (.v (.int k' n)) σ K = ((P.underlying t).isSome = true ∧ match P.underlying t' with
    | some (.int k) => K (.v (.int k (k.wrap n))) σ
    | some (.float k) => K (.v (.float k (k.nearest n))) σ
    | _ => False) := by
  unfold aConv
  cases P.underlying t' with
  | none => rfl
  | some d => cases d <;> rfl
@[simp] theorem aConv_float {b : Nat} : aConv P t t' (.v (.float .f64 b)) σ K = ((P.underlying t).isSome = true ∧ match P.underlying t' with
    | some (.float .f64) => K (.v (.float .f64 b)) σ
    | some (.int k) => (match floatToIntVal .f64 b k with
      | some n => K (.v (.int k n)) σ
      | none => False)
    | _ => False) := by
  unfold aConv
  cases P.underlying t' with
  | none => rfl
  | some d => cases d <;> first | rfl | (rename_i k; cases k <;> rfl)
@[simp] theorem aMin_int {k k' : IntKind} {a b : Int} : aMin (.v (.int k a)) (.v (.int k' b)) σ K = K (.v (.int k (if b < a then b else a))) σ := (rfl)
@[simp] theorem aMax_int {k k' : IntKind} {a b : Int} : aMax (.v (.int k a)) (.v (.int k' b)) σ K = K (.v (.int k (if b > a then b else a))) σ := (rfl)
@[simp] theorem aLen_pl {nl : Bool} {cs : List AV} {n : Nat} {c : Option Nat} : aLen P t (.pl nl cs n c) σ K = match P.underlying t with
    | some (.slice _) => K (.v (.int .i64 n)) σ
    | some (.array m _) => K (.v (.int .i64 m)) σ
    | _ => False := by
  unfold aLen
  cases P.underlying t with
  | none => rfl
  | some d => cases d <;> rfl
@[simp] theorem aLen_so {i ver off n sz : Nat} {c : Option Nat} : aLen P t (.so i ver off n sz c) σ K = match P.underlying t with
    | some (.slice _) => (match σ[i]? with
      | some b => b.ver = ver ∧ b.kind ≠ .dead ∧ K (.v (.int .i64 n)) σ
      | none => False)
    | some (.array m _) => K (.v (.int .i64 m)) σ
    | _ => False := by
  unfold aLen
  cases P.underlying t with
  | none => rfl
  | some d => cases d <;> rfl
@[simp] theorem aCap_so {i ver off n sz c : Nat} : aCap P t (.so i ver off n sz (some c)) σ K = match P.underlying t with
    | some (.slice _) => (match σ[i]? with
      | some b => b.ver = ver ∧ b.kind ≠ .dead ∧ K (.v (.int .i64 c)) σ
      | none => False)
    | _ => False := by
  unfold aCap
  cases P.underlying t with
  | none => rfl
  | some d => cases d <;> rfl
@[simp] theorem aLoad_po {i ver off : Nat} : aLoad P t (.po i ver off) σ K = match σ[i]? with
    | some b => b.ver = ver ∧ b.kind ≠ .dead ∧ aRead P t b.cells off (fun r => K r σ)
    | none => False := (rfl)
@[simp] theorem aLoad_pp {cs : List AV} {off : Nat} : aLoad P t (.pp cs off) σ K = aRead P t cs off (fun r => K r σ) := (rfl)
attribute [simp ↓] aRead aAlloc aBox aBuild aBuildSlice
@[simp] theorem aStore_po {i ver off : Nat} {y : AV} {K : AHeap → Prop} : aStore P t (.po i ver off) y σ K = match σ[i]? with
    | some b => b.ver = ver ∧ b.kind = .own ∧ match cellsOf y with
      | some ys => szT P t = some ys.length ∧ off + ys.length ≤ b.cells.length ∧ K (σ.set i { b with cells := wr b.cells off ys })
      | none => False
    | none => False := (rfl)
@[simp] theorem aNil_po {i ver off : Nat} : aNil (.po i ver off) σ K = match σ[i]? with
    | some b => b.ver = ver ∧ b.kind ≠ .dead ∧ K (.po i ver off) σ
    | none => False := (rfl)
@[simp] theorem aIA_pl {nl : Bool} {cs : List AV} {n : Nat} {c : Option Nat} {k : IntKind} {j : Int} : aIndexAddr P t (.pl nl cs n c) (.v (.int k j)) σ K = match elT P t with
      | some (_, e) => (0 ≤ j ∧ j < n) ∧ j.toNat * e.sz < cs.length ∧ K (.pp cs (j.toNat * e.sz)) σ
      | none => False := (rfl)
@[simp] theorem aIA_so {i ver off n sz : Nat} {c : Option Nat} {k : IntKind} {j : Int} : aIndexAddr P t (.so i ver off n sz c) (.v (.int k j)) σ K = match elT P t, σ[i]? with
      | some (_, e), some b => b.ver = ver ∧ b.kind ≠ .dead ∧ (0 ≤ j ∧ j < n) ∧ K (.po i ver (off + j.toNat * e.sz)) σ
      | _, _ => False := (rfl)
@[simp] theorem aIA_po {i ver off : Nat} {k : IntKind} {j : Int} : aIndexAddr P t (.po i ver off) (.v (.int k j)) σ K = match arrT P t, σ[i]? with
      | some (n, _, s), some b => b.ver = ver ∧ b.kind ≠ .dead ∧ (0 ≤ j ∧ j < n) ∧ K (.po i ver (off + j.toNat * s)) σ
      | _, _ => False := (rfl)
@[simp] theorem aIA_pp {cs : List AV} {off : Nat} {k : IntKind} {j : Int} : aIndexAddr P t (.pp cs off) (.v (.int k j)) σ K = match arrT P t with
      | some (n, _, s) => (0 ≤ j ∧ j < n) ∧ K (.pp cs (off + j.toNat * s)) σ
      | none => False := (rfl)
@[simp] theorem aIx_agg {cs : List AV} {k : IntKind} {j : Int} : aIndex P t (.agg cs) (.v (.int k j)) σ K = match arrT P t with
      | some (n, e, s) => (0 ≤ j ∧ j < n) ∧ aRead P e cs (j.toNat * s) (fun r => K r σ)
      | none => False := (rfl)
@[simp] theorem aFA_po {i ver off f : Nat} : aFieldAddr P t (.po i ver off) f σ K = match fldT P t f with
  | some (_, o) => (match σ[i]? with
      | some b => b.ver = ver ∧ b.kind ≠ .dead ∧ K (.po i ver (off + o)) σ
      | none => False)
  | none => False := (rfl)
@[simp] theorem aFA_pp {cs : List AV} {off f : Nat} : aFieldAddr P t (.pp cs off) f σ K = match fldT P t f with
  | some (_, o) => K (.pp cs (off + o)) σ
  | none => False := (rfl)
@[simp] theorem aExtract_tup {cs : List AV} {j : Nat} : aExtract (.tup cs) j σ K = match cs[j]? with
    | some y => K y σ
    | none => False := (rfl)
@[simp] theorem aMS {k k' : IntKind} {l c : Int} : aMakeSlice P t (.v (.int k l)) (.v (.int k' c)) σ K = match elT P t with
    | some (_, e) => (0 ≤ l ∧ l ≤ c ∧ c * e.bytes ≤ 140737488355328 ∧ c ≤ 140737488355328) ∧ K (.so σ.length 0 0 l.toNat e.sz (some c.toNat)) (σ ++ [⟨.own, 0, reps c.toNat e.zero⟩])
    | none => False := (rfl)
@[simp] theorem aAppZ_so {i ver off n sz c : Nat} {k : IntKind} {m : Int} : aAppZ P t (.so i ver off n sz (some c)) (.v (.int k m)) σ K = match elT P t, σ[i]? with
    | some (_, e), some b => b.ver = ver ∧ b.kind ≠ .dead ∧ n = 0 ∧ (c : Int) < m ∧ m.toNat * (e.bytes + 1) ≤ 140737488355328 ∧
        ∀ c', m.toNat ≤ c' → K (.so σ.length 0 0 m.toNat e.sz (some c')) (σ ++ [⟨.own, 0, reps m.toNat e.zero ++ reps (c' - m.toNat) e.zero⟩])
    | _, _ => False := (rfl)
attribute [simp] intT
@[simp] theorem aCY_so {x : AV} {i ver off n sz : Nat} {cap : Option Nat} : aCopyY P t x (.so i ver off n sz cap) σ K = aCopy P t x (.so i ver off n sz cap) σ K := (rfl)
@[simp] theorem aCY_pl {x : AV} {nl : Bool} {cs : List AV} {n : Nat} {cap : Option Nat} : aCopyY P t x (.pl nl cs n cap) σ K = aCopy P t x (.pl nl cs n cap) σ K := (rfl)
attribute [simp] aSlice aMakeInterface aAppend aCopy aCopyS
attribute [simp] cav cav1 strBin srcC wr splice cellsOf bnd afill aRes resV List.replicate reps
end

attribute [simp] AV.one Value.oneCell' IntKind.bits IntKind.signed

theorem wrap64u (n : Int) : IntKind.u64.wrap n = n % 18446744073709551616 := by simp [IntKind.wrap]
theorem bOr_u64 {x y : Nat} (hx : x < 18446744073709551616) (hy : y < 18446744073709551616) : bOr .u64 x y = ((x ||| y : Nat) : Int) := by
  show (((BitVec.ofInt 64 x ||| BitVec.ofInt 64 y : BitVec 64).toNat : Nat) : Int) = _
  rw [BitVec.ofInt_natCast, BitVec.ofInt_natCast, BitVec.toNat_or, BitVec.toNat_ofNat, BitVec.toNat_ofNat, Nat.mod_eq_of_lt (by omega), Nat.mod_eq_of_lt (by omega)]
theorem bAnd_u64 {x y : Nat} (hx : x < 18446744073709551616) (hy : y < 18446744073709551616) : bAnd .u64 x y = ((x &&& y : Nat) : Int) := by
  show (((BitVec.ofInt 64 x &&& BitVec.ofInt 64 y : BitVec 64).toNat : Nat) : Int) = _
  rw [BitVec.ofInt_natCast, BitVec.ofInt_natCast, BitVec.toNat_and, BitVec.toNat_ofNat, BitVec.toNat_ofNat, Nat.mod_eq_of_lt (by omega), Nat.mod_eq_of_lt (by omega)]
theorem bAnd_u32 {x y : Nat} (hx : x < 4294967296) (hy : y < 4294967296) : bAnd .u32 x y = ((x &&& y : Nat) : Int) := by
  show (((BitVec.ofInt 32 x &&& BitVec.ofInt 32 y : BitVec 32).toNat : Nat) : Int) = _
  rw [BitVec.ofInt_natCast, BitVec.ofInt_natCast, BitVec.toNat_and, BitVec.toNat_ofNat, BitVec.toNat_ofNat, Nat.mod_eq_of_lt (by omega), Nat.mod_eq_of_lt (by omega)]


@[simp] theorem cast_inj (m n : Nat) : ((m : Int) = (n : Int)) ↔ m = n := Int.ofNat_inj
@[simp] theorem fdiv_nat (x n : Nat) : (x : Int).fdiv (n : Int) = ((x / n : Nat) : Int) := by rw [Int.fdiv_eq_ediv_of_nonneg _ (by omega)]; rfl
@[simp] theorem fdiv_lit (x n : Nat) : (x : Int).fdiv (no_index (OfNat.ofNat n)) = ((x / OfNat.ofNat n : Nat) : Int) := fdiv_nat x n

section
variable (k n : Nat)
@[simp] theorem lit_lt_cast : ((no_index (@OfNat.ofNat Int k instOfNat)) < (n : Int)) ↔ (OfNat.ofNat k : Nat) < n := by show ((k : Nat) : Int) < n ↔ k < n; omega
@[simp] theorem cast_lt_lit : ((n : Int) < (no_index (@OfNat.ofNat Int k instOfNat))) ↔ n < (OfNat.ofNat k : Nat) := by show (n : Int) < ((k : Nat) : Int) ↔ n < k; omega
@[simp] theorem lit_le_cast : ((no_index (@OfNat.ofNat Int k instOfNat)) ≤ (n : Int)) ↔ (OfNat.ofNat k : Nat) ≤ n := by show ((k : Nat) : Int) ≤ n ↔ k ≤ n; omega
@[simp] theorem cast_le_lit : ((n : Int) ≤ (no_index (@OfNat.ofNat Int k instOfNat))) ↔ n ≤ (OfNat.ofNat k : Nat) := by show (n : Int) ≤ ((k : Nat) : Int) ↔ n ≤ k; omega
@[simp] theorem lit_eq_cast : ((no_index (@OfNat.ofNat Int k instOfNat)) = (n : Int)) ↔ (OfNat.ofNat k : Nat) = n := by show ((k : Nat) : Int) = n ↔ k = n; omega
@[simp] theorem tmod_lit : (n : Int).tmod (no_index (@OfNat.ofNat Int k instOfNat)) = (n : Int) % (@OfNat.ofNat Int k instOfNat) := Int.tmod_eq_emod_of_nonneg (by omega)
@[simp] theorem emod_lit_neg : ((n : Int) % (no_index (@OfNat.ofNat Int k instOfNat)) < 0) ↔ False := by
  show ((n : Int) % ((k : Nat) : Int) < 0) ↔ False
  rw [← Int.natCast_emod]; exact ⟨fun h => absurd h (Int.not_lt.2 (Int.natCast_nonneg _)), False.elim⟩
@[simp] theorem emod_lit_toNat : ((n : Int) % (no_index (@OfNat.ofNat Int k instOfNat))).toNat = n % OfNat.ofNat k := by
  show ((n : Int) % ((k : Nat) : Int)).toNat = n % k
  rw [← Int.natCast_emod]; exact Int.toNat_natCast _
end

attribute [simp] Pu.v Pu.any Pu.nan Pu.pl Pu.pp

theorem pu_tup {cs : List AV} (h : ∀ x ∈ cs, Pu x) : Pu (.tup cs) := .tup _ fun j hj => h _ (List.getElem_mem hj)
theorem pu_agg {cs : List AV} (h : ∀ x ∈ cs, Pu x) : Pu (.agg cs) := .agg _ fun j hj => h _ (List.getElem_mem hj)

theorem acall_by {P : Program} {g : FuncId} {args : List AV} {Post : AV → Prop} {σ : AHeap} {K : AV → AHeap → Prop} (h : Ctr P g args Post) (hp : ∀ x ∈ args, Pu x) (hK : ∀ r, Post r → K r σ) : ACall P g args σ K :=
  acall_ctr h (fun j hj => hp _ (List.getElem_mem hj)) hK

/-- A body, entered. -/
theorem acall_in {P : Program} {g : FuncId} {fn : Func} {c : Code} (hf : P.funcs[g]? = some fn) (hb : fn.body = some c) (hname : (fn.name == "runtime.NumGoroutine") = false) {args : List AV} {σ : AHeap} {K : AV → AHeap → Prop} (hl : Nat.ble args.length fn.ntmps = true)
    (h : awp P σ.length true c (fun e s' => (e = .normal ∨ e = .ret) ∧ aRes P s'.t s'.σ fn.results.toList fun l => K (resV l) s'.σ) ⟨lst fn.ntmps (argT 0 args), σ⟩) : ACall P g args σ K :=
  acall_body hf hb hname (by rw [enter_lst args _ (Nat.le_of_ble_eq_true hl)]; exact h)
theorem ctr_in {P : Program} {g : FuncId} {fn : Func} {c : Code} (hf : P.funcs[g]? = some fn) (hb : fn.body = some c) (hname : (fn.name == "runtime.NumGoroutine") = false) {args : List AV} {Post : AV → Prop} (hl : Nat.ble args.length fn.ntmps = true)
    (h : ∀ K : AV → AHeap → Prop, (∀ r σ' r', Pur σ' (fun _ => True) r r' → Post r' → K r σ') → awp P 0 true c (fun e s' => (e = .normal ∨ e = .ret) ∧ aRes P s'.t s'.σ fn.results.toList fun l => K (resV l) s'.σ) ⟨lst fn.ntmps (argT 0 args), []⟩) : Ctr P g args Post :=
  ctr_of (acall_in hf hb hname hl (h (fun r σ' => ∃ r', Pur σ' (fun _ => True) r r' ∧ Post r') fun r σ' r' h1 h2 => ⟨r', h1, h2⟩))

/-! ### Regions that draw -/
def wg (b : Bool) (P : Program) (n N0 : Nat) (ops : Array Oper) (l : List Oper) (cs : List Nat) (K : List AV → AHeap → Prop) (T : Tm) (σ : AHeap) : Prop := gops P N0 ops l cs K (lst n T) σ
@[congr] theorem wg_cong {b b' : Bool} {P : Program} {n N0 : Nat} {ops : Array Oper} {l : List Oper} {cs : List Nat} {K : List AV → AHeap → Prop} {T T' : Tm} {σ σ' : AHeap} (h : Nop b = b') (hT : T = T') (hσ : σ = σ') :
    wg b P n N0 ops l cs K T σ = wg b' P n N0 ops l cs K T' σ' := by subst hT; subst hσ; rfl
@[simp] theorem wg_nil (b : Bool) (P : Program) (n N0 : Nat) (ops : Array Oper) (cs : List Nat) (K : List AV → AHeap → Prop) (T : Tm) (σ : AHeap) : wg b P n N0 ops [] cs K T σ = K (lst n T) σ := (rfl)
@[simp] theorem wg_cons (b : Bool) (P : Program) (n N0 : Nat) (ops : Array Oper) (o : Oper) (l : List Oper) (c : Nat) (cs : List Nat) (K : List AV → AHeap → Prop) (T : Tm) (σ : AHeap) :
    wg b P n N0 ops (o :: l) (c :: cs) K T σ = guardA ops (lst n T) o (gop P N0 c o.op (lst n T) σ (LkC true fun r σ' => wg true P n N0 ops l cs K (putT T o.dst r) σ')) (wg true P n N0 ops l cs K (putT T o.dst (.tup [])) σ) := by
  show guardA ops (lst n T) o (gop P N0 c o.op (lst n T) σ fun r σ' => gops P N0 ops l cs K (put (lst n T) o.dst r) σ') (gops P N0 ops l cs K (put (lst n T) o.dst (.tup [])) σ) = _
  simp only [put_lst]; rfl
section
variable {P : Program} {N0 : Nat} {op : Op} {t : List AV} {σ : AHeap} {S : AV → AHeap → Prop}
@[simp ↓] theorem gop_0 : gop P N0 0 op t σ S = lop P op t σ (LkV true fun r => S r σ) := (rfl)
theorem gop_1 : gop P N0 1 op t σ S = ((∀ x ∈ op.operands.toList, scA N0 (ev t x)) ∧ aop P op t σ (LkC true fun r _ => S r σ)) := (rfl)
@[simp ↓] theorem gop_3 : gop P N0 3 op t σ S = aop P op t σ (LkC true fun r σ' => Same N0 σ σ' ∧ S r σ') := (rfl)
@[simp ↓] theorem gopA_2 : gop P N0 2 op t σ S = aop P op t σ (LkC true fun r σ' => Same N0 σ σ' ∧ S r σ') := (rfl)
@[simp ↓] theorem gopA_5 {f : Operand} {args : Array Operand} {ts : Array TypeId} : gop P N0 5 (.call { callee := .value f, args := args, argTypes := ts }) t σ S = cVal P (ev t f) (args.toList.map (ev t)) (LkV true fun r => S r σ) := (rfl)
@[simp] theorem cVal_func {g : FuncId} {args first caps : List AV} {S : AV → Prop} : cVal P (.fn (.func g) first caps) args S = ACtr P g (first ++ args ++ caps) S := (rfl)
theorem actr_by {g : FuncId} {args : List AV} {Post : AV → Prop} {S : AV → Prop} (h : Ctr P g args Post) (hp : ∀ x ∈ args, Pu x) (hn : ∃ r, Post r) (hK : ∀ r, Post r → S r) : ACtr P g args S := ⟨_, h, hp, hn, hK⟩
@[simp ↓] theorem gop_4 : gop P N0 4 op t σ S = aop P op t σ S := (rfl)
attribute [simp] putA
@[simp ↓] theorem lop_bs {e : TypeId} {n : Nat} {ps : Array (Nat × Operand)} {T : AV → Prop} : lop P (.buildSlice e n ps) t σ T = aBS P e n (ps.toList.map fun p => (p.1, ev t p.2)) T := (rfl)
@[simp ↓] theorem lop_move {x : Operand} {T : AV → Prop} : lop P (.move x) t σ T = T (ev t x) := (rfl)
@[simp ↓] theorem lop_assign {x : Operand} {T : AV → Prop} : lop P (.assign x) t σ T = T (ev t x) := (rfl)
@[simp ↓] theorem lop_pick {x y z : Operand} {T : AV → Prop} : lop P (.pick x y z) t σ T = aop P (.pick x y z) t σ (LkC true fun r _ => T r) := (rfl)
@[simp ↓] theorem lop_bin {o : BinOp} {e e' : TypeId} {x y : Operand} {T : AV → Prop} : lop P (.binOp o e x y e') t σ T = aop P (.binOp o e x y e') t σ (LkC true fun r _ => T r) := (rfl)
@[simp ↓] theorem lop_un {o : UnOp} {e : TypeId} {x : Operand} {T : AV → Prop} : lop P (.unOp o e x) t σ T = aop P (.unOp o e x) t σ (LkC true fun r _ => T r) := (rfl)
@[simp ↓] theorem lop_conv {e e' : TypeId} {x : Operand} {T : AV → Prop} : lop P (.convert e e' x) t σ T = aop P (.convert e e' x) t σ (LkC true fun r _ => T r) := (rfl)
@[simp ↓] theorem lop_extract {j : Nat} {x : Operand} {T : AV → Prop} : lop P (.extract x j) t σ T = aop P (.extract x j) t σ (LkC true fun r _ => T r) := (rfl)
@[simp ↓] theorem lop_build {e : TypeId} {ps : Array (Nat × Operand)} {T : AV → Prop} : lop P (.build e ps) t σ T = aop P (.build e ps) t σ (LkC true fun r _ => T r) := (rfl)
end
attribute [simp ↓] aBS
@[simp] theorem scA_v (n : Nat) (x : Value) : scA n (.v x) = True := (rfl)
@[simp] theorem scA_pl (n : Nat) (nl : Bool) (cs : List AV) (k : Nat) (c : Option Nat) : scA n (.pl nl cs k c) = True := (rfl)
@[simp] theorem scA_pp (n : Nat) (cs : List AV) (o : Nat) : scA n (.pp cs o) = True := (rfl)
@[simp] theorem scA_po (n i v o : Nat) : scA n (.po i v o) = (i < n) := (rfl)
@[simp] theorem scA_so (n i v o k z : Nat) (c : Option Nat) : scA n (.so i v o k z c) = (i < n) := (rfl)
theorem draw_on {P : Program} {n0 : Nat} {top : Bool} {n id : Nat} {l : List Oper} {Q : Exit → AState → Prop} {T : Tm} {σ : AHeap} (cs : List Nat) (hP : P.follows .mixedOrders = true) (hd : okDraw cs (List.toArray l) = true)
    (h : wg true P n σ.length (List.toArray l) l cs (LkT true fun t σ' => Q .normal ⟨t, σ'⟩) T σ) : AW P n0 top (.region id (List.toArray l) true) Q ⟨lst n T, σ⟩ := draw_rule cs hP hd h

@[simp] theorem same_self {N : Nat} {σ : AHeap} : Same N σ σ ↔ N ≤ σ.length := ⟨fun h => h.lo, fun h => Same.refl h⟩
@[simp] theorem same_more {N : Nat} {σ more : AHeap} : Same N σ (σ ++ more) ↔ N ≤ σ.length :=
  ⟨fun h => h.lo, fun h => ⟨h, by simp; omega, fun i hi => List.getElem?_append_left (by omega)⟩⟩
end Go.Proofs.Va
/- VA, part 19: a loop in a function that is ranged over; small things. -/
set_option linter.unusedVariables false
set_option linter.unusedSimpArgs false
namespace Go.Proofs.Va
open Go Go.RowKit

@[simp] theorem pur_v {σ : AHeap} {S : Nat → Prop} {x : Value} {y : AV} : Pur σ S (.v x) y ↔ y = .v x := by
  constructor
  · intro h; cases h; rfl
  · rintro rfl; exact .same _ (.v _)
@[simp] theorem pur_pl {σ : AHeap} {S : Nat → Prop} {nl : Bool} {cs : List AV} {n : Nat} {cap : Option Nat} {y : AV} : Pur σ S (.pl nl cs n cap) y ↔ y = .pl nl cs n cap := by
  constructor
  · intro h; cases h; rfl
  · rintro rfl; exact .same _ (.pl _ _ _ _)

section
variable {P : Program} {N0 : Nat} {t : List AV} {σ : AHeap} {S : AV → AHeap → Prop} {e : TypeId} {x y : Operand}
@[simp ↓] theorem gop_1_load : gop P N0 1 (.load e x) t σ S = (scA N0 (ev t x) ∧ aop P (.load e x) t σ (LkC true fun r _ => S r σ)) := by rw [gop_1]; simp [Op.operands]
@[simp ↓] theorem gop_1_ia : gop P N0 1 (.indexAddr e x y) t σ S = ((scA N0 (ev t x) ∧ scA N0 (ev t y)) ∧ aop P (.indexAddr e x y) t σ (LkC true fun r _ => S r σ)) := by rw [gop_1]; simp [Op.operands]
@[simp ↓] theorem gop_1_fa {j : Nat} : gop P N0 1 (.fieldAddr e x j) t σ S = (scA N0 (ev t x) ∧ aop P (.fieldAddr e x j) t σ (LkC true fun r _ => S r σ)) := by rw [gop_1]; simp [Op.operands]
@[simp ↓] theorem gop_1_sl {lo : Operand} : gop P N0 1 (.slice e x (some lo) none none) t σ S = ((scA N0 (ev t x) ∧ scA N0 (ev t lo)) ∧ aop P (.slice e x (some lo) none none) t σ (LkC true fun r _ => S r σ)) := by rw [gop_1]; simp [Op.operands]
@[simp ↓] theorem gop_1_sh {lo : Operand} : gop P N0 1 (.slice e x none (some lo) none) t σ S = ((scA N0 (ev t x) ∧ scA N0 (ev t lo)) ∧ aop P (.slice e x none (some lo) none) t σ (LkC true fun r _ => S r σ)) := by rw [gop_1]; simp [Op.operands]
@[simp ↓] theorem gop_1_len {ts : Array TypeId} : gop P N0 1 (.call { callee := .builtin .len, args := #[x], argTypes := ts }) t σ S = (scA N0 (ev t x) ∧ aop P (.call { callee := .builtin .len, args := #[x], argTypes := ts }) t σ (LkC true fun r _ => S r σ)) := by rw [gop_1]; simp [Op.operands, Call.operands]
end
section
variable {P : Program} {l : Nat} {Y : List AV → AHeap → (AHeap → Prop) → (Exit → AHeap → Prop) → Prop} {X : Exit → AHeap → Prop} {Q : Exit → AState → Prop} {s : AState}

theorem TRel.wk {ρ : Nat → Nat × Nat} {σ : AHeap} {fz : Nat → Prop} {w : World} {t t' : List AV} {tmps : Array Value} (h : wkL t' t) (ht : TRel ρ σ fz w t tmps) : TRel ρ σ fz w t' tmps := by
  obtain ⟨h1, h2⟩ := wkL_at h
  refine ⟨by rw [ht.len, h1], fun i hi => ?_⟩
  obtain ⟨y, hy, hw⟩ := h2 i _ (List.getElem?_eq_getElem hi)
  obtain ⟨hlt, rfl⟩ := List.getElem?_eq_some_iff.1 hy
  exact (ht.at_ i hlt).wk hw

/-- A loop, from states S g. -/
theorem awi_loopS {γ : Type} (S : γ → AState) (Pre : γ → Prop) (μ : γ → Nat) {c : Code} (g0 : γ) (h0 : Pre g0) (hσ : (S g0).σ = s.σ) (ht : wkL (S g0).t s.t)
    (step : ∀ g, Pre g → AWI P l Y X c (thenA (fun s2 => ∃ g', Pre g' ∧ (S g').σ = s2.σ ∧ wkL (S g').t s2.t ∧ μ g' < μ g) Q) (S g)) : AWI P l Y X (.loop c) Q s := by
  intro F n w0 G Gx hF hG hGx hY ρ fz a w hh hr hd hg
  refine wpIn_loop_known (γ := γ) (I := fun g a' w' => Pre g ∧ a'.defers = [] ∧ ∃ ρ' fz', HRel w0 ρ' fz' (S g).σ w' ∧ TRel ρ' (S g).σ fz' w' (S g).t a'.tmps ∧ G ρ' (S g).σ fz' w') μ (g0 := g0) ⟨h0, hd, ρ, fz, by rw [hσ]; exact hh, by rw [hσ]; exact hr.wk ht, by rw [hσ]; exact hg⟩ ?_
  rintro g a1 w1 ⟨hp, hd1, ρ1, fz1, hh1, ht1, hg1⟩
  refine wpIn_mono (step g hp F n w0 G Gx hF hG hGx hY ρ1 fz1 a1 w1 hh1 ht1 hd1 hg1) ?_
  rintro e a' w' ⟨hd', ⟨s', ρ', fz', hQ, hh', ht', hg'⟩ | ⟨rfl, h1⟩⟩
  · cases e with
    | normal =>
      obtain ⟨g', hp', hσ', htt, hm⟩ := hQ
      exact ⟨g', ⟨hp', hd', ρ', fz', by rw [hσ']; exact hh', by rw [hσ']; exact ht'.wk htt, by rw [hσ']; exact hg'⟩, hm⟩
    | _ => exact ⟨hd', .inl ⟨s', ρ', fz', hQ, hh', ht', hg'⟩⟩
  · exact ⟨hd', .inr ⟨rfl, h1⟩⟩

theorem wkL_of : ∀ {l' l : List AV}, l'.length = l.length → (∀ (i : Nat) (x : AV), l'[i]? = some x → ∃ y, l[i]? = some y ∧ wk1 x y) → wkL l' l
  | [], [], _, _ => trivial
  | a :: l', b :: l, h1, h => by
    obtain ⟨y, hy, hw⟩ := h 0 a rfl
    cases hy
    exact ⟨hw, wkL_of (by simpa using h1) fun i x hx => by simpa using h (i + 1) x (by simpa using hx)⟩
theorem wkL_lst {n : Nat} {T T' : Tm} (h : ∀ p ∈ T', wk1 p.2 (look T p.1)) : wkL (lst n T') (lst n T) := by
  have hw := Wk.lst (n0 := 0) (n := n) (σ := []) h (Nat.zero_le _)
  exact wkL_of (by simp) hw.t

theorem awi_loop_on {γ : Type} (n : Nat) (Tg : γ → Tm) (Hg : γ → AHeap) (Pre : γ → Prop) (μ : γ → Nat) {c : Code} {T : Tm} {σ : AHeap} (g0 : γ) (h0 : Pre g0) (hσ : Hg g0 = σ) (ht : ∀ p ∈ Tg g0, wk1 p.2 (look T p.1))
    (step : ∀ g, Pre g → ∀ K : AState → Prop, (∀ g' T' σ', Pre g' → Hg g' = σ' → (∀ p ∈ Tg g', wk1 p.2 (look T' p.1)) → μ g' < μ g → K ⟨lst n T', σ'⟩) → AWI P l Y X c (thenA K Q) ⟨lst n (Tg g), Hg g⟩) : AWI P l Y X (.loop c) Q ⟨lst n T, σ⟩ :=
  awi_loopS (fun g => ⟨lst n (Tg g), Hg g⟩) Pre μ g0 h0 hσ (wkL_lst ht) fun g hp => step g hp _ fun g' T' σ' h1 h2 h3 h4 => ⟨g', h1, h2, wkL_lst h3, h4⟩

theorem awi_reg {n id : Nat} {l' : List Oper} {T : Tm} {σ : AHeap} (h : wops true P n (List.toArray l') l' (LkS true (Q .normal)) T σ) : AWI P l Y X (.region id (List.toArray l') false) Q ⟨lst n T, σ⟩ := awi_region h

@[simp ↓] theorem wops_take (b : Bool) (P : Program) (n : Nat) (ops : Array Oper) (k : Nat) (o : Oper) (l : List Oper) (Q : AState → Prop) (T : Tm) (σ : AHeap) : wops b P n ops (List.take (k + 1) (o :: l)) Q T σ = wops b P n ops (o :: List.take k l) Q T σ := (rfl)
/-- One round is asked for, behind k operations. -/
theorem awi_yield_at (k : Nat) {n id : Nat} {lo : List Oper} {T : Tm} {σ : AHeap} {y nt : Oper} {c : Call} {f : Operand} {dy dn : Tmp} {ty : TypeId} (hops : lo.drop k = [y, nt]) (hy : y.op = .call c) (hc : c.callee = .value f) (hyd : y.dst = some dy) (hyg : y.guard = none)
    (hn : nt.op = .unOp .not ty (.tmp dy)) (hnd : nt.dst = some dn) (hng : nt.guard = none)
    (h : wops true P n (List.toArray lo) (lo.take k) (LkS true fun s1 => dy < s1.t.length ∧ dn < s1.t.length ∧ ev s1.t f = .fn (.yield l) [] [] ∧ Y (c.args.toList.map (ev s1.t)) s1.σ (fun σ' => Q .normal ⟨put (put s1.t (some dy) (.v (.bool true))) (some dn) (.v (.bool false)), σ'⟩) X) T σ) :
    AWI P l Y X (.seq (.region id (List.toArray lo) false) (.cond (.tmp dn) .ret .skip)) Q ⟨lst n T, σ⟩ :=
  awi_yield (pre := lo.take k) (by show lo = _; rw [← hops, List.take_append_drop]) hy hc hyd hyg hn hnd hng h
end

theorem aiter_in {P : Program} {g : FuncId} {fn : Func} {c : Code} {lb : List AV} {σ : AHeap} {Y : List AV → AHeap → (AHeap → Prop) → (Exit → AHeap → Prop) → Prop} {D : AHeap → Prop} {X : Exit → AHeap → Prop} (hf : P.funcs[g]? = some fn) (hb : fn.body = some c) (hres : fn.results = #[])
    (hl : Nat.ble (lb.length + 1) fn.ntmps = true) (h : ∀ l, AWI P l Y X c (fun e s' => (e = .normal ∨ e = .ret) ∧ D s'.σ) ⟨lst fn.ntmps (argT 0 (.fn (.yield l) [] [] :: lb)), σ⟩) : AIter P g lb σ Y D X :=
  aiter_body hf hb hres fun l => by
    have := enter_lst ([.fn (.yield l) [] []] ++ lb) fn.ntmps (by have := Nat.le_of_ble_eq_true hl; simpa using this)
    rw [this]; exact h l

/-- The answer is x. -/
theorem ctr_val {P : Program} {g : FuncId} {fn : Func} {c : Code} (hf : P.funcs[g]? = some fn) (hb : fn.body = some c) (hname : (fn.name == "runtime.NumGoroutine") = false) {args : List AV} {x : AV} (hl : Nat.ble args.length fn.ntmps = true) (hx : Pu x)
    (h : ∀ K : AV → AHeap → Prop, (∀ σ', K x σ') → awp P 0 true c (fun e s' => (e = .normal ∨ e = .ret) ∧ aRes P s'.t s'.σ fn.results.toList fun l => K (resV l) s'.σ) ⟨lst fn.ntmps (argT 0 args), []⟩) : Ctr P g args (fun r => r = x) :=
  ctr_in hf hb hname hl fun K hK => h K fun σ' => hK _ _ _ (.same x hx) rfl

/-- What is asked of a round. -/
def bodyW (P : Program) (n : Nat) (ps : Array Tmp) (assign body : Code) (T : Tm) (args : List AV) (σ : AHeap) (Kt : AHeap → Prop) (Kf : Exit → AHeap → Prop) : Prop :=
  args.length = ps.size ∧ awp P σ.length false assign (LkE true fun e s1 => e = .normal ∧ awp P σ.length false body (LkE true fun e s2 => (e = .normal ∧ Kt s2.σ) ∨ ((jumps e).isSome = true ∧ Kf e s2.σ)) s1) ⟨lst n (setT T ps.toList args), σ⟩
theorem range_on {P : Program} {n0 n : Nat} {g : Operand} {ps : Array Tmp} {assign body c : Code} {gf : FuncId} {fn : Func} {lb : List AV} {Q : Exit → AState → Prop} {T : Tm} {σ : AHeap} (hg : ev (lst n T) g = .fn (.func gf) [] lb) (hf : P.funcs[gf]? = some fn) (hb : fn.body = some c) (hname : (fn.name == "runtime.NumGoroutine") = false)
    (hit : AIter P gf lb σ (bodyW P n ps assign body T) (fun σ' => Q .normal ⟨lst n T, σ'⟩) (fun x σ' => Q x ⟨lst n T, σ'⟩)) : AW P n0 true (.rangeFunc g ps assign body) Q ⟨lst n T, σ⟩ := by
  refine range_rule hg hf hb hname ?_
  have e : bodyY P ps assign body (lst n T) = bodyW P n ps assign body T := by
    funext args σ' Kt Kf
    unfold bodyY bodyW
    rw [setPs_lst]; rfl
  show AIter P gf lb σ (bodyY P ps assign body (lst n T)) _ _
  rw [e]; exact hit

attribute [simp] wk1_refl
@[simp] theorem wk1_v {a b : Value} : wk1 (.v a) (.v b) ↔ a = b := by simp [wk1]
attribute [simp] wkL
end Go.Proofs.Va
/- VA, part 20: regions that draw, of many operations: who comes ahead of whom, by bits. -/
set_option linter.unusedVariables false
set_option linter.unusedSimpArgs false
namespace Go.Proofs.Va
open Go Go.RowKit

def maskOf (tab : List Nat) (o : Oper) : Nat := (edgesOf o).foldl (fun m e => m ||| (1 <<< e) ||| tab.getD e 0) 0
def apartD (d1 : Option Tmp) (k1 : List Tmp) (d2 : Option Tmp) (k2 : List Tmp) : Bool :=
  (match d1 with
   | some d => !k2.contains d && d2 != some d
   | none => true) &&
  (match d2 with
   | some d => !k1.contains d
   | none => true)
def okD (ops : Array Oper) : List Oper → List Nat → Nat → List Nat → List (Nat × Nat × Option Tmp × List Tmp) → Bool
  | [], _, _, _, _ => true
  | o :: l, cs, i, tab, pre =>
    okc (cs.headD 4) o.op && (edgesOf o).all (· < i) && pre.all (fun p => (maskOf tab o).testBit p.1 || (compat (cs.headD 4) p.2.1 && apartD p.2.2.1 p.2.2.2 o.dst (o.looksAt ops))) &&
      okD ops l cs.tail (i + 1) (tab ++ [maskOf tab o]) ((i, cs.headD 4, o.dst, o.looksAt ops) :: pre)
def okDraw2 (cs : List Nat) (ops : Array Oper) : Bool := okD ops ops.toList cs 0 [] []

theorem mask_bit (tab : List Nat) (k : Nat) : ∀ (es : List Nat) (m : Nat), (es.foldl (fun m e => m ||| (1 <<< e) ||| tab.getD e 0) m).testBit k = true → m.testBit k = true ∨ ∃ e ∈ es, k = e ∨ (tab.getD e 0).testBit k = true
  | [], m, h => .inl h
  | e :: es, m, h => by
    rcases mask_bit tab k es _ h with h1 | ⟨e', he', h1⟩
    · rw [Nat.testBit_or, Nat.testBit_or, Nat.one_shiftLeft, Nat.testBit_two_pow] at h1
      simp only [Bool.or_eq_true, decide_eq_true_eq] at h1
      rcases h1 with (h1 | h1) | h1
      · exact .inl h1
      · exact .inr ⟨e, by simp, .inl h1.symm⟩
      · exact .inr ⟨e, by simp, .inr h1⟩
    · exact .inr ⟨e', by simp [he'], h1⟩

theorem okD_ok (ops : Array Oper) (cs0 : List Nat) : ∀ (l done : List Oper) (cs : List Nat) (i : Nat) (tab : List Nat) (pre : List (Nat × Nat × Option Tmp × List Tmp)),
    ops.toList = done ++ l → i = done.length → cs = cs0.drop i → tab.length = i → (∀ j k, (tab.getD j 0).testBit k = true → Anc ops k j) →
    (∀ j oj, j < i → ops[j]? = some oj → (j, cs0.getD j 4, oj.dst, oj.looksAt ops) ∈ pre) → okD ops l cs i tab pre = true →
    ∀ i' o, ops[i']? = some o → i ≤ i' → okc (cs0.getD i' 4) o.op = true ∧ (∀ e ∈ edgesOf o, e < i') ∧ ∀ j oj, j < i' → ops[j]? = some oj → Anc ops j i' ∨ (compat (cs0.getD i' 4) (cs0.getD j 4) = true ∧ oj.apart ops o = true)
  | [], done, cs, i, tab, pre, hl, hi, hcs, ht, hA, hp, hok => by
    intro i' o ho hle
    have := (Array.getElem?_eq_some_iff.1 ho).1
    have hs : ops.size = done.length := by rw [← Array.length_toList, hl]; simp
    omega
  | o :: l, done, cs, i, tab, pre, hl, hi, hcs, ht, hA, hp, hok => by
    have ho : ops[i]? = some o := by rw [← Array.getElem?_toList, hl, hi]; simp
    have hc : cs.headD 4 = cs0.getD i 4 := by
      rw [hcs, List.headD_eq_head?_getD, List.head?_drop, List.getD_eq_getElem?_getD]
    simp only [okD, Bool.and_eq_true] at hok
    obtain ⟨⟨⟨h1, h2⟩, h3⟩, h4⟩ := hok
    rw [hc] at h1 h3 h4
    have hback : ∀ e ∈ edgesOf o, e < i := fun e he => by simpa using List.all_eq_true.1 h2 e he
    have hmask : ∀ k, (maskOf tab o).testBit k = true → Anc ops k i := by
      intro k hk
      rcases mask_bit tab k _ _ hk with h | ⟨e, he, h | h⟩
      · simp at h
      · subst h; exact .edge ho he
      · exact .more ho he (hA e k h)
    have ih := okD_ok ops cs0 l (done ++ [o]) cs.tail (i + 1) (tab ++ [maskOf tab o]) ((i, cs0.getD i 4, o.dst, o.looksAt ops) :: pre) (by rw [hl]; simp) (by rw [hi]; simp) (by rw [hcs, List.tail_drop]) (by simp [ht])
      (by
        intro j k hk
        rcases Nat.lt_trichotomy j tab.length with hj | hj | hj
        · refine hA j k ?_
          rwa [List.getD_eq_getElem?_getD, List.getElem?_append_left hj, ← List.getD_eq_getElem?_getD] at hk
        · subst hj
          rw [List.getD_eq_getElem?_getD, List.getElem?_concat_length] at hk
          rw [ht]; exact hmask k hk
        · rw [List.getD_eq_getElem?_getD, List.getElem?_eq_none (by simp; omega)] at hk
          simp at hk)
      (by
        intro j oj hj hoj
        rcases Nat.lt_or_ge j i with h | h
        · exact List.mem_cons_of_mem _ (hp j oj h hoj)
        · have : j = i := by omega
          subst this
          rw [ho] at hoj; cases hoj
          exact List.mem_cons_self) h4
    intro i' o' ho' hle
    rcases Nat.lt_or_ge i i' with h | h
    · exact ih i' o' ho' h
    · have : i' = i := by omega
      subst this
      rw [ho] at ho'; cases ho'
      refine ⟨h1, hback, fun j oj hj hoj => ?_⟩
      have := List.all_eq_true.1 h3 _ (hp j oj hj hoj)
      simp only [Bool.or_eq_true, Bool.and_eq_true] at this
      rcases this with h5 | ⟨h5, h6⟩
      · exact .inl (hmask j h5)
      · exact .inr ⟨h5, h6⟩

theorem okDraw2_ok {cs : List Nat} {ops : Array Oper} (h : okDraw2 cs ops = true) : OkDraw (fun i => cs.getD i 4) ops := by
  have key := okD_ok ops cs ops.toList [] cs 0 [] [] rfl rfl (by simp) rfl (by intro j k hk; simp at hk) (by intro j oj hj; omega) h
  exact ⟨fun i o ho => (key i o ho (Nat.zero_le _)).2.1, fun i o ho => (key i o ho (Nat.zero_le _)).1, fun i o j oj ho hj hoj => (key i o ho (Nat.zero_le _)).2.2 j oj hj hoj⟩
section
variable {P : Program} {ops : Array Oper}
theorem draw_rule2 {n0 : Nat} {top : Bool} {id : Nat} {Q : Exit → AState → Prop} {s : AState} (cs : List Nat) (hP : P.follows .mixedOrders = true) (hd : okDraw2 cs ops = true)
    (h : gops P s.σ.length ops ops.toList cs (fun t σ => Q .normal ⟨t, σ⟩) s.t s.σ) : AW P n0 top (.region id ops true) Q s := by
  intro F n hF ht w0 nb ρ fz a w hs hn _ _
  refine wpIn_region_any hP ?_
  have hdd := okDraw2_ok hd
  have hrun := gops_run (cs := cs) hdd.okc ops.toList 0 s.t s.σ (fun i o hi => by simpa using hi) h
  have e : (List.range ops.toList.length).map (0 + ·) = List.range ops.size := by simp
  rw [e] at hrun
  obtain ⟨hh, hE⟩ := hs.h.drew
  refine any_ok hF hdd (Q := Q .normal) ops.size (List.range ops.size) _ s ρ fz a w.drew (by simp) (by simp) ?_ List.pairwise_lt_range (by simp) ?_ (Nat.le_refl _) hrun ⟨hh, hs.t.ev' (n0 := n0) hE, hs.m.ev hE⟩ hn ?_
  · intro i o ho hl
    have hlt := (Array.getElem?_eq_some_iff.1 ho).1
    simp [hlt] at hl
  · intro i hi
    simp [hi]
  · intro s' ρ' fz' a' w' hQ hS hE2
    exact ⟨s', ρ', fz', hQ, hS, (hE.lower hn).trans hE2⟩
end

/-- A region that draws, of however many operations. -/
theorem draw_at {P : Program} {n0 : Nat} {top : Bool} {n id : Nat} {l : List Oper} {Q : Exit → AState → Prop} {T : Tm} {σ : AHeap} (cs : List Nat) (hP : P.follows .mixedOrders = true) (hd : okDraw2 cs (List.toArray l) = true)
    (h : wg true P n σ.length (List.toArray l) l cs (LkT true fun t σ' => Q .normal ⟨t, σ'⟩) T σ) : AW P n0 top (.region id (List.toArray l) true) Q ⟨lst n T, σ⟩ := draw_rule2 cs hP hd h

section
variable {P : Program} {ops : Array Oper}
end
end Go.Proofs.Va
