/- VA, part 10: statements, loops, a function's body. -/
import Derived.Test.YtmfnjmcgmogncaaVa9
set_option linter.unusedVariables false
set_option linter.unusedSimpArgs false
namespace Go.Proofs.Va
open Go Go.RowKit

structure AState where
  t : List AV
  σ : AHeap

/-- The marks that ranges over functions leave among the deferred calls. -/
def MRel (nb : Nat) (ds : List Deferred) (w : World) : Prop :=
  ∃ Ds : List Nat, ds = Ds.map (fun D => { target := .collected D, args := #[] }) ∧ Ds.Nodup ∧ ∀ D ∈ Ds, w.heap[D]? = some (.deferred (some [])) ∧ nb ≤ D

structure SRel (w0 : World) (nb : Nat) (ρ : Nat → Nat × Nat) (fz : Nat → Prop) (s : AState) (a : Act) (w : World) : Prop where
  h : HRel w0 ρ fz s.σ w
  t : TRel ρ s.σ fz w s.t a.tmps
  m : MRel nb a.defers w

/-- What is asked behind a statement, in the world. -/
def Beh (w0 : World) (nb n0 : Nat) (ρ : Nat → Nat × Nat) (σ : AHeap) (fz : Nat → Prop) (w : World) (Q : Exit → AState → Prop) : Exit → Act → World → Prop :=
  fun e a' w' => ∃ s' ρ' fz', Q e s' ∧ SRel w0 nb ρ' fz' s' a' w' ∧ Ev w0 n0 ρ σ fz w ρ' s'.σ fz' w'

theorem MRel.ev {w0 : World} {n0 nb : Nat} {ρ ρ' : Nat → Nat × Nat} {σ σ' : AHeap} {fz fz' : Nat → Prop} {w w' : World} {ds : List Deferred} (h : MRel nb ds w) (E : Ev w0 n0 ρ σ fz w ρ' σ' fz' w') : MRel nb ds w' := by
  obtain ⟨Ds, h1, h2, h3⟩ := h
  exact ⟨Ds, h1, h2, fun D hD => ⟨E.same _ _ (h3 D hD).1 rfl, (h3 D hD).2⟩⟩

/-! ### A region -/
def guardA (ops : Array Oper) (t : List AV) (o : Oper) (yes no : Prop) : Prop :=
  match o.guard with
  | none => yes
  | some (j, want) => match (ops[j]?).bind (·.dst) with
    | some d => match t[d]? with
      | some (.v (.bool b)) => if b = want then yes else no
      | _ => False
    | none => False

def awpOps (P : Program) (ops : Array Oper) : List Oper → (AState → Prop) → AState → Prop
  | [], Q, s => Q s
  | o :: rest, Q, s => guardA ops s.t o (aop P o.op s.t s.σ fun r σ' => awpOps P ops rest Q ⟨put s.t o.dst r, σ'⟩) (awpOps P ops rest Q ⟨put s.t o.dst .any, s.σ⟩)

section
variable {P : Program} {w0 : World} {nb n0 : Nat} {ρ : Nat → Nat × Nat} {fz : Nat → Prop} {w : World}

theorem guardA_ok {ops : Array Oper} {σ : AHeap} {t : List AV} {a : Act} (ht : TRel ρ σ fz w t a.tmps) {o : Oper} {yes no : Prop} (h : guardA ops t o yes no) :
    (Region.wanted o (yielded ops a.tmps) = true ∧ yes) ∨ (Region.wanted o (yielded ops a.tmps) = false ∧ no) := by
  unfold guardA at h
  split at h
  · rename_i hg; exact .inl ⟨by simp [Region.wanted, hg], h⟩
  · rename_i j want hg
    split at h
    · rename_i d hd
      split at h
      · rename_i b hb
        obtain ⟨hlt, hb'⟩ := List.getElem?_eq_some_iff.1 hb
        have hv := ht.at_ d hlt
        rw [hb'] at hv
        have hv := hv.v_eq
        have hs : d < a.tmps.size := by rw [ht.len]; exact hlt
        have hy : yielded ops a.tmps j = some b := by
          have hq : a.tmps[d]? = some (.bool b) := by rw [get_of_getD hs, hv]
          simp [yielded, hd, hq]
        by_cases hbw : b = want
        · exact .inl ⟨by simp [Region.wanted, hg, hy, hbw], (ite_and.1 h).1 hbw⟩
        · exact .inr ⟨by simp [Region.wanted, hg, hy, hbw], (ite_and.1 h).2 hbw⟩
      · exact h.elim
    · exact h.elim

theorem awpOps_ok {F : Fence} (hF : Wd F) {n : Nat} {ops : Array Oper} {Q : AState → Prop} {Q' : Exit → Act → World → Prop} (l : List Oper) : ∀ (s : AState) (ρ : Nat → Nat × Nat) (fz : Nat → Prop) (a : Act) (w : World),
    awpOps P ops l Q s → SRel w0 nb ρ fz s a w → n0 ≤ s.σ.length →
    (∀ s' ρ' fz' a' w', Q s' → SRel w0 nb ρ' fz' s' a' w' → Ev w0 n0 ρ s.σ fz w ρ' s'.σ fz' w' → Q' .normal a' w') → wpListIn F n P ops Q' l a w := by
  induction l with
  | nil => intro s ρ fz a w h hs hn hq; exact hq s ρ fz a w h hs (Ev.refl _ _ _ _ hn)
  | cons o rest ih =>
    intro s ρ fz a w h hs hn hq
    simp only [awpOps] at h
    simp only [wpListIn]
    rcases guardA_ok hs.t h with ⟨hw, h⟩ | ⟨hw, h⟩
    · rw [if_pos hw]
      refine aop_ok hF hs.h hs.t h ?_
      intro v w' ρ' fz' r σ' hK hh hR hE
      have hE' := hE.lower hn
      refine ih ⟨put s.t o.dst r, σ'⟩ ρ' fz' _ w' hK ⟨hh, (hs.t.ev' (n0 := n0) hE).put o.dst hR, ?_⟩ hE'.len' ?_
      · have : (a.put o.dst v).defers = a.defers := by cases o.dst <;> rfl
        rw [this]; exact hs.m.ev hE
      · intro s' ρ2 fz2 a' w2 hQ hS hE2
        exact hq s' ρ2 fz2 a' w2 hQ hS (hE'.trans hE2)
    · rw [if_neg (by simp [hw])]
      refine ⟨fun f _ => hF.1 f, ih ⟨put s.t o.dst .any, s.σ⟩ ρ fz _ w h ⟨hs.h, hs.t.put o.dst (R.top _), ?_⟩ hn hq⟩
      have : (a.put o.dst undef).defers = a.defers := by cases o.dst <;> rfl
      rw [this]; exact hs.m

/-! ### Less is known -/
def wk1 : AV → AV → Prop
  | .any, _ => True
  | .so i v o n z none, y => match y with
    | .so i' v' o' n' z' _ => i = i' ∧ v = v' ∧ o = o' ∧ n = n' ∧ z = z'
    | _ => False
  | .pl nl cs n none, y => match y with
    | .pl nl' cs' n' _ => nl = nl' ∧ cs = cs' ∧ n = n'
    | _ => False
  | x, y => x = y

theorem wk1_refl (x : AV) : wk1 x x := by
  unfold wk1
  split <;> first
    | trivial
    | exact ⟨rfl, rfl, rfl, rfl, rfl⟩
    | exact ⟨rfl, rfl, rfl⟩
    | rfl

theorem R.wk {x y : AV} (h : wk1 x y) {σ : AHeap} {v : Value} (hy : R ρ σ fz w y v) : R ρ σ fz w x v := by
  unfold wk1 at h
  split at h
  · exact R.top _
  · split at h
    · obtain ⟨rfl, rfl, rfl, rfl, rfl⟩ := h
      cases hy with
      | pure _ _ h => cases h
      | so _ _ _ _ _ _ blk v hb hle h1 hv =>
        refine .so _ _ _ _ _ _ blk v hb hle h1 fun q1 q2 => ?_
        obtain ⟨a, c, r1, r2, r3, r4⟩ := hv q1 q2
        exact ⟨a, c, r1, r2, fun k hk => (by cases hk), r4⟩
    · exact h.elim
  · split at h
    · obtain ⟨rfl, rfl, rfl⟩ := h
      cases hy with
      | pure _ _ h =>
        cases h with
        | pl _ _ _ _ a c b o us q1 q2 q3 q4 q5 q6 q7 q8 q9 q10 => exact .pure _ _ (.pl _ _ _ _ a c b o us q1 q2 q3 (fun k hk => by cases hk) q5 q6 q7 q8 q9 (fun k hk => by cases hk))
    · exact h.elim
  · subst h; exact hy

structure Wk (n0 : Nat) (s s' : AState) : Prop where
  len : s'.t.length = s.t.length
  t : ∀ (i : Nat) (x : AV), s'.t[i]? = some x → ∃ y, s.t[i]? = some y ∧ wk1 x y
  lo : n0 ≤ s'.σ.length
  hi : s'.σ.length ≤ s.σ.length
  blk : ∀ (i : Nat) (b' : ABlk), s'.σ[i]? = some b' → ∃ b, s.σ[i]? = some b ∧ b'.ver = b.ver ∧ (b'.kind ≠ .dead → b'.kind = b.kind) ∧
    (b'.kind ≠ .dead → b'.cells.length ≤ b.cells.length ∧ ∀ (j : Nat) (x : AV), b'.cells[j]? = some x → ∃ y, b.cells[j]? = some y ∧ wk1 x y)
  sc : s'.σ.length < s.σ.length → (∀ x ∈ s'.t, Sc s'.σ.length x) ∧ ∀ b ∈ s'.σ, b.kind ≠ .dead → ∀ x ∈ b.cells, Sc s'.σ.length x

theorem R.less {σ σ' : AHeap} (hs : ∀ (i : Nat) (b' : ABlk), σ'[i]? = some b' → ∃ b, σ[i]? = some b ∧ b'.ver = b.ver ∧ (b'.kind ≠ .dead → b'.kind = b.kind)) {x : AV} {v : Value} (h : R ρ σ fz w x v) :
    Sc σ'.length x → R ρ σ' fz w x v := by
  induction h with
  | pure x v h => exact fun _ => .pure _ _ h
  | po i ver off blk v hb hle h1 hv =>
    intro hsc
    cases hsc with
    | po _ _ _ hi =>
      have hb' := List.getElem?_eq_getElem hi
      obtain ⟨b, hb2, he, hk⟩ := hs i _ hb'
      rw [hb] at hb2; cases hb2
      exact .po _ _ _ _ _ hb' (by omega) h1 fun hver hd => hv (by omega) (by rw [← hk hd]; exact hd)
  | so i ver off n sz cap blk v hb hle h1 hv =>
    intro hsc
    cases hsc with
    | so _ _ _ _ _ _ hi =>
      have hb' := List.getElem?_eq_getElem hi
      obtain ⟨b, hb2, he, hk⟩ := hs i _ hb'
      rw [hb] at hb2; cases hb2
      exact .so _ _ _ _ _ _ _ _ hb' (by omega) h1 fun hver hd => hv (by omega) (by rw [← hk hd]; exact hd)
  | agg cs arr hl h1 hR ih => intro hsc; cases hsc with | agg _ h => exact .agg _ _ hl h1 fun j hj => ih j hj (h j hj)
  | tup cs arr hl hR ih => intro hsc; cases hsc with | tup _ h => exact .tup _ _ hl fun j hj => ih j hj (h j hj)
  | fn f cs ds arr brr hl hl' hR hR' ih ih' => intro hsc; cases hsc with | fn _ _ _ h h' => exact .fn _ _ _ _ _ hl hl' (fun j hj => ih j hj (h j hj)) (fun j hj => ih' j hj (h' j hj))
  | ifc t x u h ih => intro hsc; cases hsc with | ifc _ _ h => exact .ifc _ _ _ (ih h)

theorem Wk.ok {s s' : AState} (h : Wk n0 s s') {a : Act} (hs : SRel w0 nb ρ fz s a w) : SRel w0 nb ρ fz s' a w ∧ Ev w0 n0 ρ s.σ fz w ρ s'.σ fz w := by
  have hsb : ∀ (i : Nat) (b' : ABlk), s'.σ[i]? = some b' → ∃ b, s.σ[i]? = some b ∧ b'.ver = b.ver ∧ (b'.kind ≠ .dead → b'.kind = b.kind) := fun i b' hb => by
    obtain ⟨b, h1, h2, h3, _⟩ := h.blk i b' hb
    exact ⟨b, h1, h2, h3⟩
  have sct : ∀ (i : Nat) (x : AV) (v : Value), s'.t[i]? = some x → R ρ s.σ fz w x v → Sc s'.σ.length x := fun i x v hx hR => by
    rcases Nat.lt_or_ge s'.σ.length s.σ.length with hl | hl
    · exact (h.sc hl).1 x (List.mem_of_getElem? hx)
    · have := hR.sc; have := h.hi; rw [show s'.σ.length = s.σ.length by omega]; assumption
  have hlen : n0 ≤ s.σ.length := Nat.le_trans h.lo h.hi
  refine ⟨⟨⟨hs.h.below, hs.h.fzlt, ?_, ?_⟩, ⟨by rw [hs.t.len, h.len], ?_⟩, hs.m⟩, ?_⟩
  · intro i b' hb hd
    obtain ⟨b, h1, h2, h3, h4⟩ := h.blk i b' hb
    have hk := h3 hd
    obtain ⟨hcl, hcx⟩ := h4 hd
    obtain ⟨cells, e, q1, q2, q3, q4, q5, q6⟩ := hs.h.blk i b h1 (by rw [← hk]; exact hd)
    refine ⟨cells, e, q1, q2, by omega, by rw [hk]; exact q4, by rw [hk]; exact q5, fun j hj => ?_⟩
    obtain ⟨u, hu, hone, hR⟩ := q6 j (by omega)
    refine ⟨u, hu, hone, ?_⟩
    obtain ⟨y, he, hwk⟩ := hcx j _ (List.getElem?_eq_getElem hj)
    have he2 := (List.getElem?_eq_some_iff.1 he).2
    rw [he2] at hR
    have hR := hR.wk hwk
    refine hR.less hsb ?_
    rcases Nat.lt_or_ge s'.σ.length s.σ.length with hl | hl
    · exact (h.sc hl).2 b' (List.mem_of_getElem? hb) hd _ (List.getElem_mem hj)
    · have := hR.sc; have := h.hi; rw [show s'.σ.length = s.σ.length by omega]; assumption
  · intro i j bi bj hi hj ki kj he
    obtain ⟨b1, h1, _, h3, _⟩ := h.blk i bi hi
    obtain ⟨b2, h4, _, h6, _⟩ := h.blk j bj hj
    exact hs.h.inj i j b1 b2 h1 h4 (by rw [← h3 (by rw [ki]; decide)]; exact ki) (by rw [← h6 (by rw [kj]; decide)]; exact kj) he
  · intro i hi
    have hx := List.getElem?_eq_getElem hi
    obtain ⟨y, he, hwk⟩ := h.t i _ hx
    obtain ⟨hlt, he2⟩ := List.getElem?_eq_some_iff.1 he
    have hR := hs.t.at_ i hlt
    rw [he2] at hR
    have hR := hR.wk hwk
    exact hR.less hsb (sct i _ _ hx hR)
  · refine ⟨hlen, h.lo, ?_, fun _ h => h, fun _ h => .inl h, fun _ _ => rfl, Nat.le_refl _, fun _ _ h _ => h, fun _ c _ fr h => ⟨c, fr, h, rfl⟩⟩
    intro i hi b b' hb hb'
    obtain ⟨b1, h1, h2, h3, _⟩ := h.blk i b' hb'
    rw [hb] at h1; cases h1
    exact ⟨by omega, fun _ hd => ⟨by rw [← h3 hd]; exact hd, rfl⟩⟩

/-- Lists that are weakened place by place. -/
def wkL : List AV → List AV → Prop
  | [], [] => True
  | x :: xs, y :: ys => wk1 x y ∧ wkL xs ys
  | _, _ => False

theorem wkL_refl : ∀ (l : List AV), wkL l l
  | [] => trivial
  | x :: xs => ⟨wk1_refl x, wkL_refl xs⟩

theorem wkL_at : ∀ {l' l : List AV}, wkL l' l → l'.length = l.length ∧ ∀ (i : Nat) (x : AV), l'[i]? = some x → ∃ y, l[i]? = some y ∧ wk1 x y
  | [], [], _ => ⟨rfl, fun i x h => by simp at h⟩
  | a :: l', b :: l, h => by
    obtain ⟨h1, h2⟩ := wkL_at h.2
    refine ⟨by simp [h1], fun i x hx => ?_⟩
    cases i with
    | zero =>
      simp only [List.getElem?_cons_zero, Option.some.injEq] at hx
      subst hx
      exact ⟨b, rfl, h.1⟩
    | succ i => simpa using h2 i x (by simpa using hx)
  | [], _ :: _, h => h.elim
  | _ :: _, [], h => h.elim

/-- The temporaries are forgotten in part; the heap stays. -/
theorem Wk.same {t t' : List AV} {σ : AHeap} (h : wkL t' t) (hn : n0 ≤ σ.length) : Wk n0 ⟨t, σ⟩ ⟨t', σ⟩ := by
  obtain ⟨h1, h2⟩ := wkL_at h
  exact ⟨h1, h2, hn, Nat.le_refl _, fun i b hb => ⟨b, hb, rfl, fun _ => rfl, fun _ => ⟨Nat.le_refl _, fun j x hx => ⟨x, hx, wk1_refl x⟩⟩⟩, fun hl => absurd hl (Nat.lt_irrefl _)⟩

/-- Some blocks are dropped, too. -/
theorem Wk.drop {t t' : List AV} {σ : AHeap} (more : AHeap) (h : wkL t' t) (hn : n0 ≤ σ.length) (hs : ∀ x ∈ t', Sc σ.length x) (hb : ∀ b ∈ σ, b.kind ≠ .dead → ∀ x ∈ b.cells, Sc σ.length x) : Wk n0 ⟨t, σ ++ more⟩ ⟨t', σ⟩ := by
  obtain ⟨h1, h2⟩ := wkL_at h
  refine ⟨h1, h2, hn, by simp, fun i b hb => ⟨b, ?_, rfl, fun _ => rfl, fun _ => ⟨Nat.le_refl _, fun j x hx => ⟨x, hx, wk1_refl x⟩⟩⟩, fun _ => ⟨hs, hb⟩⟩
  have hlt := (List.getElem?_eq_some_iff.1 hb).1
  show (σ ++ more)[i]? = some b
  rw [List.getElem?_append_left hlt]; exact hb

/-! ### A loop, each state of which is known by a thing beside it -/
theorem wpIn_loop_known {F : Fence} {n : Nat} {c : Code} {Q : Exit → Act → World → Prop} {γ : Type} (I : γ → Act → World → Prop) (μ : γ → Nat) {g0 : γ} {a : Act} {w : World} (h₀ : I g0 a w)
    (round : ∀ g a w, I g a w → c.wpIn F n P (Exit.then (fun a' w' => ∃ g', I g' a' w' ∧ μ g' < μ g) Q) a w) : (Code.loop c).wpIn F n P Q a w := by
  intro b k cs hro hb hr
  have key : ∀ (j : Nat) (g : γ) (a : Act) (w : World), μ g = j → I g a w →
      ∃ e a' w', Q e a' w' ∧ ArrivesIn (Machine.fenced P F) P (lone (b.atR a (.code c :: .inLoop c :: k)) cs w) b k cs e a' w' := by
    intro j
    induction j using Nat.strongRecOn with
    | _ j ih =>
      intro g a w hn hI
      obtain ⟨e, a₁, w₁, hq, harr⟩ := round g a w hI b (.inLoop c :: k) cs hro hb hr
      cases e with
      | normal =>
        obtain ⟨g', hI₁, hlt⟩ := hq
        obtain ⟨e₂, a₂, w₂, hq₂, harr₂⟩ := ih (μ g') (hn ▸ hlt) g' a₁ w₁ rfl hI₁
        exact ⟨e₂, a₂, w₂, hq₂, .of_steps (StepsIn.trans harr (.one (fenced_calm hb hr rfl) stepR_inLoop)) harr₂⟩
      | exit id => exact ⟨_, a₁, w₁, hq, .pass (x := .inLoop c) rfl (fun _ _ => .inl (by simp)) harr⟩
      | goto l => exact ⟨_, a₁, w₁, hq, .pass (x := .inLoop c) rfl (fun _ _ => .inl (by simp)) harr⟩
      | ret => exact ⟨_, a₁, w₁, hq, .pass (x := .inLoop c) rfl (fun _ _ => .inl (by simp)) harr⟩
      | panic ch => exact ⟨_, a₁, w₁, hq, .pass (x := .inLoop c) rfl (fun _ _ => .inl (by simp)) harr⟩
      | outgrown => exact ⟨_, a₁, w₁, hq, .pass (x := .inLoop c) rfl (fun _ _ => .inl (by simp)) harr⟩
  obtain ⟨e, a', w', hq, harr⟩ := key _ g0 a w rfl h₀
  exact ⟨e, a', w', hq, .of_steps (.one (fenced_calm hb hr rfl) stepR_loop) harr⟩
end
end Go.Proofs.Va
