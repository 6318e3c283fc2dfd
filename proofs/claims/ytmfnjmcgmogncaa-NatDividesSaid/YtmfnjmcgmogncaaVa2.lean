/- VA, part 2: the operations on what values are said to be. -/
import Derived.Test.YtmfnjmcgmogncaaVa1
import Derived.Laws.Cells
import Derived.Laws.CopyRow
import Derived.Deep.AppendSrc
import Derived.Laws.IdiomCopy
set_option linter.unusedVariables false
set_option linter.unusedSimpArgs false
namespace Go.Proofs.Va
open Go Go.RowKit

/-! ### The heap grows, is written, is drawn on -/
section
variable {w0 : World} {ρ : Nat → Nat × Nat} {σ : AHeap} {fz : Nat → Prop} {w : World}

theorem HRel.le (h : HRel w0 ρ fz σ w) : w0.heap.size ≤ w.heap.size := h.below.size

/-- The world's blocks are as they were. -/
theorem HRel.same (h : HRel w0 ρ fz σ w) {w' : World} (hh : w'.heap = w.heap) (ho : w'.os = w.os) (ht : w'.tape = w.tape) (hp : w'.output = w.output) :
    HRel w0 ρ fz σ w' ∧ Ev w0 σ.length ρ σ fz w ρ σ fz w' := by
  have E : Ev w0 σ.length ρ σ fz w ρ σ fz w' := by
    have := Ev.refl w0 ρ fz w (Nat.le_refl σ.length)
    exact ⟨this.len, this.len', this.blk, this.fzm, fun _ h => .inl h, fun k _ => by rw [hh], by rw [hh]; exact Nat.le_refl _, fun k o hk _ => by rw [hh]; exact hk, fun k c e fr hk => ⟨c, fr, by rw [hh]; exact hk, rfl⟩⟩
  refine ⟨⟨h.below.trans ⟨ho, ht, hp, by rw [hh]; exact Nat.le_refl _, fun k _ => by rw [hh]⟩, fun k hk => by rw [hh]; exact h.fzlt k hk, ?_, h.inj⟩, E⟩
  intro i blk hb hd
  obtain ⟨cells, e, h1, h2, hs, h3, h4, h5⟩ := h.blk i blk hb hd
  refine ⟨cells, e, by rw [hh]; exact h1, h2, hs, h3, h4, fun j hj => ?_⟩
  obtain ⟨u, hu, h1, hR⟩ := h5 j hj
  exact ⟨u, hu, h1, hR.ev E hR.sc⟩

theorem HRel.drew (h : HRel w0 ρ fz σ w) : HRel w0 ρ fz σ w.drew ∧ Ev w0 σ.length ρ σ fz w ρ σ fz w.drew := h.same rfl rfl rfl rfl

def upd (ρ : Nat → Nat × Nat) (i : Nat) (x : Nat × Nat) : Nat → Nat × Nat := fun k => if k = i then x else ρ k
theorem upd_same (ρ : Nat → Nat × Nat) (i : Nat) (x : Nat × Nat) : upd ρ i x i = x := by simp [upd]
theorem upd_other {ρ : Nat → Nat × Nat} {i k : Nat} {x : Nat × Nat} (h : k ≠ i) : upd ρ i x k = ρ k := by simp [upd, h]

theorem get_append_lt {σ : AHeap} {b : ABlk} {i : Nat} (h : i < σ.length) : (σ ++ [b])[i]? = σ[i]? := List.getElem?_append_left h
theorem get_append_self (σ : AHeap) (b : ABlk) : (σ ++ [b])[σ.length]? = some b := by simp

/-- A new block. -/
theorem HRel.push (h : HRel w0 ρ fz σ w) (cs : List AV) (arr : Array Value) (e : TypeId)
    (hsz : cs.length ≤ arr.size) (hc : ∀ j (hj : j < cs.length), ∃ u, arr[j]? = some u ∧ u.oneCell' = true ∧ R ρ σ fz w cs[j] u) :
    HRel w0 (upd ρ σ.length (w.heap.size, 0)) fz (σ ++ [⟨.own, 0, cs⟩]) (w.alloc (.cells arr e)) ∧
    Ev w0 σ.length ρ σ fz w (upd ρ σ.length (w.heap.size, 0)) (σ ++ [⟨.own, 0, cs⟩]) fz (w.alloc (.cells arr e)) := by
  have hle := h.le
  have old : ∀ k, k < w.heap.size → (w.alloc (.cells arr e)).heap[k]? = w.heap[k]? := fun k hk => Below.heap_alloc w _ k hk
  have new : (w.alloc (.cells arr e)).heap[w.heap.size]? = some (.cells arr e (0, 0)) := World.alloc_heap_new w _
  have lt : ∀ {k : Nat} {o : Obj}, w.heap[k]? = some o → k < w.heap.size := fun hk => (Array.getElem?_eq_some_iff.1 hk).1
  have E : Ev w0 σ.length ρ σ fz w (upd ρ σ.length (w.heap.size, 0)) (σ ++ [⟨.own, 0, cs⟩]) fz (w.alloc (.cells arr e)) := by
    refine ⟨Nat.le_refl _, by simp, ?_, fun _ h => h, fun _ h => .inl h, fun k hk => old k (h.fzlt k hk), by simp, fun k o hk _ => (old k (lt hk)).trans hk, fun k c e' fr hk => ⟨c, fr, (old k (lt hk)).trans hk, rfl⟩⟩
    intro i hi b b' hb hb'
    rw [get_append_lt hi, hb] at hb'
    cases hb'
    exact ⟨Nat.le_refl _, fun _ hd => ⟨hd, upd_other (by omega)⟩⟩
  refine ⟨⟨h.below.alloc hle _, fun k hk => by have := h.fzlt k hk; simp; omega, ?_, ?_⟩, E⟩
  · intro i blk hb hd
    rcases Nat.lt_trichotomy i σ.length with hi | hi | hi
    · rw [get_append_lt hi] at hb
      obtain ⟨cells, el, h1, h2, hs, h3, h4, h5⟩ := h.blk i blk hb hd
      have hr : upd ρ σ.length (w.heap.size, 0) i = ρ i := upd_other (by omega)
      rw [hr]
      refine ⟨cells, el, (old _ (lt h1)).trans h1, h2, hs, h3, h4, fun j hj => ?_⟩
      obtain ⟨u, hu, h1, hR⟩ := h5 j hj
      exact ⟨u, hu, h1, hR.ev E hR.sc⟩
    · subst hi
      rw [get_append_self] at hb
      cases hb
      rw [upd_same]
      refine ⟨arr, e, new, hle, by simpa using hsz, (fun _ hf => by have := h.fzlt _ hf; simp at this), (fun hk => by simp at hk), fun j hj => ?_⟩
      obtain ⟨u, hu, h1, hR⟩ := hc j hj
      exact ⟨u, by simpa using hu, h1, hR.ev E hR.sc⟩
    · rw [List.getElem?_eq_none (by simp; omega)] at hb; cases hb
  · intro i j bi bj hi hj ki kj he
    have li : i ≤ σ.length := by have := (List.getElem?_eq_some_iff.1 hi).1; simp at this; omega
    have lj : j ≤ σ.length := by have := (List.getElem?_eq_some_iff.1 hj).1; simp at this; omega
    rcases Nat.lt_or_ge i σ.length with h1 | h1 <;> rcases Nat.lt_or_ge j σ.length with h2 | h2
    · rw [get_append_lt h1] at hi; rw [get_append_lt h2] at hj
      rw [upd_other (by omega), upd_other (by omega)] at he
      exact h.inj i j bi bj hi hj ki kj he
    · have : j = σ.length := by omega
      subst this
      rw [get_append_lt h1] at hi
      rw [upd_other (by omega), upd_same] at he
      obtain ⟨_, _, h3, _, _⟩ := h.blk i bi hi (by rw [ki]; decide)
      have := lt h3; simp at he; omega
    · have : i = σ.length := by omega
      subst this
      rw [get_append_lt h2] at hj
      rw [upd_same, upd_other (by omega)] at he
      obtain ⟨_, _, h3, _, _⟩ := h.blk j bj hj (by rw [kj]; decide)
      have := lt h3; simp at he; omega
    · omega

/-- A block of the call's own is written: its row in the world becomes another one of the same size. -/
theorem HRel.write (h : HRel w0 ρ fz σ w) {i : Nat} {b : ABlk} (hb : σ[i]? = some b) (hk : b.kind = .own) {cells : Array Value} {e : TypeId}
    (hw : w.heap[(ρ i).1]? = some (.cells cells e (0, 0))) (cells' : Array Value) (hsz : cells'.size = cells.size) (cs : List AV) {w' : World}
    (hw' : w' = { w with heap := w.heap.setIfInBounds (ρ i).1 (.cells cells' e (0, 0)) })
    (hcl : (ρ i).2 + cs.length ≤ cells'.size) (hc : ∀ j (hj : j < cs.length), ∃ u, cells'[(ρ i).2 + j]? = some u ∧ u.oneCell' = true ∧ R ρ σ fz w cs[j] u) :
    HRel w0 ρ fz (σ.set i { b with cells := cs }) w' ∧ Ev w0 σ.length ρ σ fz w ρ (σ.set i { b with cells := cs }) fz w' := by
  subst hw'
  have hi : i < σ.length := (List.getElem?_eq_some_iff.1 hb).1
  have hlt : (ρ i).1 < w.heap.size := (Array.getElem?_eq_some_iff.1 hw).1
  have other : ∀ k, k ≠ (ρ i).1 → (w.heap.setIfInBounds (ρ i).1 (Obj.cells cells' e (0, 0)))[k]? = w.heap[k]? := fun k hk => by
    rw [Array.getElem?_setIfInBounds]; rw [if_neg (by omega)]
  have self : (w.heap.setIfInBounds (ρ i).1 (Obj.cells cells' e (0, 0)))[(ρ i).1]? = some (.cells cells' e (0, 0)) := by
    rw [Array.getElem?_setIfInBounds]; simp [hlt]
  obtain ⟨_, _, _, hbase, _, hnf, _, _⟩ := h.blk i b hb (by rw [hk]; decide)
  have hnf := hnf hk
  have E : Ev w0 σ.length ρ σ fz w ρ (σ.set i { b with cells := cs }) fz { w with heap := w.heap.setIfInBounds (ρ i).1 (.cells cells' e (0, 0)) } := by
    refine ⟨Nat.le_refl _, by simp, ?_, fun _ h => h, fun _ h => .inl h, fun k hf => other k (fun hh => hnf (hh ▸ hf)), by simp, ?_, ?_⟩
    · intro k hk' b1 b2 h1 h2
      by_cases hik : k = i
      · subst hik
        rw [hb] at h1; cases h1
        rw [List.getElem?_set_self hi] at h2; cases h2
        exact ⟨Nat.le_refl _, fun _ hd => ⟨hd, rfl⟩⟩
      · rw [List.getElem?_set_ne (by omega), h1] at h2; cases h2
        exact ⟨Nat.le_refl _, fun _ hd => ⟨hd, rfl⟩⟩
    · intro k o hko ho
      refine (other k fun hh => ?_).trans hko
      subst hh; rw [hw] at hko; cases hko; cases ho
    · intro k c el fr hkc
      by_cases hh : k = (ρ i).1
      · subst hh; rw [hw] at hkc; cases hkc
        exact ⟨cells', (0, 0), self, hsz⟩
      · exact ⟨c, fr, (other k hh).trans hkc, rfl⟩
  refine ⟨⟨h.below.trans ⟨rfl, rfl, rfl, by simp, fun k hk' => other k (by omega)⟩, fun k hf => by simpa using h.fzlt k hf, ?_, ?_⟩, E⟩
  · intro k blk hkb hd
    by_cases hik : k = i
    · subst hik
      rw [List.getElem?_set_self hi] at hkb; cases hkb
      refine ⟨cells', e, self, hbase, hcl, fun _ => hnf, fun hro => by simp [hk] at hro, fun j hj => ?_⟩
      obtain ⟨u, hu, h1, hR⟩ := hc j hj
      exact ⟨u, hu, h1, hR.ev E hR.sc⟩
    · rw [List.getElem?_set_ne (by omega)] at hkb
      obtain ⟨c1, e1, h1, h2, hs, h3, h4, h5⟩ := h.blk k blk hkb hd
      have hne : (ρ k).1 ≠ (ρ i).1 := by
        intro hh
        cases hkk : blk.kind with
        | own => exact hik (h.inj k i blk b hkb hb hkk hk hh)
        | ro => exact hnf (hh ▸ h4 hkk)
        | dead => exact hd hkk
      refine ⟨c1, e1, (other _ hne).trans h1, h2, hs, h3, h4, fun j hj => ?_⟩
      obtain ⟨u, hu, h1, hR⟩ := h5 j hj
      exact ⟨u, hu, h1, hR.ev E hR.sc⟩
  · intro p q bp bq hp hq kp kq he
    have aux : ∀ (p : Nat) (bp : ABlk), (σ.set i { b with cells := cs })[p]? = some bp → bp.kind = .own → ∃ b', σ[p]? = some b' ∧ b'.kind = .own := by
      intro p bp hp kp
      by_cases hpi : p = i
      · subst hpi; exact ⟨b, hb, hk⟩
      · rw [List.getElem?_set_ne (by omega)] at hp; exact ⟨bp, hp, kp⟩
    obtain ⟨b1, h1, k1⟩ := aux p bp hp kp
    obtain ⟨b2, h2, k2⟩ := aux q bq hq kq
    exact h.inj p q b1 b2 h1 h2 k1 k2 he
end

/-! ### A step that answers a value -/
def SemOK (P : Program) (w0 : World) (ρ : Nat → Nat × Nat) (fz : Nat → Prop) (σ : AHeap) (w : World) (s : Sem Value) (K : AV → AHeap → Prop) : Prop :=
  ∃ v w' ρ' fz' r σ', s.run P w = .ok v w' ∧ K r σ' ∧ HRel w0 ρ' fz' σ' w' ∧ R ρ' σ' fz' w' r v ∧ Ev w0 σ.length ρ σ fz w ρ' σ' fz' w'

section
variable {P : Program} {w0 : World} {ρ : Nat → Nat × Nat} {σ : AHeap} {fz : Nat → Prop} {w : World}

theorem SemOK.of_same {s : Sem Value} {K : AV → AHeap → Prop} {v : Value} {r : AV} (h : HRel w0 ρ fz σ w) (hs : s.run P w = .ok v w) (hR : R ρ σ fz w r v) (hK : K r σ) :
    SemOK P w0 ρ fz σ w s K := ⟨v, w, ρ, fz, r, σ, hs, hK, h, hR, Ev.refl _ _ _ _ (Nat.le_refl _)⟩

/-! ### Types -/
def szT (P : Program) (t : TypeId) : Option Nat := (P.info? t).map (·.size)
def isAggD : TypeDesc → Bool
  | .struct _ | .array _ _ => true
  | _ => false
def aggT (P : Program) (t : TypeId) : Option Bool := (P.underlying t).map isAggD

theorem run_szT {t : TypeId} {n : Nat} (h : szT P t = some n) (w : World) : (sizeOf t).run P w = .ok n w := by
  obtain ⟨i, hi, rfl⟩ := Option.map_eq_some_iff.1 h
  simp [sizeOf, typeInfo, hi]
theorem run_aggT {t : TypeId} {b : Bool} (h : aggT P t = some b) (w : World) : (isAgg t).run P w = .ok b w := by
  obtain ⟨d, hd, rfl⟩ := Option.map_eq_some_iff.1 h
  cases d <;> simp [isAgg, run_underlying hd, isAggD]

/-! ### load -/
def aRead (P : Program) (t : TypeId) (cs : List AV) (off : Nat) (K : AV → Prop) : Prop :=
  match aggT P t with
  | some true => match szT P t with
    | some n => off + n ≤ cs.length ∧ K (.agg ((cs.drop off).take n))
    | none => False
  | some false => match cs[off]? with
    | some x => K x
    | none => False
  | none => False

def aLoad (P : Program) (t : TypeId) (x : AV) (σ : AHeap) (K : AV → AHeap → Prop) : Prop :=
  match x with
  | .po i ver off => match σ[i]? with
    | some b => b.ver = ver ∧ b.kind ≠ .dead ∧ aRead P t b.cells off (fun r => K r σ)
    | none => False
  | .pp cs off => aRead P t cs off (fun r => K r σ)
  | _ => False

theorem loadVar_ok {t : TypeId} {cs : List AV} {off b o : Nat} {us : Nat → Value} {K : AV → Prop} {Rr : AV → Value → Prop}
    (hcell : ∀ j, j < cs.length → w.cell? ⟨b, o + j, none⟩ = some (us j)) (h1 : ∀ j, j < cs.length → (us j).oneCell' = true)
    (hR : ∀ j (h : j < cs.length), Rr cs[j] (us j))
    (hagg : ∀ (l : List AV) (arr : Array Value), arr.size = l.length → (∀ j, j < l.length → (arr.getD j undef).oneCell' = true) → (∀ j (h : j < l.length), Rr l[j] (arr.getD j undef)) → Rr (.agg l) (.agg arr))
    (hK : aRead P t cs off K) : ∃ v r, (loadVar t ⟨b, o + off, none⟩).run P w = .ok v w ∧ K r ∧ Rr r v := by
  unfold aRead at hK
  split at hK
  · rename_i ha
    split at hK
    · rename_i n hn
      obtain ⟨hle, hK⟩ := hK
      refine ⟨.agg ((List.range n).map fun j => us (off + j)).toArray, _, ?_, hK, ?_⟩
      · have hl := run_loadCells (P := P) w ⟨b, o + off, none⟩ n (fun j => us (off + j)) (fun j hj => by
          have := hcell (off + j) (by omega)
          unfold Addr.add; split
          · rename_i h0; subst h0; simpa using this
          · simpa [Nat.add_assoc] using this)
        simp [loadVar, run_aggT ha, run_szT hn, hl]
      · have hg : ∀ j, j < n → (((List.range n).map fun j => us (off + j)).toArray.getD j undef) = us (off + j) := fun j hj => by
          simp [Array.getD, hj]
        refine hagg _ _ (by simp; omega) (fun j hj => ?_) (fun j hj => ?_)
        · simp at hj; rw [hg j (by omega)]; exact h1 _ (by omega)
        · simp at hj; rw [hg j (by omega)]
          have := hR (off + j) (by omega)
          simpa using this
    · exact hK.elim
  · rename_i ha
    split at hK
    · rename_i x hx
      have hlt := (List.getElem?_eq_some_iff.1 hx).1
      refine ⟨us off, x, ?_, hK, ?_⟩
      · simp [loadVar, run_aggT ha, hcell off hlt]
      · have := hR off hlt
        rwa [(List.getElem?_eq_some_iff.1 hx).2] at this
    · exact hK.elim
  · exact hK.elim

theorem load_same (h : HRel w0 ρ fz σ w) {t : TypeId} {x : AV} {v : Value} (hx : R ρ σ fz w x v) {K : AV → AHeap → Prop} (hK : aLoad P t x σ K) :
    ∃ (ad : Addr) (u : Value) (r : AV), v = .pointer (some ad) ∧ (loadVar t ad).run P w = .ok u w ∧ R ρ σ fz w r u ∧ K r σ := by
  unfold aLoad at hK
  split at hK
  · rename_i i ver off
    split at hK
    · rename_i b hb
      obtain ⟨hv, hd, hK⟩ := hK
      obtain ⟨blk, hb', hle, _, hval⟩ := hx.po_inv
      rw [hb] at hb'; cases hb'
      have hval := hval hv hd
      subst hval
      obtain ⟨cells, e, hw, hbase, _, _, _, hc⟩ := h.blk i b hb hd
      have hcx : ∀ j, j < b.cells.length → w.cell? ⟨(ρ i).1, (ρ i).2 + j, none⟩ = some (cells.getD ((ρ i).2 + j) undef) := fun j hj => by
        obtain ⟨u, hu, _, _⟩ := hc j hj
        obtain ⟨hlt, rfl⟩ := Array.getElem?_eq_some_iff.1 hu
        simp [World.cell?, hw, hlt, Array.getD]
      obtain ⟨v, r, hrun, hK, hR⟩ := loadVar_ok (P := P) (Rr := R ρ σ fz w) hcx
        (fun j hj => by obtain ⟨u, hu, h1, _⟩ := hc j hj; obtain ⟨hlt, rfl⟩ := Array.getElem?_eq_some_iff.1 hu; simpa [Array.getD, hlt] using h1)
        (fun j hj => by obtain ⟨u, hu, _, hR⟩ := hc j hj; obtain ⟨hlt, rfl⟩ := Array.getElem?_eq_some_iff.1 hu; simpa [Array.getD, hlt] using hR)
        (fun l arr h1 h2 h3 => .agg l arr h1 h2 h3) hK
      exact ⟨_, _, _, rfl, hrun, hR, hK⟩
    · exact hK.elim
  · rename_i cs off
    obtain ⟨b, o, us, rfl, hfz, hcell, h1, hR⟩ := hx.pp_inv
    obtain ⟨v, r, hrun, hK, hR⟩ := loadVar_ok (P := P) (Rr := Rp fz w) hcell h1 hR (fun l arr h1 h2 h3 => .agg l arr h1 h2 h3) hK
    exact ⟨_, _, _, rfl, hrun, .pure _ _ hR, hK⟩
  · exact hK.elim

theorem load_ok (h : HRel w0 ρ fz σ w) {t : TypeId} {x : AV} {v : Value} (hx : R ρ σ fz w x v) {K : AV → AHeap → Prop} (hK : aLoad P t x σ K) :
    SemOK P w0 ρ fz σ w (Instr.loadAt t v) K := by
  obtain ⟨ad, u, r, rfl, hr, hR, hK⟩ := load_same (P := P) h hx hK
  exact SemOK.of_same h (by simp [Instr.loadAt, Instr.sureAddr, hr]) hR hK

/-! ### store -/
def cellsOf : AV → Option (List AV)
  | .agg cs => some cs
  | x => if x.one then some [x] else none

def wr : List AV → Nat → List AV → List AV
  | cs, _, [] => cs
  | cs, off, y :: ys => wr (cs.set off y) (off + 1) ys

theorem wr_length (ys : List AV) : ∀ (cs : List AV) (off : Nat), (wr cs off ys).length = cs.length := by
  induction ys with
  | nil => intro cs off; rfl
  | cons y ys ih => intro cs off; simp [wr, ih]
theorem wr_get (ys : List AV) : ∀ (cs : List AV) (off j : Nat), off + ys.length ≤ cs.length → (wr cs off ys)[j]? = if off ≤ j ∧ j < off + ys.length then ys[j - off]? else cs[j]? := by
  induction ys with
  | nil => intro cs off j _; simp [wr]; omega
  | cons y ys ih =>
    intro cs off j hl
    simp at hl
    rw [wr, ih _ _ _ (by simp; omega)]
    by_cases h1 : off + 1 ≤ j ∧ j < off + 1 + ys.length
    · rw [if_pos h1, if_pos (by simp; omega)]
      have : j - off = (j - (off + 1)) + 1 := by omega
      rw [this]; simp
    · rw [if_neg h1]
      by_cases h2 : j = off
      · subst h2
        rw [if_pos (by simp), List.getElem?_set_self (by omega)]
        simp
      · rw [List.getElem?_set_ne (by omega), if_neg (by simp; omega)]

theorem cellsOf_ok {x : AV} {v : Value} {ys : List AV} (h : cellsOf x = some ys) (hx : R ρ σ fz w x v) :
    v.cells.size = ys.length ∧ (∀ j, j < ys.length → (v.cells.getD j undef).oneCell' = true) ∧ ∀ j (hj : j < ys.length), R ρ σ fz w ys[j] (v.cells.getD j undef) := by
  have one : (∀ l, x ≠ .agg l) → v.cells.size = ys.length ∧ (∀ j, j < ys.length → (v.cells.getD j undef).oneCell' = true) ∧ ∀ j (hj : j < ys.length), R ρ σ fz w ys[j] (v.cells.getD j undef) := by
    intro hne
    have h' : (if x.one then some [x] else none) = some ys := by
      cases x <;> first | exact absurd rfl (hne _) | exact h
    split at h'
    · rename_i ho
      cases h'
      have h1 := hx.one ho
      have hc : v.cells = #[v] := by cases v <;> first | rfl | cases h1
      rw [hc]
      refine ⟨rfl, fun j hj => ?_, fun j hj => ?_⟩ <;> (simp at hj; subst hj; simpa [Array.getD] using ‹_›)
    · cases h'
  cases x with
  | agg cs =>
    cases h
    obtain ⟨arr, rfl, hl, h1, hR⟩ := hx.agg_inv
    exact ⟨hl, h1, hR⟩
  | _ => exact one (by intro l hl; cases hl)

def aStore (P : Program) (t : TypeId) (x y : AV) (σ : AHeap) (K : AHeap → Prop) : Prop :=
  match x with
  | .po i ver off => match σ[i]? with
    | some b => b.ver = ver ∧ b.kind = .own ∧ match cellsOf y with
      | some ys => szT P t = some ys.length ∧ off + ys.length ≤ b.cells.length ∧ K (σ.set i { b with cells := wr b.cells off ys })
      | none => False
    | none => False
  | _ => False

theorem setRow_eq (w : World) (g : Nat) (cells cells' : Array Value) (e : TypeId) (hg : w.heap[g]? = some (.cells cells e (0, 0))) :
    w.setRow g cells' = { w with heap := w.heap.setIfInBounds g (.cells cells' e (0, 0)) } := by
  obtain ⟨hlt, hh⟩ := Array.getElem?_eq_some_iff.1 hg
  unfold World.setRow
  congr 1
  apply Array.ext (by simp)
  intro j h1 h2
  simp only [Array.size_modify] at h1
  rw [Array.getElem_modify, Array.getElem_setIfInBounds (by simpa using h1)]
  split
  · rename_i h; subst h; rw [hh]
  · rfl

theorem storeCells_ok (h : HRel w0 ρ fz σ w) {i off : Nat} {b : ABlk} (hb : σ[i]? = some b) (hk : b.kind = .own) (vs : List Value) (ys : List AV) (hl : vs.length = ys.length)
    (h1 : ∀ j, j < ys.length → (vs.getD j undef).oneCell' = true) (hR : ∀ j (hj : j < ys.length), R ρ σ fz w ys[j] (vs.getD j undef)) (hoff : off + ys.length ≤ b.cells.length) :
    ∃ w', (storeCells ⟨(ρ i).1, (ρ i).2 + off, none⟩ vs).run P w = .ok () w' ∧ HRel w0 ρ fz (σ.set i { b with cells := wr b.cells off ys }) w' ∧
      Ev w0 σ.length ρ σ fz w ρ (σ.set i { b with cells := wr b.cells off ys }) fz w' := by
  obtain ⟨cells, e, hw, hbase, hlen, hnf, _, hc⟩ := h.blk i b hb (by rw [hk]; decide)
  have hsz : (ρ i).2 + (off + ys.length) ≤ cells.size := by omega
  have hrun := run_storeCells_at (P := P) (ρ i).1 ((ρ i).2 + off) e vs 0 cells w hw (by omega) (fun v hv => by
    obtain ⟨j, hj, rfl⟩ := List.mem_iff_getElem.1 hv
    have := h1 j (by omega)
    simpa [List.getD, hj] using this)
  simp only [Nat.add_zero] at hrun
  rw [setRow_eq w _ cells _ e hw] at hrun
  refine ⟨_, hrun, h.write hb hk hw _ ?_ _ rfl ?_ ?_⟩
  · simp; omega
  · rw [wr_length]; simp; omega
  · intro j hj
    rw [wr_length] at hj
    have hg := wr_get ys b.cells off j hoff
    rw [List.getElem?_eq_getElem (by rw [wr_length]; exact hj)] at hg
    by_cases hin : off ≤ j ∧ j < off + ys.length
    · rw [if_pos hin, List.getElem?_eq_getElem (by omega)] at hg
      have e1 := Option.some.inj hg
      rw [e1]
      refine ⟨vs.getD (j - off) undef, ?_, h1 _ (by omega), hR _ (by omega)⟩
      have hm : min ((ρ i).2 + off) cells.size = (ρ i).2 + off := by omega
      simp only [List.getElem?_toArray, List.append_assoc]
      rw [List.getElem?_append_right (by simp; omega), List.getElem?_append_left (by simp; omega)]
      simp only [List.length_take, Array.length_toList, hm]
      rw [show (ρ i).2 + j - ((ρ i).2 + off) = j - off by omega]
      simp [List.getD, List.getElem?_eq_getElem (show j - off < vs.length by omega)]
    · rw [if_neg hin, List.getElem?_eq_getElem hj] at hg
      have e1 := Option.some.inj hg
      rw [e1]
      obtain ⟨u, hu, h2, h3⟩ := hc j hj
      refine ⟨u, ?_, h2, h3⟩
      have hm : min ((ρ i).2 + off) cells.size = (ρ i).2 + off := by omega
      simp only [List.getElem?_toArray, List.append_assoc]
      rcases Nat.lt_or_ge j off with hlt | hge
      · rw [List.getElem?_append_left (by simp; omega), List.getElem?_take_of_lt (by omega)]
        simpa using hu
      · rw [List.getElem?_append_right (by simp; omega), List.getElem?_append_right (by simp; omega)]
        simp only [List.length_take, Array.length_toList, hm, List.getElem?_drop]
        rw [show (ρ i).2 + off + vs.length + ((ρ i).2 + j - ((ρ i).2 + off) - vs.length) = (ρ i).2 + j by omega]
        simpa using hu
end
end Go.Proofs.Va
