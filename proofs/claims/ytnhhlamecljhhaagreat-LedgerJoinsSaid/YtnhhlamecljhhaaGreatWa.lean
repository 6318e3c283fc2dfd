import Derived.RangeFuncLeaves
import Derived.RangeFuncRecord
import Derived.RangeFuncSeq
import Derived.RangeFuncOwn
import Derived.Below
import Derived.Laws.Cells
import Derived.Laws.CopyRow
import Derived.Deep.AppendSrc
import Derived.Laws.IdiomCopy
import Derived.Laws.MakeOwn
import Derived.Laws.FloatArith
import Derived.Laws.StructEq
import Derived.IntWalk
import Derived.Deep.Upon
import Derived.TacticsIn
/- VA, part 1: abstract values, how they stand for values in a world, and how that lives on. -/
set_option linter.unusedVariables false
namespace Go.Proofs.Va
open Go Go.RowKit

/-- What a value is said to be. -/
inductive AV where
  | v (x : Value)
  | any
  | nan
  | pl (nl : Bool) (cs : List AV) (n : Nat) (cap : Option Nat)
  | pp (cs : List AV) (off : Nat)
  | po (i ver off : Nat)
  | so (i ver off n sz : Nat) (cap : Option Nat)
  | agg (cs : List AV)
  | tup (cs : List AV)
  | fn (f : Fn) (first caps : List AV)
  | ifc (t : TypeId) (x : AV)
  deriving Inhabited

inductive BK where
  | own | ro | dead
  deriving DecidableEq

structure ABlk where
  kind : BK
  ver : Nat
  cells : List AV

abbrev AHeap := List ABlk

/-- The bits of a NaN. -/
def nanW (b : Nat) : Prop := b < 18446744073709551616 ∧ FloatKind.f64.format.order b b = none
/-- A float, or some NaN. -/
def fA : Option Nat → AV
  | some b => .v (.float .f64 b)
  | none => .nan

/-- Values that lead to no block of the call's own. -/
inductive Rp (fz : Nat → Prop) (w : World) : AV → Value → Prop
  | v (x : Value) : Rp fz w (.v x) x
  | any (x : Value) : Rp fz w .any x
  | nan (b : Nat) (h : nanW b) : Rp fz w .nan (.float .f64 b)
  | pl (nl : Bool) (cs : List AV) (n : Nat) (cap : Option Nat) (a : Option Addr) (c b o : Nat) (us : Nat → Value)
      (hnl : nl = a.isNone) (hn : a = none → c = 0) (hc : n ≤ c) (hcap : ∀ k, cap = some k → c = k)
      (ha : 0 < cs.length → a = some ⟨b, o, none⟩) (hfz : 0 < cs.length → fz b)
      (hcell : ∀ j, j < cs.length → w.cell? ⟨b, o + j, none⟩ = some (us j))
      (h1 : ∀ j, j < cs.length → (us j).oneCell' = true)
      (hR : ∀ j (h : j < cs.length), Rp fz w (cs[j]) (us j)) (hfr : ∀ k, cap = some k → 0 < cs.length → ∃ cells e, w.heap[b]? = some (.cells cells e (0, 0))) : Rp fz w (.pl nl cs n cap) (.slice a n c)
  | pp (cs : List AV) (off b o : Nat) (us : Nat → Value) (hfz : 0 < cs.length → fz b)
      (hcell : ∀ j, j < cs.length → w.cell? ⟨b, o + j, none⟩ = some (us j))
      (h1 : ∀ j, j < cs.length → (us j).oneCell' = true)
      (hR : ∀ j (h : j < cs.length), Rp fz w (cs[j]) (us j)) : Rp fz w (.pp cs off) (.pointer (some ⟨b, o + off, none⟩))
  | agg (cs : List AV) (arr : Array Value) (hl : arr.size = cs.length) (h1 : ∀ j, j < cs.length → (arr.getD j undef).oneCell' = true)
      (hR : ∀ j (h : j < cs.length), Rp fz w (cs[j]) (arr.getD j undef)) : Rp fz w (.agg cs) (.agg arr)
  | tup (cs : List AV) (arr : Array Value) (hl : arr.size = cs.length)
      (hR : ∀ j (h : j < cs.length), Rp fz w (cs[j]) (arr.getD j undef)) : Rp fz w (.tup cs) (.tuple arr)
  | fn (f : Fn) (cs ds : List AV) (arr brr : Array Value) (hl : arr.size = cs.length) (hl' : brr.size = ds.length)
      (hR : ∀ j (h : j < cs.length), Rp fz w (cs[j]) (arr.getD j undef))
      (hR' : ∀ j (h : j < ds.length), Rp fz w (ds[j]) (brr.getD j undef)) : Rp fz w (.fn f cs ds) (.func f arr brr)
  | ifc (t : TypeId) (x : AV) (u : Value) (h : Rp fz w x u) : Rp fz w (.ifc t x) (.iface t u)

/-- Values that may lead to blocks of the call's own. -/
inductive R (ρ : Nat → Nat × Nat) (σ : AHeap) (fz : Nat → Prop) (w : World) : AV → Value → Prop
  | pure (x : AV) (v : Value) (h : Rp fz w x v) : R ρ σ fz w x v
  | po (i ver off : Nat) (blk : ABlk) (v : Value) (hb : σ[i]? = some blk) (hle : ver ≤ blk.ver) (h1 : v.oneCell' = true)
      (hv : blk.ver = ver → blk.kind ≠ .dead → v = .pointer (some ⟨(ρ i).1, (ρ i).2 + off, none⟩)) : R ρ σ fz w (.po i ver off) v
  | so (i ver off n sz : Nat) (cap : Option Nat) (blk : ABlk) (v : Value) (hb : σ[i]? = some blk) (hle : ver ≤ blk.ver) (h1 : v.oneCell' = true)
      (hv : blk.ver = ver → blk.kind ≠ .dead → ∃ a c, v = .slice (some a) n c ∧ n ≤ c ∧ (∀ k, cap = some k → c = k) ∧
        (0 < c → a = ⟨(ρ i).1, (ρ i).2 + off, none⟩) ∧
        ∃ cells e fr, w.heap[(ρ i).1]? = some (.cells cells e fr) ∧ (ρ i).2 + off + c * sz ≤ cells.size) : R ρ σ fz w (.so i ver off n sz cap) v
  | agg (cs : List AV) (arr : Array Value) (hl : arr.size = cs.length) (h1 : ∀ j, j < cs.length → (arr.getD j undef).oneCell' = true)
      (hR : ∀ j (h : j < cs.length), R ρ σ fz w (cs[j]) (arr.getD j undef)) : R ρ σ fz w (.agg cs) (.agg arr)
  | tup (cs : List AV) (arr : Array Value) (hl : arr.size = cs.length)
      (hR : ∀ j (h : j < cs.length), R ρ σ fz w (cs[j]) (arr.getD j undef)) : R ρ σ fz w (.tup cs) (.tuple arr)
  | fn (f : Fn) (cs ds : List AV) (arr brr : Array Value) (hl : arr.size = cs.length) (hl' : brr.size = ds.length)
      (hR : ∀ j (h : j < cs.length), R ρ σ fz w (cs[j]) (arr.getD j undef))
      (hR' : ∀ j (h : j < ds.length), R ρ σ fz w (ds[j]) (brr.getD j undef)) : R ρ σ fz w (.fn f cs ds) (.func f arr brr)
  | ifc (t : TypeId) (x : AV) (u : Value) (h : R ρ σ fz w x u) : R ρ σ fz w (.ifc t x) (.iface t u)

/-- Every block that is named lies below n. -/
inductive Sc (n : Nat) : AV → Prop
  | v (x : Value) : Sc n (.v x)
  | any : Sc n .any
  | nan : Sc n .nan
  | pl (nl : Bool) (cs : List AV) (k : Nat) (cap : Option Nat) : Sc n (.pl nl cs k cap)
  | pp (cs : List AV) (off : Nat) : Sc n (.pp cs off)
  | po (i ver off : Nat) (h : i < n) : Sc n (.po i ver off)
  | so (i ver off k sz : Nat) (cap : Option Nat) (h : i < n) : Sc n (.so i ver off k sz cap)
  | agg (cs : List AV) (h : ∀ j (h : j < cs.length), Sc n cs[j]) : Sc n (.agg cs)
  | tup (cs : List AV) (h : ∀ j (h : j < cs.length), Sc n cs[j]) : Sc n (.tup cs)
  | fn (f : Fn) (cs ds : List AV) (h : ∀ j (h : j < cs.length), Sc n cs[j]) (h' : ∀ j (h : j < ds.length), Sc n ds[j]) : Sc n (.fn f cs ds)
  | ifc (t : TypeId) (x : AV) (h : Sc n x) : Sc n (.ifc t x)

/-- The package variables that are laid, and what they hold. -/
def GL : List (Nat × Value) := []
def Glob (fz : Nat → Prop) (w : World) : Prop := ∀ p ∈ GL, fz p.1 ∧ w.cell? ⟨p.1, 0, none⟩ = some p.2
structure FzLt (fz : Nat → Prop) (w : World) : Prop where
  lt : ∀ k, fz k → k < w.heap.size
  gl : Glob fz w
instance {fz : Nat → Prop} {w : World} : CoeFun (FzLt fz w) (fun _ => ∀ k, fz k → k < w.heap.size) := ⟨FzLt.lt⟩

structure HRel (w0 : World) (ρ : Nat → Nat × Nat) (fz : Nat → Prop) (σ : AHeap) (w : World) : Prop where
  below : Below w0.heap.size w0 w
  fzlt : FzLt fz w
  blk : ∀ (i : Nat) (blk : ABlk), σ[i]? = some blk → blk.kind ≠ .dead → ∃ cells e, w.heap[(ρ i).1]? = some (.cells cells e (0, 0)) ∧ w0.heap.size ≤ (ρ i).1 ∧ (ρ i).2 + blk.cells.length ≤ cells.size ∧
    (blk.kind = .own → ¬ fz (ρ i).1) ∧ (blk.kind = .ro → fz (ρ i).1) ∧
    ∀ j (h : j < blk.cells.length), ∃ u, cells[(ρ i).2 + j]? = some u ∧ u.oneCell' = true ∧ R ρ σ fz w blk.cells[j] u
  inj : ∀ (i j : Nat) (bi bj : ABlk), σ[i]? = some bi → σ[j]? = some bj → bi.kind = .own → bj.kind = .own → (ρ i).1 = (ρ j).1 → i = j

structure Ev (w0 : World) (n0 : Nat) (ρ : Nat → Nat × Nat) (σ : AHeap) (fz : Nat → Prop) (w : World) (ρ' : Nat → Nat × Nat) (σ' : AHeap) (fz' : Nat → Prop) (w' : World) : Prop where
  len : n0 ≤ σ.length
  len' : n0 ≤ σ'.length
  blk : ∀ i, i < n0 → ∀ b b' : ABlk, σ[i]? = some b → σ'[i]? = some b' → b.ver ≤ b'.ver ∧ (b'.ver = b.ver → b'.kind ≠ .dead → b.kind ≠ .dead ∧ ρ' i = ρ i)
  fzm : ∀ k, fz k → fz' k
  fzn : ∀ k, fz' k → fz k ∨ (w0.heap.size ≤ k ∧ ∃ c e fr, w'.heap[k]? = some (.cells c e fr))
  fzs : ∀ k, fz k → w'.heap[k]? = w.heap[k]?
  size : w.heap.size ≤ w'.heap.size
  same : ∀ (k : Nat) (o : Obj), w.heap[k]? = some o → o.isCells = false → w'.heap[k]? = some o
  cells : ∀ (k : Nat) (c : Array Value) (e : TypeId) (fr : Nat × Nat), w.heap[k]? = some (.cells c e fr) → ∃ c' fr', w'.heap[k]? = some (.cells c' e fr') ∧ c'.size = c.size

theorem Ev.refl (w0 : World) {n0 : Nat} (ρ : Nat → Nat × Nat) {σ : AHeap} (fz : Nat → Prop) (w : World) (h : n0 ≤ σ.length) : Ev w0 n0 ρ σ fz w ρ σ fz w :=
  ⟨h, h, fun i _ b b' hb hb' => by rw [hb] at hb'; cases hb'; exact ⟨Nat.le_refl _, fun _ hk => ⟨hk, rfl⟩⟩, fun _ h => h, fun _ h => .inl h, fun _ _ => rfl, Nat.le_refl _, fun _ _ h _ => h, fun _ c _ fr h => ⟨c, fr, h, rfl⟩⟩

theorem Ev.trans {w0 : World} {n0 : Nat} {ρ ρ1 ρ2 : Nat → Nat × Nat} {σ σ1 σ2 : AHeap} {fz fz1 fz2 : Nat → Prop} {w w1 w2 : World}
    (h : Ev w0 n0 ρ σ fz w ρ1 σ1 fz1 w1) (k : Ev w0 n0 ρ1 σ1 fz1 w1 ρ2 σ2 fz2 w2) : Ev w0 n0 ρ σ fz w ρ2 σ2 fz2 w2 := by
  refine ⟨h.len, k.len', ?_, fun x hx => k.fzm x (h.fzm x hx), ?_, fun x hx => (k.fzs x (h.fzm x hx)).trans (h.fzs x hx), Nat.le_trans h.size k.size,
    fun x o hx ho => k.same x o (h.same x o hx ho) ho, ?_⟩
  · intro i hi b b2 hb hb2
    obtain ⟨b1, hb1⟩ : ∃ b1, σ1[i]? = some b1 := ⟨_, List.getElem?_eq_getElem (Nat.lt_of_lt_of_le hi h.len')⟩
    have e1 := h.blk i hi b b1 hb hb1
    have e2 := k.blk i hi b1 b2 hb1 hb2
    refine ⟨Nat.le_trans e1.1 e2.1, fun hv hd => ?_⟩
    have hv2 : b2.ver = b1.ver := by have := e1.1; have := e2.1; omega
    obtain ⟨d1, r1⟩ := e2.2 hv2 hd
    have hv1 : b1.ver = b.ver := by omega
    obtain ⟨d0, r0⟩ := e1.2 hv1 d1
    exact ⟨d0, r1.trans r0⟩
  · intro x hx
    rcases k.fzn x hx with hx | hx
    · rcases h.fzn x hx with hx | ⟨hx, c, e, fr, hc⟩
      · exact .inl hx
      · obtain ⟨c', fr', h1, _⟩ := k.cells x c e fr hc
        exact .inr ⟨hx, c', e, fr', h1⟩
    · exact .inr hx
  · intro x c e fr hx
    obtain ⟨c1, fr1, h1, s1⟩ := h.cells x c e fr hx
    obtain ⟨c2, fr2, h2, s2⟩ := k.cells x c1 e fr1 h1
    exact ⟨c2, fr2, h2, s2.trans s1⟩

theorem Ev.lower {w0 : World} {n0 n1 : Nat} {ρ ρ1 : Nat → Nat × Nat} {σ σ1 : AHeap} {fz fz1 : Nat → Prop} {w w1 : World}
    (h : Ev w0 n0 ρ σ fz w ρ1 σ1 fz1 w1) (hn : n1 ≤ n0) : Ev w0 n1 ρ σ fz w ρ1 σ1 fz1 w1 :=
  ⟨Nat.le_trans hn h.len, Nat.le_trans hn h.len', fun i hi => h.blk i (by omega), h.fzm, h.fzn, h.fzs, h.size, h.same, h.cells⟩

theorem cell_of_heap {w w' : World} {b : Nat} (h : w'.heap[b]? = w.heap[b]?) (o : Nat) : w'.cell? ⟨b, o, none⟩ = w.cell? ⟨b, o, none⟩ := by
  simp [World.cell?, h]

theorem Glob.keep {fz fz' : Nat → Prop} {w w' : World} (h : Glob fz w) (hf : ∀ k, fz k → fz' k) (hw : ∀ k, fz k → w'.heap[k]? = w.heap[k]?) : Glob fz' w' := fun p hp =>
  ⟨hf _ (h p hp).1, (cell_of_heap (hw _ (h p hp).1) 0).trans (h p hp).2⟩

theorem ite_and {c : Prop} [Decidable c] {A B : Prop} : (if c then A else B) ↔ ((c → A) ∧ (¬c → B)) := by
  by_cases h : c <;> simp [h]
theorem iteB {q : Bool} {A B : Prop} : (if q = true then A else B) ↔ ((q = true → A) ∧ (q = false → B)) := by cases q <;> simp

/-- A value that leads to no block of the call's own lives on where what it leads to lies as it lay. -/
theorem Rp.keep {fz fz' : Nat → Prop} {w w' : World} (hf : ∀ k, fz k → fz' k) (hw : ∀ k, fz k → w'.heap[k]? = w.heap[k]?) {x : AV} {v : Value} (h : Rp fz w x v) : Rp fz' w' x v := by
  induction h with
  | v x => exact .v x
  | any x => exact .any x
  | nan b h => exact .nan b h
  | pl nl cs n cap a c b o us hnl hn hc hcap ha hfz hcell h1 hR hfr ih =>
    exact .pl nl cs n cap a c b o us hnl hn hc hcap ha (fun hp => hf _ (hfz hp)) (fun j hj => (cell_of_heap (hw _ (hfz (by omega))) _).trans (hcell j hj)) h1 ih (fun k hk hp => by
      obtain ⟨cells, e, h⟩ := hfr k hk hp
      exact ⟨cells, e, (hw _ (hfz hp)).trans h⟩)
  | pp cs off b o us hfz hcell h1 hR ih =>
    exact .pp cs off b o us (fun hp => hf _ (hfz hp)) (fun j hj => (cell_of_heap (hw _ (hfz (by omega))) _).trans (hcell j hj)) h1 ih
  | agg cs arr hl h1 hR ih => exact .agg cs arr hl h1 ih
  | tup cs arr hl hR ih => exact .tup cs arr hl ih
  | fn f cs ds arr brr hl hl' hR hR' ih ih' => exact .fn f cs ds arr brr hl hl' ih ih'
  | ifc t x u h ih => exact .ifc t x u ih

theorem Rp.sc {fz : Nat → Prop} {w : World} {x : AV} {v : Value} (h : Rp fz w x v) (n : Nat) : Sc n x := by
  induction h with
  | v x => exact .v x
  | any x => exact .any
  | nan b h => exact .nan
  | pl nl cs m cap a c b o us hnl hn hc hcap ha hfz hcell h1 hR hfr ih => exact .pl ..
  | pp cs off b o us hfz hcell h1 hR ih => exact .pp ..
  | agg cs arr hl h1 hR ih => exact .agg _ ih
  | tup cs arr hl hR ih => exact .tup _ ih
  | fn f cs ds arr brr hl hl' hR hR' ih ih' => exact .fn _ _ _ ih ih'
  | ifc t x u h ih => exact .ifc _ _ ih

theorem R.sc {ρ : Nat → Nat × Nat} {σ : AHeap} {fz : Nat → Prop} {w : World} {x : AV} {v : Value} (h : R ρ σ fz w x v) : Sc σ.length x := by
  induction h with
  | pure x v h => exact h.sc _
  | po i ver off blk v hb hle h1 hv => exact .po _ _ _ (List.getElem?_eq_some_iff.1 hb).1
  | so i ver off n sz cap blk v hb hle h1 hv => exact .so _ _ _ _ _ _ (List.getElem?_eq_some_iff.1 hb).1
  | agg cs arr hl h1 hR ih => exact .agg _ ih
  | tup cs arr hl hR ih => exact .tup _ ih
  | fn f cs ds arr brr hl hl' hR hR' ih ih' => exact .fn _ _ _ ih ih'
  | ifc t x u h ih => exact .ifc _ _ ih

theorem R.ev {w0 : World} {n0 : Nat} {ρ ρ' : Nat → Nat × Nat} {σ σ' : AHeap} {fz fz' : Nat → Prop} {w w' : World} (E : Ev w0 n0 ρ σ fz w ρ' σ' fz' w')
    {x : AV} {v : Value} (h : R ρ σ fz w x v) : Sc n0 x → R ρ' σ' fz' w' x v := by
  induction h with
  | pure x v h => exact fun _ => .pure _ _ (h.keep E.fzm E.fzs)
  | po i ver off blk v hb hle h1 hv =>
    intro hs
    cases hs with
    | po _ _ _ hi =>
      obtain ⟨blk', hb'⟩ : ∃ b1, σ'[i]? = some b1 := ⟨_, List.getElem?_eq_getElem (Nat.lt_of_lt_of_le hi E.len')⟩
      have e := E.blk i hi blk blk' hb hb'
      have e1 := e.1
      refine .po i ver off blk' v hb' (by omega) h1 fun hver hd => ?_
      have hvv : blk.ver = ver := by omega
      obtain ⟨d, r⟩ := e.2 (by omega) hd
      rw [r]; exact hv hvv d
  | so i ver off n sz cap blk v hb hle h1 hv =>
    intro hs
    cases hs with
    | so _ _ _ _ _ _ hi =>
      obtain ⟨blk', hb'⟩ : ∃ b1, σ'[i]? = some b1 := ⟨_, List.getElem?_eq_getElem (Nat.lt_of_lt_of_le hi E.len')⟩
      have e := E.blk i hi blk blk' hb hb'
      have e1 := e.1
      refine .so i ver off n sz cap blk' v hb' (by omega) h1 fun hver hd => ?_
      have hvv : blk.ver = ver := by omega
      obtain ⟨d, r⟩ := e.2 (by omega) hd
      obtain ⟨a, c, h1, h2, h3, h4, cells, el, fr, h5, h6⟩ := hv hvv d
      obtain ⟨cells', fr', h7, h8⟩ := E.cells _ _ _ _ h5
      exact ⟨a, c, h1, h2, h3, by rw [r]; exact h4, cells', el, fr', by rw [r]; exact h7, by rw [r]; omega⟩
  | agg cs arr hl h1 hR ih => intro hs; cases hs with | agg _ h => exact .agg _ _ hl h1 fun j hj => ih j hj (h j hj)
  | tup cs arr hl hR ih => intro hs; cases hs with | tup _ h => exact .tup _ _ hl fun j hj => ih j hj (h j hj)
  | fn f cs ds arr brr hl hl' hR hR' ih ih' => intro hs; cases hs with | fn _ _ _ h h' => exact .fn _ _ _ _ _ hl hl' (fun j hj => ih j hj (h j hj)) (fun j hj => ih' j hj (h' j hj))
  | ifc t x u h ih => intro hs; cases hs with | ifc _ _ h => exact .ifc _ _ _ (ih h)

/-! ### What a value is, by what it is said to be -/
section
variable {ρ : Nat → Nat × Nat} {σ : AHeap} {fz : Nat → Prop} {w : World}

theorem R.v_eq {y v : Value} (h : R ρ σ fz w (.v y) v) : v = y := by
  cases h with | pure _ _ h => cases h; rfl
theorem R.po_inv {i ver off : Nat} {v : Value} (h : R ρ σ fz w (.po i ver off) v) : ∃ blk, σ[i]? = some blk ∧ ver ≤ blk.ver ∧ v.oneCell' = true ∧
    (blk.ver = ver → blk.kind ≠ .dead → v = .pointer (some ⟨(ρ i).1, (ρ i).2 + off, none⟩)) := by
  cases h with
  | pure _ _ h => cases h
  | po _ _ _ blk _ hb hle h1 hv => exact ⟨blk, hb, hle, h1, hv⟩
theorem R.so_inv {i ver off n sz : Nat} {cap : Option Nat} {v : Value} (h : R ρ σ fz w (.so i ver off n sz cap) v) : ∃ blk, σ[i]? = some blk ∧ ver ≤ blk.ver ∧ v.oneCell' = true ∧
    (blk.ver = ver → blk.kind ≠ .dead → ∃ a c, v = .slice (some a) n c ∧ n ≤ c ∧ (∀ k, cap = some k → c = k) ∧
        (0 < c → a = ⟨(ρ i).1, (ρ i).2 + off, none⟩) ∧
        ∃ cells e fr, w.heap[(ρ i).1]? = some (.cells cells e fr) ∧ (ρ i).2 + off + c * sz ≤ cells.size) := by
  cases h with
  | pure _ _ h => cases h
  | so _ _ _ _ _ _ blk _ hb hle h1 hv => exact ⟨blk, hb, hle, h1, hv⟩
theorem R.pl_inv' {nl : Bool} {cs : List AV} {n : Nat} {cap : Option Nat} {v : Value} (h : R ρ σ fz w (.pl nl cs n cap) v) :
    ∃ (a : Option Addr) (c b o : Nat) (us : Nat → Value), v = .slice a n c ∧ nl = a.isNone ∧ (a = none → c = 0) ∧ n ≤ c ∧ (∀ k, cap = some k → c = k) ∧
      (0 < cs.length → a = some ⟨b, o, none⟩) ∧ (0 < cs.length → fz b) ∧ (∀ j, j < cs.length → w.cell? ⟨b, o + j, none⟩ = some (us j)) ∧
      (∀ j, j < cs.length → (us j).oneCell' = true) ∧ (∀ j (h : j < cs.length), Rp fz w (cs[j]) (us j)) ∧ (∀ k, cap = some k → 0 < cs.length → ∃ cells e, w.heap[b]? = some (.cells cells e (0, 0))) := by
  cases h with
  | pure _ _ h => cases h with | pl _ _ _ _ a c b o us hnl hn hc hcap ha hfz hcell h1 hR hfr => exact ⟨a, c, b, o, us, rfl, hnl, hn, hc, hcap, ha, hfz, hcell, h1, hR, hfr⟩
theorem R.pl_inv {nl : Bool} {cs : List AV} {n : Nat} {cap : Option Nat} {v : Value} (h : R ρ σ fz w (.pl nl cs n cap) v) :
    ∃ (a : Option Addr) (c b o : Nat) (us : Nat → Value), v = .slice a n c ∧ nl = a.isNone ∧ (a = none → c = 0) ∧ n ≤ c ∧ (∀ k, cap = some k → c = k) ∧
      (0 < cs.length → a = some ⟨b, o, none⟩) ∧ (0 < cs.length → fz b) ∧ (∀ j, j < cs.length → w.cell? ⟨b, o + j, none⟩ = some (us j)) ∧
      (∀ j, j < cs.length → (us j).oneCell' = true) ∧ ∀ j (h : j < cs.length), Rp fz w (cs[j]) (us j) := by
  obtain ⟨a, c, b, o, us, h0, hnl, hn, hc, hcap, ha, hfz, hcell, h1, hR, _⟩ := h.pl_inv'
  exact ⟨a, c, b, o, us, h0, hnl, hn, hc, hcap, ha, hfz, hcell, h1, hR⟩
theorem R.pp_inv {cs : List AV} {off : Nat} {v : Value} (h : R ρ σ fz w (.pp cs off) v) :
    ∃ (b o : Nat) (us : Nat → Value), v = .pointer (some ⟨b, o + off, none⟩) ∧ (0 < cs.length → fz b) ∧ (∀ j, j < cs.length → w.cell? ⟨b, o + j, none⟩ = some (us j)) ∧
      (∀ j, j < cs.length → (us j).oneCell' = true) ∧ ∀ j (h : j < cs.length), Rp fz w (cs[j]) (us j) := by
  cases h with
  | pure _ _ h => cases h with | pp _ _ b o us hfz hcell h1 hR => exact ⟨b, o, us, rfl, hfz, hcell, h1, hR⟩
theorem R.agg_inv {cs : List AV} {v : Value} (h : R ρ σ fz w (.agg cs) v) :
    ∃ arr, v = .agg arr ∧ arr.size = cs.length ∧ (∀ j, j < cs.length → (arr.getD j undef).oneCell' = true) ∧ ∀ j (h : j < cs.length), R ρ σ fz w (cs[j]) (arr.getD j undef) := by
  cases h with
  | pure _ _ h => cases h with | agg _ arr hl h1 hR => exact ⟨arr, rfl, hl, h1, fun j hj => .pure _ _ (hR j hj)⟩
  | agg _ arr hl h1 hR => exact ⟨arr, rfl, hl, h1, hR⟩
theorem R.tup_inv {cs : List AV} {v : Value} (h : R ρ σ fz w (.tup cs) v) :
    ∃ arr, v = .tuple arr ∧ arr.size = cs.length ∧ ∀ j (h : j < cs.length), R ρ σ fz w (cs[j]) (arr.getD j undef) := by
  cases h with
  | pure _ _ h => cases h with | tup _ arr hl hR => exact ⟨arr, rfl, hl, fun j hj => .pure _ _ (hR j hj)⟩
  | tup _ arr hl hR => exact ⟨arr, rfl, hl, hR⟩
theorem R.fn_inv {f : Fn} {cs ds : List AV} {v : Value} (h : R ρ σ fz w (.fn f cs ds) v) :
    ∃ arr brr, v = .func f arr brr ∧ arr.size = cs.length ∧ brr.size = ds.length ∧ (∀ j (h : j < cs.length), R ρ σ fz w (cs[j]) (arr.getD j undef)) ∧
      ∀ j (h : j < ds.length), R ρ σ fz w (ds[j]) (brr.getD j undef) := by
  cases h with
  | pure _ _ h => cases h with | fn _ _ _ arr brr hl hl' hR hR' => exact ⟨arr, brr, rfl, hl, hl', fun j hj => .pure _ _ (hR j hj), fun j hj => .pure _ _ (hR' j hj)⟩
  | fn _ _ _ arr brr hl hl' hR hR' => exact ⟨arr, brr, rfl, hl, hl', hR, hR'⟩
theorem R.ifc_inv {t : TypeId} {x : AV} {v : Value} (h : R ρ σ fz w (.ifc t x) v) : ∃ u, v = .iface t u ∧ R ρ σ fz w x u := by
  cases h with
  | pure _ _ h => cases h with | ifc _ _ u h => exact ⟨u, rfl, .pure _ _ h⟩
  | ifc _ _ u h => exact ⟨u, rfl, h⟩
theorem R.nan_inv {v : Value} (h : R ρ σ fz w .nan v) : ∃ b, v = .float .f64 b ∧ nanW b := by
  cases h with
  | pure _ _ h => cases h with | nan b h => exact ⟨b, rfl, h⟩
theorem R.top (v : Value) : R ρ σ fz w .any v := .pure _ _ (.any v)
theorem R.lit (v : Value) : R ρ σ fz w (.v v) v := .pure _ _ (.v v)

/-- Does what it is said to be fill one cell? -/
def AV.one : AV → Bool
  | .v x => x.oneCell'
  | .any | .agg _ | .tup _ => false
  | _ => true
theorem R.one {x : AV} {v : Value} (h : R ρ σ fz w x v) (hx : x.one = true) : v.oneCell' = true := by
  cases x with
  | v y => rw [h.v_eq]; exact hx
  | any => cases hx
  | nan => obtain ⟨b, rfl, _⟩ := h.nan_inv; rfl
  | pl nl cs n cap => obtain ⟨a, c, b, o, us, rfl, _⟩ := h.pl_inv; rfl
  | pp cs off => obtain ⟨b, o, us, rfl, _⟩ := h.pp_inv; rfl
  | po i ver off => obtain ⟨_, _, _, h1, _⟩ := h.po_inv; exact h1
  | so i ver off n sz cap => obtain ⟨_, _, _, h1, _⟩ := h.so_inv; exact h1
  | agg cs => cases hx
  | tup cs => cases hx
  | fn f cs ds => obtain ⟨arr, brr, rfl, _⟩ := h.fn_inv; rfl
  | ifc t x => obtain ⟨u, rfl, _⟩ := h.ifc_inv; rfl
end
end Go.Proofs.Va
/- VA, part 2: the operations on what values are said to be. -/
set_option linter.unusedVariables false
set_option linter.unusedSimpArgs false
namespace Go.Proofs.Va
open Go Go.RowKit

/-! ### The heap grows, is written, is drawn on -/
section
variable {w0 : World} {ρ : Nat → Nat × Nat} {σ : AHeap} {fz : Nat → Prop} {w : World}

theorem HRel.le (h : HRel w0 ρ fz σ w) : w0.heap.size ≤ w.heap.size := h.below.size

/-- The world's blocks are as they were. -/
theorem HRel.same (h : HRel w0 ρ fz σ w) {w' : World} (hh : w'.heap = w.heap) (ho : w'.os = w.os) (ht : w'.tape = w.tape) (hp : w'.output = w.output) :
    HRel w0 ρ fz σ w' ∧ Ev w0 σ.length ρ σ fz w ρ σ fz w' := by
  have E : Ev w0 σ.length ρ σ fz w ρ σ fz w' := by
    have := Ev.refl w0 ρ fz w (Nat.le_refl σ.length)
    exact ⟨this.len, this.len', this.blk, this.fzm, fun _ h => .inl h, fun k _ => by rw [hh], by rw [hh]; exact Nat.le_refl _, fun k o hk _ => by rw [hh]; exact hk, fun k c e fr hk => ⟨c, fr, by rw [hh]; exact hk, rfl⟩⟩
  refine ⟨⟨h.below.trans ⟨ho, ht, hp, by rw [hh]; exact Nat.le_refl _, fun k _ => by rw [hh]⟩, ⟨fun k hk => by rw [hh]; exact h.fzlt k hk, h.fzlt.gl.keep E.fzm E.fzs⟩, ?_, h.inj⟩, E⟩
  intro i blk hb hd
  obtain ⟨cells, e, h1, h2, hs, h3, h4, h5⟩ := h.blk i blk hb hd
  refine ⟨cells, e, by rw [hh]; exact h1, h2, hs, h3, h4, fun j hj => ?_⟩
  obtain ⟨u, hu, h1, hR⟩ := h5 j hj
  exact ⟨u, hu, h1, hR.ev E hR.sc⟩

theorem HRel.drew (h : HRel w0 ρ fz σ w) : HRel w0 ρ fz σ w.drew ∧ Ev w0 σ.length ρ σ fz w ρ σ fz w.drew := h.same rfl rfl rfl rfl

def upd (ρ : Nat → Nat × Nat) (i : Nat) (x : Nat × Nat) : Nat → Nat × Nat := fun k => if k = i then x else ρ k
theorem upd_same (ρ : Nat → Nat × Nat) (i : Nat) (x : Nat × Nat) : upd ρ i x i = x := by simp [upd]
theorem upd_other {ρ : Nat → Nat × Nat} {i k : Nat} {x : Nat × Nat} (h : k ≠ i) : upd ρ i x k = ρ k := by simp [upd, h]

theorem get_append_lt {σ : AHeap} {b : ABlk} {i : Nat} (h : i < σ.length) : (σ ++ [b])[i]? = σ[i]? := List.getElem?_append_left h
theorem get_append_self (σ : AHeap) (b : ABlk) : (σ ++ [b])[σ.length]? = some b := by simp

/-- A new block. -/
theorem HRel.push (h : HRel w0 ρ fz σ w) (cs : List AV) (arr : Array Value) (e : TypeId)
    (hsz : cs.length ≤ arr.size) (hc : ∀ j (hj : j < cs.length), ∃ u, arr[j]? = some u ∧ u.oneCell' = true ∧ R ρ σ fz w cs[j] u) :
    HRel w0 (upd ρ σ.length (w.heap.size, 0)) fz (σ ++ [⟨.own, 0, cs⟩]) (w.alloc (.cells arr e)) ∧
    Ev w0 σ.length ρ σ fz w (upd ρ σ.length (w.heap.size, 0)) (σ ++ [⟨.own, 0, cs⟩]) fz (w.alloc (.cells arr e)) := by
  have hle := h.le
  have old : ∀ k, k < w.heap.size → (w.alloc (.cells arr e)).heap[k]? = w.heap[k]? := fun k hk => Below.heap_alloc w _ k hk
  have new : (w.alloc (.cells arr e)).heap[w.heap.size]? = some (.cells arr e (0, 0)) := World.alloc_heap_new w _
  have lt : ∀ {k : Nat} {o : Obj}, w.heap[k]? = some o → k < w.heap.size := fun hk => (Array.getElem?_eq_some_iff.1 hk).1
  have E : Ev w0 σ.length ρ σ fz w (upd ρ σ.length (w.heap.size, 0)) (σ ++ [⟨.own, 0, cs⟩]) fz (w.alloc (.cells arr e)) := by
    refine ⟨Nat.le_refl _, by simp, ?_, fun _ h => h, fun _ h => .inl h, fun k hk => old k (h.fzlt k hk), by simp, fun k o hk _ => (old k (lt hk)).trans hk, fun k c e' fr hk => ⟨c, fr, (old k (lt hk)).trans hk, rfl⟩⟩
    intro i hi b b' hb hb'
    rw [get_append_lt hi, hb] at hb'
    cases hb'
    exact ⟨Nat.le_refl _, fun _ hd => ⟨hd, upd_other (by omega)⟩⟩
  refine ⟨⟨h.below.alloc hle _, ⟨fun k hk => by have := h.fzlt k hk; simp; omega, h.fzlt.gl.keep E.fzm E.fzs⟩, ?_, ?_⟩, E⟩
  · intro i blk hb hd
    rcases Nat.lt_trichotomy i σ.length with hi | hi | hi
    · rw [get_append_lt hi] at hb
      obtain ⟨cells, el, h1, h2, hs, h3, h4, h5⟩ := h.blk i blk hb hd
      have hr : upd ρ σ.length (w.heap.size, 0) i = ρ i := upd_other (by omega)
      rw [hr]
      refine ⟨cells, el, (old _ (lt h1)).trans h1, h2, hs, h3, h4, fun j hj => ?_⟩
      obtain ⟨u, hu, h1, hR⟩ := h5 j hj
      exact ⟨u, hu, h1, hR.ev E hR.sc⟩
    · subst hi
      rw [get_append_self] at hb
      cases hb
      rw [upd_same]
      refine ⟨arr, e, new, hle, by simpa using hsz, (fun _ hf => by have := h.fzlt _ hf; simp at this), (fun hk => by simp at hk), fun j hj => ?_⟩
      obtain ⟨u, hu, h1, hR⟩ := hc j hj
      exact ⟨u, by simpa using hu, h1, hR.ev E hR.sc⟩
    · rw [List.getElem?_eq_none (by simp; omega)] at hb; cases hb
  · intro i j bi bj hi hj ki kj he
    have li : i ≤ σ.length := by have := (List.getElem?_eq_some_iff.1 hi).1; simp at this; omega
    have lj : j ≤ σ.length := by have := (List.getElem?_eq_some_iff.1 hj).1; simp at this; omega
    rcases Nat.lt_or_ge i σ.length with h1 | h1 <;> rcases Nat.lt_or_ge j σ.length with h2 | h2
    · rw [get_append_lt h1] at hi; rw [get_append_lt h2] at hj
      rw [upd_other (by omega), upd_other (by omega)] at he
      exact h.inj i j bi bj hi hj ki kj he
    · have : j = σ.length := by omega
      subst this
      rw [get_append_lt h1] at hi
      rw [upd_other (by omega), upd_same] at he
      obtain ⟨_, _, h3, _, _⟩ := h.blk i bi hi (by rw [ki]; decide)
      have := lt h3; simp at he; omega
    · have : i = σ.length := by omega
      subst this
      rw [get_append_lt h2] at hj
      rw [upd_same, upd_other (by omega)] at he
      obtain ⟨_, _, h3, _, _⟩ := h.blk j bj hj (by rw [kj]; decide)
      have := lt h3; simp at he; omega
    · omega

/-- A block of the call's own is written: its row in the world becomes another one of the same size. -/
theorem HRel.write (h : HRel w0 ρ fz σ w) {i : Nat} {b : ABlk} (hb : σ[i]? = some b) (hk : b.kind = .own) {cells : Array Value} {e : TypeId}
    (hw : w.heap[(ρ i).1]? = some (.cells cells e (0, 0))) (cells' : Array Value) (hsz : cells'.size = cells.size) (cs : List AV) {w' : World}
    (hw' : w' = { w with heap := w.heap.setIfInBounds (ρ i).1 (.cells cells' e (0, 0)) })
    (hcl : (ρ i).2 + cs.length ≤ cells'.size) (hc : ∀ j (hj : j < cs.length), ∃ u, cells'[(ρ i).2 + j]? = some u ∧ u.oneCell' = true ∧ R ρ σ fz w cs[j] u) :
    HRel w0 ρ fz (σ.set i { b with cells := cs }) w' ∧ Ev w0 σ.length ρ σ fz w ρ (σ.set i { b with cells := cs }) fz w' := by
  subst hw'
  have hi : i < σ.length := (List.getElem?_eq_some_iff.1 hb).1
  have hlt : (ρ i).1 < w.heap.size := (Array.getElem?_eq_some_iff.1 hw).1
  have other : ∀ k, k ≠ (ρ i).1 → (w.heap.setIfInBounds (ρ i).1 (Obj.cells cells' e (0, 0)))[k]? = w.heap[k]? := fun k hk => by
    rw [Array.getElem?_setIfInBounds]; rw [if_neg (by omega)]
  have self : (w.heap.setIfInBounds (ρ i).1 (Obj.cells cells' e (0, 0)))[(ρ i).1]? = some (.cells cells' e (0, 0)) := by
    rw [Array.getElem?_setIfInBounds]; simp [hlt]
  obtain ⟨_, _, _, hbase, _, hnf, _, _⟩ := h.blk i b hb (by rw [hk]; decide)
  have hnf := hnf hk
  have E : Ev w0 σ.length ρ σ fz w ρ (σ.set i { b with cells := cs }) fz { w with heap := w.heap.setIfInBounds (ρ i).1 (.cells cells' e (0, 0)) } := by
    refine ⟨Nat.le_refl _, by simp, ?_, fun _ h => h, fun _ h => .inl h, fun k hf => other k (fun hh => hnf (hh ▸ hf)), by simp, ?_, ?_⟩
    · intro k hk' b1 b2 h1 h2
      by_cases hik : k = i
      · subst hik
        rw [hb] at h1; cases h1
        rw [List.getElem?_set_self hi] at h2; cases h2
        exact ⟨Nat.le_refl _, fun _ hd => ⟨hd, rfl⟩⟩
      · rw [List.getElem?_set_ne (by omega), h1] at h2; cases h2
        exact ⟨Nat.le_refl _, fun _ hd => ⟨hd, rfl⟩⟩
    · intro k o hko ho
      refine (other k fun hh => ?_).trans hko
      subst hh; rw [hw] at hko; cases hko; cases ho
    · intro k c el fr hkc
      by_cases hh : k = (ρ i).1
      · subst hh; rw [hw] at hkc; cases hkc
        exact ⟨cells', (0, 0), self, hsz⟩
      · exact ⟨c, fr, (other k hh).trans hkc, rfl⟩
  refine ⟨⟨h.below.trans ⟨rfl, rfl, rfl, by simp, fun k hk' => other k (by omega)⟩, ⟨fun k hf => by simpa using h.fzlt k hf, h.fzlt.gl.keep E.fzm E.fzs⟩, ?_, ?_⟩, E⟩
  · intro k blk hkb hd
    by_cases hik : k = i
    · subst hik
      rw [List.getElem?_set_self hi] at hkb; cases hkb
      refine ⟨cells', e, self, hbase, hcl, fun _ => hnf, fun hro => by simp [hk] at hro, fun j hj => ?_⟩
      obtain ⟨u, hu, h1, hR⟩ := hc j hj
      exact ⟨u, hu, h1, hR.ev E hR.sc⟩
    · rw [List.getElem?_set_ne (by omega)] at hkb
      obtain ⟨c1, e1, h1, h2, hs, h3, h4, h5⟩ := h.blk k blk hkb hd
      have hne : (ρ k).1 ≠ (ρ i).1 := by
        intro hh
        cases hkk : blk.kind with
        | own => exact hik (h.inj k i blk b hkb hb hkk hk hh)
        | ro => exact hnf (hh ▸ h4 hkk)
        | dead => exact hd hkk
      refine ⟨c1, e1, (other _ hne).trans h1, h2, hs, h3, h4, fun j hj => ?_⟩
      obtain ⟨u, hu, h1, hR⟩ := h5 j hj
      exact ⟨u, hu, h1, hR.ev E hR.sc⟩
  · intro p q bp bq hp hq kp kq he
    have aux : ∀ (p : Nat) (bp : ABlk), (σ.set i { b with cells := cs })[p]? = some bp → bp.kind = .own → ∃ b', σ[p]? = some b' ∧ b'.kind = .own := by
      intro p bp hp kp
      by_cases hpi : p = i
      · subst hpi; exact ⟨b, hb, hk⟩
      · rw [List.getElem?_set_ne (by omega)] at hp; exact ⟨bp, hp, kp⟩
    obtain ⟨b1, h1, k1⟩ := aux p bp hp kp
    obtain ⟨b2, h2, k2⟩ := aux q bq hq kq
    exact h.inj p q b1 b2 h1 h2 k1 k2 he
end

/-! ### A step that answers a value -/
def SemOK (P : Program) (w0 : World) (ρ : Nat → Nat × Nat) (fz : Nat → Prop) (σ : AHeap) (w : World) (s : Sem Value) (K : AV → AHeap → Prop) : Prop :=
  ∃ v w' ρ' fz' r σ', s.run P w = .ok v w' ∧ K r σ' ∧ HRel w0 ρ' fz' σ' w' ∧ R ρ' σ' fz' w' r v ∧ Ev w0 σ.length ρ σ fz w ρ' σ' fz' w'

section
variable {P : Program} {w0 : World} {ρ : Nat → Nat × Nat} {σ : AHeap} {fz : Nat → Prop} {w : World}

theorem SemOK.of_same {s : Sem Value} {K : AV → AHeap → Prop} {v : Value} {r : AV} (h : HRel w0 ρ fz σ w) (hs : s.run P w = .ok v w) (hR : R ρ σ fz w r v) (hK : K r σ) :
    SemOK P w0 ρ fz σ w s K := ⟨v, w, ρ, fz, r, σ, hs, hK, h, hR, Ev.refl _ _ _ _ (Nat.le_refl _)⟩

/-! ### Types -/
def szT (P : Program) (t : TypeId) : Option Nat := (P.info? t).map (·.size)
def isAggD : TypeDesc → Bool
  | .struct _ | .array _ _ => true
  | _ => false
def aggT (P : Program) (t : TypeId) : Option Bool := (P.underlying t).map isAggD

theorem run_szT {t : TypeId} {n : Nat} (h : szT P t = some n) (w : World) : (sizeOf t).run P w = .ok n w := by
  obtain ⟨i, hi, rfl⟩ := Option.map_eq_some_iff.1 h
  simp [sizeOf, typeInfo, hi]
theorem run_aggT {t : TypeId} {b : Bool} (h : aggT P t = some b) (w : World) : (isAgg t).run P w = .ok b w := by
  obtain ⟨d, hd, rfl⟩ := Option.map_eq_some_iff.1 h
  cases d <;> simp [isAgg, run_underlying hd, isAggD]

/-! ### load -/
def aRead (P : Program) (t : TypeId) (cs : List AV) (off : Nat) (K : AV → Prop) : Prop :=
  match aggT P t with
  | some true => match szT P t with
    | some n => off + n ≤ cs.length ∧ K (.agg ((cs.drop off).take n))
    | none => False
  | some false => match cs[off]? with
    | some x => K x
    | none => False
  | none => False

def aLoad (P : Program) (t : TypeId) (x : AV) (σ : AHeap) (K : AV → AHeap → Prop) : Prop :=
  match x with
  | .po i ver off => match σ[i]? with
    | some b => b.ver = ver ∧ b.kind ≠ .dead ∧ aRead P t b.cells off (fun r => K r σ)
    | none => False
  | .pp cs off => aRead P t cs off (fun r => K r σ)
  | _ => False

theorem loadVar_ok {t : TypeId} {cs : List AV} {off b o : Nat} {us : Nat → Value} {K : AV → Prop} {Rr : AV → Value → Prop}
    (hcell : ∀ j, j < cs.length → w.cell? ⟨b, o + j, none⟩ = some (us j)) (h1 : ∀ j, j < cs.length → (us j).oneCell' = true)
    (hR : ∀ j (h : j < cs.length), Rr cs[j] (us j))
    (hagg : ∀ (l : List AV) (arr : Array Value), arr.size = l.length → (∀ j, j < l.length → (arr.getD j undef).oneCell' = true) → (∀ j (h : j < l.length), Rr l[j] (arr.getD j undef)) → Rr (.agg l) (.agg arr))
    (hK : aRead P t cs off K) : ∃ v r, (loadVar t ⟨b, o + off, none⟩).run P w = .ok v w ∧ K r ∧ Rr r v := by
  unfold aRead at hK
  split at hK
  · rename_i ha
    split at hK
    · rename_i n hn
      obtain ⟨hle, hK⟩ := hK
      refine ⟨.agg ((List.range n).map fun j => us (off + j)).toArray, _, ?_, hK, ?_⟩
      · have hl := run_loadCells (P := P) w ⟨b, o + off, none⟩ n (fun j => us (off + j)) (fun j hj => by
          have := hcell (off + j) (by omega)
          unfold Addr.add; split
          · rename_i h0; subst h0; simpa using this
          · simpa [Nat.add_assoc] using this)
        simp [loadVar, run_aggT ha, run_szT hn, hl]
      · have hg : ∀ j, j < n → (((List.range n).map fun j => us (off + j)).toArray.getD j undef) = us (off + j) := fun j hj => by
          simp [Array.getD, hj]
        refine hagg _ _ (by simp; omega) (fun j hj => ?_) (fun j hj => ?_)
        · simp at hj; rw [hg j (by omega)]; exact h1 _ (by omega)
        · simp at hj; rw [hg j (by omega)]
          have := hR (off + j) (by omega)
          simpa using this
    · exact hK.elim
  · rename_i ha
    split at hK
    · rename_i x hx
      have hlt := (List.getElem?_eq_some_iff.1 hx).1
      refine ⟨us off, x, ?_, hK, ?_⟩
      · simp [loadVar, run_aggT ha, hcell off hlt]
      · have := hR off hlt
        rwa [(List.getElem?_eq_some_iff.1 hx).2] at this
    · exact hK.elim
  · exact hK.elim

theorem load_same (h : HRel w0 ρ fz σ w) {t : TypeId} {x : AV} {v : Value} (hx : R ρ σ fz w x v) {K : AV → AHeap → Prop} (hK : aLoad P t x σ K) :
    ∃ (ad : Addr) (u : Value) (r : AV), v = .pointer (some ad) ∧ (loadVar t ad).run P w = .ok u w ∧ R ρ σ fz w r u ∧ K r σ := by
  unfold aLoad at hK
  split at hK
  · rename_i i ver off
    split at hK
    · rename_i b hb
      obtain ⟨hv, hd, hK⟩ := hK
      obtain ⟨blk, hb', hle, _, hval⟩ := hx.po_inv
      rw [hb] at hb'; cases hb'
      have hval := hval hv hd
      subst hval
      obtain ⟨cells, e, hw, hbase, _, _, _, hc⟩ := h.blk i b hb hd
      have hcx : ∀ j, j < b.cells.length → w.cell? ⟨(ρ i).1, (ρ i).2 + j, none⟩ = some (cells.getD ((ρ i).2 + j) undef) := fun j hj => by
        obtain ⟨u, hu, _, _⟩ := hc j hj
        obtain ⟨hlt, rfl⟩ := Array.getElem?_eq_some_iff.1 hu
        simp [World.cell?, hw, hlt, Array.getD]
      obtain ⟨v, r, hrun, hK, hR⟩ := loadVar_ok (P := P) (Rr := R ρ σ fz w) hcx
        (fun j hj => by obtain ⟨u, hu, h1, _⟩ := hc j hj; obtain ⟨hlt, rfl⟩ := Array.getElem?_eq_some_iff.1 hu; simpa [Array.getD, hlt] using h1)
        (fun j hj => by obtain ⟨u, hu, _, hR⟩ := hc j hj; obtain ⟨hlt, rfl⟩ := Array.getElem?_eq_some_iff.1 hu; simpa [Array.getD, hlt] using hR)
        (fun l arr h1 h2 h3 => .agg l arr h1 h2 h3) hK
      exact ⟨_, _, _, rfl, hrun, hR, hK⟩
    · exact hK.elim
  · rename_i cs off
    obtain ⟨b, o, us, rfl, hfz, hcell, h1, hR⟩ := hx.pp_inv
    obtain ⟨v, r, hrun, hK, hR⟩ := loadVar_ok (P := P) (Rr := Rp fz w) hcell h1 hR (fun l arr h1 h2 h3 => .agg l arr h1 h2 h3) hK
    exact ⟨_, _, _, rfl, hrun, .pure _ _ hR, hK⟩
  · exact hK.elim

theorem load_ok (h : HRel w0 ρ fz σ w) {t : TypeId} {x : AV} {v : Value} (hx : R ρ σ fz w x v) {K : AV → AHeap → Prop} (hK : aLoad P t x σ K) :
    SemOK P w0 ρ fz σ w (Instr.loadAt t v) K := by
  obtain ⟨ad, u, r, rfl, hr, hR, hK⟩ := load_same (P := P) h hx hK
  exact SemOK.of_same h (by simp [Instr.loadAt, Instr.sureAddr, hr]) hR hK

/-! ### store -/
def cellsOf : AV → Option (List AV)
  | .agg cs => some cs
  | x => if x.one then some [x] else none

def wr : List AV → Nat → List AV → List AV
  | cs, _, [] => cs
  | cs, off, y :: ys => wr (cs.set off y) (off + 1) ys

theorem wr_length (ys : List AV) : ∀ (cs : List AV) (off : Nat), (wr cs off ys).length = cs.length := by
  induction ys with
  | nil => intro cs off; rfl
  | cons y ys ih => intro cs off; simp [wr, ih]
theorem wr_get (ys : List AV) : ∀ (cs : List AV) (off j : Nat), off + ys.length ≤ cs.length → (wr cs off ys)[j]? = if off ≤ j ∧ j < off + ys.length then ys[j - off]? else cs[j]? := by
  induction ys with
  | nil => intro cs off j _; simp [wr]; omega
  | cons y ys ih =>
    intro cs off j hl
    simp at hl
    rw [wr, ih _ _ _ (by simp; omega)]
    by_cases h1 : off + 1 ≤ j ∧ j < off + 1 + ys.length
    · rw [if_pos h1, if_pos (by simp; omega)]
      have : j - off = (j - (off + 1)) + 1 := by omega
      rw [this]; simp
    · rw [if_neg h1]
      by_cases h2 : j = off
      · subst h2
        rw [if_pos (by simp), List.getElem?_set_self (by omega)]
        simp
      · rw [List.getElem?_set_ne (by omega), if_neg (by simp; omega)]

theorem cellsOf_ok {x : AV} {v : Value} {ys : List AV} (h : cellsOf x = some ys) (hx : R ρ σ fz w x v) :
    v.cells.size = ys.length ∧ (∀ j, j < ys.length → (v.cells.getD j undef).oneCell' = true) ∧ ∀ j (hj : j < ys.length), R ρ σ fz w ys[j] (v.cells.getD j undef) := by
  have one : (∀ l, x ≠ .agg l) → v.cells.size = ys.length ∧ (∀ j, j < ys.length → (v.cells.getD j undef).oneCell' = true) ∧ ∀ j (hj : j < ys.length), R ρ σ fz w ys[j] (v.cells.getD j undef) := by
    intro hne
    have h' : (if x.one then some [x] else none) = some ys := by
      cases x <;> first | exact absurd rfl (hne _) | exact h
    split at h'
    · rename_i ho
      cases h'
      have h1 := hx.one ho
      have hc : v.cells = #[v] := by cases v <;> first | rfl | cases h1
      rw [hc]
      refine ⟨rfl, fun j hj => ?_, fun j hj => ?_⟩ <;> (simp at hj; subst hj; simpa [Array.getD] using ‹_›)
    · cases h'
  cases x with
  | agg cs =>
    cases h
    obtain ⟨arr, rfl, hl, h1, hR⟩ := hx.agg_inv
    exact ⟨hl, h1, hR⟩
  | _ => exact one (by intro l hl; cases hl)

def aStore (P : Program) (t : TypeId) (x y : AV) (σ : AHeap) (K : AHeap → Prop) : Prop :=
  match x with
  | .po i ver off => match σ[i]? with
    | some b => b.ver = ver ∧ b.kind = .own ∧ match cellsOf y with
      | some ys => szT P t = some ys.length ∧ off + ys.length ≤ b.cells.length ∧ K (σ.set i { b with cells := wr b.cells off ys })
      | none => False
    | none => False
  | _ => False

theorem setRow_eq (w : World) (g : Nat) (cells cells' : Array Value) (e : TypeId) (hg : w.heap[g]? = some (.cells cells e (0, 0))) :
    w.setRow g cells' = { w with heap := w.heap.setIfInBounds g (.cells cells' e (0, 0)) } := by
  obtain ⟨hlt, hh⟩ := Array.getElem?_eq_some_iff.1 hg
  unfold World.setRow
  congr 1
  apply Array.ext (by simp)
  intro j h1 h2
  simp only [Array.size_modify] at h1
  rw [Array.getElem_modify, Array.getElem_setIfInBounds (by simpa using h1)]
  split
  · rename_i h; subst h; rw [hh]
  · rfl

theorem storeCells_ok (h : HRel w0 ρ fz σ w) {i off : Nat} {b : ABlk} (hb : σ[i]? = some b) (hk : b.kind = .own) (vs : List Value) (ys : List AV) (hl : vs.length = ys.length)
    (h1 : ∀ j, j < ys.length → (vs.getD j undef).oneCell' = true) (hR : ∀ j (hj : j < ys.length), R ρ σ fz w ys[j] (vs.getD j undef)) (hoff : off + ys.length ≤ b.cells.length) :
    ∃ w', (storeCells ⟨(ρ i).1, (ρ i).2 + off, none⟩ vs).run P w = .ok () w' ∧ HRel w0 ρ fz (σ.set i { b with cells := wr b.cells off ys }) w' ∧
      Ev w0 σ.length ρ σ fz w ρ (σ.set i { b with cells := wr b.cells off ys }) fz w' := by
  obtain ⟨cells, e, hw, hbase, hlen, hnf, _, hc⟩ := h.blk i b hb (by rw [hk]; decide)
  have hsz : (ρ i).2 + (off + ys.length) ≤ cells.size := by omega
  have hrun := run_storeCells_at (P := P) (ρ i).1 ((ρ i).2 + off) e vs 0 cells w hw (by omega) (fun v hv => by
    obtain ⟨j, hj, rfl⟩ := List.mem_iff_getElem.1 hv
    have := h1 j (by omega)
    simpa [List.getD, hj] using this)
  simp only [Nat.add_zero] at hrun
  rw [setRow_eq w _ cells _ e hw] at hrun
  refine ⟨_, hrun, h.write hb hk hw _ ?_ _ rfl ?_ ?_⟩
  · simp; omega
  · rw [wr_length]; simp; omega
  · intro j hj
    rw [wr_length] at hj
    have hg := wr_get ys b.cells off j hoff
    rw [List.getElem?_eq_getElem (by rw [wr_length]; exact hj)] at hg
    by_cases hin : off ≤ j ∧ j < off + ys.length
    · rw [if_pos hin, List.getElem?_eq_getElem (by omega)] at hg
      have e1 := Option.some.inj hg
      rw [e1]
      refine ⟨vs.getD (j - off) undef, ?_, h1 _ (by omega), hR _ (by omega)⟩
      have hm : min ((ρ i).2 + off) cells.size = (ρ i).2 + off := by omega
      simp only [List.getElem?_toArray, List.append_assoc]
      rw [List.getElem?_append_right (by simp; omega), List.getElem?_append_left (by simp; omega)]
      simp only [List.length_take, Array.length_toList, hm]
      rw [show (ρ i).2 + j - ((ρ i).2 + off) = j - off by omega]
      simp [List.getD, List.getElem?_eq_getElem (show j - off < vs.length by omega)]
    · rw [if_neg hin, List.getElem?_eq_getElem hj] at hg
      have e1 := Option.some.inj hg
      rw [e1]
      obtain ⟨u, hu, h2, h3⟩ := hc j hj
      refine ⟨u, ?_, h2, h3⟩
      have hm : min ((ρ i).2 + off) cells.size = (ρ i).2 + off := by omega
      simp only [List.getElem?_toArray, List.append_assoc]
      rcases Nat.lt_or_ge j off with hlt | hge
      · rw [List.getElem?_append_left (by simp; omega), List.getElem?_take_of_lt (by omega)]
        simpa using hu
      · rw [List.getElem?_append_right (by simp; omega), List.getElem?_append_right (by simp; omega)]
        simp only [List.length_take, Array.length_toList, hm, List.getElem?_drop]
        rw [show (ρ i).2 + off + vs.length + ((ρ i).2 + j - ((ρ i).2 + off) - vs.length) = (ρ i).2 + j by omega]
        simpa using hu
end
end Go.Proofs.Va
/- VA, part 3: new variables, structs and slices; addresses; lengths; cuts. -/
set_option linter.unusedVariables false
set_option linter.unusedSimpArgs false
namespace Go.Proofs.Va
open Go Go.RowKit

section
variable {P : Program} {w0 : World} {ρ : Nat → Nat × Nat} {σ : AHeap} {fz : Nat → Prop} {w : World}

/-! ### Zero values -/
def cav1 : Value → AV
  | .slice none 0 0 => .pl true [] 0 (some 0)
  | v => .v v
theorem cav1_ok (v : Value) : Rp fz w (cav1 v) v := by
  unfold cav1
  split
  · exact .pl true [] 0 (some 0) none 0 0 0 (fun _ => undef) rfl (fun _ => rfl) (Nat.le_refl _) (fun k hk => by cases hk; rfl) (fun h => by simp at h) (fun h => by simp at h) (fun j hj => by simp at hj) (fun j hj => by simp at hj) (fun j hj => by simp at hj) (fun k _ h => by simp at h)
  · exact .v _

/-- The cells of a type's zero value. -/
def zcT (P : Program) (t : TypeId) : Option (List AV) :=
  match (P.info? t).bind (·.zero) with
  | some z => if z.cells.all (·.oneCell') then some (z.cells.toList.map cav1) else none
  | none => none

theorem zcT_ok {t : TypeId} {cs : List AV} (h : zcT P t = some cs) : ∃ z, (∀ w : World, (zeroValue t).run P w = .ok z w) ∧ z.cells.size = cs.length ∧
    (∀ j, j < cs.length → (z.cells.getD j undef).oneCell' = true) ∧ ∀ (fz : Nat → Prop) (w : World) j (hj : j < cs.length), Rp fz w cs[j] (z.cells.getD j undef) := by
  unfold zcT at h
  split at h
  · rename_i z hz
    split at h
    · rename_i hall
      cases h
      obtain ⟨i, hi, hz⟩ := Option.bind_eq_some_iff.1 hz
      refine ⟨z, fun w => by simp [zeroValue, typeInfo, hi, hz], by simp, fun j hj => ?_, fun fz w j hj => ?_⟩
      · simp at hj
        have := Array.all_eq_true.1 hall j hj
        simpa [Array.getD, hj] using this
      · simp at hj
        simpa [Array.getD, hj] using cav1_ok (fz := fz) (w := w) z.cells[j]
    · cases h
  · cases h

theorem get_of_getD {arr : Array Value} {j : Nat} (h : j < arr.size) : arr[j]? = some (arr.getD j undef) := by simp [Array.getD, h]

/-- A pointer to the block that has just been pushed. -/
theorem R.new (cs : List AV) (w' : World) (hs : w.heap.size < w'.heap.size) (off : Nat) :
    R (upd ρ σ.length (w.heap.size, 0)) (σ ++ [⟨.own, 0, cs⟩]) fz w' (.po σ.length 0 off) (.pointer (some ⟨w.heap.size, off, none⟩)) :=
  .po _ _ _ ⟨.own, 0, cs⟩ _ (get_append_self _ _) (Nat.le_refl _) rfl (fun _ _ => by rw [upd_same]; simp)

theorem newRow_ok (h : HRel w0 ρ fz σ w) (cs : List AV) (arr : Array Value) (e : TypeId) (hsz : cs.length ≤ arr.size)
    (h1 : ∀ j, j < cs.length → (arr.getD j undef).oneCell' = true) (hR : ∀ j (hj : j < cs.length), R ρ σ fz w cs[j] (arr.getD j undef)) :
    HRel w0 (upd ρ σ.length (w.heap.size, 0)) fz (σ ++ [⟨.own, 0, cs⟩]) (w.alloc (.cells arr e)) ∧
    Ev w0 σ.length ρ σ fz w (upd ρ σ.length (w.heap.size, 0)) (σ ++ [⟨.own, 0, cs⟩]) fz (w.alloc (.cells arr e)) :=
  h.push cs arr e hsz fun j hj => ⟨_, get_of_getD (by omega), h1 j hj, hR j hj⟩

def aAlloc (P : Program) (t : TypeId) (σ : AHeap) (K : AV → AHeap → Prop) : Prop :=
  match zcT P t with
  | some cs => K (.po σ.length 0 0) (σ ++ [⟨.own, 0, cs⟩])
  | none => False

theorem alloc_ok (h : HRel w0 ρ fz σ w) {t : TypeId} {K : AV → AHeap → Prop} (hK : aAlloc P t σ K) : SemOK P w0 ρ fz σ w (Instr.alloc t true (.tuple #[])) K := by
  unfold aAlloc at hK
  split at hK
  · rename_i cs hcs
    obtain ⟨z, hz, hsz, h1, hR⟩ := zcT_ok hcs
    obtain ⟨hn, hE⟩ := newRow_ok h cs z.cells t (by omega) h1 (fun j hj => .pure _ _ (hR fz w j hj))
    exact ⟨_, _, _, _, _, _, by simp [Instr.alloc, hz, newVar, newRow], hK, hn, R.new cs _ (by simp) 0, hE⟩
  · exact hK.elim

/-! ### A block at a place of its own: allocations that may change places -/
def deadB : ABlk := ⟨.dead, 0, []⟩
def freeAt (σ : AHeap) (j : Nat) : Prop := ∀ b, σ[j]? = some b → b = deadB
def putA (σ : AHeap) (j : Nat) (b : ABlk) : AHeap := if j < σ.length then σ.set j b else σ ++ (List.replicate (j - σ.length) deadB ++ [b])

theorem putA_get (σ : AHeap) (j : Nat) (b : ABlk) (i : Nat) : (putA σ j b)[i]? = if i = j then some b else if i < σ.length then σ[i]? else if i < j then some deadB else none := by
  unfold putA
  by_cases hj : j < σ.length
  · rw [if_pos hj]
    by_cases hi : i = j
    · subst hi; rw [if_pos rfl, List.getElem?_set_self hj]
    · rw [if_neg hi, List.getElem?_set_ne (by omega)]
      by_cases hl : i < σ.length
      · rw [if_pos hl]
      · rw [if_neg hl, if_neg (by omega), List.getElem?_eq_none (by omega)]
  · rw [if_neg hj]
    by_cases hl : i < σ.length
    · rw [if_neg (by omega), if_pos hl, List.getElem?_append_left hl]
    · rw [List.getElem?_append_right (by omega), if_neg hl]
      by_cases hi : i = j
      · subst hi
        rw [if_pos rfl, List.getElem?_append_right (by simp)]
        simp
      · rw [if_neg hi]
        by_cases hij : i < j
        · rw [if_pos hij, List.getElem?_append_left (by simp; omega), List.getElem?_replicate, if_pos (by omega)]
        · rw [if_neg hij, List.getElem?_eq_none (by simp; omega)]
theorem putA_len (σ : AHeap) (j : Nat) (b : ABlk) : (putA σ j b).length = max σ.length (j + 1) := by
  unfold putA
  split
  · simp; omega
  · simp; omega
theorem freeAt_put {σ : AHeap} {j k : Nat} (h : j ≠ k) (b : ABlk) : freeAt (putA σ k b) j ↔ freeAt σ j := by
  unfold freeAt
  rw [putA_get, if_neg h]
  by_cases hl : j < σ.length
  · rw [if_pos hl]
  · rw [if_neg hl, List.getElem?_eq_none (by omega)]
    constructor
    · intro _ b hb; cases hb
    · intro _ b hb
      split at hb
      · cases hb; rfl
      · cases hb
theorem putA_comm {σ : AHeap} {j k : Nat} (h : j ≠ k) (b c : ABlk) : putA (putA σ k c) j b = putA (putA σ j b) k c := by
  apply List.ext_getElem?
  intro i
  rw [putA_get, putA_get, putA_get, putA_get, putA_len, putA_len]
  by_cases h1 : i = j
  · subst h1
    rw [if_pos rfl, if_neg h, if_pos (by omega), if_pos rfl]
  · rw [if_neg h1]
    by_cases h2 : i = k
    · subst h2
      rw [if_pos rfl, if_pos (by omega), if_pos rfl]
    · simp only [h1, h2, if_false]
      (repeat' split) <;> first | rfl | (exfalso; omega)

/-- A new block at a free place. -/
theorem HRel.fill (h : HRel w0 ρ fz σ w) {p : Nat} (hp : freeAt σ p) (cs : List AV) (arr : Array Value) (e : TypeId)
    (hsz : cs.length ≤ arr.size) (hc : ∀ j (hj : j < cs.length), ∃ u, arr[j]? = some u ∧ u.oneCell' = true ∧ R ρ σ fz w cs[j] u) :
    HRel w0 (upd ρ p (w.heap.size, 0)) fz (putA σ p ⟨.own, 1, cs⟩) (w.alloc (.cells arr e)) ∧
    Ev w0 σ.length ρ σ fz w (upd ρ p (w.heap.size, 0)) (putA σ p ⟨.own, 1, cs⟩) fz (w.alloc (.cells arr e)) := by
  have hle := h.le
  have old : ∀ k, k < w.heap.size → (w.alloc (.cells arr e)).heap[k]? = w.heap[k]? := fun k hk => Below.heap_alloc w _ k hk
  have new : (w.alloc (.cells arr e)).heap[w.heap.size]? = some (.cells arr e (0, 0)) := World.alloc_heap_new w _
  have lt : ∀ {k : Nat} {o : Obj}, w.heap[k]? = some o → k < w.heap.size := fun hk => (Array.getElem?_eq_some_iff.1 hk).1
  have E : Ev w0 σ.length ρ σ fz w (upd ρ p (w.heap.size, 0)) (putA σ p ⟨.own, 1, cs⟩) fz (w.alloc (.cells arr e)) := by
    refine ⟨Nat.le_refl _, by rw [putA_len]; omega, ?_, fun _ h => h, fun _ h => .inl h, fun k hk => old k (h.fzlt k hk), by simp, fun k o hk _ => (old k (lt hk)).trans hk, fun k c e' fr hk => ⟨c, fr, (old k (lt hk)).trans hk, rfl⟩⟩
    intro i hi b b' hb hb'
    rw [putA_get] at hb'
    by_cases hip : i = p
    · subst hip
      rw [if_pos rfl] at hb'
      cases hb'
      have := hp b hb
      subst this
      exact ⟨Nat.zero_le _, fun hv => by cases hv⟩
    · rw [if_neg hip, if_pos hi, hb] at hb'
      cases hb'
      exact ⟨Nat.le_refl _, fun _ hd => ⟨hd, upd_other hip⟩⟩
  refine ⟨⟨h.below.alloc hle _, ⟨fun k hk => by have := h.fzlt k hk; simp; omega, h.fzlt.gl.keep E.fzm E.fzs⟩, ?_, ?_⟩, E⟩
  · intro i blk hb hd
    rw [putA_get] at hb
    by_cases hip : i = p
    · subst hip
      rw [if_pos rfl] at hb
      cases hb
      rw [upd_same]
      refine ⟨arr, e, new, hle, by simpa using hsz, (fun _ hf => by have := h.fzlt _ hf; simp at this), (fun hk => by simp at hk), fun j hj => ?_⟩
      obtain ⟨u, hu, h1, hR⟩ := hc j hj
      exact ⟨u, by simpa using hu, h1, hR.ev E hR.sc⟩
    · rw [if_neg hip] at hb
      by_cases hl : i < σ.length
      · rw [if_pos hl] at hb
        obtain ⟨cells, el, h1, h2, hs, h3, h4, h5⟩ := h.blk i blk hb hd
        have hr : upd ρ p (w.heap.size, 0) i = ρ i := upd_other hip
        rw [hr]
        refine ⟨cells, el, (old _ (lt h1)).trans h1, h2, hs, h3, h4, fun j hj => ?_⟩
        obtain ⟨u, hu, h1, hR⟩ := h5 j hj
        exact ⟨u, hu, h1, hR.ev E hR.sc⟩
      · rw [if_neg hl] at hb
        split at hb
        · cases hb; exact absurd rfl hd
        · cases hb
  · intro i j bi bj hi hj ki kj he
    have key : ∀ (i : Nat) (bi : ABlk), (putA σ p ⟨.own, 1, cs⟩)[i]? = some bi → bi.kind = .own → i = p ∨ (i ≠ p ∧ σ[i]? = some bi) := by
      intro i bi hi ki
      rw [putA_get] at hi
      by_cases hip : i = p
      · exact .inl hip
      · rw [if_neg hip] at hi
        by_cases hl : i < σ.length
        · rw [if_pos hl] at hi; exact .inr ⟨hip, hi⟩
        · rw [if_neg hl] at hi
          split at hi
          · cases hi; cases ki
          · cases hi
    rcases key i bi hi ki with h1 | ⟨h1, h2⟩ <;> rcases key j bj hj kj with h3 | ⟨h3, h4⟩
    · omega
    · subst h1
      rw [upd_same, upd_other h3] at he
      obtain ⟨_, _, h5, _, _⟩ := h.blk j bj h4 (by rw [kj]; decide)
      have := lt h5; simp at he; omega
    · subst h3
      rw [upd_other h1, upd_same] at he
      obtain ⟨_, _, h5, _, _⟩ := h.blk i bi h2 (by rw [ki]; decide)
      have := lt h5; simp at he; omega
    · rw [upd_other h1, upd_other h3] at he
      exact h.inj i j bi bj h2 h4 ki kj he

def aAllocAt (P : Program) (t : TypeId) (p : Nat) (σ : AHeap) (K : AV → AHeap → Prop) : Prop :=
  match zcT P t with
  | some cs => freeAt σ p ∧ K (.po p 1 0) (putA σ p ⟨.own, 1, cs⟩)
  | none => False

theorem allocAt_ok (h : HRel w0 ρ fz σ w) {t : TypeId} {p : Nat} {K : AV → AHeap → Prop} (hK : aAllocAt P t p σ K) : SemOK P w0 ρ fz σ w (Instr.alloc t true (.tuple #[])) K := by
  unfold aAllocAt at hK
  split at hK
  · rename_i cs hcs
    obtain ⟨hp, hK⟩ := hK
    obtain ⟨z, hz, hsz, h1, hR⟩ := zcT_ok hcs
    obtain ⟨hn, hE⟩ := h.fill hp cs z.cells t (by omega) fun j hj => ⟨_, get_of_getD (by omega), h1 j hj, .pure _ _ (hR fz w j hj)⟩
    exact ⟨.pointer (some ⟨w.heap.size, 0, none⟩), w.alloc (.cells z.cells t), _, _, _, _, by simp [Instr.alloc, hz, newVar, newRow], hK, hn,
      .po _ _ _ ⟨.own, 1, cs⟩ _ (by rw [putA_get, if_pos rfl]) (Nat.le_refl _) rfl (fun _ _ => by rw [upd_same]), hE⟩
  · exact hK.elim

def aBox (x : AV) (σ : AHeap) (K : AV → AHeap → Prop) : Prop :=
  match cellsOf x with
  | some cs => K (.po σ.length 0 0) (σ ++ [⟨.own, 0, cs⟩])
  | none => False

theorem box_ok (h : HRel w0 ρ fz σ w) {t : TypeId} {x : AV} {v : Value} (hx : R ρ σ fz w x v) {K : AV → AHeap → Prop} (hK : aBox x σ K) : SemOK P w0 ρ fz σ w (Instr.box t v) K := by
  unfold aBox at hK
  split at hK
  · rename_i cs hcs
    obtain ⟨hsz, h1, hR⟩ := cellsOf_ok hcs hx
    obtain ⟨hn, hE⟩ := newRow_ok h cs v.cells t (by omega) h1 hR
    exact ⟨_, _, _, _, _, _, by simp [Instr.box, newVar, newRow], hK, hn, R.new cs _ (by simp) 0, hE⟩
  · exact hK.elim

/-! ### Structs, arrays and slices that are written out -/
def placesT (P : Program) (t : TypeId) : Option (List (Nat × Nat)) :=
  match P.underlying t with
  | some (.struct fields) => fields.toList.mapM (fun f => (P.info? f.type).map fun i => (f.offset, i.size))
  | some (.array n e) => (P.info? e).map fun i => (List.range n).map fun k => (k * i.size, i.size)
  | _ => none

def afill (ps : List (Nat × Nat)) : List AV → List (Nat × AV) → Option (List AV)
  | cs, [] => some cs
  | cs, (i, x) :: rest =>
    match ps[i]?, cellsOf x with
    | some (off, sz), some ys => if ys.length = sz ∧ off + sz ≤ cs.length then afill ps (wr cs off ys) rest else none
    | _, _ => none

theorem afill_length (ps : List (Nat × Nat)) : ∀ (parts : List (Nat × AV)) (cs cs' : List AV), afill ps cs parts = some cs' → cs'.length = cs.length
  | [], cs, cs', h => by cases h; rfl
  | (i, x) :: rest, cs, cs', h => by
    simp only [afill] at h
    split at h
    · split at h
      · rw [afill_length ps rest _ _ h, wr_length]
      · cases h
    · cases h

theorem foldl_zipIdx_set (vs : List Value) : ∀ (cells : Array Value) (off k : Nat) (j : Nat), off + k + vs.length ≤ cells.size →
    ((vs.zipIdx k).foldl (fun cs x => cs.setIfInBounds (off + x.2) x.1) cells)[j]? = if off + k ≤ j ∧ j < off + k + vs.length then vs[j - (off + k)]? else cells[j]? := by
  induction vs with
  | nil => intro cells off k j _; simp; omega
  | cons v vs ih =>
    intro cells off k j hl
    simp at hl
    simp only [List.zipIdx_cons, List.foldl_cons]
    rw [ih _ _ _ _ (by simp; omega)]
    by_cases h1 : off + (k + 1) ≤ j ∧ j < off + (k + 1) + vs.length
    · rw [if_pos h1, if_pos (by simp; omega)]
      rw [show j - (off + k) = (j - (off + (k + 1))) + 1 by omega]; simp
    · rw [if_neg h1]
      by_cases h2 : j = off + k
      · subst h2
        rw [if_pos (by simp), Array.getElem?_setIfInBounds]
        simp; omega
      · rw [Array.getElem?_setIfInBounds, if_neg (by omega), if_neg (by simp; omega)]
theorem foldl_zipIdx_size (vs : List Value) : ∀ (cells : Array Value) (off k : Nat),
    ((vs.zipIdx k).foldl (fun cs x => cs.setIfInBounds (off + x.2) x.1) cells).size = cells.size := by
  induction vs with
  | nil => intro cells off k; rfl
  | cons v vs ih => intro cells off k; simp only [List.zipIdx_cons, List.foldl_cons]; rw [ih]; simp

theorem fill_ok (ps : List (Nat × Nat)) (place : Nat → Option (Nat × Nat)) (hp : ∀ i x, ps[i]? = some x → place i = some x) :
    ∀ (parts : List (Nat × AV)) (vparts : List (Nat × Value)) (cs cs' : List AV) (cells : Array Value),
      vparts.length = parts.length → (∀ (j : Nat) (p : Nat × AV) (q : Nat × Value), parts[j]? = some p → vparts[j]? = some q → q.1 = p.1 ∧ R ρ σ fz w p.2 q.2) →
      cells.size = cs.length → (∀ j, j < cs.length → (cells.getD j undef).oneCell' = true) → (∀ j (hj : j < cs.length), R ρ σ fz w cs[j] (cells.getD j undef)) →
      afill ps cs parts = some cs' →
      ∃ cells', Instr.fill place cells vparts = some cells' ∧ cells'.size = cs'.length ∧ (∀ j, j < cs'.length → (cells'.getD j undef).oneCell' = true) ∧
        ∀ j (hj : j < cs'.length), R ρ σ fz w cs'[j] (cells'.getD j undef)
  | [], vparts, cs, cs', cells, hl, _, hsz, h1, hR, hf => by
    cases hf
    have : vparts = [] := List.eq_nil_of_length_eq_zero hl
    subst this
    exact ⟨cells, rfl, hsz, h1, hR⟩
  | (i, x) :: rest, vparts, cs, cs', cells, hl, hparts, hsz, h1, hR, hf => by
    cases vparts with
    | nil => simp at hl
    | cons q vrest =>
      obtain ⟨qi, v⟩ := q
      obtain ⟨he, hx⟩ := hparts 0 (i, x) (qi, v) rfl rfl
      dsimp only at he hx
      subst he
      simp only [afill] at hf
      split at hf
      · rename_i off sz ys hpl hys
        split at hf
        · rename_i hc
          obtain ⟨hc1, hc2⟩ := hc
          obtain ⟨hvs, hv1, hvR⟩ := cellsOf_ok hys hx
          subst hc1
          have hcond : ¬ (v.cells.size ≠ ys.length || decide (off + v.cells.size > cells.size)) = true := by
            simp; omega
          simp only [Instr.fill, hp _ _ hpl]
          rw [if_neg (by simpa using hcond)]
          have hz : (v.cells.zipIdx.foldl (fun cs x => cs.setIfInBounds (off + x.2) x.1) cells) = ((v.cells.toList.zipIdx 0).foldl (fun cs x => cs.setIfInBounds (off + x.2) x.1) cells) := by
            rw [← Array.foldl_toList, Array.toList_zipIdx]
          have hg := fun j => foldl_zipIdx_set v.cells.toList cells off 0 j (by simp; omega)
          have hsz2 := foldl_zipIdx_size v.cells.toList cells off 0
          rw [← hz] at hsz2
          simp only [← hz] at hg
          have key : ∀ j (hj : j < (wr cs off ys).length), ((v.cells.zipIdx.foldl (fun cs x => cs.setIfInBounds (off + x.2) x.1) cells).getD j undef).oneCell' = true ∧
              R ρ σ fz w (wr cs off ys)[j] ((v.cells.zipIdx.foldl (fun cs x => cs.setIfInBounds (off + x.2) x.1) cells).getD j undef) := by
            intro j hj
            have hj' : j < cs.length := by rwa [wr_length] at hj
            have hw := wr_get ys cs off j hc2
            rw [List.getElem?_eq_getElem hj] at hw
            have hgj := hg j
            rw [get_of_getD (by rw [hsz2]; omega)] at hgj
            by_cases hin : off ≤ j ∧ j < off + ys.length
            · rw [if_pos hin, List.getElem?_eq_getElem (by omega)] at hw
              rw [if_pos (by simp; omega)] at hgj
              have e1 := Option.some.inj hw
              rw [e1]
              have e2 : (v.cells.zipIdx.foldl (fun cs x => cs.setIfInBounds (off + x.2) x.1) cells).getD j undef = v.cells.getD (j - off) undef := by
                rw [Nat.add_zero, Array.getElem?_toList, get_of_getD (by omega)] at hgj
                exact Option.some.inj hgj
              rw [e2]
              exact ⟨hv1 _ (by omega), hvR _ (by omega)⟩
            · rw [if_neg hin, List.getElem?_eq_getElem hj'] at hw
              rw [if_neg (by simp; omega), get_of_getD (by omega)] at hgj
              have e1 := Option.some.inj hw
              rw [e1, Option.some.inj hgj]
              exact ⟨h1 _ hj', hR _ hj'⟩
          exact fill_ok ps place hp rest vrest _ cs' _ (by simpa using hl) (fun j p q hp' hq' => hparts (j + 1) p q (by simpa using hp') (by simpa using hq'))
            (by rw [hsz2, wr_length]; exact hsz) (fun j hj => (key j hj).1) (fun j hj => (key j hj).2) hf
        · cases hf
      · cases hf

def aBuild (P : Program) (t : TypeId) (parts : List (Nat × AV)) (σ : AHeap) (K : AV → AHeap → Prop) : Prop :=
  match placesT P t, zcT P t with
  | some ps, some zs => match afill ps zs parts with
    | some cs => K (.agg cs) σ
    | none => False
  | _, _ => False

theorem build_ok (h : HRel w0 ρ fz σ w) {t : TypeId} {parts : List (Nat × AV)} {vparts : Array (Nat × Value)} (hl : vparts.size = parts.length)
    (hparts : ∀ (j : Nat) (p : Nat × AV) (q : Nat × Value), parts[j]? = some p → vparts[j]? = some q → q.1 = p.1 ∧ R ρ σ fz w p.2 q.2) {K : AV → AHeap → Prop}
    (hK : aBuild P t parts σ K) : SemOK P w0 ρ fz σ w (Instr.build t vparts) K := by
  unfold aBuild at hK
  split at hK
  · rename_i ps zs hps hzs
    split at hK
    · rename_i cs hcs
      have hzs' := hzs
      obtain ⟨z, hz, hzl, hz1, hzR⟩ := zcT_ok hzs
      have hfill := fun place hp => fill_ok (ρ := ρ) (σ := σ) (fz := fz) (w := w) ps place hp parts vparts.toList zs cs z.cells (by simpa using hl) (fun j p q hp hq => hparts j p q hp (by simpa using hq)) hzl hz1 (fun j hj => .pure _ _ (hzR fz w j hj)) hcs
      unfold placesT at hps
      split at hps
      · rename_i fields hu
        obtain ⟨cells', hf, hsz, h1, hR⟩ := hfill (fun i => ps[i]?) (fun i x hx => hx)
        refine SemOK.of_same h (v := .agg cells') ?_ (.agg _ _ hsz h1 hR) hK
        simp [Instr.build, run_underlying hu, hz, Array.mapM_eq_mapM_toList, run_places w _ _ hps, hf]
      · rename_i n e hu
        obtain ⟨i, hi, rfl⟩ := Option.map_eq_some_iff.1 hps
        obtain ⟨cells', hf, hsz, h1, hR⟩ := hfill (fun k => some (k * i.size, i.size)) (fun k x hx => by
          obtain ⟨hlt, hx⟩ := List.getElem?_eq_some_iff.1 hx
          simp at hlt hx; rw [← hx])
        refine SemOK.of_same h (v := .agg cells') ?_ (.agg _ _ hsz h1 hR) hK
        simp [Instr.build, run_underlying hu, hz, sizeOf, typeInfo, hi, hf]
      · cases hps
    · exact hK.elim
  · exact hK.elim

/-- What an element is: its type, the size of one, its bytes, the cells of its zero value. -/
structure ElT where
  sz : Nat
  bytes : Nat
  zero : List AV
def elT (P : Program) (t : TypeId) : Option (TypeId × ElT) :=
  match P.underlying t with
  | some (.slice e) => match P.info? e, zcT P e with
    | some i, some zs => if zs.length = i.size ∧ 0 < i.size then some (e, ⟨i.size, i.bytes, zs⟩) else none
    | _, _ => none
  | _ => none

theorem elT_ok {t e : TypeId} {x : ElT} (h : elT P t = some (e, x)) : P.underlying t = some (.slice e) ∧ ∃ i, P.info? e = some i ∧ i.size = x.sz ∧ i.bytes = x.bytes ∧ x.zero.length = x.sz ∧ 0 < x.sz ∧
    ∃ z, i.zero = some z ∧ (∀ w : World, (zeroValue e).run P w = .ok z w) ∧ z.cells.size = x.sz ∧ (∀ j, j < x.sz → (z.cells.getD j undef).oneCell' = true) ∧ ∀ (fz : Nat → Prop) (w : World) j (hj : j < x.zero.length), Rp fz w x.zero[j] (z.cells.getD j undef) := by
  unfold elT at h
  split at h
  · rename_i e' hu
    split at h
    · rename_i i zs hi hzs
      split at h
      · rename_i hc
        cases h
        obtain ⟨z, hz, hl, h1, hR⟩ := zcT_ok hzs
        have hz0 : i.zero = some z := by
          have := hz default
          simp only [zeroValue, typeInfo, Sem.run_bind, run_program, Result.andThen_ok, hi] at this
          cases hzz : i.zero with
          | none => simp [hzz] at this
          | some z' => simp [hzz] at this; rw [this]
        exact ⟨hu, i, hi, rfl, rfl, hc.1, hc.2, z, hz0, hz, by rw [hl, hc.1], fun j hj => h1 j (by rw [hc.1]; exact hj), hR⟩
      · cases h
    · cases h
  · cases h

/-- The zero value of an element, n times. -/
def reps (n : Nat) (cs : List AV) : List AV := (List.replicate n cs).flatten
theorem reps_length (n : Nat) (cs : List AV) : (reps n cs).length = n * cs.length := by simp [reps]
theorem reps_get (n : Nat) (cs : List AV) (hc : 0 < cs.length) (j : Nat) (hj : j < n * cs.length) : (reps n cs)[j]? = cs[j % cs.length]? := by
  induction n generalizing j with
  | zero => simp at hj
  | succ n ih =>
    have e : reps (n + 1) cs = cs ++ reps n cs := by simp [reps, List.replicate_succ]
    rw [e]
    rcases Nat.lt_or_ge j cs.length with h | h
    · rw [List.getElem?_append_left h, Nat.mod_eq_of_lt h]
    · rw [List.getElem?_append_right h, ih _ (by rw [Nat.succ_mul] at hj; omega)]
      rw [Nat.mod_eq_sub_mod h]

def aBuildSlice (P : Program) (t : TypeId) (len : Nat) (parts : List (Nat × AV)) (σ : AHeap) (K : AV → AHeap → Prop) : Prop :=
  match elT P t with
  | some (_, x) => len * x.sz ≤ 16777216 ∧ match afill ((List.range len).map fun k => (k * x.sz, x.sz)) (reps len x.zero) parts with
    | some cs => K (.so σ.length 0 0 len x.sz (some len)) (σ ++ [⟨.own, 0, cs⟩])
    | none => False
  | none => False

theorem R.newSlice (cs : List AV) (e : TypeId) (arr : Array Value) (off n c sz : Nat) (cap : Option Nat) (hn : n ≤ c) (hcap : ∀ k, cap = some k → c = k) (hroom : off + c * sz ≤ arr.size) :
    R (upd ρ σ.length (w.heap.size, 0)) (σ ++ [⟨.own, 0, cs⟩]) fz (w.alloc (.cells arr e)) (.so σ.length 0 off n sz cap) (.slice (some ⟨w.heap.size, off, none⟩) n c) := by
  refine .so _ _ _ _ _ _ ⟨.own, 0, cs⟩ _ (get_append_self _ _) (Nat.le_refl _) rfl (fun _ _ => ?_)
  rw [upd_same]
  exact ⟨_, c, rfl, hn, hcap, fun _ => by simp, arr, e, (0, 0), World.alloc_heap_new w _, by simpa using hroom⟩

theorem zeros_row {z : Value} {x : ElT} (hz : z.cells.size = x.sz) (hx : x.zero.length = x.sz) (h0 : 0 < x.sz) (h1 : ∀ j, j < x.sz → (z.cells.getD j undef).oneCell' = true)
    (hR : ∀ j (hj : j < x.zero.length), Rp fz w x.zero[j] (z.cells.getD j undef)) (n : Nat) :
    ((Array.range (n * x.sz)).map (z.cells[· % z.cells.size]!)).size = (reps n x.zero).length ∧
    (∀ j, j < (reps n x.zero).length → (((Array.range (n * x.sz)).map (z.cells[· % z.cells.size]!)).getD j undef).oneCell' = true) ∧
    ∀ j (hj : j < (reps n x.zero).length), Rp fz w (reps n x.zero)[j] (((Array.range (n * x.sz)).map (z.cells[· % z.cells.size]!)).getD j undef) := by
  have hg : ∀ j, j < n * x.sz → ((Array.range (n * x.sz)).map (z.cells[· % z.cells.size]!)).getD j undef = z.cells.getD (j % x.sz) undef := fun j hj => by
    have : j % x.sz < z.cells.size := by rw [hz]; exact Nat.mod_lt _ h0
    simp [Array.getD, hj, hz]
    rw [getElem!_pos z.cells (j % x.sz) this]
    simp [hz, Nat.mod_lt _ h0]
  have hl : (reps n x.zero).length = n * x.sz := by rw [reps_length, hx]
  refine ⟨by simp [hl], fun j hj => ?_, fun j hj => ?_⟩
  · rw [hg j (by omega)]; exact h1 _ (Nat.mod_lt _ h0)
  · rw [hg j (by omega)]
    have := reps_get n x.zero (by omega) j (by rw [hx]; omega)
    rw [List.getElem?_eq_getElem hj, List.getElem?_eq_getElem (by rw [hx]; exact Nat.mod_lt _ h0)] at this
    rw [Option.some.inj this]
    have := hR (j % x.zero.length) (by rw [hx]; exact Nat.mod_lt _ h0)
    simpa [hx] using this

theorem buildSlice_ok (h : HRel w0 ρ fz σ w) {t : TypeId} {len : Nat} {parts : List (Nat × AV)} {vparts : Array (Nat × Value)} (hl : vparts.size = parts.length)
    (hparts : ∀ (j : Nat) (p : Nat × AV) (q : Nat × Value), parts[j]? = some p → vparts[j]? = some q → q.1 = p.1 ∧ R ρ σ fz w p.2 q.2) {K : AV → AHeap → Prop}
    (hK : aBuildSlice P t len parts σ K) : SemOK P w0 ρ fz σ w (Instr.buildSlice t len vparts) K := by
  unfold aBuildSlice at hK
  split at hK
  · rename_i e x he
    obtain ⟨hsmall, hK⟩ := hK
    split at hK
    · rename_i cs hcs
      obtain ⟨hu, i, hi, hsz, hby, hzl, h0, z, hz0, hz, hzs, hz1, hzR⟩ := elT_ok he
      obtain ⟨q1, q2, q3⟩ := zeros_row (fz := fz) (w := w) hzs hzl h0 hz1 (hzR fz w) len
      obtain ⟨cells', hf, hs', h1, hR⟩ := fill_ok (ρ := ρ) (σ := σ) (fz := fz) (w := w) _ (fun k => some (k * x.sz, x.sz)) (fun k y hy => by
          obtain ⟨hlt, hx⟩ := List.getElem?_eq_some_iff.1 hy
          simp at hlt hx; rw [← hx]) parts vparts.toList _ cs _ (by simpa using hl) (fun j p q hp hq => hparts j p q hp (by simpa using hq)) q1 q2 (fun j hj => .pure _ _ (q3 j hj)) hcs
      obtain ⟨hn, hE⟩ := newRow_ok h cs cells' e (by omega) h1 hR
      have hlen : cs.length = len * x.sz := by rw [afill_length _ _ _ _ hcs, reps_length, hzl]
      refine ⟨_, _, _, _, _, _, ?_, hK, hn, R.newSlice cs e cells' 0 len len x.sz (some len) (Nat.le_refl _) (fun k hk => by cases hk; rfl) (by omega), hE⟩
      by_cases hzero : len * x.sz = 0
      · rw [hzero] at hf
        have e0 : Array.map (fun x => z.cells[x % z.cells.size]!) (Array.range 0) = #[] := Array.size_eq_zero_iff.1 (by simp)
        rw [e0] at hf
        have e1 : Array.map (fun _ => (default : Value)) (Array.range 0) = #[] := Array.size_eq_zero_iff.1 (by simp)
        simp [Instr.buildSlice, run_underlying hu, sizeOf, typeInfo, hi, hsz, hzero, newRow, e1, hf]
      · have hns : ¬ (16777216 < len * x.sz) := by omega
        simp [Instr.buildSlice, run_underlying hu, sizeOf, typeInfo, hi, hsz, hzero, hns, hz, hf, newRow]
    · exact hK.elim
  · exact hK.elim
end
end Go.Proofs.Va
/- VA, part 4: addresses, elements, cuts, made slices, tuples, interfaces. -/
set_option linter.unusedVariables false
set_option linter.unusedSimpArgs false
namespace Go.Proofs.Va
open Go Go.RowKit

theorem add_lit (b o k : Nat) : (⟨b, o, none⟩ : Addr).add k = ⟨b, o + k, none⟩ := by unfold Addr.add; split <;> simp_all

section
variable {P : Program} {w0 : World} {ρ : Nat → Nat × Nat} {σ : AHeap} {fz : Nat → Prop} {w : World}

/-! ### A field's address; a field -/
/-- A field: its type, its offset; none for a field without cells. -/
def fldT (P : Program) (s : TypeId) (f : Nat) : Option (TypeId × Nat) :=
  match P.underlying s with
  | some (.struct fields) => match fields[f]? with
    | some fl => match szT P fl.type with
      | some n => if n = 0 then none else some (fl.type, fl.offset)
      | none => none
    | none => none
  | _ => none

theorem fldT_ok {s : TypeId} {f : Nat} {t : TypeId} {o : Nat} (h : fldT P s f = some (t, o)) : ∃ (fields : Array Field) (fl : Field) (n : Nat), P.underlying s = some (.struct fields) ∧ fields[f]? = some fl ∧ szT P fl.type = some n ∧ n ≠ 0 ∧ fl.type = t ∧ fl.offset = o := by
  unfold fldT at h
  split at h
  · rename_i fields hu
    split at h
    · rename_i fl hf
      split at h
      · rename_i n hn
        split at h
        · cases h
        · rename_i h0; cases h; exact ⟨fields, fl, n, hu, hf, hn, h0, rfl, rfl⟩
      · cases h
    · cases h
  · cases h

def aFieldAddr (P : Program) (s : TypeId) (x : AV) (f : Nat) (σ : AHeap) (K : AV → AHeap → Prop) : Prop :=
  match fldT P s f with
  | some (_, o) => match x with
    | .po i ver off => match σ[i]? with
      | some b => b.ver = ver ∧ b.kind ≠ .dead ∧ K (.po i ver (off + o)) σ
      | none => False
    | .pp cs off => K (.pp cs (off + o)) σ
    | _ => False
  | none => False

theorem fieldAddr_ok (h : HRel w0 ρ fz σ w) {s : TypeId} {f : Nat} {x : AV} {v : Value} (hx : R ρ σ fz w x v) {K : AV → AHeap → Prop} (hK : aFieldAddr P s x f σ K) :
    SemOK P w0 ρ fz σ w (Instr.fieldAt s v f) K := by
  unfold aFieldAddr at hK
  split at hK
  · rename_i t o hf
    obtain ⟨fields, fl, n, hu, hfl, hn, h0, rfl, rfl⟩ := fldT_ok hf
    have run : ∀ b k, (Instr.fieldAt s (.pointer (some ⟨b, k, none⟩)) f).run P w = .ok (.pointer (some ⟨b, k + fl.offset, none⟩)) w := fun b k => by
      simp [Instr.fieldAt, run_underlying hu, hfl, Instr.sureAddr, fieldPlace, run_szT hn, h0, add_lit]
    split at hK
    · rename_i i ver off
      split at hK
      · rename_i b hb
        obtain ⟨hv, hd, hK⟩ := hK
        obtain ⟨blk, hb', hle, h1, hval⟩ := hx.po_inv
        rw [hb] at hb'; cases hb'
        rw [hval hv hd]
        refine SemOK.of_same h (run _ _) (.po i ver (off + fl.offset) b _ hb hle rfl fun _ _ => ?_) hK
        simp [Nat.add_assoc]
      · exact hK.elim
    · obtain ⟨b, o, us, rfl, hfz, hcell, h1, hR⟩ := hx.pp_inv
      refine SemOK.of_same h (run _ _) ?_ hK
      rw [Nat.add_assoc]
      exact .pure _ _ (.pp _ _ b o us hfz hcell h1 hR)
    · exact hK.elim
  · exact hK.elim

/-- A part of a struct or an array, as a value. -/
theorem part_ok {t : TypeId} {cs : List AV} {arr : Array Value} {off : Nat} {K : AV → Prop} (hl : arr.size = cs.length) (h1 : ∀ j, j < cs.length → (arr.getD j undef).oneCell' = true)
    (hR : ∀ j (hj : j < cs.length), R ρ σ fz w cs[j] (arr.getD j undef)) (hK : aRead P t cs off K) : ∃ v r, (part t arr off).run P w = .ok v w ∧ K r ∧ R ρ σ fz w r v := by
  unfold aRead at hK
  split at hK
  · rename_i ha
    split at hK
    · rename_i n hn
      obtain ⟨hle, hK⟩ := hK
      refine ⟨.agg (arr.extract off (off + n)), _, by simp [part, run_aggT ha, run_szT hn], hK, .agg _ _ (by simp; omega) (fun j hj => ?_) (fun j hj => ?_)⟩
      · simp at hj
        have : (arr.extract off (off + n)).getD j undef = arr.getD (off + j) undef := by
          have h2 : j < min (off + n) arr.size - off := by omega
          have h3 : off + j < arr.size := by omega
          simp [Array.getD, h2, h3]
        rw [this]; exact h1 _ (by omega)
      · simp at hj
        have : (arr.extract off (off + n)).getD j undef = arr.getD (off + j) undef := by
          have h2 : j < min (off + n) arr.size - off := by omega
          have h3 : off + j < arr.size := by omega
          simp [Array.getD, h2, h3]
        rw [this]
        simpa using hR (off + j) (by omega)
    · exact hK.elim
  · rename_i ha
    split at hK
    · rename_i x hx
      obtain ⟨hlt, rfl⟩ := List.getElem?_eq_some_iff.1 hx
      have hg := get_of_getD (show off < arr.size by omega)
      have hr := hR off hlt
      generalize arr.getD off undef = q at hg hr
      exact ⟨q, _, by simp [part, run_aggT ha, hg], hK, hr⟩
    · exact hK.elim
  · exact hK.elim

def aField (P : Program) (s : TypeId) (x : AV) (f : Nat) (σ : AHeap) (K : AV → AHeap → Prop) : Prop :=
  match fldT P s f with
  | some (t, o) => match x with
    | .agg cs => aRead P t cs o (fun r => K r σ)
    | _ => False
  | none => False

theorem field_ok (h : HRel w0 ρ fz σ w) {s : TypeId} {f : Nat} {x : AV} {v : Value} (hx : R ρ σ fz w x v) {K : AV → AHeap → Prop} (hK : aField P s x f σ K) :
    SemOK P w0 ρ fz σ w (Instr.field s v f) K := by
  unfold aField at hK
  split at hK
  · rename_i t o hf
    obtain ⟨fields, fl, n, hu, hfl, hn, h0, rfl, rfl⟩ := fldT_ok hf
    split at hK
    · obtain ⟨arr, rfl, hl, h1, hR⟩ := hx.agg_inv
      obtain ⟨v, r, hrun, hK, hr⟩ := part_ok (P := P) hl h1 hR hK
      exact SemOK.of_same h (by simp [Instr.field, run_underlying hu, hfl, asAgg, hrun]) hr hK
    · exact hK.elim
  · exact hK.elim

/-! ### An element's address; an element -/
/-- An array: how many elements, of which type, how many cells each has. -/
def arrT (P : Program) (t : TypeId) : Option (Nat × TypeId × Nat) :=
  match P.underlying t with
  | some (.array n e) => match szT P e with
    | some s => some (n, e, s)
    | none => none
  | _ => none
theorem arrT_ok {t : TypeId} {n : Nat} {e : TypeId} {s : Nat} (h : arrT P t = some (n, e, s)) : P.underlying t = some (.array n e) ∧ szT P e = some s := by
  unfold arrT at h
  split at h
  · split at h
    · cases h; exact ⟨‹_›, ‹_›⟩
    · cases h
  · cases h

def aIndexAddr (P : Program) (t : TypeId) (x ix : AV) (σ : AHeap) (K : AV → AHeap → Prop) : Prop :=
  match ix with
  | .v (.int _ j) => match x with
    | .pl _ cs n _ => match elT P t with
      | some (_, e) => (0 ≤ j ∧ j < n) ∧ j.toNat * e.sz < cs.length ∧ K (.pp cs (j.toNat * e.sz)) σ
      | none => False
    | .so i ver off n _ _ => match elT P t, σ[i]? with
      | some (_, e), some b => b.ver = ver ∧ b.kind ≠ .dead ∧ (0 ≤ j ∧ j < n) ∧ K (.po i ver (off + j.toNat * e.sz)) σ
      | _, _ => False
    | .po i ver off => match arrT P t, σ[i]? with
      | some (n, _, s), some b => b.ver = ver ∧ b.kind ≠ .dead ∧ (0 ≤ j ∧ j < n) ∧ K (.po i ver (off + j.toNat * s)) σ
      | _, _ => False
    | .pp cs off => match arrT P t with
      | some (n, _, s) => (0 ≤ j ∧ j < n) ∧ K (.pp cs (off + j.toNat * s)) σ
      | none => False
    | _ => False
  | _ => False

theorem indexAddr_ok (h : HRel w0 ρ fz σ w) {t : TypeId} {x ix : AV} {v u : Value} (hx : R ρ σ fz w x v) (hi : R ρ σ fz w ix u) {K : AV → AHeap → Prop} (hK : aIndexAddr P t x ix σ K) :
    SemOK P w0 ρ fz σ w (Instr.indexAt t v u) K := by
  unfold aIndexAddr at hK
  split at hK
  · rename_i k j
    rw [hi.v_eq]
    split at hK
    · split at hK
      · rename_i nl cs n cap e x he
        obtain ⟨hj, hlen, hK⟩ := hK
        obtain ⟨hu, i, hin, hsz, hby, hzl, h0, _⟩ := elT_ok he
        obtain ⟨a, c, b, o, us, rfl, hnl, hn, hc, hcap, ha, hfz, hcell, h1, hR⟩ := hx.pl_inv
        have ha := ha (by omega)
        subst ha
        have hs : (sizeOf e).run P w = .ok x.sz w := by simp [sizeOf, typeInfo, hin, hsz]
        refine SemOK.of_same h (v := .pointer (some ⟨b, o + j.toNat * x.sz, none⟩)) ?_ (.pure _ _ (.pp _ _ b o us hfz hcell h1 hR)) hK
        simp [Instr.indexAt, run_underlying hu, asIntOf, hj, hs, add_lit]
      · exact hK.elim
    · split at hK
      · rename_i i ver off n _ _ _ _ e x b he hb
        obtain ⟨hv, hd, hj, hK⟩ := hK
        obtain ⟨hu, ti, hin, hsz, hby, hzl, h0, _⟩ := elT_ok he
        obtain ⟨blk, hb', hle, h1, hval⟩ := hx.so_inv
        rw [hb] at hb'; cases hb'
        obtain ⟨a, c, rfl, hnc, hcap, ha, hroom⟩ := hval hv hd
        have ha := ha (by omega)
        subst ha
        have hs : (sizeOf e).run P w = .ok x.sz w := by simp [sizeOf, typeInfo, hin, hsz]
        refine SemOK.of_same h (v := .pointer (some ⟨(ρ i).1, (ρ i).2 + off + j.toNat * x.sz, none⟩)) ?_ (.po i ver _ b _ hb hle rfl fun _ _ => by simp [Nat.add_assoc]) hK
        simp [Instr.indexAt, run_underlying hu, asIntOf, hj, hs, add_lit]
      · exact hK.elim
    · split at hK
      · rename_i i ver off _ _ n e s b he hb
        obtain ⟨hv, hd, hj, hK⟩ := hK
        obtain ⟨hu, hs⟩ := arrT_ok he
        obtain ⟨blk, hb', hle, h1, hval⟩ := hx.po_inv
        rw [hb] at hb'; cases hb'
        rw [hval hv hd]
        refine SemOK.of_same h (v := .pointer (some ⟨(ρ i).1, (ρ i).2 + off + j.toNat * s, none⟩)) ?_ (.po i ver _ b _ hb hle rfl fun _ _ => by simp [Nat.add_assoc]) hK
        simp [Instr.indexAt, run_underlying hu, asIntOf, Instr.sureAddr, hj, run_szT hs, add_lit]
      · exact hK.elim
    · split at hK
      · rename_i n e s he
        obtain ⟨hj, hK⟩ := hK
        obtain ⟨hu, hs⟩ := arrT_ok he
        obtain ⟨b, o, us, rfl, hfz, hcell, h1, hR⟩ := hx.pp_inv
        refine SemOK.of_same h (v := .pointer (some ⟨b, o + (_ + j.toNat * s), none⟩)) ?_ (.pure _ _ (.pp _ _ b o us hfz hcell h1 hR)) hK
        simp [Instr.indexAt, run_underlying hu, asIntOf, Instr.sureAddr, hj, run_szT hs, add_lit, Nat.add_assoc]
      · exact hK.elim
    · exact hK.elim
  · exact hK.elim

def aIndex (P : Program) (t : TypeId) (x ix : AV) (σ : AHeap) (K : AV → AHeap → Prop) : Prop :=
  match ix with
  | .v (.int _ j) => match x with
    | .agg cs => match arrT P t with
      | some (n, e, s) => (0 ≤ j ∧ j < n) ∧ aRead P e cs (j.toNat * s) (fun r => K r σ)
      | none => False
    | .v (.string s) => P.underlying t = some .string ∧ 0 ≤ j ∧ match s[j.toNat]? with
      | some b => K (.v (.int .u8 b.toNat)) σ
      | none => False
    | _ => False
  | _ => False

theorem index_ok (h : HRel w0 ρ fz σ w) {t : TypeId} {x ix : AV} {v u : Value} (hx : R ρ σ fz w x v) (hi : R ρ σ fz w ix u) {K : AV → AHeap → Prop} (hK : aIndex P t x ix σ K) :
    SemOK P w0 ρ fz σ w (Instr.index t v u) K := by
  unfold aIndex at hK
  split at hK
  · rename_i k j
    rw [hi.v_eq]
    split at hK
    · split at hK
      · rename_i cs _ n e s he
        obtain ⟨hj, hK⟩ := hK
        obtain ⟨hu, hs⟩ := arrT_ok he
        obtain ⟨arr, rfl, hl, h1, hR⟩ := hx.agg_inv
        obtain ⟨v, r, hrun, hK, hr⟩ := part_ok (P := P) hl h1 hR hK
        exact SemOK.of_same h (by simp [Instr.index, run_underlying hu, asIntOf, hj, run_szT hs, hrun]) hr hK
      · exact hK.elim
    · rename_i s
      obtain ⟨hu, h0, hK⟩ := hK
      rw [hx.v_eq]
      split at hK
      · rename_i b hb
        exact SemOK.of_same h (by simp [Instr.index, run_underlying hu, asIntOf, h0, hb]) (.lit _) hK
      · exact hK.elim
    · exact hK.elim
  · exact hK.elim

/-! ### Cuts -/
/-- A bound of a cut: a number, or none. -/
def bnd (d : Nat) : Option AV → Option Int
  | none => some d
  | some (.v (.int _ j)) => some j
  | _ => none

def aSlice (P : Program) (t : TypeId) (x : AV) (lo hi mx : Option AV) (σ : AHeap) (K : AV → AHeap → Prop) : Prop :=
  match x with
  | .pl nl cs n cap => match elT P t, bnd 0 lo, bnd n hi, mx with
    | some (_, e), some l, some h, none => (0 ≤ l ∧ l ≤ h ∧ h ≤ n) ∧ K (.pl nl ((cs.drop (l.toNat * e.sz)).take ((h - l).toNat * e.sz)) (h - l).toNat (cap.map (· - l.toNat))) σ
    | some (_, e), some l, some h, some (.v (.int _ m)) => hi.isSome ∧ (0 ≤ l ∧ l ≤ h ∧ h ≤ m ∧ m ≤ n) ∧ K (.pl nl ((cs.drop (l.toNat * e.sz)).take ((h - l).toNat * e.sz)) (h - l).toNat (cap.map fun _ => (m - l).toNat)) σ
    | _, _, _, _ => False
  | .so i ver off n sz cap => match elT P t, bnd 0 lo, bnd n hi, mx, σ[i]? with
    | some (_, e), some l, some h, none, some b => b.ver = ver ∧ b.kind ≠ .dead ∧ e.sz = sz ∧ (0 ≤ l ∧ l ≤ h ∧ h ≤ (cap.getD n : Nat)) ∧ n ≤ cap.getD n ∧ K (.so i ver (off + l.toNat * sz) (h - l).toNat sz (cap.map (· - l.toNat))) σ
    | some (_, e), some l, some h, some (.v (.int _ m)), some b => b.ver = ver ∧ b.kind ≠ .dead ∧ e.sz = sz ∧ hi.isSome ∧ (0 ≤ l ∧ l ≤ h ∧ h ≤ m ∧ m ≤ (cap.getD n : Nat)) ∧ n ≤ cap.getD n ∧ K (.so i ver (off + l.toNat * sz) (h - l).toNat sz (some (m - l).toNat)) σ
    | _, _, _, _, _ => False
  | .v (.string s) => match bnd 0 lo, bnd s.size hi, mx with
    | some l, some h, none => P.underlying t = some .string ∧ (0 ≤ l ∧ l ≤ h ∧ h ≤ s.size) ∧ K (.v (.string (s.extract l.toNat h.toNat))) σ
    | _, _, _ => False
  | .po i ver off => match arrT P t, lo, hi, mx, σ[i]? with
    | some (n, _, s), none, none, none, some b => b.ver = ver ∧ b.kind ≠ .dead ∧ off + n * s ≤ b.cells.length ∧ K (.so i ver off n s (some n)) σ
    | _, _, _, _, _ => False
  | _ => False

/-- A bound, as a value. -/
def RO (ρ : Nat → Nat × Nat) (σ : AHeap) (fz : Nat → Prop) (w : World) : Option AV → Option Value → Prop
  | none, none => True
  | some x, some v => R ρ σ fz w x v
  | _, _ => False

theorem bnd_ok {d : Nat} {x : Option AV} {v : Option Value} {j : Int} (h : RO ρ σ fz w x v) (hb : bnd d x = some j) : (v = none ∧ j = d) ∨ ∃ k, v = some (.int k j) := by
  cases x with
  | none => cases v with
    | none => cases hb; exact .inl ⟨rfl, rfl⟩
    | some v => exact h.elim
  | some x =>
    cases v with
    | none => exact h.elim
    | some v =>
      have hR : R ρ σ fz w x v := h
      cases x with
      | v y =>
        rw [hR.v_eq]
        cases y <;> simp [bnd] at hb
        subst hb
        exact .inr ⟨_, rfl⟩
      | _ => simp [bnd] at hb

theorem sliceBounds_ok {isSlice : Bool} {n c : Nat} {lo hi mx : Option Value} {l h m : Int} (hn : n ≤ c) (hl0 : 0 ≤ l) (hlh : l ≤ h) (hhm : h ≤ m) (hmc : m ≤ c)
    (hlo : (lo = none ∧ l = 0) ∨ ∃ k, lo = some (.int k l)) (hhi : (hi = none ∧ h = n ∧ mx = none) ∨ ∃ k, hi = some (.int k h)) (hmx : (mx = none ∧ m = c) ∨ ∃ k, mx = some (.int k m)) :
    (Instr.sliceBounds isSlice n c lo hi mx).run P w = .ok (l.toNat, h.toNat, m.toNat) w := by
  have hm0 : 0 ≤ m := by omega
  have hh0 : 0 ≤ h := by omega
  rcases hmx with ⟨rfl, rfl⟩ | ⟨km, rfl⟩ <;> rcases hhi with ⟨rfl, rfl, hmx⟩ | ⟨kh, rfl⟩ <;> rcases hlo with ⟨rfl, rfl⟩ | ⟨kl, rfl⟩ <;>
    first
    | (simp at hmx; done)
    | (simp [Instr.sliceBounds, Instr.sliceBound, asIntOf]; repeat' (first | rfl | omega | rw [if_pos (by omega)] | (simp; done)))
end
end Go.Proofs.Va
/- VA, part 5: cuts, made slices, interfaces, tuples, lengths; numbers. -/
set_option linter.unusedVariables false
set_option linter.unusedSimpArgs false
namespace Go.Proofs.Va
open Go Go.RowKit

section
variable {P : Program} {w0 : World} {ρ : Nat → Nat × Nat} {σ : AHeap} {fz : Nat → Prop} {w : World}

theorem pl_cut {nl : Bool} {cs : List AV} {n : Nat} {cap cap' : Option Nat} {a : Option Addr} {c : Nat} (hx : R ρ σ fz w (.pl nl cs n cap) (.slice a n c)) {sz l h m : Nat} (h0 : 0 < sz)
    (hl : l ≤ h) (hh : h ≤ m) (hm : m ≤ c) (hcap : ∀ k, cap' = some k → m - l = k) (hcc : ∀ k, cap' = some k → ∃ k', cap = some k') :
    R ρ σ fz w (.pl nl ((cs.drop (l * sz)).take ((h - l) * sz)) (h - l) cap') (.slice (if m = l then a else a.map (·.add (l * sz))) (h - l) (m - l)) := by
  obtain ⟨a', c', b, o, us, he, hnl, hn, hc, hcap0, ha, hfz, hcell, h1, hR, hfr⟩ := hx.pl_inv'
  cases he
  have aux : ∀ j, j < ((cs.drop (l * sz)).take ((h - l) * sz)).length → l * sz + j < cs.length ∧ l < h := by
    intro j hj
    simp at hj
    refine ⟨by omega, ?_⟩
    rcases Nat.lt_or_ge l h with h2 | h2
    · exact h2
    · have : h - l = 0 := by omega
      rw [this] at hj; simp at hj
  refine .pure _ _ (.pl nl _ _ cap' _ (m - l) b (o + l * sz) (fun j => us (l * sz + j)) ?_ ?_ (by omega) hcap ?_ ?_ ?_ ?_ ?_ ?_)
  · rw [hnl]; split <;> simp
  · intro hnn
    have : a = none := by split at hnn <;> simpa using hnn
    have := hn this
    omega
  · intro hp
    obtain ⟨q1, q2⟩ := aux 0 hp
    rw [if_neg (by omega), ha (by omega)]
    simp [add_lit]
  · intro hp
    obtain ⟨q1, q2⟩ := aux 0 hp
    exact hfz (by omega)
  · intro j hj
    obtain ⟨q1, q2⟩ := aux j hj
    rw [Nat.add_assoc]; exact hcell _ q1
  · intro j hj
    exact h1 _ (aux j hj).1
  · intro j hj
    have := hR _ (aux j hj).1
    simpa using this
  · intro k hk hp
    obtain ⟨k', hk'⟩ := hcc k hk
    exact hfr k' hk' (by have := (aux 0 hp).1; omega)

theorem so_cut {i ver off sz : Nat} {cap' : Option Nat} {a : Addr} {c : Nat} {b : ABlk} (hb : σ[i]? = some b) (hle : ver ≤ b.ver)
    (ha : 0 < c → a = ⟨(ρ i).1, (ρ i).2 + off, none⟩) (hroom : ∃ cells e fr, w.heap[(ρ i).1]? = some (.cells cells e fr) ∧ (ρ i).2 + off + c * sz ≤ cells.size)
    {l h m : Nat} (hl : l ≤ h) (hh : h ≤ m) (hm : m ≤ c) (hcap : ∀ k, cap' = some k → m - l = k) :
    R ρ σ fz w (.so i ver (off + l * sz) (h - l) sz cap') (.slice (if m = l then some a else some (a.add (l * sz))) (h - l) (m - l)) := by
  have : (if m = l then some a else some (a.add (l * sz))) = some (if m = l then a else a.add (l * sz)) := by split <;> rfl
  rw [this]
  refine .so _ _ _ _ _ _ b _ hb hle rfl fun _ _ => ⟨_, m - l, rfl, by omega, hcap, fun hp => ?_, ?_⟩
  · rw [if_neg (by omega), ha (by omega), add_lit]; simp [Nat.add_assoc]
  · obtain ⟨cells, e, fr, h1, h2⟩ := hroom
    refine ⟨cells, e, fr, h1, ?_⟩
    have : l * sz + (m - l) * sz ≤ c * sz := by rw [← Nat.add_mul]; exact Nat.mul_le_mul_right _ (by omega)
    omega

theorem slice_ok (h : HRel w0 ρ fz σ w) {t : TypeId} {x : AV} {lo hi mx : Option AV} {v : Value} {vlo vhi vmx : Option Value} (hx : R ρ σ fz w x v)
    (hlo : RO ρ σ fz w lo vlo) (hhi : RO ρ σ fz w hi vhi) (hmx : RO ρ σ fz w mx vmx) {K : AV → AHeap → Prop} (hK : aSlice P t x lo hi mx σ K) :
    SemOK P w0 ρ fz σ w (Instr.sliceAt t v vlo vhi vmx) K := by
  have none_of : ∀ {vmx : Option Value}, RO ρ σ fz w none vmx → vmx = none := fun {vmx} hm => by
    cases vmx with
    | none => rfl
    | some _ => exact hm.elim
  have int_of : ∀ {vmx : Option Value} {k : IntKind} {m : Int}, RO ρ σ fz w (some (.v (.int k m))) vmx → vmx = some (.int k m) := fun {vmx k m} hm => by
    cases vmx with
    | none => exact hm.elim
    | some v => have hR : R ρ σ fz w (.v (.int k m)) v := hm; rw [hR.v_eq]
  have some_of : ∀ {d : Nat} {hi : Option AV} {vhi : Option Value} {j : Int}, hi.isSome = true → RO ρ σ fz w hi vhi → bnd d hi = some j → ∃ k, vhi = some (.int k j) := fun {d hi vhi j} h1 h2 h3 => by
    rcases bnd_ok h2 h3 with ⟨rfl, _⟩ | h4
    · cases hi with
      | none => cases h1
      | some _ => exact h2.elim
    · exact h4
  unfold aSlice at hK
  split at hK
  · -- a slice without a block of the call's own
    rename_i nl cs n cap
    obtain ⟨a, c, b, o, us, rfl, hnl, hn, hc, hcap, ha, hfz, hcell, h1, hR⟩ := hx.pl_inv
    split at hK
    · rename_i e q l hh he hbl hbh
      obtain ⟨hbd, hK⟩ := hK
      obtain ⟨hu, ti, hin, hsz, hby, hzl, h0, _⟩ := elT_ok he
      have := none_of hmx
      subst this
      have hb1 := sliceBounds_ok (P := P) (w := w) (isSlice := true) (m := c) hc hbd.1 hbd.2.1 (by omega) (by omega) (bnd_ok hlo hbl)
        ((bnd_ok hhi hbh).imp (fun ⟨p, q⟩ => ⟨p, q, rfl⟩) id) (.inl ⟨rfl, rfl⟩)
      refine SemOK.of_same h (v := .slice (if c = l.toNat then a else a.map (·.add (l.toNat * q.sz))) (hh.toNat - l.toNat) (c - l.toNat)) ?_ ?_ hK
      · simp [Instr.sliceAt, Instr.slice, run_underlying hu, hb1, sizeOf, typeInfo, hin, hsz]
      · have := pl_cut (cap' := cap.map (· - l.toNat)) hx (sz := q.sz) (l := l.toNat) (h := hh.toNat) (m := c) h0 (by omega) (by omega) (Nat.le_refl _) (fun k hk => by
          obtain ⟨k0, hk0, rfl⟩ := Option.map_eq_some_iff.1 hk
          rw [hcap k0 hk0]) (fun k hk => by obtain ⟨k0, hk0, _⟩ := Option.map_eq_some_iff.1 hk; exact ⟨k0, hk0⟩)
        rwa [show (hh - l).toNat = hh.toNat - l.toNat by omega]
    · rename_i e q l hh km m he hbl hbh
      obtain ⟨hsome, hbd, hK⟩ := hK
      obtain ⟨hu, ti, hin, hsz, hby, hzl, h0, _⟩ := elT_ok he
      have := int_of hmx
      subst this
      have hb1 := sliceBounds_ok (P := P) (w := w) (isSlice := true) (m := m) hc hbd.1 hbd.2.1 hbd.2.2.1 (by omega) (bnd_ok hlo hbl)
        (.inr (some_of hsome hhi hbh)) (.inr ⟨km, rfl⟩)
      refine SemOK.of_same h (v := .slice (if m.toNat = l.toNat then a else a.map (·.add (l.toNat * q.sz))) (hh.toNat - l.toNat) (m.toNat - l.toNat)) ?_ ?_ hK
      · simp [Instr.sliceAt, Instr.slice, run_underlying hu, hb1, sizeOf, typeInfo, hin, hsz]
      · have := pl_cut (cap' := cap.map fun _ => (m - l).toNat) hx (sz := q.sz) (l := l.toNat) (h := hh.toNat) (m := m.toNat) h0 (by omega) (by omega) (by omega) (fun k hk => by
          obtain ⟨k0, _, rfl⟩ := Option.map_eq_some_iff.1 hk
          omega) (fun k hk => by obtain ⟨k0, hk0, _⟩ := Option.map_eq_some_iff.1 hk; exact ⟨k0, hk0⟩)
        rwa [show (hh - l).toNat = hh.toNat - l.toNat by omega]
    · exact hK.elim
  · -- a slice of the call's own
    rename_i i ver off n sz cap
    obtain ⟨b, hb, hle, h1, hval⟩ := hx.so_inv
    split at hK
    · rename_i e q l hh b' he hbl hbh hb'
      obtain ⟨hv, hd, rfl, hbd, hcn, hK⟩ := hK
      rw [hb] at hb'; cases hb'
      obtain ⟨hu, ti, hin, hsz, hby, hzl, h0, _⟩ := elT_ok he
      obtain ⟨a, c, rfl, hnc, hcap, ha, hroom⟩ := hval hv hd
      have hcg : cap.getD n ≤ c := by
        cases hcp : cap with
        | none => simpa using hnc
        | some k => have := hcap k hcp; simp; omega
      have := none_of hmx
      subst this
      have hb1 := sliceBounds_ok (P := P) (w := w) (isSlice := true) (m := c) hnc hbd.1 hbd.2.1 (by omega) (by omega) (bnd_ok hlo hbl)
        ((bnd_ok hhi hbh).imp (fun ⟨p, q⟩ => ⟨p, q, rfl⟩) id) (.inl ⟨rfl, rfl⟩)
      refine SemOK.of_same h (v := .slice (if c = l.toNat then some a else some (a.add (l.toNat * q.sz))) (hh.toNat - l.toNat) (c - l.toNat)) ?_ ?_ hK
      · simp [Instr.sliceAt, Instr.slice, run_underlying hu, hb1, sizeOf, typeInfo, hin, hsz]
      · have := so_cut (fz := fz) (cap' := cap.map (· - l.toNat)) hb hle ha hroom (l := l.toNat) (h := hh.toNat) (m := c) (by omega) (by omega) (Nat.le_refl _) (fun k hk => by
          obtain ⟨k0, hk0, rfl⟩ := Option.map_eq_some_iff.1 hk
          rw [hcap k0 hk0])
        rwa [show (hh - l).toNat = hh.toNat - l.toNat by omega]
    · rename_i e q l hh km m b' he hbl hbh hb'
      obtain ⟨hv, hd, rfl, hsome, hbd, hcn, hK⟩ := hK
      rw [hb] at hb'; cases hb'
      obtain ⟨hu, ti, hin, hsz, hby, hzl, h0, _⟩ := elT_ok he
      obtain ⟨a, c, rfl, hnc, hcap, ha, hroom⟩ := hval hv hd
      have hcg : cap.getD n ≤ c := by
        cases hcp : cap with
        | none => simpa using hnc
        | some k => have := hcap k hcp; simp; omega
      have := int_of hmx
      subst this
      have hb1 := sliceBounds_ok (P := P) (w := w) (isSlice := true) (m := m) hnc hbd.1 hbd.2.1 hbd.2.2.1 (by omega) (bnd_ok hlo hbl)
        (.inr (some_of hsome hhi hbh)) (.inr ⟨km, rfl⟩)
      refine SemOK.of_same h (v := .slice (if m.toNat = l.toNat then some a else some (a.add (l.toNat * q.sz))) (hh.toNat - l.toNat) (m.toNat - l.toNat)) ?_ ?_ hK
      · simp [Instr.sliceAt, Instr.slice, run_underlying hu, hb1, sizeOf, typeInfo, hin, hsz]
      · have := so_cut (fz := fz) (cap' := some (m - l).toNat) hb hle ha hroom (l := l.toNat) (h := hh.toNat) (m := m.toNat) (by omega) (by omega) (by omega) (fun k hk => by cases hk; omega)
        rwa [show (hh - l).toNat = hh.toNat - l.toNat by omega]
    · exact hK.elim
  · -- a string
    rename_i s
    rw [hx.v_eq]
    split at hK
    · rename_i l hh hbl hbh
      obtain ⟨hu, hbd, hK⟩ := hK
      have := none_of hmx
      subst this
      have hb1 := sliceBounds_ok (P := P) (w := w) (isSlice := false) (m := s.size) (Nat.le_refl _) hbd.1 hbd.2.1 hbd.2.2 (Int.le_refl _) (bnd_ok hlo hbl)
        ((bnd_ok hhi hbh).imp (fun ⟨p, q⟩ => ⟨p, q, rfl⟩) id) (.inl ⟨rfl, rfl⟩)
      exact SemOK.of_same h (v := .string (s.extract l.toNat hh.toNat)) (by simp [Instr.sliceAt, Instr.slice, run_underlying hu, hb1]) (.lit _) hK
    · exact hK.elim
  · -- an array of the call's own
    rename_i i ver off
    obtain ⟨b, hb, hle, h1, hval⟩ := hx.po_inv
    split at hK
    · rename_i n e s b' ha hb'
      obtain ⟨hv, hd, hlen, hK⟩ := hK
      rw [hb] at hb'; cases hb'
      obtain ⟨hu, hsz⟩ := arrT_ok ha
      have := none_of hmx
      subst this
      have := none_of hlo
      subst this
      have := none_of hhi
      subst this
      rw [hval hv hd]
      obtain ⟨ti, hin, hts⟩ : ∃ i, P.info? e = some i ∧ i.size = s := by
        unfold szT at hsz
        exact Option.map_eq_some_iff.1 hsz
      have hb1 := sliceBounds_ok (P := P) (w := w) (isSlice := false) (n := n) (c := n) (lo := none) (hi := none) (mx := none) (l := 0) (h := n) (m := n) (Nat.le_refl _) (Int.le_refl _) (by omega) (Int.le_refl _) (Int.le_refl _) (.inl ⟨rfl, rfl⟩) (.inl ⟨rfl, rfl, rfl⟩) (.inl ⟨rfl, rfl⟩)
      obtain ⟨cells, el, hw, hbase, hroom, _⟩ := h.blk i b hb hd
      refine SemOK.of_same h (v := .slice (some ⟨(ρ i).1, (ρ i).2 + off, none⟩) n n) ?_ (.so _ _ _ _ _ _ b _ hb hle rfl fun _ _ => ⟨_, n, rfl, Nat.le_refl _, fun k hk => (Option.some.inj hk), fun _ => rfl, cells, el, (0, 0), hw, by omega⟩) hK
      simp [Instr.sliceAt, Instr.sureAddr, run_underlying hu, hb1, sizeOf, typeInfo, hin, Addr.add]
    · exact hK.elim
  · exact hK.elim

/-! ### make -/
def aMakeSlice (P : Program) (t : TypeId) (x y : AV) (σ : AHeap) (K : AV → AHeap → Prop) : Prop :=
  match x, y with
  | .v (.int _ l), .v (.int _ c) => match elT P t with
    | some (_, e) => (0 ≤ l ∧ l ≤ c ∧ c * e.bytes ≤ 140737488355328 ∧ c ≤ 140737488355328) ∧ K (.so σ.length 0 0 l.toNat e.sz (some c.toNat)) (σ ++ [⟨.own, 0, reps c.toNat e.zero⟩])
    | none => False
  | _, _ => False

/-! ### Interfaces, functions, tuples -/
def isIfaceT (P : Program) (t : TypeId) : Option Bool := (P.underlying t).map fun | .interface _ => true | _ => false

def aMakeInterface (P : Program) (t : TypeId) (x : AV) (σ : AHeap) (K : AV → AHeap → Prop) : Prop := isIfaceT P t = some false ∧ K (.ifc t x) σ
theorem makeInterface_ok (h : HRel w0 ρ fz σ w) {t : TypeId} {x : AV} {v : Value} (hx : R ρ σ fz w x v) {K : AV → AHeap → Prop} (hK : aMakeInterface P t x σ K) :
    SemOK P w0 ρ fz σ w (Instr.makeInterface t v) K := by
  obtain ⟨hi, hK⟩ := hK
  obtain ⟨d, hd, hi⟩ := Option.map_eq_some_iff.1 hi
  refine SemOK.of_same h (v := .iface t v) ?_ (.ifc t x v hx) hK
  cases d <;> simp [Instr.makeInterface, run_underlying hd] at hi ⊢

def aExtract (x : AV) (i : Nat) (σ : AHeap) (K : AV → AHeap → Prop) : Prop :=
  match x with
  | .tup cs => match cs[i]? with
    | some y => K y σ
    | none => False
  | _ => False
theorem extract_ok (h : HRel w0 ρ fz σ w) {i : Nat} {x : AV} {v : Value} (hx : R ρ σ fz w x v) {K : AV → AHeap → Prop} (hK : aExtract x i σ K) :
    SemOK P w0 ρ fz σ w (Instr.extract v i) K := by
  unfold aExtract at hK
  split at hK
  · split at hK
    · rename_i y hy
      obtain ⟨arr, rfl, hl, hR⟩ := hx.tup_inv
      obtain ⟨hlt, rfl⟩ := List.getElem?_eq_some_iff.1 hy
      have hg := get_of_getD (show i < arr.size by omega)
      have hr := hR i hlt
      generalize arr.getD i undef = q at hg hr
      exact SemOK.of_same h (v := q) (by simp [Instr.extract, hg]) hr hK
    · exact hK.elim
  · exact hK.elim

/-- A type's zero value. -/
def zvT (P : Program) (t : TypeId) : Option AV :=
  match aggT P t, zcT P t with
  | some true, some cs => some (.agg cs)
  | some false, some [x] => some x
  | _, _ => none

/-! ### Lengths -/
def aLen (P : Program) (t : TypeId) (x : AV) (σ : AHeap) (K : AV → AHeap → Prop) : Prop :=
  match P.underlying t, x with
  | some (.slice _), .pl _ _ n _ => K (.v (.int .i64 n)) σ
  | some (.slice _), .so i ver _ n _ _ => match σ[i]? with
    | some b => b.ver = ver ∧ b.kind ≠ .dead ∧ K (.v (.int .i64 n)) σ
    | none => False
  | some .string, .v (.string s) => K (.v (.int .i64 s.size)) σ
  | some (.array n _), _ => K (.v (.int .i64 n)) σ
  | _, _ => False

theorem len_ok (h : HRel w0 ρ fz σ w) {t ty : TypeId} {x : AV} {v : Value} (hx : R ρ σ fz w x v) {K : AV → AHeap → Prop} (hK : aLen P t x σ K) :
    SemOK P w0 ρ fz σ w (Builtin.len_ #[t] ty #[v]) K := by
  unfold aLen at hK
  split at hK
  · rename_i hu
    obtain ⟨a, c, b, o, us, rfl, _⟩ := hx.pl_inv
    exact SemOK.of_same h (v := .int .i64 _) (by simp [Builtin.len_, run_underlying hu]; rfl) (.lit _) hK
  · rename_i hu
    split at hK
    · rename_i b hb
      obtain ⟨hv, hd, hK⟩ := hK
      obtain ⟨b', hb', hle, h1, hval⟩ := hx.so_inv
      rw [hb] at hb'; cases hb'
      obtain ⟨a, c, rfl, _⟩ := hval hv hd
      exact SemOK.of_same h (v := .int .i64 _) (by simp [Builtin.len_, run_underlying hu]; rfl) (.lit _) hK
    · exact hK.elim
  · rename_i hu
    rw [hx.v_eq]
    exact SemOK.of_same h (v := .int .i64 _) (by simp [Builtin.len_, run_underlying hu]; rfl) (.lit _) hK
  · rename_i hu
    exact SemOK.of_same h (v := .int .i64 _) (by simp [Builtin.len_, run_underlying hu]; rfl) (.lit _) hK
  · exact hK.elim

def aCap (P : Program) (t : TypeId) (x : AV) (σ : AHeap) (K : AV → AHeap → Prop) : Prop :=
  match P.underlying t, x with
  | some (.slice _), .pl _ _ _ (some n) => K (.v (.int .i64 n)) σ
  | some (.slice _), .so i ver _ _ _ (some n) => match σ[i]? with
    | some b => b.ver = ver ∧ b.kind ≠ .dead ∧ K (.v (.int .i64 n)) σ
    | none => False
  | _, _ => False

theorem cap_ok (h : HRel w0 ρ fz σ w) {t ty : TypeId} {x : AV} {v : Value} (hx : R ρ σ fz w x v) {K : AV → AHeap → Prop} (hK : aCap P t x σ K) :
    SemOK P w0 ρ fz σ w (Builtin.cap_ #[t] ty #[v]) K := by
  unfold aCap at hK
  split at hK
  · rename_i hu
    obtain ⟨a, c, b, o, us, rfl, _, _, _, hcap, _⟩ := hx.pl_inv
    exact SemOK.of_same h (v := .int .i64 _) (by simp [Builtin.cap_, run_underlying hu, hcap _ rfl]; rfl) (.lit _) hK
  · rename_i hu
    split at hK
    · rename_i b hb
      obtain ⟨hv, hd, hK⟩ := hK
      obtain ⟨b', hb', hle, h1, hval⟩ := hx.so_inv
      rw [hb] at hb'; cases hb'
      obtain ⟨a, c, rfl, _, hcap, _⟩ := hval hv hd
      exact SemOK.of_same h (v := .int .i64 _) (by simp [Builtin.cap_, run_underlying hu, hcap _ rfl]; rfl) (.lit _) hK
    · exact hK.elim
  · exact hK.elim
end
end Go.Proofs.Va
/- VA, part 6: made slices; numbers, bools, texts; what is held against nil. -/
set_option linter.unusedVariables false
set_option linter.unusedSimpArgs false
namespace Go.Proofs.Va
open Go Go.RowKit

section
variable {P : Program} {w0 : World} {ρ : Nat → Nat × Nat} {σ : AHeap} {fz : Nat → Prop} {w : World}

theorem makeSlice_ok (h : HRel w0 ρ fz σ w) {t : TypeId} {x y : AV} {u v : Value} (hx : R ρ σ fz w x u) (hy : R ρ σ fz w y v) {K : AV → AHeap → Prop} (hK : aMakeSlice P t x y σ K) :
    SemOK P w0 ρ fz σ w (Instr.makeSlice t u v) K := by
  unfold aMakeSlice at hK
  split at hK
  · rename_i k1 l k2 c
    rw [hx.v_eq, hy.v_eq]
    split at hK
    · rename_i e q he
      obtain ⟨hb, hK⟩ := hK
      obtain ⟨hu, i, hi, hsz, hby, hzl, h0, z, hz0, hz, hzs, hz1, hzR⟩ := elT_ok he
      obtain ⟨q1, q2, q3⟩ := zeros_row (fz := fz) (w := w) hzs hzl h0 hz1 (hzR fz w) c.toNat
      have hm : (i.bytes : Int) * c = c * q.bytes := by rw [hby]; exact Int.mul_comm _ _
      have hrun := run_make (P := P) w t e i z hu hi hz0 k1 k2 l c hb.1 hb.2.1 (by rw [hm]; omega) (by omega)
      rw [hsz] at hrun
      obtain ⟨hn, hE⟩ := newRow_ok h (reps c.toNat q.zero) (madeCells z.cells (c.toNat * q.sz)) e (by rw [size_madeCells, reps_length, hzl]; exact Nat.le_refl _) q2 (fun j hj => .pure _ _ (q3 j hj))
      exact ⟨_, _, _, _, _, _, hrun, hK, hn, R.newSlice _ e _ 0 l.toNat c.toNat q.sz (some c.toNat) (by omega) (fun k hk => by cases hk; rfl) (by rw [size_madeCells]; omega), hE⟩
    · exact hK.elim
  · exact hK.elim

/-! ### Numbers -/
def intBin (op : BinOp) (k : IntKind) (a b : Int) : Option Value :=
  match op with
  | .add => some (.int k (k.wrap (a + b)))
  | .sub => some (.int k (k.wrap (a - b)))
  | .mul => some (.int k (k.wrap (a * b)))
  | .quo => if b = 0 then none else some (.int k (k.wrap (a.tdiv b)))
  | .rem => if b = 0 then none else some (.int k (a.tmod b))
  | .and => some (.int k (k.wrap (BitVec.ofInt k.bits a &&& BitVec.ofInt k.bits b).toNat))
  | .or => some (.int k (k.wrap (BitVec.ofInt k.bits a ||| BitVec.ofInt k.bits b).toNat))
  | .xor => some (.int k (k.wrap (BitVec.ofInt k.bits a ^^^ BitVec.ofInt k.bits b).toNat))
  | .andNot => some (.int k (k.wrap (BitVec.ofInt k.bits a &&& ~~~ BitVec.ofInt k.bits b).toNat))
  | .eql => some (.bool (a == b))
  | .neq => some (.bool (a != b))
  | .lss => some (.bool (decide (a < b)))
  | .leq => some (.bool (decide (a ≤ b)))
  | .gtr => some (.bool (decide (a > b)))
  | .geq => some (.bool (decide (a ≥ b)))
  | _ => none

def intShift (op : BinOp) (k : IntKind) (a b : Int) : Option Value :=
  if b < 0 then none else
  match op with
  | .shl => some (.int k (k.wrap (a * 2 ^ (min b.toNat k.bits))))
  | .shr => some (.int k (a.fdiv (2 ^ (min b.toNat k.bits))))
  | _ => none

def isShift : BinOp → Bool
  | .shl | .shr => true
  | _ => false

theorem binOp_int {op : BinOp} {t : TypeId} {k : IntKind} {a b : Int} {r : Value} (hs : isShift op = false) (h : intBin op k a b = some r) : (binOp op t (.int k a) (.int k b)).run P w = .ok r w := by
  cases op <;> simp [intBin, isShift] at h hs <;>
    first
    | (subst h; simp [binOp, Op.intArith, Op.intBits, Op.intCmp]; done)
    | (obtain ⟨h0, rfl⟩ := h; simp [binOp, Op.intDiv, h0])

theorem binOp_shift {op : BinOp} {t : TypeId} {k k' : IntKind} {a b : Int} {r : Value} (h : intShift op k a b = some r) : (binOp op t (.int k a) (.int k' b)).run P w = .ok r w := by
  unfold intShift at h
  split at h
  · cases h
  · rename_i hb
    split at h <;> first | (cases h; simp [binOp, Op.shift, hb]; done) | cases h

theorem eqGuard_plain (op : BinOp) (t : TypeId) (x y : Operand) {a b : Value} (h : (∀ i j, a = .agg i → b ≠ .agg j) ∧ (a = .nilIface → b ≠ .nilIface)) : (eqGuard op t x y a b).run P w = .ok () w := by
  unfold eqGuard
  cases op <;> simp <;> (cases a <;> cases b <;> simp_all)

def isBoolT (P : Program) (t : TypeId) : Bool := match P.underlying t with | some .bool => true | _ => false
def isSliceT (P : Program) (t : TypeId) : Bool := match P.underlying t with | some (.slice _) => true | _ => false
def isIfT (P : Program) (t : TypeId) : Bool := match P.underlying t with | some (.interface _) => true | _ => false
def strBin (op : BinOp) (a b : ByteArray) : Option Value :=
  match op with
  | .eql => some (.bool (a.toList == b.toList))
  | .neq => some (.bool (!(a.toList == b.toList)))
  | .lss => some (.bool (Op.bytesLess a.toList b.toList))
  | .leq => some (.bool (Op.bytesLess a.toList b.toList || a.toList == b.toList))
  | .gtr => some (.bool (!(Op.bytesLess a.toList b.toList || a.toList == b.toList)))
  | .geq => some (.bool (!Op.bytesLess a.toList b.toList))
  | .add => if ((a.size + b.size : Nat) : Int) > 9223372036854775807 then none else some (.string (a ++ b))
  | _ => none

theorem binOp_str {op : BinOp} {t : TypeId} {a b : ByteArray} {r : Value} (h : strBin op a b = some r) : (binOp op t (.string a) (.string b)).run P w = .ok r w := by
  cases op <;> simp only [strBin] at h <;> first | cases h | skip
  all_goals first
    | (simp [binOp, Op.stringOp]; done)
    | (split at h
       · cases h
       · rename_i hn
         cases h
         have hn' : ¬ (((a.size : Int) + (b.size : Int)) > IntKind.i64.max) := by
           have : IntKind.i64.max = 9223372036854775807 := by rfl
           rw [this]; push_cast at hn; exact hn
         simp only [binOp, Op.stringOp]
         rw [if_neg (by simpa using hn')]
         rfl)

theorem equal_bool {t : TypeId} (ht : P.underlying t = some .bool) (a b : Bool) : (Op.equal t (.bool a) (.bool b)).run P w = .ok (a == b) w := by
  have h : ∀ d, (Op.equalIn (d + 1) t (.bool a) (.bool b)).run P w = .ok (a == b) w := fun d => by simp [Op.equalIn, run_underlying ht]
  exact h 9999
theorem equal_slice_nil {t e : TypeId} (ht : P.underlying t = some (.slice e)) (a : Option Addr) (n c c' : Nat) : (Op.equal t (.slice a n c) (.slice none 0 c')).run P w = .ok a.isNone w := by
  have h : ∀ d, (Op.equalIn (d + 1) t (.slice a n c) (.slice none 0 c')).run P w = .ok a.isNone w := fun d => by cases a <;> simp [Op.equalIn, run_underlying ht]
  exact h 9999

def fltBin (op : BinOp) (a b : Nat) : Option Value :=
  match op with
  | .eql => some (.bool (Ieee.double.order a b == some .eq))
  | .neq => some (.bool (Ieee.double.order a b != some .eq))
  | .lss => some (.bool (Ieee.double.order a b == some .lt))
  | .leq => some (.bool (Ieee.double.order a b == some .lt || Ieee.double.order a b == some .eq))
  | .gtr => some (.bool (Ieee.double.order a b == some .gt))
  | .geq => some (.bool (Ieee.double.order a b == some .gt || Ieee.double.order a b == some .eq))
  | .add => (Ieee.double.add a b).map (.float .f64)
  | .sub => (Ieee.double.sub a b).map (.float .f64)
  | .mul => (Ieee.double.mul a b).map (.float .f64)
  | .quo => (Ieee.double.div a b).map (.float .f64)
  | _ => none
theorem binOp_flt {op : BinOp} {t : TypeId} {a b : Nat} {r : Value} (h : fltBin op a b = some r) : (binOp op t (.float .f64 a) (.float .f64 b)).run P w = .ok r w := by
  have e : FloatKind.f64.format = Ieee.double := rfl
  cases op <;> simp only [fltBin] at h <;> first | (cases h; done) | (cases h; simp [binOp, Op.floatCmp, e]; done) | skip
  all_goals
    obtain ⟨r', hr, rfl⟩ := Option.map_eq_some_iff.1 h
    simp [binOp, Op.floatArith, e, hr]

/-- What comes of two floats, one of which is a NaN. -/
def nanK (op : BinOp) (σ : AHeap) (K : AV → AHeap → Prop) : Prop :=
  match op with
  | .eql | .lss | .leq | .gtr | .geq => K (.v (.bool false)) σ
  | .neq => K (.v (.bool true)) σ
  | .add | .sub | .mul | .quo => K .nan σ
  | _ => False
/-- Two floats in a struct, of which Go counts it as the same if both are. -/
def isF64 (P : Program) (t : TypeId) : Bool := match P.underlying t with | some (.float .f64) => true | _ => false
def pairT (P : Program) (t : TypeId) : Bool := (match P.underlying t with
  | some (.struct fs) => (match fs.toList with
    | [f, g] => f.name != "_" && g.name != "_" && f.offset == 0 && g.offset == 1 && isF64 P f.type && isF64 P g.type
    | _ => false)
  | _ => false) && !P.stoodInHeld t && !P.eqGuardType P.depth t
theorem isF64_iff {t : TypeId} (h : isF64 P t = true) : P.underlying t = some (.float .f64) := by
  unfold isF64 at h; split at h <;> first | assumption | cases h
theorem pair_run {t : TypeId} (h : pairT P t = true) (a b a' b' : Nat) (ox oy : Operand) :
    (do eqGuard .eql t ox oy (.agg #[.float .f64 a, .float .f64 b]) (.agg #[.float .f64 a', .float .f64 b']); binOp .eql t (.agg #[.float .f64 a, .float .f64 b]) (.agg #[.float .f64 a', .float .f64 b'])).run P w = .ok (.bool (Ieee.double.order a a' == some .eq && Ieee.double.order b b' == some .eq)) w := by
  unfold pairT at h
  rw [Bool.and_eq_true, Bool.and_eq_true, Bool.not_eq_true', Bool.not_eq_true'] at h
  obtain ⟨⟨h1, h2⟩, h3⟩ := h
  split at h1
  case h_2 => cases h1
  rename_i fs hu
  have hf : P.fieldsOf t = fs := by unfold Program.fieldsOf; rw [hu]
  split at h1
  case h_2 => cases h1
  rename_i f g hfg
  simp only [Bool.and_eq_true, bne_iff_ne, ne_eq, beq_iff_eq] at h1
  obtain ⟨⟨⟨⟨⟨n1, n2⟩, o1⟩, o2⟩, t1⟩, t2⟩ := h1
  have u1 := isF64_iff t1
  have u2 := isF64_iff t2
  have e : FloatKind.f64.format = Ieee.double := rfl
  have p1 : ∀ x y : Nat, (part f.type #[.float .f64 x, .float .f64 y] f.offset).run P w = .ok (.float .f64 x) w := fun x y => by rw [o1]; simp [part, isAgg, run_underlying u1]
  have p2 : ∀ x y : Nat, (part g.type #[.float .f64 x, .float .f64 y] g.offset).run P w = .ok (.float .f64 y) w := fun x y => by rw [o2]; simp [part, isAgg, run_underlying u2]
  have q : ∀ (ft : TypeId) (x y : Nat), P.underlying ft = some (.float .f64) → (Op.equalIn 9999 ft (.float .f64 x) (.float .f64 y)).run P w = .ok (Ieee.double.order x y == some .eq) w := fun ft x y hft => by
    have : ∀ d, (Op.equalIn (d + 1) ft (.float .f64 x) (.float .f64 y)).run P w = .ok (Ieee.double.order x y == some .eq) w := fun d => by simp [Op.equalIn, run_underlying hft, Op.floatEq, e]
    exact this 9998
  rw [Sem.run_bind, run_eqGuard_agg w _ _ _ _ _ _ h3, Result.andThen_ok, run_eql_struct]
  have ht : P.underlying t = some (.struct (P.fieldsOf t)) := by rw [hf, hu]
  rw [show (10000 : Nat) = 9999 + 1 from rfl, run_equalIn_agg w 9999 t _ _ ht h2, hf, hfg]
  simp only [Op.eqFields, if_pos n1, if_pos n2, Sem.run_bind, p1, p2, Result.andThen_ok, q _ _ _ u1, q _ _ _ u2]
  by_cases c1 : (Ieee.double.order a a' == some .eq) = true
  · rw [c1]
    by_cases c2 : (Ieee.double.order b b' == some .eq) = true
    · simp [p2, q _ _ _ u2, c2]
    · rw [Bool.not_eq_true] at c2; simp [p2, q _ _ _ u2, c2]
  · rw [Bool.not_eq_true] at c1; rw [c1]; simp
/-- Two values held against one another, or counted. -/
def aBin (P : Program) (op : BinOp) (t : TypeId) (c : Bool) (x y : AV) (σ : AHeap) (K : AV → AHeap → Prop) : Prop :=
  match x, y with
  | .v (.int k a), .v (.int k' b) => if isShift op then (match intShift op k a b with | some r => K (.v r) σ | none => False)
      else k = k' ∧ (match intBin op k a b with | some r => K (.v r) σ | none => False)
  | .v (.string a), .v (.string b) => match strBin op a b with
    | some r => K (.v r) σ
    | none => False
  | .v (.float .f64 a), .v (.float .f64 b) => match fltBin op a b with
    | some r => K (.v r) σ
    | none => nanK op σ K
  | .nan, .nan => nanK op σ K
  | .nan, .v (.float .f64 _) => nanK op σ K
  | .v (.float .f64 _), .nan => nanK op σ K
  | .v (.bool a), .v (.bool b) => isBoolT P t = true ∧ match op with
    | .eql => K (.v (.bool (a == b))) σ
    | .neq => K (.v (.bool (!(a == b)))) σ
    | _ => False
  | .pl nl _ _ _, .pl true [] 0 (some 0) => isSliceT P t = true ∧ match op with
    | .eql => K (.v (.bool nl)) σ
    | .neq => K (.v (.bool (!nl))) σ
    | _ => False
  | .ifc _ _, .v .nilIface => isIfT P t = true ∧ match op with
    | .eql => K (.v (.bool false)) σ
    | .neq => K (.v (.bool true)) σ
    | _ => False
  | .v .nilIface, .v .nilIface => (c = true ∧ isIfT P t = true) ∧ match op with
    | .eql => K (.v (.bool true)) σ
    | .neq => K (.v (.bool false)) σ
    | _ => False
  | .agg [.v (.float .f64 a), .v (.float .f64 b)], .agg [.v (.float .f64 a'), .v (.float .f64 b')] => pairT P t = true ∧ match op with
    | .eql => K (.v (.bool (Ieee.double.order a a' == some .eq && Ieee.double.order b b' == some .eq))) σ
    | _ => False
  | _, _ => False

theorem equal_if_nil {t tx : TypeId} {ms : Array (String × TypeId)} (ht : P.underlying t = some (.interface ms)) (u : Value) : (Op.equal t (.iface tx u) .nilIface).run P w = .ok false w := by
  have h : ∀ d, (Op.equalIn (d + 1) t (.iface tx u) .nilIface).run P w = .ok false w := fun d => by simp [Op.equalIn, run_underlying ht]
  exact h 9999
theorem equal_nil_nil {t : TypeId} {ms : Array (String × TypeId)} (ht : P.underlying t = some (.interface ms)) : (Op.equal t .nilIface .nilIface).run P w = .ok true w := by
  have h : ∀ d, (Op.equalIn (d + 1) t .nilIface .nilIface).run P w = .ok true w := fun d => by simp [Op.equalIn, run_underlying ht]
  exact h 9999
/-- Is it written as a constant? -/
def isC : Operand → Bool
  | .const _ => true
  | _ => false
theorem eqGuard_nil {op : BinOp} {t : TypeId} {x y : Operand} (h : (isC x || isC y) = true) : (eqGuard op t x y .nilIface .nilIface).run P w = .ok () w := by
  unfold eqGuard
  cases op <;> simp <;> (cases x <;> cases y <;> simp_all [isC])
theorem bin_go (h : HRel w0 ρ fz σ w) {op : BinOp} {t : TypeId} {ox oy : Operand} {u v : Value} {K : AV → AHeap → Prop} {r : AV} {q : Value}
    (hg : (∀ i j, u = .agg i → v ≠ .agg j) ∧ (u = .nilIface → v ≠ .nilIface)) (hr : (binOp op t u v).run P w = .ok q w) (hR : R ρ σ fz w r q) (hK : K r σ) :
    SemOK P w0 ρ fz σ w (do eqGuard op t ox oy u v; binOp op t u v) K :=
  SemOK.of_same h (by simp [eqGuard_plain (P := P) (w := w) op t ox oy hg, hr]) hR hK

theorem dbl_nan {b : Nat} (h : Ieee.double.order b b = none) : ∃ s f, Ieee.double.read b = .nan s f := by
  unfold Ieee.Format.order at h
  cases hr : Ieee.double.read b with
  | nan s f => exact ⟨s, f, rfl⟩
  | infinity s => rw [hr] at h; cases h
  | number s m e => rw [hr] at h; cases h
theorem nan_none {a b : Nat} (h : Ieee.double.order a a = none ∨ Ieee.double.order b b = none) : Ieee.double.order a b = none ∧ Ieee.double.add a b = none ∧ Ieee.double.sub a b = none ∧ Ieee.double.mul a b = none ∧ Ieee.double.div a b = none := by
  unfold Ieee.Format.order Ieee.Format.add Ieee.Format.sub Ieee.Format.mul Ieee.Format.div
  rcases h with h | h
  · obtain ⟨s, f, hr⟩ := dbl_nan h
    rw [hr]
    exact ⟨rfl, rfl, rfl, rfl, rfl⟩
  · obtain ⟨s, f, hr⟩ := dbl_nan h
    rw [hr]
    cases Ieee.double.read a <;> exact ⟨rfl, rfl, rfl, rfl, rfl⟩
theorem nan_order {b : Nat} (h : 9218868437227405312 < b % 9223372036854775808) : Ieee.double.order b b = none := by
  have hr : ∃ s f, Ieee.double.read b = .nan s f := by
    unfold Ieee.Format.read
    have e1 : Ieee.double.signWeight = 9223372036854775808 := by decide
    have e2 : Ieee.double.binade = 4503599627370496 := by decide
    have e3 : Ieee.double.infRung = 9218868437227405312 := by decide
    simp only [e1, e2, e3]
    rw [if_neg (by omega), if_neg (by omega), if_neg (by omega)]
    exact ⟨_, _, rfl⟩
  obtain ⟨s, f, hr⟩ := hr
  unfold Ieee.Format.order
  rw [hr]; rfl
theorem nan_cut (x y t : Nat) : nanW (Question.cut (.nanBits .f64 x y) t) := by
  have e : Question.cut (.nanBits .f64 x y) t = (t % 2) * 9223372036854775808 + 9218868437227405312 + 1 + (t / 2) % 4503599627370495 := rfl
  rw [e]
  have h1 : (t / 2) % 4503599627370495 < 4503599627370495 := Nat.mod_lt _ (by decide)
  have h2 : t % 2 < 2 := Nat.mod_lt _ (by decide)
  generalize (t / 2) % 4503599627370495 = q at *
  generalize t % 2 = r at *
  exact ⟨by omega, nan_order (by omega)⟩
theorem bin_draw {op : BinOp} {t : TypeId} {a b : Nat} (ho : op = .add ∨ op = .sub ∨ op = .mul ∨ op = .quo) (hn : fltBin op a b = none) :
    ∃ q, nanW q ∧ (binOp op t (.float .f64 a) (.float .f64 b)).run P w = .ok (.float .f64 q) w.drew := by
  have e : FloatKind.f64.format = Ieee.double := rfl
  refine ⟨_, nan_cut a b (w.tape w.drawn (.nanBits .f64 a b)), ?_⟩
  rcases ho with rfl | rfl | rfl | rfl
  all_goals
    simp only [fltBin, Option.map_eq_none_iff] at hn
    simp [binOp, Op.floatArith, e, hn, Question.forced]
theorem nan_go (h : HRel w0 ρ fz σ w) {op : BinOp} {t : TypeId} {ox oy : Operand} {a b : Nat} {K : AV → AHeap → Prop} (ha : Ieee.double.order a a = none ∨ Ieee.double.order b b = none ∨ fltBin op a b = none) (hK : nanK op σ K) :
    SemOK P w0 ρ fz σ w (do eqGuard op t ox oy (.float .f64 a) (.float .f64 b); binOp op t (.float .f64 a) (.float .f64 b)) K := by
  have hd := h.drew
  have hg : (∀ i j, Value.float .f64 a = .agg i → Value.float .f64 b ≠ .agg j) ∧ (Value.float .f64 a = .nilIface → Value.float .f64 b ≠ .nilIface) := by simp
  have hcmp : ∀ q, (∀ c, fltBin op a b = some (.bool c) → c = q) → (∃ c, fltBin op a b = some (.bool c)) → K (.v (.bool q)) σ → SemOK P w0 ρ fz σ w (do eqGuard op t ox oy (.float .f64 a) (.float .f64 b); binOp op t (.float .f64 a) (.float .f64 b)) K := by
    rintro q h1 ⟨c, h2⟩ h3
    have := h1 c h2
    subst this
    exact bin_go h hg (binOp_flt h2) (.lit _) h3
  have har : (op = .add ∨ op = .sub ∨ op = .mul ∨ op = .quo) → fltBin op a b = none → K .nan σ → SemOK P w0 ρ fz σ w (do eqGuard op t ox oy (.float .f64 a) (.float .f64 b); binOp op t (.float .f64 a) (.float .f64 b)) K := by
    intro h1 h2 h3
    obtain ⟨q, hq, hr⟩ := bin_draw (P := P) (w := w) (t := t) h1 h2
    exact ⟨_, w.drew, ρ, fz, .nan, σ, by simp [eqGuard_plain (P := P) (w := w) op t ox oy hg, hr], h3, hd.1, .pure _ _ (.nan q hq), hd.2⟩
  have hnn : Ieee.double.order a a = none ∨ Ieee.double.order b b = none → Ieee.double.order a b = none ∧ Ieee.double.add a b = none ∧ Ieee.double.sub a b = none ∧ Ieee.double.mul a b = none ∧ Ieee.double.div a b = none := nan_none
  have hc : ∀ q, (∃ c, fltBin op a b = some (.bool c)) → (Ieee.double.order a b = none → ∀ c, fltBin op a b = some (.bool c) → c = q) → K (.v (.bool q)) σ → SemOK P w0 ρ fz σ w (do eqGuard op t ox oy (.float .f64 a) (.float .f64 b); binOp op t (.float .f64 a) (.float .f64 b)) K := by
    rintro q ⟨c, h2⟩ h1 h3
    rcases ha with h4 | h4 | h4
    · exact hcmp q (h1 (hnn (.inl h4)).1) ⟨c, h2⟩ h3
    · exact hcmp q (h1 (hnn (.inr h4)).1) ⟨c, h2⟩ h3
    · rw [h4] at h2; cases h2
  have ht : (op = .add ∨ op = .sub ∨ op = .mul ∨ op = .quo) → fltBin op a b = none := by
    intro ho
    rcases ha with h4 | h4 | h4
    · obtain ⟨_, h5, h6, h7, h8⟩ := hnn (.inl h4)
      rcases ho with rfl | rfl | rfl | rfl <;> simp [fltBin, h5, h6, h7, h8]
    · obtain ⟨_, h5, h6, h7, h8⟩ := hnn (.inr h4)
      rcases ho with rfl | rfl | rfl | rfl <;> simp [fltBin, h5, h6, h7, h8]
    · exact h4
  unfold nanK at hK
  split at hK
  · exact hc false ⟨_, rfl⟩ (fun hn c h => by simp only [fltBin, hn] at h; cases h; rfl) hK
  · exact hc false ⟨_, rfl⟩ (fun hn c h => by simp only [fltBin, hn] at h; cases h; rfl) hK
  · exact hc false ⟨_, rfl⟩ (fun hn c h => by simp only [fltBin, hn] at h; cases h; rfl) hK
  · exact hc false ⟨_, rfl⟩ (fun hn c h => by simp only [fltBin, hn] at h; cases h; rfl) hK
  · exact hc false ⟨_, rfl⟩ (fun hn c h => by simp only [fltBin, hn] at h; cases h; rfl) hK
  · exact hc true ⟨_, rfl⟩ (fun hn c h => by simp only [fltBin, hn] at h; cases h; rfl) hK
  · exact har (by simp) (ht (by simp)) hK
  · exact har (by simp) (ht (by simp)) hK
  · exact har (by simp) (ht (by simp)) hK
  · exact har (by simp) (ht (by simp)) hK
  · exact hK.elim
theorem agg2_eq {a b : Value} {v : Value} (h : R ρ σ fz w (.agg [.v a, .v b]) v) : v = .agg #[a, b] := by
  obtain ⟨arr, rfl, hs, _, hR⟩ := h.agg_inv
  have h0 := (hR 0 (by simp)).v_eq
  have h1 := (hR 1 (by simp)).v_eq
  have hs2 : arr.size = 2 := by simpa using hs
  congr 1
  apply Array.ext
  · simp [hs2]
  · intro j hj1 hj2
    have : j = 0 ∨ j = 1 := by omega
    rcases this with rfl | rfl
    · simpa [Array.getD, hs2] using h0
    · simpa [Array.getD, hs2] using h1
theorem bin_ok (h : HRel w0 ρ fz σ w) {op : BinOp} {t : TypeId} {ox oy : Operand} {x y : AV} {u v : Value} (hx : R ρ σ fz w x u) (hy : R ρ σ fz w y v) {K : AV → AHeap → Prop} (hK : aBin P op t (isC ox || isC oy) x y σ K) :
    SemOK P w0 ρ fz σ w (do eqGuard op t ox oy u v; binOp op t u v) K := by
  unfold aBin at hK
  split at hK
  · obtain rfl := hx.v_eq; obtain rfl := hy.v_eq
    split at hK
    · split at hK
      · rename_i r hr
        exact bin_go h (by simp) (binOp_shift hr) (.lit _) hK
      · exact hK.elim
    · rename_i hs
      obtain ⟨rfl, hK⟩ := hK
      split at hK
      · rename_i r hr
        exact bin_go h (by simp) (binOp_int (by simpa using hs) hr) (.lit _) hK
      · exact hK.elim
  · obtain rfl := hx.v_eq; obtain rfl := hy.v_eq
    split at hK
    · rename_i r hr
      exact bin_go h (by simp) (binOp_str hr) (.lit _) hK
    · exact hK.elim
  · obtain rfl := hx.v_eq; obtain rfl := hy.v_eq
    split at hK
    · rename_i r hr
      exact bin_go h (by simp) (binOp_flt hr) (.lit _) hK
    · rename_i hr
      exact nan_go h (.inr (.inr hr)) hK
  · obtain ⟨a, rfl, ha⟩ := hx.nan_inv
    obtain ⟨b, rfl, hb⟩ := hy.nan_inv
    exact nan_go h (.inl ha.2) hK
  · obtain ⟨a, rfl, ha⟩ := hx.nan_inv
    obtain rfl := hy.v_eq
    exact nan_go h (.inl ha.2) hK
  · obtain rfl := hx.v_eq
    obtain ⟨b, rfl, hb⟩ := hy.nan_inv
    exact nan_go h (.inr (.inl hb.2)) hK
  · obtain rfl := hx.v_eq; obtain rfl := hy.v_eq
    obtain ⟨hb, hK⟩ := hK
    have hb' : P.underlying t = some .bool := by unfold isBoolT at hb; split at hb <;> first | assumption | cases hb
    split at hK
    · exact bin_go h (by simp) (by simp only [binOp, Sem.run_bind, equal_bool hb', Result.andThen_ok, Sem.run_pure]) (.lit _) hK
    · exact bin_go h (by simp) (by simp only [binOp, Sem.run_bind, equal_bool hb', Result.andThen_ok, Sem.run_pure]) (.lit _) hK
    · exact hK.elim
  · obtain ⟨hb, hK⟩ := hK
    obtain ⟨e, hb'⟩ : ∃ e, P.underlying t = some (.slice e) := by unfold isSliceT at hb; split at hb <;> first | exact ⟨_, by assumption⟩ | cases hb
    obtain ⟨a, c, b, o, us, rfl, hnl, _⟩ := hx.pl_inv
    obtain ⟨a', c', b', o', us', rfl, hnl', _, _, hcap, _⟩ := hy.pl_inv
    have ha' : a' = none := by cases a' <;> simp at hnl' ⊢
    subst ha'
    have hq := fun n => equal_slice_nil (P := P) (w := w) hb' a n c c'
    split at hK
    · exact bin_go h (by simp) (by simp only [binOp, Sem.run_bind, hq, Result.andThen_ok, Sem.run_pure]; rw [← hnl]) (.lit _) hK
    · exact bin_go h (by simp) (by simp only [binOp, Sem.run_bind, hq, Result.andThen_ok, Sem.run_pure]; rw [← hnl]) (.lit _) hK
    · exact hK.elim
  · obtain ⟨hb, hK⟩ := hK
    obtain ⟨ms, hb'⟩ : ∃ e, P.underlying t = some (.interface e) := by unfold isIfT at hb; split at hb <;> first | exact ⟨_, by assumption⟩ | cases hb
    obtain ⟨a, rfl, _⟩ := hx.ifc_inv
    obtain rfl := hy.v_eq
    have hq := fun tx => equal_if_nil (P := P) (w := w) (tx := tx) hb' a
    split at hK
    · exact bin_go h (by simp) (by simp only [binOp, Sem.run_bind, hq, Result.andThen_ok, Sem.run_pure]) (.lit _) hK
    · exact bin_go h (by simp) (by simp only [binOp, Sem.run_bind, hq, Result.andThen_ok, Sem.run_pure]; rfl) (.lit _) hK
    · exact hK.elim
  · obtain ⟨⟨hc, hb⟩, hK⟩ := hK
    obtain ⟨ms, hb'⟩ : ∃ e, P.underlying t = some (.interface e) := by unfold isIfT at hb; split at hb <;> first | exact ⟨_, by assumption⟩ | cases hb
    obtain rfl := hx.v_eq
    obtain rfl := hy.v_eq
    have hq := equal_nil_nil (P := P) (w := w) hb'
    have hg := fun op => eqGuard_nil (P := P) (w := w) (op := op) (t := t) hc
    split at hK
    · exact SemOK.of_same h (by simp only [Sem.run_bind, hg, Result.andThen_ok, binOp, hq, Sem.run_pure]) (.lit (.bool true)) hK
    · exact SemOK.of_same h (by simp only [Sem.run_bind, hg, Result.andThen_ok, binOp, hq, Sem.run_pure]; rfl) (.lit (.bool false)) hK
    · exact hK.elim
  · obtain ⟨hb, hK⟩ := hK
    rw [agg2_eq hx, agg2_eq hy]
    split at hK
    · exact SemOK.of_same h (pair_run hb _ _ _ _ ox oy) (.lit _) hK
    · exact hK.elim
  · exact hK.elim

/-! ### Type assertions to a type that is no interface -/
def noIfT (P : Program) (t : TypeId) : Bool := match P.underlying t with | some (.interface _) => false | some _ => true | none => false
/-- A type's zero value, where it is of many cells, or none. -/
def zaT (P : Program) (t : TypeId) : Option AV := match (P.info? t).bind (·.zero) with
  | some (.agg cs) => if cs.all (·.oneCell') then some (.agg (cs.toList.map cav1)) else none
  | _ => none
theorem zaT_ok {t : TypeId} {z : AV} (h : zaT P t = some z) : ∃ v, (zeroValue t).run P w = .ok v w ∧ R ρ σ fz w z v := by
  unfold zaT at h
  split at h
  · rename_i cs hz
    split at h
    · rename_i hall
      cases h
      obtain ⟨i, hi, hz⟩ := Option.bind_eq_some_iff.1 hz
      refine ⟨.agg cs, by simp [zeroValue, typeInfo, hi, hz], .agg _ _ (by simp) (fun j hj => ?_) (fun j hj => ?_)⟩
      · simp at hj
        have := Array.all_eq_true.1 hall j hj
        simpa [Array.getD, hj] using this
      · simp at hj
        simpa [Array.getD, hj] using R.pure (ρ := ρ) (σ := σ) _ _ (cav1_ok (fz := fz) (w := w) cs[j])
    · cases h
  · cases h
def aTypeAssert (P : Program) (x : AV) (t : TypeId) (ck : Bool) (σ : AHeap) (K : AV → AHeap → Prop) : Prop :=
  match x with
  | .ifc tx y => (ck = true ∧ noIfT P t = true) ∧ if tx = t then K (.tup [y, .v (.bool true)]) σ else match zaT P t with
    | some z => K (.tup [z, .v (.bool false)]) σ
    | none => False
  | _ => False
theorem typeAssert_ok (h : HRel w0 ρ fz σ w) {xT t : TypeId} {ck : Bool} {x : AV} {v : Value} (hx : R ρ σ fz w x v) {K : AV → AHeap → Prop} (hK : aTypeAssert P x t ck σ K) :
    SemOK P w0 ρ fz σ w (Instr.typeAssert v xT t ck) K := by
  unfold aTypeAssert at hK
  split at hK
  · rename_i tx y
    obtain ⟨⟨rfl, hn⟩, hK⟩ := hK
    obtain ⟨u, rfl, hu⟩ := hx.ifc_inv
    obtain ⟨d, hd, hni⟩ : ∃ d, P.underlying t = some d ∧ ∀ ms, d ≠ .interface ms := by
      unfold noIfT at hn
      split at hn
      · cases hn
      · rename_i d hnd hd
        exact ⟨d, hd, fun ms hh => hnd ms hh⟩
      · cases hn
    by_cases e : tx = t
    · rw [if_pos e] at hK
      refine SemOK.of_same h (v := .tuple #[u, .bool true]) ?_ (.tup _ _ rfl fun j hj => ?_) hK
      · cases d <;> first | (exact absurd rfl (hni _)) | simp [Instr.typeAssert, run_underlying hd, e]
      · have : j = 0 ∨ j = 1 := by simp at hj; omega
        rcases this with rfl | rfl
        · exact hu
        · exact .lit _
    · rw [if_neg e] at hK
      split at hK
      · rename_i z hz
        obtain ⟨v, hv, hR⟩ := zaT_ok (P := P) (ρ := ρ) (σ := σ) (fz := fz) (w := w) hz
        refine SemOK.of_same h (v := .tuple #[v, .bool false]) ?_ (.tup _ _ rfl fun j hj => ?_) hK
        · cases d <;> first | (exact absurd rfl (hni _)) | simp [Instr.typeAssert, run_underlying hd, e, hv]
        · have : j = 0 ∨ j = 1 := by simp at hj; omega
          rcases this with rfl | rfl
          · exact hR
          · exact .lit _
      · exact hK.elim
  · exact hK.elim

def aUn (op : UnOp) (x : AV) (σ : AHeap) (K : AV → AHeap → Prop) : Prop :=
  match op, x with
  | .neg, .v (.int k n) => K (.v (.int k (k.wrap (0 - n)))) σ
  | .not, .v (.bool b) => K (.v (.bool (!b))) σ
  | .xor, .v (.int k n) => K (.v (.int k (k.wrap (BitVec.ofInt k.bits (if k.signed then -1 else k.max) ^^^ BitVec.ofInt k.bits n).toNat))) σ
  | .neg, .v (.float k b) => K (.v (.float k (Op.negFloat k b))) σ
  | _, _ => False

theorem un_ok (h : HRel w0 ρ fz σ w) {op : UnOp} {x : AV} {u : Value} (hx : R ρ σ fz w x u) {K : AV → AHeap → Prop} (hK : aUn op x σ K) :
    SemOK P w0 ρ fz σ w (Op.unary op u) K := by
  unfold aUn at hK
  split at hK <;> first
    | exact hK.elim
    | (rw [hx.v_eq]; exact SemOK.of_same h (by simp [Op.unary, Op.intArith, Op.intBits]; try rfl) (.lit _) hK)

def intT (P : Program) (t : TypeId) : Option IntKind := match P.underlying t with | some (.int k) => some k | _ => none

def aConv (P : Program) (src dst : TypeId) (x : AV) (σ : AHeap) (K : AV → AHeap → Prop) : Prop :=
  (P.underlying src).isSome = true ∧
  match P.underlying dst, x with
  | some (.int k), .v (.int _ n) => K (.v (.int k (k.wrap n))) σ
  | some (.float k), .v (.int _ n) => K (.v (.float k (k.nearest n))) σ
  | some (.float .f64), .v (.float .f64 b) => K (.v (.float .f64 b)) σ
  | some .string, .v (.string s) => K (.v (.string s)) σ
  | some (.int k), .v (.float .f64 b) => match floatToIntVal .f64 b k with
    | some n => K (.v (.int k n)) σ
    | none => False
  | _, _ => False

theorem conv_ok (h : HRel w0 ρ fz σ w) {src dst : TypeId} {x : AV} {u : Value} (hx : R ρ σ fz w x u) {K : AV → AHeap → Prop} (hK : aConv P src dst x σ K) :
    SemOK P w0 ρ fz σ w (convert src dst u) K := by
  obtain ⟨hs, hK⟩ := hK
  obtain ⟨d, hd⟩ := Option.isSome_iff_exists.1 hs
  split at hK <;> first
    | exact hK.elim
    | (rename_i hdst
       rw [hx.v_eq]
       refine SemOK.of_same h ?_ (.lit _) hK
       cases d <;> simp [convert, run_underlying hd, run_underlying hdst, Conv.intToInt, Conv.intToFloat, Conv.floatToFloat]; done)
    | (rename_i hdst
       rw [hx.v_eq]
       split at hK
       · rename_i n hn
         exact SemOK.of_same h (run_convert_float_int w _ _ _ _ _ _ hs hdst hn) (.lit _) hK
       · exact hK.elim)

def aMin (x y : AV) (σ : AHeap) (K : AV → AHeap → Prop) : Prop :=
  match x, y with
  | .v (.int k a), .v (.int _ b) => K (.v (.int k (if b < a then b else a))) σ
  | _, _ => False
def aMax (x y : AV) (σ : AHeap) (K : AV → AHeap → Prop) : Prop :=
  match x, y with
  | .v (.int k a), .v (.int _ b) => K (.v (.int k (if b > a then b else a))) σ
  | _, _ => False
theorem max_ok (h : HRel w0 ρ fz σ w) {ts : Array TypeId} {ty : TypeId} {x y : AV} {u v : Value} (hx : R ρ σ fz w x u) (hy : R ρ σ fz w y v) {K : AV → AHeap → Prop} (hK : aMax x y σ K) :
    SemOK P w0 ρ fz σ w (Builtin.max_ ts ty #[u, v]) K := by
  unfold aMax at hK
  split at hK <;> first
    | exact hK.elim
    | (rw [hx.v_eq, hy.v_eq]; exact SemOK.of_same h (by simp [Builtin.max_, Builtin.max2]) (.lit _) hK)
theorem min_ok (h : HRel w0 ρ fz σ w) {ts : Array TypeId} {ty : TypeId} {x y : AV} {u v : Value} (hx : R ρ σ fz w x u) (hy : R ρ σ fz w y v) {K : AV → AHeap → Prop} (hK : aMin x y σ K) :
    SemOK P w0 ρ fz σ w (Builtin.min_ ts ty #[u, v]) K := by
  unfold aMin at hK
  split at hK <;> first
    | exact hK.elim
    | (rw [hx.v_eq, hy.v_eq]; exact SemOK.of_same h (by simp [Builtin.min_, Builtin.min2]) (.lit _) hK)
end
end Go.Proofs.Va
/- VA, part 7: append and copy. -/
set_option linter.unusedVariables false
set_option linter.unusedSimpArgs false
namespace Go.Proofs.Va
open Go Go.RowKit

section
variable {P : Program} {w0 : World} {ρ : Nat → Nat × Nat} {σ : AHeap} {fz : Nat → Prop} {w : World}

/-- A block of the call's own gets a later version: in another place of the same row, or in a new row. -/
theorem HRel.renew (h : HRel w0 ρ fz σ w) {i : Nat} {b : ABlk} (hb : σ[i]? = some b) (hk : b.kind = .own) (g o : Nat) (cs : List AV) {w' : World} {cells : Array Value} {e : TypeId}
    (hos : w'.os = w.os) (htp : w'.tape = w.tape) (hout : w'.output = w.output) (hsize : w.heap.size ≤ w'.heap.size)
    (hg : g = (ρ i).1 ∨ w.heap.size ≤ g) (hself : w'.heap[g]? = some (.cells cells e (0, 0)))
    (hother : ∀ k, k < w.heap.size → k ≠ (ρ i).1 → w'.heap[k]? = w.heap[k]?)
    (hcells : ∀ (c : Array Value) (e : TypeId) (fr : Nat × Nat), w.heap[(ρ i).1]? = some (.cells c e fr) → ∃ c' fr', w'.heap[(ρ i).1]? = some (.cells c' e fr') ∧ c'.size = c.size)
    (hroom : o + cs.length ≤ cells.size)
    (hc : ∀ j (hj : j < cs.length), ∃ u, cells[o + j]? = some u ∧ u.oneCell' = true ∧ R ρ σ fz w cs[j] u) :
    HRel w0 (upd ρ i (g, o)) fz (σ.set i ⟨.own, b.ver + 1, cs⟩) w' ∧ Ev w0 σ.length ρ σ fz w (upd ρ i (g, o)) (σ.set i ⟨.own, b.ver + 1, cs⟩) fz w' := by
  have hi : i < σ.length := (List.getElem?_eq_some_iff.1 hb).1
  obtain ⟨c0, e0, hw, hbase, hl0, hnf, _, _⟩ := h.blk i b hb (by rw [hk]; decide)
  have hnf := hnf hk
  have hle := h.le
  have lt : ∀ {k : Nat} {ob : Obj}, w.heap[k]? = some ob → k < w.heap.size := fun hk => (Array.getElem?_eq_some_iff.1 hk).1
  have hgbase : w0.heap.size ≤ g := by rcases hg with rfl | hg <;> omega
  have hgf : ¬ fz g := by
    rcases hg with rfl | hg
    · exact hnf
    · intro hf; have := h.fzlt g hf; omega
  have E : Ev w0 σ.length ρ σ fz w (upd ρ i (g, o)) (σ.set i ⟨.own, b.ver + 1, cs⟩) fz w' := by
    refine ⟨Nat.le_refl _, by simp, ?_, fun _ h => h, fun _ h => .inl h, fun k hf => hother k (h.fzlt k hf) (fun hh => hnf (hh ▸ hf)), hsize, ?_, ?_⟩
    · intro k hk' b1 b2 h1 h2
      by_cases hik : k = i
      · subst hik
        rw [hb] at h1; cases h1
        rw [List.getElem?_set_self hi] at h2; cases h2
        exact ⟨Nat.le_succ _, fun hh => absurd hh (by simp)⟩
      · rw [List.getElem?_set_ne (by omega), h1] at h2; cases h2
        exact ⟨Nat.le_refl _, fun _ hd => ⟨hd, upd_other hik⟩⟩
    · intro k ob hko ho
      refine (hother k (lt hko) fun hh => ?_).trans hko
      subst hh; rw [hw] at hko; cases hko; cases ho
    · intro k c el fr hkc
      by_cases hh : k = (ρ i).1
      · subst hh; exact hcells c el fr hkc
      · exact ⟨c, fr, (hother k (lt hkc) hh).trans hkc, rfl⟩
  refine ⟨⟨h.below.trans ⟨hos, htp, hout, hsize, fun k hk' => hother k (by omega) (by omega)⟩, ⟨fun k hf => Nat.lt_of_lt_of_le (h.fzlt k hf) hsize, h.fzlt.gl.keep E.fzm E.fzs⟩, ?_, ?_⟩, E⟩
  · intro k blk hkb hd
    by_cases hik : k = i
    · subst hik
      rw [List.getElem?_set_self hi] at hkb; cases hkb
      rw [upd_same]
      refine ⟨cells, e, hself, hgbase, hroom, fun _ => hgf, fun hro => by simp at hro, fun j hj => ?_⟩
      obtain ⟨u, hu, h1, hR⟩ := hc j hj
      exact ⟨u, hu, h1, hR.ev E hR.sc⟩
    · rw [List.getElem?_set_ne (by omega)] at hkb
      obtain ⟨c1, e1, h1, h2, hs, h3, h4, h5⟩ := h.blk k blk hkb hd
      rw [upd_other hik]
      have hne : (ρ k).1 ≠ (ρ i).1 := by
        intro hh
        cases hkk : blk.kind with
        | own => exact hik (h.inj k i blk b hkb hb hkk hk hh)
        | ro => exact hnf (hh ▸ h4 hkk)
        | dead => exact hd hkk
      refine ⟨c1, e1, (hother _ (lt h1) hne).trans h1, h2, hs, h3, h4, fun j hj => ?_⟩
      obtain ⟨u, hu, h1, hR⟩ := h5 j hj
      exact ⟨u, hu, h1, hR.ev E hR.sc⟩
  · intro p q bp bq hp hq kp kq he
    have aux : ∀ (p : Nat) (bp : ABlk), (σ.set i ⟨.own, b.ver + 1, cs⟩)[p]? = some bp → bp.kind = .own → ∃ b', σ[p]? = some b' ∧ b'.kind = .own := by
      intro p bp hp kp
      by_cases hpi : p = i
      · subst hpi; exact ⟨b, hb, hk⟩
      · rw [List.getElem?_set_ne (by omega)] at hp; exact ⟨bp, hp, kp⟩
    obtain ⟨b1, h1, k1⟩ := aux p bp hp kp
    obtain ⟨b2, h2, k2⟩ := aux q bq hq kq
    by_cases hpi : p = i <;> by_cases hqi : q = i
    · omega
    · exfalso
      subst hpi
      rw [upd_same, upd_other hqi] at he
      obtain ⟨_, _, h3, _, _, _⟩ := h.blk q b2 h2 (by rw [k2]; decide)
      have := lt h3
      rcases hg with rfl | hg
      · exact hqi (h.inj q p b2 b1 h2 h1 k2 k1 he.symm)
      · have he' : g = (ρ q).1 := he
        omega
    · exfalso
      subst hqi
      rw [upd_same, upd_other hpi] at he
      obtain ⟨_, _, h3, _, _, _⟩ := h.blk p b1 h1 (by rw [k1]; decide)
      have := lt h3
      rcases hg with rfl | hg
      · exact hpi (h.inj p q b1 b2 h1 h2 k1 k2 he)
      · have he' : (ρ p).1 = g := he
        omega
    · rw [upd_other hpi, upd_other hqi] at he
      exact h.inj p q b1 b2 h1 h2 k1 k2 he

/-! ### What is appended, or copied -/
/-- The cells of what is appended, and how many elements they are. -/
def srcC (sz : Nat) (u8 : Bool) (σ : AHeap) : AV → Option (List AV × Nat)
  | .pl _ cs n _ => if u8 = false ∧ cs.length = n * sz then some (cs, n) else none
  | .so i ver off n _ _ => match σ[i]? with
    | some b => if u8 = false ∧ b.ver = ver ∧ b.kind ≠ .dead ∧ off + n * sz ≤ b.cells.length then some ((b.cells.drop off).take (n * sz), n) else none
    | none => none
  | .v (.string s) => if u8 then some (s.data.toList.map fun b => .v (.int .u8 b.toNat), s.size) else none
  | _ => none

def srcT (P : Program) (t : TypeId) : Option Bool := match P.underlying t with | some (.slice _) => some false | some .string => some true | _ => none

theorem src_ok (h : HRel w0 ρ fz σ w) {sz : Nat} {u8 : Bool} {t : TypeId} {y : AV} {v : Value} {ys : List AV} {m : Nat} (hy : R ρ σ fz w y v) (hs : srcC sz u8 σ y = some (ys, m)) (ht : srcT P t = some u8) (h1 : u8 = true → sz = 1) :
    ∃ news, Src P sz t v m news w ∧ news.length = ys.length ∧ ys.length = m * sz ∧ (∀ j, j < ys.length → (news.getD j undef).oneCell' = true) ∧ ∀ j (hj : j < ys.length), R ρ σ fz w ys[j] (news.getD j undef) := by
  unfold srcT at ht
  cases y with
  | pl nl cs n cap =>
    obtain ⟨a, c, b, o, us, rfl, hnl, hn, hc, hcap, ha, hfz, hcell, hone, hR⟩ := hy.pl_inv
    simp only [srcC] at hs
    split at hs
    · rename_i hlen
      obtain ⟨rfl, hlen⟩ := hlen
      cases hs
      have hgd : ∀ j, j < ys.length → ((List.range ys.length).map us).getD j undef = us j := fun j hj => by simp [List.getD, hj]
      refine ⟨(List.range ys.length).map us, ?_, by simp, hlen, fun j hj => by rw [hgd j hj]; exact hone j hj, fun j hj => by rw [hgd j hj]; exact .pure _ _ (hR j hj)⟩
      split at ht
      · rename_i e' hk
        rcases Nat.eq_zero_or_pos ys.length with h0 | h0
        · have hnil : ys = [] := List.eq_nil_of_length_eq_zero h0
          subst hnil
          cases a with
          | none =>
            have := hn rfl
            have hm0 : m = 0 := by omega
            subst hm0; subst this
            exact Src.ofNil w hk 0
          | some ad => exact Src.ofSlice w hk ad m c _ (by simpa using hlen) (fun j u hu => by simp at hu) (fun u hu => by simp at hu)
        · rw [ha h0]
          refine Src.ofSlice w hk _ m c _ (by simpa using hlen) (fun j u hu => ?_) (fun u hu => ?_)
          · have hj : j < ys.length := by have := (List.getElem?_eq_some_iff.1 hu).1; simpa using this
            rw [List.getElem?_map, List.getElem?_range hj] at hu
            cases hu
            rw [add_lit]; exact hcell j hj
          · obtain ⟨j, hj, rfl⟩ := List.mem_map.1 hu
            exact hone j (by simpa using hj)
      · cases ht
      · cases ht
    · cases hs
  | so i ver off n s2 cap =>
    obtain ⟨b, hb, hle, _, hval⟩ := hy.so_inv
    simp only [srcC, hb] at hs
    split at hs
    · rename_i hcond
      obtain ⟨rfl, hv, hd, hlen⟩ := hcond
      cases hs
      obtain ⟨a, c, rfl, hnc, hcap, ha, hroom⟩ := hval hv hd
      obtain ⟨cells, e, hw, hbase, hl, _, _, hc⟩ := h.blk i b hb hd
      have hll : ((b.cells.drop off).take (m * sz)).length = m * sz := by simp; omega
      have hget : ∀ j, j < m * sz → ∃ u, cells[(ρ i).2 + (off + j)]? = some u ∧ u.oneCell' = true ∧ ∀ hj, R ρ σ fz w (((b.cells.drop off).take (m * sz))[j]'hj) u := fun j hj => by
        obtain ⟨u, hu, h1, hR⟩ := hc (off + j) (by omega)
        exact ⟨u, hu, h1, fun hj => by simpa using hR⟩
      let us : Nat → Value := fun j => cells.getD ((ρ i).2 + (off + j)) undef
      have hus : ∀ j, j < m * sz → cells[(ρ i).2 + (off + j)]? = some (us j) := fun j hj => by
        obtain ⟨u, hu, _, _⟩ := hget j hj
        exact get_of_getD (Array.getElem?_eq_some_iff.1 hu).1
      have hgd : ∀ j, j < m * sz → ((List.range (m * sz)).map us).getD j undef = us j := fun j hj => by simp [List.getD, hj]
      have hone : ∀ j, j < m * sz → (us j).oneCell' = true := fun j hj => by
        obtain ⟨u, hu, h1, _⟩ := hget j hj
        rw [hus j hj] at hu; cases hu; exact h1
      have hcell : ∀ j, j < m * sz → w.cell? ⟨(ρ i).1, (ρ i).2 + off + j, none⟩ = some (us j) := fun j hj => by
        have := hus j hj
        rw [← Nat.add_assoc] at this
        simp [World.cell?, hw, this]
      refine ⟨(List.range (m * sz)).map us, ?_, by rw [hll]; simp, hll, fun j hj => ?_, fun j hj => ?_⟩
      · split at ht
        · rename_i e' hk
          rcases Nat.eq_zero_or_pos (m * sz) with h0 | h0
          · refine Src.ofSlice w hk a m c _ (by simp) (fun j u hu => ?_) (fun u hu => ?_)
            · rw [h0] at hu; simp at hu
            · rw [h0] at hu; simp at hu
          · have : 0 < c := by
              rcases Nat.eq_zero_or_pos c with hc0 | hc0
              · have : m = 0 := by omega
                subst this; simp at h0
              · exact hc0
            rw [ha this]
            refine Src.ofSlice w hk _ m c _ (by simp) (fun j u hu => ?_) (fun u hu => ?_)
            · have hj : j < m * sz := by have := (List.getElem?_eq_some_iff.1 hu).1; simpa using this
              rw [List.getElem?_map, List.getElem?_range hj] at hu
              cases hu
              rw [add_lit]; exact hcell j hj
            · obtain ⟨j, hj, rfl⟩ := List.mem_map.1 hu
              exact hone j (by simpa using hj)
        · cases ht
        · cases ht
      · rw [hll] at hj; rw [hgd j hj]; exact hone j hj
      · have hj' : j < m * sz := by rwa [hll] at hj
        rw [hgd j hj']
        obtain ⟨u, hu, h1, hR⟩ := hget j hj'
        rw [hus j hj'] at hu; cases hu; exact hR hj
    · cases hs
  | v x =>
    cases x <;> try (simp [srcC] at hs; done)
    rename_i s
    simp only [srcC] at hs
    split at hs
    · rename_i hu8
      cases hs
      subst hu8
      have hsz := h1 rfl
      subst hsz
      obtain rfl := hy.v_eq
      split at ht
      · cases ht
      · rename_i hk
        have hlen : (s.data.toList.map fun b => AV.v (.int .u8 b.toNat)).length = s.size := by
          simp
        have hlen2 : (byteCells s).length = s.data.toList.length := by simp [byteCells]
        refine ⟨byteCells s, Src.ofString w hk s, by rw [byteCells_length, hlen], by rw [hlen, Nat.mul_one], fun j hj => ?_, fun j hj => ?_⟩
        · rw [List.length_map] at hj
          simp [byteCells, List.getD, List.getElem?_eq_getElem hj]; rfl
        · have hj' := hj
          rw [List.length_map] at hj'
          have : (byteCells s).getD j undef = .int .u8 (s.data.toList[j]'hj').toNat := by simp [byteCells, List.getD, List.getElem?_eq_getElem hj']
          rw [this]
          simp only [List.getElem_map]
          exact .lit _
      · cases ht
    · cases hs
  | _ => simp [srcC] at hs

/-! ### append -/
def aAppend (P : Program) (t tx : TypeId) (x y : AV) (σ : AHeap) (K : AV → AHeap → Prop) : Prop :=
  match elT P t, srcT P tx with
  | some (_, e), some u8 => match srcC e.sz u8 σ y with
    | some (ys, m) => (u8 = true → e.sz = 1) ∧ match x with
      | .pl nl cs n (some c) => cs.length = n * e.sz ∧ (n + m) * (e.bytes + 1) ≤ 140737488355328 ∧ if n + m ≤ c then m = 0 ∧ K (.pl nl cs n (some c)) σ
          else K (.so σ.length 0 0 (n + m) e.sz none) (σ ++ [⟨.own, 0, cs ++ ys⟩])
      | .so i ver off n sz cap => match σ[i]? with
        | some b => b.ver = ver ∧ b.kind ≠ .dead ∧ sz = e.sz ∧ off + n * sz ≤ b.cells.length ∧ (n + m) * (e.bytes + 1) ≤ 140737488355328 ∧ match cap with
          | none => b.kind = .own ∧ K (.so i (b.ver + 1) 0 (n + m) sz none) (σ.set i ⟨.own, b.ver + 1, (b.cells.drop off).take (n * sz) ++ ys⟩)
          | some c => if n + m ≤ c then b.kind = .own ∧ K (.so i (b.ver + 1) 0 (n + m) sz none) (σ.set i ⟨.own, b.ver + 1, (b.cells.drop off).take (n * sz) ++ ys⟩)
              else ∀ c', n + m ≤ c' → K (.so σ.length 0 0 (n + m) sz (some c')) (σ ++ [⟨.own, 0, (b.cells.drop off).take (n * sz) ++ ys ++ reps (c' - (n + m)) e.zero⟩])
        | none => False
      | _ => False
    | none => False
  | _, _ => False

theorem getD_join {Rr : AV → Value → Prop} {A B : List AV} {a b : Array Value} (ha : a.size = A.length) (hb : b.size = B.length) (h1 : ∀ j (hj : j < A.length), (a.getD j undef).oneCell' = true ∧ Rr A[j] (a.getD j undef))
    (h2 : ∀ j (hj : j < B.length), (b.getD j undef).oneCell' = true ∧ Rr B[j] (b.getD j undef)) : ∀ j (hj : j < (A ++ B).length), ((a ++ b).getD j undef).oneCell' = true ∧ Rr (A ++ B)[j] ((a ++ b).getD j undef) := by
  intro j hj
  rw [List.length_append] at hj
  rcases Nat.lt_or_ge j A.length with hj1 | hj1
  · have e : (a ++ b).getD j undef = a.getD j undef := by
      simp only [Array.getD_eq_getD_getElem?]; rw [Array.getElem?_append_left (by omega)]
    rw [e, List.getElem_append_left hj1]; exact h1 j hj1
  · have e : (a ++ b).getD j undef = b.getD (j - A.length) undef := by
      simp only [Array.getD_eq_getD_getElem?]; rw [Array.getElem?_append_right (by omega), ha]
    rw [e, List.getElem_append_right hj1]; exact h2 _ (by omega)

theorem append_room_run {t tx ty e : TypeId} {i : TypeInfo} (ht : P.underlying t = some (.slice e)) (hi : P.info? e = some i) {a : Addr} {n c m : Nat} {x : Value} {news : List Value}
    (hs : Src P i.size tx x m news w) (hroom : n + m ≤ c) {w' : World} (hst : (storeCells (a.add (n * i.size)) news).run P w = .ok () w') :
    (Builtin.append_ #[t, tx] ty #[.slice (some a) n c, x]).run P w = .ok (.slice (some a) (n + m) c) w' := by
  rcases hs.kind with ⟨e', hk⟩ | hk <;> simp [Builtin.append_, run_underlying ht, run_underlying hk, sizeOf, typeInfo, hi, hs.len, hroom, hs.cells, hst]

theorem fits_bytes {n b : Nat} (h : n * (b + 1) ≤ 140737488355328) : n * b ≤ 140737488355328 ∧ n ≤ 140737488355328 := by
  have : n * (b + 1) = n * b + n := Nat.mul_succ n b
  omega

theorem grownCap_ge (w : World) (need old : Nat) (e : TypeId) : need ≤ grownCap w need old e := by simp [grownCap, Question.cut]

theorem join_ok {Rr : AV → Value → Prop} {cs ys : List AV} {olds news : List Value} (rest : Array Value) (hl1 : olds.length = cs.length) (hl2 : news.length = ys.length)
    (h1 : ∀ j, j < cs.length → (olds.getD j undef).oneCell' = true) (hR1 : ∀ j (hj : j < cs.length), Rr cs[j] (olds.getD j undef))
    (h2 : ∀ j, j < ys.length → (news.getD j undef).oneCell' = true) (hR2 : ∀ j (hj : j < ys.length), Rr ys[j] (news.getD j undef)) :
    ∀ j (hj : j < (cs ++ ys).length), (((olds ++ news).toArray ++ rest).getD j undef).oneCell' = true ∧ Rr (cs ++ ys)[j] (((olds ++ news).toArray ++ rest).getD j undef) := by
  intro j hj
  rw [List.length_append] at hj
  have hg : ((olds ++ news).toArray ++ rest).getD j undef = (olds ++ news).getD j undef := by
    simp only [Array.getD_eq_getD_getElem?, List.getD_eq_getElem?_getD]
    rw [Array.getElem?_append_left (by simp; omega)]
    simp
  rw [hg]
  rcases Nat.lt_or_ge j cs.length with hj1 | hj1
  · have e : (olds ++ news).getD j undef = olds.getD j undef := by
      simp only [List.getD_eq_getElem?_getD]; rw [List.getElem?_append_left (by omega)]
    rw [e, List.getElem_append_left hj1]
    exact ⟨h1 j hj1, hR1 j hj1⟩
  · have e : (olds ++ news).getD j undef = news.getD (j - cs.length) undef := by
      simp only [List.getD_eq_getElem?_getD]; rw [List.getElem?_append_right (by omega), hl1]
    rw [e, List.getElem_append_right hj1]
    exact ⟨h2 _ (by omega), hR2 _ (by omega)⟩

theorem grown_size {z : Value} {sz n m g : Nat} {olds news : List Value} (hzs : z.cells.size = sz) (ho : olds.length = n * sz) (hn : news.length = m * sz) (hg : n + m ≤ g) :
    ((olds ++ news).toArray ++ Builtin.zeroCells z.cells (g - (n + m))).size = g * sz := by
  have hzc : (Builtin.zeroCells z.cells (g - (n + m))).size = (g - (n + m)) * sz := by simp [Builtin.zeroCells, hzs]
  simp only [Array.size_append, List.size_toArray, List.length_append, hzc, hn, ho]
  rw [← Nat.add_mul, ← Nat.add_mul, show n + m + (g - (n + m)) = g by omega]

theorem append_ok (h : HRel w0 ρ fz σ w) {t tx ty : TypeId} {x y : AV} {u v : Value} (hx : R ρ σ fz w x u) (hy : R ρ σ fz w y v) {K : AV → AHeap → Prop} (hK : aAppend P t tx x y σ K) :
    SemOK P w0 ρ fz σ w (Builtin.append_ #[t, tx] ty #[u, v]) K := by
  unfold aAppend at hK
  split at hK
  · rename_i e q u8 he htx
    split at hK
    · rename_i ys m hys
      obtain ⟨hu8, hK⟩ := hK
      obtain ⟨hu, i, hi, hsz, hby, hzl, h0, z, hz0, hz, hzs, hz1, hzR⟩ := elT_ok he
      obtain ⟨news, hsrc, hnl, hyl, hn1, hnR⟩ := src_ok (P := P) h hy hys htx hu8
      rw [← hsz] at hsrc
      split at hK
      · -- a slice without a block of its own, its capacity known
        rename_i nl cs n c
        obtain ⟨hcl, hfit, hK⟩ := hK
        obtain ⟨hin, hgrow⟩ := ite_and.1 hK
        obtain ⟨hf1, hf2⟩ := fits_bytes hfit
        obtain ⟨a, c', b, o, us, rfl, hnil, hn, hc, hcap, ha, hfz, hcell, h1, hR⟩ := hx.pl_inv
        have := hcap c rfl
        subst this
        rcases Nat.lt_or_ge c' (n + m) with hlt | hge
        · have hK := hgrow (by omega)
          let olds : List Value := (List.range cs.length).map us
          have hol : olds.length = cs.length := by simp [olds]
          have hgd : ∀ j, j < cs.length → olds.getD j undef = us j := fun j hj => by simp [olds, List.getD, hj]
          have hold : (Builtin.firstCells i.size n (.slice a n c')).run P w.drew = .ok olds.toArray w.drew := by
            rw [hsz]
            rcases Nat.eq_zero_or_pos cs.length with hz | hz
            · have : olds = [] := by simp [olds, hz]
              rw [this]
              cases a with
              | none => exact run_firstCells_none w.drew q.sz n n c'
              | some ad => exact run_firstCells_some w.drew q.sz n ad n c' [] (by simp; omega) (fun j u hu => by simp at hu)
            · rw [ha hz]
              refine run_firstCells_some w.drew q.sz n _ n c' olds (by simp [olds]; omega) (fun j u hu => ?_)
              have hj : j < cs.length := by have := (List.getElem?_eq_some_iff.1 hu).1; simpa [olds] using this
              simp only [olds, List.getElem?_map, List.getElem?_range hj] at hu
              cases hu
              rw [add_lit]; exact hcell j hj
          have hrun := run_append_grow_src (P := P) w t tx ty e i z hu hi hz0 a n c' olds hold v m news hsrc hlt (by omega) (growslice_fits hlt (by rw [hby]; exact hf1))
          obtain ⟨hd, hEd⟩ := h.drew
          have hge := grownCap_ge w (n + m) c' e
          have hjoin := join_ok (Rr := R ρ σ fz w.drew) (Builtin.zeroCells z.cells (grownCap w (n + m) c' e - (n + m))) hol hnl (fun j hj => by rw [hgd j hj]; exact h1 j hj)
            (fun j hj => by rw [hgd j hj]; exact (R.pure _ _ (hR j hj)).ev hEd ((hR j hj).sc _)) hn1 (fun j hj => (hnR j hj).ev hEd (hnR j hj).sc)
          have hgs := grown_size (g := grownCap w (n + m) c' e) hzs (hol.trans hcl) (hnl.trans hyl) hge
          obtain ⟨hp, hEp⟩ := newRow_ok hd (cs ++ ys) ((olds ++ news).toArray ++ Builtin.zeroCells z.cells (grownCap w (n + m) c' e - (n + m))) e
            (by simp; omega) (fun j hj => (hjoin j hj).1) (fun j hj => (hjoin j hj).2)
          exact ⟨_, _, _, _, _, _, hrun, hK, hp, R.newSlice (w := w.drew) (cs ++ ys) e _ 0 (n + m) (grownCap w (n + m) c' e) q.sz none hge (fun k hk => by cases hk) (by rw [hgs]; omega), hEd.trans hEp⟩
        · obtain ⟨hm, hK2⟩ := hin hge
          clear hK
          subst hm
          have hnews : news = [] := List.eq_nil_of_length_eq_zero (by omega)
          subst hnews
          have hrun := run_append_nothing (P := P) w t tx ty e i hu hi a n c' (by omega) v hsrc
          exact SemOK.of_same h hrun hx hK2
      · rename_i iB ver off n sz cap
        split at hK
        · rename_i b hb
          obtain ⟨hv, hnd, hse, hoff, hfit, hK⟩ := hK
          subst hse
          obtain ⟨hf1, hf2⟩ := fits_bytes hfit
          obtain ⟨b', hb', hle, _, hval⟩ := hx.so_inv
          rw [hb] at hb'; cases hb'
          obtain ⟨a, c, rfl, hnc, hcap, ha, hroomx⟩ := hval hv hnd
          obtain ⟨cells, e1, hw, hbase, hlen, hnf, _, hcl⟩ := h.blk iB b hb hnd
          obtain ⟨cellsx, e2, fr2, hw2, hroom⟩ := hroomx
          have hKs : (c < n + m ∧ ∀ c', n + m ≤ c' → K (.so σ.length 0 0 (n + m) q.sz (some c')) (σ ++ [⟨.own, 0, (b.cells.drop off).take (n * q.sz) ++ ys ++ reps (c' - (n + m)) q.zero⟩])) ∨
              (b.kind = .own ∧ K (.so iB (b.ver + 1) 0 (n + m) q.sz none) (σ.set iB ⟨.own, b.ver + 1, (b.cells.drop off).take (n * q.sz) ++ ys⟩)) := by
            cases cap with
            | none => exact .inr hK
            | some c0 =>
              have := hcap c0 rfl
              subst this
              rcases Nat.lt_or_ge c (n + m) with hlt | hge
              · exact .inl ⟨hlt, (ite_and.1 hK).2 (by omega)⟩
              · exact .inr ((ite_and.1 hK).1 hge)
          clear hK
          rw [hw] at hw2; cases hw2
          have hll : ((b.cells.drop off).take (n * q.sz)).length = n * q.sz := by simp; omega
          let us : Nat → Value := fun j => cells.getD ((ρ iB).2 + (off + j)) undef
          have hus : ∀ j, j < n * q.sz → cells[(ρ iB).2 + (off + j)]? = some (us j) ∧ (us j).oneCell' = true ∧ ∀ hj, R ρ σ fz w (((b.cells.drop off).take (n * q.sz))[j]'hj) (us j) := fun j hj => by
            obtain ⟨u, hu, h1, hR⟩ := hcl (off + j) (by omega)
            have hq : cells[(ρ iB).2 + (off + j)]? = some (us j) := get_of_getD (Array.getElem?_eq_some_iff.1 hu).1
            rw [hu] at hq
            have hq' := Option.some.inj hq
            exact ⟨by rw [hu, hq'], by rw [← hq']; exact h1, fun hj => by rw [← hq']; simpa using hR⟩
          rcases hKs with ⟨hlt, hK⟩ | ⟨hd, hK⟩
          · -- its capacity known, too little
            let olds : List Value := (List.range (n * q.sz)).map us
            have hol : olds.length = n * q.sz := by simp [olds]
            have hgd : ∀ j, j < n * q.sz → olds.getD j undef = us j := fun j hj => by simp [olds, List.getD, hj]
            have hold : (Builtin.firstCells i.size n (.slice (some a) n c)).run P w.drew = .ok olds.toArray w.drew := by
              rw [hsz]
              rcases Nat.eq_zero_or_pos c with hz | hz
              · have hn0 : n = 0 := by omega
                have : olds = [] := by simp [olds, hn0]
                rw [this]
                exact run_firstCells_some w.drew q.sz n a n c [] (by simp [hn0]) (fun j u hu => by simp at hu)
              · rw [ha hz]
                refine run_firstCells_some w.drew q.sz n _ n c olds hol (fun j u hu => ?_)
                have hj : j < n * q.sz := by have := (List.getElem?_eq_some_iff.1 hu).1; simpa [olds] using this
                simp only [olds, List.getElem?_map, List.getElem?_range hj] at hu
                cases hu
                rw [add_lit]
                have := (hus j hj).1
                rw [← Nat.add_assoc] at this
                rw [World.cell?_drew]; simp [World.cell?, hw, this]
            have hrun := run_append_grow_src (P := P) w t tx ty e i z hu hi hz0 (some a) n c olds hold v m news hsrc hlt (by omega) (growslice_fits hlt (by rw [hby]; exact hf1))
            obtain ⟨hdh, hEd⟩ := h.drew
            have hgc := grownCap_ge w (n + m) c e
            have hjoin := join_ok (Rr := R ρ σ fz w.drew) #[] (hol.trans hll.symm) hnl (fun j hj => by rw [hll] at hj; rw [hgd j hj]; exact (hus j hj).2.1)
              (fun j hj => by have hj' := hj; rw [hll] at hj'; rw [hgd j hj']; exact ((hus j hj').2.2 hj).ev hEd ((hus j hj').2.2 hj).sc) hn1 (fun j hj => (hnR j hj).ev hEd (hnR j hj).sc)
            have hzr := zeros_row (w := w.drew) (fz := fz) hzs hzl h0 hz1 (fun j hj => hzR _ _ j hj) (grownCap w (n + m) c e - (n + m))
            have hzc : Builtin.zeroCells z.cells (grownCap w (n + m) c e - (n + m)) = (Array.range ((grownCap w (n + m) c e - (n + m)) * q.sz)).map (z.cells[· % z.cells.size]!) := by
              simp [Builtin.zeroCells, hzs]
            have hgs := grown_size (g := grownCap w (n + m) c e) hzs hol (hnl.trans hyl) hgc
            have hall := getD_join (Rr := R ρ σ fz w.drew) (A := (b.cells.drop off).take (n * q.sz) ++ ys) (B := reps (grownCap w (n + m) c e - (n + m)) q.zero) (a := (olds ++ news).toArray) (b := Builtin.zeroCells z.cells (grownCap w (n + m) c e - (n + m)))
              (by simp only [List.size_toArray, List.length_append, hll]; omega) (by rw [hzc]; exact hzr.1) (fun j hj => by have := hjoin j hj; simpa using this) (fun j hj => by rw [hzc]; exact ⟨hzr.2.1 j hj, R.pure _ _ (hzr.2.2 j hj)⟩)
            obtain ⟨hp, hEp⟩ := newRow_ok hdh ((b.cells.drop off).take (n * q.sz) ++ ys ++ reps (grownCap w (n + m) c e - (n + m)) q.zero) ((olds ++ news).toArray ++ Builtin.zeroCells z.cells (grownCap w (n + m) c e - (n + m))) e
              (by rw [hgs]; simp only [List.length_append, hll, reps_length, hyl, hzl]; rw [← Nat.add_mul, ← Nat.add_mul, show n + m + (grownCap w (n + m) c e - (n + m)) = grownCap w (n + m) c e by omega]; exact Nat.le_refl _)
              (fun j hj => (hall j hj).1) (fun j hj => (hall j hj).2)
            exact ⟨_, _, _, _, _, _, hrun, hK _ hgc, hp, R.newSlice (w := w.drew) _ e _ 0 (n + m) (grownCap w (n + m) c e) q.sz (some (grownCap w (n + m) c e)) hgc (fun k hk => by cases hk; rfl) (by rw [hgs]; omega), hEd.trans hEp⟩
          rcases Nat.lt_or_ge c (n + m) with hlt | hge
          · -- a new row
            let olds : List Value := (List.range (n * q.sz)).map us
            have hol : olds.length = n * q.sz := by simp [olds]
            have hgd : ∀ j, j < n * q.sz → olds.getD j undef = us j := fun j hj => by simp [olds, List.getD, hj]
            have hold : (Builtin.firstCells i.size n (.slice (some a) n c)).run P w.drew = .ok olds.toArray w.drew := by
              rw [hsz]
              rcases Nat.eq_zero_or_pos c with hz | hz
              · have hn0 : n = 0 := by omega
                have : olds = [] := by simp [olds, hn0]
                rw [this]
                exact run_firstCells_some w.drew q.sz n a n c [] (by simp [hn0]) (fun j u hu => by simp at hu)
              · rw [ha hz]
                refine run_firstCells_some w.drew q.sz n _ n c olds hol (fun j u hu => ?_)
                have hj : j < n * q.sz := by have := (List.getElem?_eq_some_iff.1 hu).1; simpa [olds] using this
                simp only [olds, List.getElem?_map, List.getElem?_range hj] at hu
                cases hu
                rw [add_lit]
                have := (hus j hj).1
                rw [← Nat.add_assoc] at this
                rw [World.cell?_drew]; simp [World.cell?, hw, this]
            have hrun := run_append_grow_src (P := P) w t tx ty e i z hu hi hz0 (some a) n c olds hold v m news hsrc hlt (by omega) (growslice_fits hlt (by rw [hby]; exact hf1))
            have hgc := grownCap_ge w (n + m) c e
            have hjoin := join_ok (Rr := R ρ σ fz w) (Builtin.zeroCells z.cells (grownCap w (n + m) c e - (n + m))) (hol.trans hll.symm) hnl (fun j hj => by rw [hll] at hj; rw [hgd j hj]; exact (hus j hj).2.1)
              (fun j hj => by have hj' := hj; rw [hll] at hj'; rw [hgd j hj']; exact (hus j hj').2.2 hj) hn1 hnR
            have hgs := grown_size (g := grownCap w (n + m) c e) hzs hol (hnl.trans hyl) hgc
            obtain ⟨hp, hEp⟩ := h.renew hb hd w.heap.size 0 ((b.cells.drop off).take (n * q.sz) ++ ys)
              (w' := w.drew.alloc (.cells ((olds ++ news).toArray ++ Builtin.zeroCells z.cells (grownCap w (n + m) c e - (n + m))) e)) rfl rfl rfl (by simp) (.inr (Nat.le_refl _)) (World.alloc_heap_new w.drew _)
              (fun k hk _ => Below.heap_alloc w.drew _ k hk) (fun c' e' fr' hk => ⟨c', fr', (Below.heap_alloc w.drew _ _ (Array.getElem?_eq_some_iff.1 hk).1).trans hk, rfl⟩)
              (by simp only [Array.size_append, List.size_toArray, List.length_append, hll]; omega)
              (fun j hj => ⟨_, by rw [Nat.zero_add]; exact get_of_getD (by simp only [Array.size_append, List.size_toArray, List.length_append, hll] at hj ⊢; omega), (hjoin j hj).1, (hjoin j hj).2⟩)
            refine ⟨_, _, _, _, _, _, hrun, hK, hp, ?_, hEp⟩
            refine .so _ _ _ _ _ _ ⟨.own, b.ver + 1, _⟩ _ (List.getElem?_set_self (List.getElem?_eq_some_iff.1 hb).1) (Nat.le_refl _) rfl fun _ _ => ?_
            rw [upd_same]
            exact ⟨_, _, rfl, hgc, (fun k hk => by cases hk), (fun _ => rfl), _, e, (0, 0), World.alloc_heap_new w.drew _, (by rw [hgs]; simp)⟩
          · -- in place
            have hgb := (List.getElem?_eq_some_iff.1 hb).1
            rcases Nat.eq_zero_or_pos c with hz | hz
            · have hm0 : m = 0 := by omega
              have hn0 : n = 0 := by omega
              subst hm0; subst hn0; subst hz
              have hnews : news = [] := List.eq_nil_of_length_eq_zero (by omega)
              have hysn : ys = [] := List.eq_nil_of_length_eq_zero (by omega)
              subst hnews; subst hysn
              have hrun := run_append_nothing (P := P) w t tx ty e i hu hi (some a) 0 0 (Nat.le_refl _) v hsrc
              obtain ⟨hp, hEp⟩ := h.renew hb hd (ρ iB).1 ((ρ iB).2 + off) ((b.cells.drop off).take (0 * q.sz) ++ []) (w' := w) rfl rfl rfl (Nat.le_refl _) (.inl rfl) hw (fun _ _ _ => rfl) (fun c' e' fr' hk => ⟨c', fr', hk, rfl⟩)
                (by simp; omega) (fun j hj => by simp at hj)
              refine ⟨_, _, _, _, _, _, hrun, hK, hp, ?_, hEp⟩
              refine .so _ _ _ _ _ _ ⟨.own, b.ver + 1, _⟩ _ (List.getElem?_set_self hgb) (Nat.le_refl _) rfl fun _ _ => ?_
              rw [upd_same]
              exact ⟨_, 0, rfl, Nat.le_refl _, (fun k hk => by cases hk), (fun hh => absurd hh (by omega)), cells, e1, (0, 0), hw, (by omega)⟩
            · have ha := ha hz
              subst ha
              have hnm : n * q.sz + m * q.sz ≤ c * q.sz := by rw [← Nat.add_mul]; exact Nat.mul_le_mul_right _ hge
              have hst := run_storeCells_at (P := P) (ρ iB).1 ((ρ iB).2 + off + n * q.sz) e1 news 0 cells w hw (by omega) (fun v hv => by
                obtain ⟨j, hj, rfl⟩ := List.mem_iff_getElem.1 hv
                have := hn1 j (by omega)
                simpa [List.getD, hj] using this)
              simp only [Nat.add_zero] at hst
              rw [setRow_eq w _ cells _ e1 hw] at hst
              have hrun := append_room_run (P := P) (ty := ty) (a := ⟨(ρ iB).1, (ρ iB).2 + off, none⟩) hu hi hsrc hge (by rw [add_lit, hsz]; exact hst)
              have hlt1 : (ρ iB).1 < w.heap.size := (Array.getElem?_eq_some_iff.1 hw).1
              have hnews : news.length = m * q.sz := hnl.trans hyl
              obtain ⟨cells', hcells'⟩ : ∃ c', (cells.toList.take ((ρ iB).2 + off + n * q.sz) ++ news ++ cells.toList.drop ((ρ iB).2 + off + n * q.sz + news.length)).toArray = c' := ⟨_, rfl⟩
              rw [hcells'] at hrun
              have hcs : cells'.size = cells.size := by rw [← hcells']; simp; omega
              have hcg : ∀ j, cells'[j]? = if (ρ iB).2 + off + n * q.sz ≤ j ∧ j < (ρ iB).2 + off + n * q.sz + news.length then news[j - ((ρ iB).2 + off + n * q.sz)]? else cells[j]? := by
                intro j
                rw [← hcells']
                have hm : min ((ρ iB).2 + off + n * q.sz) cells.size = (ρ iB).2 + off + n * q.sz := by omega
                simp only [List.getElem?_toArray, List.append_assoc]
                rcases Nat.lt_or_ge j ((ρ iB).2 + off + n * q.sz) with hj | hj
                · rw [if_neg (by omega), List.getElem?_append_left (by simp; omega), List.getElem?_take_of_lt (by omega)]; simp
                · rw [List.getElem?_append_right (by simp; omega)]
                  simp only [List.length_take, Array.length_toList, hm]
                  rcases Nat.lt_or_ge j ((ρ iB).2 + off + n * q.sz + news.length) with hj2 | hj2
                  · rw [if_pos ⟨hj, hj2⟩, List.getElem?_append_left (by omega)]
                  · rw [if_neg (by omega), List.getElem?_append_right (by omega), List.getElem?_drop]
                    rw [show (ρ iB).2 + off + n * q.sz + news.length + (j - ((ρ iB).2 + off + n * q.sz) - news.length) = j by omega]
                    simp
              obtain ⟨hp, hEp⟩ := h.renew hb hd (ρ iB).1 ((ρ iB).2 + off) ((b.cells.drop off).take (n * q.sz) ++ ys)
                (w' := { w with heap := w.heap.setIfInBounds (ρ iB).1 (.cells cells' e1 (0, 0)) }) (cells := cells') (e := e1) rfl rfl rfl (by simp) (.inl rfl)
                (by simp [hlt1]) (fun k hk hne => by rw [Array.getElem?_setIfInBounds, if_neg (by omega)])
                (fun c' e' fr' hk => ⟨cells', (0, 0), by rw [hw] at hk; cases hk; simp [hlt1], by rw [hw] at hk; cases hk; exact hcs⟩)
                (by rw [List.length_append, hll, hcs]; omega)
                (fun j hj => by
                  rw [List.length_append, hll] at hj
                  rcases Nat.lt_or_ge j (n * q.sz) with hj1 | hj1
                  · obtain ⟨q1, q2, q3⟩ := hus j hj1
                    refine ⟨us j, ?_, q2, ?_⟩
                    · rw [hcg, if_neg (by omega), ← q1, Nat.add_assoc]
                    · rw [List.getElem_append_left (by rw [hll]; exact hj1)]; exact q3 _
                  · refine ⟨news.getD (j - n * q.sz) undef, ?_, hn1 _ (by omega), ?_⟩
                    · rw [hcg, if_pos (by omega), show (ρ iB).2 + off + j - ((ρ iB).2 + off + n * q.sz) = j - n * q.sz by omega]
                      simp [List.getD, List.getElem?_eq_getElem (show j - n * q.sz < news.length by omega)]
                    · rw [List.getElem_append_right (by rw [hll]; exact hj1)]
                      simp only [hll]
                      exact hnR _ (by omega))
              refine ⟨_, _, _, _, _, _, hrun, hK, hp, ?_, hEp⟩
              refine .so _ _ _ _ _ _ ⟨.own, b.ver + 1, _⟩ _ (List.getElem?_set_self hgb) (Nat.le_refl _) rfl fun _ _ => ?_
              rw [upd_same]
              exact ⟨_, c, rfl, hge, (fun k hk => by cases hk), (fun _ => rfl), cells', e1, (0, 0), (by simp [hlt1]), (by rw [hcs]; simpa using hroom)⟩
        · exact hK.elim
      · exact hK.elim
    · exact hK.elim
  · exact hK.elim

/-! ### copy -/
theorem cells_ok (h : HRel w0 ρ fz σ w) {sz : Nat} {y : AV} {v : Value} {ys : List AV} {m : Nat} (hy : R ρ σ fz w y v) (hs : srcC sz false σ y = some (ys, m)) :
    ∃ a c us, v = .slice a m c ∧ ys.length = m * sz ∧ (∀ k, k ≤ m → (Builtin.firstCells sz k v).run P w = .ok ((List.range (k * sz)).map us).toArray w) ∧
      ∀ j (hj : j < ys.length), (us j).oneCell' = true ∧ R ρ σ fz w ys[j] (us j) := by
  cases y with
  | pl nl cs n cap =>
    obtain ⟨a, c, b, o, us, rfl, hnl, hn, hc, hcap, ha, hfz, hcell, hone, hR⟩ := hy.pl_inv
    simp only [srcC] at hs
    split at hs
    · rename_i hlen
      obtain ⟨_, hlen⟩ := hlen
      cases hs
      refine ⟨a, c, us, rfl, hlen, fun k hk => ?_, fun j hj => ⟨hone j hj, .pure _ _ (hR j hj)⟩⟩
      have hkm : k * sz ≤ m * sz := Nat.mul_le_mul_right _ hk
      rcases Nat.eq_zero_or_pos (k * sz) with h0 | h0
      · cases a with
        | none => rw [h0]; exact run_firstCells_none w sz k m c
        | some ad => rw [h0]; exact run_firstCells_some w sz k ad m c [] (by simp [h0]) (fun j u hu => by simp at hu)
      · rw [ha (by omega)]
        refine run_firstCells_some w sz k _ m c _ (by simp) (fun j u hu => ?_)
        have hj : j < k * sz := by have := (List.getElem?_eq_some_iff.1 hu).1; simpa using this
        rw [List.getElem?_map, List.getElem?_range hj] at hu
        cases hu
        rw [add_lit]; exact hcell j (by omega)
    · cases hs
  | so i ver off n s2 cap =>
    obtain ⟨b, hb, hle, _, hval⟩ := hy.so_inv
    simp only [srcC, hb] at hs
    split at hs
    · rename_i hcond
      obtain ⟨_, hv, hd, hlen⟩ := hcond
      cases hs
      obtain ⟨a, c, rfl, hnc, hcap, ha, hroom⟩ := hval hv hd
      obtain ⟨cells, e, hw, hbase, hl, _, _, hc⟩ := h.blk i b hb hd
      have hll : ((b.cells.drop off).take (m * sz)).length = m * sz := by simp; omega
      let us : Nat → Value := fun j => cells.getD ((ρ i).2 + (off + j)) undef
      have hus : ∀ j, j < m * sz → cells[(ρ i).2 + (off + j)]? = some (us j) ∧ (us j).oneCell' = true ∧ ∀ hj, R ρ σ fz w (((b.cells.drop off).take (m * sz))[j]'hj) (us j) := fun j hj => by
        obtain ⟨u, hu, h1, hR⟩ := hc (off + j) (by omega)
        have hq : cells[(ρ i).2 + (off + j)]? = some (us j) := get_of_getD (Array.getElem?_eq_some_iff.1 hu).1
        rw [hu] at hq
        have hq' := Option.some.inj hq
        exact ⟨by rw [hu, hq'], by rw [← hq']; exact h1, fun hj => by rw [← hq']; simpa using hR⟩
      refine ⟨some a, c, us, rfl, hll, fun k hk => ?_, fun j hj => ⟨(hus j (by omega)).2.1, (hus j (by omega)).2.2 hj⟩⟩
      have hkm : k * sz ≤ m * sz := Nat.mul_le_mul_right _ hk
      rcases Nat.eq_zero_or_pos (k * sz) with h0 | h0
      · rw [h0]; exact run_firstCells_some w sz k a m c [] (by simp [h0]) (fun j u hu => by simp at hu)
      · have hc0 : 0 < c := by
          rcases Nat.eq_zero_or_pos c with hz | hz
          · have : k = 0 := by omega
            subst this; simp at h0
          · exact hz
        rw [ha hc0]
        refine run_firstCells_some w sz k _ m c _ (by simp) (fun j u hu => ?_)
        have hj : j < k * sz := by have := (List.getElem?_eq_some_iff.1 hu).1; simpa using this
        rw [List.getElem?_map, List.getElem?_range hj] at hu
        cases hu
        rw [add_lit]
        have := (hus j (by omega)).1
        rw [← Nat.add_assoc] at this
        simp [World.cell?, hw, this]
    · cases hs
  | v x => cases x <;> simp [srcC] at hs
  | _ => simp [srcC] at hs

/-- Zeros are appended ('append(s[:0], make(..)...)'), where the room is too little. -/
def aAppZ (P : Program) (t : TypeId) (x y : AV) (σ : AHeap) (K : AV → AHeap → Prop) : Prop :=
  match x, y with
  | .so i ver off n sz (some c), .v (.int _ m) => match elT P t, σ[i]? with
    | some (_, e), some b => b.ver = ver ∧ b.kind ≠ .dead ∧ n = 0 ∧ (c : Int) < m ∧ m.toNat * (e.bytes + 1) ≤ 140737488355328 ∧
        ∀ c', m.toNat ≤ c' → K (.so σ.length 0 0 m.toNat e.sz (some c')) (σ ++ [⟨.own, 0, reps m.toNat e.zero ++ reps (c' - m.toNat) e.zero⟩])
    | _, _ => False
  | _, _ => False

theorem appz_run {t tx ty e : TypeId} {k k' : IntKind} {i : TypeInfo} {z : Value} (ht : P.underlying t = some (.slice e)) (htx : P.underlying tx = some (.int k)) (hi : P.info? e = some i) (hz : i.zero = some z) {a : Addr} {c M : Nat}
    (hlt : c < M) (h0 : 0 < i.size) (hM : M * (i.bytes + 1) ≤ 140737488355328) :
    (Builtin.append_ #[t, tx] ty #[.slice (some a) 0 c, .int k' (M : Int)]).run P w =
      .ok (.slice (some ⟨w.heap.size, 0, none⟩) M (grownCap w M c e)) (w.drew.alloc (.cells (Builtin.zeroCells z.cells M ++ Builtin.zeroCells z.cells (grownCap w M c e - M)) e)) := by
  obtain ⟨hf1, hf2⟩ := fits_bytes hM
  have hfit := growslice_fits hlt hf1
  have hw : IntKind.i64.wrap (M : Int) = (M : Int) := by rw [IntKind.wrap_i64]; omega
  have h1 : ¬ ((M : Int) * (i.bytes : Int) > 281474976710656) := by rw [← Int.natCast_mul]; omega
  have h2 : ¬ (M ≤ c) := by omega
  have h3 : ¬ (M * i.size = 0) := Nat.mul_ne_zero (by omega) (by omega)
  have h4 : ¬ ((M : Int) > 9223372036854775807) := by omega
  have h5 : ¬ (281474976710656 < Builtin.nextslicecap M c * i.bytes) := by omega
  have hold : (Builtin.firstCells i.size 0 (.slice (some a) 0 c)).run P w.drew = .ok #[] w.drew := run_firstCells_some w.drew i.size 0 a 0 c [] (by simp) (fun j u hu => by simp at hu)
  have h6 : ¬ (M = 0 ∨ i.size = 0) := by omega
  have h7 : ¬ (281474976710656 < (M : Int) * (i.bytes : Int)) := h1
  have h8 : ¬ (9223372036854775807 < (M : Int)) := h4
  have h9 : ¬ ((M : Int) < 0) := by omega
  simp [Builtin.append_, run_underlying ht, run_underlying htx, sizeOf, typeInfo, zeroValue, hi, hz, asInt, asIntOf, hw, h9, h7, h2, h6, h8, h5, Question.forced, hold, newRow, grownCap]
  exact fun h => absurd h h3

theorem appz_ok (h : HRel w0 ρ fz σ w) {t tx ty : TypeId} {x y : AV} {u v : Value} (hx : R ρ σ fz w x u) (hy : R ρ σ fz w y v) {K : AV → AHeap → Prop} (hi : (intT P tx).isSome = true) (hK : aAppZ P t x y σ K) :
    SemOK P w0 ρ fz σ w (Builtin.append_ #[t, tx] ty #[u, v]) K := by
  have htx : ∃ k, P.underlying tx = some (.int k) := by
    unfold intT at hi
    split at hi
    · exact ⟨_, ‹_›⟩
    · cases hi
  obtain ⟨k, htx⟩ := htx
  unfold aAppZ at hK
  split at hK
  · rename_i iB ver off n sz c k' m
    obtain rfl := hy.v_eq
    split at hK
    · rename_i e q b he hb
      obtain ⟨hv, hnd, rfl, hlt, hM, hK⟩ := hK
      obtain ⟨M, rfl⟩ : ∃ M : Nat, m = M := ⟨m.toNat, by omega⟩
      simp only [Int.toNat_natCast] at hM hK
      obtain ⟨hu, i, hi, hsz, hby, hzl, h0, z, hz0, hz, hzs, hz1, hzR⟩ := elT_ok he
      obtain ⟨b', hb', hle, _, hval⟩ := hx.so_inv
      rw [hb] at hb'; cases hb'
      obtain ⟨a, c2, rfl, hnc, hcap, ha, hroomx⟩ := hval hv hnd
      have := hcap c rfl
      subst this
      have hrun := appz_run (w := w) (ty := ty) (k' := k') (a := a) hu htx hi hz0 (c := c2) (M := M) (by omega) (by omega) (by rw [hby]; exact hM)
      obtain ⟨hdh, hEd⟩ := h.drew
      have hgc := grownCap_ge w M c2 e
      have zc : ∀ n, Builtin.zeroCells z.cells n = (Array.range (n * q.sz)).map (z.cells[· % z.cells.size]!) := fun n => by simp [Builtin.zeroCells, hzs]
      have hzr := fun n => zeros_row (w := w.drew) (fz := fz) hzs hzl h0 hz1 (fun j hj => hzR _ _ j hj) n
      have hall := getD_join (Rr := R ρ σ fz w.drew) (A := reps M q.zero) (B := reps (grownCap w M c2 e - M) q.zero) (a := Builtin.zeroCells z.cells M) (b := Builtin.zeroCells z.cells (grownCap w M c2 e - M))
        (by rw [zc]; exact (hzr _).1) (by rw [zc]; exact (hzr _).1) (fun j hj => by rw [zc]; exact ⟨(hzr _).2.1 j hj, R.pure _ _ ((hzr _).2.2 j hj)⟩) (fun j hj => by rw [zc]; exact ⟨(hzr _).2.1 j hj, R.pure _ _ ((hzr _).2.2 j hj)⟩)
      have hsize : (Builtin.zeroCells z.cells M ++ Builtin.zeroCells z.cells (grownCap w M c2 e - M)).size = grownCap w M c2 e * q.sz := by
        rw [zc, zc]
        simp only [Array.size_append, Array.size_map, Array.size_range]
        rw [← Nat.add_mul, show M + (grownCap w M c2 e - M) = grownCap w M c2 e by omega]
      obtain ⟨hp, hEp⟩ := newRow_ok hdh (reps M q.zero ++ reps (grownCap w M c2 e - M) q.zero) (Builtin.zeroCells z.cells M ++ Builtin.zeroCells z.cells (grownCap w M c2 e - M)) e
        (by rw [hsize]; simp only [List.length_append, reps_length, hzl]; rw [← Nat.add_mul, show M + (grownCap w M c2 e - M) = grownCap w M c2 e by omega]; exact Nat.le_refl _)
        (fun j hj => (hall j hj).1) (fun j hj => (hall j hj).2)
      exact ⟨_, _, _, _, _, _, hrun, hK _ hgc, hp, R.newSlice (w := w.drew) _ e _ 0 M (grownCap w M c2 e) q.sz (some (grownCap w M c2 e)) hgc (fun k hk => by cases hk; rfl) (by rw [hsize]; omega), hEd.trans hEp⟩
    · exact hK.elim
  · exact hK.elim

def splice (cs : List AV) (off : Nat) (ys : List AV) : List AV := cs.take off ++ ys ++ cs.drop (off + ys.length)
theorem wr_splice (cs : List AV) (off : Nat) (ys : List AV) (h : off + ys.length ≤ cs.length) : wr cs off ys = splice cs off ys := by
  apply List.ext_getElem?
  intro j
  rw [wr_get ys cs off j h, splice, List.append_assoc]
  have hm : min off cs.length = off := by omega
  rcases Nat.lt_or_ge j off with h1 | h1
  · rw [if_neg (by omega), List.getElem?_append_left (by simp; omega), List.getElem?_take_of_lt h1]
  · rw [List.getElem?_append_right (by simp; omega)]
    simp only [List.length_take, hm]
    rcases Nat.lt_or_ge j (off + ys.length) with h2 | h2
    · rw [if_pos ⟨h1, h2⟩, List.getElem?_append_left (by omega)]
    · rw [if_neg (by omega), List.getElem?_append_right (by omega), List.getElem?_drop]
      rw [show off + ys.length + (j - off - ys.length) = j by omega]

def aCopy (P : Program) (t : TypeId) (x y : AV) (σ : AHeap) (K : AV → AHeap → Prop) : Prop :=
  match elT P t with
  | some (_, e) => match srcC e.sz false σ y with
    | some (ys, m) => match x with
      | .so i ver off n sz _ => match σ[i]? with
        | some b => b.ver = ver ∧ b.kind = .own ∧ sz = e.sz ∧ off + n * sz ≤ b.cells.length ∧ K (.v (.int .i64 (min m n : Nat))) (σ.set i { b with cells := splice b.cells off (ys.take (min m n * sz)) })
        | none => False
      | .pl _ _ n _ => n = 0 ∧ K (.v (.int .i64 0)) σ
      | _ => False
    | none => False
  | none => False

theorem copy_ok (h : HRel w0 ρ fz σ w) {t tx ty : TypeId} {x y : AV} {u v : Value} (hx : R ρ σ fz w x u) (hy : R ρ σ fz w y v) {K : AV → AHeap → Prop} (hK : aCopy P t x y σ K) :
    SemOK P w0 ρ fz σ w (Builtin.copy_ #[t, tx] ty #[u, v]) K := by
  unfold aCopy at hK
  split at hK
  · rename_i e q he
    obtain ⟨hu, i, hi, hsz, hby, hzl, h0, z, hz0, hz, hzs, hz1, hzR⟩ := elT_ok he
    split at hK
    · rename_i ys m hys
      obtain ⟨a', c', us, rfl, hyl, hfirst, hcells⟩ := cells_ok (P := P) h hy hys
      split at hK
      · rename_i iB ver off n sz cap
        split at hK
        · rename_i b hb
          obtain ⟨hv, hd, rfl, hoff, hK⟩ := hK
          obtain ⟨b', hb', hle, _, hval⟩ := hx.so_inv
          rw [hb] at hb'; cases hb'
          obtain ⟨a, c, rfl, hnc, hcap, ha, hroom⟩ := hval hv (by rw [hd]; decide)
          have hk1 : min m n ≤ m := Nat.min_le_left _ _
          have hk2 : min m n ≤ n := Nat.min_le_right _ _
          have hkm : min m n * q.sz ≤ m * q.sz := Nat.mul_le_mul_right _ hk1
          have hkn : min m n * q.sz ≤ n * q.sz := Nat.mul_le_mul_right _ hk2
          have htl : (ys.take (min m n * q.sz)).length = min m n * q.sz := by simp; omega
          rcases Nat.eq_zero_or_pos (min m n * q.sz) with hz | hz
          · -- nothing is written
            have hk0 : min m n = 0 := by rcases Nat.mul_eq_zero.1 hz with h | h <;> omega
            have hf := hfirst (min m n) hk1
            rw [hz] at hf
            have e1 : splice b.cells off (ys.take (min m n * q.sz)) = b.cells := by rw [hz]; simp [splice]
            rw [e1] at hK
            have e2 : σ.set iB { b with cells := b.cells } = σ := by
              have : ({ b with cells := b.cells } : ABlk) = b := rfl
              rw [this]
              obtain ⟨hlt, hb⟩ := List.getElem?_eq_some_iff.1 hb
              rw [← hb]; exact List.set_getElem_self hlt
            rw [e2] at hK
            refine SemOK.of_same h (v := .int .i64 (min m n : Nat)) ?_ (.lit _) hK
            have hmin : Nat.min m n = min m n := rfl
            simp [Builtin.copy_, run_underlying hu, Builtin.lenOf, sizeOf, typeInfo, hi, hsz, hmin, hf, storeCells, goInt]
          · have hc0 : 0 < c := by
              rcases Nat.eq_zero_or_pos c with hc | hc
              · have : min m n = 0 := by omega
                rw [this] at hz; simp at hz
              · exact hc
            have ha := ha hc0
            subst ha
            have hgd : ∀ j, j < min m n * q.sz → ((List.range (min m n * q.sz)).map us).getD j undef = us j := fun j hj => by simp [List.getD, hj]
            obtain ⟨w', hst, hp, hE⟩ := storeCells_ok (P := P) h hb hd ((List.range (min m n * q.sz)).map us) (ys.take (min m n * q.sz)) (by simp; omega)
              (fun j hj => by rw [htl] at hj; rw [hgd j hj]; exact (hcells j (by omega)).1)
              (fun j hj => by have hj' := hj; rw [htl] at hj'; rw [hgd j hj']; simpa using (hcells j (by omega)).2) (off := off) (by rw [htl]; omega)
            rw [wr_splice _ _ _ (by rw [htl]; omega)] at hp hE
            refine ⟨.int .i64 (min m n : Nat), w', _, _, _, _, ?_, hK, hp, .lit _, hE⟩
            have hmin : Nat.min m n = min m n := rfl
            have hf := hfirst (min m n) hk1
            simp [Builtin.copy_, run_underlying hu, Builtin.lenOf, sizeOf, typeInfo, hi, hsz, hmin, hf, hst, goInt]
        · exact hK.elim
      · rename_i nl cs n cap
        obtain ⟨rfl, hK⟩ := hK
        obtain ⟨a, c, b, o, us', rfl, _⟩ := hx.pl_inv
        have hf := hfirst 0 (Nat.zero_le _)
        rw [Nat.zero_mul] at hf
        refine SemOK.of_same h (v := .int .i64 0) ?_ (.lit _) hK
        have hmin : Nat.min m 0 = 0 := Nat.min_zero _
        cases a <;> simp [Builtin.copy_, run_underlying hu, Builtin.lenOf, sizeOf, typeInfo, hi, hsz, hmin, hf, storeCells, goInt]
      · exact hK.elim
    · exact hK.elim
  · exact hK.elim

/-- The bytes of a string, copied. -/
def strCells (s : ByteArray) (n : Nat) : List AV := (s.data.toList.map fun b => AV.v (.int .u8 b.toNat)).take n
def aCopyS (P : Program) (t : TypeId) (x : AV) (s : ByteArray) (σ : AHeap) (K : AV → AHeap → Prop) : Prop :=
  match elT P t with
  | some (_, e) => e.sz = 1 ∧ match x with
    | .so i ver off n sz _ => match σ[i]? with
      | some b => b.ver = ver ∧ b.kind = .own ∧ sz = 1 ∧ off + n ≤ b.cells.length ∧ K (.v (.int .i64 (min s.size n : Nat))) (σ.set i { b with cells := splice b.cells off (strCells s (min s.size n)) })
      | none => False
    | _ => False
  | none => False
theorem copyS_ok (h : HRel w0 ρ fz σ w) {t tx ty : TypeId} {x : AV} {s : ByteArray} {u v : Value} (hx : R ρ σ fz w x u) (hy : R ρ σ fz w (.v (.string s)) v) {K : AV → AHeap → Prop} (hK : aCopyS P t x s σ K) :
    SemOK P w0 ρ fz σ w (Builtin.copy_ #[t, tx] ty #[u, v]) K := by
  obtain rfl := hy.v_eq
  unfold aCopyS at hK
  split at hK
  · rename_i e q he
    obtain ⟨hq1, hK⟩ := hK
    obtain ⟨hu, i, hi, hsz, hby, hzl, h0, z, hz0, hz, hzs, hz1, hzR⟩ := elT_ok he
    split at hK
    · rename_i iB ver off n sz cap
      split at hK
      · rename_i b hb
        obtain ⟨hv, hd, rfl, hoff, hK⟩ := hK
        obtain ⟨b', hb', hle, _, hval⟩ := hx.so_inv
        rw [hb] at hb'; cases hb'
        obtain ⟨a, c, rfl, hnc, hcap, ha, hroom⟩ := hval hv (by rw [hd]; decide)
        have hk1 : min s.size n ≤ s.size := Nat.min_le_left _ _
        have hk2 : min s.size n ≤ n := Nat.min_le_right _ _
        have hsl : s.data.toList.length = s.size := rfl
        have htl : (strCells s (min s.size n)).length = min s.size n := by
          unfold strCells
          rw [List.length_take, List.length_map, hsl]; omega
        have hmin : Nat.min s.size n = min s.size n := rfl
        rcases Nat.eq_zero_or_pos (min s.size n) with hz | hz
        · have e1 : splice b.cells off (strCells s (min s.size n)) = b.cells := by
            have : strCells s (min s.size n) = [] := List.eq_nil_of_length_eq_zero (by omega)
            rw [this]; simp [splice]
          rw [e1] at hK
          have e2 : σ.set iB { b with cells := b.cells } = σ := by
            have : ({ b with cells := b.cells } : ABlk) = b := rfl
            rw [this]
            obtain ⟨hlt, hb⟩ := List.getElem?_eq_some_iff.1 hb
            rw [← hb]; exact List.set_getElem_self hlt
          rw [e2] at hK
          refine SemOK.of_same h (v := .int .i64 (min s.size n : Nat)) ?_ (.lit _) hK
          have hnil : List.take (min s.size n) (List.map (fun b => Value.int .u8 (b.toNat : Int)) s.data.toList) = [] := by rw [hz]; rfl
          simp [Builtin.copy_, run_underlying hu, Builtin.lenOf, Builtin.firstCells, sizeOf, typeInfo, hi, hsz, hmin, hnil, storeCells, goInt]
        · have hc0 : 0 < c := by omega
          have ha := ha hc0
          subst ha
          have hat : ∀ j, j < min s.size n → ∃ x : UInt8, (List.take (min s.size n) (List.map (fun b => Value.int .u8 (b.toNat : Int)) s.data.toList)).getD j undef = .int .u8 (x.toNat : Int) ∧ (strCells s (min s.size n)).getD j .any = .v (.int .u8 (x.toNat : Int)) := by
            intro j hj
            have hjl : j < s.data.toList.length := by omega
            refine ⟨s.data.toList[j], ?_, ?_⟩
            · rw [List.getD_eq_getElem?_getD, List.getElem?_take_of_lt hj, List.getElem?_map, List.getElem?_eq_getElem hjl]; rfl
            · unfold strCells
              rw [List.getD_eq_getElem?_getD, List.getElem?_take_of_lt hj, List.getElem?_map, List.getElem?_eq_getElem hjl]; rfl
          obtain ⟨w', hst, hp, hE⟩ := storeCells_ok (P := P) h hb hd (List.take (min s.size n) (List.map (fun b => Value.int .u8 (b.toNat : Int)) s.data.toList)) (strCells s (min s.size n))
            (by rw [htl, List.length_take, List.length_map, hsl]; omega)
            (fun j hj => by
              rw [htl] at hj
              obtain ⟨x, e1, _⟩ := hat j hj
              rw [e1]; rfl)
            (fun j hj => by
              have hj' := hj
              rw [htl] at hj'
              obtain ⟨x, e1, e2⟩ := hat j hj'
              rw [e1]
              have : (strCells s (min s.size n))[j] = .v (.int .u8 (x.toNat : Int)) := by rw [← e2]; simp [hj]
              rw [this]
              exact .lit _) (off := off) (by rw [htl]; omega)
          rw [wr_splice _ _ _ (by rw [htl]; omega)] at hp hE
          refine ⟨.int .i64 (min s.size n : Nat), w', _, _, _, _, ?_, hK, hp, .lit _, hE⟩
          simp [Builtin.copy_, run_underlying hu, Builtin.lenOf, Builtin.firstCells, sizeOf, typeInfo, hi, hsz, hmin, hst, goInt]
      · exact hK.elim
    · exact hK.elim
  · exact hK.elim
def aCopyY (P : Program) (t : TypeId) (x y : AV) (σ : AHeap) (K : AV → AHeap → Prop) : Prop :=
  match y with
  | .v (.string s) => aCopyS P t x s σ K
  | y => aCopy P t x y σ K
theorem copyY_ok (h : HRel w0 ρ fz σ w) {t tx ty : TypeId} {x y : AV} {u v : Value} (hx : R ρ σ fz w x u) (hy : R ρ σ fz w y v) {K : AV → AHeap → Prop} (hK : aCopyY P t x y σ K) :
    SemOK P w0 ρ fz σ w (Builtin.copy_ #[t, tx] ty #[u, v]) K := by
  unfold aCopyY at hK
  split at hK
  · exact copyS_ok h hx hy hK
  · exact copy_ok h hx hy hK
end
end Go.Proofs.Va
/- VA, part 8: a region's operations, calls. -/
set_option linter.unusedVariables false
set_option linter.unusedSimpArgs false
namespace Go.Proofs.Va
open Go Go.RowKit

/-! ### Operands -/
def cav : Value → AV
  | .agg cs => if cs.all (·.oneCell') then .agg (cs.toList.map cav1) else .v (.agg cs)
  | v => cav1 v

def ev (t : List AV) : Operand → AV
  | .tmp i => (t[i]?).getD .any
  | .const v => cav v
  | .global g => .v (.pointer (some ⟨g, 0, none⟩))
  | .func f => .fn (.func f) [] []

/-- The temporaries. -/
structure TRel (ρ : Nat → Nat × Nat) (σ : AHeap) (fz : Nat → Prop) (w : World) (t : List AV) (tmps : Array Value) : Prop where
  len : tmps.size = t.length
  at_ : ∀ i (h : i < t.length), R ρ σ fz w t[i] (tmps.getD i undef)

section
variable {P : Program} {w0 : World} {ρ : Nat → Nat × Nat} {σ : AHeap} {fz : Nat → Prop} {w : World}

theorem cav_ok (v : Value) : R ρ σ fz w (cav v) v := by
  unfold cav
  split
  · rename_i cs
    split
    · rename_i hall
      refine .agg _ _ (by simp) (fun j hj => ?_) (fun j hj => ?_)
      · simp at hj
        have := Array.all_eq_true.1 hall j hj
        simpa [Array.getD, hj] using this
      · simp at hj
        simpa [Array.getD, hj] using R.pure (ρ := ρ) (σ := σ) _ _ (cav1_ok (fz := fz) (w := w) cs[j])
    · exact .lit _
  · exact .pure _ _ (cav1_ok _)

theorem ev_ok {t : List AV} {a : Act} (h : TRel ρ σ fz w t a.tmps) (x : Operand) : R ρ σ fz w (ev t x) (a.eval x) := by
  cases x with
  | tmp i =>
    rcases Nat.lt_or_ge i t.length with hi | hi
    · have := h.at_ i hi
      simpa [ev, Act.eval, List.getElem?_eq_getElem hi] using this
    · simp [ev, List.getElem?_eq_none hi]; exact R.top _
  | const v => exact cav_ok v
  | global g => exact .lit _
  | func f => exact .pure _ _ (.fn _ [] [] #[] #[] rfl rfl (fun j hj => by simp at hj) (fun j hj => by simp at hj))

theorem TRel.ev' {n0 : Nat} {ρ' : Nat → Nat × Nat} {σ' : AHeap} {fz' : Nat → Prop} {w' : World} {t : List AV} {tmps : Array Value} (h : TRel ρ σ fz w t tmps) (E : Ev w0 σ.length ρ σ fz w ρ' σ' fz' w') : TRel ρ' σ' fz' w' t tmps :=
  ⟨h.len, fun i hi => (h.at_ i hi).ev E (h.at_ i hi).sc⟩

def put (t : List AV) (d : Option Tmp) (r : AV) : List AV :=
  match d with
  | some i => t.set i r
  | none => t

theorem TRel.put {t : List AV} {a : Act} (h : TRel ρ σ fz w t a.tmps) (d : Option Tmp) {r : AV} {v : Value} (hr : R ρ σ fz w r v) : TRel ρ σ fz w (Va.put t d r) (a.put d v).tmps := by
  cases d with
  | none => exact h
  | some i =>
    refine ⟨by simp [Act.put, Va.put, h.len], fun j hj => ?_⟩
    simp only [Va.put, List.length_set] at hj
    have hl := h.len
    have hs : j < a.tmps.size := by omega
    by_cases hij : i = j
    · subst hij
      simpa [Act.put, Va.put, Array.getD, hs] using hr
    · have := h.at_ j hj
      simpa [Act.put, Va.put, Array.getD, hs, hij, List.getElem_set_ne hij, Array.getElem_setIfInBounds] using this

/-! ### Calls -/
def RL (ρ : Nat → Nat × Nat) (σ : AHeap) (fz : Nat → Prop) (w : World) (args : List AV) (vs : Array Value) : Prop :=
  vs.size = args.length ∧ ∀ j (h : j < args.length), R ρ σ fz w args[j] (vs.getD j undef)

/-- What a call comes to, wherever the call's own blocks lie: K. -/
def ACall (P : Program) (g : FuncId) (args : List AV) (σ : AHeap) (K : AV → AHeap → Prop) : Prop :=
  ∀ (w0 : World) (ρ : Nat → Nat × Nat) (fz : Nat → Prop) (w : World) (vs : Array Value), HRel w0 ρ fz σ w → RL ρ σ fz w args vs →
    ((callFunc g vs).run P w = .ok (.enter g vs) w ∧ Calls P g vs w fun e w' => ∃ v r σ' ρ' fz', e = .returned v ∧ K r σ' ∧ HRel w0 ρ' fz' σ' w' ∧ R ρ' σ' fz' w' r v ∧ Ev w0 σ.length ρ σ fz w ρ' σ' fz' w') ∨
    (∃ v w' r σ' ρ' fz', (callFunc g vs).run P w = .ok (.value v) w' ∧ K r σ' ∧ HRel w0 ρ' fz' σ' w' ∧ R ρ' σ' fz' w' r v ∧ Ev w0 σ.length ρ σ fz w ρ' σ' fz' w')

theorem ACall.mono {g : FuncId} {args : List AV} {K K' : AV → AHeap → Prop} (h : ACall P g args σ K) (hk : ∀ r σ', K r σ' → K' r σ') : ACall P g args σ K' := by
  intro w0 ρ fz w vs hh hr
  rcases h w0 ρ fz w vs hh hr with ⟨h1, h2⟩ | ⟨v, w', r, σ', ρ', fz', h1, h2, h3⟩
  · exact .inl ⟨h1, h2.mono fun e w' ⟨v, r, σ', ρ', fz', he, hK, hx⟩ => ⟨v, r, σ', ρ', fz', he, hk _ _ hK, hx⟩⟩
  · exact .inr ⟨v, w', r, σ', ρ', fz', h1, hk _ _ h2, h3⟩

/-- A fence that lets all in. -/
def Wd (F : Fence) : Prop := (∀ f, F.fn f) ∧ F.depth = none ∧ F.alive = false

theorem Wd.room {F : Fence} (h : Wd F) (n : Nat) : F.room n := fun d hd => by rw [h.2.1] at hd; cases hd
theorem Wd.fenced {F : Fence} (h : Wd F) (m : Machine) : m.fenced P F := by
  intro g _
  exact ⟨(fun ha => by rw [h.2.2] at ha; cases ha), Or.inl (h.1 _), fun f _ => h.1 f, h.room _⟩
theorem Wd.stepsIn {F : Fence} (h : Wd F) {m m' : Machine} : StepsIn (Machine.fenced P F) P m m' ↔ Steps P m m' :=
  ⟨StepsIn.steps, fun hs => (StepsIn.of_steps hs).mono fun m _ => h.fenced m⟩
theorem Wd.comesIn {F : Fence} (h : Wd F) {m m' : Machine} {e : Ending} : ComesIn (Machine.fenced P F) P m m' e ↔ Comes P m m' e := by
  cases e with
  | returned v => exact h.stepsIn
  | panicked chain => exact h.stepsIn
  | outgrown => exact Iff.rfl
theorem Wd.callsIn {F : Fence} (h : Wd F) {n : Nat} {f : FuncId} {args : Array Value} {R : Ending → World → Prop} : CallsIn F n P f args w R ↔ Calls P f args w R :=
  ⟨fun hh cs => let ⟨e, w', fr, r, s, x⟩ := hh.2 cs (h.room _); ⟨e, w', fr, r, h.comesIn.1 s, x⟩,
   fun hh => ⟨h.1 f, fun cs _ => let ⟨e, w', fr, r, s, x⟩ := hh cs; ⟨e, w', fr, r, h.comesIn.2 s, x⟩⟩⟩
theorem wd_wide : Wd Fence.wide := ⟨fun _ => trivial, rfl, rfl⟩
theorem Wd.inRound {F : Fence} (h : Wd F) (l : Nat) : Wd (F.inRound l) := h

/-- What a call of the rounds' function comes to. -/
def AYield (P : Program) (l : Nat) (args : List AV) (σ : AHeap) (K : AV → AHeap → Prop) : Prop :=
  ∀ (F : Fence) (n : Nat) (w0 : World) (ρ : Nat → Nat × Nat) (fz : Nat → Prop) (w : World) (vs : Array Value), Wd F → HRel w0 ρ fz σ w → RL ρ σ fz w args vs →
    YieldAt F n P l vs w fun e w' => ∃ v r σ' ρ' fz', e = .returned v ∧ K r σ' ∧ HRel w0 ρ' fz' σ' w' ∧ R ρ' σ' fz' w' r v ∧ Ev w0 σ.length ρ σ fz w ρ' σ' fz' w'

def aBuiltin (P : Program) (b : Builtin) (ts : Array TypeId) (args : List AV) (σ : AHeap) (K : AV → AHeap → Prop) : Prop :=
  match b, ts.toList, args with
  | .len, [t], [x] => aLen P t x σ K
  | .cap, [t], [x] => aCap P t x σ K
  | .append, [t, tx], [x, y] => if (intT P tx).isSome = true then aAppZ P t x y σ K else aAppend P t tx x y σ K
  | .copy, [t, tx], [x, y] => aCopyY P t x y σ K
  | .max, _, [x, y] => aMax x y σ K
  | .min, _, [x, y] => aMin x y σ K
  | _, _, _ => False

def aNil (x : AV) (σ : AHeap) (K : AV → AHeap → Prop) : Prop :=
  match x with
  | .po i ver _ => match σ[i]? with
    | some b => b.ver = ver ∧ b.kind ≠ .dead ∧ K x σ
    | none => False
  | .pp _ _ => K x σ
  | .ifc _ _ => K x σ
  | .fn (.func _) _ _ => K x σ
  | _ => False

/-- A type's method, where it is no promoted one. -/
def MethIs (P : Program) (t : TypeId) (name : String) (g : FuncId) : Prop := ∀ (v : Value) (w : World), (method (P.types.size + Made.depth) t v name).run P w = .ok (g, v) w

def aCallOp (P : Program) (c : Call) (t : List AV) (σ : AHeap) (K : AV → AHeap → Prop) : Prop :=
  match c.callee with
  | .builtin b => aBuiltin P b c.argTypes (c.args.toList.map (ev t)) σ K
  | .value f => match ev t f with
    | .fn (.func g) first caps => ACall P g (first ++ c.args.toList.map (ev t) ++ caps) σ K
    | .fn (.yield l) first caps => AYield P l (first ++ c.args.toList.map (ev t)) σ K
    | _ => False
  | .invoke r name => match ev t r with
    | .ifc ty y => ∃ g, MethIs P ty name g ∧ ACall P g ([y] ++ c.args.toList.map (ev t)) σ K
    | _ => False

/-- An operation on what the temporaries are said to be. -/
def aop (P : Program) (op : Op) (t : List AV) (σ : AHeap) (K : AV → AHeap → Prop) : Prop :=
  match op with
  | .move x | .assign x => K (ev t x) σ
  | .pick c x y => match ev t c with
    | .v (.bool q) => if q = true then K (ev t x) σ else K (ev t y) σ
    | _ => False
  | .alloc e => aAlloc P e σ K
  | .box _ x => aBox (ev t x) σ K
  | .build e ps => aBuild P e (ps.toList.map fun p => (p.1, ev t p.2)) σ K
  | .buildSlice e n ps => aBuildSlice P e n (ps.toList.map fun p => (p.1, ev t p.2)) σ K
  | .load e x => aLoad P e (ev t x) σ K
  | .store e x y => aStore P e (ev t x) (ev t y) σ (K .any)
  | .nilCheck x => aNil (ev t x) σ K
  | .binOp op e x y _ => aBin P op e (isC x || isC y) (ev t x) (ev t y) σ K
  | .unOp op _ x => aUn op (ev t x) σ K
  | .convert a b x => aConv P a b (ev t x) σ K
  | .makeInterface e x => aMakeInterface P e (ev t x) σ K
  | .makeFunc f first caps => K (.fn f (first.toList.map (ev t)) (caps.toList.map (ev t))) σ
  | .makeSlice e x y => aMakeSlice P e (ev t x) (ev t y) σ K
  | .slice e x lo hi mx => aSlice P e (ev t x) (lo.map (ev t)) (hi.map (ev t)) (mx.map (ev t)) σ K
  | .fieldAddr s x f => aFieldAddr P s (ev t x) f σ K
  | .field s x f => aField P s (ev t x) f σ K
  | .indexAddr e x y => aIndexAddr P e (ev t x) (ev t y) σ K
  | .index e x y => aIndex P e (ev t x) (ev t y) σ K
  | .extract x i => aExtract (ev t x) i σ K
  | .call c => aCallOp P c t σ K
  | .typeAssert x _ e ck => aTypeAssert P (ev t x) e ck σ K
  | _ => False

def OpNext (w0 : World) (ρ : Nat → Nat × Nat) (fz : Nat → Prop) (σ : AHeap) (w : World) (K : AV → AHeap → Prop) (N : Value → World → Prop) : Prop :=
  ∀ v w' ρ' fz' r σ', K r σ' → HRel w0 ρ' fz' σ' w' → R ρ' σ' fz' w' r v → Ev w0 σ.length ρ σ fz w ρ' σ' fz' w' → N v w'

theorem args_ok {t : List AV} {a : Act} (h : TRel ρ σ fz w t a.tmps) (xs : Array Operand) : RL ρ σ fz w (xs.toList.map (ev t)) (xs.map a.eval) := by
  refine ⟨by simp, fun j hj => ?_⟩
  simp at hj
  simpa [Array.getD, hj] using ev_ok h xs[j]

theorem RL.append {xs ys : List AV} {us vs : Array Value} (h : RL ρ σ fz w xs us) (k : RL ρ σ fz w ys vs) : RL ρ σ fz w (xs ++ ys) (us ++ vs) := by
  refine ⟨by simp [h.1, k.1], fun j hj => ?_⟩
  rw [List.length_append] at hj
  rcases Nat.lt_or_ge j xs.length with h1 | h1
  · have e : (us ++ vs).getD j undef = us.getD j undef := by
      simp only [Array.getD_eq_getD_getElem?]; rw [Array.getElem?_append_left (by have := h.1; omega)]
    rw [e, List.getElem_append_left h1]; exact h.2 j h1
  · have e : (us ++ vs).getD j undef = vs.getD (j - xs.length) undef := by
      simp only [Array.getD_eq_getD_getElem?]; rw [Array.getElem?_append_right (by have := h.1; omega), h.1]
    rw [e, List.getElem_append_right h1]; exact k.2 _ (by omega)

theorem parts_ok {t : List AV} {a : Act} (h : TRel ρ σ fz w t a.tmps) (ps : Array (Nat × Operand)) :
    ∀ (j : Nat) (p : Nat × AV) (q : Nat × Value), (ps.toList.map fun p => (p.1, ev t p.2))[j]? = some p → (ps.map fun x => (x.1, a.eval x.2))[j]? = some q → q.1 = p.1 ∧ R ρ σ fz w p.2 q.2 := by
  intro j p q hp hq
  rw [List.getElem?_map] at hp
  rw [Array.getElem?_map] at hq
  cases hj : ps[j]? with
  | none => rw [hj] at hq; cases hq
  | some x =>
    rw [hj] at hq
    rw [Array.getElem?_toList, hj] at hp
    cases hp; cases hq
    exact ⟨rfl, ev_ok h x.2⟩
end
end Go.Proofs.Va
/- VA, part 9: a region, walked on what values are said to be, is the region walked in the world. -/
set_option linter.unusedVariables false
set_option linter.unusedSimpArgs false
namespace Go.Proofs.Va
open Go Go.RowKit

section
variable {P : Program} {w0 : World} {ρ : Nat → Nat × Nat} {σ : AHeap} {fz : Nat → Prop} {w : World}

theorem wpIn_of_run {F : Fence} (hF : Wd F) {n : Nat} {o : Oper} {a : Act} {next : Act → World → Prop} {Q : Exit → Act → World → Prop} (hd : ∀ c, o.op ≠ .defer c) {v : Value} {w' : World}
    (hr : (execOp a.eval o).run P w = .ok (.value v) w') (hn : next (a.put o.dst v) w') : o.wpIn F n P a w next Q := by
  refine ⟨fun f _ => hF.1 f, ?_⟩
  rw [Oper.semAt_eq _ _ _ hd, hr]
  exact hn

theorem wpIn_of_sem {F : Fence} (hF : Wd F) {n : Nat} {o : Oper} {a : Act} {next : Act → World → Prop} {Q : Exit → Act → World → Prop} (hd : ∀ c, o.op ≠ .defer c) {s : Sem Value}
    (he : execOp a.eval o = (do pure (.value (← s)))) {K : AV → AHeap → Prop} (hs : SemOK P w0 ρ fz σ w s K) (hn : OpNext w0 ρ fz σ w K (fun v w' => next (a.put o.dst v) w')) :
    o.wpIn F n P a w next Q := by
  obtain ⟨v, w', ρ', fz', r, σ', hr, hK, hh, hR, hE⟩ := hs
  exact wpIn_of_run hF hd (v := v) (w' := w') (by rw [he]; simp [hr]) (hn v w' ρ' fz' r σ' hK hh hR hE)

theorem builtin_ok (h : HRel w0 ρ fz σ w) {b : Builtin} {ts : Array TypeId} {ty : TypeId} {cs : Array Bool} {args : List AV} {vs : Array Value} (hr : RL ρ σ fz w args vs) {K : AV → AHeap → Prop}
    (hK : aBuiltin P b ts args σ K) : ∃ s : Sem Value, builtin b ts ty cs vs = (do pure (.value (← s))) ∧ SemOK P w0 ρ fz σ w s K := by
  have one : ∀ {x : AV}, RL ρ σ fz w [x] vs → ∃ v, vs = #[v] ∧ R ρ σ fz w x v := fun {x} hr => by
    obtain ⟨h1, h2⟩ := hr
    have hs : vs.size = 1 := h1
    have := h2 0 (by simp)
    refine ⟨vs.getD 0 undef, ?_, this⟩
    apply Array.ext (by simp [hs])
    intro i hi _
    have : i = 0 := by omega
    subst this; simp [Array.getD, hs]
  have two : ∀ {x y : AV}, RL ρ σ fz w [x, y] vs → ∃ u v, vs = #[u, v] ∧ R ρ σ fz w x u ∧ R ρ σ fz w y v := fun {x y} hr => by
    obtain ⟨h1, h2⟩ := hr
    have hs : vs.size = 2 := h1
    refine ⟨vs.getD 0 undef, vs.getD 1 undef, ?_, h2 0 (by simp), h2 1 (by simp)⟩
    apply Array.ext (by simp [hs])
    intro i hi _
    have : i = 0 ∨ i = 1 := by omega
    rcases this with rfl | rfl <;> simp [Array.getD, hs]
  have tsl : ∀ l, ts.toList = l → ts = l.toArray := fun l hl => by rw [← hl]
  unfold aBuiltin at hK
  split at hK
  · rename_i t x ht
    obtain ⟨v, rfl, hx⟩ := one hr
    rw [tsl _ ht]
    exact ⟨_, rfl, len_ok h hx hK⟩
  · rename_i t x ht
    obtain ⟨v, rfl, hx⟩ := one hr
    rw [tsl _ ht]
    exact ⟨_, rfl, cap_ok h hx hK⟩
  · rename_i t tx x y ht
    obtain ⟨u, v, rfl, hx, hy⟩ := two hr
    rw [tsl _ ht]
    split at hK
    · rename_i hi
      exact ⟨_, rfl, appz_ok h hx hy hi hK⟩
    · exact ⟨_, rfl, append_ok h hx hy hK⟩
  · rename_i t tx x y ht
    obtain ⟨u, v, rfl, hx, hy⟩ := two hr
    rw [tsl _ ht]
    exact ⟨_, rfl, copyY_ok h hx hy hK⟩
  · obtain ⟨u, v, rfl, hx, hy⟩ := two hr
    exact ⟨_, rfl, max_ok h hx hy hK⟩
  · obtain ⟨u, v, rfl, hx, hy⟩ := two hr
    exact ⟨_, rfl, min_ok h hx hy hK⟩
  · exact hK.elim

theorem call_ok {F : Fence} (hF : Wd F) {n : Nat} (h : HRel w0 ρ fz σ w) {t : List AV} {o : Oper} {a : Act} (ht : TRel ρ σ fz w t a.tmps) {c : Call} (ho : o.op = .call c) {K : AV → AHeap → Prop} (hK : aCallOp P c t σ K)
    {next : Act → World → Prop} {Q : Exit → Act → World → Prop} (hn : OpNext w0 ρ fz σ w K (fun v w' => next (a.put o.dst v) w')) : o.wpIn F n P a w next Q := by
  have hd : ∀ c, o.op ≠ .defer c := fun c hc => by rw [ho] at hc; cases hc
  have ha := args_ok ht c.args
  unfold aCallOp at hK
  split at hK
  · rename_i b hcal
    obtain ⟨s, hs, hok⟩ := builtin_ok (ty := o.type) (cs := c.args.map fun | .const _ => true | _ => false) h ha hK
    refine wpIn_of_sem hF hd (s := s) ?_ hok hn
    unfold execOp
    rw [ho]
    simp only [resolve, hcal]
    exact hs
  · rename_i f hcal
    have hf := ev_ok ht f
    split at hK
    · rename_i g first caps hfe
      rw [hfe] at hf
      obtain ⟨arr, brr, hfv, hl1, hl2, hR1, hR2⟩ := hf.fn_inv
      have hargs : RL ρ σ fz w (first ++ c.args.toList.map (ev t) ++ caps) ((arr ++ c.args.map a.eval) ++ brr) := RL.append (RL.append ⟨hl1, hR1⟩ ha) ⟨hl2, hR2⟩
      have hex : execOp a.eval o = callFunc g ((arr ++ c.args.map a.eval) ++ brr) := by
        unfold execOp
        rw [ho]
        simp only [resolve, hcal, hfv]
        rfl
      rcases hK w0 ρ fz w _ h hargs with ⟨h1, h2⟩ | ⟨v, w', r, σ', ρ', fz', h1, h2, h3, h4, h5⟩
      · refine ⟨fun f _ => hF.1 f, ?_⟩
        rw [Oper.semAt_eq _ _ _ hd, hex, h1]
        refine ⟨fun hs => (by rw [hF.2.1] at hs; cases hs), hF.callsIn.2 (h2.mono ?_)⟩
        rintro e w' ⟨v, r, σ', ρ', fz', rfl, hK, hh, hR, hE⟩
        exact hn v w' ρ' fz' r σ' hK hh hR hE
      · exact wpIn_of_run hF hd (by rw [hex]; exact h1) (hn v w' ρ' fz' r σ' h2 h3 h4 h5)
    · rename_i l first caps hfe
      rw [hfe] at hf
      obtain ⟨arr, brr, hfv, hl1, hl2, hR1, hR2⟩ := hf.fn_inv
      have hargs : RL ρ σ fz w (first ++ c.args.toList.map (ev t)) (arr ++ c.args.map a.eval) := RL.append ⟨hl1, hR1⟩ ha
      have hex : execOp a.eval o = Instr.yield l (arr ++ c.args.map a.eval) := by
        unfold execOp
        rw [ho]
        simp only [resolve, hcal, hfv]
        rfl
      obtain ⟨fn, tmps, assign, body, hy, hround⟩ := hK F (n - 1) w0 ρ fz w _ hF h hargs
      refine ⟨fun f _ => hF.1 f, ?_⟩
      rw [Oper.semAt_eq _ _ _ hd, hex, hy]
      refine ⟨fun hs => (by rw [hF.2.1] at hs; cases hs), hround.mono ?_⟩
      rintro e w' ⟨v, r, σ', ρ', fz', rfl, hK, hh, hR, hE⟩
      exact hn v w' ρ' fz' r σ' hK hh hR hE
    · exact hK.elim
  · rename_i r name hcal
    have hr := ev_ok ht r
    split at hK
    · rename_i ty y hre
      obtain ⟨g, hm, hK⟩ := hK
      rw [hre] at hr
      obtain ⟨u, hu, hR⟩ := hr.ifc_inv
      have hargs : RL ρ σ fz w ([y] ++ c.args.toList.map (ev t)) (#[u] ++ c.args.map a.eval) := RL.append ⟨rfl, fun j hj => by
        obtain rfl : j = 0 := by simp at hj; omega
        exact hR⟩ ha
      have hex : ∀ (w : World), (execOp a.eval o).run P w = (callFunc g (#[u] ++ c.args.map a.eval)).run P w := by
        intro w
        unfold execOp
        rw [ho]
        simp only [resolve, hcal, hu]
        have e1 : (#[Value.iface ty u] ++ c.args.map a.eval)[0]? = some (.iface ty u) := by rw [Array.getElem?_append_left (by simp)]; rfl
        have e2 : (#[Value.iface ty u] ++ c.args.map a.eval).extract 1 (#[Value.iface ty u] ++ c.args.map a.eval).size = c.args.map a.eval := by
          apply Array.ext'
          simp
          exact List.take_of_length_le (by simp)
        have e3 : ∀ (w : World), (Go.invoke (.fn (.method name) #[]) (#[Value.iface ty u] ++ c.args.map a.eval)).run P w = (callFunc g (#[u] ++ c.args.map a.eval)).run P w := by
          intro w
          unfold Go.invoke
          simp only [e1, e2, callMethod]
          simp [hm u w]
        exact e3 w
      rcases hK w0 ρ fz w _ h hargs with ⟨h1, h2⟩ | ⟨v, w', r, σ', ρ', fz', h1, h2, h3, h4, h5⟩
      · refine ⟨fun f _ => hF.1 f, ?_⟩
        rw [Oper.semAt_eq _ _ _ hd, hex, h1]
        refine ⟨fun hs => (by rw [hF.2.1] at hs; cases hs), hF.callsIn.2 (h2.mono ?_)⟩
        rintro e w' ⟨v, r, σ', ρ', fz', rfl, hK, hh, hR, hE⟩
        exact hn v w' ρ' fz' r σ' hK hh hR hE
      · exact wpIn_of_run hF hd (by rw [hex]; exact h1) (hn v w' ρ' fz' r σ' h2 h3 h4 h5)
    · exact hK.elim

theorem RO.map {t : List AV} {a : Act} (h : TRel ρ σ fz w t a.tmps) (x : Option Operand) : RO ρ σ fz w (x.map (ev t)) (x.map a.eval) := by
  cases x with
  | none => trivial
  | some x => exact ev_ok h x

theorem store_ok (h : HRel w0 ρ fz σ w) {t : TypeId} {x y : AV} {u v : Value} (hx : R ρ σ fz w x u) (hy : R ρ σ fz w y v) {K : AHeap → Prop} (hK : aStore P t x y σ K) :
    ∃ w' σ', (Instr.storeAt t u v).run P w = .ok () w' ∧ K σ' ∧ HRel w0 ρ fz σ' w' ∧ Ev w0 σ.length ρ σ fz w ρ σ' fz w' := by
  unfold aStore at hK
  split at hK
  · rename_i i ver off
    split at hK
    · rename_i b hb
      obtain ⟨hv, hk, hK⟩ := hK
      split at hK
      · rename_i ys hys
        obtain ⟨hs, hoff, hK⟩ := hK
        obtain ⟨blk, hb', hle, _, hval⟩ := hx.po_inv
        rw [hb] at hb'; cases hb'
        rw [hval hv (by rw [hk]; decide)]
        obtain ⟨hsz, h1, hR⟩ := cellsOf_ok hys hy
        have hg : ∀ j, v.cells.toList.getD j undef = v.cells.getD j undef := fun j => by simp [Array.getD_eq_getD_getElem?, List.getD_eq_getElem?_getD]
        obtain ⟨w', hst, hh, hE⟩ := storeCells_ok (P := P) h hb hk v.cells.toList ys (by simpa using hsz) (fun j hj => by rw [hg]; exact h1 j hj) (fun j hj => by rw [hg]; exact hR j hj) hoff
        exact ⟨w', _, by simp [Instr.storeAt, Instr.sureAddr, storeVar, run_szT hs, hsz, hst], hK, hh, hE⟩
      · exact hK.elim
    · exact hK.elim
  · exact hK.elim

theorem aop_ok {F : Fence} (hF : Wd F) {n : Nat} (h : HRel w0 ρ fz σ w) {t : List AV} {o : Oper} {a : Act} (ht : TRel ρ σ fz w t a.tmps) {K : AV → AHeap → Prop} (hK : aop P o.op t σ K)
    {next : Act → World → Prop} {Q : Exit → Act → World → Prop} (hn : OpNext w0 ρ fz σ w K (fun v w' => next (a.put o.dst v) w')) : o.wpIn F n P a w next Q := by
  have E0 : Ev w0 σ.length ρ σ fz w ρ σ fz w := Ev.refl _ _ _ _ (Nat.le_refl _)
  have same : ∀ {x : AV} {v : Value}, (∀ c, o.op ≠ .defer c) → (execOp a.eval o).run P w = .ok (.value v) w → R ρ σ fz w x v → K x σ → o.wpIn F n P a w next Q :=
    fun {x v} hd he hR hK => wpIn_of_run hF hd he (hn v w ρ fz x σ hK h hR E0)
  cases ho : o.op with
  | move x => rw [ho] at hK; exact same (by rw [ho]; simp) (by simp [execOp, ho]) (ev_ok ht x) hK
  | assign x => rw [ho] at hK; exact same (by rw [ho]; simp) (by simp [execOp, ho]) (ev_ok ht x) hK
  | pick c x y =>
    rw [ho] at hK
    simp only [aop] at hK
    have hc := ev_ok ht c
    split at hK
    · rename_i q hq
      rw [hq] at hc
      have hc := hc.v_eq
      cases q with
      | true => exact same (v := a.eval x) (by rw [ho]; simp) (by simp [execOp, ho, hc, asBool]) (ev_ok ht x) ((iteB.1 hK).1 rfl)
      | false => exact same (v := a.eval y) (by rw [ho]; simp) (by simp [execOp, ho, hc, asBool]) (ev_ok ht y) ((iteB.1 hK).2 rfl)
    · exact hK.elim
  | alloc e => rw [ho] at hK; exact wpIn_of_sem hF (by rw [ho]; simp) (by simp only [execOp, ho]) (alloc_ok h hK) hn
  | box e x => rw [ho] at hK; exact wpIn_of_sem hF (by rw [ho]; simp) (by simp only [execOp, ho]) (box_ok (t := e) h (ev_ok ht x) hK) hn
  | build e ps => rw [ho] at hK; exact wpIn_of_sem hF (by rw [ho]; simp) (by simp only [execOp, ho]) (build_ok h (by simp) (parts_ok ht ps) hK) hn
  | buildSlice e k ps => rw [ho] at hK; exact wpIn_of_sem hF (by rw [ho]; simp) (by simp only [execOp, ho]) (buildSlice_ok h (by simp) (parts_ok ht ps) hK) hn
  | load e x => rw [ho] at hK; exact wpIn_of_sem hF (by rw [ho]; simp) (by simp only [execOp, ho]) (load_ok h (ev_ok ht x) hK) hn
  | store e x y =>
    rw [ho] at hK
    obtain ⟨w', σ', hr, hK, hh, hE⟩ := store_ok h (ev_ok ht x) (ev_ok ht y) hK
    refine ⟨fun f _ => hF.1 f, ?_⟩
    rw [Oper.semAt_eq _ _ _ (by rw [ho]; simp)]
    have : (execOp a.eval o).run P w = .ok .skip w' := by simp [execOp, ho, hr]
    rw [this]
    exact hn undef w' ρ fz .any σ' hK hh (R.top _) hE
  | nilCheck x =>
    rw [ho] at hK
    simp only [aop] at hK
    have hx := ev_ok ht x
    unfold aNil at hK
    split at hK
    · rename_i i ver off hex
      split at hK
      · rename_i b hb
        obtain ⟨hv, hd, hK⟩ := hK
        rw [hex] at hx
        obtain ⟨blk, hb', hle, _, hval⟩ := hx.po_inv
        rw [hb] at hb'; cases hb'
        have hval := hval hv hd
        refine same (v := a.eval x) (by rw [ho]; simp) ?_ hx (by rwa [hex] at hK)
        simp [execOp, ho, hval]
      · exact hK.elim
    · rename_i cs off hex
      rw [hex] at hx
      obtain ⟨b, o', us, hval, _⟩ := hx.pp_inv
      exact same (v := a.eval x) (by rw [ho]; simp) (by simp [execOp, ho, hval]) hx (by rwa [hex] at hK)
    · rename_i ti y hex
      rw [hex] at hx
      obtain ⟨u, hval, _⟩ := hx.ifc_inv
      exact same (v := a.eval x) (by rw [ho]; simp) (by simp [execOp, ho, hval]) hx (by rwa [hex] at hK)
    · rename_i g first caps hex
      rw [hex] at hx
      obtain ⟨arr, brr, hval, _⟩ := hx.fn_inv
      exact same (v := a.eval x) (by rw [ho]; simp) (by simp [execOp, ho, hval]) hx (by rwa [hex] at hK)
    · exact hK.elim
  | binOp op e x y e' => rw [ho] at hK; exact wpIn_of_sem hF (by rw [ho]; simp) (by simp only [execOp, ho]) (bin_ok (ox := x) (oy := y) h (ev_ok ht x) (ev_ok ht y) hK) hn
  | unOp op e x => rw [ho] at hK; exact wpIn_of_sem hF (by rw [ho]; simp) (by simp only [execOp, ho]) (un_ok h (ev_ok ht x) hK) hn
  | convert s d x => rw [ho] at hK; exact wpIn_of_sem hF (by rw [ho]; simp) (by simp only [execOp, ho]) (conv_ok h (ev_ok ht x) hK) hn
  | makeInterface e x => rw [ho] at hK; exact wpIn_of_sem hF (by rw [ho]; simp) (by simp only [execOp, ho]) (makeInterface_ok h (ev_ok ht x) hK) hn
  | makeFunc f first caps =>
    rw [ho] at hK
    have h1 := args_ok ht first
    have h2 := args_ok ht caps
    exact same (by rw [ho]; simp) (by simp [execOp, ho, Instr.makeFunc]) (.fn f _ _ _ _ h1.1 h2.1 h1.2 h2.2) hK
  | makeSlice e x y => rw [ho] at hK; exact wpIn_of_sem hF (by rw [ho]; simp) (by simp only [execOp, ho]) (makeSlice_ok h (ev_ok ht x) (ev_ok ht y) hK) hn
  | slice e x lo hi mx => rw [ho] at hK; exact wpIn_of_sem hF (by rw [ho]; simp) (by simp only [execOp, ho]) (slice_ok h (ev_ok ht x) (RO.map ht lo) (RO.map ht hi) (RO.map ht mx) hK) hn
  | fieldAddr s x f => rw [ho] at hK; exact wpIn_of_sem hF (by rw [ho]; simp) (by simp only [execOp, ho]) (fieldAddr_ok h (ev_ok ht x) hK) hn
  | field s x f => rw [ho] at hK; exact wpIn_of_sem hF (by rw [ho]; simp) (by simp only [execOp, ho]) (field_ok h (ev_ok ht x) hK) hn
  | indexAddr e x y => rw [ho] at hK; exact wpIn_of_sem hF (by rw [ho]; simp) (by simp only [execOp, ho]) (indexAddr_ok h (ev_ok ht x) (ev_ok ht y) hK) hn
  | index e x y => rw [ho] at hK; exact wpIn_of_sem hF (by rw [ho]; simp) (by simp only [execOp, ho]) (index_ok h (ev_ok ht x) (ev_ok ht y) hK) hn
  | extract x i => rw [ho] at hK; exact wpIn_of_sem hF (by rw [ho]; simp) (by simp only [execOp, ho]) (extract_ok h (ev_ok ht x) hK) hn
  | call c => rw [ho] at hK; exact call_ok hF h ht ho hK hn
  | typeAssert x xT e ck => rw [ho] at hK; exact wpIn_of_sem hF (by rw [ho]; simp) (by simp only [execOp, ho]) (typeAssert_ok (xT := xT) h (ev_ok ht x) hK) hn
  | _ => rw [ho] at hK; exact hK.elim
end
end Go.Proofs.Va
