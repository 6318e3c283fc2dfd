/- VA, part 1: abstract values, how they stand for values in a world, and how that lives on. -/
import Derived.RangeFuncLeaves
import Derived.RangeFuncRecord
import Derived.RangeFuncSeq
import Derived.RangeFuncOwn
import Derived.Below
set_option linter.unusedVariables false
namespace Go.Proofs.Va
open Go Go.RowKit

/-- What a value is said to be. -/
inductive AV where
  | v (x : Value)
  | any
  | nan
  | pl (nl : Bool) (cs : List AV) (n : Nat) (cap : Option Nat)
  | pp (cs : List AV) (off : Nat)
  | po (i ver off : Nat)
  | so (i ver off n sz : Nat) (cap : Option Nat)
  | agg (cs : List AV)
  | tup (cs : List AV)
  | fn (f : Fn) (first caps : List AV)
  | ifc (t : TypeId) (x : AV)
  deriving Inhabited

inductive BK where
  | own | ro | dead
  deriving DecidableEq

structure ABlk where
  kind : BK
  ver : Nat
  cells : List AV

abbrev AHeap := List ABlk

/-- Values that lead to no block of the call's own. -/
inductive Rp (fz : Nat → Prop) (w : World) : AV → Value → Prop
  | v (x : Value) : Rp fz w (.v x) x
  | any (x : Value) : Rp fz w .any x
  | nan (b : Nat) (h : FloatKind.f64.format.order b b = none) : Rp fz w .nan (.float .f64 b)
  | pl (nl : Bool) (cs : List AV) (n : Nat) (cap : Option Nat) (a : Option Addr) (c b o : Nat) (us : Nat → Value)
      (hnl : nl = a.isNone) (hn : a = none → c = 0) (hc : n ≤ c) (hcap : ∀ k, cap = some k → c = k)
      (ha : 0 < cs.length → a = some ⟨b, o, none⟩) (hfz : 0 < cs.length → fz b)
      (hcell : ∀ j, j < cs.length → w.cell? ⟨b, o + j, none⟩ = some (us j))
      (h1 : ∀ j, j < cs.length → (us j).oneCell' = true)
      (hR : ∀ j (h : j < cs.length), Rp fz w (cs[j]) (us j)) (hfr : ∀ k, cap = some k → 0 < cs.length → ∃ cells e, w.heap[b]? = some (.cells cells e (0, 0))) : Rp fz w (.pl nl cs n cap) (.slice a n c)
  | pp (cs : List AV) (off b o : Nat) (us : Nat → Value) (hfz : 0 < cs.length → fz b)
      (hcell : ∀ j, j < cs.length → w.cell? ⟨b, o + j, none⟩ = some (us j))
      (h1 : ∀ j, j < cs.length → (us j).oneCell' = true)
      (hR : ∀ j (h : j < cs.length), Rp fz w (cs[j]) (us j)) : Rp fz w (.pp cs off) (.pointer (some ⟨b, o + off, none⟩))
  | agg (cs : List AV) (arr : Array Value) (hl : arr.size = cs.length) (h1 : ∀ j, j < cs.length → (arr.getD j undef).oneCell' = true)
      (hR : ∀ j (h : j < cs.length), Rp fz w (cs[j]) (arr.getD j undef)) : Rp fz w (.agg cs) (.agg arr)
  | tup (cs : List AV) (arr : Array Value) (hl : arr.size = cs.length)
      (hR : ∀ j (h : j < cs.length), Rp fz w (cs[j]) (arr.getD j undef)) : Rp fz w (.tup cs) (.tuple arr)
  | fn (f : Fn) (cs ds : List AV) (arr brr : Array Value) (hl : arr.size = cs.length) (hl' : brr.size = ds.length)
      (hR : ∀ j (h : j < cs.length), Rp fz w (cs[j]) (arr.getD j undef))
      (hR' : ∀ j (h : j < ds.length), Rp fz w (ds[j]) (brr.getD j undef)) : Rp fz w (.fn f cs ds) (.func f arr brr)
  | ifc (t : TypeId) (x : AV) (u : Value) (h : Rp fz w x u) : Rp fz w (.ifc t x) (.iface t u)

/-- Values that may lead to blocks of the call's own. -/
inductive R (ρ : Nat → Nat × Nat) (σ : AHeap) (fz : Nat → Prop) (w : World) : AV → Value → Prop
  | pure (x : AV) (v : Value) (h : Rp fz w x v) : R ρ σ fz w x v
  | po (i ver off : Nat) (blk : ABlk) (v : Value) (hb : σ[i]? = some blk) (hle : ver ≤ blk.ver) (h1 : v.oneCell' = true)
      (hv : blk.ver = ver → blk.kind ≠ .dead → v = .pointer (some ⟨(ρ i).1, (ρ i).2 + off, none⟩)) : R ρ σ fz w (.po i ver off) v
  | so (i ver off n sz : Nat) (cap : Option Nat) (blk : ABlk) (v : Value) (hb : σ[i]? = some blk) (hle : ver ≤ blk.ver) (h1 : v.oneCell' = true)
      (hv : blk.ver = ver → blk.kind ≠ .dead → ∃ a c, v = .slice (some a) n c ∧ n ≤ c ∧ (∀ k, cap = some k → c = k) ∧
        (0 < c → a = ⟨(ρ i).1, (ρ i).2 + off, none⟩) ∧
        ∃ cells e fr, w.heap[(ρ i).1]? = some (.cells cells e fr) ∧ (ρ i).2 + off + c * sz ≤ cells.size) : R ρ σ fz w (.so i ver off n sz cap) v
  | agg (cs : List AV) (arr : Array Value) (hl : arr.size = cs.length) (h1 : ∀ j, j < cs.length → (arr.getD j undef).oneCell' = true)
      (hR : ∀ j (h : j < cs.length), R ρ σ fz w (cs[j]) (arr.getD j undef)) : R ρ σ fz w (.agg cs) (.agg arr)
  | tup (cs : List AV) (arr : Array Value) (hl : arr.size = cs.length)
      (hR : ∀ j (h : j < cs.length), R ρ σ fz w (cs[j]) (arr.getD j undef)) : R ρ σ fz w (.tup cs) (.tuple arr)
  | fn (f : Fn) (cs ds : List AV) (arr brr : Array Value) (hl : arr.size = cs.length) (hl' : brr.size = ds.length)
      (hR : ∀ j (h : j < cs.length), R ρ σ fz w (cs[j]) (arr.getD j undef))
      (hR' : ∀ j (h : j < ds.length), R ρ σ fz w (ds[j]) (brr.getD j undef)) : R ρ σ fz w (.fn f cs ds) (.func f arr brr)
  | ifc (t : TypeId) (x : AV) (u : Value) (h : R ρ σ fz w x u) : R ρ σ fz w (.ifc t x) (.iface t u)

/-- Every block that is named lies below n. -/
inductive Sc (n : Nat) : AV → Prop
  | v (x : Value) : Sc n (.v x)
  | any : Sc n .any
  | nan : Sc n .nan
  | pl (nl : Bool) (cs : List AV) (k : Nat) (cap : Option Nat) : Sc n (.pl nl cs k cap)
  | pp (cs : List AV) (off : Nat) : Sc n (.pp cs off)
  | po (i ver off : Nat) (h : i < n) : Sc n (.po i ver off)
  | so (i ver off k sz : Nat) (cap : Option Nat) (h : i < n) : Sc n (.so i ver off k sz cap)
  | agg (cs : List AV) (h : ∀ j (h : j < cs.length), Sc n cs[j]) : Sc n (.agg cs)
  | tup (cs : List AV) (h : ∀ j (h : j < cs.length), Sc n cs[j]) : Sc n (.tup cs)
  | fn (f : Fn) (cs ds : List AV) (h : ∀ j (h : j < cs.length), Sc n cs[j]) (h' : ∀ j (h : j < ds.length), Sc n ds[j]) : Sc n (.fn f cs ds)
  | ifc (t : TypeId) (x : AV) (h : Sc n x) : Sc n (.ifc t x)

structure HRel (w0 : World) (ρ : Nat → Nat × Nat) (fz : Nat → Prop) (σ : AHeap) (w : World) : Prop where
  below : Below w0.heap.size w0 w
  fzlt : ∀ k, fz k → k < w.heap.size
  blk : ∀ (i : Nat) (blk : ABlk), σ[i]? = some blk → blk.kind ≠ .dead → ∃ cells e, w.heap[(ρ i).1]? = some (.cells cells e (0, 0)) ∧ w0.heap.size ≤ (ρ i).1 ∧ (ρ i).2 + blk.cells.length ≤ cells.size ∧
    (blk.kind = .own → ¬ fz (ρ i).1) ∧ (blk.kind = .ro → fz (ρ i).1) ∧
    ∀ j (h : j < blk.cells.length), ∃ u, cells[(ρ i).2 + j]? = some u ∧ u.oneCell' = true ∧ R ρ σ fz w blk.cells[j] u
  inj : ∀ (i j : Nat) (bi bj : ABlk), σ[i]? = some bi → σ[j]? = some bj → bi.kind = .own → bj.kind = .own → (ρ i).1 = (ρ j).1 → i = j

structure Ev (w0 : World) (n0 : Nat) (ρ : Nat → Nat × Nat) (σ : AHeap) (fz : Nat → Prop) (w : World) (ρ' : Nat → Nat × Nat) (σ' : AHeap) (fz' : Nat → Prop) (w' : World) : Prop where
  len : n0 ≤ σ.length
  len' : n0 ≤ σ'.length
  blk : ∀ i, i < n0 → ∀ b b' : ABlk, σ[i]? = some b → σ'[i]? = some b' → b.ver ≤ b'.ver ∧ (b'.ver = b.ver → b'.kind ≠ .dead → b.kind ≠ .dead ∧ ρ' i = ρ i)
  fzm : ∀ k, fz k → fz' k
  fzn : ∀ k, fz' k → fz k ∨ (w0.heap.size ≤ k ∧ ∃ c e fr, w'.heap[k]? = some (.cells c e fr))
  fzs : ∀ k, fz k → w'.heap[k]? = w.heap[k]?
  size : w.heap.size ≤ w'.heap.size
  same : ∀ (k : Nat) (o : Obj), w.heap[k]? = some o → o.isCells = false → w'.heap[k]? = some o
  cells : ∀ (k : Nat) (c : Array Value) (e : TypeId) (fr : Nat × Nat), w.heap[k]? = some (.cells c e fr) → ∃ c' fr', w'.heap[k]? = some (.cells c' e fr') ∧ c'.size = c.size

theorem Ev.refl (w0 : World) {n0 : Nat} (ρ : Nat → Nat × Nat) {σ : AHeap} (fz : Nat → Prop) (w : World) (h : n0 ≤ σ.length) : Ev w0 n0 ρ σ fz w ρ σ fz w :=
  ⟨h, h, fun i _ b b' hb hb' => by rw [hb] at hb'; cases hb'; exact ⟨Nat.le_refl _, fun _ hk => ⟨hk, rfl⟩⟩, fun _ h => h, fun _ h => .inl h, fun _ _ => rfl, Nat.le_refl _, fun _ _ h _ => h, fun _ c _ fr h => ⟨c, fr, h, rfl⟩⟩

theorem Ev.trans {w0 : World} {n0 : Nat} {ρ ρ1 ρ2 : Nat → Nat × Nat} {σ σ1 σ2 : AHeap} {fz fz1 fz2 : Nat → Prop} {w w1 w2 : World}
    (h : Ev w0 n0 ρ σ fz w ρ1 σ1 fz1 w1) (k : Ev w0 n0 ρ1 σ1 fz1 w1 ρ2 σ2 fz2 w2) : Ev w0 n0 ρ σ fz w ρ2 σ2 fz2 w2 := by
  refine ⟨h.len, k.len', ?_, fun x hx => k.fzm x (h.fzm x hx), ?_, fun x hx => (k.fzs x (h.fzm x hx)).trans (h.fzs x hx), Nat.le_trans h.size k.size,
    fun x o hx ho => k.same x o (h.same x o hx ho) ho, ?_⟩
  · intro i hi b b2 hb hb2
    obtain ⟨b1, hb1⟩ : ∃ b1, σ1[i]? = some b1 := ⟨_, List.getElem?_eq_getElem (Nat.lt_of_lt_of_le hi h.len')⟩
    have e1 := h.blk i hi b b1 hb hb1
    have e2 := k.blk i hi b1 b2 hb1 hb2
    refine ⟨Nat.le_trans e1.1 e2.1, fun hv hd => ?_⟩
    have hv2 : b2.ver = b1.ver := by have := e1.1; have := e2.1; omega
    obtain ⟨d1, r1⟩ := e2.2 hv2 hd
    have hv1 : b1.ver = b.ver := by omega
    obtain ⟨d0, r0⟩ := e1.2 hv1 d1
    exact ⟨d0, r1.trans r0⟩
  · intro x hx
    rcases k.fzn x hx with hx | hx
    · rcases h.fzn x hx with hx | ⟨hx, c, e, fr, hc⟩
      · exact .inl hx
      · obtain ⟨c', fr', h1, _⟩ := k.cells x c e fr hc
        exact .inr ⟨hx, c', e, fr', h1⟩
    · exact .inr hx
  · intro x c e fr hx
    obtain ⟨c1, fr1, h1, s1⟩ := h.cells x c e fr hx
    obtain ⟨c2, fr2, h2, s2⟩ := k.cells x c1 e fr1 h1
    exact ⟨c2, fr2, h2, s2.trans s1⟩

theorem Ev.lower {w0 : World} {n0 n1 : Nat} {ρ ρ1 : Nat → Nat × Nat} {σ σ1 : AHeap} {fz fz1 : Nat → Prop} {w w1 : World}
    (h : Ev w0 n0 ρ σ fz w ρ1 σ1 fz1 w1) (hn : n1 ≤ n0) : Ev w0 n1 ρ σ fz w ρ1 σ1 fz1 w1 :=
  ⟨Nat.le_trans hn h.len, Nat.le_trans hn h.len', fun i hi => h.blk i (by omega), h.fzm, h.fzn, h.fzs, h.size, h.same, h.cells⟩

theorem cell_of_heap {w w' : World} {b : Nat} (h : w'.heap[b]? = w.heap[b]?) (o : Nat) : w'.cell? ⟨b, o, none⟩ = w.cell? ⟨b, o, none⟩ := by
  simp [World.cell?, h]

theorem ite_and {c : Prop} [Decidable c] {A B : Prop} : (if c then A else B) ↔ ((c → A) ∧ (¬c → B)) := by
  by_cases h : c <;> simp [h]
theorem iteB {q : Bool} {A B : Prop} : (if q = true then A else B) ↔ ((q = true → A) ∧ (q = false → B)) := by cases q <;> simp

/-- A value that leads to no block of the call's own lives on where what it leads to lies as it lay. -/
theorem Rp.keep {fz fz' : Nat → Prop} {w w' : World} (hf : ∀ k, fz k → fz' k) (hw : ∀ k, fz k → w'.heap[k]? = w.heap[k]?) {x : AV} {v : Value} (h : Rp fz w x v) : Rp fz' w' x v := by
  induction h with
  | v x => exact .v x
  | any x => exact .any x
  | nan b h => exact .nan b h
  | pl nl cs n cap a c b o us hnl hn hc hcap ha hfz hcell h1 hR hfr ih =>
    exact .pl nl cs n cap a c b o us hnl hn hc hcap ha (fun hp => hf _ (hfz hp)) (fun j hj => (cell_of_heap (hw _ (hfz (by omega))) _).trans (hcell j hj)) h1 ih (fun k hk hp => by
      obtain ⟨cells, e, h⟩ := hfr k hk hp
      exact ⟨cells, e, (hw _ (hfz hp)).trans h⟩)
  | pp cs off b o us hfz hcell h1 hR ih =>
    exact .pp cs off b o us (fun hp => hf _ (hfz hp)) (fun j hj => (cell_of_heap (hw _ (hfz (by omega))) _).trans (hcell j hj)) h1 ih
  | agg cs arr hl h1 hR ih => exact .agg cs arr hl h1 ih
  | tup cs arr hl hR ih => exact .tup cs arr hl ih
  | fn f cs ds arr brr hl hl' hR hR' ih ih' => exact .fn f cs ds arr brr hl hl' ih ih'
  | ifc t x u h ih => exact .ifc t x u ih

theorem Rp.sc {fz : Nat → Prop} {w : World} {x : AV} {v : Value} (h : Rp fz w x v) (n : Nat) : Sc n x := by
  induction h with
  | v x => exact .v x
  | any x => exact .any
  | nan b h => exact .nan
  | pl nl cs m cap a c b o us hnl hn hc hcap ha hfz hcell h1 hR hfr ih => exact .pl ..
  | pp cs off b o us hfz hcell h1 hR ih => exact .pp ..
  | agg cs arr hl h1 hR ih => exact .agg _ ih
  | tup cs arr hl hR ih => exact .tup _ ih
  | fn f cs ds arr brr hl hl' hR hR' ih ih' => exact .fn _ _ _ ih ih'
  | ifc t x u h ih => exact .ifc _ _ ih

theorem R.sc {ρ : Nat → Nat × Nat} {σ : AHeap} {fz : Nat → Prop} {w : World} {x : AV} {v : Value} (h : R ρ σ fz w x v) : Sc σ.length x := by
  induction h with
  | pure x v h => exact h.sc _
  | po i ver off blk v hb hle h1 hv => exact .po _ _ _ (List.getElem?_eq_some_iff.1 hb).1
  | so i ver off n sz cap blk v hb hle h1 hv => exact .so _ _ _ _ _ _ (List.getElem?_eq_some_iff.1 hb).1
  | agg cs arr hl h1 hR ih => exact .agg _ ih
  | tup cs arr hl hR ih => exact .tup _ ih
  | fn f cs ds arr brr hl hl' hR hR' ih ih' => exact .fn _ _ _ ih ih'
  | ifc t x u h ih => exact .ifc _ _ ih

theorem Sc.mono {n m : Nat} (hn : n ≤ m) {x : AV} (h : Sc n x) : Sc m x := by
  induction h with
  | v x => exact .v x
  | any => exact .any
  | nan => exact .nan
  | pl nl cs k cap => exact .pl ..
  | pp cs off => exact .pp ..
  | po i ver off h => exact .po _ _ _ (by omega)
  | so i ver off k sz cap h => exact .so _ _ _ _ _ _ (by omega)
  | agg cs h ih => exact .agg _ ih
  | tup cs h ih => exact .tup _ ih
  | fn f cs ds h h' ih ih' => exact .fn _ _ _ ih ih'
  | ifc t x h ih => exact .ifc _ _ ih

theorem R.ev {w0 : World} {n0 : Nat} {ρ ρ' : Nat → Nat × Nat} {σ σ' : AHeap} {fz fz' : Nat → Prop} {w w' : World} (E : Ev w0 n0 ρ σ fz w ρ' σ' fz' w')
    {x : AV} {v : Value} (h : R ρ σ fz w x v) : Sc n0 x → R ρ' σ' fz' w' x v := by
  induction h with
  | pure x v h => exact fun _ => .pure _ _ (h.keep E.fzm E.fzs)
  | po i ver off blk v hb hle h1 hv =>
    intro hs
    cases hs with
    | po _ _ _ hi =>
      obtain ⟨blk', hb'⟩ : ∃ b1, σ'[i]? = some b1 := ⟨_, List.getElem?_eq_getElem (Nat.lt_of_lt_of_le hi E.len')⟩
      have e := E.blk i hi blk blk' hb hb'
      have e1 := e.1
      refine .po i ver off blk' v hb' (by omega) h1 fun hver hd => ?_
      have hvv : blk.ver = ver := by omega
      obtain ⟨d, r⟩ := e.2 (by omega) hd
      rw [r]; exact hv hvv d
  | so i ver off n sz cap blk v hb hle h1 hv =>
    intro hs
    cases hs with
    | so _ _ _ _ _ _ hi =>
      obtain ⟨blk', hb'⟩ : ∃ b1, σ'[i]? = some b1 := ⟨_, List.getElem?_eq_getElem (Nat.lt_of_lt_of_le hi E.len')⟩
      have e := E.blk i hi blk blk' hb hb'
      have e1 := e.1
      refine .so i ver off n sz cap blk' v hb' (by omega) h1 fun hver hd => ?_
      have hvv : blk.ver = ver := by omega
      obtain ⟨d, r⟩ := e.2 (by omega) hd
      obtain ⟨a, c, h1, h2, h3, h4, cells, el, fr, h5, h6⟩ := hv hvv d
      obtain ⟨cells', fr', h7, h8⟩ := E.cells _ _ _ _ h5
      exact ⟨a, c, h1, h2, h3, by rw [r]; exact h4, cells', el, fr', by rw [r]; exact h7, by rw [r]; omega⟩
  | agg cs arr hl h1 hR ih => intro hs; cases hs with | agg _ h => exact .agg _ _ hl h1 fun j hj => ih j hj (h j hj)
  | tup cs arr hl hR ih => intro hs; cases hs with | tup _ h => exact .tup _ _ hl fun j hj => ih j hj (h j hj)
  | fn f cs ds arr brr hl hl' hR hR' ih ih' => intro hs; cases hs with | fn _ _ _ h h' => exact .fn _ _ _ _ _ hl hl' (fun j hj => ih j hj (h j hj)) (fun j hj => ih' j hj (h' j hj))
  | ifc t x u h ih => intro hs; cases hs with | ifc _ _ h => exact .ifc _ _ _ (ih h)

/-! ### What a value is, by what it is said to be -/
section
variable {ρ : Nat → Nat × Nat} {σ : AHeap} {fz : Nat → Prop} {w : World}

theorem R.v_eq {y v : Value} (h : R ρ σ fz w (.v y) v) : v = y := by
  cases h with | pure _ _ h => cases h; rfl
theorem R.po_inv {i ver off : Nat} {v : Value} (h : R ρ σ fz w (.po i ver off) v) : ∃ blk, σ[i]? = some blk ∧ ver ≤ blk.ver ∧ v.oneCell' = true ∧
    (blk.ver = ver → blk.kind ≠ .dead → v = .pointer (some ⟨(ρ i).1, (ρ i).2 + off, none⟩)) := by
  cases h with
  | pure _ _ h => cases h
  | po _ _ _ blk _ hb hle h1 hv => exact ⟨blk, hb, hle, h1, hv⟩
theorem R.so_inv {i ver off n sz : Nat} {cap : Option Nat} {v : Value} (h : R ρ σ fz w (.so i ver off n sz cap) v) : ∃ blk, σ[i]? = some blk ∧ ver ≤ blk.ver ∧ v.oneCell' = true ∧
    (blk.ver = ver → blk.kind ≠ .dead → ∃ a c, v = .slice (some a) n c ∧ n ≤ c ∧ (∀ k, cap = some k → c = k) ∧
        (0 < c → a = ⟨(ρ i).1, (ρ i).2 + off, none⟩) ∧
        ∃ cells e fr, w.heap[(ρ i).1]? = some (.cells cells e fr) ∧ (ρ i).2 + off + c * sz ≤ cells.size) := by
  cases h with
  | pure _ _ h => cases h
  | so _ _ _ _ _ _ blk _ hb hle h1 hv => exact ⟨blk, hb, hle, h1, hv⟩
theorem R.pl_inv' {nl : Bool} {cs : List AV} {n : Nat} {cap : Option Nat} {v : Value} (h : R ρ σ fz w (.pl nl cs n cap) v) :
    ∃ (a : Option Addr) (c b o : Nat) (us : Nat → Value), v = .slice a n c ∧ nl = a.isNone ∧ (a = none → c = 0) ∧ n ≤ c ∧ (∀ k, cap = some k → c = k) ∧
      (0 < cs.length → a = some ⟨b, o, none⟩) ∧ (0 < cs.length → fz b) ∧ (∀ j, j < cs.length → w.cell? ⟨b, o + j, none⟩ = some (us j)) ∧
      (∀ j, j < cs.length → (us j).oneCell' = true) ∧ (∀ j (h : j < cs.length), Rp fz w (cs[j]) (us j)) ∧ (∀ k, cap = some k → 0 < cs.length → ∃ cells e, w.heap[b]? = some (.cells cells e (0, 0))) := by
  cases h with
  | pure _ _ h => cases h with | pl _ _ _ _ a c b o us hnl hn hc hcap ha hfz hcell h1 hR hfr => exact ⟨a, c, b, o, us, rfl, hnl, hn, hc, hcap, ha, hfz, hcell, h1, hR, hfr⟩
theorem R.pl_inv {nl : Bool} {cs : List AV} {n : Nat} {cap : Option Nat} {v : Value} (h : R ρ σ fz w (.pl nl cs n cap) v) :
    ∃ (a : Option Addr) (c b o : Nat) (us : Nat → Value), v = .slice a n c ∧ nl = a.isNone ∧ (a = none → c = 0) ∧ n ≤ c ∧ (∀ k, cap = some k → c = k) ∧
      (0 < cs.length → a = some ⟨b, o, none⟩) ∧ (0 < cs.length → fz b) ∧ (∀ j, j < cs.length → w.cell? ⟨b, o + j, none⟩ = some (us j)) ∧
      (∀ j, j < cs.length → (us j).oneCell' = true) ∧ ∀ j (h : j < cs.length), Rp fz w (cs[j]) (us j) := by
  obtain ⟨a, c, b, o, us, h0, hnl, hn, hc, hcap, ha, hfz, hcell, h1, hR, _⟩ := h.pl_inv'
  exact ⟨a, c, b, o, us, h0, hnl, hn, hc, hcap, ha, hfz, hcell, h1, hR⟩
theorem R.pp_inv {cs : List AV} {off : Nat} {v : Value} (h : R ρ σ fz w (.pp cs off) v) :
    ∃ (b o : Nat) (us : Nat → Value), v = .pointer (some ⟨b, o + off, none⟩) ∧ (0 < cs.length → fz b) ∧ (∀ j, j < cs.length → w.cell? ⟨b, o + j, none⟩ = some (us j)) ∧
      (∀ j, j < cs.length → (us j).oneCell' = true) ∧ ∀ j (h : j < cs.length), Rp fz w (cs[j]) (us j) := by
  cases h with
  | pure _ _ h => cases h with | pp _ _ b o us hfz hcell h1 hR => exact ⟨b, o, us, rfl, hfz, hcell, h1, hR⟩
theorem R.agg_inv {cs : List AV} {v : Value} (h : R ρ σ fz w (.agg cs) v) :
    ∃ arr, v = .agg arr ∧ arr.size = cs.length ∧ (∀ j, j < cs.length → (arr.getD j undef).oneCell' = true) ∧ ∀ j (h : j < cs.length), R ρ σ fz w (cs[j]) (arr.getD j undef) := by
  cases h with
  | pure _ _ h => cases h with | agg _ arr hl h1 hR => exact ⟨arr, rfl, hl, h1, fun j hj => .pure _ _ (hR j hj)⟩
  | agg _ arr hl h1 hR => exact ⟨arr, rfl, hl, h1, hR⟩
theorem R.tup_inv {cs : List AV} {v : Value} (h : R ρ σ fz w (.tup cs) v) :
    ∃ arr, v = .tuple arr ∧ arr.size = cs.length ∧ ∀ j (h : j < cs.length), R ρ σ fz w (cs[j]) (arr.getD j undef) := by
  cases h with
  | pure _ _ h => cases h with | tup _ arr hl hR => exact ⟨arr, rfl, hl, fun j hj => .pure _ _ (hR j hj)⟩
  | tup _ arr hl hR => exact ⟨arr, rfl, hl, hR⟩
theorem R.fn_inv {f : Fn} {cs ds : List AV} {v : Value} (h : R ρ σ fz w (.fn f cs ds) v) :
    ∃ arr brr, v = .func f arr brr ∧ arr.size = cs.length ∧ brr.size = ds.length ∧ (∀ j (h : j < cs.length), R ρ σ fz w (cs[j]) (arr.getD j undef)) ∧
      ∀ j (h : j < ds.length), R ρ σ fz w (ds[j]) (brr.getD j undef) := by
  cases h with
  | pure _ _ h => cases h with | fn _ _ _ arr brr hl hl' hR hR' => exact ⟨arr, brr, rfl, hl, hl', fun j hj => .pure _ _ (hR j hj), fun j hj => .pure _ _ (hR' j hj)⟩
  | fn _ _ _ arr brr hl hl' hR hR' => exact ⟨arr, brr, rfl, hl, hl', hR, hR'⟩
theorem R.ifc_inv {t : TypeId} {x : AV} {v : Value} (h : R ρ σ fz w (.ifc t x) v) : ∃ u, v = .iface t u ∧ R ρ σ fz w x u := by
  cases h with
  | pure _ _ h => cases h with | ifc _ _ u h => exact ⟨u, rfl, .pure _ _ h⟩
  | ifc _ _ u h => exact ⟨u, rfl, h⟩
theorem R.nan_inv {v : Value} (h : R ρ σ fz w .nan v) : ∃ b, v = .float .f64 b ∧ FloatKind.f64.format.order b b = none := by
  cases h with
  | pure _ _ h => cases h with | nan b h => exact ⟨b, rfl, h⟩
theorem R.top (v : Value) : R ρ σ fz w .any v := .pure _ _ (.any v)
theorem R.lit (v : Value) : R ρ σ fz w (.v v) v := .pure _ _ (.v v)

/-- Does what it is said to be fill one cell? -/
def AV.one : AV → Bool
  | .v x => x.oneCell'
  | .any | .agg _ | .tup _ => false
  | _ => true
theorem R.one {x : AV} {v : Value} (h : R ρ σ fz w x v) (hx : x.one = true) : v.oneCell' = true := by
  cases x with
  | v y => rw [h.v_eq]; exact hx
  | any => cases hx
  | nan => obtain ⟨b, rfl, _⟩ := h.nan_inv; rfl
  | pl nl cs n cap => obtain ⟨a, c, b, o, us, rfl, _⟩ := h.pl_inv; rfl
  | pp cs off => obtain ⟨b, o, us, rfl, _⟩ := h.pp_inv; rfl
  | po i ver off => obtain ⟨_, _, _, h1, _⟩ := h.po_inv; exact h1
  | so i ver off n sz cap => obtain ⟨_, _, _, h1, _⟩ := h.so_inv; exact h1
  | agg cs => cases hx
  | tup cs => cases hx
  | fn f cs ds => obtain ⟨arr, brr, rfl, _⟩ := h.fn_inv; rfl
  | ifc t x => obtain ⟨u, rfl, _⟩ := h.ifc_inv; rfl
end
end Go.Proofs.Va
