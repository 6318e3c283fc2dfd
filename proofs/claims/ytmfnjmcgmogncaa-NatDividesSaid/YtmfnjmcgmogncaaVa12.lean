/- VA, part 12: contracts of functions whose answers lead to no block that is written again. -/
import Derived.Test.YtmfnjmcgmogncaaVa11
set_option linter.unusedVariables false
set_option linter.unusedSimpArgs false
namespace Go.Proofs.Va
open Go Go.RowKit

/-- What names no block of the call's own. -/
inductive Pu : AV → Prop
  | v (x : Value) : Pu (.v x)
  | any : Pu .any
  | nan : Pu .nan
  | pl (nl : Bool) (cs : List AV) (k : Nat) (cap : Option Nat) : Pu (.pl nl cs k cap)
  | pp (cs : List AV) (off : Nat) : Pu (.pp cs off)
  | agg (cs : List AV) (h : ∀ j (h : j < cs.length), Pu cs[j]) : Pu (.agg cs)
  | tup (cs : List AV) (h : ∀ j (h : j < cs.length), Pu cs[j]) : Pu (.tup cs)
  | fn (f : Fn) (cs ds : List AV) (h : ∀ j (h : j < cs.length), Pu cs[j]) (h' : ∀ j (h : j < ds.length), Pu ds[j]) : Pu (.fn f cs ds)
  | ifc (t : TypeId) (x : AV) (h : Pu x) : Pu (.ifc t x)

/-- x, where the blocks of S are written no more, is y. -/
inductive Pur (σ : AHeap) (S : Nat → Prop) : AV → AV → Prop
  | same (x : AV) (h : Pu x) : Pur σ S x x
  | so (i ver off n sz : Nat) (cap : Option Nat) (b : ABlk) (cs : List AV) (hb : σ[i]? = some b) (hv : b.ver = ver) (hk : b.kind ≠ .dead) (hS : S i) (hl : off + n * sz ≤ b.cells.length)
      (hcl : cs.length = n * sz) (h : ∀ j (hj : j < cs.length), Pur σ S (b.cells.getD (off + j) .any) cs[j]) : Pur σ S (.so i ver off n sz cap) (.pl false cs n cap)
  | po (i ver off : Nat) (b : ABlk) (cs : List AV) (hb : σ[i]? = some b) (hv : b.ver = ver) (hk : b.kind ≠ .dead) (hS : S i) (hcl : cs.length = b.cells.length)
      (h : ∀ j (hj : j < cs.length), Pur σ S (b.cells.getD j .any) cs[j]) : Pur σ S (.po i ver off) (.pp cs off)
  | agg (cs ds : List AV) (hl : ds.length = cs.length) (h : ∀ j (hj : j < ds.length), Pur σ S (cs.getD j .any) ds[j]) : Pur σ S (.agg cs) (.agg ds)
  | tup (cs ds : List AV) (hl : ds.length = cs.length) (h : ∀ j (hj : j < ds.length), Pur σ S (cs.getD j .any) ds[j]) : Pur σ S (.tup cs) (.tup ds)
  | fn (f : Fn) (cs ds es fs : List AV) (hl : ds.length = cs.length) (hl' : fs.length = es.length) (h : ∀ j (hj : j < ds.length), Pur σ S (cs.getD j .any) ds[j])
      (h' : ∀ j (hj : j < fs.length), Pur σ S (es.getD j .any) fs[j]) : Pur σ S (.fn f cs es) (.fn f ds fs)
  | ifc (t : TypeId) (x y : AV) (h : Pur σ S x y) : Pur σ S (.ifc t x) (.ifc t y)

section
variable {P : Program} {w0 : World} {ρ : Nat → Nat × Nat} {σ : AHeap} {fz : Nat → Prop} {w : World}

theorem R.toRp {x : AV} {v : Value} (h : R ρ σ fz w x v) : Pu x → Rp fz w x v := by
  induction h with
  | pure x v h => exact fun _ => h
  | po i ver off blk v hb hle h1 hv => intro h; cases h
  | so i ver off n sz cap blk v hb hle h1 hv => intro h; cases h
  | agg cs arr hl h1 hR ih => intro h; cases h with | agg _ h => exact .agg _ _ hl h1 fun j hj => ih j hj (h j hj)
  | tup cs arr hl hR ih => intro h; cases h with | tup _ h => exact .tup _ _ hl fun j hj => ih j hj (h j hj)
  | fn f cs ds arr brr hl hl' hR hR' ih ih' => intro h; cases h with | fn _ _ _ h h' => exact .fn _ _ _ _ _ hl hl' (fun j hj => ih j hj (h j hj)) (fun j hj => ih' j hj (h' j hj))
  | ifc t x u h ih => intro h; cases h with | ifc _ _ h => exact .ifc _ _ _ (ih h)

/-- The blocks that are written no more, those of S too. -/
def fzS (ρ : Nat → Nat × Nat) (σ : AHeap) (fz S : Nat → Prop) : Nat → Prop := fun k => fz k ∨ ∃ i b, S i ∧ σ[i]? = some b ∧ b.kind ≠ .dead ∧ k = (ρ i).1

theorem getD_eq {cs : List AV} {j : Nat} (h : j < cs.length) : cs.getD j .any = cs[j] := by simp [List.getD, h]

theorem Pur.ok (hh : HRel w0 ρ fz σ w) {S : Nat → Prop} {x y : AV} (h : Pur σ S x y) : ∀ {v : Value}, R ρ σ fz w x v → Rp (fzS ρ σ fz S) w y v := by
  induction h with
  | same x h => exact fun hR => (hR.toRp h).keep (fun _ h => .inl h) (fun _ _ => rfl)
  | so i ver off n sz cap b cs hb hv hk hS hl hcl h ih =>
    intro v hR
    obtain ⟨b', hb', hle, _, hval⟩ := hR.so_inv
    rw [hb] at hb'; cases hb'
    obtain ⟨a, c, rfl, hnc, hcap, ha, hroom⟩ := hval hv hk
    obtain ⟨cells, e, hw, hbase, hlen, _, _, hc⟩ := hh.blk i b hb hk
    let us : Nat → Value := fun j => cells.getD ((ρ i).2 + (off + j)) undef
    have hus : ∀ j, j < n * sz → cells[(ρ i).2 + (off + j)]? = some (us j) ∧ (us j).oneCell' = true ∧ R ρ σ fz w (b.cells.getD (off + j) .any) (us j) := fun j hj => by
      obtain ⟨u, hu, h1, hR⟩ := hc (off + j) (by omega)
      have hq : cells[(ρ i).2 + (off + j)]? = some (us j) := get_of_getD (Array.getElem?_eq_some_iff.1 hu).1
      rw [hu] at hq
      have hq' := Option.some.inj hq
      rw [getD_eq (by omega)]
      exact ⟨by rw [hu, hq'], by rw [← hq']; exact h1, by rw [← hq']; exact hR⟩
    refine .pl false cs n cap (some a) c (ρ i).1 ((ρ i).2 + off) us rfl (fun h => by cases h) hnc hcap (fun hp => ?_) (fun _ => .inr ⟨i, b, hS, hb, hk, rfl⟩) (fun j hj => ?_) (fun j hj => (hus j (by omega)).2.1) (fun j hj => ih j hj (hus j (by omega)).2.2) (fun _ _ _ => ⟨cells, e, hw⟩)
    · have : 0 < c := by
        rcases Nat.eq_zero_or_pos c with h0 | h0
        · have : n = 0 := by omega
          rw [this, Nat.zero_mul] at hcl; omega
        · exact h0
      rw [ha this]
    · have := (hus j (by omega)).1
      rw [← Nat.add_assoc] at this
      simp [World.cell?, hw, this]
  | po i ver off b cs hb hv hk hS hcl h ih =>
    intro v hR
    obtain ⟨b', hb', hle, _, hval⟩ := hR.po_inv
    rw [hb] at hb'; cases hb'
    rw [hval hv hk]
    obtain ⟨cells, e, hw, hbase, hlen, _, _, hc⟩ := hh.blk i b hb hk
    let us : Nat → Value := fun j => cells.getD ((ρ i).2 + j) undef
    have hus : ∀ j, j < b.cells.length → cells[(ρ i).2 + j]? = some (us j) ∧ (us j).oneCell' = true ∧ R ρ σ fz w (b.cells.getD j .any) (us j) := fun j hj => by
      obtain ⟨u, hu, h1, hR⟩ := hc j hj
      have hq : cells[(ρ i).2 + j]? = some (us j) := get_of_getD (Array.getElem?_eq_some_iff.1 hu).1
      rw [hu] at hq
      have hq' := Option.some.inj hq
      rw [getD_eq hj]
      exact ⟨by rw [hu, hq'], by rw [← hq']; exact h1, by rw [← hq']; exact hR⟩
    exact .pp cs off (ρ i).1 (ρ i).2 us (fun _ => .inr ⟨i, b, hS, hb, hk, rfl⟩) (fun j hj => by simp [World.cell?, hw, (hus j (by omega)).1]) (fun j hj => (hus j (by omega)).2.1) (fun j hj => ih j hj (hus j (by omega)).2.2)
  | agg cs ds hl h ih =>
    intro v hR
    obtain ⟨arr, rfl, hs, h1, hR⟩ := hR.agg_inv
    refine .agg ds arr (by omega) (fun j hj => h1 j (by omega)) fun j hj => ih j hj ?_
    rw [getD_eq (by omega)]; exact hR j (by omega)
  | tup cs ds hl h ih =>
    intro v hR
    obtain ⟨arr, rfl, hs, hR⟩ := hR.tup_inv
    refine .tup ds arr (by omega) fun j hj => ih j hj ?_
    rw [getD_eq (by omega)]; exact hR j (by omega)
  | fn f cs ds es fs hl hl' h h' ih ih' =>
    intro v hR
    obtain ⟨arr, brr, rfl, hs, hs', hR, hR'⟩ := hR.fn_inv
    refine .fn f ds fs arr brr (by omega) (by omega) (fun j hj => ih j hj ?_) (fun j hj => ih' j hj ?_)
    · rw [getD_eq (by omega)]; exact hR j (by omega)
    · rw [getD_eq (by omega)]; exact hR' j (by omega)
  | ifc t x y h ih =>
    intro v hR
    obtain ⟨u, rfl, hR'⟩ := hR.ifc_inv
    exact .ifc t y u (ih hR')

def RpL (fz : Nat → Prop) (w : World) (args : List AV) (vs : Array Value) : Prop := vs.size = args.length ∧ ∀ j (h : j < args.length), Rp fz w args[j] (vs.getD j undef)

/-- A FUNCTION's CONTRACT: its arguments lead to memory that nobody writes; so does its answer; of what was there nothing turns. -/
def Ctr (P : Program) (g : FuncId) (args : List AV) (Post : AV → Prop) : Prop :=
  ∀ (fz : Nat → Prop) (w : World) (vs : Array Value), (∀ k, fz k → k < w.heap.size) → RpL fz w args vs →
    ((callFunc g vs).run P w = .ok (.enter g vs) w ∧ Calls P g vs w fun e w' => ∃ v r fz', e = .returned v ∧ Post r ∧ Rp fz' w' r v ∧ Below w.heap.size w w' ∧ (∀ k, fz k → fz' k) ∧ (∀ k, fz' k → k < w'.heap.size) ∧
      ∀ k, fz' k → fz k ∨ (w.heap.size ≤ k ∧ ∃ c e fr, w'.heap[k]? = some (.cells c e fr))) ∨
    (∃ v w' r fz', (callFunc g vs).run P w = .ok (.value v) w' ∧ Post r ∧ Rp fz' w' r v ∧ Below w.heap.size w w' ∧ (∀ k, fz k → fz' k) ∧ (∀ k, fz' k → k < w'.heap.size) ∧
      ∀ k, fz' k → fz k ∨ (w.heap.size ≤ k ∧ ∃ c e fr, w'.heap[k]? = some (.cells c e fr)))

theorem Ctr.mono {g : FuncId} {args : List AV} {Post Post' : AV → Prop} (h : Ctr P g args Post) (hp : ∀ r, Post r → Post' r) : Ctr P g args Post' := by
  intro fz w vs hf hr
  rcases h fz w vs hf hr with ⟨h1, h2⟩ | ⟨v, w', r, fz', h1, h2, h3⟩
  · exact .inl ⟨h1, h2.mono fun e w' ⟨v, r, fz', he, hK, hx⟩ => ⟨v, r, fz', he, hp _ hK, hx⟩⟩
  · exact .inr ⟨v, w', r, fz', h1, hp _ h2, h3⟩

/-- From a walk that begins without a block of its own. -/
theorem ctr_of {g : FuncId} {args : List AV} {Post : AV → Prop} (h : ACall P g args [] fun r σ' => ∃ r', Pur σ' (fun _ => True) r r' ∧ Post r') : Ctr P g args Post := by
  intro fz w vs hf hr
  have hh : HRel w (fun _ => (0, 0)) fz [] w := ⟨Below.refl _ _, hf, fun i b hb => by simp at hb, fun i j bi bj hi => by simp at hi⟩
  have fin : ∀ {v : Value} {r : AV} {σ' : AHeap} {ρ' : Nat → Nat × Nat} {fz' : Nat → Prop} {w' : World}, (∃ r', Pur σ' (fun _ => True) r r' ∧ Post r') → HRel w ρ' fz' σ' w' → R ρ' σ' fz' w' r v → Ev w 0 (fun _ => (0, 0)) [] fz w ρ' σ' fz' w' →
      ∃ r' fz2, Post r' ∧ Rp fz2 w' r' v ∧ Below w.heap.size w w' ∧ (∀ k, fz k → fz2 k) ∧ (∀ k, fz2 k → k < w'.heap.size) ∧ ∀ k, fz2 k → fz k ∨ (w.heap.size ≤ k ∧ ∃ c e fr, w'.heap[k]? = some (.cells c e fr)) := by
    intro v r σ' ρ' fz' w' ⟨r', hp, hP⟩ hH hR hE
    refine ⟨r', fzS ρ' σ' fz' (fun _ => True), hP, hp.ok hH hR, hH.below, fun k hk => .inl (hE.fzm k hk), ?_, ?_⟩
    · rintro k (hk | ⟨i, b, _, hb, hd, rfl⟩)
      · exact hH.fzlt k hk
      · obtain ⟨c, e, h1, _⟩ := hH.blk i b hb hd
        exact (Array.getElem?_eq_some_iff.1 h1).1
    · rintro k (hk | ⟨i, b, _, hb, hd, rfl⟩)
      · exact hE.fzn k hk
      · obtain ⟨c, e, h1, h2, _⟩ := hH.blk i b hb hd
        exact .inr ⟨h2, c, e, _, h1⟩
  rcases h w (fun _ => (0, 0)) fz w vs hh ⟨hr.1, fun j hj => .pure _ _ (hr.2 j hj)⟩ with ⟨h1, h2⟩ | ⟨v, w', r, σ', ρ', fz', h1, h2, h3, h4, h5⟩
  · refine .inl ⟨h1, h2.mono ?_⟩
    rintro e w' ⟨v, r, σ', ρ', fz', rfl, hK, hH, hR, hE⟩
    obtain ⟨r', fz2, q⟩ := fin hK hH hR hE
    exact ⟨v, r', fz2, rfl, q⟩
  · obtain ⟨r', fz2, q⟩ := fin h2 h3 h4 h5
    exact .inr ⟨v, w', r', fz2, h1, q⟩

/-- Of what was there nothing turns: the call's own blocks are as they were. -/
theorem HRel.grow (h : HRel w0 ρ fz σ w) {fz' : Nat → Prop} {w' : World} (hb : Below w.heap.size w w') (hm : ∀ k, fz k → fz' k) (hl : ∀ k, fz' k → k < w'.heap.size) (hn : ∀ k, fz' k → fz k ∨ (w.heap.size ≤ k ∧ ∃ c e fr, w'.heap[k]? = some (.cells c e fr))) :
    HRel w0 ρ fz' σ w' ∧ Ev w0 σ.length ρ σ fz w ρ σ fz' w' := by
  have lt : ∀ {k : Nat} {o : Obj}, w.heap[k]? = some o → k < w.heap.size := fun hk => (Array.getElem?_eq_some_iff.1 hk).1
  have hle := h.le
  have E : Ev w0 σ.length ρ σ fz w ρ σ fz' w' := by
    refine ⟨Nat.le_refl _, Nat.le_refl _, fun i _ b b' hb hb' => ?_, hm, fun k hk => ?_, fun k hk => hb.block k (h.fzlt k hk), hb.size, fun k o hk _ => (hb.block k (lt hk)).trans hk, fun k c e fr hk => ⟨c, fr, (hb.block k (lt hk)).trans hk, rfl⟩⟩
    · rw [hb] at hb'; cases hb'
      exact ⟨Nat.le_refl _, fun _ hd => ⟨hd, rfl⟩⟩
    · rcases hn k hk with h1 | ⟨h1, h2⟩
      · exact .inl h1
      · exact .inr ⟨by omega, h2⟩
  refine ⟨⟨h.below.trans (hb.mono hle), hl, ?_, h.inj⟩, E⟩
  intro i blk hbk hd
  obtain ⟨cells, e, q1, q2, q3, q4, q5, q6⟩ := h.blk i blk hbk hd
  refine ⟨cells, e, (hb.block _ (lt q1)).trans q1, q2, q3, fun hk hf => ?_, fun hk => hm _ (q5 hk), fun j hj => ?_⟩
  · rcases hn _ hf with h1 | ⟨h1, _⟩
    · exact q4 hk h1
    · have := lt q1; omega
  · obtain ⟨u, hu, h1, hR⟩ := q6 j hj
    exact ⟨u, hu, h1, hR.ev E hR.sc⟩

/-- A call by the contract; the arguments name no block of the call's own. -/
theorem acall_ctr {g : FuncId} {args : List AV} {Post : AV → Prop} {K : AV → AHeap → Prop} (h : Ctr P g args Post) (hp : ∀ j (hj : j < args.length), Pu args[j]) (hK : ∀ r, Post r → K r σ) : ACall P g args σ K := by
  intro w0 ρ fz w vs hh hr
  rcases h fz w vs hh.fzlt ⟨hr.1, fun j hj => (hr.2 j hj).toRp (hp j hj)⟩ with ⟨h1, h2⟩ | ⟨v, w', r, fz', h1, h2, h3, h4, h5, h6, h7⟩
  · refine .inl ⟨h1, h2.mono ?_⟩
    rintro e w' ⟨v, r, fz', rfl, hP, hR, hb, hm, hl, hn⟩
    obtain ⟨hh', hE⟩ := hh.grow hb hm hl hn
    exact ⟨v, r, σ, ρ, fz', rfl, hK r hP, hh', .pure _ _ hR, hE⟩
  · obtain ⟨hh', hE⟩ := hh.grow h4 h5 h6 h7
    exact .inr ⟨v, w', r, σ, ρ, fz', h1, hK r h2, hh', .pure _ _ h3, hE⟩

/-- Some of the call's own blocks are written no more. -/
def froze (σ : AHeap) (ids : List Nat) : AHeap := σ.mapIdx fun i b => if ids.contains i && b.kind == .own then { b with kind := .ro } else b

theorem froze_get (ids : List Nat) (i : Nat) : (froze σ ids)[i]? = (σ[i]?).map fun b => if ids.contains i && b.kind == .own then { b with kind := .ro } else b := by simp [froze]
theorem froze_length (ids : List Nat) : (froze σ ids).length = σ.length := by simp [froze]

theorem HRel.froze (h : HRel w0 ρ fz σ w) (ids : List Nat) : HRel w0 ρ (fzS ρ σ fz (· ∈ ids)) (froze σ ids) w ∧ Ev w0 σ.length ρ σ fz w ρ (froze σ ids) (fzS ρ σ fz (· ∈ ids)) w := by
  have get : ∀ {i : Nat} {b' : ABlk}, (Va.froze σ ids)[i]? = some b' → ∃ b, σ[i]? = some b ∧ b'.ver = b.ver ∧ b'.cells = b.cells ∧ (b'.kind ≠ .dead → b.kind ≠ .dead) ∧ (b'.kind = .own → b.kind = .own ∧ i ∉ ids) ∧ (b'.kind = .ro → b.kind = .ro ∨ i ∈ ids) := by
    intro i b' hb'
    rw [froze_get] at hb'
    obtain ⟨b, hb, rfl⟩ := Option.map_eq_some_iff.1 hb'
    refine ⟨b, hb, ?_⟩
    by_cases hc : (ids.contains i && b.kind == .own) = true
    · rw [if_pos hc]
      simp at hc
      exact ⟨rfl, rfl, fun _ => by rw [hc.2]; decide, fun hh => by simp at hh, fun _ => .inr hc.1⟩
    · rw [if_neg hc]
      refine ⟨rfl, rfl, id, fun hh => ⟨hh, fun hm => hc (by simp [hm, hh])⟩, fun hh => .inl hh⟩
  have E : Ev w0 σ.length ρ σ fz w ρ (Va.froze σ ids) (fzS ρ σ fz (· ∈ ids)) w := by
    refine ⟨Nat.le_refl _, by rw [froze_length]; exact Nat.le_refl _, ?_, fun k hk => .inl hk, ?_, fun _ _ => rfl, Nat.le_refl _, fun _ _ h _ => h, fun _ c _ fr h => ⟨c, fr, h, rfl⟩⟩
    · intro i hi b b' hb hb'
      obtain ⟨b1, h1, h2, h3, h4, _⟩ := get hb'
      rw [hb] at h1; cases h1
      exact ⟨by omega, fun _ hd => ⟨h4 hd, rfl⟩⟩
    · rintro k (hk | ⟨i, b, _, hb, hd, rfl⟩)
      · exact .inl hk
      · obtain ⟨c, e, q1, q2, _⟩ := h.blk i b hb hd
        exact .inr ⟨q2, c, e, _, q1⟩
  refine ⟨⟨h.below, ?_, ?_, ?_⟩, E⟩
  · rintro k (hk | ⟨i, b, _, hb, hd, rfl⟩)
    · exact h.fzlt k hk
    · obtain ⟨c, e, q1, _⟩ := h.blk i b hb hd
      exact (Array.getElem?_eq_some_iff.1 q1).1
  · intro i b' hb' hd
    obtain ⟨b, h1, h2, h3, h4, h5, h6⟩ := get hb'
    obtain ⟨cells, e, q1, q2, q3, q4, q5, q6⟩ := h.blk i b h1 (h4 hd)
    refine ⟨cells, e, q1, q2, by rw [h3]; exact q3, ?_, ?_, ?_⟩
    · intro hk
      obtain ⟨hk1, hni⟩ := h5 hk
      rintro (hf | ⟨i', b2, hm, hb2, hd2, he⟩)
      · exact q4 hk1 hf
      · cases hkk : b2.kind with
        | own => exact hni (by rw [h.inj i i' b b2 h1 hb2 hk1 hkk he]; exact hm)
        | ro => obtain ⟨_, _, _, _, _, _, p5, _⟩ := h.blk i' b2 hb2 hd2; exact q4 hk1 (he ▸ p5 hkk)
        | dead => exact hd2 hkk
    · intro hk
      rcases h6 hk with h7 | h7
      · exact .inl (q5 h7)
      · exact .inr ⟨i, b, h7, h1, h4 hd, rfl⟩
    · intro j hj
      have hj' : j < b.cells.length := by rw [← h3]; exact hj
      obtain ⟨u, hu, hone, hR⟩ := q6 j hj'
      refine ⟨u, hu, hone, ?_⟩
      have : b'.cells[j] = b.cells[j] := by congr 1
      rw [this]
      exact hR.ev E hR.sc
  · intro i j bi bj hi hj ki kj he
    obtain ⟨b1, h1, _, _, _, h5, _⟩ := get hi
    obtain ⟨b2, h2, _, _, _, h6, _⟩ := get hj
    exact h.inj i j b1 b2 h1 h2 (h5 ki).1 (h6 kj).1 he

/-- A call by the contract, behind which the blocks 'ids' are written no more. -/
theorem acall_froze {g : FuncId} {args args' : List AV} {Post : AV → Prop} {K : AV → AHeap → Prop} (ids : List Nat) (h : Ctr P g args' Post) (hl : args'.length = args.length)
    (hp : ∀ j (hj : j < args'.length), Pur σ (· ∈ ids) (args.getD j .any) args'[j]) (hK : ∀ r, Post r → K r (froze σ ids)) : ACall P g args σ K := by
  intro w0 ρ fz w vs hh hr
  obtain ⟨hh1, hE1⟩ := hh.froze ids
  have hargs : RpL (fzS ρ σ fz (· ∈ ids)) w args' vs := ⟨by rw [hr.1, hl], fun j hj => by
    have := hp j hj
    refine this.ok hh ?_
    rw [getD_eq (by omega)]; exact hr.2 j (by omega)⟩
  rcases h _ w vs hh1.fzlt hargs with ⟨h1, h2⟩ | ⟨v, w', r, fz', h1, h2, h3, h4, h5, h6, h7⟩
  · refine .inl ⟨h1, h2.mono ?_⟩
    rintro e w' ⟨v, r, fz', rfl, hP, hR, hb, hm, hl, hn⟩
    obtain ⟨hh', hE⟩ := hh1.grow hb hm hl hn
    exact ⟨v, r, _, ρ, fz', rfl, hK r hP, hh', .pure _ _ hR, hE1.trans (hE.lower (by rw [froze_length]; exact Nat.le_refl _))⟩
  · obtain ⟨hh', hE⟩ := hh1.grow h4 h5 h6 h7
    exact .inr ⟨v, w', r, _, ρ, fz', h1, hK r h2, hh', .pure _ _ h3, hE1.trans (hE.lower (by rw [froze_length]; exact Nat.le_refl _))⟩
end
end Go.Proofs.Va
