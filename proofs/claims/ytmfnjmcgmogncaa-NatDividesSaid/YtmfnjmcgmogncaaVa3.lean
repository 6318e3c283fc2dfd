/- VA, part 3: new variables, structs and slices; addresses; lengths; cuts. -/
import Derived.Test.YtmfnjmcgmogncaaVa2
set_option linter.unusedVariables false
set_option linter.unusedSimpArgs false
namespace Go.Proofs.Va
open Go Go.RowKit

section
variable {P : Program} {w0 : World} {ρ : Nat → Nat × Nat} {σ : AHeap} {fz : Nat → Prop} {w : World}

/-! ### Zero values -/
def cav1 : Value → AV
  | .slice none 0 0 => .pl true [] 0 (some 0)
  | v => .v v
theorem cav1_ok (v : Value) : Rp fz w (cav1 v) v := by
  unfold cav1
  split
  · exact .pl true [] 0 (some 0) none 0 0 0 (fun _ => undef) rfl (fun _ => rfl) (Nat.le_refl _) (fun k hk => by cases hk; rfl) (fun h => by simp at h) (fun h => by simp at h) (fun j hj => by simp at hj) (fun j hj => by simp at hj) (fun j hj => by simp at hj) (fun k _ h => by simp at h)
  · exact .v _

/-- The cells of a type's zero value. -/
def zcT (P : Program) (t : TypeId) : Option (List AV) :=
  match (P.info? t).bind (·.zero) with
  | some z => if z.cells.all (·.oneCell') then some (z.cells.toList.map cav1) else none
  | none => none

theorem zcT_ok {t : TypeId} {cs : List AV} (h : zcT P t = some cs) : ∃ z, (∀ w : World, (zeroValue t).run P w = .ok z w) ∧ z.cells.size = cs.length ∧
    (∀ j, j < cs.length → (z.cells.getD j undef).oneCell' = true) ∧ ∀ (fz : Nat → Prop) (w : World) j (hj : j < cs.length), Rp fz w cs[j] (z.cells.getD j undef) := by
  unfold zcT at h
  split at h
  · rename_i z hz
    split at h
    · rename_i hall
      cases h
      obtain ⟨i, hi, hz⟩ := Option.bind_eq_some_iff.1 hz
      refine ⟨z, fun w => by simp [zeroValue, typeInfo, hi, hz], by simp, fun j hj => ?_, fun fz w j hj => ?_⟩
      · simp at hj
        have := Array.all_eq_true.1 hall j hj
        simpa [Array.getD, hj] using this
      · simp at hj
        simpa [Array.getD, hj] using cav1_ok (fz := fz) (w := w) z.cells[j]
    · cases h
  · cases h

theorem get_of_getD {arr : Array Value} {j : Nat} (h : j < arr.size) : arr[j]? = some (arr.getD j undef) := by simp [Array.getD, h]

/-- A pointer to the block that has just been pushed. -/
theorem R.new (cs : List AV) (w' : World) (hs : w.heap.size < w'.heap.size) (off : Nat) :
    R (upd ρ σ.length (w.heap.size, 0)) (σ ++ [⟨.own, 0, cs⟩]) fz w' (.po σ.length 0 off) (.pointer (some ⟨w.heap.size, off, none⟩)) :=
  .po _ _ _ ⟨.own, 0, cs⟩ _ (get_append_self _ _) (Nat.le_refl _) rfl (fun _ _ => by rw [upd_same]; simp)

theorem newRow_ok (h : HRel w0 ρ fz σ w) (cs : List AV) (arr : Array Value) (e : TypeId) (hsz : cs.length ≤ arr.size)
    (h1 : ∀ j, j < cs.length → (arr.getD j undef).oneCell' = true) (hR : ∀ j (hj : j < cs.length), R ρ σ fz w cs[j] (arr.getD j undef)) :
    HRel w0 (upd ρ σ.length (w.heap.size, 0)) fz (σ ++ [⟨.own, 0, cs⟩]) (w.alloc (.cells arr e)) ∧
    Ev w0 σ.length ρ σ fz w (upd ρ σ.length (w.heap.size, 0)) (σ ++ [⟨.own, 0, cs⟩]) fz (w.alloc (.cells arr e)) :=
  h.push cs arr e hsz fun j hj => ⟨_, get_of_getD (by omega), h1 j hj, hR j hj⟩

def aAlloc (P : Program) (t : TypeId) (σ : AHeap) (K : AV → AHeap → Prop) : Prop :=
  match zcT P t with
  | some cs => K (.po σ.length 0 0) (σ ++ [⟨.own, 0, cs⟩])
  | none => False

theorem alloc_ok (h : HRel w0 ρ fz σ w) {t : TypeId} {K : AV → AHeap → Prop} (hK : aAlloc P t σ K) : SemOK P w0 ρ fz σ w (Instr.alloc t true (.tuple #[])) K := by
  unfold aAlloc at hK
  split at hK
  · rename_i cs hcs
    obtain ⟨z, hz, hsz, h1, hR⟩ := zcT_ok hcs
    obtain ⟨hn, hE⟩ := newRow_ok h cs z.cells t (by omega) h1 (fun j hj => .pure _ _ (hR fz w j hj))
    exact ⟨_, _, _, _, _, _, by simp [Instr.alloc, hz, newVar, newRow], hK, hn, R.new cs _ (by simp) 0, hE⟩
  · exact hK.elim

def aBox (x : AV) (σ : AHeap) (K : AV → AHeap → Prop) : Prop :=
  match cellsOf x with
  | some cs => K (.po σ.length 0 0) (σ ++ [⟨.own, 0, cs⟩])
  | none => False

theorem box_ok (h : HRel w0 ρ fz σ w) {t : TypeId} {x : AV} {v : Value} (hx : R ρ σ fz w x v) {K : AV → AHeap → Prop} (hK : aBox x σ K) : SemOK P w0 ρ fz σ w (Instr.box t v) K := by
  unfold aBox at hK
  split at hK
  · rename_i cs hcs
    obtain ⟨hsz, h1, hR⟩ := cellsOf_ok hcs hx
    obtain ⟨hn, hE⟩ := newRow_ok h cs v.cells t (by omega) h1 hR
    exact ⟨_, _, _, _, _, _, by simp [Instr.box, newVar, newRow], hK, hn, R.new cs _ (by simp) 0, hE⟩
  · exact hK.elim

/-! ### Structs, arrays and slices that are written out -/
def placesT (P : Program) (t : TypeId) : Option (List (Nat × Nat)) :=
  match P.underlying t with
  | some (.struct fields) => fields.toList.mapM (fun f => (P.info? f.type).map fun i => (f.offset, i.size))
  | some (.array n e) => (P.info? e).map fun i => (List.range n).map fun k => (k * i.size, i.size)
  | _ => none

def afill (ps : List (Nat × Nat)) : List AV → List (Nat × AV) → Option (List AV)
  | cs, [] => some cs
  | cs, (i, x) :: rest =>
    match ps[i]?, cellsOf x with
    | some (off, sz), some ys => if ys.length = sz ∧ off + sz ≤ cs.length then afill ps (wr cs off ys) rest else none
    | _, _ => none

theorem afill_length (ps : List (Nat × Nat)) : ∀ (parts : List (Nat × AV)) (cs cs' : List AV), afill ps cs parts = some cs' → cs'.length = cs.length
  | [], cs, cs', h => by cases h; rfl
  | (i, x) :: rest, cs, cs', h => by
    simp only [afill] at h
    split at h
    · split at h
      · rw [afill_length ps rest _ _ h, wr_length]
      · cases h
    · cases h

theorem foldl_zipIdx_set (vs : List Value) : ∀ (cells : Array Value) (off k : Nat) (j : Nat), off + k + vs.length ≤ cells.size →
    ((vs.zipIdx k).foldl (fun cs x => cs.setIfInBounds (off + x.2) x.1) cells)[j]? = if off + k ≤ j ∧ j < off + k + vs.length then vs[j - (off + k)]? else cells[j]? := by
  induction vs with
  | nil => intro cells off k j _; simp; omega
  | cons v vs ih =>
    intro cells off k j hl
    simp at hl
    simp only [List.zipIdx_cons, List.foldl_cons]
    rw [ih _ _ _ _ (by simp; omega)]
    by_cases h1 : off + (k + 1) ≤ j ∧ j < off + (k + 1) + vs.length
    · rw [if_pos h1, if_pos (by simp; omega)]
      rw [show j - (off + k) = (j - (off + (k + 1))) + 1 by omega]; simp
    · rw [if_neg h1]
      by_cases h2 : j = off + k
      · subst h2
        rw [if_pos (by simp), Array.getElem?_setIfInBounds]
        simp; omega
      · rw [Array.getElem?_setIfInBounds, if_neg (by omega), if_neg (by simp; omega)]
theorem foldl_zipIdx_size (vs : List Value) : ∀ (cells : Array Value) (off k : Nat),
    ((vs.zipIdx k).foldl (fun cs x => cs.setIfInBounds (off + x.2) x.1) cells).size = cells.size := by
  induction vs with
  | nil => intro cells off k; rfl
  | cons v vs ih => intro cells off k; simp only [List.zipIdx_cons, List.foldl_cons]; rw [ih]; simp

theorem fill_ok (ps : List (Nat × Nat)) (place : Nat → Option (Nat × Nat)) (hp : ∀ i x, ps[i]? = some x → place i = some x) :
    ∀ (parts : List (Nat × AV)) (vparts : List (Nat × Value)) (cs cs' : List AV) (cells : Array Value),
      vparts.length = parts.length → (∀ (j : Nat) (p : Nat × AV) (q : Nat × Value), parts[j]? = some p → vparts[j]? = some q → q.1 = p.1 ∧ R ρ σ fz w p.2 q.2) →
      cells.size = cs.length → (∀ j, j < cs.length → (cells.getD j undef).oneCell' = true) → (∀ j (hj : j < cs.length), R ρ σ fz w cs[j] (cells.getD j undef)) →
      afill ps cs parts = some cs' →
      ∃ cells', Instr.fill place cells vparts = some cells' ∧ cells'.size = cs'.length ∧ (∀ j, j < cs'.length → (cells'.getD j undef).oneCell' = true) ∧
        ∀ j (hj : j < cs'.length), R ρ σ fz w cs'[j] (cells'.getD j undef)
  | [], vparts, cs, cs', cells, hl, _, hsz, h1, hR, hf => by
    cases hf
    have : vparts = [] := List.eq_nil_of_length_eq_zero hl
    subst this
    exact ⟨cells, rfl, hsz, h1, hR⟩
  | (i, x) :: rest, vparts, cs, cs', cells, hl, hparts, hsz, h1, hR, hf => by
    cases vparts with
    | nil => simp at hl
    | cons q vrest =>
      obtain ⟨qi, v⟩ := q
      obtain ⟨he, hx⟩ := hparts 0 (i, x) (qi, v) rfl rfl
      dsimp only at he hx
      subst he
      simp only [afill] at hf
      split at hf
      · rename_i off sz ys hpl hys
        split at hf
        · rename_i hc
          obtain ⟨hc1, hc2⟩ := hc
          obtain ⟨hvs, hv1, hvR⟩ := cellsOf_ok hys hx
          subst hc1
          have hcond : ¬ (v.cells.size ≠ ys.length || decide (off + v.cells.size > cells.size)) = true := by
            simp; omega
          simp only [Instr.fill, hp _ _ hpl]
          rw [if_neg (by simpa using hcond)]
          have hz : (v.cells.zipIdx.foldl (fun cs x => cs.setIfInBounds (off + x.2) x.1) cells) = ((v.cells.toList.zipIdx 0).foldl (fun cs x => cs.setIfInBounds (off + x.2) x.1) cells) := by
            rw [← Array.foldl_toList, Array.toList_zipIdx]
          have hg := fun j => foldl_zipIdx_set v.cells.toList cells off 0 j (by simp; omega)
          have hsz2 := foldl_zipIdx_size v.cells.toList cells off 0
          rw [← hz] at hsz2
          simp only [← hz] at hg
          have key : ∀ j (hj : j < (wr cs off ys).length), ((v.cells.zipIdx.foldl (fun cs x => cs.setIfInBounds (off + x.2) x.1) cells).getD j undef).oneCell' = true ∧
              R ρ σ fz w (wr cs off ys)[j] ((v.cells.zipIdx.foldl (fun cs x => cs.setIfInBounds (off + x.2) x.1) cells).getD j undef) := by
            intro j hj
            have hj' : j < cs.length := by rwa [wr_length] at hj
            have hw := wr_get ys cs off j hc2
            rw [List.getElem?_eq_getElem hj] at hw
            have hgj := hg j
            rw [get_of_getD (by rw [hsz2]; omega)] at hgj
            by_cases hin : off ≤ j ∧ j < off + ys.length
            · rw [if_pos hin, List.getElem?_eq_getElem (by omega)] at hw
              rw [if_pos (by simp; omega)] at hgj
              have e1 := Option.some.inj hw
              rw [e1]
              have e2 : (v.cells.zipIdx.foldl (fun cs x => cs.setIfInBounds (off + x.2) x.1) cells).getD j undef = v.cells.getD (j - off) undef := by
                rw [Nat.add_zero, Array.getElem?_toList, get_of_getD (by omega)] at hgj
                exact Option.some.inj hgj
              rw [e2]
              exact ⟨hv1 _ (by omega), hvR _ (by omega)⟩
            · rw [if_neg hin, List.getElem?_eq_getElem hj'] at hw
              rw [if_neg (by simp; omega), get_of_getD (by omega)] at hgj
              have e1 := Option.some.inj hw
              rw [e1, Option.some.inj hgj]
              exact ⟨h1 _ hj', hR _ hj'⟩
          exact fill_ok ps place hp rest vrest _ cs' _ (by simpa using hl) (fun j p q hp' hq' => hparts (j + 1) p q (by simpa using hp') (by simpa using hq'))
            (by rw [hsz2, wr_length]; exact hsz) (fun j hj => (key j hj).1) (fun j hj => (key j hj).2) hf
        · cases hf
      · cases hf

def aBuild (P : Program) (t : TypeId) (parts : List (Nat × AV)) (σ : AHeap) (K : AV → AHeap → Prop) : Prop :=
  match placesT P t, zcT P t with
  | some ps, some zs => match afill ps zs parts with
    | some cs => K (.agg cs) σ
    | none => False
  | _, _ => False

theorem build_ok (h : HRel w0 ρ fz σ w) {t : TypeId} {parts : List (Nat × AV)} {vparts : Array (Nat × Value)} (hl : vparts.size = parts.length)
    (hparts : ∀ (j : Nat) (p : Nat × AV) (q : Nat × Value), parts[j]? = some p → vparts[j]? = some q → q.1 = p.1 ∧ R ρ σ fz w p.2 q.2) {K : AV → AHeap → Prop}
    (hK : aBuild P t parts σ K) : SemOK P w0 ρ fz σ w (Instr.build t vparts) K := by
  unfold aBuild at hK
  split at hK
  · rename_i ps zs hps hzs
    split at hK
    · rename_i cs hcs
      have hzs' := hzs
      obtain ⟨z, hz, hzl, hz1, hzR⟩ := zcT_ok hzs
      have hfill := fun place hp => fill_ok (ρ := ρ) (σ := σ) (fz := fz) (w := w) ps place hp parts vparts.toList zs cs z.cells (by simpa using hl) (fun j p q hp hq => hparts j p q hp (by simpa using hq)) hzl hz1 (fun j hj => .pure _ _ (hzR fz w j hj)) hcs
      unfold placesT at hps
      split at hps
      · rename_i fields hu
        obtain ⟨cells', hf, hsz, h1, hR⟩ := hfill (fun i => ps[i]?) (fun i x hx => hx)
        refine SemOK.of_same h (v := .agg cells') ?_ (.agg _ _ hsz h1 hR) hK
        simp [Instr.build, run_underlying hu, hz, Array.mapM_eq_mapM_toList, run_places w _ _ hps, hf]
      · rename_i n e hu
        obtain ⟨i, hi, rfl⟩ := Option.map_eq_some_iff.1 hps
        obtain ⟨cells', hf, hsz, h1, hR⟩ := hfill (fun k => some (k * i.size, i.size)) (fun k x hx => by
          obtain ⟨hlt, hx⟩ := List.getElem?_eq_some_iff.1 hx
          simp at hlt hx; rw [← hx])
        refine SemOK.of_same h (v := .agg cells') ?_ (.agg _ _ hsz h1 hR) hK
        simp [Instr.build, run_underlying hu, hz, sizeOf, typeInfo, hi, hf]
      · cases hps
    · exact hK.elim
  · exact hK.elim

/-- What an element is: its type, the size of one, its bytes, the cells of its zero value. -/
structure ElT where
  sz : Nat
  bytes : Nat
  zero : List AV
def elT (P : Program) (t : TypeId) : Option (TypeId × ElT) :=
  match P.underlying t with
  | some (.slice e) => match P.info? e, zcT P e with
    | some i, some zs => if zs.length = i.size ∧ 0 < i.size then some (e, ⟨i.size, i.bytes, zs⟩) else none
    | _, _ => none
  | _ => none

theorem elT_ok {t e : TypeId} {x : ElT} (h : elT P t = some (e, x)) : P.underlying t = some (.slice e) ∧ ∃ i, P.info? e = some i ∧ i.size = x.sz ∧ i.bytes = x.bytes ∧ x.zero.length = x.sz ∧ 0 < x.sz ∧
    ∃ z, i.zero = some z ∧ (∀ w : World, (zeroValue e).run P w = .ok z w) ∧ z.cells.size = x.sz ∧ (∀ j, j < x.sz → (z.cells.getD j undef).oneCell' = true) ∧ ∀ (fz : Nat → Prop) (w : World) j (hj : j < x.zero.length), Rp fz w x.zero[j] (z.cells.getD j undef) := by
  unfold elT at h
  split at h
  · rename_i e' hu
    split at h
    · rename_i i zs hi hzs
      split at h
      · rename_i hc
        cases h
        obtain ⟨z, hz, hl, h1, hR⟩ := zcT_ok hzs
        have hz0 : i.zero = some z := by
          have := hz default
          simp only [zeroValue, typeInfo, Sem.run_bind, run_program, Result.andThen_ok, hi] at this
          cases hzz : i.zero with
          | none => simp [hzz] at this
          | some z' => simp [hzz] at this; rw [this]
        exact ⟨hu, i, hi, rfl, rfl, hc.1, hc.2, z, hz0, hz, by rw [hl, hc.1], fun j hj => h1 j (by rw [hc.1]; exact hj), hR⟩
      · cases h
    · cases h
  · cases h

/-- The zero value of an element, n times. -/
def reps (n : Nat) (cs : List AV) : List AV := (List.replicate n cs).flatten
theorem reps_length (n : Nat) (cs : List AV) : (reps n cs).length = n * cs.length := by simp [reps]
theorem reps_get (n : Nat) (cs : List AV) (hc : 0 < cs.length) (j : Nat) (hj : j < n * cs.length) : (reps n cs)[j]? = cs[j % cs.length]? := by
  induction n generalizing j with
  | zero => simp at hj
  | succ n ih =>
    have e : reps (n + 1) cs = cs ++ reps n cs := by simp [reps, List.replicate_succ]
    rw [e]
    rcases Nat.lt_or_ge j cs.length with h | h
    · rw [List.getElem?_append_left h, Nat.mod_eq_of_lt h]
    · rw [List.getElem?_append_right h, ih _ (by rw [Nat.succ_mul] at hj; omega)]
      rw [Nat.mod_eq_sub_mod h]

def aBuildSlice (P : Program) (t : TypeId) (len : Nat) (parts : List (Nat × AV)) (σ : AHeap) (K : AV → AHeap → Prop) : Prop :=
  match elT P t with
  | some (_, x) => len * x.sz ≤ 16777216 ∧ match afill ((List.range len).map fun k => (k * x.sz, x.sz)) (reps len x.zero) parts with
    | some cs => K (.so σ.length 0 0 len x.sz (some len)) (σ ++ [⟨.own, 0, cs⟩])
    | none => False
  | none => False

theorem R.newSlice (cs : List AV) (e : TypeId) (arr : Array Value) (off n c sz : Nat) (cap : Option Nat) (hn : n ≤ c) (hcap : ∀ k, cap = some k → c = k) (hroom : off + c * sz ≤ arr.size) :
    R (upd ρ σ.length (w.heap.size, 0)) (σ ++ [⟨.own, 0, cs⟩]) fz (w.alloc (.cells arr e)) (.so σ.length 0 off n sz cap) (.slice (some ⟨w.heap.size, off, none⟩) n c) := by
  refine .so _ _ _ _ _ _ ⟨.own, 0, cs⟩ _ (get_append_self _ _) (Nat.le_refl _) rfl (fun _ _ => ?_)
  rw [upd_same]
  exact ⟨_, c, rfl, hn, hcap, fun _ => by simp, arr, e, (0, 0), World.alloc_heap_new w _, by simpa using hroom⟩

theorem zeros_row {z : Value} {x : ElT} (hz : z.cells.size = x.sz) (hx : x.zero.length = x.sz) (h0 : 0 < x.sz) (h1 : ∀ j, j < x.sz → (z.cells.getD j undef).oneCell' = true)
    (hR : ∀ j (hj : j < x.zero.length), Rp fz w x.zero[j] (z.cells.getD j undef)) (n : Nat) :
    ((Array.range (n * x.sz)).map (z.cells[· % z.cells.size]!)).size = (reps n x.zero).length ∧
    (∀ j, j < (reps n x.zero).length → (((Array.range (n * x.sz)).map (z.cells[· % z.cells.size]!)).getD j undef).oneCell' = true) ∧
    ∀ j (hj : j < (reps n x.zero).length), Rp fz w (reps n x.zero)[j] (((Array.range (n * x.sz)).map (z.cells[· % z.cells.size]!)).getD j undef) := by
  have hg : ∀ j, j < n * x.sz → ((Array.range (n * x.sz)).map (z.cells[· % z.cells.size]!)).getD j undef = z.cells.getD (j % x.sz) undef := fun j hj => by
    have : j % x.sz < z.cells.size := by rw [hz]; exact Nat.mod_lt _ h0
    simp [Array.getD, hj, hz]
    rw [getElem!_pos z.cells (j % x.sz) this]
    simp [hz, Nat.mod_lt _ h0]
  have hl : (reps n x.zero).length = n * x.sz := by rw [reps_length, hx]
  refine ⟨by simp [hl], fun j hj => ?_, fun j hj => ?_⟩
  · rw [hg j (by omega)]; exact h1 _ (Nat.mod_lt _ h0)
  · rw [hg j (by omega)]
    have := reps_get n x.zero (by omega) j (by rw [hx]; omega)
    rw [List.getElem?_eq_getElem hj, List.getElem?_eq_getElem (by rw [hx]; exact Nat.mod_lt _ h0)] at this
    rw [Option.some.inj this]
    have := hR (j % x.zero.length) (by rw [hx]; exact Nat.mod_lt _ h0)
    simpa [hx] using this

theorem buildSlice_ok (h : HRel w0 ρ fz σ w) {t : TypeId} {len : Nat} {parts : List (Nat × AV)} {vparts : Array (Nat × Value)} (hl : vparts.size = parts.length)
    (hparts : ∀ (j : Nat) (p : Nat × AV) (q : Nat × Value), parts[j]? = some p → vparts[j]? = some q → q.1 = p.1 ∧ R ρ σ fz w p.2 q.2) {K : AV → AHeap → Prop}
    (hK : aBuildSlice P t len parts σ K) : SemOK P w0 ρ fz σ w (Instr.buildSlice t len vparts) K := by
  unfold aBuildSlice at hK
  split at hK
  · rename_i e x he
    obtain ⟨hsmall, hK⟩ := hK
    split at hK
    · rename_i cs hcs
      obtain ⟨hu, i, hi, hsz, hby, hzl, h0, z, hz0, hz, hzs, hz1, hzR⟩ := elT_ok he
      obtain ⟨q1, q2, q3⟩ := zeros_row (fz := fz) (w := w) hzs hzl h0 hz1 (hzR fz w) len
      obtain ⟨cells', hf, hs', h1, hR⟩ := fill_ok (ρ := ρ) (σ := σ) (fz := fz) (w := w) _ (fun k => some (k * x.sz, x.sz)) (fun k y hy => by
          obtain ⟨hlt, hx⟩ := List.getElem?_eq_some_iff.1 hy
          simp at hlt hx; rw [← hx]) parts vparts.toList _ cs _ (by simpa using hl) (fun j p q hp hq => hparts j p q hp (by simpa using hq)) q1 q2 (fun j hj => .pure _ _ (q3 j hj)) hcs
      obtain ⟨hn, hE⟩ := newRow_ok h cs cells' e (by omega) h1 hR
      have hlen : cs.length = len * x.sz := by rw [afill_length _ _ _ _ hcs, reps_length, hzl]
      refine ⟨_, _, _, _, _, _, ?_, hK, hn, R.newSlice cs e cells' 0 len len x.sz (some len) (Nat.le_refl _) (fun k hk => by cases hk; rfl) (by omega), hE⟩
      by_cases hzero : len * x.sz = 0
      · rw [hzero] at hf
        have e0 : Array.map (fun x => z.cells[x % z.cells.size]!) (Array.range 0) = #[] := Array.size_eq_zero_iff.1 (by simp)
        rw [e0] at hf
        have e1 : Array.map (fun _ => (default : Value)) (Array.range 0) = #[] := Array.size_eq_zero_iff.1 (by simp)
        simp [Instr.buildSlice, run_underlying hu, sizeOf, typeInfo, hi, hsz, hzero, newRow, e1, hf]
      · have hns : ¬ (16777216 < len * x.sz) := by omega
        simp [Instr.buildSlice, run_underlying hu, sizeOf, typeInfo, hi, hsz, hzero, hns, hz, hf, newRow]
    · exact hK.elim
  · exact hK.elim
end
end Go.Proofs.Va
