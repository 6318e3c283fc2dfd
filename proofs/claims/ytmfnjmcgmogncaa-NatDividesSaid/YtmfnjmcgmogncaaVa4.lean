/- VA, part 4: addresses, elements, cuts, made slices, tuples, interfaces. -/
import Derived.Test.YtmfnjmcgmogncaaVa3
set_option linter.unusedVariables false
set_option linter.unusedSimpArgs false
namespace Go.Proofs.Va
open Go Go.RowKit

theorem add_lit (b o k : Nat) : (⟨b, o, none⟩ : Addr).add k = ⟨b, o + k, none⟩ := by unfold Addr.add; split <;> simp_all

section
variable {P : Program} {w0 : World} {ρ : Nat → Nat × Nat} {σ : AHeap} {fz : Nat → Prop} {w : World}

/-! ### A field's address; a field -/
/-- A field: its type, its offset; none for a field without cells. -/
def fldT (P : Program) (s : TypeId) (f : Nat) : Option (TypeId × Nat) :=
  match P.underlying s with
  | some (.struct fields) => match fields[f]? with
    | some fl => match szT P fl.type with
      | some n => if n = 0 then none else some (fl.type, fl.offset)
      | none => none
    | none => none
  | _ => none

theorem fldT_ok {s : TypeId} {f : Nat} {t : TypeId} {o : Nat} (h : fldT P s f = some (t, o)) : ∃ (fields : Array Field) (fl : Field) (n : Nat), P.underlying s = some (.struct fields) ∧ fields[f]? = some fl ∧ szT P fl.type = some n ∧ n ≠ 0 ∧ fl.type = t ∧ fl.offset = o := by
  unfold fldT at h
  split at h
  · rename_i fields hu
    split at h
    · rename_i fl hf
      split at h
      · rename_i n hn
        split at h
        · cases h
        · rename_i h0; cases h; exact ⟨fields, fl, n, hu, hf, hn, h0, rfl, rfl⟩
      · cases h
    · cases h
  · cases h

def aFieldAddr (P : Program) (s : TypeId) (x : AV) (f : Nat) (σ : AHeap) (K : AV → AHeap → Prop) : Prop :=
  match fldT P s f with
  | some (_, o) => match x with
    | .po i ver off => match σ[i]? with
      | some b => b.ver = ver ∧ b.kind ≠ .dead ∧ K (.po i ver (off + o)) σ
      | none => False
    | .pp cs off => K (.pp cs (off + o)) σ
    | _ => False
  | none => False

theorem fieldAddr_ok (h : HRel w0 ρ fz σ w) {s : TypeId} {f : Nat} {x : AV} {v : Value} (hx : R ρ σ fz w x v) {K : AV → AHeap → Prop} (hK : aFieldAddr P s x f σ K) :
    SemOK P w0 ρ fz σ w (Instr.fieldAt s v f) K := by
  unfold aFieldAddr at hK
  split at hK
  · rename_i t o hf
    obtain ⟨fields, fl, n, hu, hfl, hn, h0, rfl, rfl⟩ := fldT_ok hf
    have run : ∀ b k, (Instr.fieldAt s (.pointer (some ⟨b, k, none⟩)) f).run P w = .ok (.pointer (some ⟨b, k + fl.offset, none⟩)) w := fun b k => by
      simp [Instr.fieldAt, run_underlying hu, hfl, Instr.sureAddr, fieldPlace, run_szT hn, h0, add_lit]
    split at hK
    · rename_i i ver off
      split at hK
      · rename_i b hb
        obtain ⟨hv, hd, hK⟩ := hK
        obtain ⟨blk, hb', hle, h1, hval⟩ := hx.po_inv
        rw [hb] at hb'; cases hb'
        rw [hval hv hd]
        refine SemOK.of_same h (run _ _) (.po i ver (off + fl.offset) b _ hb hle rfl fun _ _ => ?_) hK
        simp [Nat.add_assoc]
      · exact hK.elim
    · obtain ⟨b, o, us, rfl, hfz, hcell, h1, hR⟩ := hx.pp_inv
      refine SemOK.of_same h (run _ _) ?_ hK
      rw [Nat.add_assoc]
      exact .pure _ _ (.pp _ _ b o us hfz hcell h1 hR)
    · exact hK.elim
  · exact hK.elim

/-- A part of a struct or an array, as a value. -/
theorem part_ok {t : TypeId} {cs : List AV} {arr : Array Value} {off : Nat} {K : AV → Prop} (hl : arr.size = cs.length) (h1 : ∀ j, j < cs.length → (arr.getD j undef).oneCell' = true)
    (hR : ∀ j (hj : j < cs.length), R ρ σ fz w cs[j] (arr.getD j undef)) (hK : aRead P t cs off K) : ∃ v r, (part t arr off).run P w = .ok v w ∧ K r ∧ R ρ σ fz w r v := by
  unfold aRead at hK
  split at hK
  · rename_i ha
    split at hK
    · rename_i n hn
      obtain ⟨hle, hK⟩ := hK
      refine ⟨.agg (arr.extract off (off + n)), _, by simp [part, run_aggT ha, run_szT hn], hK, .agg _ _ (by simp; omega) (fun j hj => ?_) (fun j hj => ?_)⟩
      · simp at hj
        have : (arr.extract off (off + n)).getD j undef = arr.getD (off + j) undef := by
          have h2 : j < min (off + n) arr.size - off := by omega
          have h3 : off + j < arr.size := by omega
          simp [Array.getD, h2, h3]
        rw [this]; exact h1 _ (by omega)
      · simp at hj
        have : (arr.extract off (off + n)).getD j undef = arr.getD (off + j) undef := by
          have h2 : j < min (off + n) arr.size - off := by omega
          have h3 : off + j < arr.size := by omega
          simp [Array.getD, h2, h3]
        rw [this]
        simpa using hR (off + j) (by omega)
    · exact hK.elim
  · rename_i ha
    split at hK
    · rename_i x hx
      obtain ⟨hlt, rfl⟩ := List.getElem?_eq_some_iff.1 hx
      have hg := get_of_getD (show off < arr.size by omega)
      have hr := hR off hlt
      generalize arr.getD off undef = q at hg hr
      exact ⟨q, _, by simp [part, run_aggT ha, hg], hK, hr⟩
    · exact hK.elim
  · exact hK.elim

def aField (P : Program) (s : TypeId) (x : AV) (f : Nat) (σ : AHeap) (K : AV → AHeap → Prop) : Prop :=
  match fldT P s f with
  | some (t, o) => match x with
    | .agg cs => aRead P t cs o (fun r => K r σ)
    | _ => False
  | none => False

theorem field_ok (h : HRel w0 ρ fz σ w) {s : TypeId} {f : Nat} {x : AV} {v : Value} (hx : R ρ σ fz w x v) {K : AV → AHeap → Prop} (hK : aField P s x f σ K) :
    SemOK P w0 ρ fz σ w (Instr.field s v f) K := by
  unfold aField at hK
  split at hK
  · rename_i t o hf
    obtain ⟨fields, fl, n, hu, hfl, hn, h0, rfl, rfl⟩ := fldT_ok hf
    split at hK
    · obtain ⟨arr, rfl, hl, h1, hR⟩ := hx.agg_inv
      obtain ⟨v, r, hrun, hK, hr⟩ := part_ok (P := P) hl h1 hR hK
      exact SemOK.of_same h (by simp [Instr.field, run_underlying hu, hfl, asAgg, hrun]) hr hK
    · exact hK.elim
  · exact hK.elim

/-! ### An element's address; an element -/
/-- An array: how many elements, of which type, how many cells each has. -/
def arrT (P : Program) (t : TypeId) : Option (Nat × TypeId × Nat) :=
  match P.underlying t with
  | some (.array n e) => match szT P e with
    | some s => some (n, e, s)
    | none => none
  | _ => none
theorem arrT_ok {t : TypeId} {n : Nat} {e : TypeId} {s : Nat} (h : arrT P t = some (n, e, s)) : P.underlying t = some (.array n e) ∧ szT P e = some s := by
  unfold arrT at h
  split at h
  · split at h
    · cases h; exact ⟨‹_›, ‹_›⟩
    · cases h
  · cases h

def aIndexAddr (P : Program) (t : TypeId) (x ix : AV) (σ : AHeap) (K : AV → AHeap → Prop) : Prop :=
  match ix with
  | .v (.int _ j) => match x with
    | .pl _ cs n _ => match elT P t with
      | some (_, e) => (0 ≤ j ∧ j < n) ∧ j.toNat * e.sz < cs.length ∧ K (.pp cs (j.toNat * e.sz)) σ
      | none => False
    | .so i ver off n _ _ => match elT P t, σ[i]? with
      | some (_, e), some b => b.ver = ver ∧ b.kind ≠ .dead ∧ (0 ≤ j ∧ j < n) ∧ K (.po i ver (off + j.toNat * e.sz)) σ
      | _, _ => False
    | .po i ver off => match arrT P t, σ[i]? with
      | some (n, _, s), some b => b.ver = ver ∧ b.kind ≠ .dead ∧ (0 ≤ j ∧ j < n) ∧ K (.po i ver (off + j.toNat * s)) σ
      | _, _ => False
    | .pp cs off => match arrT P t with
      | some (n, _, s) => (0 ≤ j ∧ j < n) ∧ K (.pp cs (off + j.toNat * s)) σ
      | none => False
    | _ => False
  | _ => False

theorem indexAddr_ok (h : HRel w0 ρ fz σ w) {t : TypeId} {x ix : AV} {v u : Value} (hx : R ρ σ fz w x v) (hi : R ρ σ fz w ix u) {K : AV → AHeap → Prop} (hK : aIndexAddr P t x ix σ K) :
    SemOK P w0 ρ fz σ w (Instr.indexAt t v u) K := by
  unfold aIndexAddr at hK
  split at hK
  · rename_i k j
    rw [hi.v_eq]
    split at hK
    · split at hK
      · rename_i nl cs n cap e x he
        obtain ⟨hj, hlen, hK⟩ := hK
        obtain ⟨hu, i, hin, hsz, hby, hzl, h0, _⟩ := elT_ok he
        obtain ⟨a, c, b, o, us, rfl, hnl, hn, hc, hcap, ha, hfz, hcell, h1, hR⟩ := hx.pl_inv
        have ha := ha (by omega)
        subst ha
        have hs : (sizeOf e).run P w = .ok x.sz w := by simp [sizeOf, typeInfo, hin, hsz]
        refine SemOK.of_same h (v := .pointer (some ⟨b, o + j.toNat * x.sz, none⟩)) ?_ (.pure _ _ (.pp _ _ b o us hfz hcell h1 hR)) hK
        simp [Instr.indexAt, run_underlying hu, asIntOf, hj, hs, add_lit]
      · exact hK.elim
    · split at hK
      · rename_i i ver off n _ _ _ _ e x b he hb
        obtain ⟨hv, hd, hj, hK⟩ := hK
        obtain ⟨hu, ti, hin, hsz, hby, hzl, h0, _⟩ := elT_ok he
        obtain ⟨blk, hb', hle, h1, hval⟩ := hx.so_inv
        rw [hb] at hb'; cases hb'
        obtain ⟨a, c, rfl, hnc, hcap, ha, hroom⟩ := hval hv hd
        have ha := ha (by omega)
        subst ha
        have hs : (sizeOf e).run P w = .ok x.sz w := by simp [sizeOf, typeInfo, hin, hsz]
        refine SemOK.of_same h (v := .pointer (some ⟨(ρ i).1, (ρ i).2 + off + j.toNat * x.sz, none⟩)) ?_ (.po i ver _ b _ hb hle rfl fun _ _ => by simp [Nat.add_assoc]) hK
        simp [Instr.indexAt, run_underlying hu, asIntOf, hj, hs, add_lit]
      · exact hK.elim
    · split at hK
      · rename_i i ver off _ _ n e s b he hb
        obtain ⟨hv, hd, hj, hK⟩ := hK
        obtain ⟨hu, hs⟩ := arrT_ok he
        obtain ⟨blk, hb', hle, h1, hval⟩ := hx.po_inv
        rw [hb] at hb'; cases hb'
        rw [hval hv hd]
        refine SemOK.of_same h (v := .pointer (some ⟨(ρ i).1, (ρ i).2 + off + j.toNat * s, none⟩)) ?_ (.po i ver _ b _ hb hle rfl fun _ _ => by simp [Nat.add_assoc]) hK
        simp [Instr.indexAt, run_underlying hu, asIntOf, Instr.sureAddr, hj, run_szT hs, add_lit]
      · exact hK.elim
    · split at hK
      · rename_i n e s he
        obtain ⟨hj, hK⟩ := hK
        obtain ⟨hu, hs⟩ := arrT_ok he
        obtain ⟨b, o, us, rfl, hfz, hcell, h1, hR⟩ := hx.pp_inv
        refine SemOK.of_same h (v := .pointer (some ⟨b, o + (_ + j.toNat * s), none⟩)) ?_ (.pure _ _ (.pp _ _ b o us hfz hcell h1 hR)) hK
        simp [Instr.indexAt, run_underlying hu, asIntOf, Instr.sureAddr, hj, run_szT hs, add_lit, Nat.add_assoc]
      · exact hK.elim
    · exact hK.elim
  · exact hK.elim

def aIndex (P : Program) (t : TypeId) (x ix : AV) (σ : AHeap) (K : AV → AHeap → Prop) : Prop :=
  match ix with
  | .v (.int _ j) => match x with
    | .agg cs => match arrT P t with
      | some (n, e, s) => (0 ≤ j ∧ j < n) ∧ aRead P e cs (j.toNat * s) (fun r => K r σ)
      | none => False
    | .v (.string s) => P.underlying t = some .string ∧ 0 ≤ j ∧ match s[j.toNat]? with
      | some b => K (.v (.int .u8 b.toNat)) σ
      | none => False
    | _ => False
  | _ => False

theorem index_ok (h : HRel w0 ρ fz σ w) {t : TypeId} {x ix : AV} {v u : Value} (hx : R ρ σ fz w x v) (hi : R ρ σ fz w ix u) {K : AV → AHeap → Prop} (hK : aIndex P t x ix σ K) :
    SemOK P w0 ρ fz σ w (Instr.index t v u) K := by
  unfold aIndex at hK
  split at hK
  · rename_i k j
    rw [hi.v_eq]
    split at hK
    · split at hK
      · rename_i cs _ n e s he
        obtain ⟨hj, hK⟩ := hK
        obtain ⟨hu, hs⟩ := arrT_ok he
        obtain ⟨arr, rfl, hl, h1, hR⟩ := hx.agg_inv
        obtain ⟨v, r, hrun, hK, hr⟩ := part_ok (P := P) hl h1 hR hK
        exact SemOK.of_same h (by simp [Instr.index, run_underlying hu, asIntOf, hj, run_szT hs, hrun]) hr hK
      · exact hK.elim
    · rename_i s
      obtain ⟨hu, h0, hK⟩ := hK
      rw [hx.v_eq]
      split at hK
      · rename_i b hb
        exact SemOK.of_same h (by simp [Instr.index, run_underlying hu, asIntOf, h0, hb]) (.lit _) hK
      · exact hK.elim
    · exact hK.elim
  · exact hK.elim

/-! ### Cuts -/
/-- A bound of a cut: a number, or none. -/
def bnd (d : Nat) : Option AV → Option Int
  | none => some d
  | some (.v (.int _ j)) => some j
  | _ => none

def aSlice (P : Program) (t : TypeId) (x : AV) (lo hi mx : Option AV) (σ : AHeap) (K : AV → AHeap → Prop) : Prop :=
  match x with
  | .pl nl cs n cap => match elT P t, bnd 0 lo, bnd n hi, mx with
    | some (_, e), some l, some h, none => (0 ≤ l ∧ l ≤ h ∧ h ≤ n) ∧ K (.pl nl ((cs.drop (l.toNat * e.sz)).take ((h - l).toNat * e.sz)) (h - l).toNat (cap.map (· - l.toNat))) σ
    | some (_, e), some l, some h, some (.v (.int _ m)) => hi.isSome ∧ (0 ≤ l ∧ l ≤ h ∧ h ≤ m ∧ m ≤ n) ∧ K (.pl nl ((cs.drop (l.toNat * e.sz)).take ((h - l).toNat * e.sz)) (h - l).toNat (cap.map fun _ => (m - l).toNat)) σ
    | _, _, _, _ => False
  | .so i ver off n sz cap => match elT P t, bnd 0 lo, bnd n hi, mx, σ[i]? with
    | some (_, e), some l, some h, none, some b => b.ver = ver ∧ b.kind ≠ .dead ∧ e.sz = sz ∧ (0 ≤ l ∧ l ≤ h ∧ h ≤ (cap.getD n : Nat)) ∧ n ≤ cap.getD n ∧ K (.so i ver (off + l.toNat * sz) (h - l).toNat sz (cap.map (· - l.toNat))) σ
    | some (_, e), some l, some h, some (.v (.int _ m)), some b => b.ver = ver ∧ b.kind ≠ .dead ∧ e.sz = sz ∧ hi.isSome ∧ (0 ≤ l ∧ l ≤ h ∧ h ≤ m ∧ m ≤ (cap.getD n : Nat)) ∧ n ≤ cap.getD n ∧ K (.so i ver (off + l.toNat * sz) (h - l).toNat sz (some (m - l).toNat)) σ
    | _, _, _, _, _ => False
  | .v (.string s) => match bnd 0 lo, bnd s.size hi, mx with
    | some l, some h, none => P.underlying t = some .string ∧ (0 ≤ l ∧ l ≤ h ∧ h ≤ s.size) ∧ K (.v (.string (s.extract l.toNat h.toNat))) σ
    | _, _, _ => False
  | _ => False

/-- A bound, as a value. -/
def RO (ρ : Nat → Nat × Nat) (σ : AHeap) (fz : Nat → Prop) (w : World) : Option AV → Option Value → Prop
  | none, none => True
  | some x, some v => R ρ σ fz w x v
  | _, _ => False

theorem bnd_ok {d : Nat} {x : Option AV} {v : Option Value} {j : Int} (h : RO ρ σ fz w x v) (hb : bnd d x = some j) : (v = none ∧ j = d) ∨ ∃ k, v = some (.int k j) := by
  cases x with
  | none => cases v with
    | none => cases hb; exact .inl ⟨rfl, rfl⟩
    | some v => exact h.elim
  | some x =>
    cases v with
    | none => exact h.elim
    | some v =>
      have hR : R ρ σ fz w x v := h
      cases x with
      | v y =>
        rw [hR.v_eq]
        cases y <;> simp [bnd] at hb
        subst hb
        exact .inr ⟨_, rfl⟩
      | _ => simp [bnd] at hb

theorem sliceBounds_ok {isSlice : Bool} {n c : Nat} {lo hi mx : Option Value} {l h m : Int} (hn : n ≤ c) (hl0 : 0 ≤ l) (hlh : l ≤ h) (hhm : h ≤ m) (hmc : m ≤ c)
    (hlo : (lo = none ∧ l = 0) ∨ ∃ k, lo = some (.int k l)) (hhi : (hi = none ∧ h = n ∧ mx = none) ∨ ∃ k, hi = some (.int k h)) (hmx : (mx = none ∧ m = c) ∨ ∃ k, mx = some (.int k m)) :
    (Instr.sliceBounds isSlice n c lo hi mx).run P w = .ok (l.toNat, h.toNat, m.toNat) w := by
  have hm0 : 0 ≤ m := by omega
  have hh0 : 0 ≤ h := by omega
  rcases hmx with ⟨rfl, rfl⟩ | ⟨km, rfl⟩ <;> rcases hhi with ⟨rfl, rfl, hmx⟩ | ⟨kh, rfl⟩ <;> rcases hlo with ⟨rfl, rfl⟩ | ⟨kl, rfl⟩ <;>
    first
    | (simp at hmx; done)
    | (simp [Instr.sliceBounds, Instr.sliceBound, asIntOf]; repeat' (first | rfl | omega | rw [if_pos (by omega)] | (simp; done)))
end
end Go.Proofs.Va
