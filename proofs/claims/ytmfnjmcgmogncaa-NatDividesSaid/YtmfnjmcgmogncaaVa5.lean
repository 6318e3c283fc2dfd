/- VA, part 5: cuts, made slices, interfaces, tuples, lengths; numbers. -/
import Derived.Test.YtmfnjmcgmogncaaVa4
set_option linter.unusedVariables false
set_option linter.unusedSimpArgs false
namespace Go.Proofs.Va
open Go Go.RowKit

section
variable {P : Program} {w0 : World} {ρ : Nat → Nat × Nat} {σ : AHeap} {fz : Nat → Prop} {w : World}

theorem pl_cut {nl : Bool} {cs : List AV} {n : Nat} {cap cap' : Option Nat} {a : Option Addr} {c : Nat} (hx : R ρ σ fz w (.pl nl cs n cap) (.slice a n c)) {sz l h m : Nat} (h0 : 0 < sz)
    (hl : l ≤ h) (hh : h ≤ m) (hm : m ≤ c) (hcap : ∀ k, cap' = some k → m - l = k) (hcc : ∀ k, cap' = some k → ∃ k', cap = some k') :
    R ρ σ fz w (.pl nl ((cs.drop (l * sz)).take ((h - l) * sz)) (h - l) cap') (.slice (if m = l then a else a.map (·.add (l * sz))) (h - l) (m - l)) := by
  obtain ⟨a', c', b, o, us, he, hnl, hn, hc, hcap0, ha, hfz, hcell, h1, hR, hfr⟩ := hx.pl_inv'
  cases he
  have aux : ∀ j, j < ((cs.drop (l * sz)).take ((h - l) * sz)).length → l * sz + j < cs.length ∧ l < h := by
    intro j hj
    simp at hj
    refine ⟨by omega, ?_⟩
    rcases Nat.lt_or_ge l h with h2 | h2
    · exact h2
    · have : h - l = 0 := by omega
      rw [this] at hj; simp at hj
  refine .pure _ _ (.pl nl _ _ cap' _ (m - l) b (o + l * sz) (fun j => us (l * sz + j)) ?_ ?_ (by omega) hcap ?_ ?_ ?_ ?_ ?_ ?_)
  · rw [hnl]; split <;> simp
  · intro hnn
    have : a = none := by split at hnn <;> simpa using hnn
    have := hn this
    omega
  · intro hp
    obtain ⟨q1, q2⟩ := aux 0 hp
    rw [if_neg (by omega), ha (by omega)]
    simp [add_lit]
  · intro hp
    obtain ⟨q1, q2⟩ := aux 0 hp
    exact hfz (by omega)
  · intro j hj
    obtain ⟨q1, q2⟩ := aux j hj
    rw [Nat.add_assoc]; exact hcell _ q1
  · intro j hj
    exact h1 _ (aux j hj).1
  · intro j hj
    have := hR _ (aux j hj).1
    simpa using this
  · intro k hk hp
    obtain ⟨k', hk'⟩ := hcc k hk
    exact hfr k' hk' (by have := (aux 0 hp).1; omega)

theorem so_cut {i ver off sz : Nat} {cap' : Option Nat} {a : Addr} {c : Nat} {b : ABlk} (hb : σ[i]? = some b) (hle : ver ≤ b.ver)
    (ha : 0 < c → a = ⟨(ρ i).1, (ρ i).2 + off, none⟩) (hroom : ∃ cells e fr, w.heap[(ρ i).1]? = some (.cells cells e fr) ∧ (ρ i).2 + off + c * sz ≤ cells.size)
    {l h m : Nat} (hl : l ≤ h) (hh : h ≤ m) (hm : m ≤ c) (hcap : ∀ k, cap' = some k → m - l = k) :
    R ρ σ fz w (.so i ver (off + l * sz) (h - l) sz cap') (.slice (if m = l then some a else some (a.add (l * sz))) (h - l) (m - l)) := by
  have : (if m = l then some a else some (a.add (l * sz))) = some (if m = l then a else a.add (l * sz)) := by split <;> rfl
  rw [this]
  refine .so _ _ _ _ _ _ b _ hb hle rfl fun _ _ => ⟨_, m - l, rfl, by omega, hcap, fun hp => ?_, ?_⟩
  · rw [if_neg (by omega), ha (by omega), add_lit]; simp [Nat.add_assoc]
  · obtain ⟨cells, e, fr, h1, h2⟩ := hroom
    refine ⟨cells, e, fr, h1, ?_⟩
    have : l * sz + (m - l) * sz ≤ c * sz := by rw [← Nat.add_mul]; exact Nat.mul_le_mul_right _ (by omega)
    omega

theorem slice_ok (h : HRel w0 ρ fz σ w) {t : TypeId} {x : AV} {lo hi mx : Option AV} {v : Value} {vlo vhi vmx : Option Value} (hx : R ρ σ fz w x v)
    (hlo : RO ρ σ fz w lo vlo) (hhi : RO ρ σ fz w hi vhi) (hmx : RO ρ σ fz w mx vmx) {K : AV → AHeap → Prop} (hK : aSlice P t x lo hi mx σ K) :
    SemOK P w0 ρ fz σ w (Instr.sliceAt t v vlo vhi vmx) K := by
  have none_of : ∀ {vmx : Option Value}, RO ρ σ fz w none vmx → vmx = none := fun {vmx} hm => by
    cases vmx with
    | none => rfl
    | some _ => exact hm.elim
  have int_of : ∀ {vmx : Option Value} {k : IntKind} {m : Int}, RO ρ σ fz w (some (.v (.int k m))) vmx → vmx = some (.int k m) := fun {vmx k m} hm => by
    cases vmx with
    | none => exact hm.elim
    | some v => have hR : R ρ σ fz w (.v (.int k m)) v := hm; rw [hR.v_eq]
  have some_of : ∀ {d : Nat} {hi : Option AV} {vhi : Option Value} {j : Int}, hi.isSome = true → RO ρ σ fz w hi vhi → bnd d hi = some j → ∃ k, vhi = some (.int k j) := fun {d hi vhi j} h1 h2 h3 => by
    rcases bnd_ok h2 h3 with ⟨rfl, _⟩ | h4
    · cases hi with
      | none => cases h1
      | some _ => exact h2.elim
    · exact h4
  unfold aSlice at hK
  split at hK
  · -- a slice without a block of the call's own
    rename_i nl cs n cap
    obtain ⟨a, c, b, o, us, rfl, hnl, hn, hc, hcap, ha, hfz, hcell, h1, hR⟩ := hx.pl_inv
    split at hK
    · rename_i e q l hh he hbl hbh
      obtain ⟨hbd, hK⟩ := hK
      obtain ⟨hu, ti, hin, hsz, hby, hzl, h0, _⟩ := elT_ok he
      have := none_of hmx
      subst this
      have hb1 := sliceBounds_ok (P := P) (w := w) (isSlice := true) (m := c) hc hbd.1 hbd.2.1 (by omega) (by omega) (bnd_ok hlo hbl)
        ((bnd_ok hhi hbh).imp (fun ⟨p, q⟩ => ⟨p, q, rfl⟩) id) (.inl ⟨rfl, rfl⟩)
      refine SemOK.of_same h (v := .slice (if c = l.toNat then a else a.map (·.add (l.toNat * q.sz))) (hh.toNat - l.toNat) (c - l.toNat)) ?_ ?_ hK
      · simp [Instr.sliceAt, Instr.slice, run_underlying hu, hb1, sizeOf, typeInfo, hin, hsz]
      · have := pl_cut (cap' := cap.map (· - l.toNat)) hx (sz := q.sz) (l := l.toNat) (h := hh.toNat) (m := c) h0 (by omega) (by omega) (Nat.le_refl _) (fun k hk => by
          obtain ⟨k0, hk0, rfl⟩ := Option.map_eq_some_iff.1 hk
          rw [hcap k0 hk0]) (fun k hk => by obtain ⟨k0, hk0, _⟩ := Option.map_eq_some_iff.1 hk; exact ⟨k0, hk0⟩)
        rwa [show (hh - l).toNat = hh.toNat - l.toNat by omega]
    · rename_i e q l hh km m he hbl hbh
      obtain ⟨hsome, hbd, hK⟩ := hK
      obtain ⟨hu, ti, hin, hsz, hby, hzl, h0, _⟩ := elT_ok he
      have := int_of hmx
      subst this
      have hb1 := sliceBounds_ok (P := P) (w := w) (isSlice := true) (m := m) hc hbd.1 hbd.2.1 hbd.2.2.1 (by omega) (bnd_ok hlo hbl)
        (.inr (some_of hsome hhi hbh)) (.inr ⟨km, rfl⟩)
      refine SemOK.of_same h (v := .slice (if m.toNat = l.toNat then a else a.map (·.add (l.toNat * q.sz))) (hh.toNat - l.toNat) (m.toNat - l.toNat)) ?_ ?_ hK
      · simp [Instr.sliceAt, Instr.slice, run_underlying hu, hb1, sizeOf, typeInfo, hin, hsz]
      · have := pl_cut (cap' := cap.map fun _ => (m - l).toNat) hx (sz := q.sz) (l := l.toNat) (h := hh.toNat) (m := m.toNat) h0 (by omega) (by omega) (by omega) (fun k hk => by
          obtain ⟨k0, _, rfl⟩ := Option.map_eq_some_iff.1 hk
          omega) (fun k hk => by obtain ⟨k0, hk0, _⟩ := Option.map_eq_some_iff.1 hk; exact ⟨k0, hk0⟩)
        rwa [show (hh - l).toNat = hh.toNat - l.toNat by omega]
    · exact hK.elim
  · -- a slice of the call's own
    rename_i i ver off n sz cap
    obtain ⟨b, hb, hle, h1, hval⟩ := hx.so_inv
    split at hK
    · rename_i e q l hh b' he hbl hbh hb'
      obtain ⟨hv, hd, rfl, hbd, hcn, hK⟩ := hK
      rw [hb] at hb'; cases hb'
      obtain ⟨hu, ti, hin, hsz, hby, hzl, h0, _⟩ := elT_ok he
      obtain ⟨a, c, rfl, hnc, hcap, ha, hroom⟩ := hval hv hd
      have hcg : cap.getD n ≤ c := by
        cases hcp : cap with
        | none => simpa using hnc
        | some k => have := hcap k hcp; simp; omega
      have := none_of hmx
      subst this
      have hb1 := sliceBounds_ok (P := P) (w := w) (isSlice := true) (m := c) hnc hbd.1 hbd.2.1 (by omega) (by omega) (bnd_ok hlo hbl)
        ((bnd_ok hhi hbh).imp (fun ⟨p, q⟩ => ⟨p, q, rfl⟩) id) (.inl ⟨rfl, rfl⟩)
      refine SemOK.of_same h (v := .slice (if c = l.toNat then some a else some (a.add (l.toNat * q.sz))) (hh.toNat - l.toNat) (c - l.toNat)) ?_ ?_ hK
      · simp [Instr.sliceAt, Instr.slice, run_underlying hu, hb1, sizeOf, typeInfo, hin, hsz]
      · have := so_cut (fz := fz) (cap' := cap.map (· - l.toNat)) hb hle ha hroom (l := l.toNat) (h := hh.toNat) (m := c) (by omega) (by omega) (Nat.le_refl _) (fun k hk => by
          obtain ⟨k0, hk0, rfl⟩ := Option.map_eq_some_iff.1 hk
          rw [hcap k0 hk0])
        rwa [show (hh - l).toNat = hh.toNat - l.toNat by omega]
    · rename_i e q l hh km m b' he hbl hbh hb'
      obtain ⟨hv, hd, rfl, hsome, hbd, hcn, hK⟩ := hK
      rw [hb] at hb'; cases hb'
      obtain ⟨hu, ti, hin, hsz, hby, hzl, h0, _⟩ := elT_ok he
      obtain ⟨a, c, rfl, hnc, hcap, ha, hroom⟩ := hval hv hd
      have hcg : cap.getD n ≤ c := by
        cases hcp : cap with
        | none => simpa using hnc
        | some k => have := hcap k hcp; simp; omega
      have := int_of hmx
      subst this
      have hb1 := sliceBounds_ok (P := P) (w := w) (isSlice := true) (m := m) hnc hbd.1 hbd.2.1 hbd.2.2.1 (by omega) (bnd_ok hlo hbl)
        (.inr (some_of hsome hhi hbh)) (.inr ⟨km, rfl⟩)
      refine SemOK.of_same h (v := .slice (if m.toNat = l.toNat then some a else some (a.add (l.toNat * q.sz))) (hh.toNat - l.toNat) (m.toNat - l.toNat)) ?_ ?_ hK
      · simp [Instr.sliceAt, Instr.slice, run_underlying hu, hb1, sizeOf, typeInfo, hin, hsz]
      · have := so_cut (fz := fz) (cap' := some (m - l).toNat) hb hle ha hroom (l := l.toNat) (h := hh.toNat) (m := m.toNat) (by omega) (by omega) (by omega) (fun k hk => by cases hk; omega)
        rwa [show (hh - l).toNat = hh.toNat - l.toNat by omega]
    · exact hK.elim
  · -- a string
    rename_i s
    rw [hx.v_eq]
    split at hK
    · rename_i l hh hbl hbh
      obtain ⟨hu, hbd, hK⟩ := hK
      have := none_of hmx
      subst this
      have hb1 := sliceBounds_ok (P := P) (w := w) (isSlice := false) (m := s.size) (Nat.le_refl _) hbd.1 hbd.2.1 hbd.2.2 (Int.le_refl _) (bnd_ok hlo hbl)
        ((bnd_ok hhi hbh).imp (fun ⟨p, q⟩ => ⟨p, q, rfl⟩) id) (.inl ⟨rfl, rfl⟩)
      exact SemOK.of_same h (v := .string (s.extract l.toNat hh.toNat)) (by simp [Instr.sliceAt, Instr.slice, run_underlying hu, hb1]) (.lit _) hK
    · exact hK.elim
  · exact hK.elim

/-! ### make -/
def aMakeSlice (P : Program) (t : TypeId) (x y : AV) (σ : AHeap) (K : AV → AHeap → Prop) : Prop :=
  match x, y with
  | .v (.int _ l), .v (.int _ c) => match elT P t with
    | some (_, e) => (0 ≤ l ∧ l ≤ c ∧ c * e.bytes ≤ 140737488355328 ∧ c ≤ 140737488355328) ∧ K (.so σ.length 0 0 l.toNat e.sz (some c.toNat)) (σ ++ [⟨.own, 0, reps c.toNat e.zero⟩])
    | none => False
  | _, _ => False

/-! ### Interfaces, functions, tuples -/
def isIfaceT (P : Program) (t : TypeId) : Option Bool := (P.underlying t).map fun | .interface _ => true | _ => false

def aMakeInterface (P : Program) (t : TypeId) (x : AV) (σ : AHeap) (K : AV → AHeap → Prop) : Prop := isIfaceT P t = some false ∧ K (.ifc t x) σ
theorem makeInterface_ok (h : HRel w0 ρ fz σ w) {t : TypeId} {x : AV} {v : Value} (hx : R ρ σ fz w x v) {K : AV → AHeap → Prop} (hK : aMakeInterface P t x σ K) :
    SemOK P w0 ρ fz σ w (Instr.makeInterface t v) K := by
  obtain ⟨hi, hK⟩ := hK
  obtain ⟨d, hd, hi⟩ := Option.map_eq_some_iff.1 hi
  refine SemOK.of_same h (v := .iface t v) ?_ (.ifc t x v hx) hK
  cases d <;> simp [Instr.makeInterface, run_underlying hd] at hi ⊢

def aExtract (x : AV) (i : Nat) (σ : AHeap) (K : AV → AHeap → Prop) : Prop :=
  match x with
  | .tup cs => match cs[i]? with
    | some y => K y σ
    | none => False
  | _ => False
theorem extract_ok (h : HRel w0 ρ fz σ w) {i : Nat} {x : AV} {v : Value} (hx : R ρ σ fz w x v) {K : AV → AHeap → Prop} (hK : aExtract x i σ K) :
    SemOK P w0 ρ fz σ w (Instr.extract v i) K := by
  unfold aExtract at hK
  split at hK
  · split at hK
    · rename_i y hy
      obtain ⟨arr, rfl, hl, hR⟩ := hx.tup_inv
      obtain ⟨hlt, rfl⟩ := List.getElem?_eq_some_iff.1 hy
      have hg := get_of_getD (show i < arr.size by omega)
      have hr := hR i hlt
      generalize arr.getD i undef = q at hg hr
      exact SemOK.of_same h (v := q) (by simp [Instr.extract, hg]) hr hK
    · exact hK.elim
  · exact hK.elim

/-- A type's zero value. -/
def zvT (P : Program) (t : TypeId) : Option AV :=
  match aggT P t, zcT P t with
  | some true, some cs => some (.agg cs)
  | some false, some [x] => some x
  | _, _ => none

def aAssert (P : Program) (x : AV) (t : TypeId) (ok : Bool) (σ : AHeap) (K : AV → AHeap → Prop) : Prop :=
  isIfaceT P t = some false ∧
  match x with
  | .ifc t' y => if t' = t then K (if ok then .tup [y, .v (.bool true)] else y) σ else ok = true ∧ match zcT P t, aggT P t with
    | some [z], some false => K (.tup [z, .v (.bool false)]) σ
    | _, _ => False
  | .v .nilIface => ok = true ∧ match zcT P t, aggT P t with
    | some [z], some false => K (.tup [z, .v (.bool false)]) σ
    | _, _ => False
  | _ => False

theorem zc1_ok {t : TypeId} {z : AV} (h : zcT P t = some [z]) : ∃ v : Value, (zeroValue t).run P w = .ok v w ∧ (v.cells.size = 1 ∧ Rp fz w z (v.cells.getD 0 undef)) := by
  obtain ⟨v, hv, hl, h1, hR⟩ := zcT_ok h
  exact ⟨v, hv w, hl, hR fz w 0 (by simp)⟩

/-! ### Lengths -/
def aLen (P : Program) (t : TypeId) (x : AV) (σ : AHeap) (K : AV → AHeap → Prop) : Prop :=
  match P.underlying t, x with
  | some (.slice _), .pl _ _ n _ => K (.v (.int .i64 n)) σ
  | some (.slice _), .so i ver _ n _ _ => match σ[i]? with
    | some b => b.ver = ver ∧ b.kind ≠ .dead ∧ K (.v (.int .i64 n)) σ
    | none => False
  | some .string, .v (.string s) => K (.v (.int .i64 s.size)) σ
  | some (.array n _), _ => K (.v (.int .i64 n)) σ
  | _, _ => False

theorem len_ok (h : HRel w0 ρ fz σ w) {t ty : TypeId} {x : AV} {v : Value} (hx : R ρ σ fz w x v) {K : AV → AHeap → Prop} (hK : aLen P t x σ K) :
    SemOK P w0 ρ fz σ w (Builtin.len_ #[t] ty #[v]) K := by
  unfold aLen at hK
  split at hK
  · rename_i hu
    obtain ⟨a, c, b, o, us, rfl, _⟩ := hx.pl_inv
    exact SemOK.of_same h (v := .int .i64 _) (by simp [Builtin.len_, run_underlying hu]; rfl) (.lit _) hK
  · rename_i hu
    split at hK
    · rename_i b hb
      obtain ⟨hv, hd, hK⟩ := hK
      obtain ⟨b', hb', hle, h1, hval⟩ := hx.so_inv
      rw [hb] at hb'; cases hb'
      obtain ⟨a, c, rfl, _⟩ := hval hv hd
      exact SemOK.of_same h (v := .int .i64 _) (by simp [Builtin.len_, run_underlying hu]; rfl) (.lit _) hK
    · exact hK.elim
  · rename_i hu
    rw [hx.v_eq]
    exact SemOK.of_same h (v := .int .i64 _) (by simp [Builtin.len_, run_underlying hu]; rfl) (.lit _) hK
  · rename_i hu
    exact SemOK.of_same h (v := .int .i64 _) (by simp [Builtin.len_, run_underlying hu]; rfl) (.lit _) hK
  · exact hK.elim

def aCap (P : Program) (t : TypeId) (x : AV) (σ : AHeap) (K : AV → AHeap → Prop) : Prop :=
  match P.underlying t, x with
  | some (.slice _), .pl _ _ _ (some n) => K (.v (.int .i64 n)) σ
  | some (.slice _), .so i ver _ _ _ (some n) => match σ[i]? with
    | some b => b.ver = ver ∧ b.kind ≠ .dead ∧ K (.v (.int .i64 n)) σ
    | none => False
  | _, _ => False

theorem cap_ok (h : HRel w0 ρ fz σ w) {t ty : TypeId} {x : AV} {v : Value} (hx : R ρ σ fz w x v) {K : AV → AHeap → Prop} (hK : aCap P t x σ K) :
    SemOK P w0 ρ fz σ w (Builtin.cap_ #[t] ty #[v]) K := by
  unfold aCap at hK
  split at hK
  · rename_i hu
    obtain ⟨a, c, b, o, us, rfl, _, _, _, hcap, _⟩ := hx.pl_inv
    exact SemOK.of_same h (v := .int .i64 _) (by simp [Builtin.cap_, run_underlying hu, hcap _ rfl]; rfl) (.lit _) hK
  · rename_i hu
    split at hK
    · rename_i b hb
      obtain ⟨hv, hd, hK⟩ := hK
      obtain ⟨b', hb', hle, h1, hval⟩ := hx.so_inv
      rw [hb] at hb'; cases hb'
      obtain ⟨a, c, rfl, _, hcap, _⟩ := hval hv hd
      exact SemOK.of_same h (v := .int .i64 _) (by simp [Builtin.cap_, run_underlying hu, hcap _ rfl]; rfl) (.lit _) hK
    · exact hK.elim
  · exact hK.elim
end
end Go.Proofs.Va
