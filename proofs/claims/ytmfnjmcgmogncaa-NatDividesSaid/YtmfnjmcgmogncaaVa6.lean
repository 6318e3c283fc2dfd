/- VA, part 6: made slices; numbers, bools, texts; what is held against nil. -/
import Derived.Test.YtmfnjmcgmogncaaVa5
import Derived.Laws.MakeOwn
import Derived.IntWalk
set_option linter.unusedVariables false
set_option linter.unusedSimpArgs false
namespace Go.Proofs.Va
open Go Go.RowKit

section
variable {P : Program} {w0 : World} {ρ : Nat → Nat × Nat} {σ : AHeap} {fz : Nat → Prop} {w : World}

theorem makeSlice_ok (h : HRel w0 ρ fz σ w) {t : TypeId} {x y : AV} {u v : Value} (hx : R ρ σ fz w x u) (hy : R ρ σ fz w y v) {K : AV → AHeap → Prop} (hK : aMakeSlice P t x y σ K) :
    SemOK P w0 ρ fz σ w (Instr.makeSlice t u v) K := by
  unfold aMakeSlice at hK
  split at hK
  · rename_i k1 l k2 c
    rw [hx.v_eq, hy.v_eq]
    split at hK
    · rename_i e q he
      obtain ⟨hb, hK⟩ := hK
      obtain ⟨hu, i, hi, hsz, hby, hzl, h0, z, hz0, hz, hzs, hz1, hzR⟩ := elT_ok he
      obtain ⟨q1, q2, q3⟩ := zeros_row (fz := fz) (w := w) hzs hzl h0 hz1 (hzR fz w) c.toNat
      have hm : (i.bytes : Int) * c = c * q.bytes := by rw [hby]; exact Int.mul_comm _ _
      have hrun := run_make (P := P) w t e i z hu hi hz0 k1 k2 l c hb.1 hb.2.1 (by rw [hm]; omega) (by omega)
      rw [hsz] at hrun
      obtain ⟨hn, hE⟩ := newRow_ok h (reps c.toNat q.zero) (madeCells z.cells (c.toNat * q.sz)) e (by rw [size_madeCells, reps_length, hzl]; exact Nat.le_refl _) q2 (fun j hj => .pure _ _ (q3 j hj))
      exact ⟨_, _, _, _, _, _, hrun, hK, hn, R.newSlice _ e _ 0 l.toNat c.toNat q.sz (some c.toNat) (by omega) (fun k hk => by cases hk; rfl) (by rw [size_madeCells]; omega), hE⟩
    · exact hK.elim
  · exact hK.elim

/-! ### Numbers -/
def intBin (op : BinOp) (k : IntKind) (a b : Int) : Option Value :=
  match op with
  | .add => some (.int k (k.wrap (a + b)))
  | .sub => some (.int k (k.wrap (a - b)))
  | .mul => some (.int k (k.wrap (a * b)))
  | .quo => if b = 0 then none else some (.int k (k.wrap (a.tdiv b)))
  | .rem => if b = 0 then none else some (.int k (a.tmod b))
  | .and => some (.int k (k.wrap (BitVec.ofInt k.bits a &&& BitVec.ofInt k.bits b).toNat))
  | .or => some (.int k (k.wrap (BitVec.ofInt k.bits a ||| BitVec.ofInt k.bits b).toNat))
  | .xor => some (.int k (k.wrap (BitVec.ofInt k.bits a ^^^ BitVec.ofInt k.bits b).toNat))
  | .andNot => some (.int k (k.wrap (BitVec.ofInt k.bits a &&& ~~~ BitVec.ofInt k.bits b).toNat))
  | .eql => some (.bool (a == b))
  | .neq => some (.bool (a != b))
  | .lss => some (.bool (decide (a < b)))
  | .leq => some (.bool (decide (a ≤ b)))
  | .gtr => some (.bool (decide (a > b)))
  | .geq => some (.bool (decide (a ≥ b)))
  | _ => none

def intShift (op : BinOp) (k : IntKind) (a b : Int) : Option Value :=
  if b < 0 then none else
  match op with
  | .shl => some (.int k (k.wrap (a * 2 ^ (min b.toNat k.bits))))
  | .shr => some (.int k (a.fdiv (2 ^ (min b.toNat k.bits))))
  | _ => none

def isShift : BinOp → Bool
  | .shl | .shr => true
  | _ => false

theorem binOp_int {op : BinOp} {t : TypeId} {k : IntKind} {a b : Int} {r : Value} (hs : isShift op = false) (h : intBin op k a b = some r) : (binOp op t (.int k a) (.int k b)).run P w = .ok r w := by
  cases op <;> simp [intBin, isShift] at h hs <;>
    first
    | (subst h; simp [binOp, Op.intArith, Op.intBits, Op.intCmp]; done)
    | (obtain ⟨h0, rfl⟩ := h; simp [binOp, Op.intDiv, h0])

theorem binOp_shift {op : BinOp} {t : TypeId} {k k' : IntKind} {a b : Int} {r : Value} (h : intShift op k a b = some r) : (binOp op t (.int k a) (.int k' b)).run P w = .ok r w := by
  unfold intShift at h
  split at h
  · cases h
  · rename_i hb
    split at h <;> first | (cases h; simp [binOp, Op.shift, hb]; done) | cases h

theorem eqGuard_plain (op : BinOp) (t : TypeId) (x y : Operand) {a b : Value} (h : (∀ i j, a = .agg i → b ≠ .agg j) ∧ (a = .nilIface → b ≠ .nilIface)) : (eqGuard op t x y a b).run P w = .ok () w := by
  unfold eqGuard
  cases op <;> simp <;> (cases a <;> cases b <;> simp_all)

def isBoolT (P : Program) (t : TypeId) : Bool := match P.underlying t with | some .bool => true | _ => false
def isSliceT (P : Program) (t : TypeId) : Bool := match P.underlying t with | some (.slice _) => true | _ => false
def isPtrT (P : Program) (t : TypeId) : Bool := match P.underlying t with | some (.pointer _) => true | _ => false
def isFuncT (P : Program) (t : TypeId) : Bool := match P.underlying t with | some (.func _ _ _) => true | _ => false

def strBin (op : BinOp) (a b : ByteArray) : Option Value :=
  match op with
  | .eql => some (.bool (a.toList == b.toList))
  | .neq => some (.bool (!(a.toList == b.toList)))
  | .lss => some (.bool (Op.bytesLess a.toList b.toList))
  | .leq => some (.bool (Op.bytesLess a.toList b.toList || a.toList == b.toList))
  | .gtr => some (.bool (!(Op.bytesLess a.toList b.toList || a.toList == b.toList)))
  | .geq => some (.bool (!Op.bytesLess a.toList b.toList))
  | .add => if ((a.size + b.size : Nat) : Int) > 9223372036854775807 then none else some (.string (a ++ b))
  | _ => none

theorem binOp_str {op : BinOp} {t : TypeId} {a b : ByteArray} {r : Value} (h : strBin op a b = some r) : (binOp op t (.string a) (.string b)).run P w = .ok r w := by
  cases op <;> simp only [strBin] at h <;> first | cases h | skip
  all_goals first
    | (simp [binOp, Op.stringOp]; done)
    | (split at h
       · cases h
       · rename_i hn
         cases h
         have hn' : ¬ (((a.size : Int) + (b.size : Int)) > IntKind.i64.max) := by
           have : IntKind.i64.max = 9223372036854775807 := by rfl
           rw [this]; push_cast at hn; exact hn
         simp only [binOp, Op.stringOp]
         rw [if_neg (by simpa using hn')]
         rfl)

theorem equal_bool {t : TypeId} (ht : P.underlying t = some .bool) (a b : Bool) : (Op.equal t (.bool a) (.bool b)).run P w = .ok (a == b) w := by
  have h : ∀ d, (Op.equalIn (d + 1) t (.bool a) (.bool b)).run P w = .ok (a == b) w := fun d => by simp [Op.equalIn, run_underlying ht]
  exact h 9999
theorem equal_slice_nil {t e : TypeId} (ht : P.underlying t = some (.slice e)) (a : Option Addr) (n c c' : Nat) : (Op.equal t (.slice a n c) (.slice none 0 c')).run P w = .ok a.isNone w := by
  have h : ∀ d, (Op.equalIn (d + 1) t (.slice a n c) (.slice none 0 c')).run P w = .ok a.isNone w := fun d => by cases a <;> simp [Op.equalIn, run_underlying ht]
  exact h 9999

/-- Two values held against one another, or counted. -/
def aBin (P : Program) (op : BinOp) (t : TypeId) (x y : AV) (σ : AHeap) (K : AV → AHeap → Prop) : Prop :=
  match x, y with
  | .v (.int k a), .v (.int k' b) => if isShift op then (match intShift op k a b with | some r => K (.v r) σ | none => False)
      else k = k' ∧ (match intBin op k a b with | some r => K (.v r) σ | none => False)
  | .v (.string a), .v (.string b) => match strBin op a b with
    | some r => K (.v r) σ
    | none => False
  | .v (.bool a), .v (.bool b) => isBoolT P t = true ∧ match op with
    | .eql => K (.v (.bool (a == b))) σ
    | .neq => K (.v (.bool (!(a == b)))) σ
    | _ => False
  | .pl nl _ _ _, .pl true [] 0 (some 0) => isSliceT P t = true ∧ match op with
    | .eql => K (.v (.bool nl)) σ
    | .neq => K (.v (.bool (!nl))) σ
    | _ => False
  | _, _ => False

theorem bin_go (h : HRel w0 ρ fz σ w) {op : BinOp} {t : TypeId} {ox oy : Operand} {u v : Value} {K : AV → AHeap → Prop} {r : AV} {q : Value}
    (hg : (∀ i j, u = .agg i → v ≠ .agg j) ∧ (u = .nilIface → v ≠ .nilIface)) (hr : (binOp op t u v).run P w = .ok q w) (hR : R ρ σ fz w r q) (hK : K r σ) :
    SemOK P w0 ρ fz σ w (do eqGuard op t ox oy u v; binOp op t u v) K :=
  SemOK.of_same h (by simp [eqGuard_plain (P := P) (w := w) op t ox oy hg, hr]) hR hK

theorem bin_ok (h : HRel w0 ρ fz σ w) {op : BinOp} {t : TypeId} {ox oy : Operand} {x y : AV} {u v : Value} (hx : R ρ σ fz w x u) (hy : R ρ σ fz w y v) {K : AV → AHeap → Prop} (hK : aBin P op t x y σ K) :
    SemOK P w0 ρ fz σ w (do eqGuard op t ox oy u v; binOp op t u v) K := by
  unfold aBin at hK
  split at hK
  · obtain rfl := hx.v_eq; obtain rfl := hy.v_eq
    split at hK
    · split at hK
      · rename_i r hr
        exact bin_go h (by simp) (binOp_shift hr) (.lit _) hK
      · exact hK.elim
    · rename_i hs
      obtain ⟨rfl, hK⟩ := hK
      split at hK
      · rename_i r hr
        exact bin_go h (by simp) (binOp_int (by simpa using hs) hr) (.lit _) hK
      · exact hK.elim
  · obtain rfl := hx.v_eq; obtain rfl := hy.v_eq
    split at hK
    · rename_i r hr
      exact bin_go h (by simp) (binOp_str hr) (.lit _) hK
    · exact hK.elim
  · obtain rfl := hx.v_eq; obtain rfl := hy.v_eq
    obtain ⟨hb, hK⟩ := hK
    have hb' : P.underlying t = some .bool := by unfold isBoolT at hb; split at hb <;> first | assumption | cases hb
    split at hK
    · exact bin_go h (by simp) (by simp only [binOp, Sem.run_bind, equal_bool hb', Result.andThen_ok, Sem.run_pure]) (.lit _) hK
    · exact bin_go h (by simp) (by simp only [binOp, Sem.run_bind, equal_bool hb', Result.andThen_ok, Sem.run_pure]) (.lit _) hK
    · exact hK.elim
  · obtain ⟨hb, hK⟩ := hK
    obtain ⟨e, hb'⟩ : ∃ e, P.underlying t = some (.slice e) := by unfold isSliceT at hb; split at hb <;> first | exact ⟨_, by assumption⟩ | cases hb
    obtain ⟨a, c, b, o, us, rfl, hnl, _⟩ := hx.pl_inv
    obtain ⟨a', c', b', o', us', rfl, hnl', _, _, hcap, _⟩ := hy.pl_inv
    have ha' : a' = none := by cases a' <;> simp at hnl' ⊢
    subst ha'
    have hq := fun n => equal_slice_nil (P := P) (w := w) hb' a n c c'
    split at hK
    · exact bin_go h (by simp) (by simp only [binOp, Sem.run_bind, hq, Result.andThen_ok, Sem.run_pure]; rw [← hnl]) (.lit _) hK
    · exact bin_go h (by simp) (by simp only [binOp, Sem.run_bind, hq, Result.andThen_ok, Sem.run_pure]; rw [← hnl]) (.lit _) hK
    · exact hK.elim
  · exact hK.elim

def aUn (op : UnOp) (x : AV) (σ : AHeap) (K : AV → AHeap → Prop) : Prop :=
  match op, x with
  | .neg, .v (.int k n) => K (.v (.int k (k.wrap (0 - n)))) σ
  | .not, .v (.bool b) => K (.v (.bool (!b))) σ
  | .xor, .v (.int k n) => K (.v (.int k (k.wrap (BitVec.ofInt k.bits (if k.signed then -1 else k.max) ^^^ BitVec.ofInt k.bits n).toNat))) σ
  | .neg, .v (.float k b) => K (.v (.float k (Op.negFloat k b))) σ
  | _, _ => False

theorem un_ok (h : HRel w0 ρ fz σ w) {op : UnOp} {x : AV} {u : Value} (hx : R ρ σ fz w x u) {K : AV → AHeap → Prop} (hK : aUn op x σ K) :
    SemOK P w0 ρ fz σ w (Op.unary op u) K := by
  unfold aUn at hK
  split at hK <;> first
    | exact hK.elim
    | (rw [hx.v_eq]; exact SemOK.of_same h (by simp [Op.unary, Op.intArith, Op.intBits]; try rfl) (.lit _) hK)

def intT (P : Program) (t : TypeId) : Option IntKind := match P.underlying t with | some (.int k) => some k | _ => none

def aConv (P : Program) (src dst : TypeId) (x : AV) (σ : AHeap) (K : AV → AHeap → Prop) : Prop :=
  (P.underlying src).isSome = true ∧
  match P.underlying dst, x with
  | some (.int k), .v (.int _ n) => K (.v (.int k (k.wrap n))) σ
  | some (.float k), .v (.int _ n) => K (.v (.float k (k.nearest n))) σ
  | some (.float .f64), .v (.float .f64 b) => K (.v (.float .f64 b)) σ
  | some .string, .v (.string s) => K (.v (.string s)) σ
  | _, _ => False

theorem conv_ok (h : HRel w0 ρ fz σ w) {src dst : TypeId} {x : AV} {u : Value} (hx : R ρ σ fz w x u) {K : AV → AHeap → Prop} (hK : aConv P src dst x σ K) :
    SemOK P w0 ρ fz σ w (convert src dst u) K := by
  obtain ⟨hs, hK⟩ := hK
  obtain ⟨d, hd⟩ := Option.isSome_iff_exists.1 hs
  split at hK <;> first
    | exact hK.elim
    | (rename_i hdst
       rw [hx.v_eq]
       refine SemOK.of_same h ?_ (.lit _) hK
       cases d <;> simp [convert, run_underlying hd, run_underlying hdst, Conv.intToInt, Conv.intToFloat, Conv.floatToFloat])

def aMin (x y : AV) (σ : AHeap) (K : AV → AHeap → Prop) : Prop :=
  match x, y with
  | .v (.int k a), .v (.int _ b) => K (.v (.int k (if b < a then b else a))) σ
  | _, _ => False
def aMax (x y : AV) (σ : AHeap) (K : AV → AHeap → Prop) : Prop :=
  match x, y with
  | .v (.int k a), .v (.int _ b) => K (.v (.int k (if b > a then b else a))) σ
  | _, _ => False
theorem max_ok (h : HRel w0 ρ fz σ w) {ts : Array TypeId} {ty : TypeId} {x y : AV} {u v : Value} (hx : R ρ σ fz w x u) (hy : R ρ σ fz w y v) {K : AV → AHeap → Prop} (hK : aMax x y σ K) :
    SemOK P w0 ρ fz σ w (Builtin.max_ ts ty #[u, v]) K := by
  unfold aMax at hK
  split at hK <;> first
    | exact hK.elim
    | (rw [hx.v_eq, hy.v_eq]; exact SemOK.of_same h (by simp [Builtin.max_, Builtin.max2]) (.lit _) hK)
theorem min_ok (h : HRel w0 ρ fz σ w) {ts : Array TypeId} {ty : TypeId} {x y : AV} {u v : Value} (hx : R ρ σ fz w x u) (hy : R ρ σ fz w y v) {K : AV → AHeap → Prop} (hK : aMin x y σ K) :
    SemOK P w0 ρ fz σ w (Builtin.min_ ts ty #[u, v]) K := by
  unfold aMin at hK
  split at hK <;> first
    | exact hK.elim
    | (rw [hx.v_eq, hy.v_eq]; exact SemOK.of_same h (by simp [Builtin.min_, Builtin.min2]) (.lit _) hK)
end
end Go.Proofs.Va
