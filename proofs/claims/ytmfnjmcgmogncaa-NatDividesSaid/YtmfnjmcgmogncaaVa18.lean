/- VA, part 18: temporaries beside their numbers; what reckons on what values are said to be. -/
import Derived.Test.YtmfnjmcgmogncaaVa17
set_option linter.unusedVariables false
set_option linter.unusedSimpArgs false
namespace Go.Proofs.Va
open Go Go.RowKit

/-! ### What lies behind is not looked at ahead of time -/
def Nop (b : Bool) : Bool := b
@[simp] theorem nop_eq (b : Bool) : Nop b = b := by cases b <;> rfl
def LkS (b : Bool) (f : AState → Prop) : AState → Prop := f
def LkC (b : Bool) (f : AV → AHeap → Prop) : AV → AHeap → Prop := f
def LkE (b : Bool) (f : Exit → AState → Prop) : Exit → AState → Prop := f
def LkT (b : Bool) (f : List AV → AHeap → Prop) : List AV → AHeap → Prop := f
@[simp ↓] theorem lkS_on (b : Bool) (f : AState → Prop) (s : AState) : LkS b f s = f s := (rfl)
@[simp ↓] theorem lkC_on (b : Bool) (f : AV → AHeap → Prop) (r : AV) (σ : AHeap) : LkC b f r σ = f r σ := (rfl)
@[simp ↓] theorem lkE_on (b : Bool) (f : Exit → AState → Prop) (e : Exit) (s : AState) : LkE b f e s = f e s := (rfl)
@[simp ↓] theorem lkT_on (b : Bool) (f : List AV → AHeap → Prop) (t : List AV) (σ : AHeap) : LkT b f t σ = f t σ := (rfl)
@[congr] theorem lkS_cong {b b' : Bool} {f : AState → Prop} (h : Nop b = b') : LkS b f = LkS b' f := rfl
@[congr] theorem lkC_cong {b b' : Bool} {f : AV → AHeap → Prop} (h : Nop b = b') : LkC b f = LkC b' f := rfl
@[congr] theorem lkE_cong {b b' : Bool} {f : Exit → AState → Prop} (h : Nop b = b') : LkE b f = LkE b' f := rfl
@[congr] theorem lkT_cong {b b' : Bool} {f : List AV → AHeap → Prop} (h : Nop b = b') : LkT b f = LkT b' f := rfl

/-! ### Temporaries beside their numbers -/
abbrev Tm := List (Nat × AV)
def look : Tm → Nat → AV
  | [], _ => .any
  | p :: T, i => if i = p.1 then p.2 else look T i
def lst (n : Nat) (T : Tm) : List AV := (List.range n).map (look T)
def putT (T : Tm) : Option Tmp → AV → Tm
  | some d, r => (d, r) :: T
  | none, _ => T
def argT : Nat → List AV → Tm
  | _, [] => []
  | k, x :: l => (k, x) :: argT (k + 1) l
def setT (T : Tm) : List Tmp → List AV → Tm
  | p :: ps, x :: xs => setT ((p, x) :: T) ps xs
  | _, _ => T

@[simp ↓] theorem look_nil (i : Nat) : look [] i = .any := (rfl)
@[simp ↓] theorem look_cons (j : Nat) (x : AV) (T : Tm) (i : Nat) : look ((j, x) :: T) i = if i = j then x else look T i := (rfl)
attribute [simp] putT argT setT

theorem lst_len (n : Nat) (T : Tm) : (lst n T).length = n := by simp [lst]
theorem lst_get (n : Nat) (T : Tm) (i : Nat) : (lst n T)[i]? = if i < n then some (look T i) else none := by
  unfold lst
  by_cases h : i < n <;> simp [h]
@[simp ↓] theorem lst_get_lt (n : Nat) (T : Tm) (i : Nat) (h : Nat.blt i n = true) : (lst n T)[i]? = some (look T i) := by
  rw [lst_get, if_pos (by simpa using h)]
@[simp] theorem lst_length (n : Nat) (T : Tm) : (lst n T).length = n := lst_len n T
theorem put_lst (n : Nat) (T : Tm) (d : Option Tmp) (r : AV) : put (lst n T) d r = lst n (putT T d r) := by
  cases d with
  | none => rfl
  | some d =>
    apply List.ext_getElem?
    intro i
    simp only [put, putT, List.getElem?_set, lst_get, lst_len, look]
    by_cases h1 : d = i
    · subst h1; by_cases h2 : d < n <;> simp [h2]
    · have h2 : ¬ i = d := fun h => h1 h.symm
      rw [if_neg h1, if_neg h2]
@[simp ↓] theorem ev_tmp (n : Nat) (T : Tm) (i : Nat) (h : Nat.blt i n = true) : ev (lst n T) (.tmp i) = look T i := by
  have : i < n := by simpa using h
  simp [ev, lst_get, this]
@[simp ↓] theorem ev_const (t : List AV) (v : Value) : ev t (.const v) = cav v := (rfl)
@[simp ↓] theorem ev_global (t : List AV) (g : Nat) : ev t (.global g) = .v (.pointer (some ⟨g, 0, none⟩)) := (rfl)
@[simp ↓] theorem ev_func (t : List AV) (f : Nat) : ev t (.func f) = .fn (.func f) [] [] := (rfl)

theorem argT_get (l : List AV) : ∀ (k i : Nat), k ≤ i → i < k + l.length → some (look (argT k l) i) = l[i - k]? := by
  induction l with
  | nil => intro k i h1 h2; simp at h2; omega
  | cons x l ih =>
    intro k i h1 h2
    simp only [argT, look]
    by_cases h : i = k
    · subst h; simp
    · rw [if_neg h, ih (k + 1) i (by omega) (by simp at h2; omega), show i - k = (i - (k + 1)) + 1 by omega]; simp
theorem argT_none (l : List AV) : ∀ (k i : Nat), k + l.length ≤ i → look (argT k l) i = .any := by
  induction l with
  | nil => intro k i h; rfl
  | cons x l ih =>
    intro k i h
    simp only [List.length_cons] at h
    simp only [argT, look]
    rw [if_neg (by omega), ih (k + 1) i (by omega)]
theorem enter_lst (args : List AV) (n : Nat) (h : args.length ≤ n) : enterT args n = lst n (argT 0 args) := by
  apply List.ext_getElem?
  intro i
  rw [lst_get]
  unfold enterT
  by_cases h1 : i < args.length
  · rw [List.getElem?_append_left h1, if_pos (by omega), argT_get args 0 i (by omega) (by omega)]; simp
  · rw [List.getElem?_append_right (by omega)]
    by_cases h2 : i < n
    · rw [if_pos h2, argT_none args 0 i (by omega), List.getElem?_replicate, if_pos (by omega)]
    · rw [if_neg h2, List.getElem?_replicate, if_neg (by omega)]
theorem setPs_lst (n : Nat) (ps : List Tmp) : ∀ (T : Tm) (args : List AV), setPs (lst n T) ps args = lst n (setT T ps args) := by
  induction ps with
  | nil => intro T args; cases args <;> rfl
  | cons p ps ih =>
    intro T args
    cases args with
    | nil => rfl
    | cons x xs =>
      have h2 : setPs (lst n T) (p :: ps) (x :: xs) = setPs (put (lst n T) (some p) x) ps xs := rfl
      rw [h2, put_lst]
      exact ih ((p, x) :: T) xs

/-! ### Operations, one by one -/
def wops (b : Bool) (P : Program) (n : Nat) (ops : Array Oper) (l : List Oper) (Q : AState → Prop) (T : Tm) (σ : AHeap) : Prop := awpOps P ops l Q ⟨lst n T, σ⟩
@[congr] theorem wops_cong {b b' : Bool} {P : Program} {n : Nat} {ops : Array Oper} {l : List Oper} {Q : AState → Prop} {T T' : Tm} {σ σ' : AHeap} (h : Nop b = b') (hT : T = T') (hσ : σ = σ') :
    wops b P n ops l Q T σ = wops b' P n ops l Q T' σ' := by subst hT; subst hσ; rfl
@[simp] theorem wops_nil (b : Bool) (P : Program) (n : Nat) (ops : Array Oper) (Q : AState → Prop) (T : Tm) (σ : AHeap) : wops b P n ops [] Q T σ = Q ⟨lst n T, σ⟩ := (rfl)
@[simp] theorem wops_cons (b : Bool) (P : Program) (n : Nat) (ops : Array Oper) (o : Oper) (l : List Oper) (Q : AState → Prop) (T : Tm) (σ : AHeap) :
    wops b P n ops (o :: l) Q T σ = guardA ops (lst n T) o (aop P o.op (lst n T) σ (LkC true fun r σ' => wops true P n ops l Q (putT T o.dst r) σ')) (wops true P n ops l Q (putT T o.dst .any) σ) := by
  show guardA ops (lst n T) o (aop P o.op (lst n T) σ fun r σ' => awpOps P ops l Q ⟨put (lst n T) o.dst r, σ'⟩) (awpOps P ops l Q ⟨put (lst n T) o.dst .any, σ⟩) = _
  simp only [put_lst]; rfl

section
variable {P : Program} {n0 : Nat} {top : Bool} {Q : Exit → AState → Prop}
@[simp ↓] theorem awp_reg {n id : Nat} {l : List Oper} {T : Tm} {σ : AHeap} : awp P n0 top (.region id (List.toArray l) false) Q ⟨lst n T, σ⟩ = wops true P n (List.toArray l) l (LkS true (Q .normal)) T σ := (rfl)
@[simp ↓] theorem awp_seq {x y : Code} {s : AState} : awp P n0 top (.seq x y) Q s = awp P n0 top x (thenA (LkS true (awp P n0 top y Q)) Q) s := (rfl)
@[simp ↓] theorem awp_cond {c : Operand} {x y : Code} {s : AState} : awp P n0 top (.cond c x y) Q s = match ev s.t c with
    | .v (.bool q) => if q = true then awp P n0 top x Q s else awp P n0 top y Q s
    | _ => False := (rfl)
@[simp ↓] theorem awp_block {id : Nat} {c : Code} {s : AState} : awp P n0 top (.block id c) Q s = awp P n0 top c (inBlockA id Q) s := (rfl)
@[simp ↓] theorem awp_loop {c : Code} {s : AState} : awp P n0 top (.loop c) Q s = AW P n0 top (.loop c) (LkE true Q) s := (rfl)
@[simp ↓] theorem awp_draw {id : Nat} {ops : Array Oper} {s : AState} : awp P n0 top (.region id ops true) Q s = AW P n0 top (.region id ops true) (LkE true Q) s := (rfl)
@[simp ↓] theorem awp_range {f : Operand} {ps : Array Tmp} {x y : Code} {s : AState} : awp P n0 top (.rangeFunc f ps x y) Q s = AW P n0 top (.rangeFunc f ps x y) (LkE true Q) s := (rfl)
@[simp ↓] theorem awp_skip {s : AState} : awp P n0 top .skip Q s = Q .normal s := (rfl)
@[simp ↓] theorem awp_label {l : Nat} {s : AState} : awp P n0 top (.label l) Q s = Q .normal s := (rfl)
@[simp ↓] theorem awp_exit {id : Nat} {s : AState} : awp P n0 top (.exit id) Q s = Q (.exit id) s := (rfl)
@[simp ↓] theorem awp_goto {l : Nat} {s : AState} : awp P n0 top (.goto l) Q s = Q (.goto l) s := (rfl)
@[simp ↓] theorem awp_ret {s : AState} : awp P n0 top .ret Q s = Q .ret s := (rfl)

/-- A statement that is known to lead on is not looked into. -/
@[congr] theorem aw_cong {b b' : Bool} {n n' : Nat} {c : Code} {s s' : AState} (hb : Nop b = b') (hn : n = n') (h : s = s') : AW P n b c Q s = AW P n' b' c Q s' := by subst h; subst hn; subst hb; rw [nop_eq]

theorem loop_on {γ : Type} (n : Nat) (Tg : γ → Tm) (Hg : γ → AHeap) (Pre : γ → Prop) (μ : γ → Nat) {c : Code} {T : Tm} {σ : AHeap} (g0 : γ) (h0 : Pre g0) (hw : Wk n0 ⟨lst n T, σ⟩ ⟨lst n (Tg g0), Hg g0⟩)
    (step : ∀ g, Pre g → ∀ K : AState → Prop, (∀ g' T' σ', Pre g' → Wk n0 ⟨lst n T', σ'⟩ ⟨lst n (Tg g'), Hg g'⟩ → μ g' < μ g → K ⟨lst n T', σ'⟩) → awp P n0 top c (thenA K Q) ⟨lst n (Tg g), Hg g⟩) : AW P n0 top (.loop c) Q ⟨lst n T, σ⟩ := by
  refine loop_rule (fun g => ⟨lst n (Tg g), Hg g⟩) Pre μ g0 h0 hw fun g hp => step g hp _ fun g' T' σ' h1 h2 h3 => ⟨g', h1, h2, h3⟩
end

theorem Wk.lst {n0 n : Nat} {T T' : Tm} {σ : AHeap} (h : ∀ p ∈ T', wk1 p.2 (look T p.1)) (hn : n0 ≤ σ.length) : Wk n0 ⟨Va.lst n T, σ⟩ ⟨Va.lst n T', σ⟩ := by
  have key : ∀ (T' : Tm), (∀ p ∈ T', wk1 p.2 (look T p.1)) → ∀ i, wk1 (look T' i) (look T i) := by
    intro T'
    induction T' with
    | nil => intro _ i; exact trivial
    | cons p T' ih =>
      intro h i
      simp only [look]
      by_cases hi : i = p.1
      · rw [if_pos hi, hi]; exact h p (by simp)
      · rw [if_neg hi]; exact ih (fun q hq => h q (by simp [hq])) i
  refine ⟨by simp, fun i x hx => ?_, hn, Nat.le_refl _, fun i b hb => ⟨b, hb, rfl, fun _ => rfl, fun _ => ⟨Nat.le_refl _, fun j x hx => ⟨x, hx, wk1_refl x⟩⟩⟩, fun hl => absurd hl (Nat.lt_irrefl _)⟩
  simp only [lst_get] at hx ⊢
  by_cases hi : i < n
  · rw [if_pos hi] at hx ⊢
    cases hx
    exact ⟨_, rfl, key T' h i⟩
  · rw [if_neg hi] at hx; cases hx

def bAnd (k : IntKind) (a b : Int) : Int := (BitVec.ofInt k.bits a &&& BitVec.ofInt k.bits b).toNat
def bOr (k : IntKind) (a b : Int) : Int := (BitVec.ofInt k.bits a ||| BitVec.ofInt k.bits b).toNat
def bXor (k : IntKind) (a b : Int) : Int := (BitVec.ofInt k.bits a ^^^ BitVec.ofInt k.bits b).toNat
def bAndNot (k : IntKind) (a b : Int) : Int := (BitVec.ofInt k.bits a &&& ~~~ BitVec.ofInt k.bits b).toNat

/-! ### Operations, where what they work on is known -/
section
variable {ops : Array Oper} {t : List AV} {yes no : Prop}
@[simp ↓] theorem guardA_none {d : Option Tmp} {op : Op} {ty : TypeId} {ps : String} {af : Array Edge} : guardA ops t (Oper.mk d op ty ps af none) yes no = yes := (rfl)
theorem guardA_some {d : Option Tmp} {op : Op} {ty : TypeId} {ps : String} {af : Array Edge} {j : Nat} {want : Bool} : guardA ops t (Oper.mk d op ty ps af (some (j, want))) yes no = match (ops[j]?).bind (·.dst) with
    | some d => match t[d]? with
      | some (.v (.bool b)) => if b = want then yes else no
      | _ => False
    | none => False := (rfl)
def gB (x : AV) (want : Bool) (yes no : Prop) : Prop := match x with
  | .v (.bool b) => if b = want then yes else no
  | _ => False
@[simp ↓] theorem guardA_at {n : Nat} {T : Tm} {d : Option Tmp} {op : Op} {ty : TypeId} {ps : String} {af : Array Edge} {j d' : Nat} {want : Bool} (h : (ops[j]?).bind (·.dst) = some d') (hd : Nat.blt d' n = true) :
    guardA ops (lst n T) (Oper.mk d op ty ps af (some (j, want))) yes no = gB (look T d') want yes no := by
  rw [guardA_some, h]
  have : d' < n := by simpa using hd
  simp only [lst_get, if_pos this]
  unfold gB
  generalize look T d' = x
  cases x with
  | v y => cases y <;> rfl
  | _ => rfl
def lkP (b : Bool) (p : Prop) : Prop := p
@[simp] theorem gB_v (b want : Bool) : gB (.v (.bool b)) want yes no = if b = want then yes else no := (rfl)
@[congr] theorem gB_cong {x x' : AV} {want : Bool} (h : x = x') : gB x want yes no = gB x' want yes no := by subst h; rfl
end
section
variable {next : AState → Prop} {Q : Exit → AState → Prop} {s : AState}
@[simp ↓] theorem thenA_normal : thenA next Q .normal s = next s := (rfl)
@[simp ↓] theorem thenA_exit {id : Nat} : thenA next Q (.exit id) s = Q (.exit id) s := (rfl)
@[simp ↓] theorem thenA_goto {l : Nat} : thenA next Q (.goto l) s = Q (.goto l) s := (rfl)
@[simp ↓] theorem thenA_ret : thenA next Q .ret s = Q .ret s := (rfl)
@[simp ↓] theorem inBlockA_normal {id : Nat} : inBlockA id Q .normal s = Q .normal s := (rfl)
@[simp ↓] theorem inBlockA_exit {id id' : Nat} : inBlockA id Q (.exit id') s = if id' = id then Q .normal s else Q (.exit id') s := (rfl)
@[simp ↓] theorem inBlockA_goto {id l : Nat} : inBlockA id Q (.goto l) s = Q (.goto l) s := (rfl)
@[simp ↓] theorem inBlockA_ret {id : Nat} : inBlockA id Q .ret s = Q .ret s := (rfl)
end
section
variable {P : Program} {t : List AV} {σ : AHeap} {K : AV → AHeap → Prop} {x y z : Operand} {e e' : TypeId}
@[simp ↓] theorem aop_move : aop P (.move x) t σ K = K (ev t x) σ := (rfl)
@[simp ↓] theorem aop_assign : aop P (.assign x) t σ K = K (ev t x) σ := (rfl)
def aPick (c x y : AV) (σ : AHeap) (K : AV → AHeap → Prop) : Prop := match c with
  | .v (.bool q) => if q = true then K x σ else K y σ
  | _ => False
@[simp] theorem aPick_v {q : Bool} {x y : AV} : aPick (.v (.bool q)) x y σ K = if q = true then K x σ else K y σ := (rfl)
@[simp ↓] theorem aop_pick : aop P (.pick x y z) t σ K = aPick (ev t x) (ev t y) (ev t z) σ K := by
  show (match ev t x with
    | .v (.bool q) => if q = true then K (ev t y) σ else K (ev t z) σ
    | _ => False) = _
  unfold aPick
  generalize ev t x = c
  cases c with
  | v y => cases y <;> rfl
  | _ => rfl
@[simp ↓] theorem aop_alloc : aop P (.alloc e) t σ K = aAlloc P e σ K := (rfl)
@[simp ↓] theorem aop_box : aop P (.box e x) t σ K = aBox (ev t x) σ K := (rfl)
@[simp ↓] theorem aop_build {ps : Array (Nat × Operand)} : aop P (.build e ps) t σ K = aBuild P e (ps.toList.map fun p => (p.1, ev t p.2)) σ K := (rfl)
@[simp ↓] theorem aop_buildSlice {n : Nat} {ps : Array (Nat × Operand)} : aop P (.buildSlice e n ps) t σ K = aBuildSlice P e n (ps.toList.map fun p => (p.1, ev t p.2)) σ K := (rfl)
@[simp ↓] theorem aop_load : aop P (.load e x) t σ K = aLoad P e (ev t x) σ K := (rfl)
@[simp ↓] theorem aop_store : aop P (.store e x y) t σ K = aStore P e (ev t x) (ev t y) σ (K .any) := (rfl)
@[simp ↓] theorem aop_nil : aop P (.nilCheck x) t σ K = aNil (ev t x) σ K := (rfl)
@[simp ↓] theorem aop_bin {o : BinOp} : aop P (.binOp o e x y e') t σ K = aBin P o e (ev t x) (ev t y) σ K := (rfl)
@[simp ↓] theorem aop_un {o : UnOp} : aop P (.unOp o e x) t σ K = aUn o (ev t x) σ K := (rfl)
@[simp ↓] theorem aop_conv : aop P (.convert e e' x) t σ K = aConv P e e' (ev t x) σ K := (rfl)
@[simp ↓] theorem aop_mi : aop P (.makeInterface e x) t σ K = aMakeInterface P e (ev t x) σ K := (rfl)
@[simp ↓] theorem aop_mf {f : Fn} {first caps : Array Operand} : aop P (.makeFunc f first caps) t σ K = K (.fn f (first.toList.map (ev t)) (caps.toList.map (ev t))) σ := (rfl)
@[simp ↓] theorem aop_ms : aop P (.makeSlice e x y) t σ K = aMakeSlice P e (ev t x) (ev t y) σ K := (rfl)
@[simp ↓] theorem aop_slice {lo hi mx : Option Operand} : aop P (.slice e x lo hi mx) t σ K = aSlice P e (ev t x) (lo.map (ev t)) (hi.map (ev t)) (mx.map (ev t)) σ K := (rfl)
@[simp ↓] theorem aop_fa {f : Nat} : aop P (.fieldAddr e x f) t σ K = aFieldAddr P e (ev t x) f σ K := (rfl)
@[simp ↓] theorem aop_f {f : Nat} : aop P (.field e x f) t σ K = aField P e (ev t x) f σ K := (rfl)
@[simp ↓] theorem aop_ia : aop P (.indexAddr e x y) t σ K = aIndexAddr P e (ev t x) (ev t y) σ K := (rfl)
@[simp ↓] theorem aop_ix : aop P (.index e x y) t σ K = aIndex P e (ev t x) (ev t y) σ K := (rfl)
@[simp ↓] theorem aop_extract {j : Nat} : aop P (.extract x j) t σ K = aExtract (ev t x) j σ K := (rfl)
def aVal (P : Program) (f : AV) (args : List AV) (σ : AHeap) (K : AV → AHeap → Prop) : Prop := match f with
  | .fn (.func g) first caps => ACall P g (first ++ args ++ caps) σ K
  | .fn (.yield l) first caps => AYield P l (first ++ args) σ K
  | _ => False
@[simp] theorem aVal_func {g : FuncId} {args first caps : List AV} : aVal P (.fn (.func g) first caps) args σ K = ACall P g (first ++ args ++ caps) σ K := (rfl)
@[simp] theorem aVal_yield {l : Nat} {args first caps : List AV} : aVal P (.fn (.yield l) first caps) args σ K = AYield P l (first ++ args) σ K := (rfl)
@[simp ↓] theorem aop_call {f : Operand} {args : Array Operand} {ts : Array TypeId} : aop P (.call { callee := .value f, args := args, argTypes := ts }) t σ K = aVal P (ev t f) (args.toList.map (ev t)) σ K := by
  show (match ev t f with
    | .fn (.func g) first caps => ACall P g (first ++ args.toList.map (ev t) ++ caps) σ K
    | .fn (.yield l) first caps => AYield P l (first ++ args.toList.map (ev t)) σ K
    | _ => False) = _
  unfold aVal
  generalize ev t f = c
  cases c with
  | fn g a b => cases g <;> rfl
  | _ => rfl
@[simp ↓] theorem aop_len : aop P (.call { callee := .builtin .len, args := #[x], argTypes := #[e] }) t σ K = aLen P e (ev t x) σ K := (rfl)
@[simp ↓] theorem aop_cap : aop P (.call { callee := .builtin .cap, args := #[x], argTypes := #[e] }) t σ K = aCap P e (ev t x) σ K := (rfl)
@[simp ↓] theorem aop_append : aop P (.call { callee := .builtin .append, args := #[x, y], argTypes := #[e, e'] }) t σ K = if (intT P e').isSome = true then aAppZ P e (ev t x) (ev t y) σ K else aAppend P e e' (ev t x) (ev t y) σ K := (rfl)
@[simp ↓] theorem aop_copy : aop P (.call { callee := .builtin .copy, args := #[x, y], argTypes := #[e, e'] }) t σ K = aCopy P e (ev t x) (ev t y) σ K := (rfl)
@[simp ↓] theorem aop_max {ts : Array TypeId} : aop P (.call { callee := .builtin .max, args := #[x, y], argTypes := ts }) t σ K = aMax (ev t x) (ev t y) σ K := (rfl)
@[simp ↓] theorem aop_min {ts : Array TypeId} : aop P (.call { callee := .builtin .min, args := #[x, y], argTypes := ts }) t σ K = aMin (ev t x) (ev t y) σ K := (rfl)
end
section
variable {P : Program} {σ : AHeap} {K : AV → AHeap → Prop} {t t' : TypeId}
section
variable {k k' : IntKind} {a b : Int}
@[simp] theorem aBin_add : aBin P .add t (.v (.int k a)) (.v (.int k' b)) σ K = (k = k' ∧ K (.v (.int k (k.wrap (a + b)))) σ) := (rfl)
@[simp] theorem aBin_sub : aBin P .sub t (.v (.int k a)) (.v (.int k' b)) σ K = (k = k' ∧ K (.v (.int k (k.wrap (a - b)))) σ) := (rfl)
@[simp] theorem aBin_mul : aBin P .mul t (.v (.int k a)) (.v (.int k' b)) σ K = (k = k' ∧ K (.v (.int k (k.wrap (a * b)))) σ) := (rfl)
@[simp] theorem aBin_quo : aBin P .quo t (.v (.int k a)) (.v (.int k' b)) σ K = (k = k' ∧ b ≠ 0 ∧ K (.v (.int k (k.wrap (a.tdiv b)))) σ) := by by_cases h : b = 0 <;> simp [aBin, isShift, intBin, h]
@[simp] theorem aBin_rem : aBin P .rem t (.v (.int k a)) (.v (.int k' b)) σ K = (k = k' ∧ b ≠ 0 ∧ K (.v (.int k (a.tmod b))) σ) := by by_cases h : b = 0 <;> simp [aBin, isShift, intBin, h]
@[simp] theorem aBin_and : aBin P .and t (.v (.int k a)) (.v (.int k' b)) σ K = (k = k' ∧ K (.v (.int k (k.wrap (bAnd k a b)))) σ) := (rfl)
@[simp] theorem aBin_or : aBin P .or t (.v (.int k a)) (.v (.int k' b)) σ K = (k = k' ∧ K (.v (.int k (k.wrap (bOr k a b)))) σ) := (rfl)
@[simp] theorem aBin_xor : aBin P .xor t (.v (.int k a)) (.v (.int k' b)) σ K = (k = k' ∧ K (.v (.int k (k.wrap (bXor k a b)))) σ) := (rfl)
@[simp] theorem aBin_andNot : aBin P .andNot t (.v (.int k a)) (.v (.int k' b)) σ K = (k = k' ∧ K (.v (.int k (k.wrap (bAndNot k a b)))) σ) := (rfl)
@[simp] theorem aBin_eql : aBin P .eql t (.v (.int k a)) (.v (.int k' b)) σ K = (k = k' ∧ K (.v (.bool (a == b))) σ) := (rfl)
@[simp] theorem aBin_neq : aBin P .neq t (.v (.int k a)) (.v (.int k' b)) σ K = (k = k' ∧ K (.v (.bool (a != b))) σ) := (rfl)
@[simp] theorem aBin_lss : aBin P .lss t (.v (.int k a)) (.v (.int k' b)) σ K = (k = k' ∧ K (.v (.bool (decide (a < b)))) σ) := by simp [aBin, isShift, intBin]
@[simp] theorem aBin_leq : aBin P .leq t (.v (.int k a)) (.v (.int k' b)) σ K = (k = k' ∧ K (.v (.bool (decide (a ≤ b)))) σ) := by simp [aBin, isShift, intBin]
@[simp] theorem aBin_gtr : aBin P .gtr t (.v (.int k a)) (.v (.int k' b)) σ K = (k = k' ∧ K (.v (.bool (decide (b < a)))) σ) := by simp [aBin, isShift, intBin]
@[simp] theorem aBin_geq : aBin P .geq t (.v (.int k a)) (.v (.int k' b)) σ K = (k = k' ∧ K (.v (.bool (decide (b ≤ a)))) σ) := by simp [aBin, isShift, intBin]
@[simp] theorem aBin_shl : aBin P .shl t (.v (.int k a)) (.v (.int k' b)) σ K = (¬ b < 0 ∧ K (.v (.int k (k.wrap (a * 2 ^ (min b.toNat k.bits))))) σ) := by by_cases h : b < 0 <;> simp [aBin, isShift, intShift, h]
@[simp] theorem aBin_shr : aBin P .shr t (.v (.int k a)) (.v (.int k' b)) σ K = (¬ b < 0 ∧ K (.v (.int k (a.fdiv (2 ^ (min b.toNat k.bits))))) σ) := by by_cases h : b < 0 <;> simp [aBin, isShift, intShift, h]
end
@[simp] theorem aBin_beql {a b : Bool} : aBin P .eql t (.v (.bool a)) (.v (.bool b)) σ K = (isBoolT P t = true ∧ K (.v (.bool (a == b))) σ) := (rfl)
@[simp] theorem aBin_bneq {a b : Bool} : aBin P .neq t (.v (.bool a)) (.v (.bool b)) σ K = (isBoolT P t = true ∧ K (.v (.bool (!(a == b)))) σ) := (rfl)
@[simp] theorem aBin_nil {nl : Bool} {cs : List AV} {n : Nat} {c : Option Nat} : aBin P .eql t (.pl nl cs n c) (.pl true [] 0 (some 0)) σ K = (isSliceT P t = true ∧ K (.v (.bool nl)) σ) := (rfl)
@[simp] theorem aBin_nnil {nl : Bool} {cs : List AV} {n : Nat} {c : Option Nat} : aBin P .neq t (.pl nl cs n c) (.pl true [] 0 (some 0)) σ K = (isSliceT P t = true ∧ K (.v (.bool (!nl))) σ) := (rfl)
@[simp] theorem aBin_str {o : BinOp} {a b : ByteArray} : aBin P o t (.v (.string a)) (.v (.string b)) σ K = match strBin o a b with
    | some r => K (.v r) σ
    | none => False := (rfl)
@[simp] theorem aUn_neg {k : IntKind} {n : Int} : aUn .neg (.v (.int k n)) σ K = K (.v (.int k (k.wrap (0 - n)))) σ := (rfl)
@[simp] theorem aUn_not {b : Bool} : aUn .not (.v (.bool b)) σ K = K (.v (.bool (!b))) σ := (rfl)
@[simp] theorem aUn_negf {k : FloatKind} {b : Nat} : aUn .neg (.v (.float k b)) σ K = K (.v (.float k (Op.negFloat k b))) σ := (rfl)
@[simp] theorem aConv_int {k' : IntKind} {n : Int} : aConv P t t' (.v (.int k' n)) σ K = ((P.underlying t).isSome = true ∧ match P.underlying t' with
    | some (.int k) => K (.v (.int k (k.wrap n))) σ
    | some (.float k) => K (.v (.float k (k.nearest n))) σ
    | _ => False) := by
  unfold aConv
  cases P.underlying t' with
  | none => rfl
  | some d => cases d <;> rfl
@[simp] theorem aConv_float {b : Nat} : aConv P t t' (.v (.float .f64 b)) σ K = ((P.underlying t).isSome = true ∧ P.underlying t' = some (.float .f64) ∧ K (.v (.float .f64 b)) σ) := by
  unfold aConv
  cases P.underlying t' with
  | none => simp
  | some d => cases d <;> simp
              rename_i k; cases k <;> simp
@[simp] theorem aConv_str {s : ByteArray} : aConv P t t' (.v (.string s)) σ K = ((P.underlying t).isSome = true ∧ P.underlying t' = some .string ∧ K (.v (.string s)) σ) := by
  unfold aConv
  cases P.underlying t' with
  | none => simp
  | some d => cases d <;> simp
@[simp] theorem aMin_int {k k' : IntKind} {a b : Int} : aMin (.v (.int k a)) (.v (.int k' b)) σ K = K (.v (.int k (if b < a then b else a))) σ := (rfl)
@[simp] theorem aMax_int {k k' : IntKind} {a b : Int} : aMax (.v (.int k a)) (.v (.int k' b)) σ K = K (.v (.int k (if b > a then b else a))) σ := (rfl)
@[simp] theorem aLen_pl {nl : Bool} {cs : List AV} {n : Nat} {c : Option Nat} : aLen P t (.pl nl cs n c) σ K = match P.underlying t with
    | some (.slice _) => K (.v (.int .i64 n)) σ
    | some (.array m _) => K (.v (.int .i64 m)) σ
    | _ => False := by
  unfold aLen
  cases P.underlying t with
  | none => rfl
  | some d => cases d <;> rfl
@[simp] theorem aLen_so {i ver off n sz : Nat} {c : Option Nat} : aLen P t (.so i ver off n sz c) σ K = match P.underlying t with
    | some (.slice _) => (match σ[i]? with
      | some b => b.ver = ver ∧ b.kind ≠ .dead ∧ K (.v (.int .i64 n)) σ
      | none => False)
    | some (.array m _) => K (.v (.int .i64 m)) σ
    | _ => False := by
  unfold aLen
  cases P.underlying t with
  | none => rfl
  | some d => cases d <;> rfl
@[simp] theorem aLen_str {s : ByteArray} : aLen P t (.v (.string s)) σ K = match P.underlying t with
    | some .string => K (.v (.int .i64 s.size)) σ
    | some (.array m _) => K (.v (.int .i64 m)) σ
    | _ => False := by
  unfold aLen
  cases P.underlying t with
  | none => rfl
  | some d => cases d <;> rfl
@[simp] theorem aCap_so {i ver off n sz c : Nat} : aCap P t (.so i ver off n sz (some c)) σ K = match P.underlying t with
    | some (.slice _) => (match σ[i]? with
      | some b => b.ver = ver ∧ b.kind ≠ .dead ∧ K (.v (.int .i64 c)) σ
      | none => False)
    | _ => False := by
  unfold aCap
  cases P.underlying t with
  | none => rfl
  | some d => cases d <;> rfl
@[simp] theorem aCap_pl {nl : Bool} {cs : List AV} {n c : Nat} : aCap P t (.pl nl cs n (some c)) σ K = match P.underlying t with
    | some (.slice _) => K (.v (.int .i64 c)) σ
    | _ => False := by
  unfold aCap
  cases P.underlying t with
  | none => rfl
  | some d => cases d <;> rfl
@[simp] theorem aLoad_po {i ver off : Nat} : aLoad P t (.po i ver off) σ K = match σ[i]? with
    | some b => b.ver = ver ∧ b.kind ≠ .dead ∧ aRead P t b.cells off (fun r => K r σ)
    | none => False := (rfl)
@[simp] theorem aLoad_pp {cs : List AV} {off : Nat} : aLoad P t (.pp cs off) σ K = aRead P t cs off (fun r => K r σ) := (rfl)
attribute [simp ↓] aRead aAlloc aBox aBuild aBuildSlice
@[simp] theorem aStore_po {i ver off : Nat} {y : AV} {K : AHeap → Prop} : aStore P t (.po i ver off) y σ K = match σ[i]? with
    | some b => b.ver = ver ∧ b.kind = .own ∧ match cellsOf y with
      | some ys => szT P t = some ys.length ∧ off + ys.length ≤ b.cells.length ∧ K (σ.set i { b with cells := wr b.cells off ys })
      | none => False
    | none => False := (rfl)
@[simp] theorem aNil_po {i ver off : Nat} : aNil (.po i ver off) σ K = match σ[i]? with
    | some b => b.ver = ver ∧ b.kind ≠ .dead ∧ K (.po i ver off) σ
    | none => False := (rfl)
@[simp] theorem aNil_pp {cs : List AV} {off : Nat} : aNil (.pp cs off) σ K = K (.pp cs off) σ := (rfl)
@[simp] theorem aNil_ifc {e : TypeId} {x : AV} : aNil (.ifc e x) σ K = K (.ifc e x) σ := (rfl)
@[simp] theorem aNil_fn {f : FuncId} {a b : List AV} : aNil (.fn (.func f) a b) σ K = K (.fn (.func f) a b) σ := (rfl)
@[simp] theorem aIA_pl {nl : Bool} {cs : List AV} {n : Nat} {c : Option Nat} {k : IntKind} {j : Int} : aIndexAddr P t (.pl nl cs n c) (.v (.int k j)) σ K = match elT P t with
      | some (_, e) => (0 ≤ j ∧ j < n) ∧ j.toNat * e.sz < cs.length ∧ K (.pp cs (j.toNat * e.sz)) σ
      | none => False := (rfl)
@[simp] theorem aIA_so {i ver off n sz : Nat} {c : Option Nat} {k : IntKind} {j : Int} : aIndexAddr P t (.so i ver off n sz c) (.v (.int k j)) σ K = match elT P t, σ[i]? with
      | some (_, e), some b => b.ver = ver ∧ b.kind ≠ .dead ∧ (0 ≤ j ∧ j < n) ∧ K (.po i ver (off + j.toNat * e.sz)) σ
      | _, _ => False := (rfl)
@[simp] theorem aIA_po {i ver off : Nat} {k : IntKind} {j : Int} : aIndexAddr P t (.po i ver off) (.v (.int k j)) σ K = match arrT P t, σ[i]? with
      | some (n, _, s), some b => b.ver = ver ∧ b.kind ≠ .dead ∧ (0 ≤ j ∧ j < n) ∧ K (.po i ver (off + j.toNat * s)) σ
      | _, _ => False := (rfl)
@[simp] theorem aIA_pp {cs : List AV} {off : Nat} {k : IntKind} {j : Int} : aIndexAddr P t (.pp cs off) (.v (.int k j)) σ K = match arrT P t with
      | some (n, _, s) => (0 ≤ j ∧ j < n) ∧ K (.pp cs (off + j.toNat * s)) σ
      | none => False := (rfl)
@[simp] theorem aIx_agg {cs : List AV} {k : IntKind} {j : Int} : aIndex P t (.agg cs) (.v (.int k j)) σ K = match arrT P t with
      | some (n, e, s) => (0 ≤ j ∧ j < n) ∧ aRead P e cs (j.toNat * s) (fun r => K r σ)
      | none => False := (rfl)
@[simp] theorem aIx_str {s : ByteArray} {k : IntKind} {j : Int} : aIndex P t (.v (.string s)) (.v (.int k j)) σ K = (P.underlying t = some .string ∧ 0 ≤ j ∧ match s[j.toNat]? with
      | some b => K (.v (.int .u8 b.toNat)) σ
      | none => False) := (rfl)
@[simp] theorem aFA_po {i ver off f : Nat} : aFieldAddr P t (.po i ver off) f σ K = match fldT P t f with
  | some (_, o) => (match σ[i]? with
      | some b => b.ver = ver ∧ b.kind ≠ .dead ∧ K (.po i ver (off + o)) σ
      | none => False)
  | none => False := (rfl)
@[simp] theorem aFA_pp {cs : List AV} {off f : Nat} : aFieldAddr P t (.pp cs off) f σ K = match fldT P t f with
  | some (_, o) => K (.pp cs (off + o)) σ
  | none => False := (rfl)
@[simp] theorem aF_agg {cs : List AV} {f : Nat} : aField P t (.agg cs) f σ K = match fldT P t f with
  | some (t', o) => aRead P t' cs o (fun r => K r σ)
  | none => False := (rfl)
@[simp] theorem aExtract_tup {cs : List AV} {j : Nat} : aExtract (.tup cs) j σ K = match cs[j]? with
    | some y => K y σ
    | none => False := (rfl)
@[simp] theorem aMS {k k' : IntKind} {l c : Int} : aMakeSlice P t (.v (.int k l)) (.v (.int k' c)) σ K = match elT P t with
    | some (_, e) => (0 ≤ l ∧ l ≤ c ∧ c * e.bytes ≤ 140737488355328 ∧ c ≤ 140737488355328) ∧ K (.so σ.length 0 0 l.toNat e.sz (some c.toNat)) (σ ++ [⟨.own, 0, reps c.toNat e.zero⟩])
    | none => False := (rfl)
@[simp] theorem aAppZ_so {i ver off n sz c : Nat} {k : IntKind} {m : Int} : aAppZ P t (.so i ver off n sz (some c)) (.v (.int k m)) σ K = match elT P t, σ[i]? with
    | some (_, e), some b => b.ver = ver ∧ b.kind ≠ .dead ∧ n = 0 ∧ (c : Int) < m ∧ m.toNat * (e.bytes + 1) ≤ 140737488355328 ∧
        ∀ c', m.toNat ≤ c' → K (.so σ.length 0 0 m.toNat e.sz (some c')) (σ ++ [⟨.own, 0, reps m.toNat e.zero ++ reps (c' - m.toNat) e.zero⟩])
    | _, _ => False := (rfl)
attribute [simp] intT
attribute [simp] aSlice aMakeInterface aAppend aCopy
attribute [simp] cav cav1 strBin srcC wr splice cellsOf bnd afill aRes resV List.replicate reps
end

attribute [simp] AV.one Value.oneCell' IntKind.bits IntKind.signed

theorem wrap64u (n : Int) : IntKind.u64.wrap n = n % 18446744073709551616 := by simp [IntKind.wrap]
theorem bOr_u64 {x y : Nat} (hx : x < 18446744073709551616) (hy : y < 18446744073709551616) : bOr .u64 x y = ((x ||| y : Nat) : Int) := by
  show (((BitVec.ofInt 64 x ||| BitVec.ofInt 64 y : BitVec 64).toNat : Nat) : Int) = _
  rw [BitVec.ofInt_natCast, BitVec.ofInt_natCast, BitVec.toNat_or, BitVec.toNat_ofNat, BitVec.toNat_ofNat, Nat.mod_eq_of_lt (by omega), Nat.mod_eq_of_lt (by omega)]
theorem bAnd_u64 {x y : Nat} (hx : x < 18446744073709551616) (hy : y < 18446744073709551616) : bAnd .u64 x y = ((x &&& y : Nat) : Int) := by
  show (((BitVec.ofInt 64 x &&& BitVec.ofInt 64 y : BitVec 64).toNat : Nat) : Int) = _
  rw [BitVec.ofInt_natCast, BitVec.ofInt_natCast, BitVec.toNat_and, BitVec.toNat_ofNat, BitVec.toNat_ofNat, Nat.mod_eq_of_lt (by omega), Nat.mod_eq_of_lt (by omega)]
theorem bAnd_u32 {x y : Nat} (hx : x < 4294967296) (hy : y < 4294967296) : bAnd .u32 x y = ((x &&& y : Nat) : Int) := by
  show (((BitVec.ofInt 32 x &&& BitVec.ofInt 32 y : BitVec 32).toNat : Nat) : Int) = _
  rw [BitVec.ofInt_natCast, BitVec.ofInt_natCast, BitVec.toNat_and, BitVec.toNat_ofNat, BitVec.toNat_ofNat, Nat.mod_eq_of_lt (by omega), Nat.mod_eq_of_lt (by omega)]


@[simp] theorem cast_inj (m n : Nat) : ((m : Int) = (n : Int)) ↔ m = n := Int.ofNat_inj
@[simp] theorem fdiv_nat (x n : Nat) : (x : Int).fdiv (n : Int) = ((x / n : Nat) : Int) := by rw [Int.fdiv_eq_ediv_of_nonneg _ (by omega)]; rfl
@[simp] theorem fdiv_lit (x n : Nat) : (x : Int).fdiv (no_index (OfNat.ofNat n)) = ((x / OfNat.ofNat n : Nat) : Int) := fdiv_nat x n

section
variable (k n : Nat)
@[simp] theorem lit_lt_cast : ((no_index (@OfNat.ofNat Int k instOfNat)) < (n : Int)) ↔ (OfNat.ofNat k : Nat) < n := by show ((k : Nat) : Int) < n ↔ k < n; omega
@[simp] theorem cast_lt_lit : ((n : Int) < (no_index (@OfNat.ofNat Int k instOfNat))) ↔ n < (OfNat.ofNat k : Nat) := by show (n : Int) < ((k : Nat) : Int) ↔ n < k; omega
@[simp] theorem lit_le_cast : ((no_index (@OfNat.ofNat Int k instOfNat)) ≤ (n : Int)) ↔ (OfNat.ofNat k : Nat) ≤ n := by show ((k : Nat) : Int) ≤ n ↔ k ≤ n; omega
@[simp] theorem cast_le_lit : ((n : Int) ≤ (no_index (@OfNat.ofNat Int k instOfNat))) ↔ n ≤ (OfNat.ofNat k : Nat) := by show (n : Int) ≤ ((k : Nat) : Int) ↔ n ≤ k; omega
@[simp] theorem cast_eq_lit : ((n : Int) = (no_index (@OfNat.ofNat Int k instOfNat))) ↔ n = (OfNat.ofNat k : Nat) := by show (n : Int) = ((k : Nat) : Int) ↔ n = k; omega
@[simp] theorem lit_eq_cast : ((no_index (@OfNat.ofNat Int k instOfNat)) = (n : Int)) ↔ (OfNat.ofNat k : Nat) = n := by show ((k : Nat) : Int) = n ↔ k = n; omega
@[simp] theorem tmod_lit : (n : Int).tmod (no_index (@OfNat.ofNat Int k instOfNat)) = (n : Int) % (@OfNat.ofNat Int k instOfNat) := Int.tmod_eq_emod_of_nonneg (by omega)
@[simp] theorem emod_lit_neg : ((n : Int) % (no_index (@OfNat.ofNat Int k instOfNat)) < 0) ↔ False := by
  show ((n : Int) % ((k : Nat) : Int) < 0) ↔ False
  rw [← Int.natCast_emod]; exact ⟨fun h => absurd h (Int.not_lt.2 (Int.natCast_nonneg _)), False.elim⟩
@[simp] theorem emod_lit_toNat : ((n : Int) % (no_index (@OfNat.ofNat Int k instOfNat))).toNat = n % OfNat.ofNat k := by
  show ((n : Int) % ((k : Nat) : Int)).toNat = n % k
  rw [← Int.natCast_emod]; exact Int.toNat_natCast _
end

attribute [simp] Pu.v Pu.any Pu.nan Pu.pl Pu.pp

theorem pu_tup {cs : List AV} (h : ∀ x ∈ cs, Pu x) : Pu (.tup cs) := .tup _ fun j hj => h _ (List.getElem_mem hj)
theorem pu_agg {cs : List AV} (h : ∀ x ∈ cs, Pu x) : Pu (.agg cs) := .agg _ fun j hj => h _ (List.getElem_mem hj)

theorem acall_by {P : Program} {g : FuncId} {args : List AV} {Post : AV → Prop} {σ : AHeap} {K : AV → AHeap → Prop} (h : Ctr P g args Post) (hp : ∀ x ∈ args, Pu x) (hK : ∀ r, Post r → K r σ) : ACall P g args σ K :=
  acall_ctr h (fun j hj => hp _ (List.getElem_mem hj)) hK

/-- A body, entered. -/
theorem acall_in {P : Program} {g : FuncId} {fn : Func} {c : Code} (hf : P.funcs[g]? = some fn) (hb : fn.body = some c) (hname : (fn.name == "runtime.NumGoroutine") = false) {args : List AV} {σ : AHeap} {K : AV → AHeap → Prop} (hl : Nat.ble args.length fn.ntmps = true)
    (h : awp P σ.length true c (fun e s' => (e = .normal ∨ e = .ret) ∧ aRes P s'.t s'.σ fn.results.toList fun l => K (resV l) s'.σ) ⟨lst fn.ntmps (argT 0 args), σ⟩) : ACall P g args σ K :=
  acall_body hf hb hname (by rw [enter_lst args _ (Nat.le_of_ble_eq_true hl)]; exact h)
theorem ctr_in {P : Program} {g : FuncId} {fn : Func} {c : Code} (hf : P.funcs[g]? = some fn) (hb : fn.body = some c) (hname : (fn.name == "runtime.NumGoroutine") = false) {args : List AV} {Post : AV → Prop} (hl : Nat.ble args.length fn.ntmps = true)
    (h : ∀ K : AV → AHeap → Prop, (∀ r σ' r', Pur σ' (fun _ => True) r r' → Post r' → K r σ') → awp P 0 true c (fun e s' => (e = .normal ∨ e = .ret) ∧ aRes P s'.t s'.σ fn.results.toList fun l => K (resV l) s'.σ) ⟨lst fn.ntmps (argT 0 args), []⟩) : Ctr P g args Post :=
  ctr_of (acall_in hf hb hname hl (h (fun r σ' => ∃ r', Pur σ' (fun _ => True) r r' ∧ Post r') fun r σ' r' h1 h2 => ⟨r', h1, h2⟩))

/-! ### Regions that draw -/
def clsOf (o : Oper) : Nat := match o.op with
  | .load _ _ | .field _ _ _ | .index _ _ _ => 1
  | .indexAddr _ _ _ | .fieldAddr _ _ _ | .nilCheck _ | .slice _ _ _ _ _ => 1
  | .store _ _ _ => 4
  | .call c => match c.callee with
    | .builtin .len => 1
    | .builtin .cap => 1
    | .builtin .max => 0
    | .builtin .min => 0
    | _ => 3
  | .alloc _ | .box _ _ | .buildSlice _ _ _ | .makeSlice _ _ _ => 3
  | _ => 0

def wg (b : Bool) (P : Program) (n N0 : Nat) (ops : Array Oper) (l : List Oper) (cs : List Nat) (K : List AV → AHeap → Prop) (T : Tm) (σ : AHeap) : Prop := gops P N0 ops l cs K (lst n T) σ
@[congr] theorem wg_cong {b b' : Bool} {P : Program} {n N0 : Nat} {ops : Array Oper} {l : List Oper} {cs : List Nat} {K : List AV → AHeap → Prop} {T T' : Tm} {σ σ' : AHeap} (h : Nop b = b') (hT : T = T') (hσ : σ = σ') :
    wg b P n N0 ops l cs K T σ = wg b' P n N0 ops l cs K T' σ' := by subst hT; subst hσ; rfl
@[simp] theorem wg_nil (b : Bool) (P : Program) (n N0 : Nat) (ops : Array Oper) (cs : List Nat) (K : List AV → AHeap → Prop) (T : Tm) (σ : AHeap) : wg b P n N0 ops [] cs K T σ = K (lst n T) σ := (rfl)
@[simp] theorem wg_cons (b : Bool) (P : Program) (n N0 : Nat) (ops : Array Oper) (o : Oper) (l : List Oper) (c : Nat) (cs : List Nat) (K : List AV → AHeap → Prop) (T : Tm) (σ : AHeap) :
    wg b P n N0 ops (o :: l) (c :: cs) K T σ = guardA ops (lst n T) o (gop P N0 c o.op (lst n T) σ (LkC true fun r σ' => wg true P n N0 ops l cs K (putT T o.dst r) σ')) (wg true P n N0 ops l cs K (putT T o.dst .any) σ) := by
  show guardA ops (lst n T) o (gop P N0 c o.op (lst n T) σ fun r σ' => gops P N0 ops l cs K (put (lst n T) o.dst r) σ') (gops P N0 ops l cs K (put (lst n T) o.dst .any) σ) = _
  simp only [put_lst]; rfl
section
variable {P : Program} {N0 : Nat} {op : Op} {t : List AV} {σ : AHeap} {S : AV → AHeap → Prop}
@[simp ↓] theorem gop_0 : gop P N0 0 op t σ S = lop P op t σ (fun r => S r σ) := (rfl)
theorem gop_1 : gop P N0 1 op t σ S = ((∀ x ∈ op.operands.toList, scA N0 (ev t x)) ∧ aop P op t σ (LkC true fun r _ => S r σ)) := (rfl)
@[simp ↓] theorem gop_3 : gop P N0 3 op t σ S = aop P op t σ (LkC true fun r σ' => Same N0 σ σ' ∧ S r σ') := (rfl)
@[simp ↓] theorem gop_4 : gop P N0 4 op t σ S = aop P op t σ S := (rfl)
@[simp ↓] theorem lop_bs {e : TypeId} {n : Nat} {ps : Array (Nat × Operand)} {T : AV → Prop} : lop P (.buildSlice e n ps) t σ T = aBS P e n (ps.toList.map fun p => (p.1, ev t p.2)) T := (rfl)
@[simp ↓] theorem lop_move {x : Operand} {T : AV → Prop} : lop P (.move x) t σ T = T (ev t x) := (rfl)
@[simp ↓] theorem lop_assign {x : Operand} {T : AV → Prop} : lop P (.assign x) t σ T = T (ev t x) := (rfl)
@[simp ↓] theorem lop_pick {x y z : Operand} {T : AV → Prop} : lop P (.pick x y z) t σ T = aop P (.pick x y z) t σ (LkC true fun r _ => T r) := (rfl)
@[simp ↓] theorem lop_bin {o : BinOp} {e e' : TypeId} {x y : Operand} {T : AV → Prop} : lop P (.binOp o e x y e') t σ T = aop P (.binOp o e x y e') t σ (LkC true fun r _ => T r) := (rfl)
@[simp ↓] theorem lop_un {o : UnOp} {e : TypeId} {x : Operand} {T : AV → Prop} : lop P (.unOp o e x) t σ T = aop P (.unOp o e x) t σ (LkC true fun r _ => T r) := (rfl)
@[simp ↓] theorem lop_conv {e e' : TypeId} {x : Operand} {T : AV → Prop} : lop P (.convert e e' x) t σ T = aop P (.convert e e' x) t σ (LkC true fun r _ => T r) := (rfl)
@[simp ↓] theorem lop_extract {j : Nat} {x : Operand} {T : AV → Prop} : lop P (.extract x j) t σ T = aop P (.extract x j) t σ (LkC true fun r _ => T r) := (rfl)
@[simp ↓] theorem lop_build {e : TypeId} {ps : Array (Nat × Operand)} {T : AV → Prop} : lop P (.build e ps) t σ T = aop P (.build e ps) t σ (LkC true fun r _ => T r) := (rfl)
@[simp ↓] theorem lop_call {c : Call} {T : AV → Prop} : lop P (.call c) t σ T = aop P (.call c) t σ (LkC true fun r _ => T r) := (rfl)
@[simp ↓] theorem lop_field {e : TypeId} {j : Nat} {x : Operand} {T : AV → Prop} : lop P (.field e x j) t σ T = aop P (.field e x j) t σ (LkC true fun r _ => T r) := (rfl)
@[simp ↓] theorem lop_index {e : TypeId} {x y : Operand} {T : AV → Prop} : lop P (.index e x y) t σ T = aop P (.index e x y) t σ (LkC true fun r _ => T r) := (rfl)
@[simp ↓] theorem lop_mkif {e : TypeId} {x : Operand} {T : AV → Prop} : lop P (.makeInterface e x) t σ T = aop P (.makeInterface e x) t σ (LkC true fun r _ => T r) := (rfl)
end
attribute [simp ↓] aBS
@[simp] theorem scA_v (n : Nat) (x : Value) : scA n (.v x) = True := (rfl)
@[simp] theorem scA_pl (n : Nat) (nl : Bool) (cs : List AV) (k : Nat) (c : Option Nat) : scA n (.pl nl cs k c) = True := (rfl)
@[simp] theorem scA_pp (n : Nat) (cs : List AV) (o : Nat) : scA n (.pp cs o) = True := (rfl)
@[simp] theorem scA_po (n i v o : Nat) : scA n (.po i v o) = (i < n) := (rfl)
@[simp] theorem scA_so (n i v o k z : Nat) (c : Option Nat) : scA n (.so i v o k z c) = (i < n) := (rfl)
@[simp] theorem scA_agg (n : Nat) (cs : List AV) : scA n (.agg cs) = True := (rfl)
@[simp] theorem scA_tup (n : Nat) (cs : List AV) : scA n (.tup cs) = True := (rfl)

theorem draw_on {P : Program} {n0 : Nat} {top : Bool} {n id : Nat} {l : List Oper} {Q : Exit → AState → Prop} {T : Tm} {σ : AHeap} (cs : List Nat) (hP : P.follows .mixedOrders = true) (hd : okDraw cs (List.toArray l) = true)
    (h : wg true P n σ.length (List.toArray l) l cs (LkT true fun t σ' => Q .normal ⟨t, σ'⟩) T σ) : AW P n0 top (.region id (List.toArray l) true) Q ⟨lst n T, σ⟩ := draw_rule cs hP hd h

@[simp] theorem same_self {N : Nat} {σ : AHeap} : Same N σ σ ↔ N ≤ σ.length := ⟨fun h => h.lo, fun h => Same.refl h⟩
@[simp] theorem same_more {N : Nat} {σ more : AHeap} : Same N σ (σ ++ more) ↔ N ≤ σ.length :=
  ⟨fun h => h.lo, fun h => ⟨h, by simp; omega, fun i hi => List.getElem?_append_left (by omega)⟩⟩
end Go.Proofs.Va
