/- VA, part 19: a loop in a function that is ranged over; small things. -/
import Derived.Test.YtmfnjmcgmogncaaVa18
set_option linter.unusedVariables false
set_option linter.unusedSimpArgs false
namespace Go.Proofs.Va
open Go Go.RowKit

@[simp] theorem pur_v {σ : AHeap} {S : Nat → Prop} {x : Value} {y : AV} : Pur σ S (.v x) y ↔ y = .v x := by
  constructor
  · intro h; cases h; rfl
  · rintro rfl; exact .same _ (.v _)
@[simp] theorem pur_pl {σ : AHeap} {S : Nat → Prop} {nl : Bool} {cs : List AV} {n : Nat} {cap : Option Nat} {y : AV} : Pur σ S (.pl nl cs n cap) y ↔ y = .pl nl cs n cap := by
  constructor
  · intro h; cases h; rfl
  · rintro rfl; exact .same _ (.pl _ _ _ _)

section
variable {P : Program} {N0 : Nat} {t : List AV} {σ : AHeap} {S : AV → AHeap → Prop} {e : TypeId} {x y : Operand}
@[simp ↓] theorem gop_1_load : gop P N0 1 (.load e x) t σ S = (scA N0 (ev t x) ∧ aop P (.load e x) t σ (LkC true fun r _ => S r σ)) := by rw [gop_1]; simp [Op.operands]
@[simp ↓] theorem gop_1_ia : gop P N0 1 (.indexAddr e x y) t σ S = ((scA N0 (ev t x) ∧ scA N0 (ev t y)) ∧ aop P (.indexAddr e x y) t σ (LkC true fun r _ => S r σ)) := by rw [gop_1]; simp [Op.operands]
@[simp ↓] theorem gop_1_fa {j : Nat} : gop P N0 1 (.fieldAddr e x j) t σ S = (scA N0 (ev t x) ∧ aop P (.fieldAddr e x j) t σ (LkC true fun r _ => S r σ)) := by rw [gop_1]; simp [Op.operands]
@[simp ↓] theorem gop_1_f {j : Nat} : gop P N0 1 (.field e x j) t σ S = (scA N0 (ev t x) ∧ aop P (.field e x j) t σ (LkC true fun r _ => S r σ)) := by rw [gop_1]; simp [Op.operands]
@[simp ↓] theorem gop_1_ix : gop P N0 1 (.index e x y) t σ S = ((scA N0 (ev t x) ∧ scA N0 (ev t y)) ∧ aop P (.index e x y) t σ (LkC true fun r _ => S r σ)) := by rw [gop_1]; simp [Op.operands]
@[simp ↓] theorem gop_1_sl {lo : Operand} : gop P N0 1 (.slice e x (some lo) none none) t σ S = ((scA N0 (ev t x) ∧ scA N0 (ev t lo)) ∧ aop P (.slice e x (some lo) none none) t σ (LkC true fun r _ => S r σ)) := by rw [gop_1]; simp [Op.operands]
@[simp ↓] theorem gop_1_sh {lo : Operand} : gop P N0 1 (.slice e x none (some lo) none) t σ S = ((scA N0 (ev t x) ∧ scA N0 (ev t lo)) ∧ aop P (.slice e x none (some lo) none) t σ (LkC true fun r _ => S r σ)) := by rw [gop_1]; simp [Op.operands]
@[simp ↓] theorem gop_1_slh {lo hi : Operand} : gop P N0 1 (.slice e x (some lo) (some hi) none) t σ S = ((scA N0 (ev t x) ∧ scA N0 (ev t lo) ∧ scA N0 (ev t hi)) ∧ aop P (.slice e x (some lo) (some hi) none) t σ (LkC true fun r _ => S r σ)) := by rw [gop_1]; simp [Op.operands]
@[simp ↓] theorem gop_1_nil : gop P N0 1 (.nilCheck x) t σ S = (scA N0 (ev t x) ∧ aop P (.nilCheck x) t σ (LkC true fun r _ => S r σ)) := by rw [gop_1]; simp [Op.operands]
@[simp ↓] theorem gop_1_len {ts : Array TypeId} : gop P N0 1 (.call { callee := .builtin .len, args := #[x], argTypes := ts }) t σ S = (scA N0 (ev t x) ∧ aop P (.call { callee := .builtin .len, args := #[x], argTypes := ts }) t σ (LkC true fun r _ => S r σ)) := by rw [gop_1]; simp [Op.operands, Call.operands]
end
section
variable {P : Program} {l : Nat} {Y : List AV → AHeap → (AHeap → Prop) → (Exit → AHeap → Prop) → Prop} {X : Exit → AHeap → Prop} {Q : Exit → AState → Prop} {s : AState}

theorem TRel.wk {ρ : Nat → Nat × Nat} {σ : AHeap} {fz : Nat → Prop} {w : World} {t t' : List AV} {tmps : Array Value} (h : wkL t' t) (ht : TRel ρ σ fz w t tmps) : TRel ρ σ fz w t' tmps := by
  obtain ⟨h1, h2⟩ := wkL_at h
  refine ⟨by rw [ht.len, h1], fun i hi => ?_⟩
  obtain ⟨y, hy, hw⟩ := h2 i _ (List.getElem?_eq_getElem hi)
  obtain ⟨hlt, rfl⟩ := List.getElem?_eq_some_iff.1 hy
  exact (ht.at_ i hlt).wk hw

/-- A loop, from states S g. -/
theorem awi_loopS {γ : Type} (S : γ → AState) (Pre : γ → Prop) (μ : γ → Nat) {c : Code} (g0 : γ) (h0 : Pre g0) (hσ : (S g0).σ = s.σ) (ht : wkL (S g0).t s.t)
    (step : ∀ g, Pre g → AWI P l Y X c (thenA (fun s2 => ∃ g', Pre g' ∧ (S g').σ = s2.σ ∧ wkL (S g').t s2.t ∧ μ g' < μ g) Q) (S g)) : AWI P l Y X (.loop c) Q s := by
  intro F n w0 G Gx hF hG hGx hY ρ fz a w hh hr hd hg
  refine wpIn_loop_known (γ := γ) (I := fun g a' w' => Pre g ∧ a'.defers = [] ∧ ∃ ρ' fz', HRel w0 ρ' fz' (S g).σ w' ∧ TRel ρ' (S g).σ fz' w' (S g).t a'.tmps ∧ G ρ' (S g).σ fz' w') μ (g0 := g0) ⟨h0, hd, ρ, fz, by rw [hσ]; exact hh, by rw [hσ]; exact hr.wk ht, by rw [hσ]; exact hg⟩ ?_
  rintro g a1 w1 ⟨hp, hd1, ρ1, fz1, hh1, ht1, hg1⟩
  refine wpIn_mono (step g hp F n w0 G Gx hF hG hGx hY ρ1 fz1 a1 w1 hh1 ht1 hd1 hg1) ?_
  rintro e a' w' ⟨hd', ⟨s', ρ', fz', hQ, hh', ht', hg'⟩ | ⟨rfl, h1⟩⟩
  · cases e with
    | normal =>
      obtain ⟨g', hp', hσ', htt, hm⟩ := hQ
      exact ⟨g', ⟨hp', hd', ρ', fz', by rw [hσ']; exact hh', by rw [hσ']; exact ht'.wk htt, by rw [hσ']; exact hg'⟩, hm⟩
    | _ => exact ⟨hd', .inl ⟨s', ρ', fz', hQ, hh', ht', hg'⟩⟩
  · exact ⟨hd', .inr ⟨rfl, h1⟩⟩

theorem wkL_of : ∀ {l' l : List AV}, l'.length = l.length → (∀ (i : Nat) (x : AV), l'[i]? = some x → ∃ y, l[i]? = some y ∧ wk1 x y) → wkL l' l
  | [], [], _, _ => trivial
  | a :: l', b :: l, h1, h => by
    obtain ⟨y, hy, hw⟩ := h 0 a rfl
    cases hy
    exact ⟨hw, wkL_of (by simpa using h1) fun i x hx => by simpa using h (i + 1) x (by simpa using hx)⟩
theorem wkL_lst {n : Nat} {T T' : Tm} (h : ∀ p ∈ T', wk1 p.2 (look T p.1)) : wkL (lst n T') (lst n T) := by
  have hw := Wk.lst (n0 := 0) (n := n) (σ := []) h (Nat.zero_le _)
  exact wkL_of (by simp) hw.t

theorem awi_loop_on {γ : Type} (n : Nat) (Tg : γ → Tm) (Hg : γ → AHeap) (Pre : γ → Prop) (μ : γ → Nat) {c : Code} {T : Tm} {σ : AHeap} (g0 : γ) (h0 : Pre g0) (hσ : Hg g0 = σ) (ht : ∀ p ∈ Tg g0, wk1 p.2 (look T p.1))
    (step : ∀ g, Pre g → ∀ K : AState → Prop, (∀ g' T' σ', Pre g' → Hg g' = σ' → (∀ p ∈ Tg g', wk1 p.2 (look T' p.1)) → μ g' < μ g → K ⟨lst n T', σ'⟩) → AWI P l Y X c (thenA K Q) ⟨lst n (Tg g), Hg g⟩) : AWI P l Y X (.loop c) Q ⟨lst n T, σ⟩ :=
  awi_loopS (fun g => ⟨lst n (Tg g), Hg g⟩) Pre μ g0 h0 hσ (wkL_lst ht) fun g hp => step g hp _ fun g' T' σ' h1 h2 h3 h4 => ⟨g', h1, h2, wkL_lst h3, h4⟩

theorem awi_reg {n id : Nat} {l' : List Oper} {T : Tm} {σ : AHeap} (h : wops true P n (List.toArray l') l' (LkS true (Q .normal)) T σ) : AWI P l Y X (.region id (List.toArray l') false) Q ⟨lst n T, σ⟩ := awi_region h

@[simp ↓] theorem wops_take (b : Bool) (P : Program) (n : Nat) (ops : Array Oper) (k : Nat) (o : Oper) (l : List Oper) (Q : AState → Prop) (T : Tm) (σ : AHeap) : wops b P n ops (List.take (k + 1) (o :: l)) Q T σ = wops b P n ops (o :: List.take k l) Q T σ := (rfl)
@[simp ↓] theorem wops_take0 (b : Bool) (P : Program) (n : Nat) (ops : Array Oper) (l : List Oper) (Q : AState → Prop) (T : Tm) (σ : AHeap) : wops b P n ops (List.take 0 l) Q T σ = Q ⟨lst n T, σ⟩ := (rfl)

/-- One round is asked for, behind k operations. -/
theorem awi_yield_at (k : Nat) {n id : Nat} {lo : List Oper} {T : Tm} {σ : AHeap} {y nt : Oper} {c : Call} {f : Operand} {dy dn : Tmp} {ty : TypeId} (hops : lo.drop k = [y, nt]) (hy : y.op = .call c) (hc : c.callee = .value f) (hyd : y.dst = some dy) (hyg : y.guard = none)
    (hn : nt.op = .unOp .not ty (.tmp dy)) (hnd : nt.dst = some dn) (hng : nt.guard = none)
    (h : wops true P n (List.toArray lo) (lo.take k) (LkS true fun s1 => dy < s1.t.length ∧ dn < s1.t.length ∧ ev s1.t f = .fn (.yield l) [] [] ∧ Y (c.args.toList.map (ev s1.t)) s1.σ (fun σ' => Q .normal ⟨put (put s1.t (some dy) (.v (.bool true))) (some dn) (.v (.bool false)), σ'⟩) X) T σ) :
    AWI P l Y X (.seq (.region id (List.toArray lo) false) (.cond (.tmp dn) .ret .skip)) Q ⟨lst n T, σ⟩ :=
  awi_yield (pre := lo.take k) (by show lo = _; rw [← hops, List.take_append_drop]) hy hc hyd hyg hn hnd hng h
end

theorem aiter_in {P : Program} {g : FuncId} {fn : Func} {c : Code} {lb : List AV} {σ : AHeap} {Y : List AV → AHeap → (AHeap → Prop) → (Exit → AHeap → Prop) → Prop} {D : AHeap → Prop} {X : Exit → AHeap → Prop} (hf : P.funcs[g]? = some fn) (hb : fn.body = some c) (hres : fn.results = #[])
    (hl : Nat.ble (lb.length + 1) fn.ntmps = true) (h : ∀ l, AWI P l Y X c (fun e s' => (e = .normal ∨ e = .ret) ∧ D s'.σ) ⟨lst fn.ntmps (argT 0 (.fn (.yield l) [] [] :: lb)), σ⟩) : AIter P g lb σ Y D X :=
  aiter_body hf hb hres fun l => by
    have := enter_lst ([.fn (.yield l) [] []] ++ lb) fn.ntmps (by have := Nat.le_of_ble_eq_true hl; simpa using this)
    rw [this]; exact h l

/-- The answer is x. -/
theorem ctr_val {P : Program} {g : FuncId} {fn : Func} {c : Code} (hf : P.funcs[g]? = some fn) (hb : fn.body = some c) (hname : (fn.name == "runtime.NumGoroutine") = false) {args : List AV} {x : AV} (hl : Nat.ble args.length fn.ntmps = true) (hx : Pu x)
    (h : ∀ K : AV → AHeap → Prop, (∀ σ', K x σ') → awp P 0 true c (fun e s' => (e = .normal ∨ e = .ret) ∧ aRes P s'.t s'.σ fn.results.toList fun l => K (resV l) s'.σ) ⟨lst fn.ntmps (argT 0 args), []⟩) : Ctr P g args (fun r => r = x) :=
  ctr_in hf hb hname hl fun K hK => h K fun σ' => hK _ _ _ (.same x hx) rfl

/-- What is asked of a round. -/
def bodyW (P : Program) (n : Nat) (ps : Array Tmp) (assign body : Code) (T : Tm) (args : List AV) (σ : AHeap) (Kt : AHeap → Prop) (Kf : Exit → AHeap → Prop) : Prop :=
  args.length = ps.size ∧ awp P σ.length false assign (LkE true fun e s1 => e = .normal ∧ awp P σ.length false body (LkE true fun e s2 => (e = .normal ∧ Kt s2.σ) ∨ ((jumps e).isSome = true ∧ Kf e s2.σ)) s1) ⟨lst n (setT T ps.toList args), σ⟩
theorem range_on {P : Program} {n0 n : Nat} {g : Operand} {ps : Array Tmp} {assign body c : Code} {gf : FuncId} {fn : Func} {lb : List AV} {Q : Exit → AState → Prop} {T : Tm} {σ : AHeap} (hg : ev (lst n T) g = .fn (.func gf) [] lb) (hf : P.funcs[gf]? = some fn) (hb : fn.body = some c) (hname : (fn.name == "runtime.NumGoroutine") = false)
    (hit : AIter P gf lb σ (bodyW P n ps assign body T) (fun σ' => Q .normal ⟨lst n T, σ'⟩) (fun x σ' => Q x ⟨lst n T, σ'⟩)) : AW P n0 true (.rangeFunc g ps assign body) Q ⟨lst n T, σ⟩ := by
  refine range_rule hg hf hb hname ?_
  have e : bodyY P ps assign body (lst n T) = bodyW P n ps assign body T := by
    funext args σ' Kt Kf
    unfold bodyY bodyW
    rw [setPs_lst]; rfl
  show AIter P gf lb σ (bodyY P ps assign body (lst n T)) _ _
  rw [e]; exact hit

@[simp] theorem wk1_any (y : AV) : wk1 .any y := trivial
attribute [simp] wk1_refl
@[simp] theorem wk1_v {a b : Value} : wk1 (.v a) (.v b) ↔ a = b := by simp [wk1]
@[simp] theorem wk1_po {i v o i' v' o' : Nat} : wk1 (.po i v o) (.po i' v' o') ↔ i = i' ∧ v = v' ∧ o = o' := by simp [wk1]
@[simp] theorem wk1_so {i v o n z i' v' o' n' z' : Nat} {c : Option Nat} : wk1 (.so i v o n z none) (.so i' v' o' n' z' c) ↔ i = i' ∧ v = v' ∧ o = o' ∧ n = n' ∧ z = z' := by simp [wk1]
@[simp] theorem wk1_pl {nl nl' : Bool} {cs cs' : List AV} {n n' : Nat} {c : Option Nat} : wk1 (.pl nl cs n none) (.pl nl' cs' n' c) ↔ nl = nl' ∧ cs = cs' ∧ n = n' := by simp [wk1]
attribute [simp] wkL
end Go.Proofs.Va
