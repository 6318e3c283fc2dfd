import Derived.Test.YtnhhlamecljhhaaGreatWa
import Derived.Test.YtnhhlamecljhhaaGreatWb
import Derived.Test.YtnhhlamecljhhaaGreatWc
import Derived.Test.YtnhhlamecljhhaaGreatWd
import Derived.Test.YtnhhlamecljhhaaGreatWe
import Derived.Test.YtnhhlamecljhhaaGreatWf
import Derived.Test.YtnhhlamecljhhaaGreatWg
import Derived.Test.YtnhhlamecljhhaaGreatWh
/- Near: Normal. -/
set_option linter.unusedVariables false
set_option maxRecDepth 20000
set_option linter.unusedSimpArgs false
set_option linter.unnecessarySimpa false
namespace Go.Proofs.Nt
open Go Go.Proofs Go.Proofs.Va Go.RowKit

theorem reps_dcs : ∀ n : Nat, reps n [AV.v (.bool false), .pl true [] 0 (some 0), .v (.int .i64 0)] = dcs (List.replicate n zDV)
  | 0 => rfl
  | n + 1 => by
    show [AV.v (.bool false), .pl true [] 0 (some 0), .v (.int .i64 0)] ++ reps n _ = DV.cs zDV ++ dcs (List.replicate n zDV)
    rw [reps_dcs n]; rfl

theorem flat_dcs (n : Nat) : (List.replicate n [AV.v (.bool false), .pl true [] 0 (some 0), .v (.int .i64 0)]).flatten = dcs (List.replicate n zDV) := reps_dcs n

end Go.Proofs.Nt
/- Gram lists, in plain Lean. -/
set_option linter.unusedVariables false
set_option maxRecDepth 20000
set_option linter.unusedSimpArgs false
namespace Go.Proofs.Nt
open Go Go.Proofs

/-- The first rows of products. -/
def prodRows (l : List Dy) : Nat → List Dy
  | 0 => []
  | p + 1 => prodRows l p ++ (l.drop p).map (mulD (l.getD p zeroD))
def rowG (x : List Nat) (y : Nat) : List Dy := prodRows ((x ++ [y]).map fromD) (x.length + 1)
def rowQ (x : List Nat) (y : Nat) : Bool := decide (1 ≤ x.length) && decide (x.length ≤ 6) && (x ++ [y]).all fin

def addL (a b : List Dy) : List Dy := List.zipWith addD a b
def subL (a b : List Dy) : List Dy := List.zipWith (fun x y => addD x (oppD y)) a b

/-- Dyads that may be, of few digits. -/
def Okl (L H : Int) (l : List Dy) : Prop := ∀ d ∈ l, dOK d ∧ Bd L H d
theorem okl_prod {l : List Dy} (h : Okl (-1074) 1024 l) : ∀ p, Okl (-2148) 2048 (prodRows l p)
  | 0 => by intro d hd; cases hd
  | p + 1 => by
    intro d hd
    unfold prodRows at hd
    rcases List.mem_append.1 hd with hd | hd
    · exact okl_prod h p d hd
    · obtain ⟨e, he, rfl⟩ := List.mem_map.1 hd
      have h1 := h e (List.mem_of_mem_drop he)
      refine ⟨ok_mul _ _, ?_⟩
      by_cases hp : p < l.length
      · have hg : l.getD p zeroD = l[p] := by simp [hp]
        rw [hg]
        exact bd_mul (h _ (List.getElem_mem hp)).2 h1.2
      · have hg : l.getD p zeroD = zeroD := by simp [hp]
        rw [hg]
        exact bd_mul (bd_zero (-1074) 1024) h1.2
theorem okl_from (l : List Nat) : Okl (-1074) 1024 (l.map fromD) := by
  intro d hd
  obtain ⟨b, _, rfl⟩ := List.mem_map.1 hd
  exact ⟨ok_from b, from_bd b⟩
theorem okl_row (x : List Nat) (y : Nat) : Okl (-2148) 2048 (rowG x y) := okl_prod (okl_from _) _
theorem prod_len (l : List Dy) : ∀ p, (prodRows l p).length = (List.range p).foldl (fun s q => s + (l.length - q)) 0
  | 0 => rfl
  | p + 1 => by
    unfold prodRows
    rw [List.length_append, prod_len l p, List.length_map, List.length_drop, List.range_succ, List.foldl_append]
    rfl
theorem row_len {x : List Nat} {y : Nat} (h : x.length ≤ 6) : (rowG x y).length = (x.length + 1) * (x.length + 2) / 2 := by
  unfold rowG
  rw [prod_len]
  have hl : ((x ++ [y]).map fromD).length = x.length + 1 := by simp
  rw [hl]
  generalize x.length = n at *
  have : ∀ n : Fin 7, (List.range (n.1 + 1)).foldl (fun s q => s + (n.1 + 1 - q)) 0 = (n.1 + 1) * (n.1 + 2) / 2 := by decide
  exact this ⟨n, by omega⟩

theorem addL_len {a b : List Dy} (h : a.length = b.length) : (addL a b).length = a.length := by simp [addL]; omega
theorem addL_get {a b : List Dy} {q : Nat} (ha : q < a.length) (hb : q < b.length) : (addL a b).getD q zeroD = addD (a.getD q zeroD) (b.getD q zeroD) := by
  simp [addL, List.getElem?_zipWith, ha, hb]
theorem okl_add {L H : Int} {a b : List Dy} (ha : Okl L H a) (hb : Okl L H b) (hL : L ≤ 0) : Okl L (H + 1) (addL a b) := by
  intro d hd
  unfold addL at hd
  obtain ⟨q, hq, rfl⟩ := List.getElem_of_mem hd
  rw [List.getElem_zipWith]
  simp at hq
  have h1 := ha _ (List.getElem_mem (show q < a.length by omega))
  have h2 := hb _ (List.getElem_mem (show q < b.length by omega))
  exact ⟨ok_add _ _, bd_add h1.1 h2.1 h1.2 h2.2 hL⟩

/-! ### Squares -/
def sab : List (Int × Int) → Int
  | [] => 0
  | (a, b) :: l => a * b + sab l
end Go.Proofs.Nt
/- Sums of Gram lists, in plain Lean. -/
set_option linter.unusedVariables false
set_option maxRecDepth 20000
set_option linter.unusedSimpArgs false
namespace Go.Proofs.Nt
open Go Go.Proofs

def sumL (init : List Dy) (gs : List (List Dy)) : List Dy := gs.foldl addL init
def sumI (M : Int) (q : Nat) : List (List Dy) → Int
  | [] => 0
  | g :: gs => iv (g.getD q zeroD) M + sumI M q gs
/-- Lists of one length, whose dyads are of few digits. -/
def Same_ (k : Nat) (gs : List (List Dy)) : Prop := ∀ g ∈ gs, g.length = k ∧ Okl (-2148) 2048 g
theorem sumL_facts {k : Nat} : ∀ (gs : List (List Dy)) (init : List Dy) (H : Int), Same_ k gs → init.length = k → Okl (-2148) H init → 2048 ≤ H →
    (sumL init gs).length = k ∧ Okl (-2148) (H + gs.length) (sumL init gs)
  | [], init, H, _, hl, ho, _ => ⟨hl, by simpa [sumL] using ho⟩
  | g :: gs, init, H, hs, hl, ho, hH => by
    obtain ⟨g1, g2⟩ := hs g (by simp)
    have g3 : Okl (-2148) H g := fun d hd => ⟨(g2 d hd).1, (g2 d hd).2.mono (Int.le_refl _) hH⟩
    have h1 := okl_add ho g3 (by omega)
    obtain ⟨r1, r2⟩ := sumL_facts gs (addL init g) (H + 1) (fun x hx => hs x (by simp [hx])) (by rw [addL_len (by omega)]; exact hl) h1 (by omega)
    refine ⟨r1, fun d hd => ?_⟩
    obtain ⟨o, b⟩ := r2 d hd
    refine ⟨o, b.mono (Int.le_refl _) ?_⟩
    simp; omega
theorem getD_ok {L H : Int} {l : List Dy} (h : Okl L H l) (q : Nat) : dOK (l.getD q zeroD) ∧ Bd L H (l.getD q zeroD) := by
  by_cases hq : q < l.length
  · have : l.getD q zeroD = l[q] := by simp [hq]
    rw [this]; exact h _ (List.getElem_mem hq)
  · have : l.getD q zeroD = zeroD := by simp [hq]
    rw [this]; exact ⟨ok_zero, bd_zero _ _⟩
theorem sumL_iv {k : Nat} {M : Int} (hM : M ≤ -2148) : ∀ (gs : List (List Dy)) (init : List Dy) (H : Int), Same_ k gs → init.length = k → Okl (-2148) H init → 2048 ≤ H → H + gs.length < 20000 → ∀ q, q < k →
    iv ((sumL init gs).getD q zeroD) M = iv (init.getD q zeroD) M + sumI M q gs
  | [], init, H, _, hl, ho, _, _, q, hq => by show iv (init.getD q zeroD) M = _ + 0; omega
  | g :: gs, init, H, hs, hl, ho, hH, hH2, q, hq => by
    obtain ⟨g1, g2⟩ := hs g (by simp)
    have g3 : Okl (-2148) H g := fun d hd => ⟨(g2 d hd).1, (g2 d hd).2.mono (Int.le_refl _) hH⟩
    have h1 := okl_add ho g3 (by omega)
    have hlen : (g :: gs).length = gs.length + 1 := rfl
    rw [hlen] at hH2
    have ih := sumL_iv hM gs (addL init g) (H + 1) (fun x hx => hs x (by simp [hx])) (by rw [addL_len (by omega)]; exact hl) h1 (by omega) (by omega) q hq
    show iv ((sumL (addL init g) gs).getD q zeroD) M = _ + (iv (g.getD q zeroD) M + sumI M q gs)
    rw [ih, addL_get (by omega) (by omega)]
    obtain ⟨o1, b1⟩ := getD_ok ho q
    obtain ⟨o2, b2⟩ := getD_ok g3 q
    rw [iv_add o1 o2 b1 b2 (by omega) (by omega) (by omega) hM]
    omega

def zerosL (k : Nat) : List Dy := List.replicate k zeroD
theorem okl_zeros (k : Nat) (L H : Int) : Okl L H (zerosL k) := by
  intro d hd
  have := List.eq_of_mem_replicate hd
  subst this
  exact ⟨ok_zero, bd_zero _ _⟩
theorem zeros_get (k q : Nat) : (zerosL k).getD q zeroD = zeroD := by
  unfold zerosL
  rw [List.getD_eq_getElem?_getD, List.getElem?_replicate]
  split <;> rfl

section
variable {k : Nat} {gs : List (List Dy)} (hs : Same_ k gs) (hc : gs.length ≤ 1000)
include hs
theorem gsum_len : (sumL (zerosL k) gs).length = k := (sumL_facts gs (zerosL k) 2048 hs (by simp [zerosL]) (okl_zeros _ _ _) (by omega)).1
theorem sum_ok : Okl (-2148) (2048 + gs.length) (sumL (zerosL k) gs) := (sumL_facts gs (zerosL k) 2048 hs (by simp [zerosL]) (okl_zeros _ _ _) (by omega)).2
include hc
theorem sum_iv {M : Int} (hM : M ≤ -2148) {q : Nat} (hq : q < k) : iv ((sumL (zerosL k) gs).getD q zeroD) M = sumI M q gs := by
  rw [sumL_iv hM gs (zerosL k) 2048 hs (by simp [zerosL]) (okl_zeros _ _ _) (by omega) (by omega) q hq, zeros_get, iv_zero, Int.zero_add]
end
theorem okl_mono {L H L' H' : Int} {l : List Dy} (h : Okl L H l) (h1 : L' ≤ L) (h2 : H ≤ H') : Okl L' H' l := fun d hd => ⟨(h d hd).1, (h d hd).2.mono h1 h2⟩
end Go.Proofs.Nt
/- The places of products; squares of sums, in plain Lean. -/
set_option linter.unusedVariables false
set_option maxRecDepth 20000
set_option linter.unusedSimpArgs false
namespace Go.Proofs.Nt
open Go Go.Proofs

theorem prod_prefix (l : List Dy) (i : Nat) : ∀ m, i ≤ m → ∃ r, prodRows l m = prodRows l i ++ r
  | 0, h => by
    obtain rfl : i = 0 := by omega
    exact ⟨[], rfl⟩
  | m + 1, h => by
    by_cases hi : i = m + 1
    · subst hi; exact ⟨[], by simp⟩
    · obtain ⟨r, hr⟩ := prod_prefix l i m (by omega)
      refine ⟨r ++ (l.drop m).map (mulD (l.getD m zeroD)), ?_⟩
      rw [← List.append_assoc, ← hr]; rfl
theorem prod_row {l : List Dy} {n : Nat} (hl : l.length = n + 1) : ∀ i, i ≤ n + 1 → ((prodRows l i).length : Int) = rowI n i
  | 0, _ => rfl
  | i + 1, h => by
    have ih := prod_row hl i (by omega)
    unfold prodRows
    rw [List.length_append, List.length_map, List.length_drop]
    simp only [rowI]
    omega
theorem prod_get {l : List Dy} {n i j : Nat} (hl : l.length = n + 1) (hi : i ≤ j) (hj : j ≤ n) (hn : n ≤ 6) : (prodRows l (n + 1)).getD (atN n i j) zeroD = mulD (l.getD i zeroD) (l.getD j zeroD) := by
  obtain ⟨r, hr⟩ := prod_prefix l (i + 1) (n + 1) (by omega)
  have hrow := prod_row hl i (by omega)
  have hat : atN n i j = (prodRows l i).length + (j - i) := by
    have := (atN_lt hn hi hj).2
    unfold atI at this
    omega
  have hj' : l[j]? = some l[j] := List.getElem?_eq_getElem (by omega)
  have key : (prodRows l (n + 1))[atN n i j]? = some (mulD (l.getD i zeroD) (l.getD j zeroD)) := by
    rw [hr]
    show ((prodRows l i ++ (l.drop i).map (mulD (l.getD i zeroD))) ++ r)[atN n i j]? = _
    rw [List.append_assoc, hat, List.getElem?_append_right (by omega), show (prodRows l i).length + (j - i) - (prodRows l i).length = j - i by omega,
      List.getElem?_append_left (by rw [List.length_map, List.length_drop]; omega), List.getElem?_map, List.getElem?_drop, show i + (j - i) = j by omega, hj']
    have : l.getD j zeroD = l[j] := by rw [List.getD_eq_getElem?_getD, hj']; rfl
    rw [this]; rfl
  rw [List.getD_eq_getElem?_getD, key]; rfl

/-- Rows of so many entries. -/
def rowsOk (n : Nat) (rs : List (List Nat × Nat)) : Prop := ∀ r ∈ rs, r.1.length = n
def gramsOf (rs : List (List Nat × Nat)) : List (List Dy) := rs.map fun r => rowG r.1 r.2
def entR (r : List Nat × Nat) (i : Nat) : Dy := ((r.1 ++ [r.2]).map fromD).getD i zeroD
theorem entR_ok (r : List Nat × Nat) (i : Nat) : dOK (entR r i) ∧ Bd (-1074) 1024 (entR r i) := getD_ok (okl_from _) i
theorem grams_same {n : Nat} {rs : List (List Nat × Nat)} (h : rowsOk n rs) (hn : n ≤ 6) : Same_ (sizeN n) (gramsOf rs) := by
  intro g hg
  obtain ⟨r, hr, rfl⟩ := List.mem_map.1 hg
  have := h r hr
  refine ⟨?_, okl_row _ _⟩
  rw [row_len (by omega), this]; rfl
def pairsOf (i j : Nat) (rs : List (List Nat × Nat)) : List (Int × Int) := rs.map fun r => (iv (entR r i) (-20000), iv (entR r j) (-20000))
theorem ent_mul (r : List Nat × Nat) (i j : Nat) : iv (mulD (entR r i) (entR r j)) (-40000) = iv (entR r i) (-20000) * iv (entR r j) (-20000) := by
  obtain ⟨o1, b1⟩ := entR_ok r i
  obtain ⟨o2, b2⟩ := entR_ok r j
  have x1 := ok_exp o1.1
  have x2 := ok_exp o2.1
  rw [show (-40000 : Int) = -20000 + -20000 from rfl, iv_mul b1 b2 (by omega) (by omega) (by omega) (by omega)]
theorem sum_pairs {n i j : Nat} (hn : n ≤ 6) (hi : i ≤ j) (hj : j ≤ n) : ∀ {rs : List (List Nat × Nat)}, rowsOk n rs → sumI (-40000) (atN n i j) (gramsOf rs) = sab (pairsOf i j rs)
  | [], _ => rfl
  | r :: rs, h => by
    have h1 := h r (by simp)
    have ih := sum_pairs hn hi hj (rs := rs) (fun x hx => h x (by simp [hx]))
    show iv ((rowG r.1 r.2).getD (atN n i j) zeroD) (-40000) + sumI (-40000) (atN n i j) (gramsOf rs) = iv (entR r i) (-20000) * iv (entR r j) (-20000) + sab (pairsOf i j rs)
    rw [ih]
    congr 1
    unfold rowG
    have hl : ((r.1 ++ [r.2]).map fromD).length = n + 1 := by simp [h1]
    rw [h1, prod_get hl hi hj hn]
    exact ent_mul r i j
end Go.Proofs.Nt
/- Near: the document's Normal. -/
set_option linter.unusedVariables false
set_option maxRecDepth 20000
set_option linter.unusedSimpArgs false
set_option linter.unnecessarySimpa false
namespace Go.Proofs.Nt
open Go Go.Proofs Go.Proofs.Va Go.RowKit

end Go.Proofs.Nt
/- Lists of dyads that are small; the Gram list of a row, as the document has it. -/
set_option linter.unusedVariables false
set_option maxRecDepth 20000
set_option linter.unusedSimpArgs false
set_option linter.unnecessarySimpa false
namespace Go.Proofs.Nt
open Go Go.Proofs Go.Proofs.Va Go.RowKit

/-! ### The Gram list of a row -/
def rowP (x : List Nat) (y : Nat) (r : AV) : Prop :=
  if rowQ x y = true then ∃ us nl cap, us.map DV.d = rowG x y ∧ r = .tup [dsl nl us cap, bo true] else r = .tup [.pl true [] 0 (some 0), bo false]

@[simp] theorem fldR0 : fldT Tryz.prog 43 0 = some (22, 0) := by kernel_rfl
@[simp] theorem fldR1 : fldT Tryz.prog 43 1 = some (25, 1) := by kernel_rfl
@[simp] theorem aggFs : aggT Tryz.prog 22 = some false := by kernel_rfl
@[simp] theorem szFs : szT Tryz.prog 22 = some 1 := by kernel_rfl
@[simp] theorem zcR : zcT Tryz.prog 43 = some [.pl true [] 0 (some 0), .v (.float .f64 0)] := by kernel_rfl
@[simp] theorem aLen_fsl {nl : Bool} {l : List Nat} {cap : Option Nat} {σ : AHeap} {K : AV → AHeap → Prop} : aLen Tryz.prog 22 (fsl nl l cap) σ K = K (i l.length) σ := by
  unfold fsl; simp
@[simp] theorem aIA_fsl {nl : Bool} {l : List Nat} {cap : Option Nat} {k : IntKind} {j : Int} {σ : AHeap} {K : AV → AHeap → Prop} : aIndexAddr Tryz.prog 22 (fsl nl l cap) (.v (.int k j)) σ K = ((0 ≤ j ∧ j < l.length) ∧ j.toNat < l.length ∧ K (.pp (l.map fl) j.toNat) σ) := by
  unfold fsl; simp
@[simp] theorem pu_fslS {nl : Bool} {l : List Nat} {cap : Option Nat} : Pu (fsl nl l cap) := by simp [fsl]
theorem map_d_get {us : List DV} {L : List Dy} (h : us.map DV.d = L) (q : Nat) (hq : q < us.length) : (gv us q).d = L.getD q zeroD := by
  subst h
  rw [gv_at hq]; simp [hq]

end Go.Proofs.Nt
/- Near: the answers that the document gives. -/
set_option linter.unusedVariables false
set_option maxRecDepth 20000
set_option linter.unusedSimpArgs false
set_option linter.unnecessarySimpa false
namespace Go.Proofs.Nt
open Go Go.Proofs Go.Proofs.Va Go.RowKit

theorem pur_ds {σ : AHeap} {S : Nat → Prop} {j v n : Nat} {l : List DV} {cap : Option Nat} {k : BK} (hb : σ[j]? = some ⟨k, v, dcs l⟩) (hk : k ≠ .dead) (hn : n = l.length) (hS : S j) : Pur σ S (.so j v 0 n 3 cap) (dsl false l cap) := by
  subst hn
  refine .so j v 0 l.length 3 cap _ (dcs l) hb rfl hk hS ?_ (dcs_len l) fun q hq => ?_
  · show 0 + l.length * 3 ≤ (dcs l).length
    rw [dcs_len]; omega
  · rw [Nat.zero_add]
    exact getD_dcs l hq σ S

theorem m_of_d {x y : DV} (h : x.d = y.d) : x.m = y.m := by
  show mayD x.d.1 x.d.2.1 x.d.2.2 = mayD y.d.1 y.d.2.1 y.d.2.2
  rw [h]
theorem gv_m {us L : List DV} (h : us.map DV.d = L.map DV.d) (q : Nat) : (gv us q).m = (gv L q).m := by
  have hl : us.length = L.length := by have := congrArg List.length h; simpa using this
  by_cases hq : q < us.length
  · refine m_of_d ?_
    rw [map_d_get h q hq, ← map_d_get rfl q (by omega)]
  · have e1 : gv us q = zDV := by simp [gv, hq]
    have e2 : gv L q = zDV := by
      have : ¬ q < L.length := by omega
      simp [gv, this]
    rw [e1, e2]
section
variable {N N' I I' G G' : List DV} {c : Nat} {k : Int} (hN : ∀ q, (gv N q).m = (gv N' q).m) (hI : ∀ q, (gv I q).m = (gv I' q).m) (hG : ∀ q, (gv G q).m = (gv G' q).m)
include hI
theorem upE_congr (p : Nat) : upE I c p = upE I' c p := by unfold upE entV; rw [hI]
include hN
include hG
theorem far_congr (p q : Nat) : far N I G c k p q = far N' I' G' c k p q := by
  unfold far apart; rw [hN, hG, upE_congr hI, upE_congr hI]
end

def oneDV : List DV := [⟨false, true, [1], some 0, 2⟩, ⟨false, true, [3], some 0, 1⟩, ⟨false, true, [9], some 0, 0⟩]
def zerDV : List DV := List.replicate 3 zDV
@[simp] theorem plR : placesT Tryz.prog 43 = some [(0, 1), (1, 1)] := by kernel_rfl
theorem chk_val {N I G : List DV} {c k : Int} {r : AV} (hv : chkV N I G c k) (h : chkP N I G c k r) {r' : AV} (h' : firstP c.toNat (far N I G c.toNat k) r') : r = r' := by
  unfold chkP at h
  rw [if_pos hv] at h
  exact firstP_eq h h'
theorem pq_one {f : Nat → Nat → Bool} (h1 : f 0 0 = false) (h2 : f 0 1 = false) (h3 : f 1 1 = false) : ∀ p q, p ≤ q → q ≤ 1 → f p q = false := by
  intro p q h h'
  have : (p = 0 ∧ q = 0) ∨ (p = 0 ∧ q = 1) ∨ (p = 1 ∧ q = 1) := by omega
  rcases this with ⟨rfl, rfl⟩ | ⟨rfl, rfl⟩ | ⟨rfl, rfl⟩
  · exact h1
  · exact h2
  · exact h3

end Go.Proofs.Nt
/- Gram lists that are faded, in plain Lean. -/
set_option linter.unusedVariables false
set_option maxRecDepth 20000
set_option linter.unusedSimpArgs false
namespace Go.Proofs.Nt
open Go Go.Proofs

/-- Each entry, twice times the same. -/
def fadeL (a : List Dy) (p : Dy) : List Dy := a.map fun d => mulD (mulD d p) p
theorem fade_len (a : List Dy) (p : Dy) : (fadeL a p).length = a.length := by simp [fadeL]

def oneD : Dy := (false, [1], 0)
theorem iv_one : iv oneD 0 = 1 := by decide +kernel
theorem bd_one : Bd 0 1 oneD := .inr ⟨by decide, by decide +kernel⟩
theorem mul_one {L H : Int} {d : Dy} (o : dOK d) (h : Bd L H d) (hL : -20000 ≤ L) (hH : H ≤ 19000) : mulD d oneD = d := by
  have he := ok_exp o.1
  refine iv_inj (ok_mul _ _) o (M := -20000) (by omega) ?_
  have := iv_mul (M := -20000) (M' := 0) h bd_one (by omega) (by omega) (by omega) (by decide)
  rw [Int.add_zero] at this
  rw [this, iv_one, Int.mul_one]
/-- Rows that are there, each of so many entries. -/
def okRows (c : Int) (rs : List (List Nat × Nat)) : Bool := decide (1 ≤ c) && decide (c ≤ 6) && rs.all fun r => rowQ r.1 r.2 && decide ((r.1.length : Int) = c)
def rowsG (n : Nat) (rs : List (List Nat × Nat)) : List Dy := sumL (zerosL (sizeN n)) (gramsOf rs)
theorem okRows_nat {c : Int} {rs : List (List Nat × Nat)} (h : okRows c rs = true) : ∃ n : Nat, c = n ∧ 1 ≤ n ∧ n ≤ 6 ∧ rowsOk n rs := by
  unfold okRows at h
  rw [Bool.and_eq_true, Bool.and_eq_true, List.all_eq_true] at h
  obtain ⟨⟨h1, h2⟩, h3⟩ := h
  have h1 := of_decide_eq_true h1
  have h2 := of_decide_eq_true h2
  refine ⟨c.toNat, by omega, by omega, by omega, fun r hr => ?_⟩
  have := h3 r hr
  rw [Bool.and_eq_true] at this
  have := of_decide_eq_true this.2
  omega
end Go.Proofs.Nt
/- Triangles, in plain Lean. -/
set_option linter.unusedVariables false
set_option maxRecDepth 20000
set_option linter.unusedSimpArgs false
namespace Go.Proofs.Nt
open Go Go.Proofs

/-- Where a row begins. -/
def rowN (n i : Nat) : Nat := (rowI n i).toNat
theorem row_all : ∀ n i : Fin 8, n.1 ≤ 6 → i.1 ≤ n.1 + 1 → 0 ≤ rowI (n.1 : Nat) i.1 ∧ rowI (n.1 : Nat) i.1 ≤ sizeN n.1 ∧ (i.1 = n.1 + 1 → rowI (n.1 : Nat) i.1 = sizeN n.1) := by decide
theorem row_facts {n i : Nat} (hn : n ≤ 6) (hi : i ≤ n + 1) : ((rowN n i : Nat) : Int) = rowI n i ∧ rowN n i ≤ sizeN n ∧ (i = n + 1 → rowN n i = sizeN n) := by
  have h := row_all ⟨n, by omega⟩ ⟨i, by omega⟩ hn hi
  simp only at h
  unfold rowN
  refine ⟨by omega, by omega, fun e => ?_⟩
  have := h.2.2 e
  omega
theorem row_zero (n : Nat) : rowN n 0 = 0 := (rfl)
theorem row_succ {n i : Nat} (hn : n ≤ 6) (hi : i ≤ n) : rowN n (i + 1) = rowN n i + (n + 1 - i) := by
  have h1 := (row_facts hn (i := i) (by omega)).1
  have h2 := (row_facts hn (i := i + 1) (by omega)).1
  simp only [rowI] at h2
  omega
theorem at_row {n i j : Nat} (hn : n ≤ 6) (hi : i ≤ j) (hj : j ≤ n) : atN n i j = rowN n i + (j - i) := by
  have h1 := (row_facts hn (i := i) (by omega)).1
  have h2 := (atN_lt hn hi hj).2
  unfold atI at h2
  omega

/-- A row of what is stored; a line. -/
def triRow (t : List Nat) (n i : Nat) : List Nat := (t.drop (rowN n i)).take (n + 1 - i)
def lineOf (t : List Nat) (n i : Nat) : List Nat := List.replicate i 0 ++ triRow t n i
theorem triRow_get {t : List Nat} {n : Nat} (hn : n ≤ 6) {i j : Nat} (hi : i ≤ j) (hj : j ≤ n) : (triRow t n i).getD (j - i) 0 = t.getD (atN n i j) 0 := by
  rw [at_row hn hi hj]
  unfold triRow
  rw [List.getD_eq_getElem?_getD, List.getElem?_take_of_lt (by omega), List.getElem?_drop, List.getD_eq_getElem?_getD]
theorem line_get {t : List Nat} {n : Nat} (hn : n ≤ 6) {i j : Nat} (hi : i ≤ n) (hj : j ≤ n) : (lineOf t n i).getD j 0 = if j < i then 0 else t.getD (atN n i j) 0 := by
  unfold lineOf
  split
  · rename_i h
    rw [List.getD_eq_getElem?_getD, List.getElem?_append_left (by rw [List.length_replicate]; exact h), List.getElem?_replicate, if_pos h]; rfl
  · rename_i h
    rw [List.getD_eq_getElem?_getD, List.getElem?_append_right (by rw [List.length_replicate]; omega), List.length_replicate, ← List.getD_eq_getElem?_getD]
    exact triRow_get hn (by omega) hj
section
variable {t : List Nat} {n : Nat} (hn : n ≤ 6) (ht : t.length = sizeN n)
include hn ht
theorem triRow_len {i : Nat} (hi : i ≤ n) : (triRow t n i).length = n + 1 - i := by
  have h1 := row_succ hn hi
  have h2 := (row_facts hn (i := i + 1) (by omega)).2.1
  unfold triRow
  rw [List.length_take, List.length_drop]
  omega
theorem line_len {i : Nat} (hi : i ≤ n) : (lineOf t n i).length = n + 1 := by
  unfold lineOf
  rw [List.length_append, List.length_replicate, triRow_len hn ht hi]; omega
end

/-- Whether a float is no number, or too large for a triangle. -/
def largeB (x : Nat) : Bool := decide (6498694262295625728 < frg x)
/-- Whether a factor may be. -/
def triOk (c : Int) (t : List Nat) (rows turns : Int) : Bool :=
  decide ((1 ≤ c ∧ c ≤ 6) ∧ (t.length : Int) = sizeI c ∧ (0 ≤ rows ∧ rows ≤ 200) ∧ (0 ≤ turns ∧ turns ≤ 4096)) && t.all (fun x => !largeB x) && (List.range (c.toNat + 1)).all fun i => !fsg (t.getD (rowN c.toNat i) 0)
/-- A factor's lines, as rows. -/
def linesOf (t : List Nat) (n : Nat) : List (List Nat × Nat) := (List.range (n + 1)).map fun i => ((lineOf t n i).take n, (lineOf t n i).getD n 0)
theorem triOk_nat {c : Int} {t : List Nat} {rows turns : Int} (h : triOk c t rows turns = true) : ∃ n : Nat, c = n ∧ 1 ≤ n ∧ n ≤ 6 ∧ t.length = sizeN n ∧ (∀ x ∈ t, largeB x = false) ∧ ∀ i, i ≤ n → fsg (t.getD (rowN n i) 0) = false := by
  unfold triOk at h
  rw [Bool.and_eq_true, Bool.and_eq_true] at h
  obtain ⟨⟨h1, h2⟩, h3⟩ := h
  obtain ⟨hc, hl, _⟩ := of_decide_eq_true h1
  unfold sizeI at hl
  rw [if_pos hc] at hl
  refine ⟨c.toNat, by omega, by omega, by omega, by omega, fun x hx => ?_, fun i hi => ?_⟩
  · have := List.all_eq_true.1 h2 x hx
    simpa using this
  · have := List.all_eq_true.1 h3 i (by rw [List.mem_range]; omega)
    simpa using this
theorem line_eq {l : List Nat} {n : Nat} (h : l.length = n + 1) : l.take n ++ [l.getD n 0] = l := by
  have : l.getD n 0 = l[n] := by simp [h]
  rw [this, ← List.take_succ_eq_append_getElem, List.take_of_length_le (by omega)]
theorem lines_ok {n : Nat} {t : List Nat} (h1 : 1 ≤ n) (hn : n ≤ 6) (ht : t.length = sizeN n) (hl : ∀ x ∈ t, largeB x = false) : okRows n (linesOf t n) = true := by
  unfold okRows
  rw [Bool.and_eq_true, Bool.and_eq_true, List.all_eq_true]
  refine ⟨⟨decide_eq_true (by omega), decide_eq_true (by omega)⟩, fun r hr => ?_⟩
  obtain ⟨i, hi, rfl⟩ := List.mem_map.1 hr
  rw [List.mem_range] at hi
  have hll := line_len hn ht (i := i) (by omega)
  have e := line_eq hll
  have hlen : ((lineOf t n i).take n).length = n := by rw [List.length_take]; omega
  rw [Bool.and_eq_true]
  refine ⟨?_, decide_eq_true (by simp only; omega)⟩
  unfold rowQ
  simp only
  rw [e, hlen, decide_eq_true h1, decide_eq_true hn, Bool.true_and, Bool.true_and, List.all_eq_true]
  intro x hx
  unfold lineOf at hx
  rcases List.mem_append.1 hx with hx | hx
  · rw [List.eq_of_mem_replicate hx]; decide
  · have hx := List.mem_of_mem_drop (List.mem_of_mem_take hx)
    have := hl x hx
    unfold largeB at this
    have := of_decide_eq_false this
    unfold fin
    refine decide_eq_true ?_
    omega
theorem lines_gram {n i : Nat} {t : List Nat} (hn : n ≤ 6) (ht : t.length = sizeN n) (hi : i ≤ n) :
    prodRows ((lineOf t n i).map fromD) (n + 1) = rowG ((lineOf t n i).take n) ((lineOf t n i).getD n 0) := by
  have hll := line_len hn ht hi
  have hlen : ((lineOf t n i).take n).length = n := by rw [List.length_take]; omega
  unfold rowG
  rw [line_eq hll, hlen]
end Go.Proofs.Nt
/- Lists of rows. -/
set_option linter.unusedVariables false
set_option maxRecDepth 20000
set_option linter.unusedSimpArgs false
set_option linter.unnecessarySimpa false
namespace Go.Proofs.Nt
open Go Go.Proofs Go.Proofs.Va Go.RowKit

@[simp] theorem szR : szT Tryz.prog 43 = some 2 := by kernel_rfl
@[simp] theorem aggR : aggT Tryz.prog 43 = some true := by kernel_rfl
end Go.Proofs.Nt
/- Floats that are made without an error, in plain Lean. -/
set_option linter.unusedVariables false
set_option maxRecDepth 20000
set_option linter.unusedSimpArgs false
namespace Go.Proofs.Nt
open Go Go.Proofs

theorem word_false (r : Nat) : Ieee.double.word false r = r := (rfl)
theorem vr_at {q M : Nat} (h3 : 4503599627370496 ≤ M) (h4 : M < 9007199254740992) : vr (q * 4503599627370496 + M) = M * 2 ^ q := by
  have em : mg (q * 4503599627370496 + M) = M := by unfold mg; rw [if_neg (by omega)]; omega
  have ep : pl (q * 4503599627370496 + M) = q := by unfold pl; omega
  unfold vr
  rw [em, ep]
/-- Few digits, at a place that floats have: the float is the number. -/
theorem near_exact {m : Nat} {e : Int} (h0 : m ≠ 0) (hm : m < 9007199254740992) (he : -1074 ≤ e) (h : e + bl m ≤ 1024) :
    frg (nearW false m e) < 9218868437227405312 ∧ frg (nearW false m e) ≠ 0 ∧ vr (frg (nearW false m e)) = m * 2 ^ (e + 1074).toNat := by
  have h1 := Nat.log2_self_le h0
  have h2 := log2_lt m
  have hb : bl m = m.log2 + 1 := by unfold bl; rw [if_neg h0]
  have hl : m.log2 < 53 := (Nat.log2_lt h0).2 hm
  by_cases hc : (52 - m.log2 : Nat) ≤ (e + 1074).toNat
  · have h3 : 4503599627370496 ≤ m * 2 ^ (52 - m.log2) := by
      have := Nat.mul_le_mul_right (2 ^ (52 - m.log2)) h1
      rwa [← Nat.pow_add, show m.log2 + (52 - m.log2) = 52 by omega] at this
    have h4 : m * 2 ^ (52 - m.log2) < 9007199254740992 := by
      have := Nat.mul_lt_mul_of_pos_right h2 (Nat.two_pow_pos (52 - m.log2))
      rwa [← Nat.pow_add, show m.log2 + 1 + (52 - m.log2) = 53 by omega] at this
    obtain ⟨g, hg⟩ : ∃ g, g = 52 - m.log2 := ⟨_, rfl⟩
    rw [← hg] at h3 h4 hc
    obtain ⟨q, hq⟩ : ∃ q, q = (e + 1074).toNat - g := ⟨_, rfl⟩
    have hv : m * 2 ^ (e + 1074).toNat = m * 2 ^ g * 2 ^ q := by
      rw [Nat.mul_assoc, ← Nat.pow_add]; congr 2; omega
    have hq' : q ≤ 2045 := by omega
    rw [hv, ← nearW_scale false m g e, nearW_norm false h3 h4 (by omega), show (e - (g : Int) + 1074).toNat = q by omega]
    generalize m * 2 ^ g = M at *
    have hmin : min (q * 4503599627370496 + M) 9218868437227405312 = q * 4503599627370496 + M := Nat.min_eq_left (by omega)
    rw [hmin, word_false]
    clear hmin
    by_cases hlt : q * 4503599627370496 + M < 9218868437227405312
    · have hf : frg (q * 4503599627370496 + M) = q * 4503599627370496 + M := Nat.mod_eq_of_lt (by omega)
      rw [hf]
      refine ⟨hlt, by omega, ?_⟩
      exact vr_at h3 h4
    · exfalso
      clear hv h0 hm hb hl h1 h2
      omega
  · obtain ⟨g, hg⟩ : ∃ g, g = (e + 1074).toNat := ⟨_, rfl⟩
    have h4 : m * 2 ^ g < 4503599627370496 := by
      have h5 := Nat.mul_lt_mul_of_pos_right h2 (Nat.two_pow_pos g)
      rw [← Nat.pow_add] at h5
      exact Nat.lt_of_lt_of_le h5 (Nat.pow_le_pow_right (by decide) (show m.log2 + 1 + g ≤ 52 by omega))
    have h5 : m * 2 ^ g ≠ 0 := Nat.mul_ne_zero h0 (by have := Nat.two_pow_pos g; omega)
    rw [← hg, ← nearW_scale false m g e, show e - (g : Int) = -1074 by omega, nearW_sub false h4]
    generalize m * 2 ^ g = M at *
    rw [word_false]
    have hf : frg M = M := Nat.mod_eq_of_lt (by omega)
    rw [hf]
    refine ⟨by omega, h5, ?_⟩
    have em : mg M = M := by unfold mg; rw [if_pos (by omega)]
    have ep : pl M = 0 := by unfold pl; omega
    unfold vr
    rw [em, ep, Nat.pow_zero, Nat.mul_one]

/-- What a float without an error comes to. -/
theorem fval_exact (s : Bool) {m : Nat} {e : Int} (h0 : m ≠ 0) (hm : m < 9007199254740992) (he : -1074 ≤ e) (h : e + bl m ≤ 1024) :
    fin (nearW s m e) = true ∧ fval (nearW s m e) = sg s (m * 2 ^ (e + 1074).toNat) := by
  obtain ⟨h1, h2, h3⟩ := near_exact h0 hm he h
  rw [nearW_sign]
  have hl : frg (nearW false m e) < 9223372036854775808 := by omega
  refine ⟨by unfold fin; rw [wd_frg _ hl]; exact decide_eq_true h1, ?_⟩
  unfold fval sg
  rw [wd_frg _ hl, wd_fsg _ hl, h3]

/-- The words of the powers of two. -/
def powW (k : Int) : Nat := if -1074 ≤ k ∧ k ≤ 1023 then nearW false 1 k else 0
theorem powW_lt (k : Int) : powW k < 18446744073709551616 := by
  unfold powW; split
  · exact nearW_lt _ _ _
  · omega
theorem bl_1 : bl 1 = 1 := by decide
theorem powW_val {k : Int} (h : -1074 ≤ k ∧ k ≤ 1023) : fin (powW k) = true ∧ fval (powW k) = ((2 ^ (k + 1074).toNat : Nat) : Int) := by
  have := fval_exact false (m := 1) (e := k) (by decide) (by decide) h.1 (by rw [bl_1]; omega)
  unfold powW
  rw [if_pos h]
  refine ⟨this.1, ?_⟩
  rw [this.2, Nat.one_mul]; rfl
end Go.Proofs.Nt
/- bits: fit, Make, Pow, Scale of whatever mantissa. -/
set_option linter.unusedVariables false
set_option maxRecDepth 20000
set_option linter.unusedSimpArgs false
set_option linter.unnecessarySimpa false
namespace Go.Proofs.Nt
open Go Go.Proofs Go.Proofs.Va Go.RowKit

/-- What fit tells: the number, with another exponent. -/
def fitP (m : Nat) (e : Int) (r : AV) : Prop := ∃ o j t q : Nat, ∃ e' : Int, o ≠ 0 ∧ m = o * 2 ^ j ∧ q = o * 2 ^ t ∧ q < 18446744073709551616 ∧ j ≤ 63 ∧ e' = e + j - t ∧ (t = 0 ∨ (971 ≤ e' ∧ q < 9007199254740992)) ∧ (e' ≤ 971 ∨ 4503599627370496 ≤ q) ∧
  r = .tup [u q, i e', bo (decide (q < 9007199254740992 ∧ -1074 ≤ e' ∧ e' ≤ 971))]

theorem fit2_ctr {m : Nat} {e : Int} (h0 : m ≠ 0) (hm : m < 18446744073709551616) (he : -10000 ≤ e ∧ e ≤ 10000) : Ctr Tryz.prog 129 [u m, i e] (fitP m e) := by
  refine ctr_in Tryz.func129 rfl (by kernel_rfl) rfl fun K hK => ?_
  simp [Tryz.f129]
  have small : ∀ q j, m = q * 2 ^ j → j ≤ 63 := by
    intro q j h
    rcases Nat.lt_or_ge 63 j with h1 | h1
    · have h2 : 2 ^ 64 ≤ 2 ^ j := Nat.pow_le_pow_right (by decide) h1
      have h3 : q ≠ 0 := by intro h4; subst h4; omega
      have h4 : 1 * 2 ^ j ≤ q * 2 ^ j := Nat.mul_le_mul_right _ (by omega)
      have h5 : (2 : Nat) ^ 64 = 18446744073709551616 := rfl
      omega
    · exact h1
  refine loop_on (γ := Nat × Nat) 36 (fun g => [(0, u g.1), (1, i (e + g.2))]) (fun _ => []) (fun g => m = g.1 * 2 ^ g.2) (fun g => g.1) (m, 0) (by simp) (Wk.lst (by simp) (by simp)) ?_
  rintro ⟨q, j⟩ hq L hL
  have hq : m = q * 2 ^ j := hq
  have hj := small q j hq
  have hq0 : q ≠ 0 := by intro h; subst h; omega
  have hqm : q ≤ m := by rw [hq]; exact Nat.le_mul_of_pos_right _ (Nat.two_pow_pos j)
  have ha := and_one (q := q) (by omega)
  have hw : IntKind.i64.wrap (e + (j : Int) + 1) = e + ((j + 1 : Nat) : Int) := by rw [w64 _ (by omega) (by omega)]; omega
  simp only
  rcases Nat.mod_two_eq_zero_or_one q with h2 | h2
  · rw [h2] at ha
    have hd : IntKind.u64.wrap (((q / 2 : Nat) : Int)) = ((q / 2 : Nat) : Int) := wu' (by omega)
    simp [ha]
    refine hL (q / 2, j + 1) _ _ ?_ (Wk.lst (by simp [hw]) (by simp)) ?_
    · show m = q / 2 * 2 ^ (j + 1)
      rw [Nat.pow_succ, Nat.mul_comm (2 ^ j) 2, ← Nat.mul_assoc, show q / 2 * 2 = q by omega]; exact hq
    · show q / 2 < q; omega
  rw [h2] at ha
  simp [ha]
  clear hL ha h2 hw
  refine loop_on (γ := Nat × Nat × Int) 36 (fun g => [(0, u g.2.1), (1, i g.2.2)]) (fun _ => [])
    (fun g => g.2.1 = q * 2 ^ g.1 ∧ g.2.1 < 18446744073709551616 ∧ g.2.2 = e + j - g.1 ∧ (g.1 = 0 ∨ (971 ≤ g.2.2 ∧ g.2.1 < 9007199254740992))) (fun g => (g.2.2 - 971).toNat) (0, q, e + j) ⟨by simp, by show q < _; omega, by simp, .inl rfl⟩ (Wk.lst (by simp) (by simp)) ?_
  rintro ⟨t, p, e'⟩ ⟨hp, hpl, he', ht⟩ L hL
  simp only at hp hpl he' ht
  have hp0 : p ≠ 0 := by
    rw [hp]; exact Nat.mul_ne_zero hq0 (by have := Nat.two_pow_pos t; omega)
  have heb : -10000 ≤ e' ∨ 971 ≤ e' := by omega
  have hej : e' ≤ 10063 := by omega
  have hw : IntKind.i64.wrap (e' - 1) = e' - 1 := w64 _ (by omega) (by omega)
  simp only
  by_cases c1 : 971 < e'
  · by_cases c2 : p < 4503599627370496
    · have c2' : (p : Int) < 4503599627370496 := by omega
      have hu : IntKind.u64.wrap ((p : Int) * 2) = ((p * 2 : Nat) : Int) := by rw [show (p : Int) * 2 = ((p * 2 : Nat) : Int) by omega]; exact wu' (by omega)
      simp [c1, c2', hu, hw]
      refine hL (t + 1, p * 2, e' - 1) _ _ ⟨?_, by show p * 2 < _; omega, by show e' - 1 = e + j - ((t + 1 : Nat) : Int); omega, .inr ⟨by show 971 ≤ e' - 1; omega, by show p * 2 < _; omega⟩⟩ (Wk.lst (by simp [hu, hw]) (by simp)) (by show (e' - 1 - 971).toNat < (e' - 971).toNat; omega)
      show p * 2 = q * 2 ^ (t + 1)
      rw [hp, Nat.pow_succ, Nat.mul_assoc]
    · have c2' : ¬ (p : Int) < 4503599627370496 := by omega
      have c4 : ¬ e' ≤ 971 := by omega
      have c5 : -1074 ≤ e' := by omega
      have hk : decide (p < 9007199254740992 ∧ -1074 ≤ e' ∧ e' ≤ 971) = false := decide_eq_false (fun h => c4 h.2.2)
      simp [c1, c2', c4, c5]
      by_cases c3 : p < 9007199254740992
      · simp [c3]
        exact hK _ _ _ (.same _ (pu_tup (by simp))) ⟨q, j, t, p, e', hq0, hq, hp, hpl, hj, he', ht, .inr (by omega), by rw [hk]; rfl⟩
      · simp [c3]
        exact hK _ _ _ (.same _ (pu_tup (by simp))) ⟨q, j, t, p, e', hq0, hq, hp, hpl, hj, he', ht, .inr (by omega), by rw [hk]; rfl⟩
  · have c4 : e' ≤ 971 := by omega
    have hb : decide (p < 9007199254740992 ∧ -1074 ≤ e' ∧ e' ≤ 971) = (decide ((p : Int) < 9007199254740992) && decide (-1074 ≤ e')) := by
      rw [← Bool.decide_and]
      refine decide_eq_decide.2 ⟨fun h => ⟨by omega, h.2.1⟩, fun h => ⟨by omega, h.2, c4⟩⟩
    have fin : K (.tup [u p, i e', bo (decide ((p : Int) < 9007199254740992) && decide (-1074 ≤ e'))]) [] := hK _ _ _ (.same _ (pu_tup (by simp))) ⟨q, j, t, p, e', hq0, hq, hp, hpl, hj, he', ht, .inl c4, by rw [hb]⟩
    by_cases c3 : (p : Int) < 9007199254740992
    · by_cases c5 : -1074 ≤ e'
      · simp [c1, c3, c4, c5]; simp only [decide_eq_true, decide_eq_false, c3, c5, not_false_eq_true] at fin
        exact fin
      · simp [c1, c3, c4, c5]; simp only [decide_eq_true, decide_eq_false, c3, c5, not_false_eq_true] at fin
        exact fin
    · simp [c1, c3, c4]; simp only [decide_eq_true, decide_eq_false, c3, not_false_eq_true] at fin
      exact fin

theorem nearest_nat (q : Nat) : FloatKind.f64.nearest (q : Int) = nearW false q 0 := by
  show Ieee.double.nearest (decide ((q : Int) < 0)) (q : Int).natAbs 0 = _
  rw [nearest_eq, show decide ((q : Int) < 0) = false by simp, Int.natAbs_natCast]

/-- What Make tells of a mantissa that is not 0: the float of the number, or that there is none. -/
def makeP (neg : Bool) (m : Nat) (e : Int) (r : AV) : Prop := ∃ o j t q : Nat, ∃ e' : Int, o ≠ 0 ∧ m = o * 2 ^ j ∧ q = o * 2 ^ t ∧ j ≤ 63 ∧ e' = e + j - t ∧ (t = 0 ∨ (971 ≤ e' ∧ q < 9007199254740992)) ∧ (e' ≤ 971 ∨ 4503599627370496 ≤ q) ∧
  r = if q < 9007199254740992 ∧ -1074 ≤ e' ∧ e' ≤ 971 then .tup [fl (nearW neg m e), bo true] else .tup [fl 0, bo false]

theorem make2_ctr {m : Nat} {e : Int} (neg : Bool) (h0 : m ≠ 0) (hm : m < 18446744073709551616) (he : -5000 ≤ e ∧ e ≤ 5000) : Ctr Tryz.prog 112 [bo neg, u m, i e] (makeP neg m e) := by
  refine ctr_in Tryz.func112 rfl (by kernel_rfl) rfl fun K hK => ?_
  have hs : fsg 13830554455654793216 = true := by decide
  have h1 : ¬ e < -5000 := by omega
  have h2 : ¬ 5000 < e := by omega
  have h0' : ¬ (m : Int) = 0 := by omega
  simp [Tryz.f112, h0, h1, h2]
  refine acall_by (fit2_ctr h0 hm (by omega)) (by simp) ?_
  rintro _ ⟨o, j, t, q, e', hq0, hq, hp, hpl, hj, he', ht, hl, rfl⟩
  by_cases hk : q < 9007199254740992 ∧ -1074 ≤ e' ∧ e' ≤ 971
  case neg =>
    rw [decide_eq_false hk]
    simp
    exact hK _ _ _ (.same _ (pu_tup (by simp))) ⟨o, j, t, q, e', hq0, hq, hp, hj, he', ht, hl, by rw [if_neg hk]; rfl⟩
  rw [decide_eq_true hk]
  have hqn : q ≠ 0 := by rw [hp]; exact Nat.mul_ne_zero hq0 (by have := Nat.two_pow_pos t; omega)
  obtain ⟨w1, w2⟩ := whole_ld hqn hk.1 e'
  have hsc : ∀ s, nearW s q e' = nearW s m e := by
    intro s
    have a1 := nearW_scale s o t (e + j)
    have a2 := nearW_scale s o j (e + j)
    rw [← hp, ← he'] at a1
    rw [← hq, show e + (j : Int) - (j : Int) = e by omega] at a2
    rw [a1, a2]
  have hr : (if q < 9007199254740992 ∧ -1074 ≤ e' ∧ e' ≤ 971 then AV.tup [fl (nearW neg m e), bo true] else .tup [fl 0, bo false]) = .tup [fl (nearW neg m e), bo true] := if_pos hk
  have hP : makeP neg m e (.tup [fl (nearW neg m e), bo true]) := ⟨o, j, t, q, e', hq0, hq, hp, hj, he', ht, hl, hr.symm⟩
  have hKK : ∀ σ, K (.tup [fl (nearW neg m e), bo true]) σ := fun σ => hK _ _ _ (.same _ (pu_tup (by simp))) hP
  simp [nearest_nat]
  refine acall_by (ldexp2_ctr (b := nearW false q 0) (k := e') (nearW_lt _ _ _) w1 (by omega)) (by simp) ?_
  rintro _ rfl
  rw [w2, hsc]
  cases neg
  · simp
    exact hKK _
  · simp
    refine acall_by (copysign2_ctr (b := nearW false m e) (c := 13830554455654793216) (nearW_lt _ _ _) (by decide)) (by simp) ?_
    rintro _ rfl
    rw [hs, ← nearW_sign]
    simp
    exact hKK _

theorem pow_ctr (k : Int) (hk : -4000 ≤ k ∧ k ≤ 4000) : Ctr Tryz.prog 78 [i k] (fun r => r = fl (powW k)) := by
  refine ctr_val Tryz.func78 rfl (by kernel_rfl) rfl (by simp) fun K hK => ?_
  simp [Tryz.f78]
  refine acall_by (make2_ctr (m := 1) (e := k) false (by decide) (by decide) (by omega)) (by simp) ?_
  rintro _ ⟨o, j, t, q, e', hq0, hq, hp, hj, he', ht, hl, rfl⟩
  have ho : o = 1 ∧ j = 0 := by
    have h1 : o ∣ 1 := ⟨_, hq⟩
    have h2 : o = 1 := Nat.dvd_one.1 h1
    subst h2
    refine ⟨rfl, ?_⟩
    rcases Nat.eq_zero_or_pos j with h | h
    · exact h
    · exfalso
      have : 2 ^ 1 ≤ 2 ^ j := Nat.pow_le_pow_right (by decide) h
      omega
  obtain ⟨rfl, rfl⟩ := ho
  have htq : q < 9007199254740992 → t ≤ 52 := by
    intro h
    rcases Nat.lt_or_ge 52 t with h1 | h1
    · have h2 : 2 ^ 53 ≤ 2 ^ t := Nat.pow_le_pow_right (by decide) h1
      have h3 : (2 : Nat) ^ 53 = 9007199254740992 := rfl
      omega
    · exact h1
  have htq2 : t < 52 → q < 4503599627370496 := by
    intro h
    have h2 : 2 ^ t < 2 ^ 52 := Nat.pow_lt_pow_right (by decide) h
    have h3 : (2 : Nat) ^ 52 = 4503599627370496 := rfl
    omega
  by_cases hc : q < 9007199254740992 ∧ -1074 ≤ e' ∧ e' ≤ 971
  · rw [if_pos hc]
    have h1 := htq hc.1
    have hin : -1074 ≤ k ∧ k ≤ 1023 := by omega
    unfold powW at hK
    rw [if_pos hin] at hK
    simp
    exact hK _
  · rw [if_neg hc]
    have hin : ¬ (-1074 ≤ k ∧ k ≤ 1023) := by
      rintro ⟨h1, h2⟩
      rcases ht with rfl | ⟨ht1, ht2⟩
      · have h3 := htq2 (by omega)
        omega
      · have h3 := htq ht2
        omega
    unfold powW at hK
    rw [if_neg hin] at hK
    simp
    exact hK _

end Go.Proofs.Nt
/- gram: Zero, the dyads of floats, products of each two. -/
set_option linter.unusedVariables false
set_option maxRecDepth 20000
set_option linter.unusedSimpArgs false
set_option linter.unnecessarySimpa false
namespace Go.Proofs.Nt
open Go Go.Proofs Go.Proofs.Va Go.RowKit

theorem sizeI_rng (c : Int) : 0 ≤ sizeI c ∧ sizeI c ≤ 28 := by
  unfold sizeI
  split
  · have := size_le (c := c.toNat) (by omega); omega
  · omega
theorem gzero_ctr (c : Int) : Ctr Tryz.prog 37 [i c] (fun r => ∃ cap, r = dsl false (List.replicate (sizeI c).toNat zDV) cap) := by
  refine ctr_in Tryz.func37 rfl (by kernel_rfl) rfl fun K hK => ?_
  simp only [Tryz.f37, List.append_eq, List.cons_append, List.nil_append]
  have hsz := sizeI_rng c
  simp
  refine acall_by (size_ctr c) (by simp) ?_
  rintro _ rfl
  simp [flat_dcs]
  refine ⟨⟨by omega, by omega, by omega⟩, ?_⟩
  exact hK _ _ _ (pur_ds (k := .own) (l := List.replicate (sizeI c).toNat zDV) (by simp) (by decide) (by simp) (by simp)) ⟨_, rfl⟩

/-- The dyads of floats, if each is a number. -/
def dysP (l : List Nat) (r : AV) : Prop :=
  if l.all fin = true then ∃ us nl cap, us.map DV.d = l.map fromD ∧ r = .tup [dsl nl us cap, bo true] else r = .tup [.pl true [] 0 (some 0), bo false]

theorem gdyads_ctr {l : List Nat} (nl : Bool) (cap : Option Nat) (hf : Fl l) (hl : l.length ≤ 1000) : Ctr Tryz.prog 51 [fsl nl l cap] (dysP l) := by
  refine ctr_in Tryz.func51 rfl (by kernel_rfl) rfl fun K hK => ?_
  simp only [Tryz.f51, List.append_eq, List.cons_append, List.nil_append]
  obtain ⟨n, hn⟩ : ∃ n, l.length = n := ⟨_, rfl⟩
  have hbad : ¬ l.all fin = true → ∀ σ, K (.tup [.pl true [] 0 (some 0), .v (.bool false)]) σ := by
    intro h σ
    refine hK _ _ _ (.same _ (pu_tup (by simp))) ?_
    unfold dysP; rw [if_neg h]; rfl
  simp [flat_dcs, hn]
  refine ⟨⟨by omega, by omega⟩, ?_⟩
  refine loop_on (γ := Nat × List DV) 32 (fun g => [(4, .so 0 0 0 n 3 (some n)), (12, fsl nl l cap), (13, i n), (14, i g.1)])
    (fun g => [⟨.own, 0, dcs g.2⟩])
    (fun g => g.1 ≤ n ∧ g.2.length = n ∧ ∀ q, q < g.1 → fin (l.getD q 0) = true ∧ (gv g.2 q).d = fromD (l.getD q 0)) (fun g => n - g.1)
    (0, List.replicate n zDV) ⟨Nat.zero_le _, by simp, fun q hq => by omega⟩ (Wk.lst (by simp [fsl, hn]) (by simp)) ?_
  rintro ⟨g, vs⟩ ⟨hg, hvl, hvs⟩ L hL
  simp only at hg hvl hvs
  by_cases hlt : g < n
  · have hgx : g < l.length := by omega
    have hb := hf _ (List.getElem_mem hgx)
    have hgd : l.getD g 0 = l[g] := by simp [hgx]
    have hfr := from3_ctr hb
    rw [fTold_eq, ← hgd] at hfr
    rw [← hgd] at hb
    have hw1 : IntKind.i64.wrap ((g : Int) + 1) = ((g + 1 : Nat) : Int) := w64 _ (by omega) (by omega)
    by_cases hfk : fin (l.getD g 0) = true
    · rw [hfk] at hfr
      have hset : ∀ n1 c1, (((dcs vs).set (g * 3) (AV.v (.bool (fromD (l.getD g 0)).1))).set (g * 3 + 1) (sl n1 (fromD (l.getD g 0)).2.1 c1)).set (g * 3 + 1 + 1) (AV.v (.int .i64 (fromD (l.getD g 0)).2.2)) = dcs (vs.set g (toV (fromD (l.getD g 0)) n1 c1)) :=
        fun n1 c1 => dcs_set (l := vs) (k := g) (by omega) (toV (fromD (l.getD g 0)) n1 c1)
      have hpre : ∀ n1 c1, g + 1 ≤ n ∧ (vs.set g (toV (fromD (l.getD g 0)) n1 c1)).length = n ∧ ∀ q, q < g + 1 → fin (l.getD q 0) = true ∧ (gv (vs.set g (toV (fromD (l.getD g 0)) n1 c1)) q).d = fromD (l.getD q 0) := by
        intro n1 c1
        refine ⟨by omega, by simpa using hvl, fun q hq => ?_⟩
        by_cases hqg : q = g
        · subst hqg; rw [gv_set_self (by omega)]; exact ⟨hfk, rfl⟩
        · rw [gv_set_ne (by omega)]; exact hvs q (by omega)
      have ho3 : g * 3 + 3 ≤ (dcs vs).length := by rw [dcs_len]; omega
      have hnext := fun n1 c1 => hL (g + 1, vs.set g (toV (fromD (l.getD g 0)) n1 c1))
      generalize hxg : l.getD g 0 = xg at *
      generalize fromD xg = d at *
      simp [hlt, hgx, fsl, ← hgd]
      refine acall_by hfr (by simp) ?_
      rintro _ ⟨n1, c1, rfl⟩
      simp [cells_dy, cells_ag, wr, hw1, hlt, ho3, hset, -cellsOf, -Int.natCast_add]
      refine hnext n1 c1 _ _ (hpre n1 c1) (Wk.lst_drop 1 rfl (by simp [fsl, hn]) (by simp) (by simp [fsl]) ?_) (by show n - (g + 1) < n - g; omega)
      intro b hb' _ y hy
      simp only [List.mem_cons, List.not_mem_nil, or_false] at hb'
      rcases hb' with rfl
      exact sc_dcs _ _ y hy
    · have hfk' : fin (l.getD g 0) = false := by simpa using hfk
      rw [hfk'] at hfr
      generalize fromD (l.getD g 0) = d at *
      simp [hlt, hgx, fsl]
      rw [← hgd]
      refine acall_by hfr (by simp) ?_
      rintro _ ⟨n1, c1, rfl⟩
      simp [cells_dy, cells_ag, wr, -cellsOf]
      refine hbad (fun h => hfk ?_) _
      rw [List.all_eq_true] at h
      rw [hgd]
      exact h _ (List.getElem_mem hgx)
  obtain rfl : n = g := by omega
  have hfin : l.all fin = true := by
    rw [List.all_eq_true]
    intro y hy
    obtain ⟨q, hq, rfl⟩ := List.getElem_of_mem hy
    have := (hvs q (by omega)).1
    simpa [hq] using this
  have hmap : vs.map DV.d = l.map fromD := by
    refine List.ext_getElem (by simp; omega) fun q h1 h2 => ?_
    have hq : q < l.length := by simpa using h2
    have := (hvs q (by omega)).2
    rw [gv_at (by omega)] at this
    simp [this, hq]
  simp only [dysP, if_pos hfin] at hK
  have hnn : ¬ (n : Int) < n := by omega
  simp
  refine hK _ _ (.tup [dsl false vs (some n), bo true]) ?_ ⟨vs, _, _, hmap, rfl⟩
  refine .tup _ _ rfl fun q hq => ?_
  have : q = 0 ∨ q = 1 := by simp at hq; omega
  rcases this with rfl | rfl
  · exact pur_ds (k := .own) (l := vs) (by simp) (by decide) (by omega) (by simp)
  · exact .same _ (by simp)
end Go.Proofs.Nt
/- gram.products: products of each two entries. -/
set_option linter.unusedVariables false
set_option maxRecDepth 20000
set_option linter.unusedSimpArgs false
set_option linter.unnecessarySimpa false
namespace Go.Proofs.Nt
open Go Go.Proofs Go.Proofs.Va Go.RowKit

/-- An own list of dyads at place p, that was made with room. -/
inductive OZ (p : Nat) (σ : AHeap) : AV → List DV → Prop
  | fst (c : Nat) (cs : List AV) : 1 ≤ c → σ[p]? = some ⟨.own, 0, cs⟩ → OZ p σ (.so p 0 0 0 3 (some c)) []
  | so (v : Nat) (l : List DV) : σ[p]? = some ⟨.own, v, dcs l⟩ → OZ p σ (.so p v 0 l.length 3 none) l

theorem append_oz {p : Nat} {σ : AHeap} {r : AV} {l : List DV} {d : DV} {K : AV → AHeap → Prop} (h : OZ p σ r l) (hl : l.length ≤ 1000000)
    (hK : ∀ r' σ', OZ p σ' r' (l ++ [d]) → σ.length ≤ σ'.length → (∀ a, a ≠ p → a < σ.length → σ'[a]? = σ[a]?) → K r' σ') :
    aAppend Tryz.prog 27 27 r (.so σ.length 0 0 1 3 (some 1)) (σ ++ ([⟨.own, 0, d.cs⟩] : AHeap)) K := by
  have hlc := dcs_len l
  have hdc : d.cs.length = 3 := rfl
  cases h with
  | fst c cs hc h0 =>
    have hlt := (List.getElem?_eq_some_iff.1 h0).1
    simp [List.getElem?_append_left hlt, h0, hdc, hc]
    rw [List.take_of_length_le (by omega)]
    have := hK (  .so p 1 0 1 3 none) (List.set (σ ++ ([⟨.own, 0, d.cs⟩] : AHeap)) p ⟨.own, 1, d.cs⟩) (.so 1 [d] (by rw [List.getElem?_set_self (by simp; omega)]; simp [dcs]))
      (by simp) (fun a ha hl => by rw [List.getElem?_set_ne (by omega), List.getElem?_append_left hl])
    simpa using this
  | so v l hj =>
    have hlt := (List.getElem?_eq_some_iff.1 hj).1
    simp [List.getElem?_append_left hlt, hj, hdc, hlc]
    refine ⟨by omega, ?_⟩
    rw [List.take_of_length_le (by omega), List.take_of_length_le (by omega)]
    have := hK (.so p (v + 1) 0 (l ++ [d]).length 3 none) (List.set (σ ++ ([⟨.own, 0, d.cs⟩] : AHeap)) p ⟨.own, v + 1, dcs l ++ d.cs⟩) (.so _ _ (by rw [List.getElem?_set_self (by simp; omega), dcs_snoc]))
      (by simp) (fun a ha hl => by rw [List.getElem?_set_ne (by omega), List.getElem?_append_left hl])
    simpa using this
theorem OZ.pur {p : Nat} {σ : AHeap} {S : Nat → Prop} (hS : ∀ j, S j) {r : AV} {l : List DV} (h : OZ p σ r l) : ∃ cap, Pur σ S r (dsl false l cap) := by
  cases h with
  | fst c cs hc h0 =>
    refine ⟨some c, .so p 0 0 0 3 (some c) _ [] h0 rfl (fun h => by cases h) (hS p) (by simp) (by simp) fun q hq => by simp at hq⟩
  | so v l hj => exact ⟨none, pur_ds (k := .own) hj (by decide) rfl (hS p)⟩
theorem OZ.lt {p : Nat} {σ : AHeap} {r : AV} {l : List DV} (h : OZ p σ r l) : p < σ.length := by
  cases h with
  | fst c cs hc h0 => exact (List.getElem?_eq_some_iff.1 h0).1
  | so v l hj => exact (List.getElem?_eq_some_iff.1 hj).1
theorem OZ.more {p : Nat} {σ : AHeap} {r : AV} {l : List DV} (h : OZ p σ r l) (m : AHeap) : OZ p (σ ++ m) r l := by
  cases h with
  | fst c cs hc h0 => exact .fst c cs hc (by rw [List.getElem?_append_left (List.getElem?_eq_some_iff.1 h0).1]; exact h0)
  | so v l hj => exact .so v l (by rw [List.getElem?_append_left (List.getElem?_eq_some_iff.1 hj).1]; exact hj)
theorem append_oz2 {p : Nat} {σ : AHeap} {z : ABlk} {r : AV} {l : List DV} {d : DV} {K : AV → AHeap → Prop} (h : OZ p σ r l) (hl : l.length ≤ 1000000)
    (hK : ∀ r' σ', OZ p σ' r' (l ++ [d]) → σ.length ≤ σ'.length → (∀ a, a ≠ p → a < σ.length → σ'[a]? = σ[a]?) → K r' σ') :
    aAppend Tryz.prog 27 27 r (.so (σ.length + 1) 0 0 1 3 (some 1)) (σ ++ ([z, ⟨.own, 0, d.cs⟩] : AHeap)) K := by
  have := append_oz (K := K) (d := d) (h.more [z]) hl fun r' σ' h1 h2 h3 => hK r' σ' h1 (by simp at h2; omega) (fun a ha hl => by rw [h3 a ha (by simp; omega), List.getElem?_append_left hl])
  simpa using this

theorem dcs_drop (l : List DV) : ∀ k, (dcs l).drop (k * 3) = dcs (l.drop k) := by
  induction l with
  | nil => intro k; simp [dcs]
  | cons a l ih =>
    intro k
    cases k with
    | zero => rfl
    | succ k =>
      have : dcs (a :: l) = bo a.neg :: sl a.nl a.a a.cap :: i a.e :: dcs l := (rfl)
      rw [this, show (k + 1) * 3 = k * 3 + 1 + 1 + 1 by omega, List.drop_succ_cons, List.drop_succ_cons, List.drop_succ_cons, ih]; rfl
theorem slice_dsl {nl : Bool} {l : List DV} {cap : Option Nat} {k : IntKind} {g : Nat} {σ : AHeap} {K : AV → AHeap → Prop} (h : g ≤ l.length) (hK : K (dsl (nl && l.isEmpty) (l.drop g) (cap.map (· - g))) σ) :
    aSlice Tryz.prog 27 (dsl nl l cap) (some (.v (.int k g))) none none σ K := by
  have hl := dcs_len l
  have e1 : ((l.length : Int) - g).toNat = l.length - g := by omega
  have e2 : ((dcs l).drop (g * 3)).take ((l.length - g) * 3) = dcs (l.drop g) := by
    rw [dcs_drop, List.take_of_length_le]
    rw [dcs_len, List.length_drop]; omega
  unfold dsl at hK ⊢
  simp [e1, e2, h]
  rw [show (nl && l.isEmpty && (l.drop g).isEmpty) = (nl && l.isEmpty) by cases nl <;> cases l <;> simp, List.length_drop] at hK
  exact hK

@[simp] theorem aLen_dsl {nl : Bool} {l : List DV} {cap : Option Nat} {σ : AHeap} {K : AV → AHeap → Prop} : aLen Tryz.prog 27 (dsl nl l cap) σ K = K (i l.length) σ := by
  unfold dsl; simp
@[simp] theorem aIA_dsl {nl : Bool} {l : List DV} {cap : Option Nat} {k : IntKind} {j : Int} {σ : AHeap} {K : AV → AHeap → Prop} : aIndexAddr Tryz.prog 27 (dsl nl l cap) (.v (.int k j)) σ K = ((0 ≤ j ∧ j < l.length) ∧ j.toNat * 3 < (dcs l).length ∧ K (.pp (dcs l) (j.toNat * 3)) σ) := by
  unfold dsl; simp
@[simp] theorem pu_dslS {nl : Bool} {l : List DV} {cap : Option Nat} : Pu (dsl nl l cap) := .pl _ _ _ _
@[simp] theorem scA_dsl (n : Nat) {nl : Bool} {l : List DV} {cap : Option Nat} : scA n (dsl nl l cap) = True := (rfl)
theorem gprods_ctr {us : List DV} {L : List Dy} {n : Nat} (nl : Bool) (cap : Option Nat) (hL : us.map DV.d = L) (hn : us.length = n + 1) (h1 : 1 ≤ n) (h6 : n ≤ 6) (hok : ∀ q, dOK (L.getD q zeroD) ∧ (L.getD q zeroD).2.1.length ≤ 900) :
    Ctr Tryz.prog 52 [dsl nl us cap] (fun r => ∃ os cap, os.map DV.d = prodRows L (n + 1) ∧ r = dsl false os cap) := by
  refine ctr_in Tryz.func52 rfl (by kernel_rfl) rfl fun K hK => ?_
  simp only [Tryz.f52, List.append_eq, List.cons_append, List.nil_append]
  have hw0 : IntKind.i64.wrap (((n + 1 : Nat) : Int) - 1) = (n : Int) := by rw [w64 _ (by omega) (by omega)]; omega
  have hsz : sizeI n = (sizeN n : Int) := by unfold sizeI; rw [if_pos (by omega)]; rfl
  have hle := size_le (c := n) (by omega)
  have hLl : L.length = n + 1 := by rw [← hL, List.length_map, hn]
  have hvv : ∀ q, q < n + 1 → (gv us q).d = L.getD q zeroD := fun q hq => map_d_get hL q (by omega)
  simp [hn, hw0, -Int.natCast_add]
  refine acall_by (size_ctr n) (by simp) ?_
  rintro _ rfl
  rw [hsz]
  simp [flat_dcs, hn, -Int.natCast_add]
  refine ⟨⟨by omega, by omega⟩, ?_⟩
  refine loop_on (γ := Nat × List DV × AV × AHeap) 37 (fun g => [(0, dsl nl us cap), (3, g.2.2.1), (13, dsl nl us cap), (14, i ((n + 1 : Nat) : Int)), (15, i g.1)]) (fun g => g.2.2.2)
    (fun g => g.1 ≤ n + 1 ∧ g.2.1.map DV.d = prodRows L g.1 ∧ g.2.1.length ≤ 7 * g.1 ∧ OZ 0 g.2.2.2 g.2.2.1 g.2.1) (fun g => n + 1 - g.1)
    (0, [], _, _) ⟨Nat.zero_le _, rfl, by simp, .fst (sizeN n) (dcs (List.replicate (sizeN n) zDV)) (by omega) rfl⟩ (Wk.lst (by simp [dsl, hn]) (by simp)) ?_
  rintro ⟨g, os, ro, σ⟩ ⟨hg, hos, hol, hO⟩ L1 hL1
  simp only at hg hos hol hO
  by_cases hlt : g < n + 1
  case neg =>
    obtain rfl : g = n + 1 := by omega
    have hnl : ¬ ((n + 1 : Nat) : Int) < (n + 1 : Nat) := by omega
    obtain ⟨c2, hp⟩ := hO.pur (S := fun _ => True) (fun _ => trivial)
    simp [hnl, -Int.natCast_add]
    exact hK _ _ _ hp ⟨os, c2, hos, rfl⟩
  have hgu : g < us.length := by omega
  have rG := dcs_read hgu
  rw [av_of (hvv g hlt)] at rG
  have og3 : g * 3 + 3 ≤ (dcs us).length := by rw [dcs_len]; omega
  have og : g * 3 < (dcs us).length := by omega
  obtain ⟨okg, lg⟩ := hok g
  have hws : (us.drop g).length = n + 1 - g := by rw [List.length_drop, hn]
  obtain ⟨ws, hw⟩ : ∃ ws, ws = us.drop g := ⟨_, rfl⟩
  have hwv : ∀ j, j < n + 1 - g → (gv ws j).d = L.getD (g + j) zeroD := by
    intro j hj
    rw [← hvv (g + j) (by omega), hw]
    unfold gv
    rw [List.getD_eq_getElem?_getD, List.getElem?_drop, ← List.getD_eq_getElem?_getD]
  have h0 := hO.lt
  have hgn : (g : Int) < ((n + 1 : Nat) : Int) := by omega
  have hcdg : cellsOf (dy (L.getD g zeroD).1 (gv us g).nl (L.getD g zeroD).2.1 (gv us g).cap (L.getD g zeroD).2.2) = some (toV (L.getD g zeroD) (gv us g).nl (gv us g).cap).cs := cells_toV _ _ _
  generalize hdg : L.getD g zeroD = dg' at *
  generalize (gv us g).nl = ng at *
  generalize (gv us g).cap = cg at *
  simp [hgn, hgu, og, og3, rG, hn, cells_dy, wr, -cellsOf, -Int.natCast_add, -aSlice]
  refine slice_dsl (by omega) ?_
  rw [← hw] at hws ⊢
  simp [hws, -cellsOf, -Int.natCast_add, -aSlice]
  generalize (nl && us.isEmpty) = nl'
  generalize Option.map (· - g) cap = cap'
  refine loop_on (γ := Nat × List DV × AV × AHeap) 37 (fun j => [(0, dsl nl us cap), (3, j.2.2.1), (5, .po σ.length 0 0), (13, dsl nl us cap), (14, i ((n + 1 : Nat) : Int)), (15, i g), (22, dsl nl' ws cap'), (23, i ((n + 1 - g : Nat) : Int)), (24, i j.1)]) (fun j => j.2.2.2)
    (fun j => j.1 ≤ n + 1 - g ∧ j.2.1.map DV.d = prodRows L g ++ ((L.drop g).take j.1).map (mulD dg') ∧ j.2.1.length ≤ 7 * g + j.1 ∧ OZ 0 j.2.2.2 j.2.2.1 j.2.1 ∧ σ.length < j.2.2.2.length ∧ j.2.2.2[σ.length]? = some ⟨.own, 0, (toV dg' ng cg).cs⟩) (fun j => n + 1 - g - j.1)
    (0, os, ro, _) ⟨Nat.zero_le _, by simp [hos], by simp; omega, hO.more [⟨.own, 0, (toV dg' ng cg).cs⟩], by simp, by simp⟩ (Wk.lst (by simp [dsl]) (by simp [dsl, DV.cs, toV])) ?_
  rintro ⟨j, os, ro, σ1⟩ ⟨hj, hos, hol, hO, hσ, ha⟩ L2 hL2
  simp only at hj hos hol hO hσ ha
  by_cases hlj : j < n + 1 - g
  case neg =>
    obtain rfl : j = n + 1 - g := by omega
    have hnj : ¬ ((n + 1 - g : Nat) : Int) < ((n + 1 - g : Nat) : Int) := by omega
    have w1 : IntKind.i64.wrap ((g : Int) + 1) = ((g + 1 : Nat) : Int) := w64 _ (by omega) (by omega)
    simp [hnj, w1, -Int.natCast_add]
    refine hL1 (g + 1, os, ro, σ1) _ _ ⟨by omega, ?_, by show os.length ≤ 7 * (g + 1); omega, hO⟩ (Wk.lst (by simp [dsl]) (by simp)) (by show n + 1 - (g + 1) < n + 1 - g; omega)
    show os.map DV.d = prodRows L g ++ (L.drop g).map (mulD (L.getD g zeroD))
    rw [hos, hdg, List.take_of_length_le (by rw [List.length_drop]; omega)]
  have hjw : j < ws.length := by omega
  have rJ := dcs_read hjw
  rw [av_of (hwv j hlj)] at rJ
  have oj3 : j * 3 + 3 ≤ (dcs ws).length := by rw [dcs_len]; omega
  have oj : j * 3 < (dcs ws).length := by omega
  obtain ⟨okj, lj⟩ := hok (g + j)
  have hjn : (j : Int) < ((n + 1 - g : Nat) : Int) := by omega
  have w1 : IntKind.i64.wrap ((j : Int) + 1) = ((j + 1 : Nat) : Int) := w64 _ (by omega) (by omega)
  have cM := mulX (n := ng) (c := cg) (n' := (gv ws j).nl) (c' := (gv ws j).cap) okg (by omega) okj (by omega)
  have hpre : ∀ n2 c2, (os ++ [toV (mulD dg' (L.getD (g + j) zeroD)) n2 c2]).map DV.d = prodRows L g ++ ((L.drop g).take (j + 1)).map (mulD dg') := by
    intro n2 c2
    have e2 : (L.drop g)[j]? = some (L.getD (g + j) zeroD) := by
      rw [List.getElem?_drop, List.getD_eq_getElem?_getD, List.getElem?_eq_getElem (by omega)]; rfl
    rw [List.map_append, hos, List.take_add_one, e2, List.map_append, List.append_assoc]
    rfl
  generalize mulD dg' (L.getD (g + j) zeroD) = p at *
  generalize L.getD (g + j) zeroD = dj' at *
  generalize (gv ws j).nl = nj at *
  generalize (gv ws j).cap = cj at *
  have ha' : ∀ m, (σ1 ++ m)[σ.length]? = some ⟨.own, 0, (toV dg' ng cg).cs⟩ := fun m => by rw [List.getElem?_append_left hσ]; exact ha
  have hrd : (toV dg' ng cg).cs = [bo dg'.1, sl ng dg'.2.1 cg, i dg'.2.2] := rfl
  rw [hrd] at ha'
  simp [hjn, hjw, oj, oj3, rJ, hws, cells_dy, wr, ha', -cellsOf, -Int.natCast_add, -aAppend]
  refine acall_by cM (by simp [dy]) ?_
  rintro _ ⟨n2, c2, rfl⟩
  simp [cells_dy, -cellsOf, -aAppend, -Int.natCast_add]
  refine append_oz2 (d := toV p n2 c2) hO (by omega) fun r' σ' h1 h2 h3 => ?_
  simp [w1, -Int.natCast_add]
  refine hL2 (j + 1, os ++ [toV p n2 c2], r', σ') _ _ ⟨by omega, hpre n2 c2, by show (os ++ [toV p n2 c2]).length ≤ 7 * g + (j + 1); simp; omega, h1, by show σ.length < σ'.length; omega, by rw [h3 _ (by omega) hσ]; exact ha⟩ (Wk.lst (by simp [hws, dsl]) (by simp)) (by show n + 1 - g - (j + 1) < n + 1 - g - j; omega)
end Go.Proofs.Nt
/- gram.Row. -/
set_option linter.unusedVariables false
set_option maxRecDepth 20000
set_option linter.unusedSimpArgs false
set_option linter.unnecessarySimpa false
namespace Go.Proofs.Nt
open Go Go.Proofs Go.Proofs.Va Go.RowKit

@[simp] theorem isSFs : isSliceT Tryz.prog 22 = true := by kernel_rfl
@[simp] theorem srcFs : srcT Tryz.prog 22 = some false := by kernel_rfl
/-- What Clone of floats gives: an own list with room behind it. -/
inductive ClF (σ : AHeap) (n0 : Nat) : AV → List Nat → Prop
  | nil : ClF σ n0 (.pl true [] 0 (some 0)) []
  | e (j v : Nat) : σ[j]? = some ⟨.own, v, []⟩ → n0 ≤ j → ClF σ n0 (.so j v 0 0 1 none) []
  | sc (j v c : Nat) (l : List Nat) : σ[j]? = some ⟨.own, v, l.map fl ++ List.replicate (c - l.length) (fl 0)⟩ → l.length ≤ c → l ≠ [] → n0 ≤ j → ClF σ n0 (.so j v 0 l.length 1 (some c)) l

theorem cloneF_call {σ : AHeap} {nl : Bool} {a : List Nat} {cap : Option Nat} {K : AV → AHeap → Prop} (ha : a.length ≤ 1000000)
    (hK : ∀ r more, ClF (σ ++ more) σ.length r a → K r (σ ++ more)) : ACall Tryz.prog 56 [fsl nl a cap] σ K := by
  refine acall_in Tryz.func56 rfl (by kernel_rfl) rfl ?_
  unfold fsl
  by_cases h0 : a = []
  · subst h0
    cases nl
    · simp [Tryz.f56]
      have := hK (.so σ.length 1 0 0 1 none) ([⟨.own, 1, []⟩] : AHeap) (.e _ _ (by simp) (Nat.le_refl _))
      simpa using this
    · simp [Tryz.f56]
      have := hK (.pl true [] 0 (some 0)) ([] : AHeap) .nil
      simpa using this
  · have hp : 0 < a.length := List.length_pos_iff.2 h0
    simp [Tryz.f56, h0]
    refine ⟨by omega, fun c hc => ?_⟩
    have := hK (.so (σ.length + 1) 0 0 a.length 1 (some c)) ([⟨.own, 0, []⟩, ⟨.own, 0, a.map fl ++ List.replicate (c - a.length) (fl 0)⟩] : AHeap) (.sc _ _ _ _ (by simp) hc h0 (by omega))
    simpa using this

/-- An own list of floats at place k or above, perhaps with room behind it. -/
inductive OFl (k : Nat) (σ : AHeap) : AV → List Nat → Prop
  | mk (j v : Nat) (cap : Option Nat) (l : List Nat) (more : List AV) : k ≤ j → σ[j]? = some ⟨.own, v, l.map fl ++ more⟩ → OFl k σ (.so j v 0 l.length 1 cap) l

theorem append_fl {n0 : Nat} {σ : AHeap} {r : AV} {l : List Nat} {y : Nat} {K : AV → AHeap → Prop} (h : ClF σ n0 r l) (hl : l.length ≤ 1000000) (h0 : n0 ≤ σ.length)
    (hK : ∀ r' σ', OFl n0 σ' r' (l ++ [y]) → n0 ≤ σ'.length → (∀ a, a < n0 → σ'[a]? = σ[a]?) → K r' σ') :
    aAppend Tryz.prog 22 22 r (.pl false [fl y] 1 (some 1)) σ K := by
  cases h with
  | nil =>
    simp
    have := hK (.so σ.length 0 0 1 1 none) (σ ++ ([⟨.own, 0, [fl y]⟩] : AHeap)) (.mk _ _ none [y] [] h0 (by simp)) (by simp; omega) (fun a ha => by rw [List.getElem?_append_left (by omega)])
    simpa using this
  | e j v hj hn =>
    have hlt := (List.getElem?_eq_some_iff.1 hj).1
    simp [hj]
    have := hK (.so j (v + 1) 0 1 1 none) (σ.set j ⟨.own, v + 1, [fl y]⟩) (.mk _ _ none [y] [] hn (by rw [List.getElem?_set_self hlt]; simp)) (by simpa using h0) (fun a ha => by rw [List.getElem?_set_ne (by omega)])
    simpa using this
  | sc j v c l hj hc hne hn =>
    have hlt := (List.getElem?_eq_some_iff.1 hj).1
    have htk : (l.map fl ++ List.replicate (c - l.length) (fl 0)).take l.length = l.map fl := by
      rw [List.take_append_of_le_length (by simp), List.take_of_length_le (by simp)]
    simp [hj]
    refine ⟨by omega, ?_⟩
    by_cases hcl : l.length + 1 ≤ c
    · rw [if_pos hcl]
      have := hK (.so j (v + 1) 0 (l ++ [y]).length 1 none) (σ.set j ⟨.own, v + 1, l.map fl ++ [fl y]⟩) (.mk _ _ none (l ++ [y]) [] hn (by rw [List.getElem?_set_self hlt]; simp)) (by simpa using h0) (fun a ha => by rw [List.getElem?_set_ne (by omega)])
      simpa [htk] using this
    · rw [if_neg hcl]
      intro c' hc'
      have := hK (.so σ.length 0 0 (l ++ [y]).length 1 (some c')) (σ ++ ([⟨.own, 0, (l ++ [y]).map fl ++ List.replicate (c' - (l.length + 1)) (fl 0)⟩] : AHeap)) (.mk _ _ _ (l ++ [y]) (List.replicate (c' - (l.length + 1)) (fl 0)) h0 (by simp)) (by simp; omega) (fun a ha => by rw [List.getElem?_append_left (by omega)])
      simpa [htk] using this

theorem OFl.pur {n0 : Nat} {σ : AHeap} {r : AV} {l : List Nat} (h : OFl n0 σ r l) : ∃ j cap, n0 ≤ j ∧ Pur σ (· ∈ [j]) r (fsl false l cap) := by
  cases h with
  | mk j v cap l more hn hj =>
    refine ⟨j, cap, hn, .so j v 0 l.length 1 cap _ (l.map fl) hj rfl (fun h => by cases h) (by simp) (by simp) (by simp) fun q hq => ?_⟩
    simp only [List.length_map] at hq
    show Pur σ _ ((l.map fl ++ more).getD (0 + q) .any) _
    rw [Nat.zero_add, List.getD_eq_getElem?_getD, List.getElem?_append_left (by simpa using hq), ← List.getD_eq_getElem?_getD, getD_eq (by simpa using hq)]
    exact .same _ (by simp)

theorem grow_ctr (xn : Bool) (x : List Nat) (xc : Option Nat) (y : Nat) (hx : Fl x) (hy : y < 18446744073709551616) :
    Ctr Tryz.prog 39 [.agg [fsl xn x xc, fl y]] (rowP x y) := by
  refine ctr_in Tryz.func39 rfl (by kernel_rfl) rfl fun K hK => ?_
  simp only [Tryz.f39, List.append_eq, List.cons_append, List.nil_append]
  have hbad : ¬ rowQ x y = true → ∀ σ, K (.tup [.pl true [] 0 (some 0), .v (.bool false)]) σ := by
    intro h σ
    refine hK _ _ _ (.same _ (pu_tup (by simp))) ?_
    unfold rowP; rw [if_neg h]; rfl
  simp
  refine acall_by (size_ctr x.length) (by simp) ?_
  rintro _ rfl
  by_cases a1 : sizeI x.length = 0
  · simp [a1]
    refine hbad ?_ _
    intro h
    have h : (1 ≤ x.length ∧ x.length ≤ 6) ∧ (∀ z, z ∈ x → fin z = true) ∧ fin y = true := by simpa [rowQ] using h
    have := (size_facts (c := x.length) (by omega)).2.2
    omega
  have hc : 1 ≤ x.length ∧ x.length ≤ 6 := by
    apply Classical.byContradiction
    intro h
    exact a1 (if_neg (by omega))
  have hfl : Fl (x ++ [y]) := by
    intro z hz
    rcases List.mem_append.1 hz with h | h
    · exact hx z h
    · rw [List.mem_singleton.1 h]; exact hy
  simp [a1]
  refine draw_at [1, 1, 3, 1, 1, 0, 4, 4, 0, 0, 0, 0, 0] orders (by kernel_rfl) ?_
  simp
  refine cloneF_call (by omega) fun r more hcl => ?_
  refine ⟨same_pre (by simp) (by simp) rfl, ?_⟩
  simp [-aAppend]
  refine append_fl hcl (by omega) (by simp) fun r' σ' hO hσ hfr => ?_
  simp [-aAppend]
  obtain ⟨j, cap', hj, hp⟩ := hO.pur
  have hcd := gdyads_ctr (l := x ++ [y]) false cap' hfl (by simp; omega)
  refine acall_froze [j] hcd rfl (fun q hq => ?_) fun rr hrr => ?_
  · obtain rfl : q = 0 := by simp at hq; omega
    exact hp
  clear hp hO hfr hσ hcl
  generalize froze σ' [j] = σ3
  unfold dysP at hrr
  by_cases hall : (x ++ [y]).all fin = true
  case neg =>
    rw [if_neg hall] at hrr
    subst hrr
    simp
    refine hbad (fun h => hall ?_) _
    unfold rowQ at h
    rw [Bool.and_eq_true] at h
    exact h.2
  rw [if_pos hall] at hrr
  obtain ⟨us, n1, c1, hus, rfl⟩ := hrr
  have hq : rowQ x y = true := by
    unfold rowQ
    rw [hall, decide_eq_true hc.1, decide_eq_true hc.2]; rfl
  simp only [rowP, if_pos hq] at hK
  have hul : us.length = x.length + 1 := by have := congrArg List.length hus; simpa using this
  have hokL : ∀ q, dOK (((x ++ [y]).map fromD).getD q zeroD) ∧ (((x ++ [y]).map fromD).getD q zeroD).2.1.length ≤ 900 := by
    intro q
    obtain ⟨o, b⟩ := getD_ok (okl_from (x ++ [y])) q
    exact ⟨o, bd_len o b (by omega)⟩
  have cP := gprods_ctr n1 c1 hus hul hc.1 hc.2 hokL
  have hG : prodRows ((x ++ [y]).map fromD) (x.length + 1) = rowG x y := rfl
  rw [hG] at cP
  simp
  refine acall_by cP (by simp) ?_
  rintro _ ⟨os, c2, hos, rfl⟩
  simp
  exact hK _ _ _ (.same _ (pu_tup (by simp))) ⟨os, false, c2, hos, rfl⟩
end Go.Proofs.Nt
/- gram.join, Add, Sub. -/
set_option linter.unusedVariables false
set_option maxRecDepth 20000
set_option linter.unusedSimpArgs false
set_option linter.unnecessarySimpa false
namespace Go.Proofs.Nt
open Go Go.Proofs Go.Proofs.Va Go.RowKit

@[simp] theorem sc_fn0 (n : Nat) (f : Fn) : Sc n (.fn f [] []) := .fn _ _ _ (fun j h => by simp at h) (fun j h => by simp at h)
@[simp] theorem pu_fn0 (f : Fn) : Pu (.fn f [] []) := .fn _ _ _ (fun j h => by simp at h) (fun j h => by simp at h)
/-- Two lists joined, entry by entry. -/
def joinP (f : Dy → Dy → Dy) (a b : List DV) (r : AV) : Prop :=
  if a.length = b.length then ∃ us cap, us.map DV.d = List.zipWith f (a.map DV.m) (b.map DV.m) ∧ r = .tup [dsl false us cap, bo true] else r = .tup [.pl true [] 0 (some 0), bo false]

theorem gv_mem {l : List DV} {q : Nat} (h : q < l.length) : gv l q ∈ l := by rw [gv_at h]; exact List.getElem_mem h
theorem gjoin_ctr {a b : List DV} (na : Bool) (ca : Option Nat) (nb : Bool) (cb : Option Nat) (f : Dy → Dy → Dy) (gf : FuncId) (hl : a.length ≤ 100000) (hG : ∀ x ∈ a, ∀ y ∈ b, Ctr Tryz.prog gf [x.av, y.av] (dTold (f x.m y.m))) :
    Ctr Tryz.prog 61 [dsl na a ca, dsl nb b cb, .fn (.func gf) [] []] (joinP f a b) := by
  refine ctr_in Tryz.func61 rfl (by kernel_rfl) rfl fun K hK => ?_
  simp only [Tryz.f61, List.append_eq, List.cons_append, List.nil_append]
  obtain ⟨n, hn⟩ : ∃ n, n = a.length := ⟨_, rfl⟩
  by_cases hab : a.length = b.length
  case neg =>
    have hab' : ¬ (a.length : Int) = b.length := by omega
    simp [hab']
    refine hK _ _ _ (.same _ (pu_tup (by simp))) ?_
    unfold joinP; rw [if_neg hab]; rfl
  simp only [joinP, if_pos hab] at hK
  simp [hab, flat_dcs]
  refine ⟨⟨by omega, by omega⟩, ?_⟩
  rw [← hab, ← hn]
  refine loop_on (γ := Nat × List DV) 38 (fun g => [(1, dsl nb b cb), (2, .fn (.func gf) [] []), (8, .so 0 0 0 n 3 (some n)), (19, dsl na a ca), (20, i n), (21, i g.1)])
    (fun g => [⟨.own, 0, dcs g.2⟩])
    (fun g => g.1 ≤ n ∧ g.2.length = n ∧ ∀ q, q < g.1 → (gv g.2 q).d = f (gv a q).m (gv b q).m) (fun g => n - g.1)
    (0, List.replicate n zDV) ⟨Nat.zero_le _, by simp, fun q hq => by omega⟩ (Wk.lst (by simp [dsl, hn]) (by simp)) ?_
  rintro ⟨g, vs⟩ ⟨hg, hvl, hvs⟩ L hL
  simp only at hg hvl hvs
  by_cases hlt : g < n
  · have ha : g < a.length := by omega
    have hb : g < b.length := by omega
    have hw1 : IntKind.i64.wrap ((g : Int) + 1) = ((g + 1 : Nat) : Int) := w64 _ (by omega) (by omega)
    have rA := dcs_read ha
    have rB := dcs_read hb
    have oa3 : g * 3 + 3 ≤ (dcs a).length := by rw [dcs_len]; omega
    have ob3 : g * 3 + 3 ≤ (dcs b).length := by rw [dcs_len]; omega
    have oa : g * 3 < (dcs a).length := by omega
    have ob : g * 3 < (dcs b).length := by omega
    have ho3 : g * 3 + 3 ≤ (dcs vs).length := by rw [dcs_len]; omega
    have cG := hG _ (gv_mem ha) _ (gv_mem hb)
    have hset : ∀ n1 c1, (((dcs vs).set (g * 3) (AV.v (.bool (f (gv a g).m (gv b g).m).1))).set (g * 3 + 1) (sl n1 (f (gv a g).m (gv b g).m).2.1 c1)).set (g * 3 + 1 + 1) (AV.v (.int .i64 (f (gv a g).m (gv b g).m).2.2)) = dcs (vs.set g (toV (f (gv a g).m (gv b g).m) n1 c1)) :=
      fun n1 c1 => dcs_set (l := vs) (k := g) (by omega) (toV (f (gv a g).m (gv b g).m) n1 c1)
    have hpre : ∀ n1 c1, g + 1 ≤ n ∧ (vs.set g (toV (f (gv a g).m (gv b g).m) n1 c1)).length = n ∧ ∀ q, q < g + 1 → (gv (vs.set g (toV (f (gv a g).m (gv b g).m) n1 c1)) q).d = f (gv a q).m (gv b q).m := by
      intro n1 c1
      refine ⟨by omega, by simpa using hvl, fun q hq => ?_⟩
      by_cases hqg : q = g
      · subst hqg; rw [gv_set_self (by omega)]; rfl
      · rw [gv_set_ne (by omega)]; exact hvs q (by omega)
    have hnext := fun n1 c1 => hL (g + 1, vs.set g (toV (f (gv a g).m (gv b g).m) n1 c1))
    generalize f (gv a g).m (gv b g).m = d at *
    generalize gv a g = u at *
    generalize gv b g = v at *
    obtain ⟨ug, un, ua, uc, ue⟩ := u
    obtain ⟨vg, vn, va, vc, ve⟩ := v
    change _ = dy ug un ua uc ue at rA
    change _ = dy vg vn va vc ve at rB
    simp [hlt, ha, hb, oa, oa3, ob, ob3, rA, cells_dy, wr, -cellsOf, -Int.natCast_add]
    refine draw_at [0, 0, 0, 1, 0, 0, 1, 1, 3, 1, 4] orders (by kernel_rfl) ?_
    simp [hlt, ha, hb, oa, oa3, ob, ob3, rB, cells_dy, -cellsOf, -Int.natCast_add]
    refine acall_by cG (by simp [DV.av, dy]) ?_
    rintro _ ⟨n1, c1, rfl⟩
    simp [cells_dy, wr, hw1, hlt, hvl, ho3, hset, -cellsOf, -Int.natCast_add]
    refine hnext n1 c1 _ _ (hpre n1 c1) (Wk.lst_drop 1 rfl (by simp [dsl, hn]) (by simp) (by simp [dsl]) ?_) (by show n - (g + 1) < n - g; omega)
    intro b hb' _ y hy
    simp only [List.mem_cons, List.not_mem_nil, or_false] at hb'
    rcases hb' with rfl
    exact sc_dcs _ _ y hy
  · obtain rfl : n = g := by omega
    have hmap : vs.map DV.d = List.zipWith f (a.map DV.m) (b.map DV.m) := by
      refine List.ext_getElem (by simp; omega) fun q h1 h2 => ?_
      have hq : q < a.length := by simp at h2; omega
      have hq' : q < b.length := by omega
      have := hvs q (by omega)
      rw [gv_at (by omega), gv_at hq, gv_at hq'] at this
      simp [this]
    have hnn : ¬ (n : Int) < n := by omega
    simp
    refine hK _ _ (.tup [dsl false vs (some n), bo true]) ?_ ⟨vs, _, hmap, rfl⟩
    refine .tup _ _ rfl fun q hq => ?_
    have : q = 0 ∨ q = 1 := by simp at hq; omega
    rcases this with rfl | rfl
    · exact pur_ds (k := .own) (l := vs) (by simp) (by decide) (by omega) (by simp)
    · exact .same _ (by simp)

/-- Dyads of few digits. -/
def LenOk (l : List DV) : Prop := ∀ d ∈ l, Dig d.a ∧ d.a.length ≤ 900
theorem okl_us {us : List DV} {G : List Dy} {L H : Int} (h : us.map DV.d = G) (ho : Okl L H G) (hk : H - L ≤ 28800) : LenOk us ∧ us.map DV.m = G := by
  refine ⟨fun d hd => ?_, ?_⟩
  · obtain ⟨o, b⟩ := ho d.d (by rw [← h]; exact List.mem_map.2 ⟨d, hd, rfl⟩)
    exact ⟨o.2, bd_len o b (by omega)⟩
  · rw [← h]
    refine List.map_congr_left fun d hd => ?_
    obtain ⟨o, b⟩ := ho d.d (by rw [← h]; exact List.mem_map.2 ⟨d, hd, rfl⟩)
    exact may_of_ok o.1
theorem gadd_ctr {a b : List DV} (na : Bool) (ca : Option Nat) (nb : Bool) (cb : Option Nat) (hl : a.length ≤ 100000) (ha : LenOk a) (hb : LenOk b) :
    Ctr Tryz.prog 25 [dsl na a ca, dsl nb b cb] (joinP addD a b) := by
  refine ctr_in Tryz.func25 rfl (by kernel_rfl) rfl fun K hK => ?_
  simp only [Tryz.f25, List.append_eq, List.cons_append, List.nil_append]
  have cJ := gjoin_ctr na ca nb cb addD 35 hl fun x hx y hy => add3_ctr x.neg x.nl y.neg y.nl x.a y.a x.cap y.cap x.e y.e (ha x hx).1 (hb y hy).1 (by have := (ha x hx).2; omega) (by have := (hb y hy).2; omega)
  simp
  refine acall_by cJ (by simp) ?_
  intro r hr
  have hr' := hr
  unfold joinP at hr'
  split at hr'
  · obtain ⟨us, cap, h1, rfl⟩ := hr'
    simp
    exact hK _ _ _ (.same _ (pu_tup (by simp))) hr
  · subst hr'
    simp
    exact hK _ _ _ (.same _ (pu_tup (by simp))) hr
theorem opp_m (y : DV) : oppD y.m = negD y.neg y.a y.e := by
  show negD (mayD y.neg y.a y.e).1 (mayD y.neg y.a y.e).2.1 (mayD y.neg y.a y.e).2.2 = _
  unfold negD
  rw [may_of_ok (may_ok y.neg y.a y.e)]
theorem gsub_ctr {a b : List DV} (na : Bool) (ca : Option Nat) (nb : Bool) (cb : Option Nat) (hl : a.length ≤ 100000) (ha : LenOk a) (hb : LenOk b) :
    Ctr Tryz.prog 41 [dsl na a ca, dsl nb b cb] (joinP (fun x y => addD x (oppD y)) a b) := by
  refine ctr_in Tryz.func41 rfl (by kernel_rfl) rfl fun K hK => ?_
  simp only [Tryz.f41, List.append_eq, List.cons_append, List.nil_append]
  have cJ := gjoin_ctr na ca nb cb (fun x y => addD x (oppD y)) 66 hl fun x hx y hy => by rw [opp_m]; exact sub3_ctr x.neg x.nl y.neg y.nl x.a y.a x.cap y.cap x.e y.e (ha x hx).1 (hb y hy).1 (by have := (ha x hx).2; omega) (by have := (hb y hy).2; omega)
  simp
  refine acall_by cJ (by simp) ?_
  intro r hr
  have hr' := hr
  unfold joinP at hr'
  split at hr'
  · obtain ⟨us, cap, h1, rfl⟩ := hr'
    simp
    exact hK _ _ _ (.same _ (pu_tup (by simp))) hr
  · subst hr'
    simp
    exact hK _ _ _ (.same _ (pu_tup (by simp))) hr
end Go.Proofs.Nt
/- gram.Rows. -/
set_option linter.unusedVariables false
set_option maxRecDepth 20000
set_option linter.unusedSimpArgs false
set_option linter.unnecessarySimpa false
namespace Go.Proofs.Nt
open Go Go.Proofs Go.Proofs.Va Go.RowKit

theorem zero_d (k : Nat) : (List.replicate k zDV).map DV.d = zerosL k := by rw [List.map_replicate]; rfl
theorem rowsG_snoc (n : Nat) (rs : List (List Nat × Nat)) (r : List Nat × Nat) : rowsG n (rs ++ [r]) = addL (rowsG n rs) (rowG r.1 r.2) := by
  unfold rowsG gramsOf sumL
  rw [List.map_append, List.foldl_append]; rfl
/-- Sums of rows are dyads of few digits. -/
theorem rows_okl {n : Nat} (hn : n ≤ 6) {rs : List (List Nat × Nat)} (h : rowsOk n rs) (hl : rs.length ≤ 1000) : Okl (-2148) 3100 (rowsG n rs) ∧ (rowsG n rs).length = sizeN n := by
  have hs := grams_same h hn
  refine ⟨okl_mono (sum_ok hs) (by omega) ?_, gsum_len hs⟩
  unfold gramsOf; simp; omega

end Go.Proofs.Nt
/- tri, ref07: what is too large; the document's powers of two. -/
set_option linter.unusedVariables false
set_option maxRecDepth 20000
set_option linter.unusedSimpArgs false
set_option linter.unnecessarySimpa false
namespace Go.Proofs.Nt
open Go Go.Proofs Go.Proofs.Va Go.RowKit

theorem pow420 : powW 420 = 6498694262295625728 := by decide +kernel
theorem frg_self {r : Nat} (h : r < 9223372036854775808) : frg r = r := Nat.mod_eq_of_lt h
theorem not_leq {r s : Nat} (hs : s ≤ 9218868437227405312) (hr : r < 9223372036854775808) : (!(Ieee.double.order r s == some .lt || Ieee.double.order r s == some .eq)) = decide (s < r) := by
  by_cases h : 9218868437227405312 < r
  · rw [order_nan (.inl (by rw [frg_self hr]; exact h))]
    have : s < r := by omega
    simp [this]
  · rw [order_rung (by omega) hs]
    rcases Nat.lt_trichotomy r s with h1 | h1 | h1
    · rw [if_pos h1]
      have : ¬ s < r := by omega
      simp [this]
    · subst h1
      simp
    · rw [if_neg (by omega), if_neg (by omega)]
      simp [h1]
theorem large_ctr {b : Nat} (hb : b < 18446744073709551616) : Ctr Tryz.prog 55 [fl b] (fun r => r = bo (largeB b)) := by
  refine ctr_val Tryz.func55 rfl (by kernel_rfl) rfl (by simp) fun K hK => ?_
  simp [Tryz.f55]
  refine acall_by (fabs_ctr hb) (by simp) ?_
  rintro _ rfl
  simp
  refine acall_by (pow_ctr 420 (by omega)) (by simp) ?_
  rintro _ rfl
  have h := not_leq (r := frg b) (s := 6498694262295625728) (by decide) (frg_lt b)
  rw [pow420]
  simp [-Bool.not_or]
  rw [h]
  exact hK _
end Go.Proofs.Nt
/- tri: whether one of a list is so; the rows of what is stored. -/
set_option linter.unusedVariables false
set_option maxRecDepth 20000
set_option linter.unusedSimpArgs false
set_option linter.unnecessarySimpa false
namespace Go.Proofs.Nt
open Go Go.Proofs Go.Proofs.Va Go.RowKit

section
variable {l : List Nat} (nl : Bool) (cap : Option Nat) (p : Nat → Bool) (gf : FuncId) (hl : l.length ≤ 100000) (hG : ∀ x ∈ l, Ctr Tryz.prog gf [fl x] (fun r => r = bo (p x)))
include hl hG
theorem index_ctr : Ctr Tryz.prog 86 [fsl nl l cap, .fn (.func gf) [] []] (fun r => ∃ z : Int, decide (0 ≤ z) = l.any p ∧ r = i z) := by
  refine ctr_in Tryz.func86 rfl (by kernel_rfl) rfl fun K hK => ?_
  simp only [Tryz.f86, List.append_eq, List.cons_append, List.nil_append]
  simp
  refine loop_on (γ := Nat) 19 (fun g => [(0, fsl nl l cap), (1, .fn (.func gf) [] []), (7, i l.length), (8, i g)]) (fun _ => [])
    (fun g => g ≤ l.length ∧ (l.take g).any p = false) (fun g => l.length - g) 0 ⟨Nat.zero_le _, rfl⟩ (Wk.lst (by simp [fsl]) (by simp)) ?_
  rintro g ⟨hg, hall⟩ L hL
  by_cases hlt : g < l.length
  · have hw1 : IntKind.i64.wrap ((g : Int) + 1) = ((g + 1 : Nat) : Int) := w64 _ (by omega) (by omega)
    have hmem := List.getElem_mem hlt
    have cG := hG _ hmem
    have htk : l.take (g + 1) = l.take g ++ [l[g]] := take_snoc hlt
    have hnext := hL (g + 1)
    simp only [htk] at hnext
    obtain ⟨q, hq⟩ : ∃ q, q = p l[g] := ⟨_, rfl⟩
    rw [← hq] at cG
    simp [hlt]
    refine acall_by cG (by simp) ?_
    rintro _ rfl
    cases q
    · simp [hw1, -Int.natCast_add]
      exact hnext _ _ ⟨by omega, by rw [List.any_append, hall]; simp [← hq]⟩ (Wk.lst (by simp) (by simp)) (by show _ - (g + 1) < _ - g; omega)
    · have ha : l.any p = true := List.any_eq_true.2 ⟨_, hmem, hq.symm⟩
      simp
      exact hK _ _ _ (.same _ (by simp)) ⟨g, by rw [ha]; simp, rfl⟩
  · have hge : g = l.length := by omega
    subst hge
    rw [List.take_length] at hall
    simp
    exact hK _ _ _ (.same _ (by simp)) ⟨-1, by rw [hall]; rfl, rfl⟩
theorem contains_ctr : Ctr Tryz.prog 54 [fsl nl l cap, .fn (.func gf) [] []] (fun r => r = bo (l.any p)) := by
  refine ctr_val Tryz.func54 rfl (by kernel_rfl) rfl (by simp) fun K hK => ?_
  simp [Tryz.f54]
  refine acall_by (index_ctr nl cap p gf hl hG) (by simp) ?_
  rintro _ ⟨z, hz, rfl⟩
  rw [← hz] at hK
  simp
  exact hK _
end

theorem slice_fhi {nl : Bool} {l : List Nat} {cap : Option Nat} {k : IntKind} {g : Nat} {σ : AHeap} {K : AV → AHeap → Prop} (h : g ≤ l.length) (hK : K (fsl (nl && l.isEmpty) (l.take g) cap) σ) :
    aSlice Tryz.prog 22 (fsl nl l cap) none (some (.v (.int k g))) none σ K := by
  unfold fsl at hK ⊢
  simp [h, -List.map_take] 
  rw [show (nl && l.isEmpty && (l.take g).isEmpty) = (nl && l.isEmpty) by cases nl <;> cases l <;> simp, List.length_take, Nat.min_eq_left h, List.map_take] at hK
  simpa using hK
theorem slice_flo {nl : Bool} {l : List Nat} {cap : Option Nat} {k : IntKind} {g : Nat} {σ : AHeap} {K : AV → AHeap → Prop} (h : g ≤ l.length) (hK : K (fsl (nl && l.isEmpty) (l.drop g) (cap.map (· - g))) σ) :
    aSlice Tryz.prog 22 (fsl nl l cap) (some (.v (.int k g))) none none σ K := by
  have e1 : ((l.length : Int) - g).toNat = l.length - g := by omega
  have e2 : ((l.map fl).drop g).take (l.length - g) = (l.drop g).map fl := by
    rw [List.map_drop, List.take_of_length_le (by simp)]
  unfold fsl at hK ⊢
  simp [e1, e2, h, -List.map_drop]
  rw [show (nl && l.isEmpty && (l.drop g).isEmpty) = (nl && l.isEmpty) by cases nl <;> cases l <;> simp, List.length_drop] at hK
  exact hK
end Go.Proofs.Nt
