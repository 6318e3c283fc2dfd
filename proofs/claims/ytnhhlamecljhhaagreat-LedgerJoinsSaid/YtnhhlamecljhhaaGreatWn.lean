import Derived.Test.YtnhhlamecljhhaaGreatWa
import Derived.Test.YtnhhlamecljhhaaGreatWb
import Derived.Test.YtnhhlamecljhhaaGreatWc
import Derived.Test.YtnhhlamecljhhaaGreatWd
import Derived.Test.YtnhhlamecljhhaaGreatWe
import Derived.Test.YtnhhlamecljhhaaGreatWf
import Derived.Test.YtnhhlamecljhhaaGreatWg
import Derived.Test.YtnhhlamecljhhaaGreatWh
import Derived.Test.YtnhhlamecljhhaaGreatWi
import Derived.Test.YtnhhlamecljhhaaGreatWk
import Derived.Test.YtnhhlamecljhhaaGreatWl
import Derived.Test.YtnhhlamecljhhaaGreatWm
/- Plain mathematics over the rationals: what rounded rotations lose. -/
set_option linter.unusedVariables false
namespace Go.Proofs.Nt

theorem q_total (a b : Rat) : a ≤ b ∨ b ≤ a := by grind
theorem sq_nn (a : Rat) : 0 ≤ a * a := by
  rcases q_total 0 a with h | h
  · exact Rat.mul_nonneg h h
  · have := Rat.mul_nonneg (a := -a) (b := -a) (by grind) (by grind)
    grind
theorem mul_le_r {a b c d : Rat} (h1 : a ≤ b) (h2 : c ≤ d) (h3 : 0 ≤ a) (h4 : 0 ≤ c) : a * c ≤ b * d := by
  have e1 := Rat.mul_nonneg (a := b - a) (b := c) (by grind) h4
  have e2 := Rat.mul_nonneg (a := b) (b := d - c) (by grind) (by grind)
  grind
/-- From squares. -/
theorem le_of_sq {a b : Rat} (hb : 0 ≤ b) (h : a * a ≤ b * b) : a ≤ b := by
  rcases q_total a b with h1 | h1
  · exact h1
  · have e1 := Rat.mul_nonneg (a := a - b) (b := a - b) (by grind) (by grind)
    have e2 := Rat.mul_nonneg (a := a - b) (b := b) (by grind) (by grind)
    have e3 : (a - b) * (a - b) ≤ 0 := by grind
    rcases q_total a b with h2 | h2
    · exact h2
    · refine Classical.byContradiction fun hn => ?_
      have e4 := Rat.mul_pos (a := a - b) (b := a - b) (by grind) (by grind)
      grind
def qa (x : Rat) : Rat := if 0 ≤ x then x else -x
theorem qa_le {x y : Rat} : qa x ≤ y ↔ x ≤ y ∧ -x ≤ y := by
  unfold qa; split <;> grind
theorem qa_nn (x : Rat) : 0 ≤ qa x := by unfold qa; split <;> grind
theorem qa_sq (x : Rat) : qa x * qa x = x * x := by unfold qa; split <;> grind
theorem qa_mul (x y : Rat) : qa (x * y) = qa x * qa y := by
  have h1 := qa_sq (x * y)
  have h2 := qa_sq x
  have h3 := qa_sq y
  have h4 := qa_nn (x * y)
  have h5 := Rat.mul_nonneg (qa_nn x) (qa_nn y)
  have h6 : qa (x * y) * qa (x * y) = (qa x * qa y) * (qa x * qa y) := by grind
  have l1 := le_of_sq h5 (by grind : qa (x * y) * qa (x * y) ≤ (qa x * qa y) * (qa x * qa y))
  have l2 := le_of_sq h4 (by grind : (qa x * qa y) * (qa x * qa y) ≤ qa (x * y) * qa (x * y))
  grind
theorem qa_add (x y : Rat) : qa (x + y) ≤ qa x + qa y := by unfold qa; (repeat' split) <;> grind
/-- Cauchy and Schwarz for pairs. -/
theorem cs2 {a b c d A B : Rat} (hA : 0 ≤ A) (hB : 0 ≤ B) (h1 : a * a + b * b ≤ A * A) (h2 : c * c + d * d ≤ B * B) : qa (a * c + b * d) ≤ A * B := by
  have e1 := sq_nn (a * d - b * c)
  have e2 : (a * c + b * d) * (a * c + b * d) ≤ (a * a + b * b) * (c * c + d * d) := by grind
  have e3 := mul_le_r h1 h2 (by have := sq_nn a; have := sq_nn b; grind) (by have := sq_nn c; have := sq_nn d; grind)
  have e4 : (A * A) * (B * B) = (A * B) * (A * B) := by grind
  refine le_of_sq (Rat.mul_nonneg hA hB) ?_
  rw [qa_sq]; grind

/-- One rotation's error in a product of two columns. -/
theorem rot_err {c s η e d τ xa ya xb yb wa wb αa βa αb βb xa' ya' xb' yb' : Rat}
    (hcs : c * c + s * s = 1 + η) (he : qa η ≤ e) (he1 : e ≤ 1) (hd : 0 ≤ d) (hτ : 0 ≤ τ)
    (hwa : 0 ≤ wa) (hwb : 0 ≤ wb) (ha : xa * xa + ya * ya ≤ wa * wa) (hb : xb * xb + yb * yb ≤ wb * wb)
    (x1 : xa' = c * xa + s * ya + αa) (x2 : ya' = c * ya - s * xa + βa) (x3 : xb' = c * xb + s * yb + αb) (x4 : yb' = c * yb - s * xb + βb)
    (ea : αa * αa + βa * βa ≤ (d * wa + τ) * (d * wa + τ)) (eb : αb * αb + βb * βb ≤ (d * wb + τ) * (d * wb + τ)) :
    qa (xa' * xb' + ya' * yb' - (xa * xb + ya * yb)) ≤ e * (wa * wb) + (1 + e) * (wa * (d * wb + τ) + (d * wa + τ) * wb) + (d * wa + τ) * (d * wb + τ) := by
  have e0 : 0 ≤ e := by have := qa_nn η; grind
  have hη := qa_le.1 he
  have n1 : 0 ≤ wa * wa - (xa * xa + ya * ya) := by grind
  have n2 : 0 ≤ wb * wb - (xb * xb + yb * yb) := by grind
  have da0 : 0 ≤ d * wa + τ := by have := Rat.mul_nonneg hd hwa; grind
  have db0 : 0 ≤ d * wb + τ := by have := Rat.mul_nonneg hd hwb; grind
  have p0 : ∀ x y w : Rat, 0 ≤ w → x * x + y * y ≤ w * w → (c * x + s * y) * (c * x + s * y) + (c * y - s * x) * (c * y - s * x) ≤ ((1 + e) * w) * ((1 + e) * w) := by
    intro x y w hw h
    have i1 : (c * x + s * y) * (c * x + s * y) + (c * y - s * x) * (c * y - s * x) = (1 + η) * (x * x + y * y) := by grind
    have i2 := mul_le_r (a := 1 + η) (b := 1 + e) (by grind) h (by grind) (by have := sq_nn x; have := sq_nn y; grind)
    have i3 := Rat.mul_nonneg (Rat.mul_nonneg (a := 1 + e) (b := e) (by grind) e0) (sq_nn w)
    grind
  have pa := p0 xa ya wa hwa ha
  have pb := p0 xb yb wb hwb hb
  have wa' : 0 ≤ (1 + e) * wa := Rat.mul_nonneg (by grind) hwa
  have wb' : 0 ≤ (1 + e) * wb := Rat.mul_nonneg (by grind) hwb
  have t1 := cs2 wa' db0 pa eb
  have t2 := cs2 da0 wb' ea pb
  have t3 := cs2 da0 db0 ea eb
  have t4 := cs2 hwa hwb ha hb
  have t5 : qa (η * (xa * xb + ya * yb)) ≤ e * (wa * wb) := by
    rw [qa_mul]; exact mul_le_r he t4 (qa_nn _) (qa_nn _)
  have t1 := qa_le.1 t1
  have t2 := qa_le.1 t2
  have t3 := qa_le.1 t3
  have t5 := qa_le.1 t5
  refine qa_le.2 ?_
  subst x1; subst x2; subst x3; subst x4
  have key : (c * xa + s * ya + αa) * (c * xb + s * yb + αb) + (c * ya - s * xa + βa) * (c * yb - s * xb + βb) - (xa * xb + ya * yb)
      = η * (xa * xb + ya * yb) + ((c * xa + s * ya) * αb + (c * ya - s * xa) * βb) + (αa * (c * xb + s * yb) + βa * (c * yb - s * xb)) + (αa * αb + βa * βb) := by grind
  rw [key]
  constructor <;> grind

/-- Near: relative to two norms' squares, and beyond. -/
def Fm (E X Y K T : Rat) : Prop := ∀ A B, 0 < A → 0 < B → X ≤ A * A → Y ≤ B * B → qa E ≤ K * (A * B) + T * (A + B) + T * T

theorem Fm.norm {G N X K T A : Rat} (h : Fm (G - N) X X K T) (hN : N ≤ X) (hA : 0 < A) (hX : X ≤ A * A) (hK : 0 ≤ K) (hT : 0 ≤ T) : G ≤ ((1 + K) * A + T) * ((1 + K) * A + T) := by
  have := (qa_le.1 (h A A hA hA hX hX)).1
  have h1 := Rat.mul_nonneg hK (sq_nn A)
  have h2 := Rat.mul_nonneg (Rat.mul_nonneg hK hK) (sq_nn A)
  have h3 := Rat.mul_nonneg hK (Rat.mul_nonneg hT (Rat.le_of_lt hA))
  grind
theorem Fm.mono {E X Y X' Y' K K' T T' : Rat} (h : Fm E X Y K T) (hX : X ≤ X') (hY : Y ≤ Y') (hK : K ≤ K') (hT : T ≤ T') (h0 : 0 ≤ T) : Fm E X' Y' K' T' := by
  intro A B hA hB h1 h2
  have := h A B hA hB (by grind) (by grind)
  have e1 := Rat.mul_nonneg (a := K' - K) (b := A * B) (by grind) (Rat.le_of_lt (Rat.mul_pos hA hB))
  have e2 := Rat.mul_nonneg (a := T' - T) (b := A + B) (by grind) (by grind)
  have e3 := mul_le_r hT hT h0 h0
  grind

/-- One rotation more. -/
theorem Fm.step {E e X Y Va Vb K T u h : Rat} (hF : Fm E X Y K T) (hu : 0 ≤ u) (hu1 : u * 1125899906842624 ≤ 1) (hK : 0 ≤ K) (hK1 : K * 1048576 ≤ 1) (hT : 0 ≤ T) (hT1 : T ≤ 1048576 * h) (hh : 0 < h)
    (na : ∀ A, 0 < A → X ≤ A * A → Va ≤ ((1 + K) * A + T) * ((1 + K) * A + T)) (nb : ∀ A, 0 < A → Y ≤ A * A → Vb ≤ ((1 + K) * A + T) * ((1 + K) * A + T))
    (he : ∀ p q, 0 < p → 0 < q → Va ≤ p * p → Vb ≤ q * q → qa e ≤ 26 * u * (p * q) + 4 * h * (p + q) + 30 * (h * h)) :
    Fm (E + e) X Y (K + 32 * u) (T + 6 * h) := by
  intro A B hA hB h1 h2
  have hE := hF A B hA hB h1 h2
  have hKA := Rat.mul_pos (a := 1 + K) (b := A) (by grind) hA
  have hKB := Rat.mul_pos (a := 1 + K) (b := B) (by grind) hB
  have hE2 := he ((1 + K) * A + T) ((1 + K) * B + T) (by grind) (by grind) (na A hA h1) (nb B hB h2)
  have hs := qa_add E e
  have hAB := Rat.mul_pos hA hB
  clear hF na nb he h1 h2
  have c1 : 26 * ((1 + K) * (1 + K)) ≤ 27 := by
    have := mul_le_r (a := K) (b := 1 / 1048576) (c := K) (d := 1) (by grind) (by grind) hK hK
    grind
  have q1 := Rat.mul_nonneg (a := u * (A * B)) (b := 27 - 26 * ((1 + K) * (1 + K))) (Rat.mul_nonneg hu (Rat.le_of_lt hAB)) (by grind)
  have uT : u * T * 1073741824 ≤ h := by
    have := mul_le_r (a := u * 1125899906842624) (b := 1) (c := T) (d := 1048576 * h) hu1 hT1 (by grind) hT
    grind
  have uT0 := Rat.mul_nonneg hu hT
  have q2 := Rat.mul_nonneg (a := 1 - K) (b := u * T) (by grind) uT0
  have q3 := Rat.mul_nonneg (a := 1 - K * 1048576) (b := h) (by grind) (Rat.le_of_lt hh)
  have q0 := Rat.mul_nonneg hK (Rat.le_of_lt hh)
  have lin : 26 * u * (1 + K) * T + 4 * h * (1 + K) ≤ 6 * h := by grind
  have q7 := Rat.mul_nonneg (a := A + B) (b := 6 * h - (26 * u * (1 + K) * T + 4 * h * (1 + K))) (by grind) (by grind)
  have q8 := Rat.mul_nonneg (a := T) (b := h - u * T * 1073741824) hT (by grind)
  have q9 := Rat.mul_nonneg (a := T) (b := h) hT (Rat.le_of_lt hh)
  have q12 := Rat.mul_pos hh hh
  have q13 := Rat.mul_nonneg (Rat.mul_nonneg hu (Rat.le_of_lt hAB)) (by grind : (0 : Rat) ≤ 5)
  generalize qa (E + e) = a1 at *
  generalize qa E = a2 at *
  generalize qa e = a3 at *
  grind
/-- The error of a rotation, of what is known of its floats. -/
theorem rot_he {u h e p q : Rat} (hu : 0 ≤ u) (hu1 : u * 1125899906842624 ≤ 1) (hh : 0 ≤ h) (hp : 0 ≤ p) (hq : 0 ≤ q)
    (he : qa e ≤ 8 * u * (p * q) + (1 + 8 * u) * (p * (8 * u * q + 3 * h) + (8 * u * p + 3 * h) * q) + (8 * u * p + 3 * h) * (8 * u * q + 3 * h)) :
    qa e ≤ 25 * u * (p * q) + 25 / 8 * h * (p + q) + 9 * (h * h) := by
  have pq := Rat.mul_nonneg hp hq
  have m1 := Rat.mul_nonneg (a := u * (1 - u * 1125899906842624)) (b := p * q) (Rat.mul_nonneg hu (by grind)) pq
  have m2 := Rat.mul_nonneg (a := h * (1 - u * 1125899906842624)) (b := p + q) (Rat.mul_nonneg hh (by grind)) (by grind)
  have m3 := Rat.mul_nonneg hu pq
  have m4 := Rat.mul_nonneg hh (show 0 ≤ p + q by grind)
  grind

/-- Rounded: relatively, and beyond. -/
def Rd (u h x t : Rat) : Prop := qa (x - t) ≤ u * qa t + h

theorem Rd.bnd {u h x t : Rat} (hr : Rd u h x t) : qa x ≤ (1 + u) * qa t + h := by
  have h1 := qa_add (x - t) t
  have h2 : x - t + t = x := by grind
  rw [h2] at h1
  unfold Rd at hr
  grind
theorem qa_sum_sq {a b A : Rat} (hA : 0 ≤ A) (h : a * a + b * b ≤ A * A) : qa a ≤ A ∧ qa b ≤ A :=
  ⟨le_of_sq hA (by rw [qa_sq]; have := sq_nn b; grind), le_of_sq hA (by rw [qa_sq]; have := sq_nn a; grind)⟩
/-- A sum of two rounded products. -/
theorem sum_err {u h a b p q x w : Rat} (hu : 0 ≤ u) (hu1 : u * 1024 ≤ 1) (hh : 0 ≤ h) (h1 : Rd u h p a) (h2 : Rd u h q b) (h3 : Rd u 0 x (p + q)) (hw : qa a + qa b ≤ w) :
    qa (x - (a + b)) ≤ (2 + 1 / 512) * u * w + (2 + 1 / 512) * h := by
  have b1 := h1.bnd
  have b2 := h2.bnd
  have s1 := qa_add p q
  have s2 := qa_add (x - (p + q)) ((p - a) + (q - b))
  have s3 := qa_add (p - a) (q - b)
  have e : x - (p + q) + ((p - a) + (q - b)) = x - (a + b) := by grind
  rw [e] at s2
  unfold Rd at h1 h2 h3
  have m1 := Rat.mul_nonneg (a := u) (b := qa p + qa q - qa (p + q)) hu (by grind)
  have m2 := Rat.mul_nonneg (a := u) (b := (1 + u) * qa a + h - qa p) hu (by grind)
  have m3 := Rat.mul_nonneg (a := u) (b := (1 + u) * qa b + h - qa q) hu (by grind)
  have m4 := Rat.mul_nonneg (a := u) (b := w - (qa a + qa b)) hu (by grind)
  have w0 : 0 ≤ w := by have := qa_nn a; have := qa_nn b; grind
  have m5 := Rat.mul_nonneg (a := u * (1 - u * 1024)) (b := w) (Rat.mul_nonneg hu (by grind)) w0
  have m6 := Rat.mul_nonneg (a := u * u) (b := w - (qa a + qa b)) (Rat.mul_nonneg hu hu) (by grind)
  have m7 := Rat.mul_nonneg (a := 1 - u * 1024) (b := h) (by grind) hh
  have m8 := Rat.mul_nonneg hu w0
  clear e
  generalize qa (x - (a + b)) = X0 at *
  generalize qa (x - (p + q)) = X1 at *
  generalize qa (p - a + (q - b)) = X2 at *
  generalize qa (p - a) = X3 at *
  generalize qa (q - b) = X4 at *
  generalize qa (p + q) = X5 at *
  generalize qa p = X6 at *
  generalize qa q = X7 at *
  generalize qa a = X8 at *
  generalize qa b = X9 at *
  clear hu hu1 hh hw w0
  grind

theorem qa_neg (x : Rat) : qa (-x) = qa x := by unfold qa; (repeat' split) <;> grind
theorem qa_of {x : Rat} (h : 0 ≤ x) : qa x = x := by unfold qa; rw [if_pos h]
theorem Rd.neg {u h x t : Rat} (hr : Rd u h x t) : Rd u h (-x) (-t) := by
  unfold Rd at *
  rw [show -x - -t = -(x - t) by grind, qa_neg, qa_neg]
  exact hr
theorem sq_of_le {a b : Rat} (h : qa a ≤ b) : a * a ≤ b * b := by
  have := mul_le_r h h (qa_nn a) (qa_nn a)
  rwa [qa_sq] at this
/-- The sizes of two products. -/
theorem sz2 {c s x y C w : Rat} (hC : 0 ≤ C) (hw : 0 ≤ w) (h1 : c * c + s * s ≤ C * C) (h2 : x * x + y * y ≤ w * w) : qa (c * x) + qa (s * y) ≤ C * w := by
  have := cs2 (a := qa c) (b := qa s) (c := qa x) (d := qa y) hC hw (by rw [qa_sq, qa_sq]; exact h1) (by rw [qa_sq, qa_sq]; exact h2)
  rw [qa_mul, qa_mul]
  exact (qa_le.1 this).1
theorem turn_err {u h c s η x y w p1 p2 q1 q2 x' y' : Rat} (hu : 0 ≤ u) (hu1 : u * 1125899906842624 ≤ 1) (hh : 0 ≤ h) (hw : 0 ≤ w)
    (hcs : c * c + s * s = 1 + η) (he : qa η ≤ 8 * u) (hxy : x * x + y * y ≤ w * w)
    (h1 : Rd u h p1 (c * x)) (h2 : Rd u h p2 (s * y)) (h3 : Rd u 0 x' (p1 + p2)) (g1 : Rd u h q1 (c * y)) (g2 : Rd u h q2 (s * x)) (g3 : Rd u 0 y' (q1 - q2)) :
    ∃ α β, x' = c * x + s * y + α ∧ y' = c * y - s * x + β ∧ α * α + β * β ≤ (8 * u * w + 3 * h) * (8 * u * w + 3 * h) := by
  refine ⟨x' - (c * x + s * y), y' - (c * y - s * x), by grind, by grind, ?_⟩
  have hη := qa_le.1 he
  have C0 : c * c + s * s ≤ (1 + 8 * u) * (1 + 8 * u) := by
    have := Rat.mul_nonneg hu hu
    grind
  have z1 := sz2 (C := 1 + 8 * u) (by grind) hw C0 hxy
  have z2 := sz2 (C := 1 + 8 * u) (x := y) (y := x) (by grind) hw C0 (by grind)
  have e1 := sum_err hu (by grind) hh h1 h2 h3 z1
  have g2' := g2.neg
  rw [show q1 - q2 = q1 + -q2 by grind] at g3
  have e2 := sum_err hu (by grind) hh g1 g2' g3 (by rw [qa_neg]; exact z2)
  rw [show c * y + -(s * x) = c * y - s * x by grind] at e2
  have uw := Rat.mul_nonneg hu hw
  have uuw : u * u * w * 1125899906842624 ≤ u * w := by
    have := Rat.mul_nonneg (a := 1 - u * 1125899906842624) (b := u * w) (by grind) uw
    grind
  have e1' : qa (x' - (c * x + s * y)) ≤ 129 / 64 * (u * w + h) := by grind
  have e2' : qa (y' - (c * y - s * x)) ≤ 129 / 64 * (u * w + h) := by grind
  have f1 := sq_of_le e1'
  have f2 := sq_of_le e2'
  have f3 := Rat.mul_nonneg uw hh
  have f4 := sq_nn h
  have f5 := Rat.mul_nonneg uw uw
  clear e1 e2 e1' e2' hcs he hη h1 h2 h3 g1 g2 g3 g2' C0 z1 z2 hxy
  grind

theorem prod_err {u h C ε : Rat} (hu : 0 ≤ u) (hh : 0 ≤ h) (hC : qa C ≤ 2) (e : qa ε ≤ u * qa C + h) : qa (C * ε) ≤ u * (C * C) + 2 * h ∧ qa ε ≤ 2 * u + h := by
  have qC := qa_nn C
  have m := mul_le_r (Rat.le_refl (a := qa C)) e qC (qa_nn _)
  have m2 := Rat.mul_nonneg (a := h) (b := 2 - qa C) hh (by grind)
  have m3 : u * (qa C * qa C) = u * (C * C) := by rw [qa_sq]
  have m4 := Rat.mul_nonneg (a := u) (b := 2 - qa C) hu (by grind)
  rw [qa_mul]
  constructor <;> grind
theorem of_eta {u h C D ε δ : Rat} (hu : 0 < u) (hu1 : u * 1125899906842624 ≤ 1) (hh : 0 ≤ h) (hh1 : h ≤ u * u * u)
    (hζ : qa (C * C + D * D - 1) ≤ (4 + 1 / 16) * u) (cC : qa C ≤ 2) (cD : qa D ≤ 2) (e1 : qa ε ≤ u * qa C + h) (e2 : qa δ ≤ u * qa D + h) :
    ∃ η, (C + ε) * (C + ε) + (D + δ) * (D + δ) = 1 + η ∧ qa η ≤ 8 * u := by
  have uu0 := Rat.le_of_lt hu
  have hζ1 := qa_le.1 hζ
  obtain ⟨p1, e1b⟩ := prod_err uu0 hh cC e1
  obtain ⟨p2, e2b⟩ := prod_err uu0 hh cD e2
  have s1 := sq_of_le e1b
  have s2 := sq_of_le e2b
  have u2 := Rat.mul_nonneg (a := u) (b := 1 - u * 1125899906842624) uu0 (by grind)
  have u3 := Rat.mul_nonneg (a := u * u) (b := 1 - u * 1125899906842624) (Rat.mul_nonneg uu0 uu0) (by grind)
  have hu2 : h * 1125899906842624 ≤ u * u := by grind
  have m1 := mul_le_r hu2 hu2 (by grind) (by grind)
  have m2 := Rat.mul_nonneg (a := u) (b := u * u - h * 1125899906842624) uu0 (by grind)
  have m3 := Rat.mul_nonneg (a := u * u) (b := u - u * u * 1125899906842624) (Rat.mul_nonneg uu0 uu0) (by grind)
  have eb : (2 * u + h) * (2 * u + h) ≤ 5 * (u * u) := by grind
  have p1' := qa_le.1 p1
  have p2' := qa_le.1 p2
  have uCD1 := Rat.mul_nonneg (a := u) (b := 1 + (4 + 1 / 16) * u - (C * C + D * D)) uu0 (by grind)
  have n1 := sq_nn ε
  have n2 := sq_nn δ
  have n3 := sq_nn C
  have n4 := sq_nn D
  have uu4 := Rat.mul_nonneg uu0 (show 0 ≤ C * C + D * D by grind)
  refine ⟨C * C + D * D - 1 + 2 * (C * ε + D * δ) + (ε * ε + δ * δ), by grind, ?_⟩
  clear hζ e1 e2 p1 p2 e1b e2b m1 m2 m3 cC cD
  generalize C * ε = x1 at *
  generalize D * δ = x2 at *
  generalize ε * ε = x3 at *
  generalize δ * δ = x4 at *
  generalize (2 * u + h) * (2 * u + h) = x5 at *
  exact qa_le.2 ⟨by grind, by grind⟩
theorem res_core {u h X Y H C D ε δ : Rat} (hu : 0 < u) (hu1 : u * 1125899906842624 ≤ 1) (hh : 0 ≤ h) (hh1 : h ≤ u * u * u)
    (hx : qa (C * H - X) ≤ h) (hy : qa (D * H - Y) ≤ h) (hH0 : 0 < H) (hH1 : h ≤ u * u * H)
    (hζ : qa (C * C + D * D - 1) ≤ (4 + 1 / 16) * u) (cC : qa C ≤ 2) (cD : qa D ≤ 2) (e1 : qa ε ≤ u * qa C + h) (e2 : qa δ ≤ u * qa D + h) :
    qa ((C + ε) * X + (D + δ) * Y - H) ≤ (5 + 1 / 8) * (u * H) ∧ qa ((C + ε) * Y - (D + δ) * X) ≤ (1 + 1 / 8) * (u * H) := by
  have uu0 := Rat.le_of_lt hu
  have H0 := Rat.le_of_lt hH0
  obtain ⟨p1, e1b⟩ := prod_err uu0 hh cC e1
  obtain ⟨p2, e2b⟩ := prod_err uu0 hh cD e2
  have uH := Rat.mul_nonneg uu0 H0
  have u2H : u * u * H * 1125899906842624 ≤ u * H := by
    have := Rat.mul_nonneg (a := 1 - u * 1125899906842624) (b := u * H) (by grind) uH
    grind
  have hH : h * H * 1125899906842624 ≤ u * H := by
    have m1 := Rat.mul_nonneg (a := u * u * u - h) (b := H) (by grind) H0
    have m2 := Rat.mul_nonneg (a := u) (b := u * H - u * u * H * 1125899906842624) uu0 (by grind)
    have m3 := Rat.mul_nonneg (a := 1 - u) (b := u * u * H) (by grind) (Rat.mul_nonneg (Rat.mul_nonneg uu0 uu0) H0)
    grind
  have h4 : h * 4 ≤ 1 := by
    have m1 := Rat.mul_nonneg (a := u) (b := 1 - u * 1125899906842624) uu0 (by grind)
    have m2 := Rat.mul_nonneg (a := u * u) (b := 1 - u * 1125899906842624) (Rat.mul_nonneg uu0 uu0) (by grind)
    grind
  have qc : qa (C + ε) ≤ 3 := by have := qa_add C ε; clear p1 p2 hx hy hζ e1 e2; grind
  have qd : qa (D + δ) ≤ 3 := by have := qa_add D δ; clear p1 p2 hx hy hζ e1 e2; grind
  have t : ∀ a b : Rat, qa a ≤ 3 → qa b ≤ h → qa (a * b) ≤ 3 * h := fun a b ha hb => by rw [qa_mul]; exact mul_le_r ha hb (qa_nn _) (qa_nn _)
  have t1 := qa_le.1 (t _ _ qc hx)
  have t2 := qa_le.1 (t _ _ qd hy)
  have t3 := qa_le.1 (t _ _ qc hy)
  have t4 := qa_le.1 (t _ _ qd hx)
  have ζ := qa_le.1 hζ
  have r0 : qa ((C * C + D * D - 1) * H) ≤ (4 + 1 / 16) * (u * H) := by
    rw [qa_mul, qa_of H0]
    have := Rat.mul_nonneg (a := (4 + 1 / 16) * u - qa (C * C + D * D - 1)) (b := H) (by grind) H0
    grind
  have uCD : (u * (C * C + D * D) + 4 * h) * H ≤ (1 + 1 / 1024) * (u * H) := by
    have m1 := Rat.mul_nonneg (a := u * H) (b := 1 + (4 + 1 / 16) * u - (C * C + D * D)) uH (by grind)
    grind
  have r1 : qa (ε * (C * H) + δ * (D * H)) ≤ (1 + 1 / 1024) * (u * H) := by
    have k : ε * (C * H) + δ * (D * H) = (C * ε + D * δ) * H := by grind
    rw [k, qa_mul, qa_of H0]
    have k2 := qa_add (C * ε) (D * δ)
    have m := Rat.mul_nonneg (a := u * (C * C + D * D) + 4 * h - qa (C * ε + D * δ)) (b := H) (by grind) H0
    grind
  have r2 : qa (ε * (D * H) - δ * (C * H)) ≤ (1 + 1 / 1024) * (u * H) := by
    have k : ε * (D * H) - δ * (C * H) = (D * ε + -(C * δ)) * H := by grind
    rw [k, qa_mul, qa_of H0]
    have k2 := qa_add (D * ε) (-(C * δ))
    rw [qa_neg, qa_mul, qa_mul] at k2
    have m1 := mul_le_r (Rat.le_refl (a := qa D)) e1 (qa_nn _) (qa_nn _)
    have m2 := mul_le_r (Rat.le_refl (a := qa C)) e2 (qa_nn _) (qa_nn _)
    have m3 := Rat.mul_nonneg uu0 (sq_nn (qa C - qa D))
    have m4 := Rat.mul_nonneg (a := h) (b := 2 - qa C) hh (by grind)
    have m5 := Rat.mul_nonneg (a := h) (b := 2 - qa D) hh (by grind)
    have m6 : u * (qa C * qa C) = u * (C * C) := by rw [qa_sq]
    have m7 : u * (qa D * qa D) = u * (D * D) := by rw [qa_sq]
    have : qa (D * ε + -(C * δ)) ≤ u * (C * C + D * D) + 4 * h := by grind
    have m := Rat.mul_nonneg (a := u * (C * C + D * D) + 4 * h - qa (D * ε + -(C * δ))) (b := H) (by grind) H0
    grind
  have r0 := qa_le.1 r0
  have r1 := qa_le.1 r1
  have r2 := qa_le.1 r2
  have E1 : (C + ε) * X + (D + δ) * Y - H = (C * C + D * D - 1) * H + (ε * (C * H) + δ * (D * H)) - ((C + ε) * (C * H - X) + (D + δ) * (D * H - Y)) := by grind
  have E2 : (C + ε) * Y - (D + δ) * X = (ε * (D * H) - δ * (C * H)) - ((C + ε) * (D * H - Y) - (D + δ) * (C * H - X)) := by grind
  rw [E1, E2]
  generalize (C * C + D * D - 1) * H = z0 at *
  generalize ε * (C * H) + δ * (D * H) = z1 at *
  generalize ε * (D * H) - δ * (C * H) = z2 at *
  generalize (C + ε) * (C * H - X) = z3 at *
  generalize (D + δ) * (D * H - Y) = z4 at *
  generalize (C + ε) * (D * H - Y) = z5 at *
  generalize (D + δ) * (C * H - X) = z6 at *
  clear t hx hy hζ ζ e1 e2 p1 p2 uCD E1 E2
  exact ⟨qa_le.2 ⟨by grind, by grind⟩, qa_le.2 ⟨by grind, by grind⟩⟩
theorem of_res {u h P X Y x y H S C D ε δ r : Rat} (hu : 0 < u) (hu1 : u * 1125899906842624 ≤ 1) (hh : 0 ≤ h) (hh1 : h ≤ u * u * u) (hP : 0 < P) (hx : qa (x - X) ≤ h) (hy : qa (y - Y) ≤ h) (hH0 : 0 < H) (hH1 : h ≤ u * u * H)
    (hSd : x * x + y * y = S) (hHS : qa (H * H - S) ≤ (4 + 1 / 64) * u * S) (hCx : x = C * H) (hDy : y = D * H) (hζ : qa (C * C + D * D - 1) ≤ (4 + 1 / 16) * u) (cC : qa C ≤ 2) (cD : qa D ≤ 2) (e1 : qa ε ≤ u * qa C + h) (e2 : qa δ ≤ u * qa D + h) (hr : qa (r - H * P) ≤ h) :
    ∃ α β, r = (C + ε) * (P * X) + (D + δ) * (P * Y) + α ∧ 0 = (C + ε) * (P * Y) - (D + δ) * (P * X) + β ∧ ∀ w, 0 ≤ w → (P * X) * (P * X) + (P * Y) * (P * Y) ≤ w * w → α * α + β * β ≤ (8 * u * w + 3 * h) * (8 * u * w + 3 * h) := by
  subst hCx; subst hDy
  obtain ⟨rα, rβ⟩ := res_core hu hu1 hh hh1 hx hy hH0 hH1 hζ cC cD e1 e2
  refine ⟨r - P * ((C + ε) * X + (D + δ) * Y), -(P * ((C + ε) * Y - (D + δ) * X)), by grind, by grind, ?_⟩
  intro w hw hXY
  have uu0 := Rat.le_of_lt hu
  have P0 := Rat.le_of_lt hP
  have H0 := Rat.le_of_lt hH0
  -- H P is not above w by much
  have hHP : H * P ≤ (1 + 4 * u) * w := by
    refine le_of_sq (Rat.mul_nonneg (by grind) hw) ?_
    have hb : ∀ c z : Rat, qa c ≤ 2 → qa (c * H - z) ≤ h → (c * H) * (c * H) ≤ z * z + 8 * (u * u) * (H * H) := by
      intro c z hc hz
      have h1 := qa_le.1 hz
      have hc1 := qa_le.1 hc
      have m1 := sq_of_le hz
      have m2 := mul_le_r hH1 hH1 hh hh
      have m4 : qa (c * H) ≤ 2 * H := by rw [qa_mul, qa_of H0]; have := Rat.mul_nonneg (a := 2 - qa c) (b := H) (by grind) H0; grind
      have m5 : qa ((c * H) * (c * H - z)) ≤ (2 * H) * (u * u * H) := by rw [qa_mul]; exact mul_le_r m4 (by grind) (qa_nn _) (qa_nn _)
      have m5 := (qa_le.1 m5).1
      have m6 := sq_nn (c * H - z)
      have m7 := Rat.mul_nonneg (Rat.mul_nonneg uu0 uu0) (Rat.mul_nonneg H0 H0)
      grind
    have k1 := hb C X cC hx
    have k2 := hb D Y cD hy
    have l1 := qa_le.1 hHS
    have HH : 0 < H * H := Rat.mul_pos hH0 hH0
    have PP : 0 < P * P := Rat.mul_pos hP hP
    have S1 : H * H ≤ (1 + (4 + 1 / 64) * u) * (X * X + Y * Y + 16 * (u * u) * (H * H)) := by
      have m := Rat.mul_nonneg (a := 1 + (4 + 1 / 64) * u) (b := X * X + Y * Y + 16 * (u * u) * (H * H) - S) (by grind) (by grind)
      grind
    have u2 := Rat.mul_nonneg (a := u) (b := 1 - u * 1125899906842624) uu0 (by grind)
    have u3 := Rat.mul_nonneg (a := u * u) (b := 1 - u * 1125899906842624) (Rat.mul_nonneg uu0 uu0) (by grind)
    have uHH := Rat.mul_nonneg (a := u - u * u * 1125899906842624) (b := H * H) (by grind) (Rat.le_of_lt HH)
    have uuHH := Rat.mul_nonneg (a := u * u - u * u * u * 1125899906842624) (b := H * H) (by grind) (Rat.le_of_lt HH)
    have uh0 := Rat.mul_nonneg uu0 (Rat.le_of_lt HH)
    have S2 : (1 - (1 / 64) * u) * (H * H) ≤ (1 + (4 + 1 / 64) * u) * (X * X + Y * Y) := by grind
    have S3 := Rat.mul_nonneg (a := (1 + (4 + 1 / 64) * u) * (X * X + Y * Y) - (1 - (1 / 64) * u) * (H * H)) (b := P * P) (by grind) (Rat.le_of_lt PP)
    have S4 := Rat.mul_nonneg (a := 1 + (4 + 1 / 64) * u) (b := w * w - ((P * X) * (P * X) + (P * Y) * (P * Y))) (by grind) (by grind)
    have S5 : (1 - (1 / 64) * u) * (H * P * (H * P)) ≤ (1 + (4 + 1 / 64) * u) * (w * w) := by grind
    have S6 := Rat.mul_nonneg (a := (1 - (1 / 64) * u) * ((1 + 4 * u) * (1 + 4 * u)) - (1 + (4 + 1 / 64) * u)) (b := w * w) (by grind) (sq_nn w)
    have S7 : (1 - (1 / 64) * u) * (H * P * (H * P)) ≤ (1 - (1 / 64) * u) * ((1 + 4 * u) * w * ((1 + 4 * u) * w)) := by grind
    exact Rat.le_of_mul_le_mul_left S7 (by grind)
  have a1 : qa (r - P * ((C + ε) * X + (D + δ) * Y)) ≤ h + (5 + 1 / 8) * (u * (H * P)) := by
    have k : r - P * ((C + ε) * X + (D + δ) * Y) = (r - H * P) + -(P * ((C + ε) * X + (D + δ) * Y - H)) := by grind
    rw [k]
    have k2 := qa_add (r - H * P) (-(P * ((C + ε) * X + (D + δ) * Y - H)))
    rw [qa_neg, qa_mul, qa_of P0] at k2
    have m := Rat.mul_nonneg (a := P) (b := (5 + 1 / 8) * (u * H) - qa ((C + ε) * X + (D + δ) * Y - H)) P0 (by grind)
    grind
  have b1 : qa (-(P * ((C + ε) * Y - (D + δ) * X))) ≤ (1 + 1 / 8) * (u * (H * P)) := by
    rw [qa_neg, qa_mul, qa_of P0]
    have m := Rat.mul_nonneg (a := P) (b := (1 + 1 / 8) * (u * H) - qa ((C + ε) * Y - (D + δ) * X)) P0 (by grind)
    grind
  have a2 := sq_of_le a1
  have b2 := sq_of_le b1
  have HP0 := Rat.mul_nonneg H0 P0
  have Q0 := Rat.mul_nonneg uu0 HP0
  have c1 : h + 6 * (u * (H * P)) ≤ 8 * u * w + 3 * h := by
    have m := Rat.mul_nonneg (a := u) (b := (1 + 4 * u) * w - H * P) uu0 (by grind)
    have m2 := Rat.mul_nonneg (a := u * (1 - u * 1125899906842624)) (b := w) (Rat.mul_nonneg uu0 (by grind)) hw
    have m3 := Rat.mul_nonneg uu0 hw
    grind
  have c2 := mul_le_r c1 c1 (by grind) (by grind)
  have d1 := Rat.mul_nonneg hh Q0
  have d2 := Rat.mul_nonneg Q0 Q0
  generalize u * (H * P) = Q at *
  generalize (8 * u * w + 3 * h) * (8 * u * w + 3 * h) = Z at *
  clear rα rβ hXY hHP a1 b1 c1 hHS hζ
  generalize (r - P * ((C + ε) * X + (D + δ) * Y)) * (r - P * ((C + ε) * X + (D + δ) * Y)) = Z1 at *
  generalize -(P * ((C + ε) * Y - (D + δ) * X)) * -(P * ((C + ε) * Y - (D + δ) * X)) = Z2 at *
  grind

/-- Two whole rotations: what is rotated to 0. X, Y: the numbers, scaled by P; x, y: those that were scaled in floats. -/
theorem of_err {u h P X Y x y a b q H c s r : Rat} (hu : 0 < u) (hu1 : u * 1125899906842624 ≤ 1) (hh : 0 ≤ h) (hh1 : h ≤ u * u * u) (hP : 0 < P)
    (hx : qa (x - X) ≤ h) (hy : qa (y - Y) ≤ h) (hS : h ≤ u * u * (x * x + y * y)) (hH0 : 0 < H) (hH1 : h ≤ u * u * H)
    (ha : Rd u h a (x * x)) (hb : Rd u h b (y * y)) (hq : Rd u 0 q (a + b)) (hHl : (1 - u) * (1 - u) * q ≤ H * H) (hHu : H * H ≤ (1 + u) * (1 + u) * q)
    (hc : Rd u h c (x / H)) (hs : Rd u h s (y / H)) (hr : qa (r - H * P) ≤ h) :
    (∃ η, c * c + s * s = 1 + η ∧ qa η ≤ 8 * u) ∧
    ∃ α β, r = c * (P * X) + s * (P * Y) + α ∧ 0 = c * (P * Y) - s * (P * X) + β ∧ ∀ w, 0 ≤ w → (P * X) * (P * X) + (P * Y) * (P * Y) ≤ w * w → α * α + β * β ≤ (8 * u * w + 3 * h) * (8 * u * w + 3 * h) := by
  have hu2 : 0 < u * u := Rat.mul_pos hu hu
  have u2 : u * u * 1125899906842624 ≤ u := by
    have := Rat.mul_nonneg (a := 1 - u * 1125899906842624) (b := u) (by grind) (Rat.le_of_lt hu)
    grind
  have u3 : u * u * u * 1125899906842624 ≤ u * u := by
    have := Rat.mul_nonneg (a := 1 - u * 1125899906842624) (b := u * u) (by grind) (Rat.le_of_lt hu2)
    grind
  -- the squares' sum
  have nx := sq_nn x
  have ny := sq_nn y
  have eS := sum_err (Rat.le_of_lt hu) (by grind) hh ha hb hq (w := x * x + y * y) (by rw [qa_of nx, qa_of ny]; grind)
  generalize hSd : x * x + y * y = S at *
  have S0 : 0 ≤ S := by grind
  have eS1 : qa (q - S) ≤ (2 + 1 / 256) * u * S := by
    have m1 := Rat.mul_nonneg (a := u - u * u * 1125899906842624) (b := S) (by grind) S0
    grind
  have eS2 := qa_le.1 eS1
  have uS := Rat.mul_nonneg (Rat.le_of_lt hu) S0
  have uuS := Rat.mul_nonneg (a := u - u * u * 1125899906842624) (b := S) (by grind) S0
  have uuuS := Rat.mul_nonneg (a := u * u - u * u * u * 1125899906842624) (b := S) (by grind) S0
  have hHS : qa (H * H - S) ≤ (4 + 1 / 64) * u * S := by
    refine qa_le.2 ⟨?_, ?_⟩
    · have m := Rat.mul_nonneg (a := (1 + u) * (1 + u)) (b := S + (2 + 1 / 256) * u * S - q) (by grind) (by grind)
      grind
    · have m := Rat.mul_nonneg (a := (1 - u) * (1 - u)) (b := q - (S - (2 + 1 / 256) * u * S)) (by have := sq_nn (1 - u); grind) (by grind)
      grind
  obtain ⟨C, hC⟩ : ∃ C, C = x / H := ⟨_, rfl⟩
  obtain ⟨D, hD⟩ : ∃ D, D = y / H := ⟨_, rfl⟩
  rw [← hC] at hc
  rw [← hD] at hs
  have hCx : x = C * H := by rw [hC, Rat.div_mul_cancel (by grind)]
  have hDy : y = D * H := by rw [hD, Rat.div_mul_cancel (by grind)]
  clear hC hD eS eS1 eS2 ha hb hq hHl hHu nx ny
  have HH : 0 < H * H := Rat.mul_pos hH0 hH0
  have hSq : S = (C * C + D * D) * (H * H) := by grind
  have hζ : qa (C * C + D * D - 1) ≤ (4 + 1 / 16) * u := by
    have l1 := qa_le.1 hHS
    have hle : S ≤ (1 + 5 * u) * (H * H) := by
      have : S * (1 - (4 + 1 / 64) * u) ≤ H * H := by grind
      have m := Rat.mul_nonneg (a := 1 + 5 * u) (b := H * H - S * (1 - (4 + 1 / 64) * u)) (by grind) (by grind)
      have m2 := Rat.mul_nonneg (a := (5 - (4 + 1 / 64) - 5 * (4 + 1 / 64) * u) * u) (b := S) (Rat.mul_nonneg (by grind) (Rat.le_of_lt hu)) S0
      grind
    have m3 := Rat.mul_nonneg (a := u) (b := (1 + 5 * u) * (H * H) - S) (Rat.le_of_lt hu) (by grind)
    have m4 := Rat.mul_nonneg (a := u - u * u * 1125899906842624) (b := H * H) (by grind) (Rat.le_of_lt HH)
    have k1 : (C * C + D * D - 1) * (H * H) ≤ ((4 + 1 / 16) * u) * (H * H) := by grind
    have k2 : -(C * C + D * D - 1) * (H * H) ≤ ((4 + 1 / 16) * u) * (H * H) := by grind
    exact qa_le.2 ⟨Rat.le_of_mul_le_mul_right k1 HH, Rat.le_of_mul_le_mul_right k2 HH⟩
  have hζ1 := qa_le.1 hζ
  have cd := qa_sum_sq (a := C) (b := D) (A := 2) (by grind) (by grind)
  obtain ⟨ε, hε⟩ : ∃ ε, ε = c - C := ⟨_, rfl⟩
  obtain ⟨δ, hδ⟩ : ∃ δ, δ = s - D := ⟨_, rfl⟩
  have e1 : qa ε ≤ u * qa C + h := by rw [hε]; exact hc
  have e2 : qa δ ≤ u * qa D + h := by rw [hδ]; exact hs
  have hc' : c = C + ε := by grind
  have hs' : s = D + δ := by grind
  clear hc hs hε hδ
  subst hc'; subst hs'
  have η := of_eta hu hu1 hh hh1 hζ cd.1 cd.2 e1 e2
  refine ⟨η, ?_⟩
  clear η
  exact of_res hu hu1 hh hh1 hP hx hy hH0 hH1 hSd hHS hCx hDy hζ cd.1 cd.2 e1 e2 hr

/-- Sums of products, row by row. -/
def gs : Nat → (Nat → Nat → Rat) → Nat → Nat → Rat
  | 0, _, _, _ => 0
  | n + 1, R, a, b => gs n R a b + R n a * R n b
theorem gs_congr {n : Nat} {R R' : Nat → Nat → Rat} {a b : Nat} (h : ∀ i, i < n → R i a = R' i a ∧ R i b = R' i b) : gs n R a b = gs n R' a b := by
  induction n with
  | zero => rfl
  | succ n ih =>
    obtain ⟨h1, h2⟩ := h n (by omega)
    rw [gs, gs, ih fun i hi => h i (by omega), h1, h2]
theorem gs_one {n j : Nat} (hj : j < n) {R R' : Nat → Nat → Rat} (h : ∀ i, i ≠ j → R' i = R i) (a b : Nat) : gs n R' a b = gs n R a b + (R' j a * R' j b - R j a * R j b) := by
  induction n with
  | zero => omega
  | succ n ih =>
    rw [gs, gs]
    rcases Nat.lt_or_ge j n with h1 | h1
    · rw [ih h1, h n (by omega)]; grind
    · obtain rfl : j = n := by omega
      rw [gs_congr (R' := R) fun i hi => by rw [h i (by omega)]; exact ⟨rfl, rfl⟩]
      grind
theorem gs_nn (n : Nat) (R : Nat → Nat → Rat) (a : Nat) : 0 ≤ gs n R a a := by
  induction n with
  | zero => exact Rat.le_refl
  | succ n ih => rw [gs]; have := sq_nn (R n a); grind
theorem gs_ge {n j : Nat} (hj : j < n) (R : Nat → Nat → Rat) (a : Nat) : R j a * R j a ≤ gs n R a a := by
  induction n with
  | zero => omega
  | succ n ih =>
    rw [gs]
    rcases Nat.lt_or_ge j n with h1 | h1
    · have := ih h1; have := sq_nn (R n a); grind
    · obtain rfl : j = n := by omega
      have := gs_nn j R a; grind

/-- Row j and a line, rotated: the row becomes R' j, the line x'. -/
def RotS (u h : Rat) (n j : Nat) (R : Nat → Nat → Rat) (x : Nat → Rat) (R' : Nat → Nat → Rat) (x' : Nat → Rat) : Prop :=
  j < n ∧ (∀ i, i ≠ j → R' i = R i) ∧ (∀ a, a < j → R j a = 0 ∧ R' j a = 0 ∧ x a = 0 ∧ x' a = 0) ∧
  ∃ c s η, c * c + s * s = 1 + η ∧ qa η ≤ 8 * u ∧ ∀ a, j ≤ a → a < n → ∃ α β, R' j a = c * R j a + s * x a + α ∧ x' a = c * x a - s * R j a + β ∧
    ∀ w, 0 ≤ w → R j a * R j a + x a * x a ≤ w * w → α * α + β * β ≤ (8 * u * w + 3 * h) * (8 * u * w + 3 * h)

/-- All columns are near. -/
def FmS (n : Nat) (R : Nat → Nat → Rat) (x : Nat → Rat) (N : Nat → Nat → Rat) (X : Nat → Rat) (K T : Rat) : Prop :=
  ∀ a b, a < n → b < n → Fm (gs n R a b + x a * x b - N a b) (X a) (X b) K T

theorem FmS.size {n j : Nat} {R : Nat → Nat → Rat} {x X : Nat → Rat} {N : Nat → Nat → Rat} {K T A : Rat} {a : Nat} (h : FmS n R x N X K T) (hj : j < n) (ha : a < n) (hN : N a a ≤ X a) (hK : 0 ≤ K) (hT : 0 ≤ T) (hA : 0 < A) (hX : X a ≤ A * A) :
    R j a * R j a + x a * x a ≤ ((1 + K) * A + T) * ((1 + K) * A + T) := by
  have h1 := (h a a ha ha).norm hN hA hX hK hT
  have := gs_ge hj R a
  grind

section
variable {u h : Rat} {n j : Nat} {R R' : Nat → Nat → Rat} {x x' X : Nat → Rat} {N : Nat → Nat → Rat} {K T : Rat}
theorem ins_step (hr : RotS u h n j R x R' x') (hF : FmS n R x N X K T) (hN : ∀ a, a < n → N a a ≤ X a)
    (hu : 0 ≤ u) (hu1 : u * 1125899906842624 ≤ 1) (hK : 0 ≤ K) (hK1 : K * 1048576 ≤ 1) (hT : 0 ≤ T) (hT1 : T ≤ 1048576 * h) (hh : 0 < h) : FmS n R' x' N X (K + 32 * u) (T + 6 * h) := by
  obtain ⟨hj, h1, h2, c, s, η, hcs, he, h3⟩ := hr
  intro a b ha hb
  have key : gs n R' a b + x' a * x' b - N a b = (gs n R a b + x a * x b - N a b) + (R' j a * R' j b + x' a * x' b - (R j a * R j b + x a * x b)) := by
    rw [gs_one hj h1]; grind
  rw [key]
  have hz : R' j a * R' j b + x' a * x' b - (R j a * R j b + x a * x b) = 0 → Fm (gs n R a b + x a * x b - N a b + (R' j a * R' j b + x' a * x' b - (R j a * R j b + x a * x b))) (X a) (X b) (K + 32 * u) (T + 6 * h) := fun hz => by
    rw [hz, show gs n R a b + x a * x b - N a b + 0 = gs n R a b + x a * x b - N a b by grind]
    exact (hF a b ha hb).mono Rat.le_refl Rat.le_refl (by grind) (by grind) hT
  rcases Nat.lt_or_ge a j with hja | hja
  · obtain ⟨z1, z2, z3, z4⟩ := h2 a hja
    exact hz (by rw [z1, z2, z3, z4]; grind)
  rcases Nat.lt_or_ge b j with hjb | hjb
  · obtain ⟨z1, z2, z3, z4⟩ := h2 b hjb
    exact hz (by rw [z1, z2, z3, z4]; grind)
  obtain ⟨αa, βa, a1, a2, a3⟩ := h3 a hja ha
  obtain ⟨αb, βb, b1, b2, b3⟩ := h3 b hjb hb
  refine (hF a b ha hb).step hu hu1 hK hK1 hT hT1 hh (fun A hA hX => hF.size hj ha (hN a ha) hK hT hA hX) (fun A hA hX => hF.size hj hb (hN b hb) hK hT hA hX) fun p q hp hq hVa hVb => ?_
  have h0 := Rat.le_of_lt hh
  have := rot_he hu hu1 h0 (Rat.le_of_lt hp) (Rat.le_of_lt hq) (rot_err hcs he (by grind) (by grind) (by grind) (Rat.le_of_lt hp) (Rat.le_of_lt hq) hVa hVb a1 a2 b1 b2 (a3 p (Rat.le_of_lt hp) hVa) (b3 q (Rat.le_of_lt hq) hVb))
  have m1 := Rat.mul_nonneg hu (Rat.le_of_lt (Rat.mul_pos hp hq))
  have m2 := Rat.mul_nonneg h0 (show 0 ≤ p + q by grind)
  have m3 := sq_nn h
  generalize qa (R' j a * R' j b + x' a * x' b - (R j a * R j b + x a * x b)) = y at *
  clear h2 h3 hz key a1 a2 a3 b1 b2 b3 hVa hVb h1
  grind
end

/-- Sums of products. -/
def ds : Nat → (Nat → Rat) → (Nat → Rat) → Rat
  | 0, _, _ => 0
  | n + 1, f, g => ds n f g + f n * g n
/-- Near as the document has it: c is the least part, d the last one. -/
theorem Fm.near {E X Y K T u k c d U V ν : Rat} (hF : Fm E X Y K T) (hU : 0 ≤ U) (hV : 0 ≤ V) (hX : X ≤ U * U) (hY : Y ≤ V * V) (hν : 0 < ν) (h1 : K ≤ 64 * u * k) (hK : 0 ≤ K) (hT : 0 ≤ T)
    (h2 : K * ν + T ≤ k * c) (h3 : K * (ν * ν) + 2 * T * ν + T * T ≤ k * k * d) : qa E ≤ 64 * u * k * (U * V) + k * c * (U + V) + k * k * d := by
  have UV := Rat.mul_nonneg hU hV
  have m0 := Rat.mul_nonneg hU (Rat.le_of_lt hν)
  have m00 := Rat.mul_nonneg hV (Rat.le_of_lt hν)
  have f := hF (U + ν) (V + ν) (by grind) (by grind) (by have := sq_nn ν; grind) (by have := sq_nn ν; grind)
  have m1 := Rat.mul_nonneg (a := 64 * u * k - K) (b := U * V) (by grind) UV
  have m2 := Rat.mul_nonneg (a := k * c - (K * ν + T)) (b := U + V) (by grind) (by grind)
  clear hF hX hY
  generalize qa E = y at *
  grind
end Go.Proofs.Nt
/- Plain mathematics: Go's operations on floats, over the rationals. -/
set_option linter.unusedVariables false
set_option linter.unusedSimpArgs false
namespace Go.Proofs.Nt
open Go Go.Proofs

/-- Powers of two. -/
def tw (p : Int) : Rat := (2 : Rat) ^ p
theorem tw_add (p q : Int) : tw (p + q) = tw p * tw q := Rat.zpow_add (by decide) p q
theorem tw_pos (p : Int) : 0 < tw p := Rat.zpow_pos (by decide)
theorem tw_nn (p : Int) : 0 ≤ tw p := Rat.le_of_lt (tw_pos p)
theorem tw_nat (n : Nat) : tw n = ((2 ^ n : Nat) : Rat) := by
  unfold tw
  rw [Rat.zpow_natCast, Rat.natCast_pow]; rfl
theorem tw_zero : tw 0 = 1 := by unfold tw; exact Rat.zpow_zero _
theorem tw_one : tw 1 = 2 := by unfold tw; exact Rat.zpow_one _
theorem tw_le {p q : Int} (h : p ≤ q) : tw p ≤ tw q := by
  obtain ⟨n, rfl⟩ : ∃ n : Nat, q = p + n := ⟨(q - p).toNat, by omega⟩
  rw [tw_add, tw_nat]
  have h1 : (1 : Rat) ≤ ((2 ^ n : Nat) : Rat) := by
    have : ((1 : Nat) : Rat) ≤ ((2 ^ n : Nat) : Rat) := Rat.natCast_le_natCast.2 (Nat.two_pow_pos n)
    exact this
  have := Rat.mul_nonneg (tw_nn p) (show 0 ≤ ((2 ^ n : Nat) : Rat) - 1 by grind)
  grind
theorem tw_half (p : Int) : 2 * tw (p - 1) = tw p := by
  have := tw_add (p - 1) 1
  rw [show p - 1 + 1 = p by omega, tw_one] at this
  grind
/-- A float's number. -/
def rv (b : Nat) : Rat := (fval b : Rat) * tw (-1074)
/-- Half of the last place; half of the least float. -/
def uu : Rat := tw (-53)
def hh : Rat := tw (-1075)
theorem uu_val : uu = 1 / 9007199254740992 := by decide +kernel
def sq' (s : Bool) (x : Rat) : Rat := if s then -x else x
theorem fval_word (s : Bool) {r : Nat} (h : r < 9223372036854775808) : (fval (Ieee.double.word s r) : Rat) = sq' s (vr r : Rat) := by
  unfold fval sq'
  rw [word_fsg s h, word_frg s h]
  cases s
  · rfl
  · simp only [if_true]
    rw [Rat.intCast_neg]; rfl
theorem zrhe (n d : Nat) : 2 * (rhe n d * 2 ^ d) ≤ 2 * n + 2 ^ d ∧ 2 * n ≤ 2 * (rhe n d * 2 ^ d) + 2 ^ d := by
  have hd := Nat.two_pow_pos d
  have h1 := Nat.div_add_mod n (2 ^ d)
  have h2 := Nat.mod_lt n hd
  unfold rhe
  generalize hq : n / 2 ^ d = q at *
  generalize n % 2 ^ d = r at *
  generalize 2 ^ d = g at *
  rw [Nat.mul_comm] at h1
  split
  · rw [Nat.add_mul]; omega
  · omega
theorem zvr {m k : Nat} (hm : m ≤ 9007199254740992) (h : k ≠ 0 → 4503599627370496 ≤ m) : vr (k * 4503599627370496 + m) = m * 2 ^ k := by
  unfold vr mg pl
  rcases Nat.lt_or_ge m 4503599627370496 with h1 | h1
  · have : k = 0 := by rcases Nat.eq_zero_or_pos k with h2 | h2; exact h2; exact absurd (h (by omega)) (by omega)
    subst this
    rw [Nat.zero_mul, Nat.zero_add, if_pos h1, show m / 4503599627370496 - 1 = 0 by omega]
  · rcases Nat.lt_or_ge m 9007199254740992 with h2 | h2
    · have e1 : (k * 4503599627370496 + m) / 4503599627370496 - 1 = k := by omega
      have e2 : 4503599627370496 + (k * 4503599627370496 + m) % 4503599627370496 = m := by omega
      rw [if_neg (by omega), e1, e2]
    · have e0 : m = 9007199254740992 := by omega
      subst e0
      have e1 : (k * 4503599627370496 + 9007199254740992) / 4503599627370496 - 1 = k + 1 := by omega
      have e2 : 4503599627370496 + (k * 4503599627370496 + 9007199254740992) % 4503599627370496 = 4503599627370496 := by omega
      rw [if_neg (by omega), e1, e2, Nat.pow_succ]; omega
theorem tw_natmul (m : Nat) (p : Int) (k : Nat) : ((m * 2 ^ k : Nat) : Rat) * tw p = (m : Rat) * tw (p + k) := by
  rw [Rat.natCast_mul, tw_add, tw_nat]; grind
/-- The word nearest to a number: its rung. -/
theorem z_rung (s : Bool) {m : Nat} (h0 : m ≠ 0) (p : Int) : ∃ M q : Nat, M ≤ 9007199254740992 ∧ (q ≠ 0 → 4503599627370496 ≤ M) ∧
    nearW s m p = Ieee.double.word s (min (q * 4503599627370496 + M) 9218868437227405312) ∧
    qa ((M : Rat) * tw (q - 1074) - m * tw p) ≤ (if m < 9007199254740992 then 0 else uu * (m * tw p)) + (if -1074 ≤ p then 0 else hh) := by
  have l0 : lastP m p = max (p + m.log2 - 52) (-1074) := rfl
  have b1 := Nat.log2_self_le h0
  have b2 := log2_lt m
  have mtp : 0 ≤ (m : Rat) * tw p := Rat.mul_nonneg Rat.natCast_nonneg (tw_nn p)
  have hhu : 0 ≤ (if m < 9007199254740992 then 0 else uu * ((m : Rat) * tw p)) + (if -1074 ≤ p then 0 else hh) := by
    have := Rat.mul_nonneg (a := uu) (tw_nn _) mtp
    have := tw_nn (-1075)
    unfold hh
    split <;> split <;> grind
  refine ⟨rhe (m * 2 ^ (p - lastP m p).toNat) (lastP m p - p).toNat, (lastP m p + 1074).toNat, ?_, ?_, ?_, ?_⟩
  · rcases Int.le_total (lastP m p) p with h | h
    · rw [show (lastP m p - p).toNat = 0 by omega, rhe_zero]
      have e : m.log2 + 1 + (p - lastP m p).toNat ≤ 53 := by omega
      have h1 := Nat.pow_le_pow_right (n := 2) (by decide) e
      have h2 := Nat.mul_lt_mul_of_pos_right b2 (Nat.two_pow_pos (p - lastP m p).toNat)
      rw [← Nat.pow_add] at h2
      have : (2 : Nat) ^ 53 = 9007199254740992 := rfl
      omega
    · rw [show (p - lastP m p).toNat = 0 by omega, Nat.pow_zero, Nat.mul_one]
      obtain ⟨e1, e2⟩ := zrhe m (lastP m p - p).toNat
      have hd := Nat.two_pow_pos (lastP m p - p).toNat
      have e : m.log2 + 1 ≤ 53 + (lastP m p - p).toNat := by omega
      have h1 := Nat.pow_le_pow_right (n := 2) (by decide) e
      rw [Nat.pow_add 2 53] at h1
      have e3 : (2 : Nat) ^ 53 = 9007199254740992 := rfl
      rw [e3] at h1
      generalize 2 ^ (lastP m p - p).toNat = g at *
      generalize rhe m (lastP m p - p).toNat = R at *
      refine Classical.byContradiction fun hn => ?_
      have := Nat.mul_le_mul_right g (show 9007199254740992 + 1 ≤ R by omega)
      omega
  · intro hq
    have hl : lastP m p = p + m.log2 - 52 := by omega
    rcases Int.le_total (lastP m p) p with h | h
    · rw [show (lastP m p - p).toNat = 0 by omega, rhe_zero]
      have e : m.log2 + (p - lastP m p).toNat = 52 := by omega
      have h2 := Nat.mul_le_mul_right (2 ^ (p - lastP m p).toNat) b1
      rw [← Nat.pow_add, e] at h2
      exact h2
    · rw [show (p - lastP m p).toNat = 0 by omega, Nat.pow_zero, Nat.mul_one]
      obtain ⟨e1, e2⟩ := zrhe m (lastP m p - p).toNat
      have hd := Nat.two_pow_pos (lastP m p - p).toNat
      have e : m.log2 = 52 + (lastP m p - p).toNat := by omega
      rw [e, Nat.pow_add] at b1
      have e3 : (2 : Nat) ^ 52 = 4503599627370496 := rfl
      rw [e3] at b1
      generalize 2 ^ (lastP m p - p).toNat = g at *
      generalize rhe m (lastP m p - p).toNat = R at *
      refine Classical.byContradiction fun hn => ?_
      have := Nat.mul_le_mul_right g (show R + 1 ≤ 4503599627370496 by omega)
      rw [Nat.add_mul] at this
      omega
  · unfold nearW
    rw [if_neg h0]
  · have eq1 : (((lastP m p + 1074).toNat : Int) - 1074) = lastP m p := by omega
    rw [eq1]
    rcases Int.lt_or_le p (lastP m p) with h | h
    case inr =>
      rw [show (lastP m p - p).toNat = 0 by omega, rhe_zero, tw_natmul, show lastP m p + ((p - lastP m p).toNat : Int) = p by omega]
      rw [show (m : Rat) * tw p - m * tw p = 0 by grind]
      exact hhu
    case inl =>
      rw [show (p - lastP m p).toNat = 0 by omega, Nat.pow_zero, Nat.mul_one]
      obtain ⟨e1, e2⟩ := zrhe m (lastP m p - p).toNat
      obtain ⟨d, hd⟩ : ∃ d : Nat, lastP m p = p + d := ⟨(lastP m p - p).toNat, by omega⟩
      rw [show (lastP m p - p).toNat = d by omega] at e1 e2 ⊢
      rw [hd, ← tw_natmul]
      have f1 : (2 : Rat) * ((rhe m d * 2 ^ d : Nat) : Rat) ≤ 2 * (m : Rat) + ((2 ^ d : Nat) : Rat) := by
        have := Rat.natCast_le_natCast.2 e1
        simpa only [Rat.natCast_mul, Rat.natCast_add, Rat.natCast_ofNat] using this
      have f2 : 2 * (m : Rat) ≤ (2 : Rat) * ((rhe m d * 2 ^ d : Nat) : Rat) + ((2 ^ d : Nat) : Rat) := by
        have := Rat.natCast_le_natCast.2 e2
        simpa only [Rat.natCast_mul, Rat.natCast_add, Rat.natCast_ofNat] using this
      have tp := tw_nn p
      have g0 : ((2 ^ d : Nat) : Rat) * tw p = 2 * tw (lastP m p - 1) := by
        rw [tw_half, hd, tw_add, tw_nat]; grind
      have key : tw (lastP m p - 1) ≤ (if m < 9007199254740992 then 0 else uu * (m * tw p)) + (if -1074 ≤ p then 0 else hh) := by
        by_cases hlp : lastP m p = p + m.log2 - 52
        · have k1 : tw (lastP m p - 1) = uu * (((2 ^ m.log2 : Nat) : Rat) * tw p) := by
            rw [hlp, show p + (m.log2 : Int) - 52 - 1 = -53 + (m.log2 + p) by omega, tw_add, tw_add, tw_nat]; rfl
          have k2 : ((2 ^ m.log2 : Nat) : Rat) ≤ m := Rat.natCast_le_natCast.2 b1
          have k3 := Rat.mul_nonneg (a := uu) (b := (m - ((2 ^ m.log2 : Nat) : Rat)) * tw p) (tw_nn _) (Rat.mul_nonneg (by grind) tp)
          have k4 := tw_nn (-1075)
          have k5 : ¬ m < 9007199254740992 := fun hm => by
            have : m.log2 < 53 := (Nat.log2_lt h0).2 hm
            omega
          rw [k1, if_neg k5]
          unfold hh
          split <;> grind
        · have h1 : lastP m p = -1074 := by omega
          have k3 := Rat.mul_nonneg (a := uu) (tw_nn _) mtp
          by_cases hp : p = -1074
          · have : d = 0 := by omega
            omega
          · rw [if_neg (show ¬ -1074 ≤ p by omega), h1]
            unfold hh
            show tw (-1075) ≤ _
            split <;> grind
      have m1 := Rat.mul_nonneg (a := 2 * (m : Rat) + ((2 ^ d : Nat) : Rat) - 2 * ((rhe m d * 2 ^ d : Nat) : Rat)) (by grind) tp
      have m2 := Rat.mul_nonneg (a := 2 * ((rhe m d * 2 ^ d : Nat) : Rat) + ((2 ^ d : Nat) : Rat) - 2 * (m : Rat)) (by grind) tp
      generalize (if m < 9007199254740992 then 0 else uu * (m * tw p)) + (if -1074 ≤ p then 0 else hh) = Z at *
      generalize ((rhe m d * 2 ^ d : Nat) : Rat) = A at *
      generalize ((2 ^ d : Nat) : Rat) = G at *
      exact qa_le.2 ⟨by grind, by grind⟩
theorem hh_pos : 0 < hh := tw_pos _
theorem uu_pos : 0 < uu := tw_pos _
theorem uu_small : uu * 1125899906842624 ≤ 1 := by rw [uu_val]; decide +kernel
/-- Numbers. -/
def fn (b : Nat) : Prop := b < 18446744073709551616 ∧ frg b < 9218868437227405312
theorem word_lt' (s : Bool) {r : Nat} (h : r < 9223372036854775808) : Ieee.double.word s r < 18446744073709551616 := by
  unfold Ieee.Format.word; rw [dbl_sw]; split <;> omega
theorem vr_infr : ∃ k : Nat, k = 2046 ∧ vr 9218868437227405312 = 4503599627370496 * 2 ^ k := ⟨pl 9218868437227405312, by decide, by unfold vr; rw [show mg 9218868437227405312 = 4503599627370496 by decide]⟩
theorem z_near (s : Bool) (m : Nat) (p : Int) (hb : (m : Rat) * tw p ≤ tw 1023) : fn (nearW s m p) ∧ Rd uu (if -1074 ≤ p then 0 else hh) (rv (nearW s m p)) (sq' s (m * tw p)) ∧ (m < 9007199254740992 → qa (rv (nearW s m p) - sq' s (m * tw p)) ≤ if -1074 ≤ p then 0 else hh) := by
  have h0u := uu_pos
  have h0h := hh_pos
  have hsm := uu_small
  by_cases h0 : m = 0
  · subst h0
    have e : nearW s 0 p = Ieee.double.word s 0 := by unfold nearW; rw [if_pos rfl]
    have v : rv (Ieee.double.word s 0) = 0 := by
      unfold rv
      rw [fval_word s (by decide), vr_zero]
      cases s
      · show (0 : Rat) * _ = 0; grind
      · show -(0 : Rat) * _ = 0; grind
    rw [e, v]
    unfold Rd
    have : sq' s (((0 : Nat) : Rat) * tw p) = 0 := by unfold sq'; split <;> (rw [show ((0 : Nat) : Rat) = 0 from rfl]; grind)
    rw [this]
    rw [qa_of (x := (0 : Rat) - 0) (by grind), qa_of (x := (0 : Rat)) (by grind)]
    refine ⟨⟨word_lt' s (by decide), by rw [word_frg s (by decide)]; decide⟩, ?_, fun _ => ?_⟩
    all_goals split <;> grind
  obtain ⟨M, q, hM, hq, he, hr⟩ := z_rung s h0 p
  have mtp : 0 ≤ (m : Rat) * tw p := Rat.mul_nonneg Rat.natCast_nonneg (tw_nn p)
  have hr' := hr
  replace hr : qa ((M : Rat) * tw (q - 1074) - m * tw p) ≤ uu * (m * tw p) + (if -1074 ≤ p then 0 else hh) := by
    have := Rat.mul_nonneg (Rat.le_of_lt h0u) mtp
    generalize (if -1074 ≤ p then (0 : Rat) else hh) = Z at *
    split at hr <;> grind
  have vM := zvr hM hq
  have mq : (M : Rat) * tw (q - 1074) = ((vr (q * 4503599627370496 + M) : Nat) : Rat) * tw (-1074) := by
    rw [vM, tw_natmul, show -1074 + (q : Int) = q - 1074 by omega]
  have hlt : q * 4503599627370496 + M < 9218868437227405312 := by
    refine Classical.byContradiction fun hn => ?_
    have h1 : vr 9218868437227405312 ≤ vr (q * 4503599627370496 + M) := vr_le_iff.2 (by omega)
    obtain ⟨k, hk, h2⟩ := vr_infr
    have h3 : ((4503599627370496 * 2 ^ k : Nat) : Rat) ≤ ((vr (q * 4503599627370496 + M) : Nat) : Rat) := Rat.natCast_le_natCast.2 (by rw [← h2]; exact h1)
    have h4 : ((4503599627370496 * 2 ^ k : Nat) : Rat) * tw (-1074) = tw 1024 := by
      rw [tw_natmul, show -1074 + (k : Int) = 972 by omega, show ((4503599627370496 : Nat) : Rat) = ((2 ^ 52 : Nat) : Rat) by rfl, ← tw_nat, ← tw_add]; rfl
    have h5 := Rat.mul_nonneg (a := ((vr (q * 4503599627370496 + M) : Nat) : Rat) - ((4503599627370496 * 2 ^ k : Nat) : Rat)) (b := tw (-1074)) (by grind) (tw_nn _)
    have h6 := tw_half 1024
    rw [show (1024 : Int) - 1 = 1023 by omega] at h6
    have h7 : hh ≤ uu := tw_le (by decide)
    have h8 : (1 : Rat) ≤ tw 1023 := by rw [← tw_zero]; exact tw_le (by decide)
    have h9 := qa_le.1 hr
    have h10 : uu * (m * tw p) ≤ uu * tw 1023 := by
      have := Rat.mul_nonneg (a := uu) (b := tw 1023 - m * tw p) (Rat.le_of_lt h0u) (by grind)
      grind
    have h11 : uu * tw 1023 * 1125899906842624 ≤ tw 1023 := by
      have := Rat.mul_nonneg (a := 1 - uu * 1125899906842624) (b := tw 1023) (by grind) (tw_nn _)
      grind
    rw [mq] at h9
    have h12 : (if -1074 ≤ p then (0 : Rat) else hh) ≤ uu := by split <;> grind
    generalize (if -1074 ≤ p then (0 : Rat) else hh) = Z at *
    generalize ((vr (q * 4503599627370496 + M) : Nat) : Rat) = V at *
    generalize ((4503599627370496 * 2 ^ k : Nat) : Rat) = W at *
    generalize (m : Rat) * tw p = Y at *
    clear h2 hn he hr mq h1 hr'
    grind
  have hlt' := Nat.lt_trans hlt (show 9218868437227405312 < 9223372036854775808 by decide)
  rw [Nat.min_eq_left (Nat.le_of_lt hlt)] at he
  rw [he]
  refine ⟨⟨word_lt' s hlt', by rw [word_frg s hlt']; exact hlt⟩, ?_⟩
  have v : rv (Ieee.double.word s (q * 4503599627370496 + M)) = sq' s ((M : Rat) * tw (q - 1074)) := by
    unfold rv
    rw [fval_word s hlt', mq]
    unfold sq'; split <;> grind
  rw [v]
  unfold Rd
  have e1 : qa (sq' s ((M : Rat) * tw (q - 1074)) - sq' s (m * tw p)) = qa ((M : Rat) * tw (q - 1074) - m * tw p) := by
    unfold sq'
    split
    · rw [show ∀ x y : Rat, -x - -y = -(x - y) by intros; grind, qa_neg]
    · rfl
  have e2 : qa (sq' s (m * tw p)) = m * tw p := by
    unfold sq'
    split
    · rw [qa_neg, qa_of mtp]
    · exact qa_of mtp
  rw [e1, e2]
  refine ⟨hr, fun hm => ?_⟩
  rw [if_pos hm, Rat.zero_add] at hr'
  exact hr'
theorem rv_read (b : Nat) : rv b = sq' (fsg b) ((mg (frg b) : Rat) * tw (-1074 + (pl (frg b) : Nat))) := by
  unfold rv fval vr sq'
  have e : ((mg (frg b) * 2 ^ pl (frg b) : Nat) : Rat) * tw (-1074) = (mg (frg b) : Rat) * tw (-1074 + (pl (frg b) : Nat)) := tw_natmul _ _ _
  split
  · rw [Rat.intCast_neg, Rat.intCast_natCast, ← e]; grind
  · rw [Rat.intCast_natCast, e]
theorem signed_rv (s : Bool) (m k : Nat) (p : Int) : (Ieee.signed s m k : Rat) * tw p = sq' s ((m : Rat) * tw (p + k)) := by
  unfold Ieee.signed sq'
  simp only [Nat.shiftLeft_eq]
  have e := tw_natmul m p k
  split
  · rw [Rat.intCast_neg, Rat.intCast_natCast, ← e]; grind
  · rw [Rat.intCast_natCast, e]
theorem sq_total (s : Bool) (z : Int) (p : Int) : sq' (if z = 0 then s else decide (z < 0)) ((z.natAbs : Rat) * tw p) = (z : Rat) * tw p := by
  by_cases h0 : z = 0
  · subst h0
    unfold sq'
    simp only [Int.natAbs_zero, Rat.intCast_zero]
    rw [show ((0 : Nat) : Rat) = 0 from rfl]
    split <;> grind
  rw [if_neg h0]
  have e : (z.natAbs : Rat) = if z < 0 then -(z : Rat) else z := by
    split
    · rw [← Rat.intCast_neg, ← Rat.intCast_natCast, show (z.natAbs : Int) = -z by omega]
    · rw [← Rat.intCast_natCast, show (z.natAbs : Int) = z by omega]
  unfold sq'
  rw [e]
  by_cases h1 : z < 0
  · simp only [h1, decide_true, if_true]; grind
  · simp only [h1, decide_false, if_false, Bool.false_eq_true]
theorem sum_z {sx sy : Bool} {m n : Nat} {i j : Int} (hi : -1074 ≤ i) (hj : -1074 ≤ j) (hb : qa (sq' sx (m * tw i) + sq' sy (n * tw j)) ≤ tw 1023) :
    ∃ w, ((Ieee.Datum.number sx m i).sum (Ieee.Datum.number sy n j)).map Ieee.double.write = some w ∧ fn w ∧ Rd uu 0 (rv w) (sq' sx (m * tw i) + sq' sy (n * tw j)) := by
  simp only [Ieee.Datum.sum, Option.map_some, Ieee.Format.write, nearest_eq]
  refine ⟨_, rfl, ?_⟩
  have e1 := signed_rv sx m (i - min i j).toNat (min i j)
  have e2 := signed_rv sy n (j - min i j).toNat (min i j)
  rw [show min i j + ((i - min i j).toNat : Int) = i by omega] at e1
  rw [show min i j + ((j - min i j).toNat : Int) = j by omega] at e2
  rw [← e1, ← e2, ← Rat.add_mul, ← Rat.intCast_add] at hb ⊢
  generalize Ieee.signed sx m _ + Ieee.signed sy n _ = z at *
  have hp : -1074 ≤ min i j := by omega
  generalize min i j = p at *
  have e3 := sq_total (sx && sy) z p
  have hb2 : (z.natAbs : Rat) * tw p ≤ tw 1023 := by
    rw [← e3] at hb
    have := (qa_le.1 hb)
    unfold sq' at this
    generalize (z.natAbs : Rat) * tw p = y at *
    split at this <;> grind
  obtain ⟨h1, h2, _⟩ := z_near (if z = 0 then sx && sy else decide (z < 0)) z.natAbs p hb2
  rw [if_pos hp, e3] at h2
  exact ⟨h1, h2⟩
theorem add_z {x y : Nat} (hx : fn x) (hy : fn y) (hb : qa (rv x + rv y) ≤ tw 1023) : ∃ w, Ieee.double.add x y = some w ∧ fn w ∧ Rd uu 0 (rv w) (rv x + rv y) := by
  unfold Ieee.Format.add
  rw [read_num hx.2, read_num hy.2]
  rw [rv_read x, rv_read y] at hb ⊢
  exact sum_z (by omega) (by omega) hb
theorem sub_z {x y : Nat} (hx : fn x) (hy : fn y) (hb : qa (rv x - rv y) ≤ tw 1023) : ∃ w, Ieee.double.sub x y = some w ∧ fn w ∧ Rd uu 0 (rv w) (rv x - rv y) := by
  unfold Ieee.Format.sub
  rw [read_num hx.2, read_num hy.2]
  have e : rv x - rv y = sq' (fsg x) ((mg (frg x) : Rat) * tw (-1074 + (pl (frg x) : Nat))) + sq' (!fsg y) ((mg (frg y) : Rat) * tw (-1074 + (pl (frg y) : Nat))) := by
    rw [rv_read x, rv_read y]
    unfold sq'
    cases fsg y <;> simp <;> grind
  rw [e] at hb ⊢
  exact sum_z (by omega) (by omega) hb
theorem prod_rv {x y : Nat} : rv x * rv y = sq' (fsg x ^^ fsg y) (((mg (frg x) * mg (frg y) : Nat) : Rat) * tw ((-1074 + (pl (frg x) : Nat)) + (-1074 + (pl (frg y) : Nat)))) := by
  rw [rv_read x, rv_read y, Rat.natCast_mul, tw_add (-1074 + (pl (frg x) : Nat))]
  generalize tw (-1074 + (pl (frg x) : Nat)) = a
  generalize tw (-1074 + (pl (frg y) : Nat)) = b
  unfold sq'
  cases fsg x <;> cases fsg y <;> simp <;> grind
theorem sq_abs (s : Bool) {x : Rat} (h : 0 ≤ x) : qa (sq' s x) = x := by
  unfold sq'; split
  · rw [qa_neg, qa_of h]
  · exact qa_of h
theorem mt_nn (m : Nat) (p : Int) : 0 ≤ (m : Rat) * tw p := Rat.mul_nonneg Rat.natCast_nonneg (tw_nn p)
theorem mul_z {x y : Nat} (hx : fn x) (hy : fn y) (hb : qa (rv x * rv y) ≤ tw 1023) : ∃ w, Ieee.double.mul x y = some w ∧ fn w ∧ Rd uu hh (rv w) (rv x * rv y) ∧ (∀ k, mg (frg y) = 2 ^ k → qa (rv w - rv x * rv y) ≤ hh) := by
  unfold Ieee.Format.mul
  rw [read_num hx.2, read_num hy.2]
  simp only [Ieee.Datum.product, Option.map_some, Ieee.Format.write, nearest_eq]
  refine ⟨_, rfl, ?_⟩
  rw [prod_rv] at hb ⊢
  rw [sq_abs _ (mt_nn _ _)] at hb
  obtain ⟨h1, h2, _⟩ := z_near (fsg x ^^ fsg y) _ _ hb
  have h0 := tw_nn (-1075)
  refine ⟨h1, ?_, fun k hk => ?_⟩
  · unfold Rd at h2 ⊢
    have hh0 : 0 ≤ hh := h0
    split at h2 <;> grind
  · rw [hk] at hb ⊢
    have hm : mg (frg x) < 9007199254740992 := by unfold mg; split <;> omega
    have e := tw_natmul (mg (frg x)) (-1074 + ((pl (frg x) : Nat) : Int) + (-1074 + ((pl (frg y) : Nat) : Int))) k
    have e2 := nearW_scale (fsg x ^^ fsg y) (mg (frg x)) k (-1074 + ((pl (frg x) : Nat) : Int) + (-1074 + ((pl (frg y) : Nat) : Int)) + k)
    rw [show -1074 + ((pl (frg x) : Nat) : Int) + (-1074 + ((pl (frg y) : Nat) : Int)) + (k : Int) - (k : Int) = -1074 + ((pl (frg x) : Nat) : Int) + (-1074 + ((pl (frg y) : Nat) : Int)) by omega] at e2
    rw [e] at hb ⊢
    rw [e2]
    obtain ⟨_, _, h3⟩ := z_near (fsg x ^^ fsg y) _ _ hb
    have h3 := h3 hm
    have hh0 : 0 ≤ hh := h0
    split at h3 <;> grind
/-- A number that was cut, with a last digit that tells that something was left over: 2 a + b. -/
theorem z_stick (s : Bool) {a b : Nat} {p : Int} (hb : b ≤ 1) (ha : 2 ^ 54 ≤ 2 * a) (hQ : ((2 * a : Nat) : Rat) * tw p ≤ tw 1022) :
    ∃ H e, fn (nearW s (2 * a + b) p) ∧ rv (nearW s (2 * a + b) p) = sq' s H ∧ 0 ≤ H ∧ H ≤ ((2 * a : Nat) : Rat) * tw p + e ∧ ((2 * a + 2 * b : Nat) : Rat) * tw p ≤ H + e ∧
      (e ≤ uu * (((2 * a : Nat) : Rat) * tw p) ∨ (e ≤ hh ∧ ((2 * a : Nat) : Rat) * tw p ≤ tw (-1020))) := by
  have h0 : 2 * a + b ≠ 0 := by have := Nat.two_pow_pos 54; omega
  have l0 : lastP (2 * a + b) p = max (p + (2 * a + b).log2 - 52) (-1074) := rfl
  have b1 := Nat.log2_self_le h0
  have lg : 54 ≤ (2 * a + b).log2 := (Nat.le_log2 h0).2 (by omega)
  have tp := tw_nn p
  have hf : fn (nearW s (2 * a + b) p) := by
    refine (z_near s (2 * a + b) p ?_).1
    have e1 : ((2 * a + b : Nat) : Rat) ≤ ((2 * (2 * a) : Nat) : Rat) := Rat.natCast_le_natCast.2 (by have := Nat.two_pow_pos 54; omega)
    have e2 := Rat.mul_nonneg (a := ((2 * (2 * a) : Nat) : Rat) - ((2 * a + b : Nat) : Rat)) (by grind) tp
    rw [Rat.natCast_mul 2, Rat.natCast_ofNat] at e1 e2
    have e3 := tw_half 1023
    rw [show (1023 : Int) - 1 = 1022 by omega] at e3
    generalize ((2 * a + b : Nat) : Rat) = y at *
    generalize ((2 * a : Nat) : Rat) = z at *
    grind
  obtain ⟨d, hd⟩ : ∃ d : Nat, lastP (2 * a + b) p = p + (d + 2 : Nat) := ⟨(lastP (2 * a + b) p - p - 2).toNat, by omega⟩
  have zr := zrhe (2 * a + b) (d + 2)
  have hw : nearW s (2 * a + b) p = Ieee.double.word s (min ((lastP (2 * a + b) p + 1074).toNat * 4503599627370496 + rhe (2 * a + b) (d + 2)) 9218868437227405312) := by
    unfold nearW
    rw [if_neg h0, show (p - lastP (2 * a + b) p).toNat = 0 by omega, Nat.pow_zero, Nat.mul_one, show (lastP (2 * a + b) p - p).toNat = d + 2 by omega]
  have hle : lastP (2 * a + b) p = -1074 ∨ lastP (2 * a + b) p = p + (2 * a + b).log2 - 52 := by omega
  have hq0 : -1074 ≤ lastP (2 * a + b) p := by omega
  have hM : rhe (2 * a + b) (d + 2) ≤ 9007199254740992 ∧ (lastP (2 * a + b) p ≠ -1074 → 4503599627370496 ≤ rhe (2 * a + b) (d + 2)) := by
    have b2 := log2_lt (2 * a + b)
    have hg := Nat.two_pow_pos (d + 2)
    constructor
    · have e : (2 * a + b).log2 + 1 ≤ 53 + (d + 2) := by omega
      have e1 := Nat.pow_le_pow_right (n := 2) (by decide) e
      rw [Nat.pow_add 2 53, show (2 : Nat) ^ 53 = 9007199254740992 from rfl] at e1
      have b3 := Nat.lt_of_lt_of_le b2 e1
      generalize 2 ^ (d + 2) = g at *
      generalize rhe (2 * a + b) (d + 2) = R at *
      refine Classical.byContradiction fun hn => ?_
      have := Nat.mul_le_mul_right g (show 9007199254740992 + 1 ≤ R by omega)
      omega
    · intro hne
      have e : (2 * a + b).log2 = 52 + (d + 2) := by omega
      rw [e, Nat.pow_add, show (2 : Nat) ^ 52 = 4503599627370496 from rfl] at b1
      generalize 2 ^ (d + 2) = g at *
      generalize rhe (2 * a + b) (d + 2) = R at *
      refine Classical.byContradiction fun hn => ?_
      have := Nat.mul_le_mul_right g (show R + 1 ≤ 4503599627370496 by omega)
      rw [Nat.add_mul] at this
      omega
  have hlt : (lastP (2 * a + b) p + 1074).toNat * 4503599627370496 + rhe (2 * a + b) (d + 2) < 9218868437227405312 := by
    refine Classical.byContradiction fun hn => ?_
    rw [Nat.min_eq_right (by omega)] at hw
    have := hf.2
    rw [hw, word_frg s (by decide)] at this
    omega
  rw [Nat.min_eq_left (Nat.le_of_lt hlt)] at hw
  have hlt' := Nat.lt_trans hlt (show 9218868437227405312 < 9223372036854775808 by decide)
  have vM := zvr hM.1 (k := (lastP (2 * a + b) p + 1074).toNat) (fun h => hM.2 (by omega))
  refine ⟨(rhe (2 * a + b) (d + 2) : Rat) * tw (lastP (2 * a + b) p), tw (lastP (2 * a + b) p - 1), hf, ?_, mt_nn _ _, ?_⟩
  · rw [hw]
    unfold rv
    rw [fval_word s hlt', vM]
    have e := tw_natmul (rhe (2 * a + b) (d + 2)) (-1074) (lastP (2 * a + b) p + 1074).toNat
    rw [show -1074 + ((lastP (2 * a + b) p + 1074).toNat : Int) = lastP (2 * a + b) p by omega] at e
    rw [← e]
    unfold sq'; split <;> grind
  have hboth : (rhe (2 * a + b) (d + 2) : Rat) * tw (lastP (2 * a + b) p) ≤ ((2 * a : Nat) : Rat) * tw p + tw (lastP (2 * a + b) p - 1) ∧ ((2 * a + 2 * b : Nat) : Rat) * tw p ≤ (rhe (2 * a + b) (d + 2) : Rat) * tw (lastP (2 * a + b) p) + tw (lastP (2 * a + b) p - 1) := by
    have k0 := Nat.pow_succ (n := 2) (m := d + 1)
    have k1 : 2 ^ (d + 2) = 4 * 2 ^ d := by rw [Nat.pow_add]; omega
    rw [k1] at zr
    have f1 : rhe (2 * a + b) (d + 2) * (4 * 2 ^ d) ≤ 2 * a + 2 * 2 ^ d ∧ 2 * a + 2 * b ≤ rhe (2 * a + b) (d + 2) * (4 * 2 ^ d) + 2 * 2 ^ d := by
      obtain ⟨z1, z2⟩ := zr
      have hev : ∃ t, rhe (2 * a + b) (d + 2) * (4 * 2 ^ d) = 2 * t := ⟨rhe (2 * a + b) (d + 2) * (2 * 2 ^ d), by rw [Nat.mul_left_comm 2, ← Nat.mul_assoc 2 2]⟩
      obtain ⟨t, ht⟩ := hev
      rw [ht] at z1 z2 ⊢
      omega
    have g1 : ((rhe (2 * a + b) (d + 2) * 2 ^ (d + 2) : Nat) : Rat) ≤ ((2 * a : Nat) : Rat) + ((2 ^ (d + 1) : Nat) : Rat) := by
      rw [← Rat.natCast_add]
      refine Rat.natCast_le_natCast.2 ?_
      rw [k1, Nat.pow_succ 2 d, Nat.mul_comm (2 ^ d) 2]; exact f1.1
    have g2 : ((2 * a + 2 * b : Nat) : Rat) ≤ ((rhe (2 * a + b) (d + 2) * 2 ^ (d + 2) : Nat) : Rat) + ((2 ^ (d + 1) : Nat) : Rat) := by
      rw [← Rat.natCast_add]
      refine Rat.natCast_le_natCast.2 ?_
      rw [k1, Nat.pow_succ 2 d, Nat.mul_comm (2 ^ d) 2]; exact f1.2
    have e1 := tw_natmul (rhe (2 * a + b) (d + 2)) p (d + 2)
    rw [← hd] at e1
    have e2 : ((2 ^ (d + 1) : Nat) : Rat) * tw p = tw (lastP (2 * a + b) p - 1) := by
      rw [hd, show p + ((d + 2 : Nat) : Int) - 1 = p + ((d + 1 : Nat) : Int) by omega, tw_add, tw_nat]; grind
    rw [← e1, ← e2]
    have m1 := Rat.mul_nonneg (a := ((2 * a : Nat) : Rat) + ((2 ^ (d + 1) : Nat) : Rat) - ((rhe (2 * a + b) (d + 2) * 2 ^ (d + 2) : Nat) : Rat)) (by grind) tp
    have m2 := Rat.mul_nonneg (a := ((rhe (2 * a + b) (d + 2) * 2 ^ (d + 2) : Nat) : Rat) + ((2 ^ (d + 1) : Nat) : Rat) - ((2 * a + 2 * b : Nat) : Rat)) (by grind) tp
    clear e1 e2 g1 g2 hf hw vM hM
    generalize ((rhe (2 * a + b) (d + 2) * 2 ^ (d + 2) : Nat) : Rat) = y1 at *
    generalize ((2 ^ (d + 1) : Nat) : Rat) = y2 at *
    generalize ((2 * a + 2 * b : Nat) : Rat) = y3 at *
    generalize ((2 * a : Nat) : Rat) = y4 at *
    exact ⟨by grind, by grind⟩

  refine ⟨hboth.1, hboth.2, ?_⟩
  rcases hle with h | h
  · right
    rw [h]
    refine ⟨Rat.le_refl, ?_⟩
    have b2 := log2_lt (2 * a + b)
    have e1 : ((2 * a : Nat) : Rat) ≤ ((2 ^ ((2 * a + b).log2 + 1) : Nat) : Rat) := Rat.natCast_le_natCast.2 (by omega)
    have e2 := Rat.mul_nonneg (a := ((2 ^ ((2 * a + b).log2 + 1) : Nat) : Rat) - ((2 * a : Nat) : Rat)) (by grind) tp
    have e3 : ((2 ^ ((2 * a + b).log2 + 1) : Nat) : Rat) * tw p ≤ tw (-1020) := by
      rw [← tw_nat, ← tw_add]
      exact tw_le (by omega)
    grind
  · left
    obtain ⟨k, hk⟩ : ∃ k, (2 * a + b).log2 = k + 1 := ⟨(2 * a + b).log2 - 1, by omega⟩
    have k1 : tw (lastP (2 * a + b) p - 1) = uu * (((2 ^ (2 * a + b).log2 : Nat) : Rat) * tw p) := by
      rw [h, show p + ((2 * a + b).log2 : Int) - 52 - 1 = -53 + ((2 * a + b).log2 + p) by omega, tw_add, tw_add, tw_nat]; rfl
    have k2 : ((2 ^ (2 * a + b).log2 : Nat) : Rat) ≤ ((2 * a : Nat) : Rat) := Rat.natCast_le_natCast.2 (by rw [hk, Nat.pow_succ] at b1 ⊢; omega)
    have k3 := Rat.mul_nonneg (a := uu) (b := (((2 * a : Nat) : Rat) - ((2 ^ (2 * a + b).log2 : Nat) : Rat)) * tw p) (tw_nn _) (Rat.mul_nonneg (by grind) tp)
    rw [k1]
    grind
theorem sq_div (s t : Bool) {a b : Rat} (hb : b ≠ 0) : sq' s a / sq' t b = sq' (s ^^ t) (a / b) := by
  have e : a / b * b = a := Rat.div_mul_cancel hb
  generalize a / b = q at *
  subst e
  have h : ∀ x y z : Rat, y ≠ 0 → x = z * y → x / y = z := fun x y z hy h => by
    rw [h, Rat.div_def, Rat.mul_assoc, Rat.mul_inv_cancel _ hy, Rat.mul_one]
  unfold sq'
  cases s <;> cases t <;> simp <;> refine h _ _ _ ?_ ?_ <;> grind
theorem mg_pos {r : Nat} (h : r ≠ 0) : mg r ≠ 0 := by unfold mg; split <;> omega
theorem rv_zero {b : Nat} : rv b = 0 ↔ frg b = 0 := by
  have h := tw_pos (-1074 + (pl (frg b) : Nat))
  rw [rv_read]
  constructor
  · intro h0
    have : (mg (frg b) : Rat) * tw (-1074 + (pl (frg b) : Nat)) = 0 := by unfold sq' at h0; split at h0 <;> grind
    rcases Rat.mul_eq_zero.1 this with h1 | h1
    · have h2 : mg (frg b) = 0 := Rat.natCast_eq_zero_iff.1 h1
      exact Classical.byContradiction fun hn => mg_pos hn h2
    · grind
  · intro h0
    rw [h0, show mg 0 = 0 by decide, show ((0 : Nat) : Rat) = 0 from rfl]
    unfold sq'; split <;> grind
theorem q_lo {n a m M tj ti P Q : Rat} (c : n * a ≤ m * M) (hp : P * (2 * (tj * M)) = ti) (hQ : Q * (n * tj) = m * ti) (hP : 0 < P) (h1 : 0 < n * tj) (h2 : 0 < tj) : 2 * a * P ≤ Q := by
  refine Rat.le_of_mul_le_mul_right (c := n * tj) ?_ h1
  have := Rat.mul_nonneg (a := m * M - n * a) (b := P * (2 * tj)) (by grind) (Rat.mul_nonneg (Rat.le_of_lt hP) (by grind))
  have e : m * (P * (2 * (tj * M))) = m * ti := by rw [hp]
  grind
theorem q_hi {n a m M tj ti P Q : Rat} (c : m * M ≤ n * a) (hp : P * (2 * (tj * M)) = ti) (hQ : Q * (n * tj) = m * ti) (hP : 0 < P) (h1 : 0 < n * tj) (h2 : 0 < tj) : Q ≤ 2 * a * P := by
  refine Rat.le_of_mul_le_mul_right (c := n * tj) ?_ h1
  have := Rat.mul_nonneg (a := n * a - m * M) (b := P * (2 * tj)) (by grind) (Rat.mul_nonneg (Rat.le_of_lt hP) (by grind))
  have e : m * (P * (2 * (tj * M))) = m * ti := by rw [hp]
  grind
theorem div_parts {x y : Nat} (hx : fn x) (hy : fn y) (h0 : rv y ≠ 0) (hx0 : frg x ≠ 0) : ∃ s a b p, b ≤ 1 ∧ 2 ^ 53 ≤ a ∧ Ieee.double.div x y = some (nearW s (2 * a + b) p) ∧
    rv x / rv y = sq' s (qa (rv x / rv y)) ∧ ((2 * a : Nat) : Rat) * tw p ≤ qa (rv x / rv y) ∧ qa (rv x / rv y) ≤ ((2 * a + 2 * b : Nat) : Rat) * tw p := by
  have hn0 : mg (frg y) ≠ 0 := mg_pos fun h => h0 (rv_zero.2 h)
  unfold Ieee.Format.div
  rw [read_num hx.2, read_num hy.2]
  have hQ : rv x / rv y = sq' (fsg x ^^ fsg y) ((mg (frg x) : Rat) * tw (-1074 + (pl (frg x) : Nat)) / ((mg (frg y) : Rat) * tw (-1074 + (pl (frg y) : Nat)))) := by
    rw [rv_read x, rv_read y]
    refine sq_div _ _ ?_
    have h1 := tw_pos (-1074 + (pl (frg y) : Nat))
    have h2 : (0 : Rat) < (mg (frg y) : Rat) := Rat.natCast_pos.2 (Nat.pos_of_ne_zero hn0)
    have := Rat.mul_pos h2 h1
    grind
  rw [hQ]
  simp only [Ieee.Datum.quotient, if_neg hn0, Option.map_some, Ieee.Format.write, nearest_eq, Nat.shiftLeft_eq, dbl_fb]
  have hm0 : mg (frg x) ≠ 0 := mg_pos hx0
  generalize (fsg x ^^ fsg y) = s at *
  generalize -1074 + ((pl (frg x) : Nat) : Int) = i at *
  generalize -1074 + ((pl (frg y) : Nat) : Int) = j at *
  generalize mg (frg x) = m at *
  generalize mg (frg y) = n at *
  clear hQ h0 hx hy hx0
  have hmore : 54 + n.log2 ≤ m.log2 + (52 + 2 + n.log2 - m.log2) := by omega
  generalize 52 + 2 + n.log2 - m.log2 = more at *
  have hn1 := Nat.log2_self_le hn0
  have hn2 := log2_lt n
  have hm1 := Nat.log2_self_le hm0
  have npos := Nat.pos_of_ne_zero hn0
  have dm := Nat.div_add_mod (m * 2 ^ more) n
  have ml := Nat.mod_lt (m * 2 ^ more) npos
  have hst : ∃ b : Nat, b ≤ 1 ∧ (m * 2 ^ more % n != 0).toNat = b ∧ m * 2 ^ more ≤ n * (m * 2 ^ more / n + b) := by
    by_cases h : m * 2 ^ more % n = 0
    · exact ⟨0, by omega, by simp [h], by rw [Nat.mul_add]; omega⟩
    · exact ⟨1, by omega, by simp [h], by rw [Nat.mul_add]; omega⟩
  obtain ⟨b, hb1, hb2, hb3⟩ := hst
  rw [hb2]
  have ha : 2 ^ 53 ≤ m * 2 ^ more / n := by
    refine (Nat.le_div_iff_mul_le npos).2 ?_
    have e1 := Nat.mul_le_mul_right (2 ^ more) hm1
    rw [← Nat.pow_add] at e1
    have e2 := Nat.pow_le_pow_right (n := 2) (by decide) hmore
    rw [Nat.pow_add] at e2
    have hn3 : n ≤ 2 * 2 ^ n.log2 := by rw [Nat.pow_succ] at hn2; omega
    have e3 := Nat.mul_le_mul_left (2 ^ 53) hn3
    rw [← Nat.mul_assoc] at e3
    have e4 : (2 : Nat) ^ 53 * 2 = 2 ^ 54 := rfl
    rw [e4] at e3
    omega
  have hd3 : n * (m * 2 ^ more / n) ≤ m * 2 ^ more := by omega
  generalize m * 2 ^ more / n = a at *
  -- the quotient
  have np : (0 : Rat) < n := Rat.natCast_pos.2 npos
  have tj := tw_pos j
  have ntj := Rat.mul_pos np tj
  have hQ0 : (m : Rat) * tw i / ((n : Rat) * tw j) * ((n : Rat) * tw j) = (m : Rat) * tw i := Rat.div_mul_cancel (by grind)
  have hQn : 0 ≤ (m : Rat) * tw i / ((n : Rat) * tw j) := by
    rw [Rat.div_def]; exact Rat.mul_nonneg (mt_nn _ _) (Rat.le_of_lt (Rat.inv_pos.2 ntj))
  rw [sq_abs _ hQn]
  generalize (m : Rat) * tw i / ((n : Rat) * tw j) = Q at *
  obtain ⟨p, hpp⟩ : ∃ p : Int, p = i - j - more - 1 := ⟨_, rfl⟩
  rw [← hpp]
  have hp : tw p * (2 * (tw j * ((2 ^ more : Nat) : Rat))) = tw i := by
    rw [← tw_nat, ← tw_add, show (2 : Rat) = tw 1 from tw_one.symm, ← tw_add, ← tw_add, show p + (1 + (j + (more : Int))) = i by omega]
  have tp := tw_pos p
  have c1 : (n : Rat) * (a : Rat) ≤ (m : Rat) * ((2 ^ more : Nat) : Rat) := by rw [← Rat.natCast_mul, ← Rat.natCast_mul]; exact Rat.natCast_le_natCast.2 hd3
  have c2 : (m : Rat) * ((2 ^ more : Nat) : Rat) ≤ (n : Rat) * ((a : Rat) + b) := by rw [← Rat.natCast_mul, ← Rat.natCast_add, ← Rat.natCast_mul]; exact Rat.natCast_le_natCast.2 hb3
  have tm : (0 : Rat) < ((2 ^ more : Nat) : Rat) := Rat.natCast_pos.2 (Nat.two_pow_pos _)
  have lo : ((2 * a : Nat) : Rat) * tw p ≤ Q := by
    rw [Rat.natCast_mul, Rat.natCast_ofNat]
    exact q_lo c1 hp hQ0 tp ntj tj
  have hi : Q ≤ ((2 * a + 2 * b : Nat) : Rat) * tw p := by
    have := q_hi c2 hp hQ0 tp ntj tj
    rw [Rat.natCast_add, Rat.natCast_mul, Rat.natCast_mul 2 b, Rat.natCast_ofNat, ← Rat.mul_add]
    exact this
  exact ⟨s, a, b, p, hb1, ha, rfl, rfl, lo, hi⟩
theorem div_z {x y : Nat} (hx : fn x) (hy : fn y) (h0 : rv y ≠ 0) (hb : qa (rv x / rv y) ≤ tw 1022) : ∃ w, Ieee.double.div x y = some w ∧ fn w ∧ Rd uu hh (rv w) (rv x / rv y) := by
  by_cases hx0 : frg x = 0
  · have hn0 : mg (frg y) ≠ 0 := mg_pos fun h => h0 (rv_zero.2 h)
    have e0 : rv x / rv y = 0 := by rw [rv_zero.2 hx0, Rat.div_def, Rat.zero_mul]
    rw [e0]
    unfold Ieee.Format.div
    rw [read_num hx.2, read_num hy.2]
    simp only [Ieee.Datum.quotient, if_neg hn0, Option.map_some, Ieee.Format.write, nearest_eq, Nat.shiftLeft_eq, dbl_fb]
    refine ⟨_, rfl, ?_⟩
    rw [hx0, show mg 0 = 0 by decide]
    simp only [Nat.zero_mul, Nat.zero_div, Nat.zero_mod, Nat.mul_zero, bne_self_eq_false, Bool.toNat_false, Nat.add_zero]
    generalize -1074 + ((pl 0 : Nat) : Int) - (-1074 + ((pl (frg y) : Nat) : Int)) - ↑(52 + 2 + (mg (frg y)).log2 - Nat.log2 0) - 1 = p
    obtain ⟨z1, z2, _⟩ := z_near (fsg x ^^ fsg y) 0 p (by rw [show ((0 : Nat) : Rat) = 0 from rfl, Rat.zero_mul]; exact tw_nn _)
    rw [show ((0 : Nat) : Rat) = 0 from rfl, Rat.zero_mul] at z2
    have e1 : sq' (fsg x ^^ fsg y) 0 = 0 := by unfold sq'; split <;> grind
    rw [e1] at z2
    refine ⟨z1, ?_⟩
    unfold Rd at z2 ⊢
    have := hh_pos
    split at z2 <;> grind
  obtain ⟨s, a, b, p, hb1, ha, he, hQ, lo, hi⟩ := div_parts hx hy h0 hx0
  refine ⟨_, he, ?_⟩
  have hQn := qa_nn (rv x / rv y)
  rw [hQ]
  generalize qa (rv x / rv y) = Q at *
  obtain ⟨H, e, k1, k2, k3, k4, k5, k6⟩ := z_stick s (a := a) (b := b) (p := p) hb1 (by have : (2 : Nat) ^ 54 = 2 * 2 ^ 53 := rfl; omega) (Rat.le_trans lo hb)
  refine ⟨k1, ?_⟩
  rw [k2]
  unfold Rd
  rw [sq_abs _ hQn]
  have e1 : qa (sq' s H - sq' s Q) = qa (H - Q) := by
    unfold sq'; split
    · rw [show -H - -Q = -(H - Q) by grind, qa_neg]
    · rfl
  rw [e1]
  have u1 := Rat.mul_nonneg (a := uu) (b := Q - ((2 * a : Nat) : Rat) * tw p) (Rat.le_of_lt uu_pos) (by grind)
  have u2 := Rat.mul_nonneg (Rat.le_of_lt uu_pos) hQn
  have u3 := hh_pos
  have : e ≤ uu * Q + hh := by rcases k6 with h | h <;> grind
  clear k6
  exact qa_le.2 ⟨by grind, by grind⟩
theorem zroot (n : Nat) : ∀ (todo root : Nat), root * root ≤ n → n < (root + 2 ^ todo) * (root + 2 ^ todo) → Ieee.Datum.rootFrom n todo root * Ieee.Datum.rootFrom n todo root ≤ n ∧ n < (Ieee.Datum.rootFrom n todo root + 1) * (Ieee.Datum.rootFrom n todo root + 1)
  | 0, root, h1, h2 => by simp only [Ieee.Datum.rootFrom]; exact ⟨h1, by simpa using h2⟩
  | todo + 1, root, h1, h2 => by
    have e : root + 1 <<< todo = root + 2 ^ todo := by rw [Nat.one_shiftLeft]
    simp only [Ieee.Datum.rootFrom, e]
    have e2 : root + 2 ^ (todo + 1) = root + 2 ^ todo + 2 ^ todo := by rw [Nat.pow_succ]; omega
    rw [e2] at h2
    split
    · rename_i h; exact zroot n todo _ h h2
    · rename_i h; exact zroot n todo _ h1 (by omega)
theorem zroot_all (n : Nat) : Ieee.Datum.rootFrom n (n.log2 / 2 + 1) 0 * Ieee.Datum.rootFrom n (n.log2 / 2 + 1) 0 ≤ n ∧ n < (Ieee.Datum.rootFrom n (n.log2 / 2 + 1) 0 + 1) * (Ieee.Datum.rootFrom n (n.log2 / 2 + 1) 0 + 1) := by
  refine zroot n _ 0 (by omega) ?_
  have h := log2_lt n
  rw [Nat.zero_add, ← Nat.pow_add]
  exact Nat.lt_of_lt_of_le h (Nat.pow_le_pow_right (by decide) (by omega))
theorem sqrt_hi {u A H V e : Rat} (hu : 0 ≤ u) (hA : 0 ≤ A) (hH : 0 ≤ H) (hV : A * A ≤ V) (h1 : H ≤ A + e) (h2 : e ≤ u * A) : H * H ≤ (1 + u) * (1 + u) * V := by
  have m := mul_le_r (a := H) (b := (1 + u) * A) (c := H) (d := (1 + u) * A) (by grind) (by grind) hH hH
  have m2 := Rat.mul_nonneg (a := (1 + u) * (1 + u)) (b := V - A * A) (sq_nn _) (by grind)
  grind
theorem sqrt_lo {u A B H V e : Rat} (hu : 0 ≤ u) (hu1 : u ≤ 1) (hA : 0 ≤ A) (hB : 0 ≤ B) (hH : 0 ≤ H) (hV1 : A * A ≤ V) (hV : V ≤ B * B) (h1 : B ≤ H + e) (h2 : e ≤ u * A) : (1 - u) * (1 - u) * V ≤ H * H := by
  rcases q_total ((1 - u) * (1 - u) * V) (H * H) with h | h
  · exact h
  have uA := Rat.mul_nonneg hu hA
  have V0 : 0 ≤ V := by have := sq_nn A; grind
  have k1 : A * H ≤ (1 - u) * V := by
    refine le_of_sq (Rat.mul_nonneg (by grind) V0) ?_
    have := mul_le_r hV1 h (sq_nn A) (sq_nn H)
    grind
  have k2 := Rat.mul_nonneg hu (show 0 ≤ (1 - u) * V - A * H by grind)
  have k3 := Rat.mul_nonneg (Rat.mul_nonneg hu hu) (show 0 ≤ V - A * A by grind)
  have m := mul_le_r (a := B) (b := H + u * A) (c := B) (d := H + u * A) (by grind) (by grind) hB hB
  grind
theorem sqrt_z {x : Nat} (hx : fn x) (h0 : 0 ≤ rv x) : ∃ w, Ieee.double.sqrt x = some w ∧ fn w ∧ 0 ≤ rv w ∧ (1 - uu) * (1 - uu) * rv x ≤ rv w * rv w ∧ rv w * rv w ≤ (1 + uu) * (1 + uu) * rv x := by
  unfold Ieee.Format.sqrt
  rw [read_num hx.2]
  by_cases hm0 : mg (frg x) = 0
  · have hf : frg x = 0 := Classical.byContradiction fun hn => mg_pos hn hm0
    have hr : rv x = 0 := rv_zero.2 hf
    simp only [Ieee.Datum.root, if_pos hm0, Option.map_some, Ieee.Format.write, nearest_eq]
    refine ⟨_, rfl, ?_⟩
    rw [hm0]
    have e : nearW (fsg x) 0 (-1074 + ((pl (frg x) : Nat) : Int)) = Ieee.double.word (fsg x) 0 := by unfold nearW; rw [if_pos rfl]
    have v : rv (Ieee.double.word (fsg x) 0) = 0 := rv_zero.2 (word_frg _ (by decide))
    rw [e, v, hr]
    exact ⟨⟨word_lt' _ (by decide), by rw [word_frg _ (by decide)]; decide⟩, by grind, by grind, by grind⟩
  have hs : fsg x = false := by
    cases hs : fsg x
    · rfl
    · rw [rv_read, hs] at h0
      have h1 : (0 : Rat) < (mg (frg x) : Rat) := Rat.natCast_pos.2 (Nat.pos_of_ne_zero hm0)
      have h2 := Rat.mul_pos h1 (tw_pos (-1074 + (pl (frg x) : Nat)))
      unfold sq' at h0
      simp only [if_true] at h0
      grind
  have hv : rv x = (mg (frg x) : Rat) * tw (-1074 + (pl (frg x) : Nat)) := by rw [rv_read, hs]; rfl
  simp only [Ieee.Datum.root, if_neg hm0, hs, Bool.false_eq_true, if_false, Option.map_some, Ieee.Format.write, nearest_eq, Nat.shiftLeft_eq, dbl_fb]
  refine ⟨_, rfl, ?_⟩
  have hmx : mg (frg x) < 2 ^ 53 := by
    have : (2 : Nat) ^ 53 = 9007199254740992 := rfl
    unfold mg; split <;> omega
  have hi1 : -1074 ≤ -1074 + ((pl (frg x) : Nat) : Int) := by omega
  have hi2 : -1074 + ((pl (frg x) : Nat) : Int) ≤ 972 := by have := hx.2; unfold pl; omega
  rw [hv]
  generalize -1074 + ((pl (frg x) : Nat) : Int) = i at *
  generalize mg (frg x) = m at *
  obtain ⟨more, hmd⟩ : ∃ k : Nat, k = 2 * (52 + 2) - m.log2 + ((i - ↑(2 * (52 + 2) - m.log2)) % 2).toNat := ⟨_, rfl⟩
  rw [← hmd]
  have hl1 := Nat.log2_self_le hm0
  have hl2 : m.log2 < 53 := (Nat.log2_lt hm0).2 hmx
  have hev : ∃ t : Int, i - more = 2 * t := ⟨(i - more) / 2, by omega⟩
  obtain ⟨t, ht⟩ := hev
  have hlo : 108 ≤ m.log2 + more := by omega
  have hup : more ≤ 109 := by omega
  have hR := zroot_all (m * 2 ^ more)
  generalize Ieee.Datum.rootFrom (m * 2 ^ more) _ 0 = a at *
  rw [show (i - more) / 2 - 1 = t - 1 by omega]
  have hst : ∃ b : Nat, b ≤ 1 ∧ (a * a != m * 2 ^ more).toNat = b ∧ m * 2 ^ more ≤ (a + b) * (a + b) := by
    by_cases h : a * a = m * 2 ^ more
    · exact ⟨0, by omega, by simp [h], by rw [Nat.add_zero]; omega⟩
    · exact ⟨1, by omega, by simp [h], by omega⟩
  obtain ⟨b, hb1, hb2, hb3⟩ := hst
  rw [hb2]
  have ha : 2 ^ 53 ≤ a := by
    refine Classical.byContradiction fun hn => ?_
    have e1 := Nat.mul_le_mul_right (2 ^ more) hl1
    rw [← Nat.pow_add] at e1
    have e2 := Nat.pow_le_pow_right (n := 2) (by decide) hlo
    have e3 := Nat.mul_le_mul (show a + 1 ≤ 2 ^ 53 by omega) (show a + 1 ≤ 2 ^ 53 by omega)
    have e4 : (2 : Nat) ^ 108 = 4 * (2 ^ 53 * 2 ^ 53) := by decide
    omega
  have hv2 : (m : Rat) * tw i = ((m * 2 ^ more : Nat) : Rat) * (tw t * tw t) := by
    rw [← tw_add, tw_natmul, show t + t + (more : Int) = i by omega]
  have tt := tw_pos t
  have h2 : ((2 * a : Nat) : Rat) * tw (t - 1) = (a : Rat) * tw t := by
    rw [← tw_half t, Rat.natCast_mul, Rat.natCast_ofNat]; grind
  have h3 : ((2 * a + 2 * b : Nat) : Rat) * tw (t - 1) = ((a : Rat) + b) * tw t := by
    rw [← tw_half t, Rat.natCast_add, Rat.natCast_mul, Rat.natCast_mul 2 b, Rat.natCast_ofNat]; grind
  have c1 : (a : Rat) * a ≤ ((m * 2 ^ more : Nat) : Rat) := by rw [← Rat.natCast_mul]; exact Rat.natCast_le_natCast.2 hR.1
  have c2 : ((m * 2 ^ more : Nat) : Rat) ≤ ((a : Rat) + b) * (a + b) := by rw [← Rat.natCast_add, ← Rat.natCast_mul]; exact Rat.natCast_le_natCast.2 hb3
  have alo : tw (53 + t) ≤ (a : Rat) * tw t := by
    rw [tw_add]
    have : (tw (53 : Int) : Rat) = ((2 ^ 53 : Nat) : Rat) := tw_nat 53
    rw [this]
    have h4 : ((2 ^ 53 : Nat) : Rat) ≤ a := Rat.natCast_le_natCast.2 ha
    have := Rat.mul_nonneg (a := (a : Rat) - ((2 ^ 53 : Nat) : Rat)) (b := tw t) (by grind) (Rat.le_of_lt tt)
    grind
  have ahi : (a : Rat) * tw t ≤ tw 1022 := by
    have h4 : a < 2 ^ 81 := by
      refine Classical.byContradiction fun hn => ?_
      have e1 := Nat.mul_le_mul (show 2 ^ 81 ≤ a by omega) (show 2 ^ 81 ≤ a by omega)
      have e2 : m * 2 ^ more < 2 ^ 53 * 2 ^ 109 := Nat.lt_of_lt_of_le (Nat.mul_lt_mul_of_pos_right hmx (Nat.two_pow_pos _)) (Nat.mul_le_mul_left _ (Nat.pow_le_pow_right (by decide) hup))
      have e3 : (2 : Nat) ^ 81 * 2 ^ 81 = 2 ^ 53 * 2 ^ 109 := by decide
      omega
    have h5 : (a : Rat) ≤ ((2 ^ 81 : Nat) : Rat) := Rat.natCast_le_natCast.2 (by omega)
    have := Rat.mul_nonneg (a := ((2 ^ 81 : Nat) : Rat) - a) (b := tw t) (by grind) (Rat.le_of_lt tt)
    have h6 : ((2 ^ 81 : Nat) : Rat) * tw t ≤ tw 1022 := by
      rw [← tw_nat, ← tw_add]; exact tw_le (by omega)
    grind
  obtain ⟨H, e, k1, k2, k3, k4, k5, k6⟩ := z_stick false (a := a) (b := b) (p := t - 1) hb1 (by have : (2 : Nat) ^ 54 = 2 * 2 ^ 53 := rfl; omega) (by rw [h2]; exact ahi)
  rw [h2] at k4 k6
  rw [h3] at k5
  have k6 : e ≤ uu * ((a : Rat) * tw t) := by
    rcases k6 with h | ⟨_, h⟩
    · exact h
    · exfalso
      have h4 : tw (-1019) ≤ tw (53 + t) := tw_le (by omega)
      have h5 := tw_half (-1019)
      rw [show (-1019 : Int) - 1 = -1020 by omega] at h5
      have := tw_pos (-1020)
      grind
  refine ⟨k1, ?_⟩
  have k2' : rv (nearW false (2 * a + b) (t - 1)) = H := by rw [k2]; rfl
  rw [k2', hv2]
  have v1 := Rat.mul_nonneg (a := ((m * 2 ^ more : Nat) : Rat) - a * a) (b := tw t * tw t) (by grind) (Rat.mul_nonneg (Rat.le_of_lt tt) (Rat.le_of_lt tt))
  have v2 := Rat.mul_nonneg (a := ((a : Rat) + b) * (a + b) - ((m * 2 ^ more : Nat) : Rat)) (b := tw t * tw t) (by grind) (Rat.mul_nonneg (Rat.le_of_lt tt) (Rat.le_of_lt tt))
  have a0 : (0 : Rat) ≤ (a : Rat) * tw t := Rat.mul_nonneg Rat.natCast_nonneg (Rat.le_of_lt tt)
  have b0 : (0 : Rat) ≤ (b : Rat) * tw t := Rat.mul_nonneg Rat.natCast_nonneg (Rat.le_of_lt tt)
  have u0 := uu_pos
  have u1 := uu_small
  clear k1 k2 k2' alo ahi c1 c2 h2 h3 hv2 hb3 hR hv
  refine ⟨k3, ?_, ?_⟩
  · exact sqrt_lo (A := (a : Rat) * tw t) (B := ((a : Rat) + b) * tw t) (Rat.le_of_lt u0) (by grind) a0 (by grind) k3 (by grind) (by grind) k5 k6
  · exact sqrt_hi (A := (a : Rat) * tw t) (Rat.le_of_lt u0) a0 k3 (by grind) k4 k6
end Go.Proofs.Nt
/- Dyads as rationals; whether lists are near. -/
set_option linter.unusedVariables false
set_option linter.unusedSimpArgs false
set_option maxRecDepth 20000
namespace Go.Proofs.Nt
open Go Go.Proofs Go.Proofs.Va Go.RowKit
/-- A dyad's number. -/
def dq (d : Dy) : Rat := sq' d.1 ((val d.2.1 : Rat) * tw d.2.2)
theorem dq_at {d : Dy} {M : Int} (hM : M ≤ d.2.2) : dq d = (iv d M : Rat) * tw M := by
  unfold dq iv sq'
  have e : ((up (val d.2.1) d.2.2 M : Nat) : Rat) * tw M = (val d.2.1 : Rat) * tw d.2.2 := by
    unfold up
    rw [tw_natmul, show M + ((d.2.2 - M).toNat : Int) = d.2.2 by omega]
  unfold sg
  split
  · rw [Rat.intCast_neg, Rat.intCast_natCast, ← e]; grind
  · rw [Rat.intCast_natCast, e]
theorem dq_z {d : Dy} (h : val d.2.1 = 0) : dq d = 0 := by
  unfold dq; rw [h, show ((0 : Nat) : Rat) = 0 from rfl]; unfold sq'; split <;> grind
theorem dq_iv {d : Dy} {L H M : Int} (h : Bd L H d) (hM : M ≤ L) : dq d = (iv d M : Rat) * tw M := by
  rcases h with h | h
  · rw [dq_z h]
    unfold iv
    rw [h, up_zero]
    have : sg d.1 0 = 0 := by unfold sg; split <;> rfl
    rw [this, Rat.intCast_zero, Rat.zero_mul]
  · exact dq_at (by omega)
theorem dq_add {L H : Int} {d1 d2 : Dy} (o1 : dOK d1) (o2 : dOK d2) (h1 : Bd L H d1) (h2 : Bd L H d2) (hL : L ≤ 0) (hL2 : -20000 ≤ L) (hH : H < 20000) : dq (addD d1 d2) = dq d1 + dq d2 := by
  rw [dq_iv (bd_add o1 o2 h1 h2 hL) (Int.le_refl L), dq_iv h1 (Int.le_refl L), dq_iv h2 (Int.le_refl L), iv_add o1 o2 h1 h2 hL hL2 hH (Int.le_refl L), Rat.intCast_add]
  grind
theorem dq_mul {L H L' H' : Int} {d1 d2 : Dy} (h1 : Bd L H d1) (h2 : Bd L' H' d2) (hL : -20000 ≤ L + L') (hH : H + H' ≤ 20000) : dq (mulD d1 d2) = dq d1 * dq d2 := by
  obtain ⟨M, hM⟩ : ∃ M : Int, M = min L d1.2.2 := ⟨_, rfl⟩
  obtain ⟨M', hM'⟩ : ∃ M' : Int, M' = min L' d2.2.2 := ⟨_, rfl⟩
  rw [dq_iv (bd_mul h1 h2) (M := M + M') (by omega), dq_iv h1 (M := M) (by omega), dq_iv h2 (M := M') (by omega), iv_mul h1 h2 hL hH (by omega) (by omega), Rat.intCast_mul, tw_add]
  grind
theorem tw_cast_lt {a b : Int} (p : Int) : (a : Rat) * tw p < (b : Rat) * tw p ↔ a < b := by
  have h := tw_pos p
  constructor
  · intro h1
    refine Classical.byContradiction fun hn => ?_
    have : (b : Rat) ≤ (a : Rat) := Rat.intCast_le_intCast.2 (by omega)
    have := Rat.mul_nonneg (a := (a : Rat) - b) (b := tw p) (by grind) (Rat.le_of_lt h)
    grind
  · intro h1
    have : (a : Rat) < (b : Rat) := Rat.intCast_lt_intCast.2 h1
    have := Rat.mul_pos (a := (b : Rat) - a) (b := tw p) (by grind) h
    grind
theorem dq_cmp {L H : Int} {d1 d2 : Dy} (o1 : dOK d1) (o2 : dOK d2) (h1 : Bd L H d1) (h2 : Bd L H d2) (hL : -20000 ≤ L) : 0 < cmpD d1 d2 ↔ dq d2 < dq d1 := by
  rw [cmpD_iv o1 o2 (Int.le_refl (-20000)), dq_iv h1 hL, dq_iv h2 hL, tw_cast_lt]
  generalize iv d1 (-20000) = a
  generalize iv d2 (-20000) = b
  unfold cmp3
  split
  · constructor <;> intro h <;> omega
  · split <;> constructor <;> intro h <;> omega
theorem dq_opp {L H : Int} {d : Dy} (o : dOK d) (h : Bd L H d) (hL : -20000 ≤ L) : dq (oppD d) = -dq d := by
  rw [dq_iv (bd_opp h) hL, dq_iv h hL, iv_opp o (Int.le_refl _), Rat.intCast_neg]
  grind
theorem dq_abs {L H : Int} {d : Dy} (o : dOK d) (h : Bd L H d) (hL : -20000 ≤ L) : dq (absX d) = qa (dq d) := by
  rw [dq_iv (bd_absX h) hL, dq_iv h hL, iv_absX o (Int.le_refl _)]
  have t := tw_nn (-20000)
  generalize iv d (-20000) = z
  rw [qa_mul, qa_of t]
  congr 1
  unfold qa
  by_cases hz : 0 ≤ z
  · rw [if_pos (by have : ((0 : Int) : Rat) ≤ (z : Rat) := Rat.intCast_le_intCast.2 hz; exact this), show (z.natAbs : Int) = z by omega]
  · rw [if_neg (by
      intro hn
      have : ((0 : Int) : Rat) ≤ (z : Rat) := hn
      exact hz (Rat.intCast_le_intCast.1 this)), show (z.natAbs : Int) = -z by omega, Rat.intCast_neg]
theorem dq_up {D : Dy} (o : dOK D) (h : Bd (-9000) 9000 D) : 0 ≤ dq (upD D) ∧ dq D ≤ dq (upD D) * dq (upD D) := by
  have nn : 0 ≤ dq (upD D) := by
    unfold upD
    split
    · rw [dq_z rfl]; exact Rat.le_refl
    · rename_i h0
      rw [dq_iv (d := upN' (val D.2.1) D.2.2) (bd_norm false (bd_upN (fun h => h0 (.inr h)) h)) (M := -4600) (Int.le_refl _)]
      have e := iv_up (n := val D.2.1) (fun h => h0 (.inr h)) (e := D.2.2) h (M := -4600) (Int.le_refl _)
      rw [e, Rat.intCast_natCast]
      exact mt_nn _ _
  refine ⟨nn, ?_⟩
  by_cases h0 : D.1 = true ∨ val D.2.1 = 0
  · have : dq D ≤ 0 := by
      unfold dq
      rcases h0 with h0 | h0
      · rw [h0]
        have := mt_nn (val D.2.1) D.2.2
        unfold sq'
        simp only [if_true]
        grind
      · rw [h0, show ((0 : Nat) : Rat) = 0 from rfl]; unfold sq'; split <;> grind
    have := sq_nn (dq (upD D))
    grind
  have hs : D.1 = false := by cases hd : D.1; rfl; exact absurd (.inl hd) h0
  have hv : val D.2.1 ≠ 0 := fun h => h0 (.inr h)
  have hu : upD D = upN' (val D.2.1) D.2.2 := if_neg h0
  have e1 := (up_square hv (e := D.2.2) h (M := -10000) (Int.le_refl _)).1
  have e2 := iv_up hv (e := D.2.2) h (M := -10000) (by omega)
  rw [hu, dq_iv (d := upN' (val D.2.1) D.2.2) (bd_norm false (bd_upN hv h)) (M := -10000) (by omega), e2, dq_iv h (M := 2 * -10000) (by omega)]
  generalize (isq (cutN (val D.2.1) (cutU (val D.2.1) D.2.2)) + 1) * 2 ^ ((D.2.2 + cutU (val D.2.1) D.2.2) / 2 - -10000).toNat = s at *
  have e3 : iv D (2 * -10000) = ((up (val D.2.1) D.2.2 (2 * -10000) : Nat) : Int) := by unfold iv; rw [hs]; rfl
  rw [e3, Rat.intCast_natCast, Rat.intCast_natCast]
  have e4 : ((up (val D.2.1) D.2.2 (2 * -10000) : Nat) : Rat) ≤ ((s * s : Nat) : Rat) := Rat.natCast_le_natCast.2 (Nat.le_of_lt e1)
  have e5 : tw (2 * -10000) = tw (-10000) * tw (-10000) := by rw [← tw_add]; rfl
  rw [e5]
  have := Rat.mul_nonneg (a := ((s * s : Nat) : Rat) - ((up (val D.2.1) D.2.2 (2 * -10000) : Nat) : Rat)) (b := tw (-10000) * tw (-10000)) (by grind) (Rat.mul_nonneg (tw_nn _) (tw_nn _))
  rw [Rat.natCast_mul] at this
  grind
theorem dq_bound {A B : Dy} {k : Nat} (hk : k ≤ 100000) (oA : dOK A) (oB : dOK B) (bA : Bd (-4600) 4600 A) (bB : Bd (-4600) 4600 B) :
    dq (boundD A B k) = 64 * uu * k * (dq A * dq B) + k * tw (-1060) * (dq A + dq B) + k * k * tw (-2140) := by
  have hk' : (0 : Int) ≤ k ∧ (k : Int) ≤ 100000 := by omega
  rw [dq_iv (bd_bound hk' oA oB bA bB) (M := -20053) (by omega), iv_bound hk' oA oB bA bB]
  rw [dq_iv bA (M := -10000) (by omega), dq_iv bB (M := -10000) (by omega)]
  have sA : (iv A (-18993) : Rat) * tw (-18993) = (iv A (-10000) : Rat) * tw (-10000) := by rw [← dq_iv bA (M := -10000) (by omega), ← dq_iv bA (M := -18993) (by omega)]
  have sB : (iv B (-18993) : Rat) * tw (-18993) = (iv B (-10000) : Rat) * tw (-10000) := by rw [← dq_iv bB (M := -10000) (by omega), ← dq_iv bB (M := -18993) (by omega)]
  have t1 : tw (-20053) = uu * (tw (-10000) * tw (-10000)) := by unfold uu; rw [← tw_add, ← tw_add]; rfl
  have t2 : tw (-20053) = tw (-1060) * tw (-18993) := by rw [← tw_add]; rfl
  have t3 : ((2 ^ bigK : Nat) : Rat) * tw (-20053) = tw (-2140) := by rw [← tw_nat, ← tw_add]; rfl
  simp only [Rat.intCast_add, Rat.intCast_mul, Rat.intCast_natCast, Rat.intCast_ofNat]
  generalize (iv A (-10000) : Rat) = a at *
  generalize (iv B (-10000) : Rat) = b at *
  generalize (iv A (-18993) : Rat) = a' at *
  generalize (iv B (-18993) : Rat) = b' at *
  generalize ((2 ^ bigK : Nat) : Rat) = w at *
  have e1 : 64 * (k : Rat) * (a * b) * tw (-20053) = 64 * uu * k * (a * tw (-10000) * (b * tw (-10000))) := by rw [t1]; grind
  have e2 : (k : Rat) * (a' + b') * tw (-20053) = k * tw (-1060) * (a * tw (-10000) + b * tw (-10000)) := by rw [t2, ← sA, ← sB]; grind
  have e3 : (k : Rat) * k * w * tw (-20053) = k * k * tw (-2140) := by rw [← t3]; grind
  rw [← e1, ← e2, ← e3]
  grind
theorem dq_from {b : Nat} (h : fin b = true) : dq (fromD b) = rv b := by
  have hb := (okl_from [b] (fromD b) (by simp)).2
  rw [dq_iv hb (Int.le_refl _), iv_from h (Int.le_refl _)]
  unfold rv
  rw [Int.sub_self, Int.toNat_zero, Nat.pow_zero]
  rw [Int.natCast_one, Int.mul_one]
/-- A factor's entries, as numbers. -/
def Rm (t : List Nat) (n i a : Nat) : Rat := if a < i ∨ n < a ∨ n < i then 0 else rv (t.getD (atN n i a) 0)
theorem sab_app : ∀ a b : List (Int × Int), sab (a ++ b) = sab a + sab b
  | [], b => by simp [sab]
  | x :: a, b => by
    have := sab_app a b
    obtain ⟨p, q⟩ := x
    simp only [List.cons_append, sab, this]
    omega
theorem fin_line {t : List Nat} {n i a : Nat} (hf : ∀ x ∈ t, largeB x = false) : fin ((lineOf t n i).getD a 0) = true := by
  have h0 : ∀ x, x = 0 ∨ x ∈ lineOf t n i → fin x = true := by
    intro x hx
    rcases hx with rfl | hx
    · decide
    unfold lineOf at hx
    rcases List.mem_append.1 hx with hx | hx
    · rw [List.eq_of_mem_replicate hx]; decide
    · have := hf x (List.mem_of_mem_drop (List.mem_of_mem_take hx))
      unfold largeB at this
      have := of_decide_eq_false this
      unfold fin
      exact decide_eq_true (by omega)
  refine h0 _ ?_
  rw [List.getD_eq_getElem?_getD]
  rcases Nat.lt_or_ge a (lineOf t n i).length with h | h
  · rw [List.getElem?_eq_getElem h]; exact .inr (List.getElem_mem h)
  · rw [List.getElem?_eq_none h]; exact .inl rfl
theorem dq_gram {t : List Nat} {n a b : Nat} (h1 : 1 ≤ n) (hn : n ≤ 6) (ht : t.length = sizeN n) (hf : ∀ x ∈ t, largeB x = false) (hab : a ≤ b) (hb : b ≤ n) :
    dq ((rowsG n (linesOf t n)).getD (atN n a b) zeroD) = gs (n + 1) (Rm t n) a b := by
  have hro : rowsOk n (linesOf t n) := by
    intro r hr
    obtain ⟨i, hi, rfl⟩ := List.mem_map.1 hr
    rw [List.mem_range] at hi
    have := line_len hn ht (i := i) (by omega)
    simp only [List.length_take]; omega
  have hlen : (linesOf t n).length ≤ 1000 := by simp [linesOf]; omega
  have hq := (atN_lt hn hab hb).1
  have hS := grams_same hro hn
  have hgl : (gramsOf (linesOf t n)).length ≤ 1000 := by simp [gramsOf, linesOf]; omega
  have hbd : Bd (-2148) (2048 + (gramsOf (linesOf t n)).length) ((rowsG n (linesOf t n)).getD (atN n a b) zeroD) := (getD_ok (sum_ok hS) _).2
  rw [dq_iv hbd (M := -40000) (by omega)]
  unfold rowsG
  rw [sum_iv hS (by omega) (by omega) hq, sum_pairs hn hab hb hro]
  have key : ∀ m, m ≤ n + 1 → (sab (pairsOf a b ((List.range m).map fun i => ((lineOf t n i).take n, (lineOf t n i).getD n 0))) : Rat) * tw (-40000) = gs m (Rm t n) a b := by
    intro m hm
    induction m with
    | zero => simp [pairsOf, sab, gs]
    | succ m ih =>
      rw [List.range_succ, List.map_append]
      unfold pairsOf
      rw [List.map_append, sab_app, Rat.intCast_add, Rat.add_mul]
      have := ih (by omega)
      unfold pairsOf at this
      rw [this, gs]
      congr 1
      have hll := line_len hn ht (i := m) (by omega)
      have ent : ∀ c, c ≤ n → (iv (entR ((lineOf t n m).take n, (lineOf t n m).getD n 0) c) (-20000) : Rat) * tw (-20000) = Rm t n m c := by
        intro c hc
        have e1 : entR ((lineOf t n m).take n, (lineOf t n m).getD n 0) c = fromD ((lineOf t n m).getD c 0) := by
          unfold entR
          simp only
          rw [line_eq hll, List.getD_eq_getElem?_getD, List.getElem?_map, List.getD_eq_getElem?_getD]
          rw [List.getElem?_eq_getElem (by omega)]; rfl
        have e2 := (entR_ok ((lineOf t n m).take n, (lineOf t n m).getD n 0) c).2
        rw [← dq_iv e2 (M := -20000) (by omega), e1, dq_from (fin_line hf), line_get hn (by omega) hc]
        unfold Rm
        by_cases h : c < m
        · rw [if_pos h, if_pos (.inl h)]; decide +kernel
        · rw [if_neg h, if_neg (by omega)]
      have e3 : tw (-40000) = tw (-20000) * tw (-20000) := by rw [← tw_add]; rfl
      simp only [List.map_cons, List.map_nil, sab, Int.add_zero]
      rw [Rat.intCast_mul, e3, ← ent a (by omega), ← ent b hb]
      grind
  exact key (n + 1) (Nat.le_refl _)
/-- How near is asked. -/
def Kt (k : Nat) (K T : Rat) : Prop := 0 ≤ K ∧ 0 ≤ T ∧ K ≤ 64 * uu * k ∧ ∃ ν, 0 < ν ∧ K * ν + T ≤ k * tw (-1060) ∧ K * (ν * ν) + 2 * T * ν + T * T ≤ k * k * tw (-2140)
theorem kt_of {k : Nat} {K T : Rat} (h0 : 0 ≤ K) (h1 : K ≤ 32 * uu * k) (h2 : 0 ≤ T) (h3 : T ≤ 6 * hh * k) : Kt k K T := by
  have k0 : (0 : Rat) ≤ (k : Rat) := Rat.natCast_nonneg
  have u0 := uu_pos
  have u1 := uu_small
  have p0 := hh_pos
  have e1 : tw (-1072) = 8 * hh := by
    unfold hh
    rw [show (8 : Rat) = tw 3 from (tw_nat 3).symm, ← tw_add]; rfl
  have e2 : tw (-1072) ≤ tw (-1060) := tw_le (by decide)
  have e3 : tw (-2144) = 64 * (hh * hh) := by
    unfold hh
    rw [show (64 : Rat) = tw 6 from (tw_nat 6).symm, ← tw_add, ← tw_add]; rfl
  have e4 : tw (-2144) ≤ tw (-2140) := tw_le (by decide)
  have kk : (k : Rat) ≤ (k : Rat) * k := by
    rw [← Rat.natCast_mul]
    exact Rat.natCast_le_natCast.2 (Nat.le_mul_self k)
  have K1 : K ≤ k := by
    have := Rat.mul_nonneg (a := 1 - uu * 1125899906842624) (b := (k : Rat)) (by grind) k0
    have := Rat.mul_nonneg (Rat.le_of_lt u0) k0
    grind
  have uk := Rat.mul_nonneg (Rat.le_of_lt u0) k0
  refine ⟨h0, h2, by grind, hh, p0, ?_, ?_⟩
  · have m1 := Rat.mul_nonneg (a := (k : Rat) - K) (b := hh) (by grind) (Rat.le_of_lt p0)
    have m2 := Rat.mul_nonneg (a := (k : Rat)) (b := tw (-1060) - 8 * hh) k0 (by grind)
    have m3 := Rat.mul_nonneg k0 (Rat.le_of_lt p0)
    grind
  · have T2 := mul_le_r h3 h3 h2 h2
    have T1 := Rat.mul_nonneg (a := 6 * hh * k - T) (b := hh) (by grind) (Rat.le_of_lt p0)
    have hp := Rat.mul_nonneg (Rat.le_of_lt p0) (Rat.le_of_lt p0)
    have m1 := Rat.mul_nonneg (a := (k : Rat) - K) (b := hh * hh) (by grind) hp
    have m2 := Rat.mul_nonneg (a := (k : Rat) * k) (b := tw (-2140) - 64 * (hh * hh)) (Rat.mul_nonneg k0 k0) (by grind)
    have m3 := Rat.mul_nonneg (a := (k : Rat) * k - k) (b := hh * hh) (by grind) hp
    have m4 := Rat.mul_nonneg (Rat.mul_nonneg k0 k0) hp
    grind
theorem near_ok {N I G : List DV} {c k : Nat} {r : AV} (h1 : 1 ≤ c) (hc : c ≤ 6) (lN : N.length = sizeN c) (lI : I.length = sizeN c) (lG : G.length = sizeN c) (hk : k ≤ 100000)
    (hN : DvOk N) (hI : DvOk I) (hG : DvOk G) {K T : Rat} (hkt : Kt k K T)
    (hF : ∀ a b, a ≤ b → b ≤ c → Fm (dq (gv G (atN c a b)).m - dq (gv N (atN c a b)).m) (dq (gv I (atN c a a)).m) (dq (gv I (atN c b b)).m) K T)
    (hr : chkP N I G c k r) : r = .tup [i 0, bo true] := by
  have hk' : (0 : Int) ≤ k ∧ (k : Int) ≤ 100000 := by omega
  have hv : chkV N I G c k := ⟨by omega, lN, lI, lG, hk'⟩
  unfold chkP at hr
  rw [if_pos hv, Int.toNat_natCast] at hr
  have hfar : ∀ p q, p ≤ q → q ≤ c → far N I G c k p q = false := by
    intro p q hpq hqc
    unfold far
    refine decide_eq_false fun hlt => ?_
    rw [dq_cmp (d1 := apart N G (atN c p q)) (ok_absX _) (ok_bound _ _ _) ((bd_apart hN hG _).mono (L' := -9300) (H' := 9302) (by omega) (by omega)) (bd_bound hk' (ok_upE _ _ _) (ok_upE _ _ _) (bd_upE hI _ _) (bd_upE hI _ _)) (by omega)] at hlt
    have eA : dq (apart N G (atN c p q)) = qa (dq (gv G (atN c p q)).m - dq (gv N (atN c p q)).m) := by
      unfold apart
      rw [dq_abs (ok_add _ _) (bd_sub hN hG _) (by omega), dq_add (ok_m hG _) (ok_opp _) (hG.at _).2.2 (bd_opp (hN.at _).2.2) (by omega) (by omega) (by omega), dq_opp (ok_m hN _) (hN.at _).2.2 (by omega)]
      rw [show ∀ x y : Rat, x + -y = x - y by intros; grind]
    rw [eA, dq_bound hk (ok_upE _ _ _) (ok_upE _ _ _) (bd_upE hI _ _) (bd_upE hI _ _)] at hlt
    have up : ∀ a, a ≤ c → 0 ≤ dq (upE I c a) ∧ dq (gv I (atN c a a)).m ≤ dq (upE I c a) * dq (upE I c a) := fun a ha => by
      have := dq_up (ok_m hI (atN c a a)) (hI.at (atN c a a)).2.2
      have e : upE I c a = upD (gv I (atN c a a)).m := by
        unfold upE entV entN
        rw [Nat.min_self, Nat.max_self]
      rw [e]; exact this
    obtain ⟨k0, t0, kl, ν, n0, n1, n2⟩ := hkt
    have := (hF p q hpq hqc).near (up p (by omega)).1 (up q hqc).1 (up p (by omega)).2 (up q hqc).2 n0 kl k0 t0 n1 n2
    grind
  rcases hr with ⟨i1, j1, a1, a2, a3, _⟩ | ⟨_, h⟩
  · rw [hfar i1 j1 a1 a2] at a3; cases a3
  · exact h
end Go.Proofs.Nt
/- Words counted as floats; givens.Of and Turn, in plain Lean. -/
set_option linter.unusedVariables false
set_option linter.unusedSimpArgs false
set_option maxRecDepth 20000
namespace Go.Proofs.Nt
open Go Go.Proofs Go.Proofs.Va Go.RowKit
/-! ### Words counted as floats, and how great they are -/
def fadd (x y : Nat) : Nat := (Ieee.double.add x y).getD 0
def fsub (x y : Nat) : Nat := (Ieee.double.sub x y).getD 0
def fmul (x y : Nat) : Nat := (Ieee.double.mul x y).getD 0
def fdiv (x y : Nat) : Nat := (Ieee.double.div x y).getD 0
def fsqrt (x : Nat) : Nat := (Ieee.double.sqrt x).getD 0
/-- A number of at most 2 ^ k. -/
def Bf (k : Int) (b : Nat) : Prop := fn b ∧ qa (rv b) ≤ tw k
theorem Bf.mono {k l : Int} {b : Nat} (h : Bf k b) (hl : k ≤ l) : Bf l b := ⟨h.1, Rat.le_trans h.2 (tw_le hl)⟩
theorem rd_le {u h x t B : Rat} (hu0 : 0 ≤ u) (hu : u * 1125899906842624 ≤ 1) (hr : Rd u h x t) (ht : qa t ≤ B) (hh : h * 1125899906842624 ≤ B) : qa x ≤ 2 * B := by
  have := hr.bnd
  have m := Rat.mul_nonneg (a := u) (b := B - qa t) hu0 (by grind)
  have m2 := Rat.mul_nonneg (a := 1 - u * 1125899906842624) (b := B) (by grind) (by have := qa_nn t; grind)
  have := qa_nn t
  grind
theorem tw_dbl (k : Int) : 2 * tw k = tw (k + 1) := by have := tw_half (k + 1); rwa [show k + 1 - 1 = k by omega] at this
theorem hh_lt {k : Int} (h : -1000 ≤ k) : hh * 1125899906842624 ≤ tw k := by
  have e : hh * 1125899906842624 = tw (-1025) := by
    unfold hh
    rw [show (1125899906842624 : Rat) = tw 50 from (tw_nat 50).symm, ← tw_add]; rfl
  rw [e]; exact tw_le (by omega)
theorem add_b {j k : Int} {x y : Nat} (hx : Bf j x) (hy : Bf k y) {K : Int} (h1 : j ≤ K) (h2 : k ≤ K) (h3 : K ≤ 1000) : Ieee.double.add x y = some (fadd x y) ∧ Bf (K + 2) (fadd x y) ∧ Rd uu 0 (rv (fadd x y)) (rv x + rv y) := by
  have b := qa_add (rv x) (rv y)
  have b1 := (hx.mono h1).2
  have b2 := (hy.mono h2).2
  have b3 := tw_dbl K
  have b4 : tw (K + 1) ≤ tw 1023 := tw_le (by omega)
  obtain ⟨w, e, f, r⟩ := add_z hx.1 hy.1 (by grind)
  have ew : fadd x y = w := by unfold fadd; rw [e]; rfl
  rw [ew]
  have hl := rd_le (Rat.le_of_lt uu_pos) uu_small r (B := tw (K + 1)) (by grind) (by have := tw_nn (K + 1); grind)
  rw [tw_dbl, show K + 1 + 1 = K + 2 by omega] at hl
  exact ⟨e, ⟨f, hl⟩, r⟩
theorem sub_b {j k : Int} {x y : Nat} (hx : Bf j x) (hy : Bf k y) {K : Int} (h1 : j ≤ K) (h2 : k ≤ K) (h3 : K ≤ 1000) : Ieee.double.sub x y = some (fsub x y) ∧ Bf (K + 2) (fsub x y) ∧ Rd uu 0 (rv (fsub x y)) (rv x - rv y) := by
  have b := qa_add (rv x) (-rv y)
  rw [qa_neg, show rv x + -rv y = rv x - rv y by grind] at b
  have b1 := (hx.mono h1).2
  have b2 := (hy.mono h2).2
  have b3 := tw_dbl K
  have b4 : tw (K + 1) ≤ tw 1023 := tw_le (by omega)
  obtain ⟨w, e, f, r⟩ := sub_z hx.1 hy.1 (by grind)
  have ew : fsub x y = w := by unfold fsub; rw [e]; rfl
  rw [ew]
  have hl := rd_le (Rat.le_of_lt uu_pos) uu_small r (B := tw (K + 1)) (by grind) (by have := tw_nn (K + 1); grind)
  rw [tw_dbl, show K + 1 + 1 = K + 2 by omega] at hl
  exact ⟨e, ⟨f, hl⟩, r⟩
theorem mul_b {j k : Int} {x y : Nat} (hx : Bf j x) (hy : Bf k y) (h1 : -1000 ≤ j + k) (h2 : j + k ≤ 1000) :
    Ieee.double.mul x y = some (fmul x y) ∧ Bf (j + k + 1) (fmul x y) ∧ Rd uu hh (rv (fmul x y)) (rv x * rv y) ∧ (∀ e, mg (frg y) = 2 ^ e → qa (rv (fmul x y) - rv x * rv y) ≤ hh) := by
  have b : qa (rv x * rv y) ≤ tw (j + k) := by rw [qa_mul, tw_add]; exact mul_le_r hx.2 hy.2 (qa_nn _) (qa_nn _)
  obtain ⟨w, e, f, r, r2⟩ := mul_z hx.1 hy.1 (Rat.le_trans b (tw_le (by omega)))
  have ew : fmul x y = w := by unfold fmul; rw [e]; rfl
  rw [ew]
  have hl := rd_le (Rat.le_of_lt uu_pos) uu_small r b (hh_lt h1)
  rw [tw_dbl] at hl
  exact ⟨e, ⟨f, hl⟩, r, r2⟩
theorem div_b {K : Int} {x y : Nat} (hx : fn x) (hy : fn y) (h0 : rv y ≠ 0) (hq : qa (rv x / rv y) ≤ tw K) (h1 : -1000 ≤ K) (h2 : K ≤ 1000) :
    Ieee.double.div x y = some (fdiv x y) ∧ Bf (K + 1) (fdiv x y) ∧ Rd uu hh (rv (fdiv x y)) (rv x / rv y) := by
  obtain ⟨w, e, f, r⟩ := div_z hx hy h0 (Rat.le_trans hq (tw_le (by omega)))
  have ew : fdiv x y = w := by unfold fdiv; rw [e]; rfl
  rw [ew]
  have hl := rd_le (Rat.le_of_lt uu_pos) uu_small r hq (hh_lt h1)
  rw [tw_dbl] at hl
  exact ⟨e, ⟨f, hl⟩, r⟩
theorem sqrt_b {x : Nat} (hx : fn x) (h0 : 0 ≤ rv x) : Ieee.double.sqrt x = some (fsqrt x) ∧ fn (fsqrt x) ∧ 0 ≤ rv (fsqrt x) ∧ (1 - uu) * (1 - uu) * rv x ≤ rv (fsqrt x) * rv (fsqrt x) ∧ rv (fsqrt x) * rv (fsqrt x) ≤ (1 + uu) * (1 + uu) * rv x := by
  obtain ⟨w, e, f⟩ := sqrt_z hx h0
  have ew : fsqrt x = w := by unfold fsqrt; rw [e]; rfl
  rw [ew]
  exact ⟨e, f⟩
theorem fin_fn {b : Nat} (hb : b < 18446744073709551616) : fin b = true ↔ fn b := by
  unfold fin fn; rw [decide_eq_true_iff]; exact ⟨fun h => ⟨hb, h⟩, fun h => h.2⟩
theorem pow_rv {k : Int} (h : -1000 ≤ k ∧ k ≤ 1000) : Bf k (powW k) ∧ rv (powW k) = tw k ∧ mg (frg (powW k)) = 2 ^ 52 := by
  obtain ⟨h1, h2⟩ := powW_val (k := k) (by omega)
  have hv : rv (powW k) = tw k := by
    unfold rv
    rw [h2, Rat.intCast_natCast, ← tw_nat, ← tw_add]
    congr 1; omega
  have hf : fn (powW k) := (fin_fn (powW_lt k)).1 h1
  refine ⟨⟨hf, by rw [hv, qa_of (tw_nn _)]; exact Rat.le_refl⟩, hv, ?_⟩
  have e : powW k = Ieee.double.word false (min ((k - 52 + 1074).toNat * 4503599627370496 + 4503599627370496) 9218868437227405312) := by
    unfold powW
    rw [if_pos (by omega)]
    have := nearW_scale false 1 52 k
    rw [← this, Nat.one_mul]
    exact nearW_norm false (by decide) (by decide) (by omega)
  obtain ⟨q, hq⟩ : ∃ q : Nat, (k - 52 + 1074).toNat = q ∧ q ≤ 2022 := ⟨_, rfl, by omega⟩
  rw [hq.1, Nat.min_eq_left (by omega)] at e
  rw [e, word_frg false (by omega)]
  unfold mg
  rw [if_neg (by omega), show (q * 4503599627370496 + 4503599627370496) % 4503599627370496 = 0 by omega]
/-- The place of the first digit. -/
def topW (b : Nat) : Int := if frg b = 0 then -2000 else -1074 + (pl (frg b) : Nat) + (mg (frg b)).log2
theorem rv_abs (b : Nat) : qa (rv b) = (mg (frg b) : Rat) * tw (-1074 + (pl (frg b) : Nat)) := by rw [rv_read, sq_abs _ (mt_nn _ _)]
theorem top_rv {b : Nat} (h0 : frg b ≠ 0) : tw (topW b) ≤ qa (rv b) ∧ qa (rv b) ≤ tw (topW b + 1) ∧ -1074 ≤ topW b := by
  have hm := mg_pos h0
  have l1 := Nat.log2_self_le hm
  have l2 := log2_lt (mg (frg b))
  rw [rv_abs]
  unfold topW
  rw [if_neg h0]
  have t := tw_nn (-1074 + (pl (frg b) : Nat))
  have k1 : ((2 ^ (mg (frg b)).log2 : Nat) : Rat) ≤ (mg (frg b) : Rat) := Rat.natCast_le_natCast.2 l1
  have k2 : (mg (frg b) : Rat) ≤ ((2 ^ ((mg (frg b)).log2 + 1) : Nat) : Rat) := Rat.natCast_le_natCast.2 (Nat.le_of_lt l2)
  refine ⟨?_, ?_, by omega⟩
  · rw [tw_add, tw_nat]
    have := Rat.mul_nonneg (a := (mg (frg b) : Rat) - ((2 ^ (mg (frg b)).log2 : Nat) : Rat)) (by grind) t
    grind
  · rw [show -1074 + ((pl (frg b) : Nat) : Int) + ((mg (frg b)).log2 : Int) + 1 = -1074 + ((pl (frg b) : Nat) : Int) + (((mg (frg b)).log2 + 1 : Nat) : Int) by omega, tw_add _ (((mg (frg b)).log2 + 1 : Nat) : Int), tw_nat]
    have := Rat.mul_nonneg (a := ((2 ^ ((mg (frg b)).log2 + 1) : Nat) : Rat) - (mg (frg b) : Rat)) (by grind) t
    grind
theorem tw_lt {p q : Int} (h : p < q) : tw p < tw q := by
  have h1 := tw_dbl p
  have h2 : tw (p + 1) ≤ tw q := tw_le (by omega)
  have := tw_pos p
  grind
theorem top_le {b : Nat} {k : Int} (h : Bf k b) (hk : -2000 ≤ k) : topW b ≤ k := by
  by_cases h0 : frg b = 0
  · unfold topW; rw [if_pos h0]; exact hk
  · refine Classical.byContradiction fun hn => ?_
    have h1 := (top_rv h0).1
    have h2 := tw_lt (show k < topW b by omega)
    have h3 := h.2
    grind
/-- By how much a pair is scaled. -/
def ofK (f g : Nat) : Int := max (-1000) (min 1000 (max (topW f) (topW g)))
/-- givens.Of, of two numbers that are not both 0. -/
def ofX (f g : Nat) : Nat := fmul f (powW (-ofK f g))
def ofY (f g : Nat) : Nat := fmul g (powW (-ofK f g))
def ofH (f g : Nat) : Nat := fsqrt (fadd (fmul (ofX f g) (ofX f g)) (fmul (ofY f g) (ofY f g)))
def ofC (f g : Nat) : Nat := if frg f = 0 ∧ frg g = 0 then 4607182418800017408 else fdiv (ofX f g) (ofH f g)
def ofS (f g : Nat) : Nat := if frg f = 0 ∧ frg g = 0 then 0 else fdiv (ofY f g) (ofH f g)
def ofG (f g : Nat) : Nat := if frg f = 0 ∧ frg g = 0 then 0 else fmul (ofH f g) (powW (ofK f g))
/-- All that is counted by givens.Of is a number. -/
def OfOk (f g : Nat) : Prop := Ieee.double.mul f (powW (-ofK f g)) = some (ofX f g) ∧ Ieee.double.mul g (powW (-ofK f g)) = some (ofY f g) ∧
  Ieee.double.mul (ofX f g) (ofX f g) = some (fmul (ofX f g) (ofX f g)) ∧ Ieee.double.mul (ofY f g) (ofY f g) = some (fmul (ofY f g) (ofY f g)) ∧
  Ieee.double.add (fmul (ofX f g) (ofX f g)) (fmul (ofY f g) (ofY f g)) = some (fadd (fmul (ofX f g) (ofX f g)) (fmul (ofY f g) (ofY f g))) ∧
  Ieee.double.sqrt (fadd (fmul (ofX f g) (ofX f g)) (fmul (ofY f g) (ofY f g))) = some (ofH f g) ∧
  Ieee.double.div (ofX f g) (ofH f g) = some (fdiv (ofX f g) (ofH f g)) ∧ Ieee.double.div (ofY f g) (ofH f g) = some (fdiv (ofY f g) (ofH f g)) ∧
  Ieee.double.mul (ofH f g) (powW (ofK f g)) = some (fmul (ofH f g) (powW (ofK f g)))
/-- A whole rotation: what it loses. -/
def OfErr (f g c s r : Nat) : Prop := (∃ η, rv c * rv c + rv s * rv s = 1 + η ∧ qa η ≤ 8 * uu) ∧
    ∃ α β, rv r = rv c * rv f + rv s * rv g + α ∧ 0 = rv c * rv g - rv s * rv f + β ∧ ∀ w, 0 ≤ w → rv f * rv f + rv g * rv g ≤ w * w → α * α + β * β ≤ (8 * uu * w + 3 * hh) * (8 * uu * w + 3 * hh)
theorem rv_one : rv 4607182418800017408 = 1 := by
  rw [rv_read]
  rw [show fsg 4607182418800017408 = false by decide, show mg (frg 4607182418800017408) = 2 ^ 52 by decide, show pl (frg 4607182418800017408) = 1022 by decide]
  unfold sq'
  rw [← tw_nat, ← tw_add]
  exact tw_zero
theorem fn_one : fn 4607182418800017408 := ⟨by decide, by decide⟩
theorem fn_zero : fn 0 := ⟨by decide, by decide⟩
theorem rv_0 : rv 0 = 0 := rv_zero.2 (by decide)
theorem tw_sq (p : Int) : tw p * tw p = tw (p + p) := (tw_add p p).symm
theorem sq_ge {a b : Rat} (h0 : 0 ≤ a) (h : a ≤ qa b) : a * a ≤ b * b := by
  have := mul_le_r h h h0 h0
  rwa [qa_sq] at this
theorem div_sz {u h S Q HH z : Rat} (u0 : 0 < u) (u1 : u * 1125899906842624 ≤ 1) (hS : h ≤ u * u * S) (S0 : 0 ≤ S) (h4 : -(Q - S) ≤ (2 + 1 / 512) * u * S + (2 + 1 / 512) * h) (h2 : (1 - u) * (1 - u) * Q ≤ HH) (hz : z ≤ S) : z ≤ 4 * HH := by
  have uS := Rat.mul_nonneg (Rat.le_of_lt u0) S0
  have m1 := Rat.mul_nonneg (a := 1 - u * 1125899906842624) (b := S) (by grind) S0
  have m2 := Rat.mul_nonneg (a := u) (b := (1 - u * 1125899906842624) * S) (Rat.le_of_lt u0) m1
  have q2 : S ≤ 2 * Q := by grind
  have m4 := Rat.mul_nonneg (a := (1 - u) * (1 - u) - 1 / 2) (b := Q) (by have := Rat.mul_nonneg (Rat.le_of_lt u0) (Rat.le_of_lt u0); grind) (by grind)
  grind
theorem of_z {f g : Nat} (hf : Bf 600 f) (hg : Bf 600 g) (h0 : ¬ (frg f = 0 ∧ frg g = 0)) :
    OfOk f g ∧ Bf 1 (fdiv (ofX f g) (ofH f g)) ∧ Bf 1 (fdiv (ofY f g) (ofH f g)) ∧ Bf 610 (fmul (ofH f g) (powW (ofK f g))) ∧
      OfErr f g (fdiv (ofX f g) (ofH f g)) (fdiv (ofY f g) (ofH f g)) (fmul (ofH f g) (powW (ofK f g))) := by
  have t1 := top_le hf (by omega)
  have t2 := top_le hg (by omega)
  have u0 := uu_pos
  have u1 := uu_small
  have p0 := hh_pos
  have hkd : ofK f g = max (-1000) (min 1000 (max (topW f) (topW g))) := rfl
  -- scaled
  have hk : -1000 ≤ ofK f g ∧ ofK f g ≤ 600 := by omega
  obtain ⟨a1, a2, a3⟩ := pow_rv (k := -ofK f g) (by omega)
  obtain ⟨b1, b2, b3⟩ := pow_rv (k := ofK f g) (by omega)
  have sc : ∀ z, Bf 600 z → topW z ≤ ofK f g → Ieee.double.mul z (powW (-ofK f g)) = some (fmul z (powW (-ofK f g))) ∧ qa (rv (fmul z (powW (-ofK f g))) - rv z * tw (-ofK f g)) ≤ hh ∧ Bf 2 (fmul z (powW (-ofK f g))) := by
    intro z hz ht
    have hX : qa (rv z * tw (-ofK f g)) ≤ tw 1 := by
      rw [qa_mul, qa_of (tw_nn _)]
      by_cases hz0 : frg z = 0
      · rw [rv_zero.2 hz0, qa_of Rat.le_refl, Rat.zero_mul]; exact tw_nn _
      · have h1 := (top_rv hz0).2.1
        have h2 : tw (topW z + 1) ≤ tw (ofK f g + 1) := tw_le (by omega)
        have h3 := mul_le_r (Rat.le_trans h1 h2) (Rat.le_refl (a := tw (-ofK f g))) (qa_nn _) (tw_nn _)
        rw [← tw_add, show ofK f g + 1 + -ofK f g = 1 by omega] at h3
        exact h3
    obtain ⟨w, e, fw, r, r2⟩ := mul_z hz.1 a1.1 (by rw [a2]; exact Rat.le_trans hX (tw_le (by omega)))
    have ew : fmul z (powW (-ofK f g)) = w := by unfold fmul; rw [e]; rfl
    rw [ew]
    have r2 := r2 52 a3
    rw [a2] at r2 r
    refine ⟨e, r2, fw, ?_⟩
    have := rd_le (Rat.le_of_lt u0) u1 r hX (hh_lt (by omega))
    rwa [tw_dbl] at this
  have htf : topW f ≤ ofK f g := by omega
  have htg : topW g ≤ ofK f g := by omega
  obtain ⟨ex, dx, bx⟩ := sc f hf htf
  obtain ⟨ey, dy', by'⟩ := sc g hg htg
  change Ieee.double.mul f (powW (-ofK f g)) = some (ofX f g) at ex
  change Ieee.double.mul g (powW (-ofK f g)) = some (ofY f g) at ey
  change qa (rv (ofX f g) - rv f * tw (-ofK f g)) ≤ hh at dx
  change qa (rv (ofY f g) - rv g * tw (-ofK f g)) ≤ hh at dy'
  change Bf 2 (ofX f g) at bx
  change Bf 2 (ofY f g) at by'
  -- one of them is not little
  have big : tw (-75) ≤ qa (rv (ofX f g)) ∨ tw (-75) ≤ qa (rv (ofY f g)) := by
    have lo : ∀ z, frg z ≠ 0 → topW z = max (topW f) (topW g) → ∀ x, qa (rv x - rv z * tw (-ofK f g)) ≤ hh → tw (-75) ≤ qa (rv x) := by
      intro z hz0 hz x hx
      obtain ⟨h1, _, h3⟩ := top_rv hz0
      have h4 := mul_le_r h1 (Rat.le_refl (a := tw (-ofK f g))) (tw_nn _) (tw_nn _)
      rw [← tw_add] at h4
      have h5 : tw (-74) ≤ tw (topW z + -ofK f g) := tw_le (by omega)
      have h6 := qa_add (rv x) (rv z * tw (-ofK f g) - rv x)
      rw [show rv x + (rv z * tw (-ofK f g) - rv x) = rv z * tw (-ofK f g) by grind, show rv z * tw (-ofK f g) - rv x = -(rv x - rv z * tw (-ofK f g)) by grind, qa_neg, qa_mul, qa_of (tw_nn (-ofK f g))] at h6
      have h7 := tw_dbl (-75)
      have h8 := hh_lt (k := -75) (by omega)
      rw [show (-75 : Int) + 1 = -74 by omega] at h7
      grind
    by_cases hf0 : frg f = 0
    · have hg0 : frg g ≠ 0 := fun h => h0 ⟨hf0, h⟩
      have : topW f = -2000 := if_pos hf0
      have := (top_rv hg0).2.2
      exact .inr (lo g hg0 (by omega) _ dy')
    · by_cases hg0 : frg g = 0
      · have : topW g = -2000 := if_pos hg0
        have := (top_rv hf0).2.2
        exact .inl (lo f hf0 (by omega) _ dx)
      · rcases Int.le_total (topW f) (topW g) with h | h
        · exact .inr (lo g hg0 (by omega) _ dy')
        · exact .inl (lo f hf0 (by omega) _ dx)
  -- the squares
  obtain ⟨exx, bxx, rxx, _⟩ := mul_b bx bx (by omega) (by omega)
  obtain ⟨eyy, byy, ryy, _⟩ := mul_b by' by' (by omega) (by omega)
  obtain ⟨eq, bq, rq⟩ := add_b bxx byy (K := 5) (by omega) (by omega) (by omega)
  have nx := sq_nn (rv (ofX f g))
  have ny := sq_nn (rv (ofY f g))
  have S1 : tw (-150) ≤ rv (ofX f g) * rv (ofX f g) + rv (ofY f g) * rv (ofY f g) := by
    have e := tw_sq (-75)
    rw [show (-75 : Int) + -75 = -150 by omega] at e
    rcases big with h | h
    · have := sq_ge (tw_nn _) h; grind
    · have := sq_ge (tw_nn _) h; grind
  have hS : hh ≤ uu * uu * (rv (ofX f g) * rv (ofX f g) + rv (ofY f g) * rv (ofY f g)) := by
    have e1 : hh ≤ uu * uu * tw (-150) := by
      unfold uu
      rw [tw_sq, ← tw_add]
      exact tw_le (by omega)
    have := Rat.mul_nonneg (a := uu * uu) (b := rv (ofX f g) * rv (ofX f g) + rv (ofY f g) * rv (ofY f g) - tw (-150)) (Rat.mul_nonneg (Rat.le_of_lt u0) (Rat.le_of_lt u0)) (by grind)
    grind
  have hq := sum_err (Rat.le_of_lt u0) (by grind) (Rat.le_of_lt p0) rxx ryy rq (w := rv (ofX f g) * rv (ofX f g) + rv (ofY f g) * rv (ofY f g)) (by rw [qa_of nx, qa_of ny]; exact Rat.le_refl)
  have q1 : tw (-151) ≤ rv (fadd (fmul (ofX f g) (ofX f g)) (fmul (ofY f g) (ofY f g))) := by
    have h1 := (qa_le.1 hq).2
    have h2 := tw_dbl (-151)
    rw [show (-151 : Int) + 1 = -150 by omega] at h2
    have h3 := hh_lt (k := -150) (by omega)
    have S0 : 0 ≤ rv (ofX f g) * rv (ofX f g) + rv (ofY f g) * rv (ofY f g) := by grind
    have m := Rat.mul_nonneg (a := 1 - uu * 1125899906842624) (b := rv (ofX f g) * rv (ofX f g) + rv (ofY f g) * rv (ofY f g)) (by grind) S0
    generalize rv (ofX f g) * rv (ofX f g) + rv (ofY f g) * rv (ofY f g) = S at *
    grind
  have tq := tw_pos (-151)
  obtain ⟨eh, fh, h1, h2, h3⟩ := sqrt_b bq.1 (by grind)
  change _ = some (ofH f g) at eh
  change fn (ofH f g) at fh
  change 0 ≤ rv (ofH f g) at h1
  change _ ≤ rv (ofH f g) * rv (ofH f g) at h2
  change rv (ofH f g) * rv (ofH f g) ≤ _ at h3
  have Hlo : tw (-77) ≤ rv (ofH f g) := by
    refine le_of_sq h1 ?_
    rw [tw_sq]
    have e1 : tw (-77 + -77) ≤ tw (-153) := tw_le (by omega)
    have e2 := tw_dbl (-153)
    have e3 := tw_dbl (-152)
    rw [show (-153 : Int) + 1 = -152 by omega] at e2
    rw [show (-152 : Int) + 1 = -151 by omega] at e3
    have uq := Rat.mul_nonneg (a := (1 - uu) * (1 - uu) - 1 / 4) (b := rv (fadd (fmul (ofX f g) (ofX f g)) (fmul (ofY f g) (ofY f g)))) (by have := Rat.mul_nonneg (Rat.le_of_lt u0) (Rat.le_of_lt u0); grind) (by grind)
    grind
  have H0 : 0 < rv (ofH f g) := by have := tw_pos (-77); grind
  have Hhi : rv (ofH f g) ≤ tw 4 := by
    refine le_of_sq (tw_nn _) ?_
    have e0 := (qa_le.1 bq.2).1
    have e1 : tw 7 ≤ tw 7 := Rat.le_refl
    have uq := Rat.mul_nonneg (a := 2 - (1 + uu) * (1 + uu)) (b := rv (fadd (fmul (ofX f g) (ofX f g)) (fmul (ofY f g) (ofY f g)))) (by have := Rat.mul_nonneg (a := uu) (b := 1 - uu * 1125899906842624) (Rat.le_of_lt u0) (by grind); grind) (by grind)
    have e2 := tw_dbl 7
    rw [tw_sq, show (4 : Int) + 4 = 7 + 1 by omega, ← e2]
    rw [show (5 : Int) + 2 = 7 by omega] at e0
    grind
  have hH1 : hh ≤ uu * uu * rv (ofH f g) := by
    have e1 : hh ≤ uu * uu * tw (-77) := by
      unfold uu
      rw [tw_sq, ← tw_add]
      exact tw_le (by omega)
    have := Rat.mul_nonneg (a := uu * uu) (b := rv (ofH f g) - tw (-77)) (Rat.mul_nonneg (Rat.le_of_lt u0) (Rat.le_of_lt u0)) (by grind)
    grind
  have hh3 : hh ≤ uu * uu * uu := by
    unfold uu hh
    rw [tw_sq, ← tw_add]
    exact tw_le (by omega)
  have hne : rv (ofH f g) ≠ 0 := by grind
  have dv : ∀ z, rv z * rv z ≤ rv (ofX f g) * rv (ofX f g) + rv (ofY f g) * rv (ofY f g) → qa (rv z / rv (ofH f g)) ≤ tw 1 := by
    intro z hz
    have e : rv z / rv (ofH f g) * rv (ofH f g) = rv z := Rat.div_mul_cancel hne
    generalize rv z / rv (ofH f g) = c at *
    refine Rat.le_of_mul_le_mul_right (c := rv (ofH f g)) ?_ H0
    have e2 : qa c * rv (ofH f g) = qa (rv z) := by rw [← e, qa_mul, qa_of h1]
    rw [e2, tw_one]
    refine le_of_sq (by grind) ?_
    rw [qa_sq]
    have h4 := (qa_le.1 hq).2
    have S0 : 0 ≤ rv (ofX f g) * rv (ofX f g) + rv (ofY f g) * rv (ofY f g) := by grind
    have := div_sz u0 u1 hS S0 h4 h2 hz
    rw [show 2 * rv (ofH f g) * (2 * rv (ofH f g)) = 4 * (rv (ofH f g) * rv (ofH f g)) by grind]
    exact this
  obtain ⟨ec, bc, rc⟩ := div_b bx.1 fh hne (dv (ofX f g) (by grind)) (by omega) (by omega)
  obtain ⟨es, bs, rs⟩ := div_b by'.1 fh hne (dv (ofY f g) (by grind)) (by omega) (by omega)
  obtain ⟨er, br, _, rr⟩ := mul_b (j := 4) ⟨fh, by rw [qa_of h1]; exact Hhi⟩ b1 (by omega) (by omega)
  have rr := rr 52 b3
  rw [b2] at rr
  have E : OfErr f g (fdiv (ofX f g) (ofH f g)) (fdiv (ofY f g) (ofH f g)) (fmul (ofH f g) (powW (ofK f g))) := by
    have tk := tw_pos (ofK f g)
    have tP : ∀ y : Rat, tw (ofK f g) * (y * tw (-ofK f g)) = y := fun y => by
      have : tw (ofK f g) * tw (-ofK f g) = 1 := by rw [← tw_add, show ofK f g + -ofK f g = 0 by omega, tw_zero]
      grind
    have := of_err u0 u1 (Rat.le_of_lt p0) hh3 tk dx dy' hS H0 hH1 rxx ryy rq h2 h3 rc rs rr
    simp only [tP] at this
    exact this
  obtain ⟨η, e1, e2⟩ := E.1
  have e2 := (qa_le.1 e2).1
  have cs := qa_sum_sq (A := 2) (by grind) (show rv (fdiv (ofX f g) (ofH f g)) * rv (fdiv (ofX f g) (ofH f g)) + rv (fdiv (ofY f g) (ofH f g)) * rv (fdiv (ofY f g) (ofH f g)) ≤ 2 * 2 by rw [e1]; grind)
  rw [← tw_one] at cs
  exact ⟨⟨ex, ey, exx, eyy, eq, eh, ec, es, er⟩, ⟨bc.1, cs.1⟩, ⟨bs.1, cs.2⟩, br.mono (by omega), E⟩
/-- A rotation: what it comes to. -/
def turnX (c s x y : Nat) : Nat := fadd (fmul c x) (fmul s y)
def turnY (c s x y : Nat) : Nat := fsub (fmul c y) (fmul s x)
def TurnOk (c s x y : Nat) : Prop := Ieee.double.mul c x = some (fmul c x) ∧ Ieee.double.mul s y = some (fmul s y) ∧ Ieee.double.mul c y = some (fmul c y) ∧ Ieee.double.mul s x = some (fmul s x) ∧
  Ieee.double.add (fmul c x) (fmul s y) = some (turnX c s x y) ∧ Ieee.double.sub (fmul c y) (fmul s x) = some (turnY c s x y)
theorem turn_z {c s x y : Nat} {k : Int} (hk : -900 ≤ k ∧ k ≤ 900) (hc : Bf 1 c) (hs : Bf 1 s) (hx : Bf k x) (hy : Bf k y) : TurnOk c s x y ∧ Bf (k + 4) (turnX c s x y) ∧ Bf (k + 4) (turnY c s x y) ∧
    ∀ η w, 0 ≤ w → rv c * rv c + rv s * rv s = 1 + η → qa η ≤ 8 * uu → rv x * rv x + rv y * rv y ≤ w * w →
      ∃ α β, rv (turnX c s x y) = rv c * rv x + rv s * rv y + α ∧ rv (turnY c s x y) = rv c * rv y - rv s * rv x + β ∧ α * α + β * β ≤ (8 * uu * w + 3 * hh) * (8 * uu * w + 3 * hh) := by
  obtain ⟨e1, b1, r1, _⟩ := mul_b hc hx (by omega) (by omega)
  obtain ⟨e2, b2, r2, _⟩ := mul_b hs hy (by omega) (by omega)
  obtain ⟨e3, b3, r3, _⟩ := mul_b hc hy (by omega) (by omega)
  obtain ⟨e4, b4, r4, _⟩ := mul_b hs hx (by omega) (by omega)
  obtain ⟨e5, b5, r5⟩ := add_b b1 b2 (K := k + 2) (by omega) (by omega) (by omega)
  obtain ⟨e6, b6, r6⟩ := sub_b b3 b4 (K := k + 2) (by omega) (by omega) (by omega)
  exact ⟨⟨e1, e2, e3, e4, e5, e6⟩, b5.mono (by omega), b6.mono (by omega), fun η w hw hcs he hxy => turn_err (Rat.le_of_lt uu_pos) uu_small (Rat.le_of_lt hh_pos) hw hcs he hxy r1 r2 r5 r3 r4 r6⟩
end Go.Proofs.Nt
/- givens.Hyper and Down, in plain Lean. -/
set_option linter.unusedVariables false
set_option linter.unusedSimpArgs false
set_option maxRecDepth 20000
namespace Go.Proofs.Nt
open Go Go.Proofs Go.Proofs.Va Go.RowKit
/-! ### givens.Hyper and Down -/
def hyS (r x : Nat) : Nat := fdiv x r
def hyC (r x : Nat) : Nat := fsqrt (fmul (fsub 4607182418800017408 (hyS r x)) (fadd 4607182418800017408 (hyS r x)))
end Go.Proofs.Nt
/- Triangles with another line. -/
set_option linter.unusedVariables false
set_option linter.unusedSimpArgs false
set_option maxRecDepth 20000
namespace Go.Proofs.Nt
open Go Go.Proofs Go.Proofs.Va Go.RowKit
/-! ### Lines that are rotated into a triangle -/
theorem large_bf {b : Nat} (hb : b < 18446744073709551616) (h : largeB b = false) : Bf 420 b := by
  unfold largeB at h
  have h := of_decide_eq_false h
  refine ⟨⟨hb, by omega⟩, ?_⟩
  have h1 : vr (frg b) ≤ vr 6498694262295625728 := vr_le_iff.2 (by omega)
  have h2 : qa (rv b) = (vr (frg b) : Rat) * tw (-1074) := by
    rw [rv_abs]
    have := tw_natmul (mg (frg b)) (-1074) (pl (frg b))
    rw [← this]; rfl
  obtain ⟨e, he, h3⟩ : ∃ e : Nat, e = 1442 ∧ vr 6498694262295625728 = 2 ^ 52 * 2 ^ e := ⟨pl 6498694262295625728, by decide, by unfold vr; rw [show mg 6498694262295625728 = 2 ^ 52 by decide]⟩
  rw [h3, ← Nat.pow_add] at h1
  have h4 : ((vr (frg b) : Nat) : Rat) ≤ ((2 ^ (52 + e) : Nat) : Rat) := Rat.natCast_le_natCast.2 h1
  have h5 := Rat.mul_nonneg (a := ((2 ^ (52 + e) : Nat) : Rat) - ((vr (frg b) : Nat) : Rat)) (b := tw (-1074)) (by grind) (tw_nn _)
  have h6 : ((2 ^ (52 + e) : Nat) : Rat) * tw (-1074) = tw 420 := by
    rw [← tw_nat, ← tw_add, show ((52 + e : Nat) : Int) + -1074 = 420 by omega]
  rw [h2]
  grind
theorem bf_zero (k : Int) : Bf k 0 := ⟨fn_zero, by rw [rv_0, qa_of Rat.le_refl]; exact tw_nn _⟩
theorem of_all {f g : Nat} (hf : Bf 600 f) (hg : Bf 600 g) : OfErr f g (ofC f g) (ofS f g) (ofG f g) ∧ Bf 1 (ofC f g) ∧ Bf 1 (ofS f g) ∧ Bf 610 (ofG f g) := by
  unfold ofC ofS ofG
  by_cases h0 : frg f = 0 ∧ frg g = 0
  · simp only [if_pos h0]
    refine ⟨?_, ⟨fn_one, by rw [rv_one, tw_one]; decide +kernel⟩, bf_zero 1, bf_zero 610⟩
    unfold OfErr
    rw [rv_one, rv_0, rv_zero.2 h0.1, rv_zero.2 h0.2]
    have u0 := uu_pos
    have p0 := hh_pos
    refine ⟨⟨0, by grind, by rw [qa_of Rat.le_refl]; grind⟩, 0, 0, by grind, by grind, fun w hw _ => ?_⟩
    have := sq_nn (8 * uu * w + 3 * hh)
    grind
  · simp only [if_neg h0]
    obtain ⟨_, h1, h2, h3, h4⟩ := of_z hf hg h0
    exact ⟨h4, h1, h2, h3⟩
/-- A triangle with another line. -/
def setLine (t : List Nat) (n j : Nat) (row : List Nat) : List Nat := t.take (rowN n j) ++ row.drop j ++ t.drop (rowN n (j + 1))
def tabN (m : Nat) (f : Nat → Nat) : List Nat := (List.range m).map f
theorem tabN_len (m : Nat) (f : Nat → Nat) : (tabN m f).length = m := by simp [tabN]
theorem tabN_get {m a : Nat} (f : Nat → Nat) (h : a < m) : (tabN m f).getD a 0 = f a := by simp [tabN, List.getD, h]
theorem setLine_len {t : List Nat} {n j : Nat} {row : List Nat} (hn : n ≤ 6) (ht : t.length = sizeN n) (hj : j ≤ n) (hr : row.length = n + 1) : (setLine t n j row).length = sizeN n := by
  have h1 := row_succ hn hj
  have h2 := (row_facts hn (i := j + 1) (by omega)).2.1
  unfold setLine
  simp only [List.length_append, List.length_take, List.length_drop]
  omega
theorem setLine_get {t : List Nat} {n j : Nat} {row : List Nat} (hn : n ≤ 6) (ht : t.length = sizeN n) (hj : j ≤ n) (hr : row.length = n + 1) {i a : Nat} (hi : i ≤ a) (ha : a ≤ n) :
    (setLine t n j row).getD (atN n i a) 0 = if i = j then row.getD a 0 else t.getD (atN n i a) 0 := by
  have h1 := row_succ hn hj
  have h2 := (row_facts hn (i := j + 1) (by omega)).2.1
  have hA := at_row hn hi ha
  have hmono : ∀ p q, p ≤ q → q ≤ n + 1 → rowN n p ≤ rowN n q := by
    intro p q hpq hq
    obtain ⟨d, rfl⟩ : ∃ d, q = p + d := ⟨q - p, by omega⟩
    clear hpq
    induction d with
    | zero => exact Nat.le_refl _
    | succ d ih =>
      have := ih (by omega)
      have := row_succ hn (i := p + d) (by omega)
      rw [Nat.add_assoc] at this
      omega
  have hi1 := row_succ hn (i := i) (by omega)
  unfold setLine
  rw [List.getD_eq_getElem?_getD, List.append_assoc]
  by_cases hij : i = j
  · subst hij
    rw [if_pos rfl, List.getElem?_append_right (by simp only [List.length_take]; omega), List.getElem?_append_left (by simp only [List.length_take, List.length_drop]; omega), List.getElem?_drop, List.getD_eq_getElem?_getD]
    congr 2
    simp only [List.length_take]
    omega
  · rw [if_neg hij]
    rcases Nat.lt_or_ge i j with h | h
    · have := hmono (i + 1) j (by omega) (by omega)
      rw [List.getElem?_append_left (by simp only [List.length_take]; omega), List.getElem?_take_of_lt (by omega), List.getD_eq_getElem?_getD]
    · have := hmono (j + 1) i (by omega) (by omega)
      rw [List.getElem?_append_right (by simp only [List.length_take]; omega), List.getElem?_append_right (by simp only [List.length_take, List.length_drop]; omega), List.getElem?_drop, List.getD_eq_getElem?_getD]
      congr 2
      simp only [List.length_take, List.length_drop]
      omega
end Go.Proofs.Nt
/- Lines that are rotated into a triangle: what they lose. -/
set_option linter.unusedVariables false
set_option linter.unusedSimpArgs false
set_option maxRecDepth 20000
namespace Go.Proofs.Nt
open Go Go.Proofs Go.Proofs.Va Go.RowKit
/-- A row behind a rotation; what is left of the line. -/
def rowS (t x : List Nat) (n j : Nat) : List Nat := tabN (n + 1) fun a => if a < j then 0 else if a = j then ofG (t.getD (atN n j j) 0) (x.getD j 0) else
  turnX (ofC (t.getD (atN n j j) 0) (x.getD j 0)) (ofS (t.getD (atN n j j) 0) (x.getD j 0)) (t.getD (atN n j a) 0) (x.getD a 0)
def restS (t x : List Nat) (n j : Nat) : List Nat := tabN (n + 1) fun a => if a ≤ j then x.getD a 0 else
  turnY (ofC (t.getD (atN n j j) 0) (x.getD j 0)) (ofS (t.getD (atN n j j) 0) (x.getD j 0)) (t.getD (atN n j a) 0) (x.getD a 0)
def lineStep (n j : Nat) (t x : List Nat) : List Nat := setLine t n j (rowS t x n j)
/-- What is left of a line, as numbers. -/
def xm (n j : Nat) (x : List Nat) (a : Nat) : Rat := if a < j ∨ n < a then 0 else rv (x.getD a 0)
/-- What may be said of a triangle's entries. -/
def TBf (t : List Nat) : Prop := ∀ b ∈ t, Bf 420 b
theorem TBf.at {t : List Nat} (h : TBf t) (q : Nat) : Bf 420 (t.getD q 0) := by
  rw [List.getD_eq_getElem?_getD]
  rcases Nat.lt_or_ge q t.length with hq | hq
  · rw [List.getElem?_eq_getElem hq]; exact h _ (List.getElem_mem hq)
  · rw [List.getElem?_eq_none hq]; exact bf_zero _
def XBf (k : Int) (x : List Nat) : Prop := ∀ b ∈ x, Bf k b
theorem XBf.at {k : Int} {x : List Nat} (h : XBf k x) (q : Nat) : Bf k (x.getD q 0) := by
  rw [List.getD_eq_getElem?_getD]
  rcases Nat.lt_or_ge q x.length with hq | hq
  · rw [List.getElem?_eq_getElem hq]; exact h _ (List.getElem_mem hq)
  · rw [List.getElem?_eq_none hq]; exact bf_zero _
theorem xbf_tabN {k : Int} {m : Nat} {f : Nat → Nat} (h : ∀ a, a < m → Bf k (f a)) : XBf k (tabN m f) := by
  intro b hb
  obtain ⟨a, ha, rfl⟩ := List.mem_map.1 hb
  exact h a (List.mem_range.1 ha)
theorem rest_bf {t x : List Nat} {n j : Nat} {k : Int} (ht : TBf t) (hx : XBf k x) (hk : 420 ≤ k ∧ k ≤ 560) : XBf (k + 4) (restS t x n j) := by
  refine xbf_tabN fun a ha => ?_
  split
  · exact (hx.at a).mono (by omega)
  · obtain ⟨_, c1, c2, _⟩ := of_all ((ht.at (atN n j j)).mono (l := 600) (by omega)) ((hx.at j).mono (l := 600) (by omega))
    exact (turn_z (k := k) (by omega) c1 c2 ((ht.at _).mono (by omega)) (hx.at a)).2.2.1
theorem line_rot {t x : List Nat} {n j : Nat} {k : Int} (hn : n ≤ 6) (hl : t.length = sizeN n) (hj : j ≤ n) (ht : TBf t) (hx : XBf k x) (hk : 420 ≤ k ∧ k ≤ 560) :
    RotS uu hh (n + 1) j (Rm t n) (xm n j x) (Rm (lineStep n j t x) n) (xm n (j + 1) (restS t x n j)) := by
  have hrl : (rowS t x n j).length = n + 1 := tabN_len _ _
  have hget := fun i a => setLine_get (row := rowS t x n j) hn hl hj hrl (i := i) (a := a)
  obtain ⟨oe, c1, c2, c3⟩ := of_all ((ht.at (atN n j j)).mono (l := 600) (by omega)) ((hx.at j).mono (l := 600) (by omega))
  obtain ⟨⟨η, hη1, hη2⟩, α0, β0, p1, p2, p3⟩ := oe
  refine ⟨by omega, fun i hi => ?_, fun a ha => ?_, _, _, η, hη1, hη2, fun a hja han => ?_⟩
  · funext a
    unfold Rm lineStep
    by_cases h : a < i ∨ n < a ∨ n < i
    · rw [if_pos h, if_pos h]
    · rw [if_neg h, if_neg h, hget i a (by omega) (by omega), if_neg hi]
  · unfold Rm xm
    rw [if_pos (.inl ha), if_pos (.inl ha), if_pos (.inl ha), if_pos (.inl (by omega))]
    exact ⟨rfl, rfl, rfl, rfl⟩
  · have e1 : Rm t n j a = rv (t.getD (atN n j a) 0) := by unfold Rm; rw [if_neg (by omega)]
    have e2 : xm n j x a = rv (x.getD a 0) := by unfold xm; rw [if_neg (by omega)]
    have e3 : Rm (lineStep n j t x) n j a = rv ((rowS t x n j).getD a 0) := by unfold Rm lineStep; rw [if_neg (by omega), hget j a hja (by omega), if_pos rfl]
    rw [e1, e2, e3]
    by_cases hj2 : a = j
    · subst hj2
      have e4 : (rowS t x n a).getD a 0 = ofG (t.getD (atN n a a) 0) (x.getD a 0) := by unfold rowS; rw [tabN_get _ (by omega), if_neg (by omega), if_pos rfl]
      have e5 : xm n (a + 1) (restS t x n a) a = 0 := by unfold xm; rw [if_pos (by omega)]
      rw [e4, e5]
      exact ⟨α0, β0, p1, p2, p3⟩
    · have e4 : (rowS t x n j).getD a 0 = turnX (ofC (t.getD (atN n j j) 0) (x.getD j 0)) (ofS (t.getD (atN n j j) 0) (x.getD j 0)) (t.getD (atN n j a) 0) (x.getD a 0) := by
        unfold rowS; rw [tabN_get _ (by omega), if_neg (by omega), if_neg hj2]
      have e5 : xm n (j + 1) (restS t x n j) a = rv (turnY (ofC (t.getD (atN n j j) 0) (x.getD j 0)) (ofS (t.getD (atN n j j) 0) (x.getD j 0)) (t.getD (atN n j a) 0) (x.getD a 0)) := by
        unfold xm restS; rw [if_neg (by omega), tabN_get _ (by omega), if_neg (by omega)]
      rw [e4, e5]
      have hz := (turn_z (k := k) (by omega) c1 c2 ((ht.at (atN n j a)).mono (by omega)) (hx.at a)).2.2.2 η
      generalize turnX (ofC (t.getD (atN n j j) 0) (x.getD j 0)) (ofS (t.getD (atN n j j) 0) (x.getD j 0)) (t.getD (atN n j a) 0) (x.getD a 0) = X' at *
      generalize turnY (ofC (t.getD (atN n j j) 0) (x.getD j 0)) (ofS (t.getD (atN n j j) 0) (x.getD j 0)) (t.getD (atN n j a) 0) (x.getD a 0) = Y' at *
      generalize rv (ofC (t.getD (atN n j j) 0) (x.getD j 0)) = C at *
      generalize rv (ofS (t.getD (atN n j j) 0) (x.getD j 0)) = S at *
      generalize rv (t.getD (atN n j a) 0) = P at *
      generalize rv (x.getD a 0) = Q at *
      clear p1 p2 p3 e1 e2 e3 e4 e5 hget
      refine ⟨rv X' - (C * P + S * Q), rv Y' - (C * Q - S * P), by grind, by grind, fun w hw hxy => ?_⟩
      obtain ⟨α, β, q1, q2, q3⟩ := hz w hw hη1 hη2 hxy
      rw [show rv X' - (C * P + S * Q) = α by rw [q1]; grind, show rv Y' - (C * Q - S * P) = β by rw [q2]; grind]
      exact q3
/-- Lines that are rotated in, one behind the other column. -/
def lineGo (n : Nat) (rows turns : Int) : Nat → Nat → List Nat → List Nat → Option (List Nat)
  | 0, _, t, _ => some t
  | m + 1, j, t, x => if triOk n (lineStep n j t x) rows turns = true then lineGo n rows turns m (j + 1) (lineStep n j t x) (restS t x n j) else none
theorem fl_bf {t : List Nat} (h : Fl t) (h2 : ∀ x ∈ t, largeB x = false) : TBf t := fun b hb => large_bf (h b hb) (h2 b hb)
theorem fl_tabN {m : Nat} {f : Nat → Nat} (h : ∀ a, a < m → f a < 18446744073709551616) : Fl (tabN m f) := by
  intro b hb
  obtain ⟨a, ha, rfl⟩ := List.mem_map.1 hb
  exact h a (List.mem_range.1 ha)
theorem fl_step {t x : List Nat} {n j : Nat} {k : Int} (ht : TBf t) (hx : XBf k x) (hk : 420 ≤ k ∧ k ≤ 560) : Fl (lineStep n j t x) := by
  intro b hb
  unfold lineStep setLine at hb
  rcases List.mem_append.1 hb with hb | hb
  · rcases List.mem_append.1 hb with hb | hb
    · exact (ht b (List.mem_of_mem_take hb)).1.1
    · refine fl_tabN (m := n + 1) (fun a ha => ?_) b (List.mem_of_mem_drop hb)
      obtain ⟨_, c1, c2, c3⟩ := of_all ((ht.at (atN n j j)).mono (l := 600) (by omega)) ((hx.at j).mono (l := 600) (by omega))
      split
      · omega
      · split
        · exact c3.1.1
        · exact (turn_z (k := k) (by omega) c1 c2 ((ht.at _).mono (by omega)) (hx.at a)).2.1.1.1
  · exact (ht b (List.mem_of_mem_drop hb)).1.1
theorem xm_last {n : Nat} (x : List Nat) : xm n (n + 1) x = fun _ => 0 := by
  funext a; unfold xm; rw [if_pos (by omega)]
theorem go_near {n : Nat} (hn : n ≤ 6) {rows turns : Int} {N : Nat → Nat → Rat} {X : Nat → Rat} (hN : ∀ a, a < n + 1 → N a a ≤ X a) : ∀ (m j : Nat) (t x : List Nat) {t' : List Nat} {K T : Rat}, j + m = n + 1 → t.length = sizeN n → TBf t → XBf (430 + 4 * j) x →
    0 ≤ K → (K + 32 * uu * m) * 1048576 ≤ 1 → 0 ≤ T → T + 6 * hh * m ≤ 1048576 * hh → FmS (n + 1) (Rm t n) (xm n j x) N X K T → lineGo n rows turns m j t x = some t' →
    t'.length = sizeN n ∧ TBf t' ∧ FmS (n + 1) (Rm t' n) (fun _ => 0) N X (K + 32 * uu * m) (T + 6 * hh * m)
  | 0, j, t, x, t', K, T, hm, hl, ht, hx, hK, hK1, hT, hT1, hF, h => by
    simp only [lineGo, Option.some.injEq] at h
    subst h
    have : j = n + 1 := by omega
    subst this
    rw [xm_last] at hF
    rw [show ((0 : Nat) : Rat) = 0 from rfl, Rat.mul_zero, Rat.mul_zero, Rat.add_zero, Rat.add_zero]
    exact ⟨hl, ht, hF⟩
  | m + 1, j, t, x, t', K, T, hm, hl, ht, hx, hK, hK1, hT, hT1, hF, h => by
    simp only [lineGo] at h
    have u0 := uu_pos
    have u1 := uu_small
    have p0 := hh_pos
    have m0 : (0 : Rat) ≤ (m : Rat) := Rat.natCast_nonneg
    have um := Rat.mul_nonneg (Rat.le_of_lt u0) m0
    have pm := Rat.mul_nonneg (Rat.le_of_lt p0) m0
    rw [Rat.natCast_add, show ((1 : Nat) : Rat) = 1 from rfl] at hK1 hT1 ⊢
    split at h
    case isFalse => cases h
    rename_i hok
    obtain ⟨_, _, _, _, hl2, hlg, _⟩ := triOk_nat hok
    have hrot := line_rot hn hl (j := j) (by omega) ht hx (by omega)
    have hl' : (lineStep n j t x).length = sizeN n := setLine_len hn hl (by omega) (tabN_len _ _)
    have ht' := fl_bf (fl_step (n := n) (j := j) ht hx (by omega)) hlg
    have hx' : XBf (430 + 4 * ((j + 1 : Nat) : Int)) (restS t x n j) := by
      have := rest_bf (n := n) (j := j) ht hx (by omega)
      rw [show 430 + 4 * ((j + 1 : Nat) : Int) = 430 + 4 * (j : Int) + 4 by omega]
      exact this
    have hF' := ins_step hrot hF hN (Rat.le_of_lt u0) u1 hK (by grind) hT (by grind) p0
    have := go_near hn hN m (j + 1) _ _ (by omega) hl' ht' hx' (by grind) (by grind) (by grind) (by grind) hF' h
    rw [show K + 32 * uu * ((m : Rat) + 1) = K + 32 * uu + 32 * uu * m by grind, show T + 6 * hh * ((m : Rat) + 1) = T + 6 * hh + 6 * hh * m by grind]
    exact this
end Go.Proofs.Nt
/- Rows taken out, fading: what is lost. -/
set_option linter.unusedVariables false
set_option linter.unusedSimpArgs false
set_option maxRecDepth 20000
namespace Go.Proofs.Nt
open Go Go.Proofs Go.Proofs.Va Go.RowKit
/-! ### A line that is taken out -/
def hC (t x : List Nat) (n j : Nat) : Nat := hyC (t.getD (atN n j j) 0) (x.getD j 0)
def hS (t x : List Nat) (n j : Nat) : Nat := hyS (t.getD (atN n j j) 0) (x.getD j 0)
/-! ### Fading -/
end Go.Proofs.Nt
/- Functions that answer with a list of their own; givens. -/
set_option linter.unusedVariables false
set_option maxRecDepth 20000
set_option linter.unusedSimpArgs false
set_option linter.unnecessarySimpa false
namespace Go.Proofs.Va
open Go Go.RowKit

/-- A call whose answer is a new list: that list, as an own block behind all others. -/
theorem fresh_call {P : Program} {g : FuncId} {args cs : List AV} {n sz : Nat} {σ : AHeap}
    (hC : ACall P g args [] (fun r σ' => ∃ j v cap' more, r = .so j v 0 n sz cap' ∧ σ'[j]? = some ⟨.own, v, cs ++ more⟩)) (ha : ∀ x ∈ args, Pu x) (hcs : ∀ x ∈ cs, Pu x)
    {K : AV → AHeap → Prop} (hK : K (.so σ.length 1 0 n sz none) (σ ++ [⟨.own, 1, cs⟩])) : ACall P g args σ K := by
  have hput : putA σ σ.length ⟨.own, 1, cs⟩ = σ ++ [⟨.own, 1, cs⟩] := by
    unfold putA
    simp
  have key : ACall P g args σ (fun r σ' => r = .so σ.length 1 0 n sz none ∧ σ' = putA σ σ.length ⟨.own, 1, cs⟩) := by
    intro w0 ρ fz w vs hh hr
    have hb : HRel w (fun _ => (0, 0)) fz [] w := ⟨Below.refl _ _, hh.fzlt, fun i b hb => by simp at hb, fun i j bi bj hi => by simp at hi⟩
    have hr0 : RL (fun _ => (0, 0)) [] fz w args vs := ⟨hr.1, fun j hj => .pure _ _ ((hr.2 j hj).toRp (ha _ (List.getElem_mem hj)))⟩
    have hpu : ∀ q (hq : q < cs.length), Pu cs[q] := fun q hq => hcs _ (List.getElem_mem hq)
    have hp : freeAt σ σ.length := fun b hb => by simp at hb
    have fin := fun v w' r σ' ρ' fz' => clone_fin (n := n) (sz := sz) hh hpu hp v w' r σ' ρ' fz'
    rcases hC w (fun _ => (0, 0)) fz w vs hb hr0 with ⟨h1, h2⟩ | ⟨v, w', r, σ', ρ', fz', h1, h2, h3, h4, h5⟩
    · refine .inl ⟨h1, h2.mono fun e w' ⟨v, r, σ', ρ', fz', he, hK, hH, hR, hE⟩ => ?_⟩
      obtain ⟨r2, σ2, ρ2, fz2, k1, k2, k3, k4⟩ := fin v w' r σ' ρ' fz' hK hH hR hE
      exact ⟨v, r2, σ2, ρ2, fz2, he, k1, k2, k3, k4⟩
    · obtain ⟨r2, σ2, ρ2, fz2, k1, k2, k3, k4⟩ := fin v w' r σ' ρ' fz' h2 h3 h4 h5
      exact .inr ⟨v, w', r2, σ2, ρ2, fz2, h1, k1, k2, k3, k4⟩
  refine key.mono ?_
  rintro r σ' ⟨rfl, rfl⟩
  rw [hput]; exact hK
end Go.Proofs.Va
namespace Go.Proofs.Nt
open Go Go.Proofs Go.Proofs.Va Go.RowKit

/-- A pair of floats. -/
def pr (f g : Nat) : AV := .agg [fl f, fl g]
theorem pu_pr (f g : Nat) : Pu (pr f g) := pu_agg (by simp)
@[simp] theorem zcPr : zcT Tryz.prog 123 = some [fl 0, fl 0] := by kernel_rfl
@[simp] theorem fldPr0 : fldT Tryz.prog 123 0 = some (25, 0) := by kernel_rfl
@[simp] theorem fldPr1 : fldT Tryz.prog 123 1 = some (25, 1) := by kernel_rfl
@[simp] theorem szPr : szT Tryz.prog 123 = some 2 := by kernel_rfl
@[simp] theorem aggPr : aggT Tryz.prog 123 = some true := by kernel_rfl
@[simp] theorem plPr : placesT Tryz.prog 123 = some [(0, 1), (1, 1)] := by kernel_rfl
@[simp] theorem szFlh : szT Tryz.prog 25 = some 1 := by kernel_rfl
@[simp] theorem arrF2h : arrT Tryz.prog 153 = some (2, 25, 1) := by kernel_rfl
@[simp] theorem zcF2h : zcT Tryz.prog 153 = some [fl 0, fl 0] := by kernel_rfl
@[simp] theorem plF2h : placesT Tryz.prog 153 = some [(0, 1), (1, 1)] := by kernel_rfl
@[simp] theorem pairPr : pairT Tryz.prog 123 = true := by kernel_rfl
theorem top_frexp {b : Nat} (h0 : frg b ≠ 0) (h : frg b < 9218868437227405312) : ((nrung (frg b) / 4503599627370496 : Nat) : Int) + nadj (frg b) - 1022 - 1 = topW b := by
  unfold topW nrung nadj
  rw [if_neg h0]
  by_cases h1 : frg b < 4503599627370496
  · obtain ⟨hl, h2, h3⟩ := sub_top h0 h1
    have e1 : mg (frg b) = frg b := by unfold mg; rw [if_pos h1]
    have e2 : pl (frg b) = 0 := by unfold pl; omega
    rw [if_pos h1, if_pos h1, e1, e2]
    generalize frg b * 2 ^ (52 - (frg b).log2) = q at *
    omega
  · have e1 : (mg (frg b)).log2 = 52 := by
      refine (Nat.log2_eq_iff (mg_pos h0)).2 ?_
      have h52 : (2 : Nat) ^ 52 = 4503599627370496 := rfl
      have h53 : (2 : Nat) ^ (52 + 1) = 9007199254740992 := rfl
      unfold mg
      rw [if_neg h1]
      omega
    rw [if_neg h1, if_neg h1, e1]
    unfold pl
    omega
theorem btop_ctr {b : Nat} (hb : fn b) : Ctr Tryz.prog 89 [fl b] (fun r => r = i (topW b)) := by
  refine ctr_val Tryz.func89 rfl (by kernel_rfl) rfl (by simp) fun K hK => ?_
  have hk : fkind b = if frg b = 0 then 0 else 1 := by unfold fkind; have := hb.2; rw [if_neg (by omega), if_neg (by omega)]
  simp [Tryz.f89]
  refine acall_by (kind_ctr hb.1) (by simp) ?_
  rintro _ rfl
  by_cases h0 : frg b = 0
  · have : topW b = -2000 := if_pos h0
    rw [this] at hK
    simp [hk, h0]
    exact hK _
  · have ht := top_frexp h0 hb.2
    have hr := top_rv h0
    have hb2 := hb.2
    have hlo : -1074 ≤ topW b := hr.2.2
    have hhi : topW b ≤ 1100 := by
      unfold topW
      rw [if_neg h0]
      have hl : (mg (frg b)).log2 < 53 := (Nat.log2_lt (mg_pos h0)).2 (by
        have : (2 : Nat) ^ 53 = 9007199254740992 := rfl
        unfold mg; split <;> omega)
      have : pl (frg b) ≤ 2046 := by unfold pl; omega
      omega
    simp [hk, h0]
    refine acall_by (frexp2_ctr hb.1 h0 hb.2) (by simp) ?_
    rintro _ rfl
    simp [-Int.natCast_ediv]
    rw [w64 _ (by omega) (by omega), ht]
    exact hK _
/-- Two numbers. -/
theorem pmay_ctr {f g : Nat} (hf : fn f) (hg : fn g) : Ctr Tryz.prog 88 [pr f g] (fun r => r = bo true) := by
  refine ctr_val Tryz.func88 rfl (by kernel_rfl) rfl (by simp) fun K hK => ?_
  have sp : ∀ b, fn b → Ctr Tryz.prog 71 [fl b] (fun r => ∃ x y z k, (0 ≤ k ∧ k ≤ 1) ∧ r = .tup [bo x, u y, i z, i k]) := fun b hb => (split_ctr hb.1).mono (by
    rintro _ rfl
    have := hb.2
    by_cases h0 : frg b = 0
    · exact ⟨_, _, _, 0, by omega, splitV_zero h0⟩
    · exact ⟨_, _, _, 1, by omega, splitV_num h0 hb.2⟩)
  simp [Tryz.f88, pr]
  refine loop_on (γ := Nat) 27 (fun k => [(13, .agg [fl f, fl g]), (14, i k)]) (fun _ => [⟨.own, 0, [fl f, fl g]⟩]) (fun k => k ≤ 2) (fun k => 2 - k) 0 (by simp) (Wk.lst (by simp) (by simp)) ?_
  intro k hk L hL
  have hcase : k = 0 ∨ k = 1 ∨ k = 2 := by omega
  rcases hcase with rfl | rfl | rfl
  · simp
    refine acall_by (sp f hf) (by simp) ?_
    rintro _ ⟨x, y, z, q, hq, rfl⟩
    have hq1 : ¬ 1 < q := by omega
    simp [hq1]
    rw [w64 1 (by omega) (by omega)]
    exact hL 1 _ _ (by simp) (Wk.lst (by simp) (by simp)) (by simp)
  · simp
    refine acall_by (sp g hg) (by simp) ?_
    rintro _ ⟨x, y, z, q, hq, rfl⟩
    have hq1 : ¬ 1 < q := by omega
    simp [hq1]
    rw [w64 2 (by omega) (by omega)]
    exact hL 2 _ _ (by simp) (Wk.lst (by simp) (by simp)) (by simp)
  · simp
    exact hK _
theorem pscale_ctr {f g x y : Nat} {k : Int} (hk : -4000 ≤ k ∧ k ≤ 4000) (h1 : Ieee.double.mul f (powW k) = some x) (h2 : Ieee.double.mul g (powW k) = some y) : Ctr Tryz.prog 90 [pr f g, i k] (fun r => r = pr x y) := by
  refine ctr_in Tryz.func90 rfl (by kernel_rfl) rfl fun K hK => ?_
  simp [Tryz.f90, pr]
  refine acall_by (pow_ctr k hk) (by simp) ?_
  rintro _ rfl
  simp [h1, h2]
  exact hK _ _ _ (.same _ (pu_pr x y)) rfl
theorem psize_ctr {x y a b s h : Nat} (h1 : Ieee.double.mul x x = some a) (h2 : Ieee.double.mul y y = some b) (h3 : Ieee.double.add a b = some s) (h4 : Ieee.double.sqrt s = some h) : Ctr Tryz.prog 91 [pr x y] (fun r => r = fl h) := by
  refine ctr_val Tryz.func91 rfl (by kernel_rfl) rfl (by simp) fun K hK => ?_
  simp [Tryz.f91, pr, h1, h2, h3]
  refine acall_by (Sqrt_ctr h4) (by simp) ?_
  rintro _ rfl
  simp
  exact hK _
theorem gof_ctr {f g : Nat} (hf : Bf 600 f) (hg : Bf 600 g) : Ctr Tryz.prog 57 [fl f, fl g] (fun r => r = .tup [fl (ofC f g), fl (ofS f g), fl (ofG f g), bo true]) := by
  refine ctr_val Tryz.func57 rfl (by kernel_rfl) rfl (pu_tup (by simp)) fun K hK => ?_
  unfold ofC ofS ofG at hK
  have cM := pmay_ctr hf.1 hg.1
  unfold pr at cM
  simp [Tryz.f57]
  refine acall_by cM (by intro z hz; rw [List.mem_singleton.1 hz]; exact pu_pr f g) ?_
  rintro _ rfl
  simp [eq_zero_f]
  by_cases h0 : frg f = 0 ∧ frg g = 0
  · simp only [if_pos h0] at hK
    simp [h0]
    exact hK _
  simp only [if_neg h0] at hK
  obtain ⟨⟨o1, o2, o3, o4, o5, o6, o7, o8, o9⟩, b1, b2, b3, _⟩ := of_z hf hg h0
  have t1 := top_le hf (by omega)
  have t2 := top_le hg (by omega)
  have kd : ofK f g = max (-1000) (min 1000 (max (topW f) (topW g))) := rfl
  simp [h0]
  refine acall_by (btop_ctr hf.1) (by simp) ?_
  rintro _ rfl
  simp
  refine acall_by (btop_ctr hg.1) (by simp) ?_
  rintro _ rfl
  simp
  have m1 : (if topW f < topW g then topW g else topW f) = max (topW f) (topW g) := by split <;> omega
  have m2 : (if max (topW f) (topW g) < 1000 then max (topW f) (topW g) else 1000) = min 1000 (max (topW f) (topW g)) := by split <;> omega
  have m3 : (if -1000 < min 1000 (max (topW f) (topW g)) then min 1000 (max (topW f) (topW g)) else -1000) = ofK f g := by rw [kd]; split <;> omega
  have hk1 : -1000 ≤ ofK f g ∧ ofK f g ≤ 1000 := by omega
  rw [m1, m2, m3, w64 _ (by omega) (by omega)]
  have cS := pscale_ctr (k := -ofK f g) (by omega) o1 o2
  have cZ := psize_ctr o3 o4 o5 o6
  unfold pr at cS cZ
  refine acall_by cS (by intro z hz; simp only [List.mem_cons, List.not_mem_nil, or_false] at hz; rcases hz with rfl | rfl; exact pu_pr f g; simp) ?_
  rintro _ rfl
  simp
  refine acall_by cZ (by intro z hz; rw [List.mem_singleton.1 hz]; exact pu_pr _ _) ?_
  rintro _ rfl
  simp
  refine acall_by (pow_ctr (ofK f g) (by omega)) (by simp) ?_
  rintro _ rfl
  simp [o9]
  refine acall_by (isinf_ctr b3.1.1) (by simp) ?_
  rintro _ rfl
  have := b3.1.2
  simp [show ¬ frg (fmul (ofH f g) (powW (ofK f g))) = 9218868437227405312 by omega]
  refine draw_at [1, 1, 0, 0, 1, 1, 0, 0, 0, 0, 0, 0, 0] (by kernel_rfl) (by kernel_rfl) ?_
  simp [o7, o8]
  exact hK _
theorem gturn_ctr {c s x y : Nat} (h : TurnOk c s x y) : Ctr Tryz.prog 58 [fl c, fl s, fl x, fl y] (fun r => r = .tup [fl (turnX c s x y), fl (turnY c s x y)]) := by
  refine ctr_val Tryz.func58 rfl (by kernel_rfl) rfl (pu_tup (by simp)) fun K hK => ?_
  obtain ⟨h1, h2, h3, h4, h5, h6⟩ := h
  simp [Tryz.f58, h1, h2, h3, h4]
  refine draw_at [1, 1, 1, 1, 0, 1, 1, 1, 1, 0, 0, 0] (by kernel_rfl) (by kernel_rfl) ?_
  simp [h5, h6]
  exact hK _
end Go.Proofs.Nt
/- tri.Set; tri.Line as a list of its own. -/
set_option linter.unusedVariables false
set_option maxRecDepth 20000
set_option linter.unusedSimpArgs false
set_option linter.unnecessarySimpa false
namespace Go.Proofs.Nt
open Go Go.Proofs Go.Proofs.Va Go.RowKit

/-- Clone of floats. -/
theorem cloneFl {l : List Nat} {nl : Bool} {cap : Option Nat} {σ : AHeap} {K : AV → AHeap → Prop} (h0 : 0 < l.length) (hl : l.length ≤ 100000) (hK : K (.so σ.length 1 0 l.length 1 none) (σ ++ [⟨.own, 1, l.map fl⟩])) :
    ACall Tryz.prog 56 [fsl nl l cap] σ K := by
  refine fresh_call (n := l.length) (sz := 1) ?_ (by simp) (by
    intro x hx
    obtain ⟨b, _, rfl⟩ := List.mem_map.1 hx
    simp) hK
  refine acall_in Tryz.func56 rfl (by kernel_rfl) rfl ?_
  have hne : l ≠ [] := by intro h; rw [h] at h0; simp at h0
  unfold fsl
  simp [Tryz.f56, hne]
  refine ⟨by omega, fun c hc => ?_⟩
  exact ⟨1, 0, ⟨rfl, rfl⟩, _, rfl⟩
theorem pur_flk {σ : AHeap} {S : Nat → Prop} {j v n : Nat} {l : List Nat} {k : BK} {cap : Option Nat} (hj : σ[j]? = some ⟨k, v, l.map fl⟩) (hk : k ≠ .dead) (hS : S j) (hn : n = l.length) : Pur σ S (.so j v 0 n 1 cap) (fsl false l cap) := by
  subst hn
  refine .so j v 0 l.length 1 cap _ (l.map fl) hj rfl hk hS (by simp) (by simp) fun q hq => ?_
  simp only [List.length_map] at hq
  show Pur σ _ ((l.map fl).getD (0 + q) .any) _
  rw [Nat.zero_add, getD_eq (by simpa using hq)]
  exact .same _ (by simp)
theorem pur_fac {σ : AHeap} {S : Nat → Prop} {j v n : Nat} {t : List Nat} {k : BK} {cap : Option Nat} {c rows turns : Int} (hj : σ[j]? = some ⟨k, v, t.map fl⟩) (hk : k ≠ .dead) (hS : S j) (hn : n = t.length) :
    Pur σ S (.agg [i c, .so j v 0 n 1 cap, i rows, i turns]) (.agg [i c, fsl false t cap, i rows, i turns]) := by
  refine .agg _ _ rfl fun q hq => ?_
  have : q = 0 ∨ q = 1 ∨ q = 2 ∨ q = 3 := by simp at hq; omega
  rcases this with rfl | rfl | rfl | rfl
  · exact .same _ (.v _)
  · exact pur_flk hj hk hS hn
  · exact .same _ (.v _)
  · exact .same _ (.v _)
theorem fl_set {t row : List Nat} {n j : Nat} (ht : Fl t) (hr : Fl row) : Fl (setLine t n j row) := by
  intro b hb
  unfold setLine at hb
  rcases List.mem_append.1 hb with hb | hb
  · rcases List.mem_append.1 hb with hb | hb
    · exact ht b (List.mem_of_mem_take hb)
    · exact hr b (List.mem_of_mem_drop hb)
  · exact ht b (List.mem_of_mem_drop hb)
def nilF : AV := .agg [i 0, .pl true [] 0 (some 0), i 0, i 0]
theorem pu_nilF : Pu nilF := pu_agg (by simp)
@[simp] theorem plFah : placesT Tryz.prog 24 = some [(0, 1), (1, 1), (2, 1), (3, 1)] := by kernel_rfl
/-- A factor with another line. -/
def setP (c : Int) (t : List Nat) (rows turns j : Int) (row : List Nat) (r : AV) : Prop :=
  if triOk c t rows turns = true ∧ (0 ≤ j ∧ j ≤ c) ∧ (row.length : Int) = c + 1 ∧ triOk c (setLine t c.toNat j.toNat row) rows turns = true then
    ∃ nl cap, r = .tup [.agg [i c, fsl nl (setLine t c.toNat j.toNat row) cap, i rows, i turns], bo true] else r = .tup [nilF, bo false]
theorem tset_ctr (c : Int) (t row : List Nat) (tn : Bool) (tc : Option Nat) (rn : Bool) (rc : Option Nat) (rows turns j : Int) (hf : Fl t) (hl : t.length ≤ 1000000) (hr : Fl row) (hrl : row.length ≤ 1000000) :
    Ctr Tryz.prog 59 [.agg [i c, fsl tn t tc, i rows, i turns], i j, fsl rn row rc] (setP c t rows turns j row) := by
  refine ctr_in Tryz.func59 rfl (by kernel_rfl) rfl fun K hK => ?_
  have hno : ¬ (triOk c t rows turns = true ∧ (0 ≤ j ∧ j ≤ c) ∧ (row.length : Int) = c + 1 ∧ triOk c (setLine t c.toNat j.toNat row) rows turns = true) → ∀ σ, K (.tup [nilF, bo false]) σ := fun h σ => by
    refine hK _ _ _ (.same _ (pu_tup (by intro z hz; simp only [List.mem_cons, List.not_mem_nil, or_false] at hz; rcases hz with rfl | rfl; exact pu_nilF; simp))) ?_
    unfold setP; rw [if_neg h]
  simp [Tryz.f59, cells_g4, -cellsOf]
  refine acall_by (has_ctr c t tn tc rows turns j hf hl) (by intro z hz; simp only [List.mem_cons, List.not_mem_nil, or_false] at hz; rcases hz with rfl | rfl; exact pu_agg (by simp); simp) ?_
  rintro _ rfl
  by_cases hq : (triOk c t rows turns && (decide (0 ≤ j) && decide (j ≤ c))) = true
  case neg =>
    have h2 : ¬ (triOk c t rows turns = true ∧ (0 ≤ j ∧ j ≤ c) ∧ (row.length : Int) = c + 1 ∧ triOk c (setLine t c.toNat j.toNat row) rows turns = true) := by
      rintro ⟨a, ⟨b1, b2⟩, _⟩
      apply hq
      rw [a, decide_eq_true b1, decide_eq_true b2]; rfl
    rw [Bool.not_eq_true] at hq
    rw [hq]
    simp [wr]
    exact hno h2 _
  have hq' := hq
  rw [Bool.and_eq_true, Bool.and_eq_true] at hq'
  obtain ⟨hok, hj0, hj1⟩ := hq'
  have hj0 := of_decide_eq_true hj0
  have hj1 := of_decide_eq_true hj1
  obtain ⟨n, rfl, h1, hn, ht, _, _⟩ := triOk_nat hok
  obtain ⟨J, rfl⟩ : ∃ J : Nat, j = J := ⟨j.toNat, by omega⟩
  have w1 : IntKind.i64.wrap ((n : Int) + 1) = (n : Int) + 1 := w64 _ (by omega) (by omega)
  rw [hq]
  by_cases hlen : (row.length : Int) = n + 1
  case neg =>
    simp [w1, hlen, wr]
    exact hno (fun h => hlen h.2.2.1) _
  have hsz := size_le hn
  have hJ : J ≤ n := by omega
  have rs := row_succ hn hJ
  have rf := (row_facts hn (i := J + 1) (by omega)).2.1
  have rj := (row_facts hn (i := J) (by omega)).1
  have ht0 : 0 < t.length := by omega
  simp [w1, hlen, cells_g4, -cellsOf]
  refine cloneFl ht0 (by omega) ?_
  simp
  refine draw_at [1, 1, 1, 1, 0, 3, 1, 0, 0, 1, 4] (by kernel_rfl) (by kernel_rfl) ?_
  simp
  refine acall_by (before_ctr hn (i' := J) (by omega)) (by simp) ?_
  rintro _ rfl
  have hrl2 : row.length = n + 1 := by omega
  have m1 : (t.length : Int) - ((rowN n J : Nat) : Int) = ((t.length - rowN n J : Nat) : Int) := by omega
  have m2 : min (n + 1 - J) (t.length - rowN n J) = n + 1 - J := by omega
  have m3 : min (t.length - rowN n J) (n + 1 - J) = n + 1 - J := by omega
  have m4 : J ≤ n + 1 := by omega
  have m5 : rowN n J ≤ t.length := by omega
  have m6 : rowN n J + (t.length - rowN n J) ≤ t.length := by omega
  have hcp : List.take (rowN n J) (List.map fl t) ++ (List.take (n + 1 - J) (List.take (n + 1 - J) (List.drop J (List.map fl row))) ++ List.drop (rowN n J + (n + 1 - J)) (List.map fl t)) = (setLine t n J row).map fl := by
    unfold setLine
    rw [rs, List.map_append, List.map_append, List.map_take, List.map_drop, List.map_drop, List.append_assoc, List.take_take, Nat.min_self, List.take_of_length_le (l := List.drop J (List.map fl row)) (by simp; omega)]
  rw [← rj]
  unfold fsl
  simp [m1, m2, m3, m4, m5, m6, hrl2, hcp]
  refine ⟨by omega, ?_⟩
  have hsl : t.length = (setLine t n J row).length := by rw [setLine_len hn ht hJ hrl2, ht]
  have hfs := fl_set (n := n) (j := J) hf hr
  unfold setP at hK
  simp only [Int.toNat_natCast] at hK hno
  generalize setLine t n J row = t' at *
  refine acall_froze [2] (tcheck_ctr n t' false none rows turns hfs (by omega)) rfl (fun q hq => ?_) ?_
  · have : q = 0 := by simpa using hq
    subst this
    exact pur_fac (k := .own) rfl (by decide) (by simp) hsl
  rintro _ rfl
  by_cases hok2 : triOk n t' rows turns = true
  · rw [hok2]
    simp [froze, wr]
    refine hK _ _ (.tup [.agg [i n, fsl false t' none, i rows, i turns], bo true]) (.tup _ _ rfl fun q hq => ?_) (by rw [if_pos ⟨hok, ⟨hj0, hj1⟩, hlen, hok2⟩]; exact ⟨_, _, rfl⟩)
    have : q = 0 ∨ q = 1 := by simp at hq; omega
    rcases this with rfl | rfl
    · exact pur_fac (k := .ro) rfl (by decide) trivial hsl
    · exact .same _ (.v _)
  · have h2 : ¬ (triOk n t rows turns = true ∧ (0 ≤ (J : Int) ∧ (J : Int) ≤ n) ∧ (row.length : Int) = n + 1 ∧ triOk n t' rows turns = true) := fun h => hok2 h.2.2.2
    rw [Bool.not_eq_true] at hok2
    rw [hok2]
    simp [froze, wr]
    exact hno h2 _
end Go.Proofs.Nt
/- absorb.Line. -/
set_option linter.unusedVariables false
set_option maxRecDepth 20000
set_option linter.unusedSimpArgs false
set_option linter.unnecessarySimpa false
namespace Go.Proofs.Nt
open Go Go.Proofs Go.Proofs.Va Go.RowKit

/-- A factor that is told, or none. -/
def facP (c rows turns : Int) (o : Option (List Nat)) (r : AV) : Prop :=
  match o with
  | some t' => ∃ nl cap, r = .tup [.agg [i c, fsl nl t' cap, i rows, i turns], bo true]
  | none => r = .tup [nilF, bo false]
/-- What comes of a line that is rotated in. -/
def lineV (c : Int) (t : List Nat) (rows turns : Int) (l : List Nat) (j : Int) : Option (List Nat) :=
  if triOk c t rows turns = true ∧ (0 ≤ j ∧ j ≤ c) ∧ (l.length : Int) = c + 1 then lineGo c.toNat rows turns (c.toNat + 1 - j.toNat) j.toNat t l else none
theorem map_set_fl {l : List Nat} {k v : Nat} : (l.map fl).set k (fl v) = (l.set k v).map fl := by rw [List.map_set]
theorem tabN_set {m k : Nat} {f g : Nat → Nat} {v : Nat} (h : ∀ a, a < m → g a = if a = k then v else f a) : (tabN m f).set k v = tabN m g := by
  apply List.ext_getElem
  · simp [tabN]
  · intro q h1 h2
    have hq : q < m := by simpa [tabN] using h2
    rw [List.getElem_set]
    simp only [tabN, List.getElem_map, List.getElem_range]
    rw [h q hq]
    by_cases hk : k = q
    · subst hk; simp
    · rw [if_neg hk, if_neg (fun e => hk e.symm)]
theorem tabN_self {l : List Nat} {m : Nat} (h : l.length = m) : tabN m (fun a => l.getD a 0) = l := by
  apply List.ext_getElem
  · simp [tabN, h]
  · intro q h1 h2
    simp [tabN, h2]
theorem tabN_congr {m : Nat} {f g : Nat → Nat} (h : ∀ a, a < m → f a = g a) : tabN m f = tabN m g := List.map_congr_left fun a ha => h a (List.mem_range.1 ha)
/-- A row, a line, of which what stands ahead of k is done. -/
def rowK (t x : List Nat) (n j k : Nat) : List Nat := tabN (n + 1) fun a => if a < k then (rowS t x n j).getD a 0 else (lineOf t n j).getD a 0
def restK (t x : List Nat) (n j k : Nat) : List Nat := tabN (n + 1) fun a => if a < k then (restS t x n j).getD a 0 else x.getD a 0
theorem rowK_first {t x : List Nat} {n j : Nat} (hn : n ≤ 6) (ht : t.length = sizeN n) (hj : j ≤ n) : (lineOf t n j).set j (ofG (t.getD (atN n j j) 0) (x.getD j 0)) = rowK t x n j (j + 1) := by
  have hl := line_len hn ht hj
  rw [← tabN_self hl]
  refine tabN_set fun a ha => ?_
  unfold rowS
  rw [tabN_get _ ha]
  by_cases h1 : a < j
  · rw [if_pos (by omega), if_pos h1, if_neg (by omega), line_get hn hj (by omega), if_pos h1]
  · by_cases h2 : a = j
    · rw [if_pos (by omega), if_neg h1, if_pos h2, if_pos h2]
    · rw [if_neg (by omega), if_neg h2]
theorem restK_first {t x : List Nat} {n j : Nat} (hx : x.length = n + 1) : x = restK t x n j (j + 1) := by
  conv => lhs; rw [← tabN_self hx]
  refine tabN_congr fun a ha => ?_
  by_cases h1 : a < j + 1
  · unfold restS
    rw [if_pos h1, tabN_get _ ha, if_pos (by omega)]
  · rw [if_neg h1]
theorem rowK_last (t x : List Nat) (n j : Nat) : rowK t x n j (n + 1) = rowS t x n j := by
  exact (tabN_congr fun a ha => if_pos ha).trans (tabN_self (tabN_len _ _))
theorem restK_last (t x : List Nat) (n j : Nat) : restK t x n j (n + 1) = restS t x n j := by
  exact (tabN_congr fun a ha => if_pos ha).trans (tabN_self (tabN_len _ _))
theorem rowK_step {t x : List Nat} {n j k : Nat} (hjk : j < k) (hk : k ≤ n) :
    (rowK t x n j k).set k (turnX (ofC (t.getD (atN n j j) 0) (x.getD j 0)) (ofS (t.getD (atN n j j) 0) (x.getD j 0)) (t.getD (atN n j k) 0) (x.getD k 0)) = rowK t x n j (k + 1) := by
  refine tabN_set fun a ha => ?_
  unfold rowS
  rw [tabN_get _ ha]
  by_cases h2 : a = k
  · subst h2
    rw [if_pos (by omega), if_neg (by omega), if_neg (by omega), if_pos rfl]
  · rw [if_neg h2]
    by_cases h3 : a < k
    · rw [if_pos (by omega), if_pos h3]
    · rw [if_neg (by omega), if_neg h3]
theorem restK_step {t x : List Nat} {n j k : Nat} (hjk : j < k) (hk : k ≤ n) :
    (restK t x n j k).set k (turnY (ofC (t.getD (atN n j j) 0) (x.getD j 0)) (ofS (t.getD (atN n j j) 0) (x.getD j 0)) (t.getD (atN n j k) 0) (x.getD k 0)) = restK t x n j (k + 1) := by
  refine tabN_set fun a ha => ?_
  unfold restS
  rw [tabN_get _ ha]
  by_cases h2 : a = k
  · subst h2
    rw [if_pos (by omega), if_neg (by omega), if_pos rfl]
  · rw [if_neg h2]
    by_cases h3 : a < k
    · rw [if_pos (by omega), if_pos h3]
    · rw [if_neg (by omega), if_neg h3]
theorem rowK_get {t x : List Nat} {n j k : Nat} (hn : n ≤ 6) (hjk : j < k) (hk : k ≤ n) : (rowK t x n j k)[k]? = some (t.getD (atN n j k) 0) := by
  have h : (rowK t x n j k).getD k 0 = t.getD (atN n j k) 0 := by
    unfold rowK
    rw [tabN_get _ (by omega), if_neg (by omega), line_get hn (by omega) hk, if_neg (by omega)]
  rw [List.getD_eq_getElem?_getD, List.getElem?_eq_getElem (by unfold rowK; rw [tabN_len]; omega)] at h
  rw [List.getElem?_eq_getElem (by unfold rowK; rw [tabN_len]; omega)]
  exact congrArg some h
theorem restK_get {t x : List Nat} {n j k : Nat} (hk : k ≤ n) : (restK t x n j k)[k]? = some (x.getD k 0) := by
  have h : (restK t x n j k).getD k 0 = x.getD k 0 := by
    unfold restK
    rw [tabN_get _ (by omega), if_neg (by omega)]
  rw [List.getD_eq_getElem?_getD, List.getElem?_eq_getElem (by unfold restK; rw [tabN_len]; omega)] at h
  rw [List.getElem?_eq_getElem (by unfold restK; rw [tabN_len]; omega)]
  exact congrArg some h
theorem rowK_len (t x : List Nat) (n j k : Nat) : (rowK t x n j k).length = n + 1 := tabN_len _ _
theorem restK_len (t x : List Nat) (n j k : Nat) : (restK t x n j k).length = n + 1 := tabN_len _ _
theorem facP_none {c rows turns : Int} : facP c rows turns none (.tup [nilF, bo false]) := rfl
theorem pu_nilT : Pu (.tup [nilF, bo false]) := pu_tup (by intro z hz; simp only [List.mem_cons, List.not_mem_nil, or_false] at hz; rcases hz with rfl | rfl; exact pu_nilF; simp)
theorem go_step {n : Nat} {rows turns : Int} {j : Nat} {t x : List Nat} (hj : j ≤ n) : lineGo n rows turns (n + 1 - j) j t x = if triOk n (lineStep n j t x) rows turns = true then lineGo n rows turns (n + 1 - (j + 1)) (j + 1) (lineStep n j t x) (restS t x n j) else none := by
  rw [show n + 1 - j = (n + 1 - (j + 1)) + 1 by omega]; rfl
set_option maxHeartbeats 2000000 in
theorem aline_ctr (c : Int) (t l : List Nat) (tn : Bool) (tc : Option Nat) (ln : Bool) (lc : Option Nat) (rows turns from' : Int) (hf : Fl t) (hl : t.length ≤ 1000000) (hx : XBf 430 l) (hll : l.length ≤ 1000000) :
    Ctr Tryz.prog 23 [.agg [i c, fsl tn t tc, i rows, i turns], fsl ln l lc, i from'] (facP c rows turns (lineV c t rows turns l from')) := by
  refine ctr_in Tryz.func23 rfl (by kernel_rfl) rfl fun K hK => ?_
  have hno : ¬ (triOk c t rows turns = true ∧ (0 ≤ from' ∧ from' ≤ c) ∧ (l.length : Int) = c + 1) → ∀ σ, K (.tup [nilF, bo false]) σ := fun h σ => by
    refine hK _ _ _ (.same _ pu_nilT) ?_
    unfold lineV; rw [if_neg h]; exact facP_none
  simp [Tryz.f23, cells_g4, -cellsOf]
  refine acall_by (tcheck_ctr c t tn tc rows turns hf hl) (by intro z hz; rw [List.mem_singleton.1 hz]; exact pu_agg (by simp)) ?_
  rintro _ rfl
  by_cases hok : triOk c t rows turns = true
  case neg =>
    have h2 := hno (fun h => hok h.1)
    rw [Bool.not_eq_true] at hok
    rw [hok]
    simp [wr]
    exact h2 _
  by_cases h0 : from' < 0
  · simp [hok, h0, wr]
    exact hno (fun h => by omega) _
  by_cases h1 : c < from'
  · simp [hok, h0, h1, wr]
    exact hno (fun h => by omega) _
  obtain ⟨n, rfl, hn1, hn, ht, hlg, _⟩ := triOk_nat hok
  obtain ⟨J, rfl⟩ : ∃ J : Nat, from' = J := ⟨from'.toNat, by omega⟩
  have h0' : ¬ (J : Int) < 0 := h0
  have h1' : ¬ n < J := by omega
  have w1 : IntKind.i64.wrap ((n : Int) + 1) = (n : Int) + 1 := w64 _ (by omega) (by omega)
  by_cases hlen : (l.length : Int) = n + 1
  case neg =>
    simp [hok, h0', h1', w1, hlen, wr]
    exact hno (fun h => hlen h.2.2) _
  have hlen' : l.length = n + 1 := by omega
  simp [hok, h0', h1', w1, hlen]
  refine cloneFl (by omega) (by omega) ?_
  simp
  have hV : lineV n t rows turns l J = lineGo n rows turns (n + 1 - J) J t l := by
    unfold lineV
    rw [if_pos ⟨hok, ⟨by omega, by omega⟩, hlen⟩, Int.toNat_natCast, Int.toNat_natCast]
  rw [hV] at hK
  clear hno hV
  have htb := fl_bf hf hlg
  refine loop_on (γ := Nat × List Nat × List Nat × Bool × Option Nat) 110 (fun g => [(3, .po 0 0 0), (6, .po 1 0 0), (8, .so 2 1 0 (n + 1) 1 none), (9, i g.1)])
    (fun g => [⟨.own, 0, [i n, fsl g.2.2.2.1 g.2.1 g.2.2.2.2, i rows, i turns]⟩, ⟨.own, 0, [i 0, .pl true [] 0 (some 0), i 0, i 0]⟩, ⟨.own, 1, g.2.2.1.map fl⟩])
    (fun g => g.1 ≤ n + 1 ∧ J ≤ g.1 ∧ triOk n g.2.1 rows turns = true ∧ Fl g.2.1 ∧ g.2.2.1.length = n + 1 ∧ XBf (430 + 4 * g.1) g.2.2.1 ∧ lineGo n rows turns (n + 1 - g.1) g.1 g.2.1 g.2.2.1 = lineGo n rows turns (n + 1 - J) J t l) (fun g => n + 1 - g.1)
    (J, t, l, tn, tc) ⟨by omega, Nat.le_refl _, hok, hf, hlen', fun b hb => (hx b hb).mono (by omega), rfl⟩ (Wk.lst (by simp [fsl, hlen']) (by simp)) ?_
  generalize hO : lineGo n rows turns (n + 1 - J) J t l = O at *
  rintro ⟨j, t, x, tn, tc⟩ ⟨hj, hJj, hok, hf, hxl, hx, hR⟩ L hL
  simp only at hj hJj hok hf hxl hx hR
  obtain ⟨n', en, _, _, ht, hlg, _⟩ := triOk_nat hok
  obtain rfl : n = n' := by omega
  have htb := fl_bf hf hlg
  by_cases hjn : j ≤ n
  case neg =>
    have hje : j = n + 1 := by omega
    subst hje
    have hR2 : O = some t := by rw [← hR, Nat.sub_self]; rfl
    rw [hR2] at hK
    simp [show ¬ ((n : Int) + 1 ≤ n) by omega, wr]
    exact hK _ _ _ (.same _ (pu_tup (by intro z hz; simp only [List.mem_cons, List.not_mem_nil, or_false] at hz; rcases hz with rfl | rfl; exact pu_agg (by simp [fsl]); simp))) ⟨_, _, rfl⟩
  have hjn' : (j : Int) ≤ n := by omega
  have w2 : IntKind.i64.wrap ((j : Int) + 1) = ((j + 1 : Nat) : Int) := w64 _ (by omega) (by omega)
  rw [go_step hjn] at hR
  simp [hjn, hjn', -Int.natCast_add]
  refine fresh_call (tline_so tn tc hf (by have := size_le hn; omega) hok hjn) (by intro z hz; simp only [List.mem_cons, List.not_mem_nil, or_false] at hz; rcases hz with rfl | rfl; exact pu_agg (by simp [fsl]); simp) (by intro z hz; obtain ⟨b, _, rfl⟩ := List.mem_map.1 hz; simp) ?_
  have hll := line_len hn ht hjn
  have g1 : ∀ h : j < (lineOf t n j).length, (lineOf t n j)[j] = t.getD (atN n j j) 0 := fun h => by
    have := line_get (t := t) hn hjn hjn
    rw [if_neg (by omega), List.getD_eq_getElem?_getD, List.getElem?_eq_getElem h] at this
    exact this
  have g2 : ∀ h : j < x.length, x[j] = x.getD j 0 := fun h => by rw [List.getD_eq_getElem?_getD, List.getElem?_eq_getElem h]; rfl
  have hT := htb.at (atN n j j)
  have hX := hx.at j
  obtain ⟨oe, c1, c2, c3⟩ := of_all (hT.mono (l := 600) (by omega)) (hX.mono (l := 600) (by omega))
  have cO := gof_ctr (hT.mono (l := 600) (by omega)) (hX.mono (l := 600) (by omega))
  have hfirst := rowK_first (x := x) hn ht hjn
  have hstepR := fun k => rowK_step (t := t) (x := x) (n := n) (j := j) (k := k)
  have hstepX := fun k => restK_step (t := t) (x := x) (n := n) (j := j) (k := k)
  generalize t.getD (atN n j j) 0 = T0 at *
  generalize x.getD j 0 = X0 at *
  generalize ofC T0 X0 = C at *
  generalize ofS T0 X0 = S at *
  generalize ofG T0 X0 = G at *
  have hj1 : j < n + 1 := by omega
  have hj1' : (j : Int) < n + 1 := by omega
  simp
  refine draw_at [0, 0, 1, 1, 0, 0, 1, 1, 3, 0, 0, 0, 0, 0, 0, 0, 0, 0] (by kernel_rfl) (by kernel_rfl) ?_
  simp [g1, g2, hj1, hj1', hll, hxl]
  refine acall_by cO (by simp) ?_
  rintro _ rfl
  simp [hj1, hj1', hll, hxl]
  refine ⟨hjn, ?_⟩
  have e1 : (List.map fl (lineOf t n j)).set j (.v (.float .f64 G)) = (rowK t x n j (j + 1)).map fl := by rw [← hfirst]; exact map_set_fl
  have e2 : List.map fl x = (restK t x n j (j + 1)).map fl := congrArg (List.map fl) (restK_first hxl)
  rw [e1, e2]
  refine loop_on (γ := Nat) 110 (fun k => [(3, .po 0 0 0), (6, .po 1 0 0), (8, .so 2 1 0 (n + 1) 1 none), (9, i j), (10, .so 3 1 0 (n + 1) 1 none), (11, fl C), (12, fl S), (15, i k)])
    (fun k => [⟨.own, 0, [i n, fsl tn t tc, i rows, i turns]⟩, ⟨.own, 0, [i 0, .pl true [] 0 (some 0), i 0, i 0]⟩, ⟨.own, 1, (restK t x n j k).map fl⟩, ⟨.own, 1, (rowK t x n j k).map fl⟩])
    (fun k => j < k ∧ k ≤ n + 1) (fun k => n + 1 - k) (j + 1) ⟨by omega, by omega⟩ (Wk.lst (by simp [w2, -Int.natCast_add]) (by simp)) ?_
  rintro k ⟨hjk, hk⟩ M hM
  have w3 : IntKind.i64.wrap ((k : Int) + 1) = ((k + 1 : Nat) : Int) := w64 _ (by omega) (by omega)
  by_cases hkn : k ≤ n
  · have hk1 : k < n + 1 := by omega
    have hk1' : (k : Int) < n + 1 := by omega
    have q1 : ∀ h : k < (rowK t x n j k).length, (rowK t x n j k)[k] = t.getD (atN n j k) 0 := fun h => by
      have := rowK_get (t := t) (x := x) hn hjk hkn
      rw [List.getElem?_eq_getElem h] at this
      exact Option.some.inj this
    have q2 : ∀ h : k < (restK t x n j k).length, (restK t x n j k)[k] = x.getD k 0 := fun h => by
      have := restK_get (t := t) (x := x) (j := j) hkn
      rw [List.getElem?_eq_getElem h] at this
      exact Option.some.inj this
    have l1 := rowK_len t x n j k
    have l2 := restK_len t x n j k
    have hTk := (htb.at (atN n j k)).mono (l := 430 + 4 * (j : Int)) (by omega)
    have hXk := hx.at k
    have cT := gturn_ctr (turn_z (k := 430 + 4 * (j : Int)) (by omega) c1 c2 hTk hXk).1
    have sR := hstepR k hjk hkn
    have sX := hstepX k hjk hkn
    generalize t.getD (atN n j k) 0 = Tk at *
    generalize x.getD k 0 = Xk at *
    generalize turnX C S Tk Xk = NX at *
    generalize turnY C S Tk Xk = NY at *
    simp [hk1, hk1', -Int.natCast_add]
    refine draw_at [0, 0, 0, 0, 0, 0, 0, 0, 1, 1, 0, 0, 1, 1, 3, 0, 0, 0, 4, 4, 4, 4] (by kernel_rfl) (by kernel_rfl) ?_
    simp [hk1, hk1', q1, q2, l1, l2, -Int.natCast_add]
    refine acall_by cT (by simp) ?_
    rintro _ rfl
    have eR : (List.map fl (rowK t x n j k)).set k (.v (.float .f64 NX)) = (rowK t x n j (k + 1)).map fl := by rw [← sR]; exact map_set_fl
    have eX : (List.map fl (restK t x n j k)).set k (.v (.float .f64 NY)) = (restK t x n j (k + 1)).map fl := by rw [← sX]; exact map_set_fl
    simp [hk1, hk1', l1, l2, w3, eR, eX, -Int.natCast_add]
    refine ⟨hkn, ?_⟩
    exact hM (k + 1) _ _ ⟨by omega, by omega⟩ (Wk.lst (by simp [-Int.natCast_add]) (by simp)) (by show n + 1 - (k + 1) < n + 1 - k; omega)
  · have hke : k = n + 1 := by omega
    subst hke
    rw [rowK_last, restK_last]
    have hrl : (rowS t x n j).length = n + 1 := tabN_len _ _
    have hfr : Fl (rowS t x n j) := fl_tabN (m := n + 1) fun a ha => by
      split
      · omega
      · split
        · exact (of_all ((htb.at (atN n j j)).mono (l := 600) (by omega)) ((hx.at j).mono (l := 600) (by omega))).2.2.2.1.1
        · exact (turn_z (k := 430 + 4 * (j : Int)) (by omega) (of_all ((htb.at (atN n j j)).mono (l := 600) (by omega)) ((hx.at j).mono (l := 600) (by omega))).2.1 (of_all ((htb.at (atN n j j)).mono (l := 600) (by omega)) ((hx.at j).mono (l := 600) (by omega))).2.2.1 ((htb.at _).mono (by omega)) (hx.at a)).2.1.1.1
    have cSet := tset_ctr n t (rowS t x n j) tn tc false none rows turns j hf (by have := size_le hn; omega) hfr (by omega)
    simp
    refine acall_froze [3] cSet rfl (fun q hq => ?_) ?_
    · have : q = 0 ∨ q = 1 ∨ q = 2 := by simp at hq; omega
      rcases this with rfl | rfl | rfl
      · exact .same _ (pu_agg (by simp [fsl]))
      · exact .same _ (.v _)
      · exact pur_flk (k := .own) rfl (by decide) (by simp) hrl.symm
    intro r hr
    unfold setP at hr
    simp only [Int.toNat_natCast] at hr
    change (if triOk n t rows turns = true ∧ (0 ≤ (j : Int) ∧ (j : Int) ≤ n) ∧ ((rowS t x n j).length : Int) = n + 1 ∧ triOk n (lineStep n j t x) rows turns = true then ∃ nl cap, r = .tup [.agg [i n, fsl nl (lineStep n j t x) cap, i rows, i turns], bo true] else r = .tup [nilF, bo false]) at hr
    by_cases hok2 : triOk n (lineStep n j t x) rows turns = true
    · rw [if_pos ⟨hok, ⟨by omega, hjn'⟩, by omega, hok2⟩] at hr
      rw [if_pos hok2] at hR
      obtain ⟨tn2, tc2, rfl⟩ := hr
      have hfs : Fl (lineStep n j t x) := fl_step htb hx (by omega)
      have hrs : (restS t x n j).length = n + 1 := tabN_len _ _
      have hxb : XBf (430 + 4 * ((j + 1 : Nat) : Int)) (restS t x n j) := by
        have := rest_bf (n := n) (j := j) htb hx (by omega)
        rw [show 430 + 4 * ((j + 1 : Nat) : Int) = 430 + 4 * (j : Int) + 4 by omega]
        exact this
      generalize lineStep n j t x = t2 at *
      generalize restS t x n j = x2 at *
      simp [froze, wr, cells_g4, w2, -cellsOf, -Int.natCast_add]
      exact hL (j + 1, t2, x2, tn2, tc2) _ _ ⟨by omega, by omega, hok2, hfs, hrs, hxb, hR⟩ (Wk.lst_of (by simp [fsl, hrs, -Int.natCast_add]) (by simp) (by simp [fsl]) (by simp) (by simp [fsl])) (by show n + 1 - (j + 1) < n + 1 - j; omega)
    · rw [if_neg (fun h => hok2 h.2.2.2)] at hr
      subst hr
      rw [if_neg hok2] at hR
      rw [← hR] at hK
      simp [froze, wr, nilF, cells_g4, -cellsOf]
      exact hK _ _ _ (.same _ pu_nilT) rfl
end Go.Proofs.Nt
/- merge.Two, absorb.Ridge. -/
set_option linter.unusedVariables false
set_option maxRecDepth 20000
set_option linter.unusedSimpArgs false
set_option linter.unnecessarySimpa false
namespace Go.Proofs.Nt
open Go Go.Proofs Go.Proofs.Va Go.RowKit

/-- A factor that is told, and an error. -/
def facT (c rows turns : Int) (o : Option (List Nat)) (e : Int) (r : AV) : Prop :=
  match o with
  | some t' => ∃ nl cap, r = .tup [.agg [i c, fsl nl t' cap, i rows, i turns], i 0]
  | none => r = .tup [nilF, i e]
theorem pu_nilE (e : Int) : Pu (.tup [nilF, i e]) := pu_tup (by intro z hz; simp only [List.mem_cons, List.not_mem_nil, or_false] at hz; rcases hz with rfl | rfl; exact pu_nilF; simp)
/-- All lines of another triangle, rotated in. -/
def mergeGo (n : Nat) (rows turns : Int) (tb : List Nat) : Nat → Nat → List Nat → Option (List Nat)
  | 0, _, t => some t
  | m + 1, j, t => (lineGo n rows turns (n + 1 - j) j t (lineOf tb n j)).bind (mergeGo n rows turns tb m (j + 1))
def twoOk (ca : Int) (ta : List Nat) (ra ka cb : Int) (tb : List Nat) (rb kb : Int) : Prop :=
  triOk ca ta ra ka = true ∧ triOk cb tb rb kb = true ∧ ca = cb ∧ ra + rb ≤ 200 ∧ max ka kb + sizeI ca ≤ 4096
instance (ca : Int) (ta : List Nat) (ra ka cb : Int) (tb : List Nat) (rb kb : Int) : Decidable (twoOk ca ta ra ka cb tb rb kb) := by unfold twoOk; infer_instance
def twoV (ca : Int) (ta : List Nat) (ra ka cb : Int) (tb : List Nat) (rb kb : Int) : Option (List Nat) :=
  if twoOk ca ta ra ka cb tb rb kb then mergeGo ca.toNat ra ka tb (ca.toNat + 1) 0 ta else none
def twoE (ca : Int) (ta : List Nat) (ra ka cb : Int) (tb : List Nat) (rb kb : Int) : Int :=
  if triOk ca ta ra ka = true ∧ triOk cb tb rb kb = true then (if ca = cb then (if ra + rb ≤ 200 ∧ max ka kb + sizeI ca ≤ 4096 then 2 else 6) else 3) else 1
theorem triOk_rng {c : Int} {t : List Nat} {rows turns : Int} (h : triOk c t rows turns = true) : 0 ≤ rows ∧ rows ≤ 200 ∧ 0 ≤ turns ∧ turns ≤ 4096 := by
  unfold triOk at h
  rw [Bool.and_eq_true, Bool.and_eq_true] at h
  have := of_decide_eq_true h.1.1
  exact ⟨by omega, by omega, by omega, by omega⟩
theorem line_ok {n : Nat} {rows turns : Int} : ∀ (m j : Nat) {t x t' : List Nat}, triOk n t rows turns = true → lineGo n rows turns m j t x = some t' → triOk n t' rows turns = true
  | 0, _, t, x, t', h, e => by simp only [lineGo, Option.some.injEq] at e; subst e; exact h
  | m + 1, j, t, x, t', h, e => by
    simp only [lineGo] at e
    split at e
    · rename_i h2; exact line_ok m (j + 1) h2 e
    · cases e
theorem line_xbf {t : List Nat} {n j : Nat} (h : TBf t) : XBf 430 (lineOf t n j) := by
  intro b hb
  unfold lineOf at hb
  rcases List.mem_append.1 hb with hb | hb
  · rw [List.eq_of_mem_replicate hb]; exact bf_zero _
  · exact (h b (List.mem_of_mem_drop (List.mem_of_mem_take hb))).mono (by omega)
theorem line_fl {n : Nat} {rows turns : Int} : ∀ (m j : Nat) {t x t' : List Nat}, j + m = n + 1 → TBf t → XBf (430 + 4 * j) x → n ≤ 6 → lineGo n rows turns m j t x = some t' → Fl t'
  | 0, _, t, x, t', hm, ht, hx, hn, e => by simp only [lineGo, Option.some.injEq] at e; subst e; exact fun b hb => (ht b hb).1.1
  | m + 1, j, t, x, t', hm, ht, hx, hn, e => by
    simp only [lineGo] at e
    split at e
    case isFalse => cases e
    rename_i h2
    obtain ⟨_, _, _, _, _, hlg, _⟩ := triOk_nat h2
    have hx' : XBf (430 + 4 * ((j + 1 : Nat) : Int)) (restS t x n j) := by
      have := rest_bf (n := n) (j := j) ht hx (by omega)
      rw [show 430 + 4 * ((j + 1 : Nat) : Int) = 430 + 4 * (j : Int) + 4 by omega]
      exact this
    exact line_fl m (j + 1) (by omega) (fl_bf (fl_step (n := n) (j := j) ht hx (by omega)) hlg) hx' hn e
set_option maxHeartbeats 2000000 in
theorem mtwo_ctr (ca : Int) (ta : List Nat) (an : Bool) (ac : Option Nat) (ra ka cb : Int) (tb : List Nat) (bn : Bool) (bc : Option Nat) (rb kb : Int) (hfa : Fl ta) (hla : ta.length ≤ 1000000) (hfb : Fl tb) (hlb : tb.length ≤ 1000000) :
    Ctr Tryz.prog 6 [.agg [i ca, fsl an ta ac, i ra, i ka], .agg [i cb, fsl bn tb bc, i rb, i kb]] (facT ca (ra + rb) (max ka kb + sizeI ca) (twoV ca ta ra ka cb tb rb kb) (twoE ca ta ra ka cb tb rb kb)) := by
  refine ctr_in Tryz.func6 rfl (by kernel_rfl) rfl fun K hK => ?_
  have hno : ¬ twoOk ca ta ra ka cb tb rb kb → ∀ e, e = twoE ca ta ra ka cb tb rb kb → ∀ σ, K (.tup [nilF, i e]) σ := fun h e he σ => by
    refine hK _ _ _ (.same _ (pu_nilE e)) ?_
    unfold twoV; rw [if_neg h, he]; rfl
  have mx : (if ka < kb then kb else ka) = max ka kb := by split <;> omega
  simp [Tryz.f6, cells_g4, -cellsOf]
  refine draw_at [1, 1, 1, 1, 1, 1, 3, 0, 0] (by kernel_rfl) (by kernel_rfl) ?_
  simp [mx]
  refine acall_by (tcheck_ctr ca ta an ac ra ka hfa hla) (by intro z hz; rw [List.mem_singleton.1 hz]; exact pu_agg (by simp [fsl])) ?_
  rintro _ rfl
  by_cases hoa : triOk ca ta ra ka = true
  case neg =>
    have h2 := hno (fun h => hoa h.1) 1 (by unfold twoE; rw [if_neg (fun h => hoa h.1)])
    rw [Bool.not_eq_true] at hoa
    rw [hoa]
    simp [wr]
    exact h2 _
  rw [hoa]
  simp
  refine acall_by (tcheck_ctr cb tb bn bc rb kb hfb hlb) (by intro z hz; rw [List.mem_singleton.1 hz]; exact pu_agg (by simp [fsl])) ?_
  rintro _ rfl
  by_cases hob : triOk cb tb rb kb = true
  case neg =>
    have h2 := hno (fun h => hob h.2.1) 1 (by unfold twoE; rw [if_neg (fun h => hob h.2)])
    rw [Bool.not_eq_true] at hob
    rw [hob]
    simp [wr]
    exact h2 _
  rw [hob]
  by_cases hc : ca = cb
  case neg =>
    simp [wr, hc]
    exact hno (fun h => hc h.2.2.1) 3 (by unfold twoE; rw [if_pos ⟨hoa, hob⟩, if_neg hc]) _
  subst hc
  obtain ⟨n, rfl, hn1, hn, hta, hlga, _⟩ := triOk_nat hoa
  obtain ⟨n2, en2, _, _, htb, hlgb, _⟩ := triOk_nat hob
  obtain rfl : n = n2 := by omega
  have ⟨ra1, ra2, ka1, ka2⟩ := triOk_rng hoa
  have ⟨rb1, rb2, kb1, kb2⟩ := triOk_rng hob
  have w1 : IntKind.i64.wrap (ra + rb) = ra + rb := w64 _ (by omega) (by omega)
  by_cases hr : ra + rb ≤ 200
  case neg =>
    have h2 := hno (fun h => hr h.2.2.2.1) 6 (by unfold twoE; rw [if_pos ⟨hoa, hob⟩, if_pos rfl, if_neg (fun h => hr h.1)])
    simp [w1, hr, wr]
    exact ⟨by omega, h2 _⟩
  have hr' : ¬ 200 < ra + rb := by omega
  simp [w1, hr]
  have hs := sizeI_rng (n : Int)
  refine acall_by (cost_ctr n) (by simp) ?_
  rintro _ rfl
  have w2 : IntKind.i64.wrap (max ka kb + sizeI n) = max ka kb + sizeI n := w64 _ (by omega) (by omega)
  by_cases hk : max ka kb + sizeI n ≤ 4096
  case neg =>
    have h2 := hno (fun h => hk h.2.2.2.2) 6 (by unfold twoE; rw [if_pos ⟨hoa, hob⟩, if_pos rfl, if_neg (fun h => hk h.2)])
    simp [w2, hk, hr, hr', show 4096 < max ka kb + sizeI n by omega, wr]
    exact h2 _
  have w3 : IntKind.i64.wrap ((n : Int) + 1) = (n : Int) + 1 := w64 _ (by omega) (by omega)
  have hk' : ¬ 4096 < max ka kb + sizeI n := by omega
  simp [w2, hk, hk', hr, hr', w3]
  have hV : twoV n ta ra ka n tb rb kb = mergeGo n ra ka tb (n + 1) 0 ta := by
    unfold twoV
    rw [if_pos ⟨hoa, hob, rfl, hr, hk⟩, Int.toNat_natCast]
  have hE : twoE n ta ra ka n tb rb kb = 2 := by
    unfold twoE
    rw [if_pos ⟨hoa, hob⟩, if_pos rfl, if_pos ⟨hr, hk⟩]
  rw [hV, hE] at hK
  clear hno hV hE
  refine loop_on (γ := Nat × List Nat × Bool × Option Nat × Bool) 80 (fun g => [(2, .po 0 0 0), (3, .po 1 0 0), (4, .po 2 0 0), (6, i ra), (7, i (max ka kb)), (51, i (n + 1)), (52, i g.1)])
    (fun g => [⟨.own, 0, [i n, fsl g.2.2.1 g.2.1 g.2.2.2.1, i ra, i ka]⟩, ⟨.own, 0, [i n, fsl bn tb bc, i rb, i kb]⟩, ⟨.own, 0, [i 0, .pl true [] 0 (some 0), i 0, i 0]⟩])
    (fun g => g.1 ≤ n + 1 ∧ triOk n g.2.1 ra ka = true ∧ Fl g.2.1 ∧ mergeGo n ra ka tb (n + 1 - g.1) g.1 g.2.1 = mergeGo n ra ka tb (n + 1) 0 ta) (fun g => n + 1 - g.1)
    (0, ta, an, ac, false) ⟨by omega, hoa, hfa, rfl⟩ (Wk.lst (by simp [fsl]) (by simp)) ?_
  generalize hO : mergeGo n ra ka tb (n + 1) 0 ta = O at *
  clear hoa hta hlga hfa hla
  rintro ⟨j, t, tn, tc, b9⟩ ⟨hj, hok, hf, hR⟩ L hL
  simp only at hj hok hf hR
  obtain ⟨n', en, _, _, ht, hlg, _⟩ := triOk_nat hok
  obtain rfl : n = n' := by omega
  by_cases hjn : j ≤ n
  case neg =>
    have hje : j = n + 1 := by omega
    subst hje
    have hR2 : O = some t := by rw [← hR, Nat.sub_self]; rfl
    rw [hR2] at hK
    simp [show ¬ ((n : Int) + 1 < n + 1) by omega]
    refine draw_at [0, 1, 1, 0, 0, 1, 1, 3, 0, 1, 4, 1, 4] (by kernel_rfl) (by kernel_rfl) ?_
    simp [w1]
    refine acall_by (cost_ctr n) (by simp) ?_
    rintro _ rfl
    simp [w1, w2, wr]
    exact hK _ _ _ (.same _ (pu_tup (by intro z hz; simp only [List.mem_cons, List.not_mem_nil, or_false] at hz; rcases hz with rfl | rfl; exact pu_agg (by simp [fsl]); simp))) ⟨_, _, rfl⟩
  have hj1 : (j : Int) < n + 1 := by omega
  have w4 : IntKind.i64.wrap ((j : Int) + 1) = ((j + 1 : Nat) : Int) := w64 _ (by omega) (by omega)
  simp [hj1, -Int.natCast_add]
  refine draw_at [1, 1, 0, 3, 0, 3, 0, 0, 0, 4, 0] (by kernel_rfl) (by kernel_rfl) ?_
  simp [-Int.natCast_add]
  refine acall_by (tline_ctr n tb bn bc rb kb j hfb hlb) (by intro z hz; simp only [List.mem_cons, List.not_mem_nil, or_false] at hz; rcases hz with rfl | rfl; exact pu_agg (by simp [fsl]); simp) ?_
  intro r hr
  unfold lineP at hr
  rw [if_pos (by rw [hob]; simp [hjn])] at hr
  obtain ⟨ln, lc, rfl⟩ := hr
  simp only [Int.toNat_natCast]
  have htbf := fl_bf hf hlg
  have hbbf := fl_bf hfb hlgb
  have hll := line_len hn htb hjn
  have hLB : XBf 430 (lineOf tb n j) := line_xbf hbbf
  have hV : lineV n t ra ka (lineOf tb n j) j = lineGo n ra ka (n + 1 - j) j t (lineOf tb n j) := by
    unfold lineV
    rw [if_pos ⟨hok, ⟨by omega, by omega⟩, by omega⟩, Int.toNat_natCast, Int.toNat_natCast]
  simp [-Int.natCast_add]
  refine acall_by (aline_ctr n t (lineOf tb n j) tn tc ln lc ra ka j hf (by have := size_le hn; omega) hLB (by omega)) (by intro z hz; simp only [List.mem_cons, List.not_mem_nil, or_false] at hz; rcases hz with rfl | rfl | rfl; exact pu_agg (by simp [fsl]); simp [fsl]; simp) ?_
  intro r hr
  rw [hV] at hr
  have hstep : mergeGo n ra ka tb (n + 1 - j) j t = (lineGo n ra ka (n + 1 - j) j t (lineOf tb n j)).bind (mergeGo n ra ka tb (n + 1 - (j + 1)) (j + 1)) := by
    rw [show n + 1 - j = (n + 1 - (j + 1)) + 1 by omega]
    show (lineGo n ra ka (n + 1 - j) j t (lineOf tb n j)).bind _ = _
    rw [show n + 1 - (j + 1) + 1 = n + 1 - j by omega]
  rw [hstep] at hR
  have hfl := fun t' => line_fl (n := n) (rows := ra) (turns := ka) (n + 1 - j) j (t := t) (x := lineOf tb n j) (t' := t') (by omega) htbf (fun b hb => (hLB b hb).mono (by omega)) hn
  have hlo := fun t' => line_ok (n := n) (rows := ra) (turns := ka) (n + 1 - j) j (t := t) (x := lineOf tb n j) (t' := t') hok
  cases ho : lineGo n ra ka (n + 1 - j) j t (lineOf tb n j) with
  | none =>
    rw [ho] at hr hR
    rw [← hR] at hK
    subst hr
    simp [wr, nilF, cells_g4, -cellsOf]
    exact hK _ _ _ (.same _ (pu_nilE 2)) rfl
  | some t2 =>
    rw [ho] at hr hR
    obtain ⟨tn2, tc2, rfl⟩ := hr
    simp [wr, cells_g4, w4, -cellsOf, -Int.natCast_add]
    exact hL (j + 1, t2, tn2, tc2, true) _ _ ⟨by omega, hlo _ ho, hfl _ ho, hR⟩ (Wk.lst_of (by simp [fsl, -Int.natCast_add]) (by simp) (by simp [fsl]) (by simp) (by simp [fsl])) (by show n + 1 - (j + 1) < n + 1 - j; omega)
end Go.Proofs.Nt
/- absorb.Ridge. -/
set_option linter.unusedVariables false
set_option maxRecDepth 20000
set_option linter.unusedSimpArgs false
set_option linter.unnecessarySimpa false
namespace Go.Proofs.Nt
open Go Go.Proofs Go.Proofs.Va Go.RowKit

theorem aout_ctr {b : Nat} (hb : b < 18446744073709551616) : Ctr Tryz.prog 27 [fl b] (fun r => r = bo (!inB b)) := by
  refine ctr_val Tryz.func27 rfl (by kernel_rfl) rfl (by simp) fun K hK => ?_
  simp [Tryz.f27]
  refine acall_by (bin_ctr hb) (by simp) ?_
  rintro _ rfl
  simp
  exact hK _
theorem inB_bf {b : Nat} (hb : b < 18446744073709551616) (h : inB b = true) : Bf 420 b := by
  refine large_bf hb ?_
  have h := of_decide_eq_true h
  exact decide_eq_false (by omega)
/-- A line with one entry. -/
def unitL (n j mu : Nat) : List Nat := (List.replicate (n + 1) 0).set j mu
/-- A ridge's lines, rotated in. -/
def ridgeGo (n : Nat) (rows turns : Int) (mu : Nat) : Nat → Nat → List Nat → Option (List Nat)
  | 0, _, t => some t
  | m + 1, j, t => (lineGo n rows turns (n + 1 - j) j t (unitL n j mu)).bind (ridgeGo n rows turns mu m (j + 1))
def frE (c : Int) (t : List Nat) (rows turns : Int) (mu : Nat) : Int :=
  if triOk c t rows turns = true then (if (inB mu && !fsg mu) = true then (if frg mu = 0 then 0 else if turns + c * (c + 1) > 4096 then 6 else 2) else 2) else 1
def frV (c : Int) (t : List Nat) (rows turns : Int) (mu : Nat) : Option (List Nat) :=
  if triOk c t rows turns = true ∧ (inB mu && !fsg mu) = true then (if frg mu = 0 then some t else if turns + c * (c + 1) > 4096 then none else ridgeGo c.toNat rows turns mu c.toNat 0 t) else none
def frT (c turns : Int) (mu : Nat) : Int := if frg mu = 0 then turns else turns + c * (c + 1)
set_option maxHeartbeats 2000000 in
theorem aridge_ctr (c : Int) (t : List Nat) (tn : Bool) (tc : Option Nat) (rows turns : Int) (mu : Nat) (hf : Fl t) (hl : t.length ≤ 1000000) (hy : mu < 18446744073709551616) :
    Ctr Tryz.prog 9 [.agg [i c, fsl tn t tc, i rows, i turns], fl mu] (facT c rows (frT c turns mu) (frV c t rows turns mu) (frE c t rows turns mu)) := by
  refine ctr_in Tryz.func9 rfl (by kernel_rfl) rfl fun K hK => ?_
  unfold frT frE frV at hK
  simp [Tryz.f9, cells_g4, -cellsOf]
  refine acall_by (tcheck_ctr c t tn tc rows turns hf hl) (by intro z hz; rw [List.mem_singleton.1 hz]; exact pu_agg (by simp [fsl])) ?_
  rintro _ rfl
  generalize hq : triOk c t rows turns = q at *
  cases q
  · simp at hK
    simp [wr]
    exact hK _ _ _ (.same _ (pu_nilE 1)) rfl
  simp
  refine acall_by (aout_ctr hy) (by simp) ?_
  rintro _ rfl
  by_cases a1 : inB mu = true
  case neg =>
    rw [Bool.not_eq_true] at a1
    simp [a1] at hK
    simp [a1, wr]
    exact hK _ _ _ (.same _ (pu_nilE 2)) rfl
  simp [a1]
  refine acall_by (signbit_ctr hy) (by simp) ?_
  rintro _ rfl
  by_cases a2 : fsg mu = true
  · simp [a1, a2] at hK
    simp [a2, wr]
    exact hK _ _ _ (.same _ (pu_nilE 2)) rfl
  rw [Bool.not_eq_true] at a2
  have hez := eq_zero_f mu
  obtain ⟨n, rfl, hn1, hn, ht, hlg, _⟩ := triOk_nat hq
  by_cases a3 : frg mu = 0
  · simp [a1, a2, a3] at hK
    simp [a2, a3, hez, wr]
    exact hK _ _ _ (.same _ (pu_tup (by intro z hz; simp only [List.mem_cons, List.not_mem_nil, or_false] at hz; rcases hz with rfl | rfl; exact pu_agg (by simp [fsl]); simp))) ⟨_, _, rfl⟩
  have ⟨r1, r2, k1, k2⟩ := triOk_rng hq
  have hnn : 0 ≤ (n : Int) * ((n : Int) + 1) ∧ (n : Int) * ((n : Int) + 1) ≤ 42 := by
    have : n = 1 ∨ n = 2 ∨ n = 3 ∨ n = 4 ∨ n = 5 ∨ n = 6 := by omega
    rcases this with rfl | rfl | rfl | rfl | rfl | rfl <;> decide
  have w1 : IntKind.i64.wrap ((n : Int) + 1) = (n : Int) + 1 := w64 _ (by omega) (by omega)
  have w2 : IntKind.i64.wrap ((n : Int) * ((n : Int) + 1)) = (n : Int) * ((n : Int) + 1) := w64 _ (by omega) (by omega)
  have w3 : IntKind.i64.wrap (turns + (n : Int) * ((n : Int) + 1)) = turns + (n : Int) * ((n : Int) + 1) := w64 _ (by omega) (by omega)
  generalize hmm : (n : Int) * ((n : Int) + 1) = m at *
  by_cases a4 : 4096 < turns + m
  · simp [a1, a2, a3, a4] at hK
    simp [a2, a3, hez, hmm, w1, w2, w3, a4, wr]
    exact hK _ _ _ (.same _ (pu_nilE 6)) rfl
  simp [a1, a2, a3, a4] at hK
  simp [a2, a3, hez, hmm, w1, w2, w3, a4]
  refine loop_on (γ := Nat × List Nat × Bool × Option Nat) 72 (fun g => [(1, fl mu), (2, .po 0 0 0), (4, .po 1 0 0), (6, i m), (42, i n), (43, i g.1)])
    (fun g => [⟨.own, 0, [i n, fsl g.2.2.1 g.2.1 g.2.2.2, i rows, i turns]⟩, ⟨.own, 0, [i 0, .pl true [] 0 (some 0), i 0, i 0]⟩])
    (fun g => g.1 ≤ n ∧ triOk n g.2.1 rows turns = true ∧ Fl g.2.1 ∧ ridgeGo n rows turns mu (n - g.1) g.1 g.2.1 = ridgeGo n rows turns mu n 0 t) (fun g => n - g.1)
    (0, t, tn, tc) ⟨by omega, hq, hf, rfl⟩ (Wk.lst (by simp [fsl]) (by simp)) ?_
  generalize hO : ridgeGo n rows turns mu n 0 t = O at *
  clear hq ht hlg hf hl
  rintro ⟨j, t, tn, tc⟩ ⟨hj, hok, hf, hR⟩ L hL
  simp only at hj hok hf hR
  obtain ⟨n', en, _, _, ht, hlg, _⟩ := triOk_nat hok
  obtain rfl : n = n' := by omega
  by_cases hjn : j < n
  case neg =>
    have hje : j = n := by omega
    subst hje
    have hR2 : O = some t := by rw [← hR, Nat.sub_self]; rfl
    rw [hR2] at hK
    simp [w3, wr]
    exact hK _ _ _ (.same _ (pu_tup (by intro z hz; simp only [List.mem_cons, List.not_mem_nil, or_false] at hz; rcases hz with rfl | rfl; exact pu_agg (by simp [fsl]); simp))) ⟨_, _, rfl⟩
  have hj1 : (j : Int) < n := by omega
  have w4 : IntKind.i64.wrap ((j : Int) + 1) = ((j + 1 : Nat) : Int) := w64 _ (by omega) (by omega)
  have w5 : ((n : Int) + 1).toNat = n + 1 := by omega
  simp [hj1, w1, w5, hjn, -Int.natCast_add]
  refine ⟨by omega, by omega, by omega, ?_⟩
  have e1 : (AV.v (.float .f64 0) :: List.replicate n (AV.v (.float .f64 0))).set j (.v (.float .f64 mu)) = (unitL n j mu).map fl := by
    unfold unitL
    rw [← map_set_fl, List.map_replicate]
    rfl
  have hul : (unitL n j mu).length = n + 1 := by unfold unitL; simp
  have hux : XBf 430 (unitL n j mu) := by
    intro b hb
    unfold unitL at hb
    rcases List.mem_or_eq_of_mem_set hb with hb | rfl
    · rw [List.eq_of_mem_replicate hb]; exact bf_zero _
    · exact (inB_bf hy a1).mono (by omega)
  have htbf := fl_bf hf hlg
  have hV : lineV n t rows turns (unitL n j mu) j = lineGo n rows turns (n + 1 - j) j t (unitL n j mu) := by
    unfold lineV
    rw [if_pos ⟨hok, ⟨by omega, by omega⟩, by omega⟩, Int.toNat_natCast, Int.toNat_natCast]
  have cL := aline_ctr n t (unitL n j mu) tn tc false (some (n + 1)) rows turns j hf (by have := size_le hn; omega) hux (by omega)
  rw [e1]
  have hfl := fun t' => line_fl (n := n) (rows := rows) (turns := turns) (n + 1 - j) j (t := t) (x := unitL n j mu) (t' := t') (by omega) htbf (fun b hb => (hux b hb).mono (by omega)) hn
  have hlo := fun t' => line_ok (n := n) (rows := rows) (turns := turns) (n + 1 - j) j (t := t) (x := unitL n j mu) (t' := t') hok
  have hstep : ridgeGo n rows turns mu (n - j) j t = (lineGo n rows turns (n + 1 - j) j t (unitL n j mu)).bind (ridgeGo n rows turns mu (n - (j + 1)) (j + 1)) := by
    rw [show n - j = (n - (j + 1)) + 1 by omega]
    rfl
  rw [hstep] at hR
  rw [hV] at cL
  refine acall_froze [2] cL rfl (fun q hq => ?_) ?_
  · have : q = 0 ∨ q = 1 ∨ q = 2 := by simp at hq; omega
    rcases this with rfl | rfl | rfl
    · exact .same _ (pu_agg (by simp [fsl]))
    · exact pur_flk (k := .own) rfl (by decide) (by simp) hul.symm
    · exact .same _ (.v _)
  intro r hr
  cases ho : lineGo n rows turns (n + 1 - j) j t (unitL n j mu) with
  | none =>
    rw [ho] at hr hR
    rw [← hR] at hK
    subst hr
    simp [froze, wr, nilF, cells_g4, -cellsOf]
    exact hK _ _ _ (.same _ (pu_nilE 2)) rfl
  | some t2 =>
    rw [ho] at hr hR
    obtain ⟨tn2, tc2, rfl⟩ := hr
    simp [froze, wr, cells_g4, w4, -cellsOf, -Int.natCast_add]
    exact hL (j + 1, t2, tn2, tc2) _ _ ⟨by omega, hlo _ ho, hfl _ ho, hR⟩ (Wk.lst_of (by simp [fsl, -Int.natCast_add]) (by simp) (by simp [fsl]) (by simp) (by simp [fsl])) (by show n - (j + 1) < n - j; omega)
end Go.Proofs.Nt
/- Lines, rotated in, are near. -/
set_option linter.unusedVariables false
set_option maxRecDepth 20000
set_option linter.unusedSimpArgs false
set_option linter.unnecessarySimpa false
namespace Go.Proofs.Nt
open Go Go.Proofs Go.Proofs.Va Go.RowKit

/-- A triangle's squares are near to N, after r rotations. -/
def NearS (n : Nat) (t : List Nat) (N : Nat → Nat → Rat) (X : Nat → Rat) (r : Nat) : Prop :=
  t.length = sizeN n ∧ TBf t ∧ FmS (n + 1) (Rm t n) (fun _ => 0) N X (32 * uu * r) (6 * hh * r)
theorem near_first {n : Nat} {t : List Nat} {N : Nat → Nat → Rat} {X : Nat → Rat} (hl : t.length = sizeN n) (ht : TBf t) (hN : ∀ a b, a ≤ n → b ≤ n → N a b = gs (n + 1) (Rm t n) a b) : NearS n t N X 0 := by
  refine ⟨hl, ht, fun a b ha hb A B hA hB _ _ => ?_⟩
  rw [hN a b (by omega) (by omega)]
  have e : gs (n + 1) (Rm t n) a b + 0 * 0 - gs (n + 1) (Rm t n) a b = 0 := by grind
  have z : ((0 : Nat) : Rat) = 0 := rfl
  rw [e, z]
  have : qa 0 = 0 := by decide +kernel
  rw [this]
  grind
theorem near_line {n j r : Nat} {t x t' : List Nat} {rows turns : Int} {N N' : Nat → Nat → Rat} {X : Nat → Rat} (hn : n ≤ 6) (hj : j ≤ n) (h : NearS n t N X r) (hN : ∀ a b, a ≤ n → b ≤ n → N' a b = N a b + xm n j x a * xm n j x b)
    (hX : ∀ a, a ≤ n → N' a a ≤ X a) (hx : XBf (430 + 4 * j) x) (hr : r + (n + 1 - j) ≤ 8192) (hg : lineGo n rows turns (n + 1 - j) j t x = some t') : NearS n t' N' X (r + (n + 1 - j)) := by
  obtain ⟨hl, ht, hF⟩ := h
  have u0 := uu_pos
  have u1 := uu_small
  have p0 := hh_pos
  have hF2 : FmS (n + 1) (Rm t n) (xm n j x) N' X (32 * uu * r) (6 * hh * r) := by
    intro a b ha hb
    have := hF a b ha hb
    rw [hN a b (by omega) (by omega)]
    have e : gs (n + 1) (Rm t n) a b + xm n j x a * xm n j x b - (N a b + xm n j x a * xm n j x b) = gs (n + 1) (Rm t n) a b + 0 * 0 - N a b := by grind
    rw [e]; exact this
  have rr : ((r + (n + 1 - j) : Nat) : Rat) = (r : Rat) + ((n + 1 - j : Nat) : Rat) := Rat.natCast_add _ _
  have r0 : (0 : Rat) ≤ (r : Rat) := Rat.natCast_nonneg
  have r8 : ((r + (n + 1 - j) : Nat) : Rat) ≤ ((8192 : Nat) : Rat) := Rat.natCast_le_natCast.2 hr
  rw [rr] at r8
  have r9 : ((8192 : Nat) : Rat) = 8192 := rfl
  rw [r9] at r8
  have m1 := Rat.mul_nonneg (Rat.le_of_lt u0) r0
  have m2 := Rat.mul_nonneg (Rat.le_of_lt p0) r0
  have m3 := Rat.mul_nonneg (a := uu) (b := 8192 - ((r : Rat) + ((n + 1 - j : Nat) : Rat))) (Rat.le_of_lt u0) (by grind)
  have m4 := Rat.mul_nonneg (a := hh) (b := 8192 - ((r : Rat) + ((n + 1 - j : Nat) : Rat))) (Rat.le_of_lt p0) (by grind)
  obtain ⟨g1, g2, g3⟩ := go_near hn (N := N') (X := X) (fun a ha => hX a (by omega)) (n + 1 - j) j t x (K := 32 * uu * r) (T := 6 * hh * r) (by omega) hl ht hx (by grind) (by grind) (by grind) (by grind) hF2 hg
  refine ⟨g1, g2, ?_⟩
  rw [rr]
  have e1 : 32 * uu * ((r : Rat) + ((n + 1 - j : Nat) : Rat)) = 32 * uu * r + 32 * uu * ((n + 1 - j : Nat) : Rat) := by grind
  have e2 : 6 * hh * ((r : Rat) + ((n + 1 - j : Nat) : Rat)) = 6 * hh * r + 6 * hh * ((n + 1 - j : Nat) : Rat) := by grind
  rw [e1, e2]; exact g3
def rc : Nat → Nat
  | 0 => 0
  | m + 1 => rc m + (m + 1)
theorem rc_size {n : Nat} (hn : n ≤ 6) : rc (n + 1) = sizeN n := by
  have : n = 0 ∨ n = 1 ∨ n = 2 ∨ n = 3 ∨ n = 4 ∨ n = 5 ∨ n = 6 := by omega
  rcases this with rfl | rfl | rfl | rfl | rfl | rfl | rfl <;> rfl
theorem xm_line {t : List Nat} {n j a : Nat} (hn : n ≤ 6) (hj : j ≤ n) (ha : a ≤ n) : xm n j (lineOf t n j) a = Rm t n j a := by
  unfold xm Rm
  by_cases h : a < j
  · rw [if_pos (.inl h), if_pos (.inl h)]
  · rw [if_neg (by omega), if_neg (by omega), line_get hn hj ha, if_neg h]
theorem gs_mono (R : Nat → Nat → Rat) (a : Nat) : ∀ (m k : Nat), gs m R a a ≤ gs (m + k) R a a
  | m, 0 => Rat.le_refl
  | m, k + 1 => by
    have := gs_mono R a m k
    rw [show m + (k + 1) = (m + k) + 1 by omega, gs]
    have := sq_nn (R (m + k) a)
    grind
/-- All lines of another triangle. -/
theorem merge_near {n : Nat} (hn : n ≤ 6) {rows turns : Int} {tb : List Nat} (hb : TBf tb) {M : Nat → Nat → Rat} {X : Nat → Rat} (hX : ∀ a, a ≤ n → M a a + gs (n + 1) (Rm tb n) a a ≤ X a) : ∀ (m j r : Nat) {t t' : List Nat}, j + m = n + 1 → r + rc m ≤ 8192 →
    NearS n t (fun a b => M a b + gs j (Rm tb n) a b) X r → mergeGo n rows turns tb m j t = some t' → NearS n t' (fun a b => M a b + gs (n + 1) (Rm tb n) a b) X (r + rc m)
  | 0, j, r, t, t', hm, hr, hF, hg => by
    simp only [mergeGo, Option.some.injEq] at hg
    subst hg
    obtain rfl : j = n + 1 := by omega
    exact hF
  | m + 1, j, r, t, t', hm, hr, hF, hg => by
    simp only [mergeGo] at hg
    cases ho : lineGo n rows turns (n + 1 - j) j t (lineOf tb n j) with
    | none => rw [ho] at hg; cases hg
    | some t2 =>
      rw [ho] at hg
      have em : n + 1 - j = m + 1 := by omega
      have h2 := near_line (N' := fun a b => M a b + gs (j + 1) (Rm tb n) a b) (r := r) hn (by omega) hF (fun a b ha hb => by
        show M a b + (gs j (Rm tb n) a b + Rm tb n j a * Rm tb n j b) = _
        rw [xm_line hn (by omega) ha, xm_line hn (by omega) hb]; grind) (fun a ha => by
        have := gs_mono (Rm tb n) a (j + 1) m
        rw [show j + 1 + m = n + 1 by omega] at this
        have := hX a ha
        show M a a + gs (j + 1) (Rm tb n) a a ≤ X a
        grind) (fun b hb2 => (line_xbf hb b hb2).mono (by omega)) (by rw [em]; simp only [rc] at hr; omega) ho
      have h3 := merge_near hn hb hX m (j + 1) (r + (m + 1)) (by omega) (by simp only [rc] at hr; omega) (by rw [em] at h2; exact h2) hg
      rw [show r + rc (m + 1) = r + (m + 1) + rc m by simp only [rc]; omega]
      exact h3
theorem unitL_get {n j mu a : Nat} (ha : a ≤ n) : (unitL n j mu).getD a 0 = if a = j then mu else 0 := by
  unfold unitL
  rw [List.getD_eq_getElem?_getD, List.getElem?_set]
  by_cases h : j = a
  · subst h
    rw [if_pos rfl, if_pos rfl, if_pos (by simp; omega)]; rfl
  · rw [if_neg h, if_neg (fun e => h e.symm)]
    rw [List.getElem?_replicate, if_pos (by omega)]; rfl
/-- What a ridge adds. -/
def rg (j : Nat) (q : Rat) (a b : Nat) : Rat := if a = b ∧ a < j then q else 0
theorem ridge_near {n : Nat} (hn : n ≤ 6) {rows turns : Int} {mu : Nat} (hb : Bf 420 mu) {M : Nat → Nat → Rat} {X : Nat → Rat} (hX : ∀ a, a ≤ n → M a a + rg n (rv mu * rv mu) a a ≤ X a) : ∀ (m j r : Nat) {t t' : List Nat}, j + m = n → r + (rc (m + 1) - 1) ≤ 8192 →
    NearS n t (fun a b => M a b + rg j (rv mu * rv mu) a b) X r → ridgeGo n rows turns mu m j t = some t' → NearS n t' (fun a b => M a b + rg n (rv mu * rv mu) a b) X (r + (rc (m + 1) - 1))
  | 0, j, r, t, t', hm, hr, hF, hg => by
    simp only [ridgeGo, Option.some.injEq] at hg
    subst hg
    obtain rfl : j = n := by omega
    exact hF
  | m + 1, j, r, t, t', hm, hr, hF, hg => by
    simp only [ridgeGo] at hg
    cases ho : lineGo n rows turns (n + 1 - j) j t (unitL n j mu) with
    | none => rw [ho] at hg; cases hg
    | some t2 =>
      rw [ho] at hg
      have em : n + 1 - j = m + 2 := by omega
      have sq := sq_nn (rv mu)
      have z0 : rv 0 = 0 := by decide +kernel
      have hxm : ∀ a, a ≤ n → xm n j (unitL n j mu) a = if a = j then rv mu else 0 := by
        intro a ha
        unfold xm
        by_cases h : a < j
        · rw [if_pos (.inl h), if_neg (by omega)]
        · rw [if_neg (by omega), unitL_get ha]
          split
          · rfl
          · exact z0
      have h2 := near_line (N' := fun a b => M a b + rg (j + 1) (rv mu * rv mu) a b) (r := r) hn (by omega) hF (fun a b ha hb => by
        show M a b + rg (j + 1) (rv mu * rv mu) a b = M a b + rg j (rv mu * rv mu) a b + _
        rw [hxm a ha, hxm b hb]
        unfold rg
        by_cases h1 : a = b
        · subst h1
          by_cases h2 : a = j
          · subst h2
            rw [if_pos ⟨rfl, by omega⟩, if_neg (by omega), if_pos rfl]; grind
          · rw [if_neg h2]
            by_cases h3 : a < j
            · rw [if_pos ⟨rfl, by omega⟩, if_pos ⟨rfl, h3⟩]; grind
            · rw [if_neg (by omega), if_neg (by omega)]; grind
        · rw [if_neg (fun h => h1 h.1), if_neg (fun h => h1 h.1)]
          by_cases h2 : a = j
          · rw [if_neg (show ¬ b = j by omega)]; grind
          · rw [if_neg h2]; grind) (fun a ha => by
        have := hX a ha
        show M a a + rg (j + 1) (rv mu * rv mu) a a ≤ X a
        unfold rg at *
        by_cases h3 : a < n
        · rw [if_pos ⟨rfl, h3⟩] at this
          split <;> grind
        · rw [if_neg (fun h => h3 h.2)] at this
          rw [if_neg (by omega)]
          exact this) (fun b hb2 => by
        unfold unitL at hb2
        rcases List.mem_or_eq_of_mem_set hb2 with h | rfl
        · rw [List.eq_of_mem_replicate h]; exact bf_zero _
        · exact hb.mono (by omega)) (by rw [em]; simp only [rc] at hr ⊢; omega) ho
      have h3 := ridge_near hn hb hX m (j + 1) (r + (m + 2)) (by omega) (by simp only [rc] at hr ⊢; omega) (by rw [em] at h2; exact h2) hg
      rw [show r + (rc (m + 1 + 1) - 1) = r + (m + 2) + (rc (m + 1) - 1) by simp only [rc]; omega]
      exact h3
/-- Near enough, for what is asked. -/
theorem near_kt {n : Nat} {t : List Nat} {N : Nat → Nat → Rat} {X : Nat → Rat} {r k : Nat} (h : NearS n t N X r) (hk : r ≤ k) : Kt k (32 * uu * r) (6 * hh * r) := by
  have u0 := uu_pos
  have p0 := hh_pos
  have r0 : (0 : Rat) ≤ (r : Rat) := Rat.natCast_nonneg
  have rk : (r : Rat) ≤ (k : Rat) := Rat.natCast_le_natCast.2 hk
  have m1 := Rat.mul_nonneg (Rat.le_of_lt u0) r0
  have m2 := Rat.mul_nonneg (Rat.le_of_lt p0) r0
  have m3 := Rat.mul_nonneg (a := uu) (b := (k : Rat) - r) (Rat.le_of_lt u0) (by grind)
  have m4 := Rat.mul_nonneg (a := hh) (b := (k : Rat) - r) (Rat.le_of_lt p0) (by grind)
  exact kt_of (by grind) (by grind) (by grind) (by grind)
end Go.Proofs.Nt
/- Books are near to factors. -/
set_option linter.unusedVariables false
set_option maxRecDepth 20000
set_option linter.unusedSimpArgs false
set_option linter.unnecessarySimpa false
namespace Go.Proofs.Nt
open Go Go.Proofs Go.Proofs.Va Go.RowKit

theorem triOk_re {c : Int} {t : List Nat} {rows turns rows' turns' : Int} (h : triOk c t rows turns = true) (h1 : 0 ≤ rows' ∧ rows' ≤ 200) (h2 : 0 ≤ turns' ∧ turns' ≤ 4096) : triOk c t rows' turns' = true := by
  unfold triOk at *
  rw [Bool.and_eq_true, Bool.and_eq_true] at *
  obtain ⟨⟨h3, h4⟩, h5⟩ := h
  have h3 := of_decide_eq_true h3
  exact ⟨⟨decide_eq_true ⟨h3.1, h3.2.1, h1, h2⟩, h4⟩, h5⟩
/-- A book's lists, as numbers. -/
def BkS (n : Nat) (Nl Il : List Dy) (N : Nat → Nat → Rat) (X : Nat → Rat) : Prop :=
  Okl (-9000) 9000 Nl ∧ Okl (-9000) 9000 Il ∧ Nl.length = sizeN n ∧ Il.length = sizeN n ∧ (∀ a b, a ≤ b → b ≤ n → dq (Nl.getD (atN n a b) zeroD) = N a b) ∧ ∀ a, a ≤ n → dq (Il.getD (atN n a a) zeroD) = X a
theorem gv_list {us : List DV} {G : List Dy} {q : Nat} (h : us.map DV.d = G) (hG : ∀ d ∈ G, dOK d) (hq : q < G.length) : (gv us q).m = G.getD q zeroD := by
  subst h
  have hq' : q < us.length := by simpa using hq
  rw [gv_at hq', List.getD_eq_getElem?_getD, List.getElem?_map, List.getElem?_eq_getElem hq']
  exact may_of_ok (hG _ (List.mem_map_of_mem (List.getElem_mem hq'))).1
theorem near_told {n : Nat} (h1 : 1 ≤ n) (hn : n ≤ 6) {b : BV} {Nl Il : List Dy} {rows turns rows0 turns0 : Int} {t : List Nat} {N : Nat → Nat → Rat} {X : Nat → Rat} {r : Nat} {res : AV} (hb : b.bd = ⟨n, Nl, Il, rows, turns⟩)
    (hB : BkS n Nl Il N X) (ht : triOk n t rows0 turns0 = true) (hr1 : 0 ≤ rows ∧ rows ≤ 200) (hr2 : (r : Int) ≤ turns ∧ turns ≤ 4096) (hF : NearS n t N X r) (h : nearP b n t rows turns res) : res = .tup [i 0, bo true] := by
  obtain ⟨oN, oI, lN, lI, eN, eI⟩ := hB
  obtain ⟨c, ⟨nn, NL, nc⟩, ⟨ni, IL, ic⟩, rw', tu'⟩ := b
  simp only [BV.bd, BD.mk.injEq] at hb
  obtain ⟨rfl, hN, hI, rfl, rfl⟩ := hb
  have ht2 := triOk_re ht hr1 (turns' := tu') (by omega)
  have hsz : sizeI (n : Int) = (sizeN n : Int) := by unfold sizeI; rw [if_pos (by omega)]; rfl
  have hok : BV.ok ⟨n, ⟨nn, NL, nc⟩, ⟨ni, IL, ic⟩, rw', tu'⟩ = true := by
    show bookOk n NL IL rw' tu' = true
    rw [bookOk_d, hN, hI]
    unfold bookOkD
    rw [Bool.and_eq_true, Bool.and_eq_true, List.all_eq_true, List.all_eq_true]
    exact ⟨decide_eq_true ⟨by omega, hr1, by omega, by omega, by omega⟩, fun d hd => (oN d hd).1.1, fun d hd => (oI d hd).1.1⟩
  have hq : nearQ ⟨n, ⟨nn, NL, nc⟩, ⟨ni, IL, ic⟩, rw', tu'⟩ n t rw' tu' = true := by
    unfold nearQ
    rw [ht2, hok]; simp
  unfold nearP at h
  rw [if_pos hq] at h
  obtain ⟨gs', hgs, hc⟩ := h
  simp only at hc
  obtain ⟨hl, htb, hFm⟩ := hF
  obtain ⟨n', en, _, _, _, hlg, _⟩ := triOk_nat ht
  obtain rfl : n = n' := by omega
  obtain ⟨oG, lG, _⟩ := tri_gram ht
  rw [Int.toNat_natCast] at hgs oG lG
  obtain ⟨k, rfl⟩ : ∃ k : Nat, tu' = k := ⟨tu'.toNat, by omega⟩
  have lus : ∀ {us : List DV} {G : List Dy}, us.map DV.d = G → us.length = G.length := fun h => by rw [← h, List.length_map]
  have hat : ∀ {p q}, p ≤ q → q ≤ n → atN n p q < sizeN n := fun hp hq => (atN_lt hn hp hq).1
  refine near_ok (K := 32 * uu * r) (T := 6 * hh * r) h1 hn (by rw [lus hN, lN]) (by rw [lus hI, lI]) (by rw [lus hgs, lG]) (by omega) (dvok_of hN oN (by omega) (by omega)) (dvok_of hI oI (by omega) (by omega)) (dvok_of hgs oG (by omega) (by omega)) (near_kt ⟨hl, htb, hFm⟩ (by omega)) (fun p q hpq hqn => ?_) hc
  rw [gv_list hN (fun d hd => (oN d hd).1) (by rw [lN]; exact hat hpq hqn), gv_list hgs (fun d hd => (oG d hd).1) (by rw [lG]; exact hat hpq hqn), gv_list hI (fun d hd => (oI d hd).1) (by rw [lI]; exact hat (Nat.le_refl p) (by omega)), gv_list hI (fun d hd => (oI d hd).1) (by rw [lI]; exact hat (Nat.le_refl q) hqn)]
  rw [eN p q hpq hqn, eI p (by omega), eI q hqn, dq_gram h1 hn hl hlg hpq hqn]
  have := hFm p q (by omega) (by omega)
  have e : gs (n + 1) (Rm t n) p q + 0 * 0 - N p q = gs (n + 1) (Rm t n) p q - N p q := by grind
  rw [e] at this
  exact this
/-- A factor's squares. -/
theorem bks_of {n : Nat} {t : List Nat} {rows turns : Int} (h : triOk n t rows turns = true) : Okl (-2148) 3100 (rowsG n (linesOf t n)) ∧ BkS n (rowsG n (linesOf t n)) (rowsG n (linesOf t n)) (gs (n + 1) (Rm t n)) (fun a => gs (n + 1) (Rm t n) a a) := by
  obtain ⟨n', en, h1, hn, hl, hlg, _⟩ := triOk_nat h
  obtain rfl : n = n' := by omega
  obtain ⟨oG, lG, _⟩ := tri_gram h
  rw [Int.toNat_natCast] at oG lG
  have o2 : Okl (-9000) 9000 (rowsG n (linesOf t n)) := fun d hd => ⟨(oG d hd).1, (oG d hd).2.mono (by omega) (by omega)⟩
  exact ⟨oG, o2, o2, lG, lG, fun a b hab hb => dq_gram h1 hn hl hlg hab hb, fun a ha => dq_gram h1 hn hl hlg (Nat.le_refl a) ha⟩
theorem bks_join {n : Nat} (hn : n ≤ 6) {A B A' B' : List Dy} {N X N' X'} (h : BkS n A B N X) (h' : BkS n A' B' N' X') (o1 : Okl (-2148) 3100 A) (o2 : Okl (-2148) 3100 B) (o3 : Okl (-2148) 3100 A') (o4 : Okl (-2148) 3100 B') :
    BkS n (addL A A') (addL B B') (fun a b => N a b + N' a b) (fun a => X a + X' a) := by
  obtain ⟨_, _, l1, l2, e1, e2⟩ := h
  obtain ⟨_, _, l3, l4, e3, e4⟩ := h'
  have oA := okl_add o1 o3 (by omega)
  have oB := okl_add o2 o4 (by omega)
  have hat : ∀ {p q}, p ≤ q → q ≤ n → atN n p q < sizeN n := fun hp hq => (atN_lt hn hp hq).1
  have key : ∀ {U V : List Dy} {p q : Nat}, Okl (-2148) 3100 U → Okl (-2148) 3100 V → U.length = sizeN n → V.length = sizeN n → p ≤ q → q ≤ n → dq ((addL U V).getD (atN n p q) zeroD) = dq (U.getD (atN n p q) zeroD) + dq (V.getD (atN n p q) zeroD) := by
    intro U V p q oU oV lU lV hp hq
    have := hat hp hq
    rw [addL_get (by omega) (by omega)]
    exact dq_add (getD_ok oU _).1 (getD_ok oV _).1 (getD_ok oU _).2 (getD_ok oV _).2 (by omega) (by omega) (by omega)
  refine ⟨fun d hd => ⟨(oA d hd).1, (oA d hd).2.mono (by omega) (by omega)⟩, fun d hd => ⟨(oB d hd).1, (oB d hd).2.mono (by omega) (by omega)⟩, by rw [addL_len (by omega), l1], by rw [addL_len (by omega), l2], fun a b hab hb => ?_, fun a ha => ?_⟩
  · rw [key o1 o3 l1 l3 hab hb, e1 a b hab hb, e3 a b hab hb]
  · rw [key o2 o4 l2 l4 (Nat.le_refl a) ha, e2 a ha, e4 a ha]
end Go.Proofs.Nt
/- Joined and ridged books are near. -/
set_option linter.unusedVariables false
set_option maxRecDepth 20000
set_option linter.unusedSimpArgs false
set_option linter.unnecessarySimpa false
namespace Go.Proofs.Nt
open Go Go.Proofs Go.Proofs.Va Go.RowKit

theorem ofR_ok {c : Int} {t : List Nat} {rows turns : Int} (h : triOk c t rows turns = true) : ofR c t rows turns = ⟨c, rowsG c.toNat (linesOf t c.toNat), rowsG c.toNat (linesOf t c.toNat), rows, turns⟩ := by
  unfold ofR; rw [if_pos h]
theorem bd_ok {n : Nat} {b : BV} {Nl Il : List Dy} {rows turns : Int} {N : Nat → Nat → Rat} {X : Nat → Rat} (h1 : 1 ≤ n) (hn : n ≤ 6) (hb : b.bd = ⟨n, Nl, Il, rows, turns⟩) (hB : BkS n Nl Il N X) (hr1 : 0 ≤ rows ∧ rows ≤ 200) (hr2 : 0 ≤ turns ∧ turns ≤ 4096) : b.ok = true := by
  obtain ⟨oN, oI, lN, lI, eN, eI⟩ := hB
  obtain ⟨c, ⟨nn, NL, nc⟩, ⟨ni, IL, ic⟩, rw', tu'⟩ := b
  simp only [BV.bd, BD.mk.injEq] at hb
  obtain ⟨rfl, hN, hI, rfl, rfl⟩ := hb
  have hsz : sizeI (n : Int) = (sizeN n : Int) := by unfold sizeI; rw [if_pos (by omega)]; rfl
  show bookOk n NL IL rw' tu' = true
  rw [bookOk_d, hN, hI]
  unfold bookOkD
  rw [Bool.and_eq_true, Bool.and_eq_true, List.all_eq_true, List.all_eq_true]
  exact ⟨decide_eq_true ⟨by omega, hr1, hr2, by omega, by omega⟩, fun d hd => (oN d hd).1.1, fun d hd => (oI d hd).1.1⟩
/-- What Two tells, Join and Near find. -/
theorem join_law {ca cb : Int} {ta tb t' : List Nat} {ra ka rb kb : Int} {a b : BV} (fa : Fl ta) (fb : Fl tb) (ha : a.bd = ofR ca ta ra ka) (hb : b.bd = ofR cb tb rb kb) (h : twoV ca ta ra ka cb tb rb kb = some t') :
    joinE a b = 0 ∧ Fl t' ∧ t'.length ≤ 60 ∧ ∀ (c : BV) res, c.bd = joinBR a b → nearP c ca t' (ra + rb) (max ka kb + sizeI ca) res → res = .tup [i 0, bo true] := by
  unfold twoV at h
  split at h
  case isFalse => cases h
  rename_i hok
  obtain ⟨hoa, hob, rfl, hr, hk⟩ := hok
  rw [ofR_ok hoa] at ha
  rw [ofR_ok hob] at hb
  obtain ⟨n, rfl, h1, hn, hla, hlga, _⟩ := triOk_nat hoa
  obtain ⟨n', en, _, _, hlb, hlgb, _⟩ := triOk_nat hob
  obtain rfl : n = n' := by omega
  rw [Int.toNat_natCast] at ha hb h
  have ⟨ra1, ra2, ka1, ka2⟩ := triOk_rng hoa
  have ⟨rb1, rb2, kb1, kb2⟩ := triOk_rng hob
  obtain ⟨oA, bA⟩ := bks_of hoa
  obtain ⟨oB, bB⟩ := bks_of hob
  have hsz : sizeI (n : Int) = (sizeN n : Int) := by unfold sizeI; rw [if_pos (by omega)]; rfl
  have aok := bd_ok h1 hn ha bA ⟨ra1, ra2⟩ ⟨ka1, ka2⟩
  have bok := bd_ok h1 hn hb bB ⟨rb1, rb2⟩ ⟨kb1, kb2⟩
  have htA := fl_bf fa hlga
  have htB := fl_bf fb hlgb
  have hjE : joinE a b = 0 := by
    unfold joinE
    have e1 : a.c = n := congrArg BD.c ha
    have e2 : b.c = n := congrArg BD.c hb
    have e3 : a.rows = ra := congrArg BD.rows ha
    have e4 : b.rows = rb := congrArg BD.rows hb
    have e5 : a.turns = ka := congrArg BD.turns ha
    have e6 : b.turns = kb := congrArg BD.turns hb
    rw [aok, bok, e1, e2, e3, e4, e5, e6, if_pos (show (true && true) = true from rfl), if_pos rfl, if_neg (by omega)]
  have hmg : mergeGo n ra ka tb (n + 1) 0 ta = some t' := h
  have hgo : ∀ (m j : Nat) {t t' : List Nat}, j + m = n + 1 → triOk n t ra ka = true → mergeGo n ra ka tb m j t = some t' → triOk n t' ra ka = true := by
    intro m
    induction m with
    | zero => intro j t t' _ ht hg; simp only [mergeGo, Option.some.injEq] at hg; subst hg; exact ht
    | succ m ih =>
      intro j t t' hm ht hg
      simp only [mergeGo] at hg
      cases ho : lineGo n ra ka (n + 1 - j) j t (lineOf tb n j) with
      | none => rw [ho] at hg; cases hg
      | some t2 => rw [ho] at hg; exact ih (j + 1) (by omega) (line_ok _ _ ht ho) hg
  have hot := hgo (n + 1) 0 (by omega) hoa hmg
  have hm := merge_near hn (rows := ra) (turns := ka) htB (M := gs (n + 1) (Rm ta n)) (X := fun a => gs (n + 1) (Rm ta n) a a + gs (n + 1) (Rm tb n) a a) (fun a _ => Rat.le_refl) (n + 1) 0 0 (by omega) (by rw [rc_size hn]; have := size_le hn; omega)
    (near_first hla htA fun a b _ _ => by simp only [gs]; grind) hmg
  rw [rc_size hn, Nat.zero_add] at hm
  obtain ⟨hl', htb', _⟩ := hm
  refine ⟨hjE, fun x hx => (htb' x hx).1.1, by rw [hl']; have := size_le hn; omega, fun c res hc hn' => ?_⟩
  have hcb : c.bd = ⟨n, addL (rowsG n (linesOf ta n)) (rowsG n (linesOf tb n)), addL (rowsG n (linesOf ta n)) (rowsG n (linesOf tb n)), ra + rb, max ka kb + sizeI n⟩ := by
    rw [hc]
    unfold joinBR
    rw [if_pos hjE]
    have e1 : a.c = n := congrArg BD.c ha
    have e3 : a.rows = ra := congrArg BD.rows ha
    have e4 : b.rows = rb := congrArg BD.rows hb
    have e5 : a.turns = ka := congrArg BD.turns ha
    have e6 : b.turns = kb := congrArg BD.turns hb
    have n1 : a.N.l.map DV.d = rowsG n (linesOf ta n) := congrArg BD.N ha
    have n2 : b.N.l.map DV.d = rowsG n (linesOf tb n) := congrArg BD.N hb
    have n3 : a.I.l.map DV.d = rowsG n (linesOf ta n) := congrArg BD.I ha
    have n4 : b.I.l.map DV.d = rowsG n (linesOf tb n) := congrArg BD.I hb
    rw [e1, e3, e4, e5, e6, n1, n2, n3, n4]
  exact near_told (r := sizeN n) h1 hn hcb (bks_join hn bA bB oA oA oB oB) hot ⟨by omega, hr⟩ ⟨by omega, hk⟩ (by
    have := merge_near hn (rows := ra) (turns := ka) htB (M := gs (n + 1) (Rm ta n)) (X := fun a => gs (n + 1) (Rm ta n) a a + gs (n + 1) (Rm tb n) a a) (fun a _ => Rat.le_refl) (n + 1) 0 0 (by omega) (by rw [rc_size hn]; have := size_le hn; omega)
      (near_first hla htA fun a b _ _ => by simp only [gs]; grind) hmg
    rw [rc_size hn, Nat.zero_add] at this
    exact this) hn'

theorem ridge_at {n j a b : Nat} {s : Dy} {G : List Dy} (hn : n ≤ 6) (hj : j ≤ n) (hl : G.length = sizeN n) (hab : a ≤ b) (hb : b ≤ n) : (ridgeL n s j G).getD (atN n a b) zeroD = if a = b ∧ a < j then addD (G.getD (atN n a b) zeroD) s else G.getD (atN n a b) zeroD := by
  induction j with
  | zero => rw [if_neg (by omega)]; rfl
  | succ j ih =>
    have ih := ih (by omega)
    show ((ridgeL n s j G).set (atN n j j) (addD ((ridgeL n s j G).getD (atN n j j) zeroD) s)).getD (atN n a b) zeroD = _
    by_cases h : atN n a b = atN n j j
    · obtain ⟨rfl, rfl⟩ := at_inj hn hab hb (by omega) h
      rw [ih, if_neg (by omega), if_pos ⟨rfl, by omega⟩, List.getD_eq_getElem?_getD, List.getElem?_set_self (by rw [ridge_len, hl]; exact (atN_lt hn hab hb).1)]
      rfl
    · rw [List.getD_eq_getElem?_getD, List.getElem?_set_ne (fun e => h e.symm), ← List.getD_eq_getElem?_getD, ih]
      by_cases h2 : a = b ∧ a < j
      · rw [if_pos h2, if_pos ⟨h2.1, by omega⟩]
      · rw [if_neg h2, if_neg]
        rintro ⟨rfl, h3⟩
        have : a = j := by omega
        subst this
        exact h rfl
theorem bks_ridge {n mu : Nat} (hn : n ≤ 6) {A : List Dy} {N : Nat → Nat → Rat} (h : BkS n A A N (fun a => N a a)) (o : Okl (-2148) 3100 A) (hm : inB mu = true) :
    BkS n (ridgeL n (mulD (fromD mu) (fromD mu)) n A) (ridgeL n (mulD (fromD mu) (fromD mu)) n A) (fun a b => N a b + rg n (rv mu * rv mu) a b) (fun a => N a a + rg n (rv mu * rv mu) a a) := by
  obtain ⟨_, _, l1, _, e1, e2⟩ := h
  have oR := ridge_ok (n := n) (mu := mu) o (by omega) (by omega) n
  have o2 : Okl (-9000) 9000 (ridgeL n (mulD (fromD mu) (fromD mu)) n A) := fun d hd => ⟨(oR d hd).1, (oR d hd).2.mono (by omega) (by omega)⟩
  have hf : fin mu = true := in_fin hm
  have hfr := okl_from [mu] (fromD mu) (by simp)
  have hsq : dq (mulD (fromD mu) (fromD mu)) = rv mu * rv mu := by rw [dq_mul hfr.2 hfr.2 (by omega) (by omega), dq_from hf]
  have hsb := bd_mul hfr.2 hfr.2
  have key : ∀ p q, p ≤ q → q ≤ n → dq ((ridgeL n (mulD (fromD mu) (fromD mu)) n A).getD (atN n p q) zeroD) = N p q + rg n (rv mu * rv mu) p q := by
    intro p q hpq hq
    rw [ridge_at hn (Nat.le_refl n) l1 hpq hq]
    unfold rg
    by_cases h : p = q ∧ p < n
    · rw [if_pos h, if_pos h, dq_add (L := -2148) (H := 3100) (getD_ok o _).1 (ok_mul _ _) (getD_ok o _).2 (hsb.mono (by omega) (by omega)) (by omega) (by omega) (by omega), hsq, e1 p q hpq hq]
    · rw [if_neg h, if_neg h, e1 p q hpq hq]; grind
  exact ⟨o2, o2, by rw [ridge_len, l1], by rw [ridge_len, l1], key, fun a ha => key a a (Nat.le_refl a) ha⟩
theorem two_none {ca : Int} {ta : List Nat} {ra ka cb : Int} {tb : List Nat} {rb kb : Int} : twoE ca ta ra ka cb tb rb kb ≠ 0 := by
  unfold twoE
  split
  · split
    · split <;> omega
    · omega
  · omega
theorem fr_none {c : Int} {t : List Nat} {rows turns : Int} {mu : Nat} (h : frV c t rows turns mu = none) : frE c t rows turns mu ≠ 0 := by
  unfold frE
  unfold frV at h
  by_cases h1 : triOk c t rows turns = true
  · rw [if_pos h1]
    by_cases h2 : (inB mu && !fsg mu) = true
    · rw [if_pos ⟨h1, h2⟩] at h
      rw [if_pos h2]
      by_cases h3 : frg mu = 0
      · rw [if_pos h3] at h; cases h
      · rw [if_neg h3]
        split <;> omega
    · rw [if_neg h2]; omega
  · rw [if_neg h1]; omega
/-- What Ridge tells of a factor, and of its book. -/
theorem ridge_law {c : Int} {t t' : List Nat} {rows turns : Int} {mu : Nat} {a : BV} (hy : mu < 18446744073709551616) (ft : Fl t) (ha : a.bd = ofR c t rows turns) (h : frV c t rows turns mu = some t') :
    ridgeE a mu = 0 ∧ Fl t' ∧ t'.length ≤ 60 ∧ ∀ (q : BV) res, q.bd = ridgeR a mu → nearP q c t' rows (frT c turns mu) res → res = .tup [i 0, bo true] := by
  unfold frV at h
  split at h
  case isFalse => cases h
  rename_i hok
  obtain ⟨hoa, hmu⟩ := hok
  rw [ofR_ok hoa] at ha
  obtain ⟨n, rfl, h1, hn, hla, hlga, _⟩ := triOk_nat hoa
  rw [Int.toNat_natCast] at ha h
  have ⟨ra1, ra2, ka1, ka2⟩ := triOk_rng hoa
  obtain ⟨oA, bA⟩ := bks_of hoa
  have aok := bd_ok h1 hn ha bA ⟨ra1, ra2⟩ ⟨ka1, ka2⟩
  have htA := fl_bf ft hlga
  have e1 : a.c = n := congrArg BD.c ha
  have e3 : a.rows = rows := congrArg BD.rows ha
  have e5 : a.turns = turns := congrArg BD.turns ha
  have n1 : a.N.l.map DV.d = rowsG n (linesOf t n) := congrArg BD.N ha
  have n3 : a.I.l.map DV.d = rowsG n (linesOf t n) := congrArg BD.I ha
  by_cases h3 : frg mu = 0
  · rw [if_pos h3] at h
    obtain rfl : t = t' := Option.some.inj h
    have hE : ridgeE a mu = 0 := by unfold ridgeE; rw [if_pos aok, if_pos hmu, if_pos h3]
    refine ⟨hE, ft, by rw [hla]; have := size_le hn; omega, fun q res hq hn' => ?_⟩
    have hqb : q.bd = ⟨n, rowsG n (linesOf t n), rowsG n (linesOf t n), rows, turns⟩ := by
      rw [hq]; unfold ridgeR; rw [if_pos hE, if_pos h3, ha]
    unfold frT at hn'
    rw [if_pos h3] at hn'
    exact near_told (r := 0) h1 hn hqb bA hoa ⟨ra1, ra2⟩ ⟨by omega, ka2⟩ (near_first hla htA fun _ _ _ _ => rfl) hn'
  rw [if_neg h3] at h
  by_cases h4 : turns + (n : Int) * ((n : Int) + 1) > 4096
  · rw [if_pos h4] at h; cases h
  rw [if_neg h4] at h
  have hE : ridgeE a mu = 0 := by unfold ridgeE; rw [if_pos aok, if_pos hmu, if_neg h3, e5, e1, if_neg h4]
  have hmu1 : inB mu = true := by
    rw [Bool.and_eq_true] at hmu; exact hmu.1
  have hnn : ((rc (n + 1) - 1 : Nat) : Int) ≤ (n : Int) * ((n : Int) + 1) ∧ rc (n + 1) ≤ 28 ∧ 0 ≤ (n : Int) * ((n : Int) + 1) := by
    have : n = 1 ∨ n = 2 ∨ n = 3 ∨ n = 4 ∨ n = 5 ∨ n = 6 := by omega
    rcases this with rfl | rfl | rfl | rfl | rfl | rfl <;> decide
  have hgo : ∀ (m j : Nat) {t t' : List Nat}, j + m = n → triOk n t rows turns = true → ridgeGo n rows turns mu m j t = some t' → triOk n t' rows turns = true := by
    intro m
    induction m with
    | zero => intro j t t' _ ht hg; simp only [ridgeGo, Option.some.injEq] at hg; subst hg; exact ht
    | succ m ih =>
      intro j t t' hm ht hg
      simp only [ridgeGo] at hg
      cases ho : lineGo n rows turns (n + 1 - j) j t (unitL n j mu) with
      | none => rw [ho] at hg; cases hg
      | some t2 => rw [ho] at hg; exact ih (j + 1) (by omega) (line_ok _ _ ht ho) hg
  have hot := hgo n 0 (by omega) hoa h
  have hm := ridge_near hn (rows := rows) (turns := turns) (inB_bf hy hmu1) (M := gs (n + 1) (Rm t n)) (X := fun a => gs (n + 1) (Rm t n) a a + rg n (rv mu * rv mu) a a) (fun a _ => Rat.le_refl) n 0 0 (by omega) (by omega)
    (near_first hla htA fun a b _ _ => by unfold rg; rw [if_neg (by omega)]; grind) h
  rw [Nat.zero_add] at hm
  have hm2 := hm
  obtain ⟨hl', htb', _⟩ := hm
  refine ⟨hE, fun x hx => (htb' x hx).1.1, by rw [hl']; have := size_le hn; omega, fun q res hq hn' => ?_⟩
  have hqb : q.bd = ⟨n, ridgeL n (mulD (fromD mu) (fromD mu)) n (rowsG n (linesOf t n)), ridgeL n (mulD (fromD mu) (fromD mu)) n (rowsG n (linesOf t n)), rows, turns + (n : Int) * ((n : Int) + 1)⟩ := by
    rw [hq]
    unfold ridgeR
    rw [if_pos hE, if_neg h3, e1, e3, e5, n1, n3, Int.toNat_natCast]
  unfold frT at hn'
  rw [if_neg h3] at hn'
  exact near_told h1 hn hqb (bks_ridge hn bA oA hmu1) hot ⟨ra1, ra2⟩ ⟨by omega, by omega⟩ hm2 hn'
end Go.Proofs.Nt
/- LedgerJoins. -/
set_option linter.unusedVariables false
set_option maxRecDepth 20000
set_option linter.unusedSimpArgs false
set_option linter.unnecessarySimpa false
namespace Go.Proofs.Nt
open Go Go.Proofs Go.Proofs.Va Go.RowKit

theorem okl_bnd {us : List DV} {G : List Dy} {L H H' : Int} (h : us.map DV.d = G) (o : Okl L H G) (hL : -9000 ≤ L) (hH : H ≤ H') : ∀ d ∈ us, Bd (-9000) H' d.m := by
  intro d hd
  obtain ⟨od, b⟩ := o d.d (by rw [← h]; exact List.mem_map.2 ⟨d, hd, rfl⟩)
  have hm : d.m = d.d := may_of_ok od.1
  rw [hm]; exact b.mono hL hH
/-- Told books are not too great. -/
theorem told_fits {b : BV} {B : BD} {L H : Int} (h : b.bd = B) (oN : Okl L H B.N) (oI : Okl L H B.I) (hL : -9000 ≤ L) (hH : H ≤ 9000) : b.bnd 9000 ∧ DvOk b.N.l ∧ DvOk b.I.l := by
  subst h
  exact ⟨⟨okl_bnd rfl oN hL hH, okl_bnd rfl oI hL hH⟩, dvok_of rfl oN hL hH, dvok_of rfl oI hL hH⟩
theorem okl_nil (L H : Int) : Okl L H [] := fun d hd => by cases hd
theorem ofR_okl (c : Int) (t : List Nat) (rows turns : Int) : Okl (-2148) 3100 (ofR c t rows turns).N ∧ Okl (-2148) 3100 (ofR c t rows turns).I := by
  unfold ofR
  split
  · rename_i h; exact ⟨(tri_gram h).1, (tri_gram h).1⟩
  · exact ⟨okl_nil _ _, okl_nil _ _⟩
theorem joinR_okl {a b : BV} {A B : BD} (ha : a.bd = A) (hb : b.bd = B) (o1 : Okl (-2148) 3100 A.N ∧ Okl (-2148) 3100 A.I) (o2 : Okl (-2148) 3100 B.N ∧ Okl (-2148) 3100 B.I) : Okl (-2148) 3101 (joinBR a b).N ∧ Okl (-2148) 3101 (joinBR a b).I := by
  subst ha hb
  unfold joinBR
  split
  · exact ⟨okl_add o1.1 o2.1 (by omega), okl_add o1.2 o2.2 (by omega)⟩
  · exact ⟨okl_nil _ _, okl_nil _ _⟩
theorem ridgeR_okl {a : BV} {A : BD} {mu : Nat} (ha : a.bd = A) (o1 : Okl (-2148) 3100 A.N ∧ Okl (-2148) 3100 A.I) : Okl (-2148) 3200 (ridgeR a mu).N ∧ Okl (-2148) 3200 (ridgeR a mu).I := by
  subst ha
  unfold ridgeR
  by_cases h : ridgeE a mu = 0
  · rw [if_pos h]
    split
    · exact ⟨okl_mono2 o1.1 (by omega), okl_mono2 o1.2 (by omega)⟩
    · have hc : a.c.toNat ≤ 6 := by
        unfold ridgeE at h
        split at h
        · rename_i h2
          obtain ⟨n, e, _, h6, _⟩ := bookOk_nat h2
          omega
        · omega
      exact ⟨okl_mono2 (ridge_ok o1.1 (by omega) (by omega) _) (by omega), okl_mono2 (ridge_ok o1.2 (by omega) (by omega) _) (by omega)⟩
  · rw [if_neg h]
    exact ⟨okl_nil _ _, okl_nil _ _⟩
theorem fac_cases {c rows turns : Int} {o : Option (List Nat)} {e : Int} {r : AV} (h : facT c rows turns o e r) : ∃ c' t' nl cap rows' turns' e', r = .tup [.agg [i c', fsl nl t' cap, i rows', i turns'], i e'] ∧ ((o = some t' ∧ c' = c ∧ rows' = rows ∧ turns' = turns ∧ e' = 0) ∨ (o = none ∧ t' = [] ∧ e' = e)) := by
  unfold facT at h
  cases o with
  | none => exact ⟨0, [], true, some 0, 0, 0, e, h, .inr ⟨rfl, rfl, rfl⟩⟩
  | some t' =>
    obtain ⟨nl, cap, h⟩ := h
    exact ⟨c, t', nl, cap, rows, turns, 0, h, .inl ⟨rfl, rfl, rfl, rfl, rfl⟩⟩
set_option maxHeartbeats 2000000 in
theorem ljoins_ctr (c : Int) (t : List Nat) (tn : Bool) (tc : Option Nat) (rows turns c2 : Int) (t2 : List Nat) (tn2 : Bool) (tc2 : Option Nat) (rows2 turns2 : Int) (mu : Nat) (hf : Fl t) (hf2 : Fl t2) (hy : mu < 18446744073709551616) :
    Ctr Tryz.prog 3 [.agg [i c, fsl tn t tc, i rows, i turns], .agg [i c2, fsl tn2 t2 tc2, i rows2, i turns2], fl mu] (fun r => r = bo true) := by
  refine ctr_val Tryz.func3 rfl (by kernel_rfl) rfl (by simp) fun K hK => ?_
  have pF : Pu (.agg [.v (.int .i64 c), fsl tn t tc, .v (.int .i64 rows), .v (.int .i64 turns)]) := pu_agg (by simp)
  have pG : Pu (.agg [.v (.int .i64 c2), fsl tn2 t2 tc2, .v (.int .i64 rows2), .v (.int .i64 turns2)]) := pu_agg (by simp)
  simp [Tryz.f3, cells_bv, agg_bv, cells_g4, -cellsOf]
  by_cases h60 : 60 < t.length
  · have h60' : ¬ t.length ≤ 60 := by omega
    simp [h60, h60']
    refine lglive ?_
    simp
    exact hK _
  have h60' : t.length ≤ 60 := by omega
  by_cases h61 : 60 < t2.length
  · simp [h60, h60', h61]
    refine lglive ?_
    simp
    exact hK _
  have hl : t.length ≤ 1000000 := by omega
  have hl2 : t2.length ≤ 1000000 := by omega
  simp [h60, h60', h61, cells_bv, agg_bv, cells_g4, -cellsOf]
  refine acall_by (lof_ctr c t tn tc rows turns hf hl) (pu_av1 pF) ?_
  intro r hr
  obtain ⟨a, ha, fa, rfl⟩ := toldB_bv hr
  clear hr
  simp [cells_bv, agg_bv, cells_g4, wr, -cellsOf]
  refine acall_by (lof_ctr c2 t2 tn2 tc2 rows2 turns2 hf2 hl2) (pu_av1 pG) ?_
  intro r hr
  obtain ⟨b, hb, fb, rfl⟩ := toldB_bv hr
  clear hr
  by_cases hoa : ofE c t rows turns = 0
  case neg =>
    simp [hoa, cells_bv, agg_bv, cells_g4, wr, -cellsOf]
    refine lglive ?_
    simp
    exact hK _
  by_cases hob : ofE c2 t2 rows2 turns2 = 0
  case neg =>
    simp [hoa, hob, cells_bv, agg_bv, cells_g4, wr, -cellsOf]
    refine lglive ?_
    simp
    exact hK _
  have oA := ofR_okl c t rows turns
  have oB := ofR_okl c2 t2 rows2 turns2
  obtain ⟨bA, _, _⟩ := told_fits ha oA.1 oA.2 (by omega) (by omega)
  obtain ⟨bB, _, _⟩ := told_fits hb oB.1 oB.2 (by omega) (by omega)
  simp [hoa, hob, cells_bv, agg_bv, cells_g4, wr, -cellsOf]
  refine acall_by (mtwo_ctr c t tn tc rows turns c2 t2 tn2 tc2 rows2 turns2 hf hl hf2 hl2) (pu_two pF pG) ?_
  intro r hr
  obtain ⟨c3, t3, nl3, cap3, rows3, turns3, e3, rfl, h3⟩ := fac_cases hr
  clear hr
  have f3 : Fl t3 := by
    rcases h3 with h3 | h3
    · exact (join_law hf hf2 ha hb h3.1).2.1
    · rw [h3.2.1]; exact fun x hx => by cases hx
  have l3 : t3.length ≤ 1000000 := by
    rcases h3 with h3 | h3
    · have := (join_law hf hf2 ha hb h3.1).2.2.1; omega
    · rw [h3.2.1]; simp
  have pH : Pu (.agg [.v (.int .i64 c3), fsl nl3 t3 cap3, .v (.int .i64 rows3), .v (.int .i64 turns3)]) := pu_agg (by simp)
  simp [cells_bv, agg_bv, cells_g4, wr, -cellsOf]
  refine acall_by (ljoin_ctr a b fa fb bA bB (by decide)) (pu_two (pu_bv _) (pu_bv _)) ?_
  intro r hr
  obtain ⟨d, hd, fd, rfl⟩ := toldB_bv hr
  clear hr
  have oD := joinR_okl ha hb oA oB
  obtain ⟨bD, dN, dI⟩ := told_fits hd oD.1 oD.2 (by omega) (by omega)
  simp [cells_bv, agg_bv, cells_g4, wr, -cellsOf]
  refine acall_by (lnear_ctr d fd dN dI c3 t3 nl3 cap3 rows3 turns3 f3 l3) (pu_two (pu_bv _) pH) ?_
  intro r hr
  obtain ⟨_, z, q, rfl⟩ := near_same hr hr
  have key1 : e3 = 0 → joinE a b = 0 ∧ q = true := by
    intro h0
    rcases h3 with ⟨h3, rfl, rfl, rfl, _⟩ | h3
    · obtain ⟨j1, _, _, j2⟩ := join_law hf hf2 ha hb h3
      have := j2 d _ hd hr
      simp at this
      exact ⟨j1, this.2⟩
    · exact absurd (h3.2.2.symm.trans h0) two_none
  clear hr
  have two : (e3 = 0 ∧ joinE a b = 0 ∧ q = true) ∨ e3 ≠ 0 := by
    by_cases h : e3 = 0
    · exact .inl ⟨h, key1 h⟩
    · exact .inr h
  clear key1 h3
  have oR := ridgeR_okl (mu := mu) ha oA
  rcases two with ⟨u1, u2, u3⟩ | u1
  all_goals
    first
    | simp [u1, u2, u3, cells_bv, agg_bv, cells_g4, wr, -cellsOf]
    | simp [u1, cells_bv, agg_bv, cells_g4, wr, -cellsOf]
    refine acall_by (aridge_ctr c t tn tc rows turns mu hf hl hy) (pu_two pF (.v _)) ?_
    intro r hr
    obtain ⟨c4, t4, nl4, cap4, rows4, turns4, e4, rfl, h4⟩ := fac_cases hr
    clear hr
    have f4 : Fl t4 := by
      rcases h4 with h4 | h4
      · exact (ridge_law hy hf ha h4.1).2.1
      · rw [h4.2.1]; exact fun x hx => by cases hx
    have l4 : t4.length ≤ 1000000 := by
      rcases h4 with h4 | h4
      · have := (ridge_law hy hf ha h4.1).2.2.1; omega
      · rw [h4.2.1]; simp
    have pP : Pu (.agg [.v (.int .i64 c4), fsl nl4 t4 cap4, .v (.int .i64 rows4), .v (.int .i64 turns4)]) := pu_agg (by simp)
    simp [cells_bv, agg_bv, cells_g4, wr, -cellsOf]
    refine acall_by (lridge_ctr a fa bA (by decide) mu hy) (pu_two (pu_bv _) (.v _)) ?_
    intro r hr
    obtain ⟨d2, hd2, fd2, rfl⟩ := toldB_bv hr
    clear hr
    obtain ⟨_, dN2, dI2⟩ := told_fits hd2 oR.1 oR.2 (by omega) (by omega)
    simp [cells_bv, agg_bv, cells_g4, wr, -cellsOf]
    refine acall_by (lnear_ctr d2 fd2 dN2 dI2 c4 t4 nl4 cap4 rows4 turns4 f4 l4) (pu_two (pu_bv _) pP) ?_
    intro r hr
    obtain ⟨_, z2, q2, rfl⟩ := near_same hr hr
    have key2 : (e4 = 0 ∧ ridgeE a mu = 0 ∧ q2 = true) ∨ e4 ≠ 0 := by
      rcases h4 with ⟨h4, rfl, rfl, rfl, rfl⟩ | h4
      · obtain ⟨j1, _, _, j2⟩ := ridge_law hy hf ha h4
        have := j2 d2 _ hd2 hr
        simp at this
        exact .inl ⟨rfl, j1, this.2⟩
      · exact .inr (fun h0 => fr_none h4.1 (h4.2.2.symm.trans h0))
    clear hr
    rcases key2 with ⟨v1, v2, v3⟩ | v1
    · simp [v1, v2, v3, wr]
      refine lglive ?_
      simp
      exact hK _
    · simp [v1, wr]
      refine lglive ?_
      simp
      exact hK _
end Go.Proofs.Nt
