import Derived.Test.YtojoikbgdjcfdaaDoorWa
import Derived.Test.YtojoikbgdjcfdaaDoorWb
import Derived.Test.YtojoikbgdjcfdaaDoorWc
import Derived.Test.YtojoikbgdjcfdaaDoorWd
import Derived.Test.YtojoikbgdjcfdaaDoorWe
import Derived.Test.YtojoikbgdjcfdaaDoorWf
import Derived.Test.YtojoikbgdjcfdaaDoorWg
import Derived.Test.YtojoikbgdjcfdaaDoorWh
import Derived.Test.YtojoikbgdjcfdaaDoorWi
import Derived.Test.YtojoikbgdjcfdaaDoorWk
import Derived.Test.YtojoikbgdjcfdaaDoorWl
import Derived.Test.YtojoikbgdjcfdaaDoorWm
import Derived.Test.YtojoikbgdjcfdaaDoorWn
import Derived.Test.YtojoikbgdjcfdaaDoorWj
import Derived.Test.YtojoikbgdjcfdaaDoorWo
/- More laws of layer 20 as calls. -/
set_option linter.unusedVariables false
set_option maxRecDepth 20000
namespace Go.Proofs.Nt
open Go Go.Proofs Go.Proofs.Va Go.RowKit

abbrev roSh : List Sh := [.sl [.flt], .flt]
theorem arg_row {w : World} {v : Value} (h : ArgA roSh w v) : ∃ xn x y, Fl x ∧ y < 18446744073709551616 ∧ Rp (live w) w (.agg [fsl xn x none, fl y]) v := by
  obtain ⟨xs, h1, h2, h3⟩ := h
  match xs, h1 with
  | [x, y], _ =>
    have f0 := h2 0 (by simp) (by simp)
    have f1 := h2 1 (by simp) (by simp)
    simp only [List.getElem_cons_zero, List.getElem_cons_succ] at f0 f1
    obtain ⟨nl, l, hl, rfl⟩ := fit_fls f0
    cases f1 with
    | flt b hb => exact ⟨nl, l, b, hl, hb, h3⟩
/-- A list of things that came in. -/
theorem fit_ops {x : AV} (hx : Fit (.sl opSh) x) : ∃ nl l, (∀ o ∈ l, o.wf) ∧ l.length ≤ maxLen ∧ x = opsl nl l none := by
  cases hx with
  | sl _ nl l hnl hm hlen hf =>
    have key : ∀ l : List (List AV), (∀ ys ∈ l, ys.length = opSh.length) → (∀ ys ∈ l, ∀ j (hj : j < ys.length) (hj' : j < opSh.length), Fit opSh[j] ys[j]) → ∃ b : List OpV, (∀ o ∈ b, o.wf) ∧ l.flatten = opcs b ∧ b.length = l.length := by
      intro l
      induction l with
      | nil => intro _ _; exact ⟨[], fun r hr => (by cases hr), rfl, rfl⟩
      | cons ys l ih =>
        intro h1 h2
        obtain ⟨b, hb, e1, e2⟩ := ih (fun y hy => h1 y (by simp [hy])) (fun y hy => h2 y (by simp [hy]))
        obtain ⟨o, ho, rfl⟩ := fit_opv (h1 ys (by simp)) (fun j hj hx => h2 ys (by simp) j hx hj)
        refine ⟨o :: b, ?_, ?_, by simp [e2]⟩
        · intro r hr
          rcases List.mem_cons.1 hr with rfl | hr
          · exact ho
          · exact hb r hr
        · rw [List.flatten_cons, e1]; rfl
    obtain ⟨b, hb, e1, e2⟩ := key l hlen hf
    refine ⟨nl, b, hb, by omega, ?_⟩
    show AV.pl nl l.flatten l.length none = .pl (nl && b.isEmpty) (opcs b) b.length none
    rw [e1, ← e2]
    cases nl with
    | false => rfl
    | true =>
      have hl0 : b.length = 0 := by rw [e2, hnl rfl]; rfl
      have hb0 : b = [] := List.eq_nil_of_length_eq_zero hl0
      subst hb0; rfl
theorem arg_ops {w : World} {v : Value} (h : Arg1 (.sl opSh) w v) : ∃ nl l, (∀ o ∈ l, o.wf) ∧ l.length ≤ maxLen ∧ Rp (live w) w (opsl nl l none) v := by
  obtain ⟨x, hx, hR⟩ := h
  obtain ⟨nl, l, h1, h2, rfl⟩ := fit_ops hx
  exact ⟨nl, l, h1, h2, hR⟩
theorem checkRows_calls {w : World} {v0 v1 v2 : Value} (hg : Glob (live w) w) (h0 : ArgA shSh w v0) (h1 : Arg1 (.int .i64) w v1) (h2 : ArgA roSh w v2) :
    Calls Tryd.prog 4 #[v0, v1, v2] w fun e w' => e = .returned (.bool true) ∧ Below w.heap.size w w' := by
  obtain ⟨s, f, k0⟩ := arg_shape h0
  obtain ⟨z, _, k1⟩ := arg_i64 h1
  obtain ⟨xn, x, y, hx, hy, k2⟩ := arg_row h2
  exact ctr_calls Tryd.func4 rfl (by kernel_rfl) (lawrows_ctr codeOk s f z x xn none y hx hy) (rpl_three k0 k1 k2) hg
theorem checkMerges_calls {w : World} {v0 v1 v2 : Value} (hg : Glob (live w) w) (h0 : ArgA shSh w v0) (h1 : Arg1 (.int .i64) w v1) (h2 : Arg1 (.int .i64) w v2) :
    Calls Tryd.prog 5 #[v0, v1, v2] w fun e w' => e = .returned (.bool true) ∧ Below w.heap.size w w' := by
  obtain ⟨s, f, k0⟩ := arg_shape h0
  obtain ⟨a, _, k1⟩ := arg_i64 h1
  obtain ⟨b, _, k2⟩ := arg_i64 h2
  exact ctr_calls Tryd.func5 rfl (by kernel_rfl) (lawmerges_ctr codeOk s f a b) (rpl_three k0 k1 k2) hg
theorem checkParts_calls {w : World} {v0 v1 v2 : Value} (hg : Glob (live w) w) (h0 : ArgA shSh w v0) (h1 : Arg1 (.sl opSh) w v1) (h2 : Arg1 (.int .i64) w v2) :
    Calls Tryd.prog 6 #[v0, v1, v2] w fun e w' => e = .returned (.bool true) ∧ Below w.heap.size w w' := by
  obtain ⟨s, f, k0⟩ := arg_shape h0
  obtain ⟨ln, l, hl, _, k1⟩ := arg_ops h1
  obtain ⟨k, _, k2⟩ := arg_i64 h2
  exact ctr_calls Tryd.func6 rfl (by kernel_rfl) (lawparts_ctr codeOk s f l ln none k hl) (rpl_three k0 k1 k2) hg
end Go.Proofs.Nt
