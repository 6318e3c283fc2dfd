import Derived.Test.YtojoikbgdjcfdaaGreatDoorWa
import Derived.Test.YtojoikbgdjcfdaaGreatDoorWb
import Derived.Test.YtojoikbgdjcfdaaGreatDoorWc
import Derived.Test.YtojoikbgdjcfdaaGreatDoorWd
import Derived.Test.YtojoikbgdjcfdaaGreatDoorWe
import Derived.Test.YtojoikbgdjcfdaaGreatDoorWf
import Derived.Test.YtojoikbgdjcfdaaGreatDoorWg
import Derived.Test.YtojoikbgdjcfdaaGreatDoorWh
import Derived.Test.YtojoikbgdjcfdaaGreatDoorWi
import Derived.Test.YtojoikbgdjcfdaaGreatDoorWk
import Derived.Test.YtojoikbgdjcfdaaGreatDoorWl
import Derived.Test.YtojoikbgdjcfdaaGreatDoorWm
import Derived.Test.YtojoikbgdjcfdaaGreatDoorWn
import Derived.Test.YtojoikbgdjcfdaaGreatDoorWj
import Derived.Test.YtojoikbgdjcfdaaGreatDoorWo
/- The laws CheckTells, CheckTable as calls. -/
set_option linter.unusedVariables false
set_option maxRecDepth 20000
namespace Go.Proofs.Nt
open Go Go.Proofs Go.Proofs.Va Go.RowKit

/-- A list of things that came in. -/
theorem fit_opz {x : AV} (hx : Fit (.sl opSh) x) : ∃ nl l, (∀ o ∈ l, o.wf) ∧ l.length ≤ maxLen ∧ x = opsl nl l none := by
  cases hx with
  | sl _ nl l hnl hm hlen hf =>
    have key : ∀ l : List (List AV), (∀ ys ∈ l, ys.length = opSh.length) → (∀ ys ∈ l, ∀ j (hj : j < ys.length) (hj' : j < opSh.length), Fit opSh[j] ys[j]) → ∃ b : List OpV, (∀ o ∈ b, o.wf) ∧ l.flatten = opcs b ∧ b.length = l.length := by
      intro l
      induction l with
      | nil => intro _ _; exact ⟨[], fun r hr => (by cases hr), rfl, rfl⟩
      | cons ys l ih =>
        intro h1 h2
        obtain ⟨b, hb, e1, e2⟩ := ih (fun y hy => h1 y (by simp [hy])) (fun y hy => h2 y (by simp [hy]))
        obtain ⟨o, ho, rfl⟩ := fit_opv (h1 ys (by simp)) (fun j hj hx => h2 ys (by simp) j hx hj)
        refine ⟨o :: b, ?_, ?_, by simp [e2]⟩
        · intro r hr
          rcases List.mem_cons.1 hr with rfl | hr
          · exact ho
          · exact hb r hr
        · rw [List.flatten_cons, e1]; rfl
    obtain ⟨b, hb, e1, e2⟩ := key l hlen hf
    refine ⟨nl, b, hb, by omega, ?_⟩
    show AV.pl nl l.flatten l.length none = .pl (nl && b.isEmpty) (opcs b) b.length none
    rw [e1, ← e2]
    cases nl with
    | false => rfl
    | true =>
      have hl0 : b.length = 0 := by rw [e2, hnl rfl]; rfl
      have hb0 : b = [] := List.eq_nil_of_length_eq_zero hl0
      subst hb0; rfl
theorem arg_opz {w : World} {v : Value} (h : Arg1 (.sl opSh) w v) : ∃ nl l, (∀ o ∈ l, o.wf) ∧ l.length ≤ maxLen ∧ Rp (live w) w (opsl nl l none) v := by
  obtain ⟨x, hx, hR⟩ := h
  obtain ⟨nl, l, h1, h2, rfl⟩ := fit_opz hx
  exact ⟨nl, l, h1, h2, hR⟩
theorem arg_bools {w : World} {v : Value} (h : Arg1 (.sl [.bool]) w v) : ∃ nl l, Rp (live w) w (bsl nl l none) v := by
  obtain ⟨x, hx, hR⟩ := h
  obtain ⟨nl, l, _, _, rfl⟩ := fit_list bo (fun _ => True) (fun x hx => by
    cases hx with
    | bool b => exact ⟨b, trivial, rfl⟩) hx
  exact ⟨nl, l, hR⟩
theorem checkTells_calls {w : World} {v0 v1 : Value} (hg : Glob (live w) w) (h0 : ArgA shSh w v0) (h1 : ArgA opSh w v1) :
    Calls Tryz.prog 3 #[v0, v1] w fun e w' => e = .returned (.bool true) ∧ Below w.heap.size w w' := by
  obtain ⟨s, f, k0⟩ := arg_shape h0
  obtain ⟨o, ho, k1⟩ := arg_op h1
  exact ctr_calls Tryz.func3 rfl (by kernel_rfl) (lawctells_ctr codeOk s f o ho) (rpl_two k0 k1) hg
theorem checkTable_calls {w : World} {v0 v1 v2 : Value} (hg : Glob (live w) w) (h0 : ArgA shSh w v0) (h1 : Arg1 (.sl opSh) w v1) (h2 : Arg1 (.sl [.bool]) w v2) :
    Calls Tryz.prog 4 #[v0, v1, v2] w fun e w' => e = .returned (.bool true) ∧ Below w.heap.size w w' := by
  obtain ⟨s, f, k0⟩ := arg_shape h0
  obtain ⟨ln, l, hl, _, k1⟩ := arg_opz h1
  obtain ⟨wn, w2, k2⟩ := arg_bools h2
  exact ctr_calls Tryz.func4 rfl (by kernel_rfl) (lawctable_ctr codeOk s f l ln none w2 wn none hl) (rpl_three k0 k1 k2) hg
end Go.Proofs.Nt
