import Derived.Test.YtnhhlamecljhhaaGreatWa
import Derived.Test.YtnhhlamecljhhaaGreatWb
import Derived.Test.YtnhhlamecljhhaaGreatWc
import Derived.Test.YtnhhlamecljhhaaGreatWd
import Derived.Test.YtnhhlamecljhhaaGreatWe
import Derived.Test.YtnhhlamecljhhaaGreatWf
import Derived.Test.YtnhhlamecljhhaaGreatWg
import Derived.Test.YtnhhlamecljhhaaGreatWh
import Derived.Test.YtnhhlamecljhhaaGreatWi
import Derived.Test.YtnhhlamecljhhaaGreatWk
import Derived.Test.YtnhhlamecljhhaaGreatWl
/- Books: the document's In, Out, New; LedgerTells. -/
set_option linter.unusedVariables false
set_option maxRecDepth 20000
set_option linter.unusedSimpArgs false
set_option linter.unnecessarySimpa false
namespace Go.Proofs.Nt
open Go Go.Proofs Go.Proofs.Va Go.RowKit

theorem pu_two {a b : AV} (h1 : Pu a) (h2 : Pu b) : ∀ z ∈ [a, b], Pu z := by
  intro z hz
  simp only [List.mem_cons, List.not_mem_nil, or_false] at hz
  rcases hz with rfl | rfl
  · exact h1
  · exact h2
end Go.Proofs.Nt
/- Books: the document's Of, Near; LedgerNear. -/
set_option linter.unusedVariables false
set_option maxRecDepth 20000
set_option linter.unusedSimpArgs false
set_option linter.unnecessarySimpa false
namespace Go.Proofs.Nt
open Go Go.Proofs Go.Proofs.Va Go.RowKit

theorem chk_same {N I G G' : List DV} {c k : Int} {r r' : AV} (hG : G.map DV.d = G'.map DV.d) (h : chkP N I G c k r) (h' : chkP N I G' c k r') : r = r' := by
  have hl : G.length = G'.length := by have := congrArg List.length hG; simpa using this
  have hv : chkV N I G c k ↔ chkV N I G' c k := by unfold chkV; rw [hl]
  unfold chkP at h h'
  by_cases e : chkV N I G c k
  · rw [if_pos e] at h
    rw [if_pos (hv.1 e)] at h'
    have hf : far N I G c.toNat k = far N I G' c.toNat k := by
      funext p q
      exact far_congr (fun _ => rfl) (fun _ => rfl) (gv_m hG) p q
    rw [hf] at h
    exact firstP_eq h h'
  · rw [if_neg e] at h
    rw [if_neg (fun x => e (hv.2 x))] at h'
    rw [h, h']
theorem near_same {b : BV} {c : Int} {t : List Nat} {rows turns : Int} {r r' : AV} (h : nearP b c t rows turns r) (h' : nearP b c t rows turns r') : r = r' ∧ ∃ z q, r = .tup [i z, bo q] := by
  unfold nearP at h h'
  by_cases e : nearQ b c t rows turns = true
  · rw [if_pos e] at h h'
    obtain ⟨gs, h1, h2⟩ := h
    obtain ⟨gs', h1', h2'⟩ := h'
    exact ⟨chk_same (h1.trans h1'.symm) h2 h2', chk_pu h2⟩
  · rw [if_neg e] at h h'
    exact ⟨h.trans h'.symm, _, _, h⟩

end Go.Proofs.Nt
/- Books: the document's Fade, Join. -/
set_option linter.unusedVariables false
set_option maxRecDepth 20000
set_option linter.unusedSimpArgs false
set_option linter.unnecessarySimpa false
namespace Go.Proofs.Nt
open Go Go.Proofs Go.Proofs.Va Go.RowKit

end Go.Proofs.Nt
/- Books: the document's Ridge. -/
set_option linter.unusedVariables false
set_option maxRecDepth 20000
set_option linter.unusedSimpArgs false
set_option linter.unnecessarySimpa false
namespace Go.Proofs.Nt
open Go Go.Proofs Go.Proofs.Va Go.RowKit

end Go.Proofs.Nt
/- LedgerMoves. -/
set_option linter.unusedVariables false
set_option maxRecDepth 20000
set_option linter.unusedSimpArgs false
set_option linter.unnecessarySimpa false
namespace Go.Proofs.Nt
open Go Go.Proofs Go.Proofs.Va Go.RowKit

end Go.Proofs.Nt
