/- VA, part 13: a region that draws its order. First: which operations answer one thing and leave the heap as it is. -/
import Derived.Test.YtmfnjmcgmogncaaVa12
import Derived.OrdersIn
set_option linter.unusedVariables false
set_option linter.unusedSimpArgs false
namespace Go.Proofs.Va
open Go Go.RowKit

def light : Op → Bool
  | .move _ | .assign _ | .pick .. | .build .. | .load .. | .nilCheck _ | .binOp .. | .unOp .. | .convert .. | .makeInterface .. | .makeFunc .. | .slice .. | .fieldAddr .. | .field .. | .indexAddr .. | .index .. | .extract .. => true
  | .call c => match c.callee with
    | .builtin b => match b with
      | .len | .cap | .max | .min => true
      | _ => false
    | _ => false
  | _ => false

/-- It answers one thing, and leaves the heap as it is. -/
def Det (σ : AHeap) (A : (AV → AHeap → Prop) → Prop) : Prop := ∀ K, A K → ∃ r, K r σ ∧ ∀ K' : AV → AHeap → Prop, A K' ↔ K' r σ

section
variable {P : Program} {σ : AHeap}

theorem det_read {t : TypeId} {cs : List AV} {off : Nat} {K : AV → Prop} (h : aRead P t cs off K) : ∃ r, K r ∧ ∀ K', aRead P t cs off K' ↔ K' r := by
  unfold aRead at h ⊢
  split at h
  · rename_i ha
    split at h
    · rename_i n hn; exact ⟨_, h.2, fun K' => ⟨fun h' => h'.2, fun hK => ⟨h.1, hK⟩⟩⟩
    · exact h.elim
  · rename_i ha
    split at h
    · rename_i x hx; exact ⟨_, h, fun K' => ⟨fun h' => h', fun hK => hK⟩⟩
    · exact h.elim
  · exact h.elim

theorem det_load (t : TypeId) (x : AV) : Det σ (aLoad P t x σ) := by
  intro K h
  unfold aLoad at h ⊢
  split at h
  · split at h
    · rename_i b hb
      obtain ⟨h1, h2, h3⟩ := h
      obtain ⟨r, q1, q2⟩ := det_read h3
      exact ⟨r, q1, fun K' => ⟨fun h' => (q2 _).1 h'.2.2, fun hK => ⟨h1, h2, (q2 _).2 hK⟩⟩⟩
    · exact h.elim
  · obtain ⟨r, q1, q2⟩ := det_read h
    exact ⟨r, q1, fun K' => q2 _⟩
  · exact h.elim

theorem det_build (t : TypeId) (ps : List (Nat × AV)) : Det σ (aBuild P t ps σ) := by
  intro K h
  unfold aBuild at h ⊢
  split at h
  · rename_i a b h1 h2
    split at h
    · rename_i cs hcs; exact ⟨_, h, fun K' => ⟨fun h' => h', fun hK => hK⟩⟩
    · exact h.elim
  · exact h.elim

theorem det_nil (x : AV) : Det σ (aNil x σ) := by
  intro K h
  unfold aNil at h ⊢
  split at h
  · split at h
    · rename_i b hb; exact ⟨_, h.2.2, fun K' => ⟨fun h' => h'.2.2, fun hK => ⟨h.1, h.2.1, hK⟩⟩⟩
    · exact h.elim
  · exact ⟨_, h, fun K' => ⟨fun h' => h', fun hK => hK⟩⟩
  · exact ⟨_, h, fun K' => ⟨fun h' => h', fun hK => hK⟩⟩
  · exact ⟨_, h, fun K' => ⟨fun h' => h', fun hK => hK⟩⟩
  · exact h.elim

theorem det_bin (op : BinOp) (t : TypeId) (x y : AV) : Det σ (aBin P op t x y σ) := by
  intro K h
  unfold aBin at h ⊢
  split at h
  · split at h
    · rename_i hs
      split at h
      · rename_i r hr; exact ⟨_, h, fun K' => by rw [if_pos hs]⟩
      · exact h.elim
    · rename_i hs
      obtain ⟨h1, h⟩ := h
      split at h
      · rename_i r hr; exact ⟨_, h, fun K' => by rw [if_neg hs]; exact ⟨fun h' => h'.2, fun hK => ⟨h1, hK⟩⟩⟩
      · exact h.elim
  · split at h
    · rename_i r hr; exact ⟨_, h, fun K' => ⟨fun h' => h', fun hK => hK⟩⟩
    · exact h.elim
  · obtain ⟨h1, h⟩ := h
    split at h
    · exact ⟨_, h, fun K' => ⟨fun h' => h'.2, fun hK => ⟨h1, hK⟩⟩⟩
    · exact ⟨_, h, fun K' => ⟨fun h' => h'.2, fun hK => ⟨h1, hK⟩⟩⟩
    · exact h.elim
  · obtain ⟨h1, h⟩ := h
    split at h
    · exact ⟨_, h, fun K' => ⟨fun h' => h'.2, fun hK => ⟨h1, hK⟩⟩⟩
    · exact ⟨_, h, fun K' => ⟨fun h' => h'.2, fun hK => ⟨h1, hK⟩⟩⟩
    · exact h.elim
  · exact h.elim

theorem det_un (op : UnOp) (x : AV) : Det σ (aUn op x σ) := by
  intro K h
  unfold aUn at h ⊢
  split at h <;> first | exact ⟨_, h, fun K' => ⟨fun h' => h', fun hK => hK⟩⟩ | exact h.elim

theorem det_conv (s d : TypeId) (x : AV) : Det σ (aConv P s d x σ) := by
  intro K h
  unfold aConv at h ⊢
  obtain ⟨h1, h⟩ := h
  split at h <;> first
    | exact h.elim
    | (rename_i hd; exact ⟨_, h, fun K' => ⟨fun h' => h'.2, fun hK => ⟨h1, hK⟩⟩⟩)

theorem det_slice (t : TypeId) (x : AV) (lo hi mx : Option AV) : Det σ (aSlice P t x lo hi mx σ) := by
  intro K h
  unfold aSlice at h ⊢
  split at h
  · split at h
    · rename_i h1 h2 h3; exact ⟨_, h.2, fun K' => ⟨fun h' => h'.2, fun hK => ⟨h.1, hK⟩⟩⟩
    · rename_i h1 h2 h3; exact ⟨_, h.2.2, fun K' => ⟨fun h' => h'.2.2, fun hK => ⟨h.1, h.2.1, hK⟩⟩⟩
    · exact h.elim
  · split at h
    · rename_i h1 h2 h3 h4; exact ⟨_, h.2.2.2.2.2, fun K' => ⟨fun h' => h'.2.2.2.2.2, fun hK => ⟨h.1, h.2.1, h.2.2.1, h.2.2.2.1, h.2.2.2.2.1, hK⟩⟩⟩
    · rename_i h1 h2 h3 h4; exact ⟨_, h.2.2.2.2.2.2, fun K' => ⟨fun h' => h'.2.2.2.2.2.2, fun hK => ⟨h.1, h.2.1, h.2.2.1, h.2.2.2.1, h.2.2.2.2.1, h.2.2.2.2.2.1, hK⟩⟩⟩
    · exact h.elim
  · split at h
    · rename_i h1 h2; exact ⟨_, h.2.2, fun K' => ⟨fun h' => h'.2.2, fun hK => ⟨h.1, h.2.1, hK⟩⟩⟩
    · exact h.elim
  · exact h.elim

theorem det_fieldAddr (s : TypeId) (x : AV) (f : Nat) : Det σ (aFieldAddr P s x f σ) := by
  intro K h
  unfold aFieldAddr at h ⊢
  split at h
  · rename_i hf
    split at h
    · split at h
      · rename_i b hb; exact ⟨_, h.2.2, fun K' => ⟨fun h' => h'.2.2, fun hK => ⟨h.1, h.2.1, hK⟩⟩⟩
      · exact h.elim
    · exact ⟨_, h, fun K' => ⟨fun h' => h', fun hK => hK⟩⟩
    · exact h.elim
  · exact h.elim

theorem det_field (s : TypeId) (x : AV) (f : Nat) : Det σ (aField P s x f σ) := by
  intro K h
  unfold aField at h ⊢
  split at h
  · rename_i hf
    split at h
    · obtain ⟨r, q1, q2⟩ := det_read h
      exact ⟨r, q1, fun K' => q2 _⟩
    · exact h.elim
  · exact h.elim

theorem det_indexAddr (t : TypeId) (x ix : AV) : Det σ (aIndexAddr P t x ix σ) := by
  intro K h
  unfold aIndexAddr at h ⊢
  split at h
  · split at h
    · split at h
      · rename_i h1; exact ⟨_, h.2.2, fun K' => ⟨fun h' => h'.2.2, fun hK => ⟨h.1, h.2.1, hK⟩⟩⟩
      · exact h.elim
    · split at h
      · rename_i h1 h2; exact ⟨_, h.2.2.2, fun K' => ⟨fun h' => h'.2.2.2, fun hK => ⟨h.1, h.2.1, h.2.2.1, hK⟩⟩⟩
      · exact h.elim
    · split at h
      · rename_i h1 h2; exact ⟨_, h.2.2.2, fun K' => ⟨fun h' => h'.2.2.2, fun hK => ⟨h.1, h.2.1, h.2.2.1, hK⟩⟩⟩
      · exact h.elim
    · split at h
      · rename_i h1; exact ⟨_, h.2, fun K' => ⟨fun h' => h'.2, fun hK => ⟨h.1, hK⟩⟩⟩
      · exact h.elim
    · exact h.elim
  · exact h.elim

theorem det_index (t : TypeId) (x ix : AV) : Det σ (aIndex P t x ix σ) := by
  intro K h
  unfold aIndex at h ⊢
  split at h
  · split at h
    · split at h
      · rename_i h1
        obtain ⟨h2, h⟩ := h
        obtain ⟨r, q1, q2⟩ := det_read h
        exact ⟨r, q1, fun K' => ⟨fun h' => (q2 _).1 h'.2, fun hK => ⟨h2, (q2 _).2 hK⟩⟩⟩
      · exact h.elim
    · obtain ⟨h1, h2, h⟩ := h
      split at h
      · rename_i b hb; exact ⟨_, h, fun K' => ⟨fun h' => h'.2.2, fun hK => ⟨h1, h2, hK⟩⟩⟩
      · exact h.elim
    · exact h.elim
  · exact h.elim

theorem det_extract (x : AV) (i : Nat) : Det σ (aExtract x i σ) := by
  intro K h
  unfold aExtract at h ⊢
  split at h
  · split at h
    · rename_i y hy; exact ⟨_, h, fun K' => ⟨fun h' => h', fun hK => hK⟩⟩
    · exact h.elim
  · exact h.elim

theorem det_len (t : TypeId) (x : AV) : Det σ (aLen P t x σ) := by
  intro K h
  unfold aLen at h ⊢
  split at h
  · rename_i h1; exact ⟨_, h, fun K' => ⟨fun h' => h', fun hK => hK⟩⟩
  · rename_i h1
    split at h
    · rename_i b hb; exact ⟨_, h.2.2, fun K' => ⟨fun h' => h'.2.2, fun hK => ⟨h.1, h.2.1, hK⟩⟩⟩
    · exact h.elim
  · rename_i h1; exact ⟨_, h, fun K' => ⟨fun h' => h', fun hK => hK⟩⟩
  · rename_i h1; exact ⟨_, h, fun K' => ⟨fun h' => h', fun hK => hK⟩⟩
  · exact h.elim

theorem det_cap (t : TypeId) (x : AV) : Det σ (aCap P t x σ) := by
  intro K h
  unfold aCap at h ⊢
  split at h
  · rename_i h1; exact ⟨_, h, fun K' => ⟨fun h' => h', fun hK => hK⟩⟩
  · rename_i h1
    split at h
    · rename_i b hb; exact ⟨_, h.2.2, fun K' => ⟨fun h' => h'.2.2, fun hK => ⟨h.1, h.2.1, hK⟩⟩⟩
    · exact h.elim
  · exact h.elim

theorem det_max (x y : AV) : Det σ (aMax x y σ) := by
  intro K h
  unfold aMax at h ⊢
  split at h <;> first | exact ⟨_, h, fun K' => ⟨fun h' => h', fun hK => hK⟩⟩ | exact h.elim
theorem det_min (x y : AV) : Det σ (aMin x y σ) := by
  intro K h
  unfold aMin at h ⊢
  split at h <;> first | exact ⟨_, h, fun K' => ⟨fun h' => h', fun hK => hK⟩⟩ | exact h.elim

theorem det_light {op : Op} (hl : light op = true) (t : List AV) : Det σ (aop P op t σ) := by
  cases op <;> simp only [light] at hl <;> (try cases hl)
  case move x => exact fun K h => ⟨_, h, fun K' => ⟨fun h' => h', fun hK => hK⟩⟩
  case assign x => exact fun K h => ⟨_, h, fun K' => ⟨fun h' => h', fun hK => hK⟩⟩
  case pick c x y =>
    intro K h
    simp only [aop] at h ⊢
    split at h
    · rename_i q hq
      cases q with
      | true => exact ⟨_, (iteB.1 h).1 rfl, fun K' => ⟨fun h' => (iteB.1 h').1 rfl, fun hK => iteB.2 ⟨fun _ => hK, (fun hh => by cases hh)⟩⟩⟩
      | false => exact ⟨_, (iteB.1 h).2 rfl, fun K' => ⟨fun h' => (iteB.1 h').2 rfl, fun hK => iteB.2 ⟨(fun hh => by cases hh), fun _ => hK⟩⟩⟩
    · exact h.elim
  case build => exact det_build _ _
  case load => exact det_load _ _
  case nilCheck => exact det_nil _
  case binOp => exact det_bin _ _ _ _
  case unOp => exact det_un _ _
  case convert => exact det_conv _ _ _
  case makeInterface => exact fun K h => ⟨_, h.2, fun K' => ⟨fun h' => h'.2, fun hK => ⟨h.1, hK⟩⟩⟩
  case makeFunc => exact fun K h => ⟨_, h, fun K' => ⟨fun h' => h', fun hK => hK⟩⟩
  case slice => exact det_slice _ _ _ _ _
  case fieldAddr => exact det_fieldAddr _ _ _
  case field => exact det_field _ _ _
  case indexAddr => exact det_indexAddr _ _ _
  case index => exact det_index _ _ _
  case extract => exact det_extract _ _
  case call c =>
    intro K h
    simp only [aop, aCallOp] at h ⊢
    split at hl
    · rename_i b hb
      simp only [hb] at h ⊢
      have key : ∀ (b : Builtin), (match b with
          | .len | .cap | .max | .min => true
          | _ => false) = true → ∀ (ts : Array TypeId) (args : List AV), aBuiltin P b ts args σ K → ∃ r, K r σ ∧ ∀ K', aBuiltin P b ts args σ K' ↔ K' r σ := by
        intro b hl ts args h
        revert hl
        unfold aBuiltin at h ⊢
        split at h <;> intro hl
        · exact det_len _ _ K h
        · exact det_cap _ _ K h
        · cases hl
        · cases hl
        · exact det_max _ _ K h
        · exact det_min _ _ K h
        · exact h.elim
      exact key b hl _ _ h
    · cases hl
end
end Go.Proofs.Va
