/- The naturals: the document's Trim, Same; scale. -/
import Derived.Test.YtmfnjmcgmogncaaVn5
set_option linter.unusedVariables false
set_option maxRecDepth 20000
set_option linter.unusedSimpArgs false
namespace Go.Proofs.Nt
open Go Go.Proofs Go.Proofs.Va

theorem trim_take' {a : List Nat} {k : Nat} (hk : k ≤ a.length) (hx : ∀ (h : 0 < k), a[k - 1] ≠ 0) (h : ∀ j (hj : j < a.length), k ≤ j → a[j] = 0) : trimL a = a.take k := by
  rcases Nat.eq_zero_or_pos k with h0 | h0
  · subst h0; rw [trim_zeros (fun j hj => h j hj (Nat.zero_le _))]; simp
  · have := trim_take (a := a) (k := k - 1) (by omega) (hx h0) (fun j hj hkj => h j hj (by omega))
    rwa [show k - 1 + 1 = k by omega] at this

theorem isSl_so {σ : AHeap} {S : Nat → Prop} {j v off n : Nat} {cap : Option Nat} {b : ABlk} {a : List Nat} (hb : σ[j]? = some b) (hk : b.kind ≠ .dead) (hn : n = a.length) (ho : off ≤ b.cells.length) (h : ∀ l (hl : l < a.length), b.cells[off + l]? = some (dg a[l])) (hv : b.ver = v := by rfl) (hS : S j := by trivial) :
    Pur σ S (.so j v off n 1 cap) (sl false a cap) := by
  have hlen : off + a.length ≤ b.cells.length := by
    rcases Nat.eq_zero_or_pos a.length with h0 | h0
    · omega
    · have := (List.getElem?_eq_some_iff.1 (h (a.length - 1) (by omega))).1; omega
  subst hn
  refine .so j v off a.length 1 cap b _ hb hv hk hS (by omega) (by simp) fun l hl => ?_
  simp only [List.length_map] at hl
  have := h l hl
  rw [List.getD_eq_getElem?_getD, this]
  simp

theorem rtrim_ctr (nl : Bool) (a : List Nat) (cap : Option Nat) (hl : a.length ≤ 1000000) : Ctr Try.prog 66 [sl nl a cap] (Told (trimL a)) := by
  refine ctr_in Try.func66 rfl (by kernel_rfl) rfl fun K hK => ?_
  simp [Try.f66, sl]
  refine loop_on (γ := Nat) 23 (fun k => [(0, sl nl a cap), (3, i k)]) (fun k => []) (fun k => k ≤ a.length ∧ ∀ j (hj : j < a.length), k ≤ j → a[j] = 0) (fun k => k)
    a.length ⟨Nat.le_refl _, fun j hj h => by omega⟩ (Wk.lst (by simp [sl]) (by simp)) ?_
  rintro k ⟨hk, hz⟩ L hL
  have fin : (∀ (h : 0 < k), a[k - 1] ≠ 0) → (aAppend Try.prog 23 23 (.so 0 0 0 0 1 (some 0)) (.pl (nl && a.isEmpty) ((a.map dg).take k) k cap) ([⟨.own, 0, []⟩] : AHeap) K) := by
    intro hx
    rw [trim_take' hk hx hz] at hK
    have hlk : (a.take k).length = k := by simp; omega
    simp [hk]
    refine ⟨by omega, ite_and.2 ⟨fun h => ?_, fun h c hc => ?_⟩⟩
    · refine hK _ _ _ (isSl_so (a := a.take k) rfl (fun h => by cases h) (by simp; omega) (by simp) (fun l hl => ?_)) ⟨false, none, rfl⟩
      simp at hl; omega
    · refine hK _ _ _ (isSl_so (a := a.take k) rfl (fun h => by cases h) (by simp; omega) (by simp) (fun l hl => ?_)) ⟨false, some c, rfl⟩
      simp only [List.length_take] at hl
      have hja : l < a.length := by omega
      have hjk : l < k := by omega
      simp [List.getElem?_append, hja, hjk]
      intro h; omega
  rcases Nat.eq_zero_or_pos k with h0 | h0
  · subst h0
    have := fin (fun h => absurd h (by omega))
    simp [sl] at this ⊢
    exact this
  · have hkk : k - 1 < a.length := by omega
    have e : IntKind.i64.wrap ((k : Int) - 1) = ((k - 1 : Nat) : Int) := by rw [w64 _ (by omega) (by omega)]; omega
    by_cases hx : a[k - 1] = 0
    · simp [h0, e, sl, hkk, hx]
      refine hL (k - 1) _ _ ⟨by omega, fun j hj h => ?_⟩ (Wk.lst (by simp [sl]) (by simp)) (by omega)
      by_cases hjk : k ≤ j
      · exact hz j hj hjk
      · have : j = k - 1 := by omega
        subst this; exact hx
    · have := fin (fun _ => hx)
      simp [h0, e, sl, hkk, hx] at this ⊢
      exact ⟨hk, this⟩
end Go.Proofs.Nt
