/- The naturals: slices.Backward. -/
import Derived.Test.YtmfnjmcgmogncaaVn1
set_option linter.unusedVariables false
set_option maxRecDepth 20000
set_option linter.unusedSimpArgs false
namespace Go.Proofs.Nt
open Go Go.Proofs Go.Proofs.Va

theorem w64 (x : Int) (h1 : -9223372036854775808 ≤ x) (h2 : x ≤ 9223372036854775807) : IntKind.i64.wrap x = x := IntWalk.i64_in _ ⟨h1, h2⟩

theorem backward_call {x : AV} {σ : AHeap} {K : AV → AHeap → Prop} (hx : cellsOf x = some [x]) (h : K (.fn (.func 83) [] [.po σ.length 0 0]) (σ ++ [⟨.own, 0, [x]⟩])) : ACall Try.prog 65 [x] σ K := by
  refine acall_in Try.func65 rfl (by kernel_rfl) rfl ?_
  simp [Try.f65, -cellsOf, hx]
  exact h

theorem back_iter_pl {nl : Bool} {a : List Nat} {cap : Option Nat} {b : Nat} {σ : AHeap} {Y : List AV → AHeap → (AHeap → Prop) → (Exit → AHeap → Prop) → Prop} {D : AHeap → Prop} {X : Exit → AHeap → Prop}
    (hn : a.length ≤ 1000000) (Inv : Nat → AHeap → Prop) (h0 : Inv 0 σ) (hb : ∀ k σ', Inv k σ' → σ'[b]? = some ⟨.own, 0, [sl nl a cap]⟩) (hy : ∀ k σ' (h : k < a.length), Inv k σ' → ∀ Kt : AHeap → Prop, (∀ σ2, Inv (k + 1) σ2 → Kt σ2) → Y [i ((a.length - 1 - k : Nat) : Int), dg (a[a.length - 1 - k]'(by omega))] σ' Kt X)
    (hd : ∀ σ', Inv a.length σ' → D σ') : AIter Try.prog 83 [.po b 0 0] σ Y D X := by
  refine aiter_in Try.func83 rfl rfl rfl fun l => ?_
  have hb0 := hb 0 σ h0; unfold sl at hb0
  have hw0 : IntKind.i64.wrap ((a.length : Int) - 1) = (a.length : Int) - 1 := w64 _ (by omega) (by omega)
  refine awi_seq (awi_reg ?_)
  simp [argT, Try.f83, hb0, hw0]
  refine awi_block (awi_loop_on (γ := Nat × AHeap) 19 (fun g => [(0, .fn (.yield l) [] []), (1, .po b 0 0), (3, .v (.int .i64 ((a.length : Int) - 1 - g.1)))]) (fun g => g.2)
    (fun g => g.1 ≤ a.length ∧ Inv g.1 g.2) (fun g => a.length - g.1) (0, σ) ⟨Nat.zero_le _, h0⟩ rfl (by simp) ?_)
  rintro ⟨k, σ1⟩ ⟨hk, hI⟩ L hL
  have hk : k ≤ a.length := hk
  have hI : Inv k σ1 := hI
  have hbk := hb k σ1 hI
  unfold sl at hbk
  refine awi_seq (awi_seq (awi_reg ?_))
  simp
  by_cases hka : k < a.length
  · have e : (a.length : Int) - 1 - k = ((a.length - 1 - k : Nat) : Int) := by omega
    refine awi_cond (q := true) (by simp; omega) (fun _ => awi_skip ?_) (fun h => by cases h)
    simp
    refine awi_seq (awi_block (awi_yield_at 6 rfl rfl rfl rfl rfl rfl rfl rfl ?_))
    rw [e]
    have hlt : a.length - 1 - k < a.length := by omega
    simp [hbk, hlt]
    refine hy k σ1 hka hI _ fun σ2 hI2 => ?_
    simp [put_lst]
    refine awi_reg ?_
    have hw1 : IntKind.i64.wrap (((a.length - 1 - k : Nat) : Int) - 1) = (a.length : Int) - 1 - (k + 1 : Nat) := by rw [w64 _ (by omega) (by omega)]; omega
    simp [hw1]
    exact hL (k + 1, σ2) _ _ ⟨by show k + 1 ≤ a.length; omega, hI2⟩ rfl (by simp) (by show a.length - (k + 1) < a.length - k; omega)
  · refine awi_cond (q := false) (by simp; omega) (fun h => by cases h) (fun _ => awi_exit ?_)
    simp
    have : k = a.length := by omega
    subst this
    exact hd _ hI

theorem back_iter_so {j v : Nat} {a : List Nat} {cap : Option Nat} {more : List AV} {b : Nat} {σ : AHeap} {Y : List AV → AHeap → (AHeap → Prop) → (Exit → AHeap → Prop) → Prop} {D : AHeap → Prop} {X : Exit → AHeap → Prop}
    (hn : a.length ≤ 1000000) (Inv : Nat → AHeap → Prop) (h0 : Inv 0 σ) (hb : ∀ k σ', Inv k σ' → σ'[b]? = some ⟨.own, 0, [.so j v 0 a.length 1 cap]⟩ ∧ σ'[j]? = some ⟨.own, v, a.map dg ++ more⟩) (hy : ∀ k σ' (h : k < a.length), Inv k σ' → ∀ Kt : AHeap → Prop, (∀ σ2, Inv (k + 1) σ2 → Kt σ2) → Y [i ((a.length - 1 - k : Nat) : Int), dg (a[a.length - 1 - k]'(by omega))] σ' Kt X)
    (hd : ∀ σ', Inv a.length σ' → D σ') : AIter Try.prog 83 [.po b 0 0] σ Y D X := by
  refine aiter_in Try.func83 rfl rfl rfl fun l => ?_
  obtain ⟨hb0, hj0⟩ := hb 0 σ h0
  have hw0 : IntKind.i64.wrap ((a.length : Int) - 1) = (a.length : Int) - 1 := w64 _ (by omega) (by omega)
  refine awi_seq (awi_reg ?_)
  simp [argT, Try.f83, hb0, hj0, hw0]
  refine awi_block (awi_loop_on (γ := Nat × AHeap) 19 (fun g => [(0, .fn (.yield l) [] []), (1, .po b 0 0), (3, .v (.int .i64 ((a.length : Int) - 1 - g.1)))]) (fun g => g.2)
    (fun g => g.1 ≤ a.length ∧ Inv g.1 g.2) (fun g => a.length - g.1) (0, σ) ⟨Nat.zero_le _, h0⟩ rfl (by simp) ?_)
  rintro ⟨k, σ1⟩ ⟨hk, hI⟩ L hL
  have hk : k ≤ a.length := hk
  have hI : Inv k σ1 := hI
  obtain ⟨hbk, hjk⟩ := hb k σ1 hI
  refine awi_seq (awi_seq (awi_reg ?_))
  simp
  by_cases hka : k < a.length
  · have e : (a.length : Int) - 1 - k = ((a.length - 1 - k : Nat) : Int) := by omega
    refine awi_cond (q := true) (by simp; omega) (fun _ => awi_skip ?_) (fun h => by cases h)
    simp
    refine awi_seq (awi_block (awi_yield_at 6 rfl rfl rfl rfl rfl rfl rfl rfl ?_))
    rw [e]
    have hlt : a.length - 1 - k < a.length := by omega
    simp [hbk, hjk, hlt, List.getElem?_append_left (show a.length - 1 - k < (a.map dg).length by simpa using hlt)]
    refine hy k σ1 hka hI _ fun σ2 hI2 => ?_
    simp [put_lst]
    refine awi_reg ?_
    have hw1 : IntKind.i64.wrap (((a.length - 1 - k : Nat) : Int) - 1) = (a.length : Int) - 1 - (k + 1 : Nat) := by rw [w64 _ (by omega) (by omega)]; omega
    simp [hw1]
    exact hL (k + 1, σ2) _ _ ⟨by show k + 1 ≤ a.length; omega, hI2⟩ rfl (by simp) (by show a.length - (k + 1) < a.length - k; omega)
  · refine awi_cond (q := false) (by simp; omega) (fun h => by cases h) (fun _ => awi_exit ?_)
    simp
    have : k = a.length := by omega
    subst this
    exact hd _ hI
end Go.Proofs.Nt
