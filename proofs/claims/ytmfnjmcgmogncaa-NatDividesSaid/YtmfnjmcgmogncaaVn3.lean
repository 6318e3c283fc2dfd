/- The naturals: digits are laid, and told as a number. -/
import Derived.Test.YtmfnjmcgmogncaaVm1
set_option linter.unusedVariables false
set_option maxRecDepth 20000
set_option linter.unusedSimpArgs false
namespace Go.Proofs.Nt
open Go Go.Proofs Go.Proofs.Va

/-- The digits a lie in the list of the struct in block d. -/
inductive DS (σ : AHeap) (d : Nat) : List Nat → Prop
  | nil : σ[d]? = some ⟨.own, 0, [.pl true [] 0 (some 0)]⟩ → DS σ d []
  | so (j v : Nat) (a : List Nat) : σ[d]? = some ⟨.own, 0, [.so j v 0 a.length 1 none]⟩ → σ[j]? = some ⟨.own, v, a.map dg⟩ → j ≠ d → DS σ d a

@[simp] theorem aggT61 : aggT Try.prog 83 = some false := by kernel_rfl
attribute [simp] jumps

/-- The like, for what is only read. -/
inductive DN (σ : AHeap) (d : Nat) : List Nat → Prop
  | nil : σ[d]? = some ⟨.own, 0, [.pl true [] 0 (some 0)]⟩ → DN σ d []
  | so (j v : Nat) (a : List Nat) (cap : Option Nat) (more : List AV) : σ[d]? = some ⟨.own, 0, [.so j v 0 a.length 1 cap]⟩ → σ[j]? = some ⟨.own, v, a.map dg ++ more⟩ → j ≠ d → a.length ≤ cap.getD a.length → DN σ d a

theorem DS.dn {σ : AHeap} {d : Nat} {a : List Nat} (h : DS σ d a) : DN σ d a := by
  cases h with
  | nil h => exact .nil h
  | so j v a h hj hjd => exact .so j v a none [] h (by simpa using hj) hjd (by simp)

theorem w32 (x : Nat) : IntKind.u32.wrap (x : Int) = ((x % 4294967296 : Nat) : Int) := by rw [IntKind.wrap_u32]; omega

theorem lay_call {σ : AHeap} {d : Nat} {a : List Nat} {x : Nat} {K : AV → AHeap → Prop} (hd : DS σ d a) (ha : a.length ≤ 1000000) (hK : ∀ σ', DS σ' d (a ++ [x % 4294967296]) → K (u (x / 4294967296)) σ') : ACall Try.prog 67 [.po d 0 0, u x] σ K := by
  refine acall_in Try.func67 rfl (by kernel_rfl) rfl ?_
  cases hd with
  | nil h =>
    have hlt := (List.getElem?_eq_some_iff.1 h).1
    simp [Try.f67, h, w32, List.getElem?_append_left hlt]
    have := hK _ (.so (σ.length + 1) 0 [x % 4294967296] (σ := (σ ++ ([⟨.own, 0, [dg (x % 4294967296)]⟩, ⟨.own, 0, [dg (x % 4294967296)]⟩] : AHeap)).set d ⟨.own, 0, [.so (σ.length + 1) 0 0 1 1 none]⟩) (d := d)
      (by rw [List.getElem?_set_self (by simp; omega)]; rfl) (by rw [List.getElem?_set_ne (by omega)]; simp) (by omega))
    simpa using this
  | so j v a h hj hjd =>
    have hlt := (List.getElem?_eq_some_iff.1 h).1
    have hltj := (List.getElem?_eq_some_iff.1 hj).1
    simp [Try.f67, h, hj, w32, List.getElem?_append_left hlt, List.getElem?_append_left hltj, hjd, Ne.symm hjd]
    refine ⟨by omega, ?_⟩
    have := hK _ (.so j (v + 1) (a ++ [x % 4294967296]) (σ := (List.set (σ ++ ([⟨.own, 0, [dg (x % 4294967296)]⟩] : AHeap)) j ⟨.own, v + 1, a.map dg ++ [dg (x % 4294967296)]⟩).set d ⟨.own, 0, [.so j (v + 1) 0 (a.length + 1) 1 none]⟩) (d := d)
      (by rw [List.getElem?_set_self (by simp; omega)]; simp) (by rw [List.getElem?_set_ne (Ne.symm hjd), List.getElem?_set_self (by simp; omega)]; simp) hjd)
    have e : List.take a.length (List.map dg a) = List.map dg a := List.take_of_length_le (by simp)
    rw [e]
    simpa using this

/-- The answer is a slice of these digits. -/
def IsSl (σ : AHeap) (r : AV) (a : List Nat) : Prop := ∃ nl cap, Pur σ (fun _ => True) r (sl nl a cap)

theorem number_call {σ : AHeap} {d : Nat} {a : List Nat} {K : AV → AHeap → Prop} (hd : DN σ d a) (ha : a.length ≤ 1000000) (hK : ∀ r σ', IsSl σ' r (trimL a) → K r σ') : ACall Try.prog 68 [.po d 0 0] σ K := by
  refine acall_in Try.func68 rfl (by kernel_rfl) rfl ?_
  cases hd with
  | nil h =>
    have hlt := (List.getElem?_eq_some_iff.1 h).1
    simp [Try.f68, h, List.getElem?_append_left hlt]
    refine backward_call rfl ?_
    simp
    refine range_on (lb := [.po (σ.length + 2) 0 0]) (by simp) Try.func83 rfl (by kernel_rfl) ?_
    refine back_iter_pl (nl := true) (a := []) (cap := some 0) (by simp) (fun k σ' => σ' = σ ++ ([⟨.own, 0, [.po d 0 0]⟩, ⟨.own, 0, [.pl true [] 0 (some 0)]⟩, ⟨.own, 0, [.pl true [] 0 (some 0)]⟩] : AHeap)) (by simp) ?_ ?_ ?_
    · rintro k _ rfl; simp [sl]
    · intro k σ' hk; simp at hk
    · rintro _ rfl
      simp
      exact hK _ _ ⟨true, some 0, by simp [sl, trimL]⟩
  | so j v a cap more h hj hjd hcap =>
    have hlt := (List.getElem?_eq_some_iff.1 h).1
    have hltj := (List.getElem?_eq_some_iff.1 hj).1
    simp [Try.f68, h, hj, List.getElem?_append_left hlt, List.getElem?_append_left hltj]
    refine backward_call rfl ?_
    simp
    refine range_on (lb := [.po (σ.length + 2) 0 0]) (by simp) Try.func83 rfl (by kernel_rfl) ?_
    refine back_iter_so (j := j) (v := v) (a := a) (cap := cap) (more := more) ha (fun k σ' => σ' = σ ++ ([⟨.own, 0, [.po d 0 0]⟩, ⟨.own, 0, [.pl true [] 0 (some 0)]⟩, ⟨.own, 0, [.so j v 0 a.length 1 cap]⟩] : AHeap) ∧ ∀ l (hl : l < a.length), a.length - k ≤ l → a[l] = 0) ?_ ?_ ?_ ?_
    · simp; omega
    · rintro k _ ⟨rfl, _⟩; simp [hj, List.getElem?_append_left hltj]
    · rintro k _ hk ⟨rfl, hz⟩ Kt hKt
      simp [bodyW, h, hj, List.getElem?_append_left hlt, List.getElem?_append_left hltj]
      have e : (((a.length - 1 - k : Nat) : Int) + 1) = ((a.length - k : Nat) : Int) := by omega
      rw [e, w64 _ (by omega) (by omega)]
      refine ite_and.2 ⟨fun hx => hKt _ ⟨rfl, ?_⟩, fun hx => ⟨⟨by omega, by omega⟩, ?_⟩⟩
      rotate_left
      · have ht : trimL a = a.take (a.length - 1 - k + 1) := trim_take (k := a.length - 1 - k) (by omega) hx (fun l hl hkl => hz l hl (by omega))
        rw [show a.length - 1 - k + 1 = a.length - k by omega] at ht
        refine ⟨hcap, hK _ _ ⟨false, cap, ?_⟩⟩
        rw [ht]
        have e2 : sl false (a.take (a.length - k)) cap = .pl false ((a.map dg).take (a.length - k)) (a.length - k) cap := by
          simp [sl, List.map_take]
        rw [e2]
        refine .so j v 0 (a.length - k) 1 cap ⟨.own, v, a.map dg ++ more⟩ _ (by simp [List.getElem?_append_left hltj, hj]) rfl (fun h => by cases h) trivial (by simp; omega) (by simp) fun l hl => ?_
        simp at hl
        have hla : l < a.length := by omega
        have hlk : l < a.length - k := by omega
        simp [hla, hlk, List.getElem?_append_left (show l < (a.map dg).length by simpa using hla)]
      · intro l hl hkl
        by_cases hlk : a.length - k ≤ l
        · exact hz l hl hlk
        · have : l = a.length - 1 - k := by omega
          subst this; exact hx
    · rintro _ ⟨rfl, hz⟩
      simp
      exact hK _ _ ⟨true, some 0, by simp [sl, trim_zeros (fun k hk => hz k hk (by omega))]⟩
end Go.Proofs.Nt
