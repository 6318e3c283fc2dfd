/- The naturals: trim, From, Check. -/
import Derived.Test.YtmfnjmcgmogncaaVn3
set_option linter.unusedVariables false
set_option maxRecDepth 20000
set_option linter.unusedSimpArgs false
namespace Go.Proofs.Nt
open Go Go.Proofs Go.Proofs.Va

/-- An own slice of these digits, in a block from n on; or nil. -/
inductive Own (σ : AHeap) (n : Nat) (r : AV) (a : List Nat) : Prop
  | nil : r = .pl true [] 0 (some 0) → a = [] → Own σ n r a
  | so (j v : Nat) (cap : Option Nat) (more : List AV) : r = .so j v 0 a.length 1 cap → σ[j]? = some ⟨.own, v, a.map dg ++ more⟩ → n ≤ j →
      (cap = none ∧ more = []) ∨ (∃ c, cap = some c ∧ a.length ≤ c ∧ more = List.replicate (c - a.length) (dg 0)) → Own σ n r a

theorem Own.one {σ : AHeap} {n : Nat} {r : AV} {a : List Nat} (h : Own σ n r a) : cellsOf r = some [r] := by
  cases h with
  | nil h => subst h; rfl
  | so j v cap more h => subst h; rfl

theorem same_app {σ more : AHeap} {n : Nat} (h : n ≤ σ.length) : Same n σ (σ ++ more) := ⟨h, by simp; omega, fun i hi => List.getElem?_append_left (by omega)⟩

theorem clone_call {σ : AHeap} {nl : Bool} {a : List Nat} {cap : Option Nat} {K : AV → AHeap → Prop} (ha : a.length ≤ 1000000)
    (hK : ∀ r σ', Own σ' σ.length r a → Same σ.length σ σ' → K r σ') : ACall Try.prog 74 [sl nl a cap] σ K := by
  refine acall_in Try.func74 rfl (by kernel_rfl) rfl ?_
  unfold sl
  simp [Try.f74]
  refine ite_and.2 ⟨fun h => hK _ _ (.nil rfl h.2) (Same.refl (Nat.le_refl _)), fun _ => ⟨by omega, ite_and.2 ⟨fun h => hK _ _ (.so σ.length 1 none [] rfl (by simp) (Nat.le_refl _) (.inl ⟨rfl, rfl⟩)) (same_app (Nat.le_refl _)), fun h c hc => ?_⟩⟩⟩
  exact hK _ _ (.so (σ.length + 1) 0 (some c) (List.replicate (c - a.length) (dg 0)) rfl (by simp) (by omega) (.inr ⟨c, rfl, hc, rfl⟩)) (same_app (Nat.le_refl _))

@[simp] theorem places51 : placesT Try.prog 69 = some [(0, 1)] := by kernel_rfl
@[simp] theorem sz51 : szT Try.prog 69 = some 1 := by kernel_rfl

theorem IsSl.dig {σ : AHeap} {r : AV} {a : List Nat} (h : IsSl σ r a) : ∃ r', Pur σ (fun _ => True) r r' ∧ ∃ nl cap, r' = sl nl a cap := by
  obtain ⟨nl, cap, h⟩ := h
  exact ⟨_, h, nl, cap, rfl⟩

theorem w32' (x : Nat) (h : x < 4294967296) : IntKind.u32.wrap (x : Int) = (x : Int) := by rw [w32, Nat.mod_eq_of_lt h]

/-- What a function that tells digits promises. -/
def Told (a : List Nat) (r : AV) : Prop := ∃ nl cap, r = sl nl a cap

theorem trim_ctr (nl : Bool) (a : List Nat) (cap : Option Nat) (ha : Dig a) (hl : a.length ≤ 1000000) : Ctr Try.prog 64 [sl nl a cap] (Told (trimL a)) := by
  refine ctr_in Try.func64 rfl (by kernel_rfl) rfl fun K hK => ?_
  simp [Try.f64]
  refine clone_call hl fun r σ hr hs => ?_
  cases hr with
  | nil h0 h1 =>
    subst h0
    simp
    refine number_call (a := a) (by rw [h1]; exact .nil (by simp)) hl fun r σ' h => ?_
    obtain ⟨nl, cap, h⟩ := h
    simp
    exact hK _ _ _ h ⟨nl, cap, rfl⟩
  | so j v cap more h0 hj hn hc =>
    subst h0
    have hlt := (List.getElem?_eq_some_iff.1 hj).1
    simp
    refine number_call (a := a) (.so j v a cap more (by simp) (by rw [List.getElem?_append_left hlt]; exact hj) (by omega) ?_) hl fun r σ' h => ?_
    · rcases hc with ⟨rfl, _⟩ | ⟨c, rfl, hc, _⟩
      · simp
      · simpa using hc
    obtain ⟨nl, cap, h⟩ := h
    simp
    exact hK _ _ _ h ⟨nl, cap, rfl⟩

theorem val_two (x y : Nat) : val [x, y] = x + 4294967296 * y := by simp [val]

theorem from_ctr (x : Nat) (hx : x < 18446744073709551616) : Ctr Try.prog 19 [u x] (Told (ofN x)) := by
  refine ctr_in Try.func19 rfl (by kernel_rfl) rfl fun K hK => ?_
  simp [Try.f19]
  refine lay_call (.nil rfl) (by simp) fun σ1 h1 => ?_
  try simp
  refine lay_call h1 (by simp) fun σ2 h2 => ?_
  try simp
  refine number_call h2.dn (by simp) fun r σ3 h3 => ?_
  obtain ⟨nl, cap, h⟩ := h3
  have e : trimL ([] ++ [x % 4294967296] ++ [x / 4294967296 % 4294967296]) = ofN x := by
    rw [trim_ofN (dig_append (dig_append dig_nil (dig_one _)) (dig_one _))]
    simp only [List.nil_append, List.singleton_append, val_two]
    congr 1; omega
  rw [e] at h
  simp
  exact hK _ _ _ h ⟨nl, cap, rfl⟩

theorem trim_last {a : List Nat} (h : trimL a ≠ []) : ∀ (hp : 0 < (trimL a).length), (trimL a)[(trimL a).length - 1] ≠ 0 := by
  induction a with
  | nil => exact absurd rfl h
  | cons x a ih =>
    simp only [trimL] at h ⊢
    split
    · rename_i hh; rw [if_pos hh] at h; exact absurd rfl h
    · rename_i hh
      intro hp
      by_cases ht : trimL a = []
      · simp only [ht, List.length_singleton, Nat.sub_self, List.getElem_cons_zero]
        exact fun hx => hh ⟨ht, hx⟩
      · have hl : 0 < (trimL a).length := List.length_pos_iff.2 ht
        have := ih ht hl
        simp only [List.length_cons, Nat.add_sub_cancel]
        rw [List.getElem_cons]
        rw [dif_neg (by omega)]
        exact this

theorem check_eq {a : List Nat} (ha : a ≠ []) : (trimL a == a) = !(a[a.length - 1]'(by have := List.length_pos_iff.2 ha; omega) == 0) := by
  have hp : 0 < a.length := List.length_pos_iff.2 ha
  have hlt : a.length - 1 < a.length := by omega
  by_cases hz : a[a.length - 1] = 0
  · have hne : trimL a ≠ a := fun hh => by
      have h2 := trim_last (a := a) (by rw [hh]; exact ha) (by rw [hh]; exact hp)
      simp only [hh] at h2
      exact h2 hz
    simp [hz, hne]
  · have he : trimL a = a := by
      rw [trim_take hlt hz (fun j hj hkj => by omega)]
      exact List.take_of_length_le (by omega)
    simp [hz, he]

theorem check_ctr (nl : Bool) (a : List Nat) (cap : Option Nat) (hl : a.length ≤ 1000000) : Ctr Try.prog 16 [sl nl a cap] (fun r => r = bo (trimL a == a)) := by
  refine ctr_val Try.func16 rfl (by kernel_rfl) rfl (by simp) fun K hK => ?_
  unfold sl
  by_cases ha : a = []
  · subst ha
    simpa [Try.f16, trimL] using hK []
  · have hp : 0 < a.length := List.length_pos_iff.2 ha
    have e : ((a.length : Int) - 1) = ((a.length - 1 : Nat) : Int) := by omega
    have hw : IntKind.i64.wrap ((a.length : Int) - 1) = ((a.length - 1 : Nat) : Int) := by rw [e, w64 _ (by omega) (by omega)]
    have hlt : a.length - 1 < a.length := by omega
    have h1 := check_eq ha
    have h2 : ((a[a.length - 1] : Int) != 0) = (trimL a == a) := by
      rw [h1, bne]; congr 1
      rw [Bool.eq_iff_iff]; simp
    rw [← h2] at hK
    simp [Try.f16, ha, hw, hlt]
    exact hK _
theorem rcheck_ctr (nl : Bool) (a : List Nat) (cap : Option Nat) (hl : a.length ≤ 1000000) : Ctr Try.prog 17 [sl nl a cap] (fun r => r = bo (trimL a == a)) := by
  refine ctr_val Try.func17 rfl (by kernel_rfl) rfl (by simp) fun K hK => ?_
  unfold sl
  by_cases ha : a = []
  · subst ha
    simpa [Try.f17, trimL] using hK []
  · have hp : 0 < a.length := List.length_pos_iff.2 ha
    have e : ((a.length : Int) - 1) = ((a.length - 1 : Nat) : Int) := by omega
    have hw : IntKind.i64.wrap ((a.length : Int) - 1) = ((a.length - 1 : Nat) : Int) := by rw [e, w64 _ (by omega) (by omega)]
    have hlt : a.length - 1 < a.length := by omega
    have h1 := check_eq ha
    have h2 : ((a[a.length - 1] : Int) != 0) = (trimL a == a) := by
      rw [h1, bne]; congr 1
      rw [Bool.eq_iff_iff]; simp
    rw [← h2] at hK
    simp [Try.f17, ha, hw, hlt]
    exact hK _
end Go.Proofs.Nt
