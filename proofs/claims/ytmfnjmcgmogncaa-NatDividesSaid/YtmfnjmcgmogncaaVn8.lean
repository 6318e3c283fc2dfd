/- The naturals: the document's Add. -/
import Derived.Test.YtmfnjmcgmogncaaVn7
set_option linter.unusedVariables false
set_option maxRecDepth 20000
set_option linter.unusedSimpArgs false
namespace Go.Proofs.Nt
open Go Go.Proofs Go.Proofs.Va

/-- Digits that are appended to, one by one. -/
inductive OL (σ : AHeap) : AV → List Nat → Prop
  | nil : OL σ (.pl true [] 0 (some 0)) []
  | so (j v : Nat) (l : List Nat) : σ[j]? = some ⟨.own, v, l.map dg⟩ → OL σ (.so j v 0 l.length 1 none) l

theorem append_one {σ : AHeap} {r : AV} {l : List Nat} {x : Nat} {K : AV → AHeap → Prop} (h : OL σ r l) (hl : l.length ≤ 1000000) (hK : ∀ r' σ', OL σ' r' (l ++ [x]) → K r' σ') :
    aAppend Try.prog 22 22 r (.so σ.length 0 0 1 1 (some 1)) (σ ++ ([⟨.own, 0, [.v (.int .u32 x)]⟩] : AHeap)) K := by
  cases h with
  | nil =>
    simp
    have := hK (.so (σ.length + 1) 0 0 1 1 none) (σ ++ ([⟨.own, 0, [dg x]⟩, ⟨.own, 0, [dg x]⟩] : AHeap)) (.so _ _ [x] (by simp))
    simpa using this
  | so j v l hj =>
    have hlt := (List.getElem?_eq_some_iff.1 hj).1
    simp [List.getElem?_append_left hlt, hj]
    refine ⟨by omega, ?_⟩
    have := hK (.so j (v + 1) 0 (l ++ [x]).length 1 none) (List.set (σ ++ ([⟨.own, 0, [dg x]⟩] : AHeap)) j ⟨.own, v + 1, l.map dg ++ [dg x]⟩) (.so _ _ _ (by rw [List.getElem?_set_self (by simp; omega)]; simp))
    have e : List.take l.length (List.map dg l) = List.map dg l := List.take_of_length_le (by simp)
    rw [e]
    simpa using this

theorem call_OL {g : FuncId} {σ : AHeap} {r : AV} {l : List Nat} {Post : AV → Prop} {K : AV → AHeap → Prop} (h : OL σ r l) (hc : ∀ nl cap, Ctr Try.prog g [sl nl l cap] Post) (hK : ∀ r σ', Post r → K r σ') : ACall Try.prog g [r] σ K := by
  cases h with
  | nil => exact acall_by (hc true (some 0)) (by simp [sl]) fun r hr => hK r _ hr
  | so j v l hj =>
    refine acall_froze [j] (hc false none) rfl (fun k hk => ?_) fun r hr => hK r _ hr
    simp at hk
    subst hk
    exact isSl_so hj (fun h => by cases h) rfl (by simp) (fun m hm => by simp [hm]) rfl (by simp)

theorem radd_ctr (nl nl' : Bool) (a b : List Nat) (cap cap' : Option Nat) (ha : Dig a) (hb : Dig b) (hl : a.length ≤ 100000) (hl' : b.length ≤ 100000) : Ctr Try.prog 30 [sl nl a cap, sl nl' b cap'] (Told (ofN (val a + val b))) := by
  refine ctr_in Try.func30 rfl (by kernel_rfl) rfl fun K hK => ?_
  obtain ⟨N, hN⟩ : ∃ N, N = max a.length b.length := ⟨_, rfl⟩
  simp [Try.f30, sl]
  refine loop_on (γ := Nat × Nat × List Nat × AV × AHeap) 43 (fun g => [(0, sl nl a cap), (1, sl nl' b cap'), (5, g.2.2.2.1), (6, u g.2.1), (7, i g.1)]) (fun g => g.2.2.2.2)
    (fun g => (g.1 ≤ N ∨ g.1 = N + 1 ∧ g.2.1 = 0) ∧ g.2.1 ≤ 1 ∧ g.2.2.1.length = g.1 ∧ Dig g.2.2.1 ∧ val g.2.2.1 + 4294967296 ^ g.1 * g.2.1 = val (a.take g.1) + val (b.take g.1) ∧ OL g.2.2.2.2 g.2.2.2.1 g.2.2.1) (fun g => N + 1 - g.1)
    (0, 0, [], _, _) ⟨.inl (Nat.zero_le _), Nat.zero_le _, rfl, dig_nil, by simp [val], .nil⟩ (Wk.lst (by simp [sl]) (by simp)) ?_
  rintro ⟨k, c, l, r, σ⟩ ⟨hk, hc, hlen, hd, hv, hD⟩ L hL
  simp only at hk hc hlen hd hv hD
  by_cases h0 : k < a.length ∨ k < b.length ∨ 0 < c
  · have hkN : k ≤ N := by omega
    have h1 := at'_lt ha k
    have h2 := at'_lt hb k
    have hw1 : IntKind.u64.wrap ((at' a k : Int) + (at' b k : Int)) = ((at' a k + at' b k : Nat) : Int) := wuc _ _ (by omega) (by omega)
    have hw2 : IntKind.u64.wrap (((at' a k + at' b k : Nat) : Int) + (c : Int)) = ((at' a k + at' b k + c : Nat) : Int) := wuc _ _ (by omega) (by omega)
    have hcase : (k < a.length) ∨ (¬ k < a.length ∧ k < b.length) ∨ (¬ k < a.length ∧ ¬ k < b.length ∧ 0 < c) := by omega
    have hw3 : IntKind.i64.wrap ((k : Int) + 1) = ((k + 1 : Nat) : Int) := w64 _ (by omega) (by omega)
    rcases hcase with g1 | ⟨g1, g2⟩ | ⟨g1, g2, g3⟩
    all_goals
      simp [sl, g1, *, -aAppend]
      refine acall_by (at_ctr nl a cap k ha) (by simp [sl]) ?_
      rintro _ rfl
      simp [-aAppend]
      refine acall_by (at_ctr nl' b cap' k hb) (by simp [sl]) ?_
      rintro _ rfl
      simp [-Int.natCast_add, hw1, hw2, hw3, w32, -aAppend]
      refine append_one hD (by omega) fun r' σ' h => ?_
      simp [-Int.natCast_add]
      refine hL (k + 1, (at' a k + at' b k + c) / 4294967296, l ++ [(at' a k + at' b k + c) % 4294967296], r', σ') _ _ ?_ (Wk.lst (by simp [sl]; try omega) (by simp)) (by simp; omega)
      refine ⟨?_, ?_, ?_, dig_snoc hd _, ?_, h⟩
      · by_cases hkn : k < N
        · exact .inl (by show k + 1 ≤ N; omega)
        · have : k = N := by omega
          subst this
          have e1 : at' a k = 0 := by unfold at'; rw [List.getD_eq_getElem?_getD, List.getElem?_eq_none (by omega)]; rfl
          have e2 : at' b k = 0 := by unfold at'; rw [List.getD_eq_getElem?_getD, List.getElem?_eq_none (by omega)]; rfl
          exact .inr ⟨rfl, by show (at' a k + at' b k + c) / 4294967296 = 0; omega⟩
      · show (at' a k + at' b k + c) / 4294967296 ≤ 1; omega
      · simp [hlen]
      · exact add_step hlen hv
  · have h1 : ¬ k < a.length := by omega
    have h2 : ¬ k < b.length := by omega
    have h3 : ¬ 0 < c := by omega
    simp [sl, h1, h2, h3, -aAppend]
    simp [sl]
    refine call_OL hD (fun nl cap => rtrim_ctr nl l cap (by omega)) ?_
    rintro r σ' ⟨nl, cap, rfl⟩
    have e : trimL l = ofN (val a + val b) := by
      have hc0 : c = 0 := by omega
      rw [trim_ofN hd]
      rw [List.take_of_length_le (by omega), List.take_of_length_le (by omega), hc0] at hv
      simpa using congrArg ofN hv
    rw [e]
    try simp
    exact hK _ _ _ (.same _ (by simp [sl])) ⟨nl, cap, rfl⟩
end Go.Proofs.Nt
