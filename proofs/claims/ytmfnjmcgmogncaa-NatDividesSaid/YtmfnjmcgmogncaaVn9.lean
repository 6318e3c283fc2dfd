/- The naturals: the document's From; Low, Len, Cmp. -/
import Derived.Test.YtmfnjmcgmogncaaVm2
set_option linter.unusedVariables false
set_option maxRecDepth 20000
set_option linter.unusedSimpArgs false
namespace Go.Proofs.Nt
open Go Go.Proofs Go.Proofs.Va

/-- These digits lie there. -/
inductive Lie (σ : AHeap) (r : AV) (a : List Nat) : Prop
  | nil : r = .pl true [] 0 (some 0) → a = [] → Lie σ r a
  | so (j v : Nat) (cap : Option Nat) (more : List AV) : r = .so j v 0 a.length 1 cap → σ[j]? = some ⟨.own, v, a.map dg ++ more⟩ → Lie σ r a

theorem dgs_get {a : List Nat} {more : List AV} {m : Nat} (hm : m < a.length) : (List.map dg a ++ more)[m]? = some (dg a[m]) := by
  rw [List.getElem?_append_left (by simpa using hm)]; simp [hm]
theorem Lie.sl {σ : AHeap} {r : AV} {a : List Nat} (h : Lie σ r a) : ∃ nl cap, Pur σ (fun _ => True) r (sl nl a cap) := by
  cases h with
  | nil h1 h2 => subst h1; subst h2; exact ⟨true, some 0, by simp [Nt.sl]⟩
  | so j v cap more h1 h2 =>
    subst h1
    refine ⟨false, cap, isSl_so h2 (fun h => by cases h) rfl (by simp) (fun m hm => by simp [dgs_get hm]) rfl trivial⟩

theorem call_lie {g : FuncId} {σ : AHeap} {r : AV} {l : List Nat} {Post : AV → Prop} {K : AV → AHeap → Prop} (h : Lie σ r l) (hc : ∀ nl cap, Ctr Try.prog g [sl nl l cap] Post) (hK : ∀ r σ', Post r → K r σ') : ACall Try.prog g [r] σ K := by
  cases h with
  | nil h1 h2 => subst h1; subst h2; exact acall_by (hc true (some 0)) (by simp [Nt.sl]) fun r hr => hK r _ hr
  | so j v cap more h1 hj =>
    subst h1
    refine acall_froze [j] (hc false cap) rfl (fun k hk => ?_) fun r hr => hK r _ hr
    simp at hk
    subst hk
    exact isSl_so hj (fun h => by cases h) rfl (by simp) (fun m hm => by simp [dgs_get hm]) rfl (by simp)

theorem OL.lie {σ : AHeap} {r : AV} {l : List Nat} (h : OL σ r l) : Lie σ r l := by
  cases h with
  | nil => exact .nil rfl rfl
  | so j v l hj => exact .so j v none [] rfl (by simpa using hj)

theorem rfrom_ctr (x : Nat) (hx : x < 18446744073709551616) : Ctr Try.prog 20 [u x] (Told (ofN x)) := by
  refine ctr_in Try.func20 rfl (by kernel_rfl) rfl fun K hK => ?_
  simp [Try.f20, w32, -Int.natCast_emod]
  have e0 := w32 (x / 4294967296)
  simp at e0
  refine call_lie (l := [x % 4294967296, x / 4294967296 % 4294967296]) (.so 0 0 (some 2) [] rfl (by simp [e0])) (fun nl cap => rtrim_ctr nl _ cap (by simp)) ?_
  rintro _ σ' ⟨nl, cap, rfl⟩
  have e : trimL [x % 4294967296, x / 4294967296 % 4294967296] = ofN x := by
    have := trim_ofN (dig_append (dig_one x) (dig_one (x / 4294967296)))
    simp only [List.singleton_append, val_two] at this
    rw [this]; congr 1; omega
  rw [e]
  simp
  exact hK _ _ _ (.same _ (by simp [sl])) ⟨nl, cap, rfl⟩

/-! ### Low -/
def lowPost (n : Nat) (r : AV) : Prop := r = if n < 18446744073709551616 then .tup [u n, bo true] else .tup [u 0, bo false]
theorem ofN_two (n : Nat) : 2 < (ofN n).length ↔ ¬ n < 18446744073709551616 := by
  have := len_ofN n 2
  rw [show (4294967296 : Nat) ^ 2 = 18446744073709551616 by decide] at this
  omega

theorem low_mid {a : List Nat} (hd : Dig a) (h2 : a.length ≤ 2) {k : Nat} (hk : k < a.length) : val (a.drop (a.length - 1 - k)) = val (a.drop (a.length - k)) * 4294967296 + a[a.length - 1 - k] ∧ val (a.drop (a.length - k)) < 4294967296 := by
  have e : a.length - 1 - k + 1 = a.length - k := by omega
  constructor
  · rw [List.drop_eq_getElem_cons (by omega : a.length - 1 - k < a.length)]
    simp only [val, e]; omega
  · have hdd : Dig (a.drop (a.length - k)) := fun x hx => hd x (List.mem_of_mem_drop hx)
    have := val_lt hdd
    rw [List.length_drop] at this
    have : a.length - (a.length - k) ≤ 1 := by omega
    calc _ < _ := ‹_›
      _ ≤ 4294967296 ^ 1 := Nat.pow_le_pow_right (by decide) this
      _ = 4294967296 := by decide

theorem rlow_ctr (nl : Bool) (a : List Nat) (cap : Option Nat) (ha : Dig a) (hl : a.length ≤ 1000000) : Ctr Try.prog 15 [sl nl a cap] (lowPost (val a)) := by
  refine ctr_in Try.func15 rfl (by kernel_rfl) rfl fun K hK => ?_
  simp [Try.f15]
  refine acall_by (rtrim_ctr nl a cap hl) (by simp [sl]) ?_
  rintro _ ⟨nl', cap', rfl⟩
  rw [trim_ofN ha]
  have hlen := ofN_two (val a)
  by_cases h2 : 2 < (ofN (val a)).length
  · simp [sl, h2]
    exact hK _ _ _ (.same _ (pu_tup (by simp))) (by rw [lowPost, if_neg (hlen.1 h2)]; rfl)
  · have hd := dig_ofN (val a)
    obtain ⟨b, hb⟩ : ∃ b, b = ofN (val a) := ⟨_, rfl⟩
    have hv : val b = val a := by rw [hb, val_ofN]
    rw [← hb] at h2 hd hlen ⊢
    simp [sl, h2]
    rw [w64 _ (by omega) (by omega)]
    refine loop_on (γ := Nat) 28 (fun k => [(4, sl nl' b cap'), (5, u (val (b.drop (b.length - k)))), (6, i ((b.length : Int) - 1 - k))]) (fun _ => []) (fun k => k ≤ b.length) (fun k => b.length - k)
      0 (Nat.zero_le _) (Wk.lst (by simp [sl, val]) (by simp)) ?_
    intro k hk L hL
    by_cases hkb : k < b.length
    · obtain ⟨m1, m2⟩ := low_mid hd (by omega) hkb
      have hx := hd.at (show b.length - 1 - k < b.length by omega)
      have e : (b.length : Int) - 1 - k = ((b.length - 1 - k : Nat) : Int) := by omega
      have hlt : b.length - 1 - k < b.length := by omega
      have e2 : b.length - (k + 1) = b.length - 1 - k := by omega
      rw [e]
      have hw : IntKind.u64.wrap ((val (b.drop (b.length - k)) : Int) * 4294967296) = ((val (b.drop (b.length - k)) * 4294967296 : Nat) : Int) := by rw [← wu (val (b.drop (b.length - k)) * 4294967296) (by omega)]; congr 1
      have hw1 : IntKind.u64.wrap (b[b.length - 1 - k] : Int) = (b[b.length - 1 - k] : Int) := wu _ (by omega)
      have hw2 : IntKind.u64.wrap (((val (b.drop (b.length - k)) * 4294967296 : Nat) : Int) + (b[b.length - 1 - k] : Int)) = ((val (b.drop (b.length - 1 - k)) : Nat) : Int) := by rw [wuc _ _ (by omega) (by omega), m1]; omega
      simp [sl, hlt, hw, hw1, hw2, -Int.natCast_mul]
      refine hL (k + 1) _ _ (by omega) (Wk.lst (by simp [sl, e2]; rw [w64 _ (by omega) (by omega)]; omega) (by simp)) (by omega)
    · have : k = b.length := by omega
      subst this
      have e : (b.length : Int) - 1 - b.length = -1 := by omega
      rw [e]
      simp [sl]
      exact hK _ _ _ (.same _ (pu_tup (by simp))) (by rw [lowPost, hv, if_pos (by omega)]; rfl)

theorem low_ctr (nl : Bool) (a : List Nat) (cap : Option Nat) (ha : Dig a) (hl : a.length ≤ 1000000) : Ctr Try.prog 14 [sl nl a cap] (lowPost (val a)) := by
  refine ctr_in Try.func14 rfl (by kernel_rfl) rfl fun K hK => ?_
  simp [Try.f14]
  refine acall_by (trim_ctr nl a cap ha hl) (by simp [sl]) ?_
  rintro _ ⟨nl', cap', rfl⟩
  rw [trim_ofN ha]
  have hlen := ofN_two (val a)
  by_cases h2 : 2 < (ofN (val a)).length
  · simp [sl, h2]
    exact hK _ _ _ (.same _ (pu_tup (by simp))) (by rw [lowPost, if_neg (hlen.1 h2)]; rfl)
  · have hd := dig_ofN (val a)
    obtain ⟨b, hb⟩ : ∃ b, b = ofN (val a) := ⟨_, rfl⟩
    have hv : val b = val a := by rw [hb, val_ofN]
    rw [← hb] at h2 hd hlen ⊢
    simp [sl, h2]
    refine backward_call rfl ?_
    simp
    refine range_on (lb := [.po 1 0 0]) (by simp) Try.func83 rfl (by kernel_rfl) ?_
    refine back_iter_pl (nl := nl') (a := b) (cap := cap') (by omega) (fun k σ' => σ' = ([⟨.own, 0, [u (val (b.drop (b.length - k)))]⟩, ⟨.own, 0, [sl nl' b cap']⟩] : AHeap)) (by simp [val, sl]) ?_ ?_ ?_
    · rintro k _ rfl; simp [sl]
    · rintro k _ hkb rfl Kt hKt
      obtain ⟨m1, m2⟩ := low_mid hd (by omega) hkb
      have hx := hd.at (show b.length - 1 - k < b.length by omega)
      have e2 : b.length - (k + 1) = b.length - 1 - k := by omega
      have hw : IntKind.u64.wrap ((val (b.drop (b.length - k)) : Int) * 4294967296) = ((val (b.drop (b.length - k)) * 4294967296 : Nat) : Int) := by rw [← wu (val (b.drop (b.length - k)) * 4294967296) (by omega)]; congr 1
      have hw1 : IntKind.u64.wrap (b[b.length - 1 - k] : Int) = (b[b.length - 1 - k] : Int) := wu _ (by omega)
      have ho := Va.bOr_u64 (x := val (b.drop (b.length - k)) * 4294967296) (y := b[b.length - 1 - k]) (by omega) (by omega)
      rw [or_add hx, ← m1] at ho
      have hw2 := wu (val (b.drop (b.length - 1 - k))) (by omega)
      simp [bodyW]
      rw [hw, hw1, ho, hw2]
      exact hKt _ (by simp [e2])
    · rintro _ rfl
      simp
      exact hK _ _ _ (.same _ (pu_tup (by simp))) (by rw [lowPost, hv, if_pos (by omega)]; rfl)
end Go.Proofs.Nt
