/- The naturals: share, Div. -/
import Derived.Test.YtmfnjmcgmogncaaVn15
set_option linter.unusedVariables false
set_option maxRecDepth 20000
set_option linter.unusedSimpArgs false
namespace Go.Proofs.Nt
open Go Go.Proofs Go.Proofs.Va

theorem share_ctr (nl nl' : Bool) (a b : List Nat) (cap cap' : Option Nat) (ha : Dig a) (hb : Dig b) (hl : a.length ≤ 90000) (hl' : b.length ≤ 90000) (hlt : val a < 4294967296 * val b) : Ctr Try.prog 76 [sl nl a cap, sl nl' b cap'] (fun r => r = u (val a / val b)) := by
  refine ctr_val Try.func76 rfl (by kernel_rfl) rfl (by simp) fun K hK => ?_
  have hb0 : 0 < val b := by
    rcases Nat.eq_zero_or_pos (val b) with h | h
    · rw [h] at hlt; omega
    · exact h
  simp [Try.f76]
  refine loop_on (γ := Nat × Nat) 25 (fun g => [(0, sl nl a cap), (1, sl nl' b cap'), (5, u g.1), (6, u g.2)]) (fun _ => [])
    (fun g => g.1 < g.2 ∧ g.2 ≤ 4294967296 ∧ val b * g.1 ≤ val a ∧ val a < val b * g.2) (fun g => g.2 - g.1)
    (0, 4294967296) ⟨by decide, Nat.le_refl _, by simp, by rw [Nat.mul_comm]; exact hlt⟩ (Wk.lst (by simp [sl]) (by simp)) ?_
  rintro ⟨lo, hi⟩ ⟨h1, h2, h3, h4⟩ L hL
  simp only at h1 h2 h3 h4
  have hw1 : IntKind.u64.wrap ((hi : Int) - (lo : Int)) = ((hi - lo : Nat) : Int) := by rw [wrap64u]; omega
  obtain ⟨d, hd⟩ : ∃ d, d = hi - lo := ⟨_, rfl⟩
  rw [← hd] at hw1
  by_cases hd1 : 1 < d
  · obtain ⟨m, hm⟩ : ∃ m, m = (lo + hi) / 2 := ⟨_, rfl⟩
    have hw2 : IntKind.u64.wrap (IntKind.u64.wrap ((lo : Int) + (hi : Int)) / 2) = (m : Int) := by rw [wrap64u, wrap64u]; omega
    have hw3 : IntKind.u64.wrap ((lo : Int) + (hi : Int)) = ((lo + hi : Nat) : Int) := by rw [wrap64u]; omega
    have hw4 : IntKind.u64.wrap ((((lo + hi : Nat) : Int)).tdiv 2) = (m : Int) := by
      rw [Int.tdiv_eq_ediv_of_nonneg (by omega), wrap64u]; omega
    simp [hw1, hd1]
    rw [hw3, hw4]
    refine acall_by (scale_ctr nl' b cap' m hb (by omega) (by omega)) (by simp [sl]) ?_
    rintro _ ⟨n2, c2, rfl⟩
    simp
    refine acall_by (cmp_ctr n2 nl (ofN (val b * m)) a c2 cap (dig_ofN _) ha ?_ (by omega)) (by simp [sl]) ?_
    · refine ofN_le (j := b.length + 1) ?_ (by omega)
      rw [Nat.pow_succ]
      exact Nat.mul_lt_mul'' (val_lt hb) (show m < 4294967296 by omega)
    rintro _ rfl
    rw [val_ofN, cmp3_nat]
    by_cases hle : val b * m ≤ val a
    · have e : ((if val b * m < val a then -1 else if val a < val b * m then 1 else 0 : Int) ≤ 0) := by split; omega; split <;> omega
      simp [e]
      exact hL (m, hi) _ _ ⟨by show m < hi; omega, h2, hle, h4⟩ (Wk.lst (by simp [sl]) (by simp)) (by show hi - m < hi - lo; omega)
    · have e : ¬ ((if val b * m < val a then -1 else if val a < val b * m then 1 else 0 : Int) ≤ 0) := by rw [if_neg (by omega), if_pos (by omega)]; decide
      simp [e]
      exact hL (lo, m) _ _ ⟨by show lo < m; omega, by show m ≤ _; omega, h3, by show _ < val b * m; omega⟩ (Wk.lst (by simp [sl]) (by simp)) (by show m - lo < hi - lo; omega)
  · have e : val a / val b = lo := by
      have : hi = lo + 1 := by omega
      subst this
      refine Nat.div_eq_of_lt_le (by rw [Nat.mul_comm]; exact h3) (by rw [Nat.mul_comm]; exact h4)
    rw [e] at hK
    simp [hw1, hd1]
    exact hK _

/-- Some blocks of the call's own are written no more from here on. -/
theorem aw_froze {P : Program} {n0 : Nat} {top : Bool} {c : Code} {Q : Exit → AState → Prop} {t : List AV} {σ : AHeap} (ids : List Nat) (h : AW P n0 top c Q ⟨t, froze σ ids⟩) : AW P n0 top c Q ⟨t, σ⟩ := by
  intro F n hF ht w0 nb ρ fz a w hs hn hb1 hb2
  obtain ⟨hh1, hE1⟩ := hs.h.froze ids
  refine wpIn_mono (h F n hF ht w0 nb ρ _ a w ⟨hh1, hs.t.ev' (n0 := σ.length) hE1, hs.m⟩ (by show n0 ≤ (froze σ ids).length; rw [froze_length]; exact hn) hb1 hb2) ?_
  intro e a' w' hq
  exact hq.from (hE1.lower hn)
theorem froze_ne {σ : AHeap} {ids : List Nat} {k : Nat} (h : k ∉ ids) : (froze σ ids)[k]? = σ[k]? := by
  rw [froze_get]
  cases σ[k]? with
  | none => rfl
  | some b => simp [h]
theorem froze_at {σ : AHeap} {k : Nat} {v : Nat} {cs : List AV} (h : σ[k]? = some ⟨.own, v, cs⟩) : (froze σ [k])[k]? = some ⟨.ro, v, cs⟩ := by
  rw [froze_get, h]; simp
theorem froze_self {σ : AHeap} {k : Nat} {v : Nat} {cs : List AV} (h : σ[k]? = some ⟨.ro, v, cs⟩) : froze σ [k] = σ := by
  apply List.ext_getElem?
  intro i
  by_cases hi : i = k
  · subst hi; rw [froze_get, h]; simp
  · exact froze_ne (by simpa using hi)

/-! ### Div -/
theorem acall_freeze {P : Program} {g : FuncId} {args args' : List AV} {σ : AHeap} {K : AV → AHeap → Prop} (ids : List Nat) (h : ACall P g args' (froze σ ids) K) (hl : args'.length = args.length)
    (hp : ∀ j (hj : j < args'.length), args.getD j .any = args'[j] ∨ Pur σ (· ∈ ids) (args.getD j .any) args'[j]) : ACall P g args σ K := by
  intro w0 ρ fz w vs hh hr
  obtain ⟨hh1, hE1⟩ := hh.froze ids
  have hargs : RL ρ (froze σ ids) (fzS ρ σ fz (· ∈ ids)) w args' vs := ⟨by rw [hr.1, hl], fun j hj => by
    have hR : R ρ σ fz w (args.getD j .any) (vs.getD j undef) := by rw [getD_eq (by omega)]; exact hr.2 j (by omega)
    rcases hp j hj with e | e
    · rw [← e]; exact hR.ev hE1 hR.sc
    · exact .pure _ _ (e.ok hh hR)⟩
  rcases h w0 ρ _ w vs hh1 hargs with ⟨h1, h2⟩ | ⟨v, w', r, σ', ρ', fz', h1, h2, h3, h4, h5⟩
  · refine .inl ⟨h1, h2.mono ?_⟩
    rintro e w' ⟨v, r, σ', ρ', fz', rfl, hK, hH, hR, hE⟩
    exact ⟨v, r, σ', ρ', fz', rfl, hK, hH, hR, hE1.trans (hE.lower (by rw [froze_length]; exact Nat.le_refl _))⟩
  · exact .inr ⟨v, w', r, σ', ρ', fz', h1, h2, h3, h4, hE1.trans (h5.lower (by rw [froze_length]; exact Nat.le_refl _))⟩

theorem Cl.more {σ more : AHeap} {N : Nat} {r : AV} {a : List Nat} (h : Cl σ N r a) : Cl (σ ++ more) N r a := by
  cases h with
  | nil => exact .nil
  | e j v h1 h2 => exact .e j v (by rw [List.getElem?_append_left (List.getElem?_eq_some_iff.1 h1).1]; exact h1) h2
  | sc j v c l h1 h2 h3 h4 => exact .sc j v c _ (by rw [List.getElem?_append_left (List.getElem?_eq_some_iff.1 h1).1]; exact h1) h2 h3 h4

theorem insert_call2 {σ : AHeap} {r : AV} {a : List Nat} {N : Nat} {K : AV → AHeap → Prop} (hr : Cl σ N r a) (ha : a.length ≤ 1000000) (hN : N ≤ σ.length)
    (hK : ∀ r' σ', Lie σ' r' (0 :: a) → (∀ j v n c, r' = .so j v 0 n 1 c → N ≤ j) → Same N σ σ' → K r' σ') : ACall Try.prog 73 [r, i 0, .so σ.length 0 0 1 1 (some 1)] (σ ++ ([⟨.own, 0, [dg 0]⟩] : AHeap)) K := by
  refine acall_freeze [σ.length] (args' := [r, i 0, .pl false [dg 0] 1 (some 1)]) ?_ rfl ?_
  · have e : froze (σ ++ ([⟨.own, 0, [dg 0]⟩] : AHeap)) [σ.length] = σ ++ ([⟨.ro, 0, [dg 0]⟩] : AHeap) := by
      apply List.ext_getElem?
      intro k
      rw [froze_get]
      rcases Nat.lt_or_ge k σ.length with h1 | h1
      · rw [List.getElem?_append_left h1, List.getElem?_append_left h1]
        cases σ[k]? with
        | none => rfl
        | some b => simp; omega
      · rw [List.getElem?_append_right h1, List.getElem?_append_right h1]
        rcases Nat.eq_or_lt_of_le h1 with h2 | h2
        · subst h2; simp
        · have : k - σ.length = (k - σ.length - 1) + 1 := by omega
          rw [this]; simp
    rw [e]
    exact insert_call hr.more ha (by simp; omega) fun r' σ' h1 h2 h3 => hK r' σ' h1 h2 ((same_app hN).trans h3)
  · intro j hj
    simp at hj
    have : j = 0 ∨ j = 1 ∨ j = 2 := by omega
    rcases this with rfl | rfl | rfl
    · exact .inl rfl
    · exact .inl rfl
    · refine .inr ?_
      exact isSl_so (j := σ.length) (off := 0) (a := [0]) (b := ⟨.own, 0, [dg 0]⟩) (by simp) (fun h => by cases h) rfl (by simp) (fun m hm => by simp at hm; subst hm; simp) rfl (by simp)

def divPost (m n : Nat) (r : AV) : Prop := if n = 0 then r = .tup [.pl true [] 0 (some 0), .pl true [] 0 (some 0), bo false] else ∃ n1 c1 n2 c2, r = .tup [sl n1 (ofN (m / n)) c1, sl n2 (ofN (m % n)) c2, bo true]

theorem div_step (D n x : Nat) (hn : 0 < n) : (4294967296 * (D % n) + x) / n + 4294967296 * (D / n) = (x + 4294967296 * D) / n ∧ (4294967296 * (D % n) + x) % n = (x + 4294967296 * D) % n := by
  have h := Nat.mod_add_div D n
  have e : x + 4294967296 * D = (4294967296 * (D % n) + x) + n * (4294967296 * (D / n)) := by
    conv => lhs; rw [← h]
    rw [Nat.mul_add, Nat.mul_left_comm n]; omega
  rw [e, Nat.add_mul_div_left _ _ hn, Nat.add_mul_mod_self_left]
  exact ⟨rfl, rfl⟩

theorem div_ctr (nl nl' : Bool) (a b : List Nat) (cap cap' : Option Nat) (ha : Dig a) (hb : Dig b) (hl : a.length ≤ 40000) (hl' : b.length ≤ 40000) : Ctr Try.prog 35 [sl nl a cap, sl nl' b cap'] (divPost (val a) (val b)) := by
  refine ctr_in Try.func35 rfl (by kernel_rfl) rfl fun K hK => ?_
  have hc : ∀ n l c, cellsOf (sl n l c) = some [sl n l c] := fun _ _ _ => rfl
  simp [Try.f35, hc, -cellsOf]
  refine acall_by (trim_ctr nl' b cap' hb (by omega)) (by simp [sl]) ?_
  rintro _ ⟨n1, c1, rfl⟩
  have hbl : (trimL b).length ≤ 40000 := Nat.le_trans (trim_len b) hl'
  rw [trim_ofN hb] at hbl ⊢
  simp [hc, -cellsOf]
  by_cases hb0 : ofN (val b) = []
  · have hv0 := ofN_nil.1 hb0
    simp [sl, hb0]
    exact hK _ _ _ (.same _ (pu_tup (by simp))) (by rw [divPost, if_pos hv0]; rfl)
  · have hv0 : val b ≠ 0 := fun h => hb0 (ofN_nil.2 h)
    have hlen0 : ¬ (ofN (val b)).length = 0 := fun h => hb0 (List.eq_nil_of_length_eq_zero h)
    have hlb : ∀ k σ (K : AV → AHeap → Prop), aLen Try.prog 23 (sl k (ofN (val b)) c1) σ K = K (i (ofN (val b)).length) σ := fun k σ K => by simp [sl]
    simp [hlb, hb0]
    refine acall_by (trim_ctr nl a cap ha (by omega)) (by simp [sl]) ?_
    rintro _ ⟨n2, c2, rfl⟩
    have hal : (trimL a).length ≤ 40000 := Nat.le_trans (trim_len a) hl
    rw [trim_ofN ha] at hal ⊢
    have had := dig_ofN (val a)
    have hav := val_ofN (val a)
    generalize ofN (val a) = x at *
    have hlx : ∀ k σ (K : AV → AHeap → Prop), aLen Try.prog 23 (sl k x c2) σ K = K (i x.length) σ := fun k σ K => by simp [sl]
    have hc2 : ∀ i v o n z c, cellsOf (AV.so i v o n z c) = some [AV.so i v o n z c] := fun _ _ _ _ _ _ => rfl
    simp [hlx, hc, hc2, -cellsOf]
    refine ⟨by omega, ?_⟩
    refine backward_call rfl ?_
    simp
    refine range_on (lb := [.po 4 0 0]) (by simp) Try.func83 rfl (by kernel_rfl) ?_
    refine back_iter_pl (nl := n2) (a := x) (cap := c2) (by omega) (fun k σ' => 5 ≤ σ'.length ∧ σ'[0]? = some ⟨.own, 0, [sl n1 (ofN (val b)) c1]⟩ ∧ (∃ Q, Q.length = k ∧ Dig Q ∧ val Q = val (x.drop (x.length - k)) / val b ∧ σ'[1]? = some ⟨.own, 0, (List.replicate (x.length - k) 0 ++ Q).map dg⟩) ∧
      σ'[2]? = some ⟨.own, 0, [.so 1 0 0 x.length 1 (some x.length)]⟩ ∧ (∃ n3 c3, σ'[3]? = some ⟨.own, 0, [sl n3 (ofN (val (x.drop (x.length - k)) % val b)) c3]⟩) ∧ σ'[4]? = some ⟨.own, 0, [sl n2 x c2]⟩) ?_ ?_ ?_ ?_
    · refine ⟨by simp, by simp, ⟨[], rfl, dig_nil, by simp [val], by simp⟩, by simp, ⟨true, some 0, by simp [val, ofN_zero, sl]⟩, by simp⟩
    · rintro k σ' ⟨_, _, _, _, _, h⟩; exact h
    · rintro k σ0 hk ⟨h5, g0, ⟨Q, hQl, hQd, hQv, g1⟩, g2, ⟨n3, c3, g3⟩, g4⟩ Kt hKt
      obtain ⟨m, hm⟩ : ∃ m, m = x.length - 1 - k := ⟨_, rfl⟩
      have hml : m < x.length := by omega
      have hx := had.at hml
      have e1 : x.length - k = m + 1 := by omega
      have e2 : x.length - (k + 1) = m := by omega
      rw [e2] at hKt
      rw [e1] at g1 g3 hQv
      simp only [← hm]
      obtain ⟨D, hD⟩ : ∃ D, D = val (x.drop (m + 1)) := ⟨_, rfl⟩
      have hD' : val (x.drop m) = x[m] + 4294967296 * D := by rw [List.drop_eq_getElem_cons hml, val, hD]
      rw [← hD] at g3 hQv
      rw [hD'] at hKt
      have hn0 : 0 < val b := by omega
      obtain ⟨st1, st2⟩ := div_step D (val b) x[m] hn0
      have hmod : D % val b < val b := Nat.mod_lt _ hn0
      obtain ⟨R, hR⟩ : ∃ R, R = 4294967296 * (D % val b) + x[m] := ⟨_, rfl⟩
      rw [← hR] at st1 st2
      have hRlt : R < 4294967296 * val b := by omega
      have hRl : (ofN R).length ≤ 45000 := by
        refine ofN_le (j := b.length + 1) ?_ (by omega)
        have h1 := val_lt hb
        rw [Nat.pow_succ]
        omega
      have hDl : (ofN (D % val b)).length ≤ 45000 := by
        exact ofN_le (Nat.lt_trans hmod (val_lt hb)) (by omega)
      have gl : ∀ σ', Same σ0.length σ0 σ' → σ'[0]? = some ⟨.own, 0, [sl n1 (ofN (val b)) c1]⟩ ∧ σ'[1]? = some ⟨.own, 0, (List.replicate (m + 1) 0 ++ Q).map dg⟩ ∧ σ'[2]? = some ⟨.own, 0, [.so 1 0 0 x.length 1 (some x.length)]⟩ ∧ σ'[3]? = some ⟨.own, 0, [sl n3 (ofN (D % val b)) c3]⟩ ∧ σ'[4]? = some ⟨.own, 0, [sl n2 x c2]⟩ := fun σ' h =>
        ⟨(h.eq 0 (by omega)).trans g0, (h.eq 1 (by omega)).trans g1, (h.eq 2 (by omega)).trans g2, (h.eq 3 (by omega)).trans g3, (h.eq 4 (by omega)).trans g4⟩
      have hw : IntKind.u64.wrap (x[m] : Int) = (x[m] : Int) := wu _ (by omega)
      have hd0 : Dig (0 :: ofN (D % val b)) := fun y hy => by
        rcases List.mem_cons.1 hy with rfl | hy
        · decide
        · exact dig_ofN _ y hy
      have hv0' : val (0 :: ofN (D % val b)) + val (ofN x[m]) = R := by rw [val, val_ofN, val_ofN, hR]; omega
      have hxl : (ofN x[m]).length ≤ 2 := by rw [len_ofN]; exact Nat.lt_of_lt_of_le hx (by decide)
      simp [bodyW, g3, -getElem?_pos]
      refine clone_cl (a := ofN (D % val b)) (by omega) fun r more' hr => ?_
      have hS1 : Same σ0.length σ0 (σ0 ++ more') := same_app (Nat.le_refl _)
      generalize σ0 ++ more' = σ1 at hr hS1 ⊢
      simp
      refine insert_call2 hr (by omega) hS1.lo' fun r' σ2 hr' hN' hS2 => ?_
      have hS2' := hS1.trans hS2
      simp [hw]
      refine acall_by (from_ctr x[m] (by omega)) (by simp) ?_
      rintro _ ⟨n4, c4, rfl⟩
      simp
      refine call_lie2 hr' hN' hS2'.lo' (by simp [sl]) (fun nl5 cap5 => add_ctr nl5 n4 _ _ cap5 c4 hd0 (dig_ofN _) (by simp; omega) (by omega)) ?_
      rintro _ σ3 ⟨n5, c5, rfl⟩ hS3
      rw [hv0']
      have hS3' := hS2'.trans hS3
      have hl3 := hS3'.lo'
      obtain ⟨p0, p1, p2, p3, p4⟩ := gl σ3 hS3'
      have s3 : ∀ y : ABlk, (σ3.set 3 y)[3]? = some y := fun y => List.getElem?_set_self (by omega)
      have s0 : ∀ y : ABlk, (σ3.set 3 y)[0]? = some ⟨.own, 0, [sl n1 (ofN (val b)) c1]⟩ := fun y => (List.getElem?_set_ne (by decide)).trans p0
      have s1 : ∀ y : ABlk, (σ3.set 3 y)[1]? = some ⟨.own, 0, (List.replicate (m + 1) 0 ++ Q).map dg⟩ := fun y => (List.getElem?_set_ne (by decide)).trans p1
      have s2 : ∀ y : ABlk, (σ3.set 3 y)[2]? = some ⟨.own, 0, [.so 1 0 0 x.length 1 (some x.length)]⟩ := fun y => (List.getElem?_set_ne (by decide)).trans p2
      have s4 : ∀ y : ABlk, (σ3.set 3 y)[4]? = some ⟨.own, 0, [sl n2 x c2]⟩ := fun y => (List.getElem?_set_ne (by decide)).trans p4
      have s5 : ∀ y : ABlk, (σ3.set 3 y).length = σ3.length := fun y => List.length_set
      simp [p3, hc, -cellsOf, -getElem?_pos]
      generalize hσ4 : σ3.set 3 _ = σ4
      have q3 := s3 ⟨.own, 0, [sl n5 (ofN R) c5]⟩
      have q0 := s0 ⟨.own, 0, [sl n5 (ofN R) c5]⟩
      have q1 := s1 ⟨.own, 0, [sl n5 (ofN R) c5]⟩
      have q2 := s2 ⟨.own, 0, [sl n5 (ofN R) c5]⟩
      have q4 := s4 ⟨.own, 0, [sl n5 (ofN R) c5]⟩
      have q5 := s5 ⟨.own, 0, [sl n5 (ofN R) c5]⟩
      rw [hσ4] at q3 q0 q1 q2 q4 q5
      simp [q3, p0, -getElem?_pos]
      refine acall_by (share_ctr n5 n1 (ofN R) (ofN (val b)) c5 c1 (dig_ofN _) (dig_ofN _) (by omega) (by omega) (by rw [val_ofN, val_ofN]; exact hRlt)) (by simp [sl]) ?_
      rintro _ rfl
      rw [val_ofN, val_ofN]
      obtain ⟨q, hq⟩ : ∃ q, q = R / val b := ⟨_, rfl⟩
      rw [← hq] at st1 ⊢
      have hqB : q < 4294967296 := by rw [hq]; exact (Nat.div_lt_iff_lt_mul hn0).2 hRlt
      have hqc : IntKind.u32.wrap (q : Int) = (q : Int) := w32' q hqB
      have hqR : val b * q ≤ R := by rw [hq]; exact Nat.mul_div_le _ _
      have hqm : R - val b * q = R % val b := by have := Nat.div_add_mod R (val b); rw [← hq] at this; omega
      obtain ⟨Z, hZ⟩ : ∃ Z, Z = List.replicate (m + 1) 0 ++ Q := ⟨_, rfl⟩
      rw [← hZ] at q1
      have hset : (Z.map dg).set m (AV.v (Value.int IntKind.u32 (q : Int))) = (List.replicate m 0 ++ q :: Q).map dg := by
        have e : (List.replicate (m + 1) 0 ++ Q).set m q = List.replicate m 0 ++ q :: Q := by
          have e3 : List.replicate (m + 1) 0 = List.replicate m 0 ++ [0] := List.replicate_succ'
          rw [e3, List.append_assoc, List.set_append_right _ _ (by simp)]
          simp
        rw [← e, List.map_set, hZ]; rfl
      have hmQ : m + 1 ≤ Z.length := by rw [hZ]; simp
      simp [q2, q1, hqc, hml, -getElem?_pos, List.getElem?_cons_zero, hmQ]
      rw [hset]
      generalize hσ5 : σ4.set 1 _ = σ5
      have r1 : σ5[1]? = some ⟨.own, 0, (List.replicate m 0 ++ q :: Q).map dg⟩ := by rw [← hσ5]; exact List.getElem?_set_self (by omega)
      have r0 : σ5[0]? = some ⟨.own, 0, [sl n1 (ofN (val b)) c1]⟩ := by rw [← hσ5]; exact (List.getElem?_set_ne (by decide)).trans q0
      have r2 : σ5[2]? = some ⟨.own, 0, [.so 1 0 0 x.length 1 (some x.length)]⟩ := by rw [← hσ5]; exact (List.getElem?_set_ne (by decide)).trans q2
      have r3 : σ5[3]? = some ⟨.own, 0, [sl n5 (ofN R) c5]⟩ := by rw [← hσ5]; exact (List.getElem?_set_ne (by decide)).trans q3
      have r4 : σ5[4]? = some ⟨.own, 0, [sl n2 x c2]⟩ := by rw [← hσ5]; exact (List.getElem?_set_ne (by decide)).trans q4
      have r5 : σ5.length = σ3.length := by rw [← hσ5, List.length_set]; exact q5
      refine draw_on [1, 1, 0, 3, 3, 0, 0, 0, 4] orders (by decide) ?_
      have l0 : 0 < σ5.length := by omega
      have l3 : 3 < σ5.length := by omega
      simp [r3, r0, l0, l3, -getElem?_pos]
      refine acall_by (scale_ctr n1 (ofN (val b)) c1 q (dig_ofN _) (by omega) (by omega)) (by simp [sl]) ?_
      rintro _ ⟨n6, c6, rfl⟩
      have hpl : (ofN (val b * q)).length ≤ 45000 := by
        rw [len_ofN]
        exact Nat.lt_of_le_of_lt hqR ((len_ofN R 45000).1 hRl)
      rw [val_ofN]
      simp
      refine acall_by (sub_ctr n5 n6 (ofN R) (ofN (val b * q)) c5 c6 (dig_ofN _) (dig_ofN _) (by omega) (by omega)) (by simp [sl]) ?_
      intro y hy
      rw [subPost, val_ofN, val_ofN, if_neg (by omega), hqm, st2] at hy
      obtain ⟨n7, c7, rfl⟩ := hy
      simp [hc, -cellsOf, r3, -getElem?_pos, List.getElem?_cons_zero]
      refine hKt _ ⟨by rw [List.length_set]; omega, ?_, ⟨q :: Q, by simp [hQl], ?_, ?_, ?_⟩, ?_, ⟨n7, c7, ?_⟩, ?_⟩
      · exact (List.getElem?_set_ne (by decide)).trans r0
      · intro y hy
        rcases List.mem_cons.1 hy with rfl | hy
        · exact hqB
        · exact hQd y hy
      · rw [val, hQv]; exact st1
      · exact (List.getElem?_set_ne (by decide)).trans r1
      · exact (List.getElem?_set_ne (by decide)).trans r2
      · exact List.getElem?_set_self l3
      · exact (List.getElem?_set_ne (by decide)).trans r4
    · rintro σ0 ⟨h5, g0, ⟨Q, hQl, hQd, hQv, g1⟩, g2, ⟨n3, c3, g3⟩, g4⟩
      simp only [Nat.sub_self, List.drop_zero, List.replicate_zero, List.nil_append] at g1 g3 hQv
      rw [hav] at g3 hQv
      have l2 : 2 < σ0.length := by omega
      have l3 : 3 < σ0.length := by omega
      simp
      refine aw_froze [1] ?_
      have f0 := froze_at g1
      have f2 : (froze σ0 [1])[2]? = _ := (froze_ne (by decide)).trans g2
      have f3 : (froze σ0 [1])[3]? = _ := (froze_ne (by decide)).trans g3
      have fl : (froze σ0 [1]).length = σ0.length := froze_length _
      generalize froze σ0 [1] = σ1 at f0 f2 f3 fl ⊢
      rw [← fl] at l2 l3
      refine draw_on [1, 3, 1, 0, 0, 0] orders (by decide) ?_
      simp [f2, l2, -getElem?_pos, List.getElem?_cons_zero]
      refine acall_froze [1] (trim_ctr false Q (some x.length) hQd (by omega)) rfl (fun k hk => ?_) ?_
      · simp at hk
        subst hk
        exact isSl_so f0 (fun h => by cases h) hQl.symm (by simp) (fun m hm => by simp [hm]) rfl (by simp)
      rintro _ ⟨n8, c8, rfl⟩
      rw [froze_self f0, trim_ofN hQd, hQv]
      simp [f3, l3, -getElem?_pos]
      exact hK _ _ _ (.same _ (pu_tup (by simp [sl]))) (by rw [divPost, if_neg hv0]; exact ⟨_, _, _, _, rfl⟩)
end Go.Proofs.Nt
