/- The naturals: slices.Insert at the front; Mul. -/
import Derived.Test.YtmfnjmcgmogncaaVn14
import Derived.Lib.Overlaps
set_option linter.unusedVariables false
set_option maxRecDepth 20000
set_option linter.unusedSimpArgs false
namespace Go.Proofs.Nt
open Go Go.Proofs Go.Proofs.Va

/-- A row that nobody writes and a block of the call's own share nothing. -/
theorem overlaps_call {n j v' n' off : Nat} {nl : Bool} {cs : List AV} {k1 k : Nat} {σ : AHeap} {b' : ABlk} {K : AV → AHeap → Prop} (hb' : σ[j]? = some b') (ho' : b'.kind = .own) (hv' : b'.ver = v') (hcs : 0 < cs.length) (hk : 0 < k)
    (h : K (bo false) σ) : ACall Try.prog 86 [.pl nl cs n (some k1), .so j v' off n' 1 (some k)] σ K := by
  intro w0 ρ fz w vs hh hr
  obtain ⟨hl, hR⟩ := hr
  have h0 := hR 0 (by simp)
  have h1 := hR 1 (by simp)
  obtain ⟨a1, c1, bb, oo, us, e1, _, _, _, _, ha1, hfz, _, _, _, hfr⟩ := R.pl_inv' h0
  obtain ⟨_, q2, _, _, h1⟩ := R.so_inv h1
  rw [hb'] at q2; cases q2
  obtain ⟨a2, c2, e2, l2, p2, g2, cells2, el2, fr2, r2, s2⟩ := h1 hv' (by rw [ho']; decide)
  have hc2 := p2 k rfl
  have ha2 := g2 (by omega)
  have ha1 := ha1 hcs
  subst ha1
  obtain ⟨cells1, el1, w1⟩ := hfr _ rfl hcs
  obtain ⟨_, _, _, q3, q4, q5, _⟩ := hh.blk j b' hb' (by rw [ho']; decide)
  have hne : bb ≠ (ρ j).1 := fun hh' => q5 ho' (hh' ▸ hfz hcs)
  have hvs : vs = #[.slice (some ⟨bb, oo, none⟩) n c1, .slice (some a2) n' c2] := by
    apply Array.ext
    · simpa using hl
    · intro q hq1 hq2
      have : q = 0 ∨ q = 1 := by simp at hl; omega
      rcases this with rfl | rfl
      · simpa [Array.getD, hq1] using e1
      · simpa [Array.getD, hq1] using e2
  have hrun : (callFunc 86 vs).run Try.prog w = .ok (.value (.bool false)) w := by
    rw [hvs, run_callFunc_extern Try.func86 (by kernel_rfl) (by kernel_rfl) (by kernel_rfl) (e := Extern.SlicesOverlaps.overlaps #[22, 22] #[4]) (by kernel_rfl),
      Lib.run_overlaps_apart w 22 4 62 und22 1 (fun w => run_szT sz44 w) ⟨bb, oo, none⟩ a2 n c1 n' c2 (by rw [ha2]; exact hne) el1 el2 cells1.size cells2.size (by simp [World.shape?, w1]) (by rw [ha2]; simp [World.shape?, r2]) (by omega) (by simp [World.frozen?, w1]) (by simp [World.frozen?, w1])]
    rfl
  exact .inr ⟨.bool false, w, bo false, σ, ρ, fz, hrun, h, hh, .pure _ _ (.v _), Ev.refl _ _ _ _ (Nat.le_refl _)⟩

/-- What Clone gives and Insert takes. -/
inductive Cl (σ : AHeap) (n0 : Nat) : AV → List Nat → Prop
  | nil : Cl σ n0 (.pl true [] 0 (some 0)) []
  | e (j v : Nat) : σ[j]? = some ⟨.own, v, []⟩ → n0 ≤ j → Cl σ n0 (.so j v 0 0 1 none) []
  | sc (j v c : Nat) (l : List Nat) : σ[j]? = some ⟨.own, v, l.map dg ++ List.replicate (c - l.length) (dg 0)⟩ → l.length ≤ c → l ≠ [] → n0 ≤ j → Cl σ n0 (.so j v 0 l.length 1 (some c)) l

theorem clone_cl {σ : AHeap} {nl : Bool} {a : List Nat} {cap : Option Nat} {K : AV → AHeap → Prop} (ha : a.length ≤ 1000000)
    (hK : ∀ r more, Cl (σ ++ more) σ.length r a → K r (σ ++ more)) : ACall Try.prog 74 [sl nl a cap] σ K := by
  refine acall_in Try.func74 rfl (by kernel_rfl) rfl ?_
  unfold sl
  by_cases h0 : a = []
  · subst h0
    cases nl
    · simp [Try.f74]
      have := hK (.so σ.length 1 0 0 1 none) ([⟨.own, 1, []⟩] : AHeap) (.e _ _ (by simp) (Nat.le_refl _))
      simpa using this
    · simp [Try.f74]
      have := hK (.pl true [] 0 (some 0)) ([] : AHeap) .nil
      simpa using this
  · have hp : 0 < a.length := List.length_pos_iff.2 h0
    simp [Try.f74, h0]
    refine ⟨by omega, fun c hc => ?_⟩
    have := hK (.so (σ.length + 1) 0 0 a.length 1 (some c)) ([⟨.own, 0, []⟩, ⟨.own, 0, a.map dg ++ List.replicate (c - a.length) (dg 0)⟩] : AHeap) (.sc _ _ _ _ (by simp) hc h0 (by omega))
    simpa using this

theorem take_tail {X Z : List AV} (h : 0 < X.length) : (X.take 1 ++ Z).tail = Z := by
  cases X with
  | nil => simp at h
  | cons x X => simp
set_option maxHeartbeats 1000000 in
theorem insert_call {σ : AHeap} {r : AV} {a : List Nat} {N : Nat} {K : AV → AHeap → Prop} (hr : Cl σ N r a) (ha : a.length ≤ 1000000) (hN : N ≤ σ.length)
    (hK : ∀ r' σ', Lie σ' r' (0 :: a) → (∀ j v n c, r' = .so j v 0 n 1 c → N ≤ j) → Same N σ σ' → K r' σ') : ACall Try.prog 73 [r, i 0, .pl false [dg 0] 1 (some 1)] σ K := by
  refine acall_in Try.func73 rfl (by kernel_rfl) rfl ?_
  have w1 : IntKind.i64.wrap 1 = 1 := w64 _ (by omega) (by omega)
  have bnd : ∀ (j v n : Nat) (c : Option Nat), N ≤ j → ∀ j' v' n' c', AV.so j v 0 n 1 c = .so j' v' 0 n' 1 c' → N ≤ j' := fun j v n c h j' v' n' c' e => by cases e; exact h
  cases hr with
  | nil =>
    simp [Try.f73]
    have := hK (.so σ.length 0 0 1 1 none) (σ ++ ([⟨.own, 0, [dg 0]⟩] : AHeap)) (.so _ _ none [] rfl (by simp)) (bnd _ _ _ _ hN) (same_app hN)
    simpa using this
  | e j v hj hNj =>
    have hlt := (List.getElem?_eq_some_iff.1 hj).1
    simp [Try.f73, hj]
    refine hK _ _ (.so j (v + 1) none [] rfl (by rw [List.getElem?_set_self hlt]; simp)) (bnd _ _ _ _ hNj) ⟨hN, by simpa using hN, fun k hk => ?_⟩
    rw [List.getElem?_set_ne (by omega)]
  | sc j v c l hj hc h0 hNj =>
    have hlt := (List.getElem?_eq_some_iff.1 hj).1
    have hp : 0 < a.length := List.length_pos_iff.2 h0
    have hp' : ¬ (0 = a.length) := by omega
    obtain ⟨m, hm⟩ : ∃ m, m = a.length + 1 := ⟨_, rfl⟩
    have hw : IntKind.i64.wrap ((a.length : Int) + 1) = (m : Int) := by rw [w64 _ (by omega) (by omega)]; omega
    have hwm : IntKind.i64.wrap (m : Int) = (m : Int) := w64 _ (by omega) (by omega)
    have hm1 : 1 ≤ m := by omega
    by_cases hcm : c < m
    · simp [Try.f73, hj, h0, hp', hw, hcm, hwm, hc]
      refine ⟨by omega, fun c' hc' => ⟨hc', ?_⟩⟩
      have h1m : (1 : Int) ≤ (m : Int) := by omega
      have hmt : ((m : Int) - 1).toNat = a.length := by omega
      refine draw_on [0, 0, 0, 0, 1, 0, 0, 1, 4] orders (by decide) ?_
      simp [List.getElem?_append_left hlt, hj, w1, h1m, hmt, hm1, hc]
      refine ⟨by omega, by omega, by omega, ?_⟩
      refine hK _ _ (.so σ.length 0 (some c') (List.replicate (c' - m) (dg 0)) (by simp [hm]) ?_) (bnd _ _ _ _ hN) (same_app hN)
      have e1 : List.take a.length (List.map dg a) = List.map dg a := List.take_of_length_le (by simp)
      have e2 : 1 + a.length = m := by omega
      have e3 : List.drop m (AV.v (Value.int IntKind.u32 0) :: List.replicate (m + (c' - m) - 1) (AV.v (Value.int IntKind.u32 0))) = List.replicate (c' - m) (dg 0) := by
        rw [← List.replicate_succ, List.drop_replicate]
        show List.replicate _ (dg 0) = _
        congr 1; omega
      rw [e1, e2, e3]
      simp
    · have hcm' : m ≤ c := by omega
      have hs1 : ∀ (x : ABlk), (List.set σ j x)[j]? = some x := fun x => by rw [List.getElem?_set_self hlt]
      simp [Try.f73, hj, h0, hp', hw, hcm, hcm', w1, hc, hm1]
      refine overlaps_call hj rfl rfl (by simp) (by omega) ?_
      simp
      refine draw_on [0, 0, 0, 0, 1, 0, 0, 1, 4] orders (by decide) ?_
      simp [hj, w1, hm1, hcm', hc, hs1, -getElem?_pos]
      have e1 : List.take (m - 1) (List.take m (List.map dg a ++ List.replicate (c - a.length) (dg 0))) = List.map dg a := by
        rw [List.take_take, show min (m - 1) m = a.length by omega, List.take_append_of_le_length (by simp), List.take_of_length_le (by simp)]
      have e2 := take_tail (X := List.map dg a ++ List.replicate (c - a.length) (dg 0)) (Z := List.take (m - 1) (List.take m (List.map dg a ++ List.replicate (c - a.length) (dg 0))) ++ List.drop m (List.map dg a ++ List.replicate (c - a.length) (dg 0))) (by simp; omega)
      have ed : dg 0 = AV.v (Value.int IntKind.u32 0) := rfl
      refine ⟨by omega, by omega, hK _ _ (.so j v (some c) (List.drop m (List.map dg a ++ List.replicate (c - a.length) (dg 0))) (by simp [hm]) ?_) (bnd _ _ _ _ hNj) ⟨hN, by simpa using hN, fun k hk => ?_⟩⟩
      · rw [List.getElem?_set_self hlt]
        rw [e1] at e2
        rw [ed] at e1 e2 ⊢
        rw [e1, e2]; rfl
      · rw [List.getElem?_set_ne (by omega)]

/-! ### Mul -/
theorem Lie.at {σ : AHeap} {r : AV} {a : List Nat} (h : Lie σ r a) : ∃ nl cap, ∀ S : Nat → Prop, (∀ j v n c, r = .so j v 0 n 1 c → S j) → Pur σ S r (Nt.sl nl a cap) := by
  cases h with
  | nil h1 h2 => exact ⟨true, some 0, fun S _ => by subst h1; subst h2; simp [Nt.sl]⟩
  | so j v cap more h1 h2 =>
    subst h1
    exact ⟨false, cap, fun S hS => isSl_so h2 (fun h => by cases h) rfl (by simp) (fun m hm => by simp [dgs_get hm]) rfl (hS _ _ _ _ rfl)⟩

theorem call_lie2 {g : FuncId} {σ : AHeap} {r y : AV} {l : List Nat} {N : Nat} {Post : AV → Prop} {K : AV → AHeap → Prop} (h : Lie σ r l) (hN : ∀ j v n c, r = .so j v 0 n 1 c → N ≤ j) (hNσ : N ≤ σ.length) (hy : Pu y) (hc : ∀ nl cap, Ctr Try.prog g [sl nl l cap, y] Post) (hK : ∀ r σ', Post r → Same N σ σ' → K r σ') : ACall Try.prog g [r, y] σ K := by
  cases h with
  | nil h1 h2 => subst h1; subst h2; exact acall_by (hc true (some 0)) (by simp [Nt.sl, hy]) fun r hr => hK r _ hr (Same.refl hNσ)
  | so j v cap more h1 hj =>
    subst h1
    have hjN := hN _ _ _ _ rfl
    refine acall_froze [j] (hc false cap) rfl (fun k hk => ?_) fun r hr => hK r _ hr ⟨hNσ, by rw [froze_length]; exact hNσ, fun i hi => ?_⟩
    · simp at hk
      have : k = 0 ∨ k = 1 := by omega
      rcases this with rfl | rfl
      · exact isSl_so hj (fun h => by cases h) rfl (by simp) (fun m hm => by simp [dgs_get hm]) rfl (by simp)
      · exact .same _ hy
    · rw [froze_get]
      cases σ[i]? with
      | none => rfl
      | some b => simp; omega

theorem mul_ctr (nl nl' : Bool) (a b : List Nat) (cap cap' : Option Nat) (ha : Dig a) (hb : Dig b) (hl : a.length ≤ 40000) (hl' : b.length ≤ 40000) : Ctr Try.prog 31 [sl nl a cap, sl nl' b cap'] (Told (ofN (val a * val b))) := by
  refine ctr_in Try.func31 rfl (by kernel_rfl) rfl fun K hK => ?_
  have hcb : cellsOf (sl nl' b cap') = some [sl nl' b cap'] := rfl
  simp [Try.f31, hcb, -cellsOf]
  refine backward_call rfl ?_
  simp
  refine range_on (lb := [.po 2 0 0]) (by simp) Try.func83 rfl (by kernel_rfl) ?_
  refine back_iter_pl (nl := nl) (a := a) (cap := cap) (by omega) (fun k σ' => 3 ≤ σ'.length ∧ σ'[0]? = some ⟨.own, 0, [sl nl' b cap']⟩ ∧ (∃ n2 c2, σ'[1]? = some ⟨.own, 0, [sl n2 (ofN (val (a.drop (a.length - k)) * val b)) c2]⟩) ∧ σ'[2]? = some ⟨.own, 0, [sl nl a cap]⟩) ?_ ?_ ?_ ?_
  · refine ⟨by simp, by simp, ⟨true, some 0, ?_⟩, by simp [sl]⟩
    simp [sl, val, ofN_zero]
  · rintro k σ' ⟨_, _, _, h⟩; exact h
  · rintro k σ0 hk ⟨h3, g0, ⟨n2, c2, g1⟩, g2⟩ Kt hKt
    obtain ⟨m, hm⟩ : ∃ m, m = a.length - 1 - k := ⟨_, rfl⟩
    have hml : m < a.length := by omega
    have hx := ha.at hml
    have e1 : a.length - k = m + 1 := by omega
    have e2 : a.length - (k + 1) = m := by omega
    rw [e2] at hKt
    rw [e1] at g1
    simp only [← hm]
    obtain ⟨S, hS⟩ : ∃ S, S = val (a.drop (m + 1)) * val b := ⟨_, rfl⟩
    rw [← hS] at g1
    have hSl : (ofN S).length ≤ 90000 := by
      refine ofN_le (j := (a.drop (m + 1)).length + b.length) ?_ (by simp; omega)
      rw [Nat.pow_add, hS]
      exact Nat.mul_lt_mul'' (val_lt (dig_drop ha (m + 1))) (val_lt hb)
    have hw : IntKind.u64.wrap (a[m] : Int) = (a[m] : Int) := wu _ (by omega)
    have hstep : val (0 :: ofN S) + val (ofN (val b * a[m])) = val (a.drop m) * val b := by
      rw [val, val_ofN, val_ofN, hS, List.drop_eq_getElem_cons hml, val, Nat.add_mul, Nat.mul_comm (val b), Nat.zero_add, Nat.add_comm, Nat.mul_assoc]
    have hd0 : Dig (0 :: ofN S) := fun x hx => by
      rcases List.mem_cons.1 hx with rfl | hx
      · decide
      · exact dig_ofN _ x hx
    have hbl : (ofN (val b * a[m])).length ≤ 90000 := by
      refine ofN_le (j := b.length + 1) ?_ (by omega)
      rw [Nat.pow_succ]
      exact Nat.mul_lt_mul'' (val_lt hb) hx
    have gl : ∀ σ', Same σ0.length σ0 σ' → σ'[0]? = some ⟨.own, 0, [sl nl' b cap']⟩ ∧ σ'[1]? = some ⟨.own, 0, [sl n2 (ofN S) c2]⟩ ∧ σ'[2]? = some ⟨.own, 0, [sl nl a cap]⟩ := fun σ' h =>
      ⟨(h.eq 0 (by omega)).trans g0, (h.eq 1 (by omega)).trans g1, (h.eq 2 (by omega)).trans g2⟩
    simp [bodyW]
    refine draw_on [1, 3, 0, 3, 1, 0, 0, 3, 3, 4] orders (by decide) ?_
    have l0 : 0 < σ0.length := by omega
    have l1 : 1 < σ0.length := by omega
    simp [g1, l1, -getElem?_pos]
    refine clone_cl (a := ofN S) (by omega) fun r more' hr => ?_
    simp
    refine insert_call (N := σ0.length) hr (by omega) (by simp) fun r' σ' hr' hN' hS' => ?_
    have hSS : Same σ0.length σ0 σ' := (same_app (Nat.le_refl _)).trans hS'
    obtain ⟨q0, q1, q2⟩ := gl σ' hSS
    simp [hS', l0, q0, hw, -getElem?_pos]
    refine acall_by (scale_ctr nl' b cap' a[m] hb (by omega) (by omega)) (by simp [sl]) ?_
    rintro _ ⟨n3, c3, rfl⟩
    simp [hSS.lo']
    refine call_lie2 hr' hN' hSS.lo' (by simp [sl]) (fun nl4 cap4 => add_ctr nl4 n3 _ _ cap4 c3 hd0 (dig_ofN _) (by simp; omega) (by omega)) ?_
    rintro _ σ4 ⟨n5, c5, rfl⟩ hS4
    obtain ⟨p0, p1, p2⟩ := gl σ4 (hSS.trans hS4)
    rw [hstep]
    have hcs : cellsOf (sl n5 (ofN (val (a.drop m) * val b)) c5) = some [sl n5 (ofN (val (a.drop m) * val b)) c5] := rfl
    simp [hS4, p1, -getElem?_pos, hcs, -cellsOf]
    refine hKt _ ⟨by have := hS4.lo'; rw [List.length_set]; omega, ?_, ⟨n5, c5, ?_⟩, ?_⟩
    · rw [List.getElem?_set_ne (by omega)]; exact p0
    · rw [List.getElem?_set_self (by have := hS4.lo'; omega)]
    · rw [List.getElem?_set_ne (by omega)]; exact p2
  · rintro σ0 ⟨h3, g0, ⟨n2, c2, g1⟩, g2⟩
    simp [g1]
    refine hK _ _ _ (.same _ (by simp [sl])) ⟨n2, c2, rfl⟩
end Go.Proofs.Nt
