/- The naturals: the document's Mul. -/
import Derived.Test.YtmfnjmcgmogncaaVn14
set_option linter.unusedVariables false
set_option maxRecDepth 20000
set_option linter.unusedSimpArgs false
namespace Go.Proofs.Nt
open Go Go.Proofs Go.Proofs.Va

theorem val_set {o : List Nat} {p x : Nat} (hp : p < o.length) : val (o.set p x) + 4294967296 ^ p * o[p] = val o + 4294967296 ^ p * x := by
  have h1 : o.set p x = o.take p ++ x :: o.drop (p + 1) := List.set_eq_take_append_cons_drop.trans (by rw [if_pos hp])
  have h2 := val_split o p (by omega)
  rw [List.drop_eq_getElem_cons hp, val] at h2
  rw [h1, val_append, List.length_take, Nat.min_eq_left (by omega), val, h2, Nat.mul_add, Nat.mul_add]
  omega
theorem dig_set {o : List Nat} (h : Dig o) (p x : Nat) : Dig (o.set p (x % 4294967296)) := fun y hy => by
  rcases List.mem_or_eq_of_mem_set hy with hy | rfl
  · exact h y hy
  · exact Nat.mod_lt _ (by decide)

/-- One step of a row: what stands there, and what is carried. -/
theorem mul_step {Vn V W P o m q x c : Nat} (h1 : Vn + P * o = V + P * m) (h2 : m + 4294967296 * q = x + o + c) (h3 : V + P * c = W) : Vn + P * 4294967296 * q = W + P * x := by
  have h4 := carry_step (P := P) h2
  rw [Nat.mul_add, Nat.mul_add] at h4
  omega
theorem val_zeros (n : Nat) : val (List.replicate n 0) = 0 := by
  induction n with
  | zero => rfl
  | succ n ih => rw [List.replicate_succ, val, ih]
theorem zero_at {o : List Nat} (hd : Dig o) {p : Nat} (h : val o < 4294967296 ^ p) (hp : p < o.length) : o[p] = 0 := by
  have h1 := val_div hd p
  rw [Nat.div_eq_of_lt h, val_drop_one] at h1
  have : at' o p = 0 := by omega
  simpa [at', hp] using this

theorem rmul_ctr (nl nl' : Bool) (a b : List Nat) (cap cap' : Option Nat) (ha : Dig a) (hb : Dig b) (hl : a.length ≤ 40000) (hl' : b.length ≤ 40000) : Ctr Try.prog 32 [sl nl a cap, sl nl' b cap'] (Told (ofN (val a * val b))) := by
  refine ctr_in Try.func32 rfl (by kernel_rfl) rfl fun K hK => ?_
  obtain ⟨n, hn⟩ : ∃ n, n = a.length + b.length := ⟨_, rfl⟩
  have hw0 : IntKind.i64.wrap ((a.length : Int) + (b.length : Int)) = (n : Int) := by rw [w64 _ (by omega) (by omega)]; omega
  simp [Try.f32, sl, hw0]
  refine ⟨⟨by omega, by omega⟩, ?_⟩
  refine loop_on (γ := Nat × List Nat) 68 (fun g => [(0, sl nl a cap), (1, sl nl' b cap'), (5, .so 0 0 0 n 1 (some n)), (6, i g.1)]) (fun g => [⟨.own, 0, g.2.map dg⟩])
    (fun g => g.1 ≤ a.length ∧ g.2.length = n ∧ Dig g.2 ∧ val g.2 = val (a.take g.1) * val b) (fun g => a.length - g.1)
    (0, List.replicate n 0) ⟨Nat.zero_le _, by simp, fun x hx => by rw [List.mem_replicate] at hx; omega, by rw [val_zeros]; simp [val]⟩ (by simpa using Wk.lst (by simp [sl]) (by simp)) ?_
  rintro ⟨j, o⟩ ⟨hj, hol, hod, hov⟩ L hL
  simp only at hj hol hod hov
  by_cases hjn : j < a.length
  · have hx := ha.at hjn
    simp [hjn, sl]
    refine loop_on (γ := Nat × Nat × List Nat) 68 (fun g => [(0, sl nl a cap), (1, sl nl' b cap'), (5, .so 0 0 0 n 1 (some n)), (6, i j), (7, u g.2.1), (8, i g.1)]) (fun g => [⟨.own, 0, g.2.2.map dg⟩])
      (fun g => g.1 ≤ b.length ∧ g.2.1 < 4294967296 ∧ g.2.2.length = n ∧ Dig g.2.2 ∧ val g.2.2 + 4294967296 ^ (j + g.1) * g.2.1 = val o + 4294967296 ^ j * (a[j] * val (b.take g.1)) ∧ g.2.2.drop (j + g.1) = o.drop (j + g.1)) (fun g => b.length - g.1)
      (0, 0, o) ⟨Nat.zero_le _, (by decide : (0 : Nat) < 4294967296), hol, hod, by simp [val], rfl⟩ (Wk.lst (by simp [sl]) (by simp)) ?_
    rintro ⟨k, c, p⟩ ⟨hk, hc, hpl, hpd, hpv, hpe⟩ L2 hL2
    simp only at hk hc hpl hpd hpv hpe
    by_cases hkb : k < b.length
    · have hy := hb.at hkb
      have hq : j + k < p.length := by omega
      have ho := hpd.at hq
      have hmx : a[j] * b[k] ≤ 4294967295 * 4294967295 := Nat.mul_le_mul (by omega) (by omega)
      obtain ⟨P, hP⟩ : ∃ P, P = j + k := ⟨_, rfl⟩
      have hw1 : IntKind.i64.wrap ((j : Int) + (k : Int)) = (P : Int) := by rw [w64 _ (by omega) (by omega)]; omega
      simp only [← hP] at hq ho hpv hpe
      have hPn : P < n := by omega
      have w1 : IntKind.u64.wrap (a[j] : Int) = (a[j] : Int) := wu _ (by omega)
      have w2 : IntKind.u64.wrap (b[k] : Int) = (b[k] : Int) := wu _ (by omega)
      have w3 : IntKind.u64.wrap (p[P] : Int) = (p[P] : Int) := wu _ (by omega)
      have w4 : IntKind.u64.wrap ((a[j] : Int) * (b[k] : Int)) = ((a[j] * b[k] : Nat) : Int) := by rw [← Int.natCast_mul, wu _ (by omega)]
      have w5 : IntKind.u64.wrap (IntKind.u64.wrap (((a[j] * b[k] : Nat) : Int) + (p[P] : Int)) + (c : Int)) = ((a[j] * b[k] + p[P] + c : Nat) : Int) := by rw [wrap64u, wrap64u]; omega
      obtain ⟨X, hX⟩ : ∃ X, X = a[j] * b[k] + p[P] + c := ⟨_, rfl⟩
      rw [← hX] at w5
      simp [hkb, sl]
      refine draw_on [0, 0, 1, 1, 0, 0, 0, 1, 1, 0, 0, 0, 0, 0, 0, 1, 1, 0, 0, 0, 0, 0] orders (by decide) ?_
      simp [hjn, hkb, hw1, hPn, hq, w1, w2, w3]
      rw [w4, w5, w32]
      have hset : (List.map dg p).set P (AV.v (Value.int IntKind.u32 ((X % 4294967296 : Nat) : Int))) = List.map dg (p.set P (X % 4294967296)) := by rw [List.map_set]; rfl
      rw [hset]
      have hst := mul_step (P := 4294967296 ^ P) (val_set (x := X % 4294967296) hq) ((Nat.mod_add_div X 4294967296).trans hX) hpv
      refine ⟨by omega, hL2 (k + 1, X / 4294967296, p.set P (X % 4294967296)) _ _ ⟨by show k + 1 ≤ _; omega, by show X / _ < _; omega, by simp [hpl], dig_set hpd _ _, ?_, ?_⟩ (Wk.lst (by simp [sl]; rw [w64 _ (by omega) (by omega)]) (by simp)) (by show _ - (k + 1) < _ - k; omega)⟩
      · have e1 : j + (k + 1) = P + 1 := by omega
        rw [e1, Nat.pow_succ, val_take_succ]
        have hat : at' b k = b[k] := by simp [at', hkb]
        rw [hat]
        have e2 : 4294967296 ^ P = 4294967296 ^ j * 4294967296 ^ k := by rw [hP, Nat.pow_add]
        have e3 : 4294967296 ^ j * (a[j] * (val (b.take k) + 4294967296 ^ k * b[k])) = 4294967296 ^ j * (a[j] * val (b.take k)) + 4294967296 ^ P * (a[j] * b[k]) := by
          rw [e2, Nat.mul_add, Nat.mul_add, Nat.mul_left_comm a[j] (4294967296 ^ k), Nat.mul_assoc]
        rw [e3, ← Nat.add_assoc]
        exact hst
      · have e1 : j + (k + 1) = P + 1 := by omega
        show (p.set P _).drop (j + (k + 1)) = o.drop (j + (k + 1))
        rw [e1, List.drop_set_of_lt (by omega)]
        have h5 : ∀ l : List Nat, l.drop (P + 1) = (l.drop P).drop 1 := fun l => by rw [List.drop_drop]
        rw [h5, h5 o, hpe]
    · have : k = b.length := by omega
      subst this
      obtain ⟨P, hP⟩ : ∃ P, P = j + b.length := ⟨_, rfl⟩
      have hw1 : IntKind.i64.wrap ((j : Int) + (b.length : Int)) = (P : Int) := by rw [w64 _ (by omega) (by omega)]; omega
      have hPn : P < n := by omega
      have hq : P < p.length := by omega
      simp only [← hP] at hpv hpe
      have hcc : IntKind.u32.wrap (c : Int) = (c : Int) := w32' c hc
      simp [hkb, sl, hw1, hPn, hq, hcc]
      have hlt : val o < 4294967296 ^ P := by
        rw [hov, hP, Nat.pow_add]
        have h1 := val_lt (dig_take ha j)
        rw [List.length_take, Nat.min_eq_left (by omega)] at h1
        have h2 := val_lt hb
        exact Nat.mul_lt_mul'' h1 h2
      have ho0 : o[P]'(by omega) = 0 := zero_at hod hlt (by omega)
      have hp0 : p[P] = 0 := by
        have h1 : p[P]? = o[P]? := by
          have := congrArg (·[0]?) hpe
          simpa using this
        rw [List.getElem?_eq_getElem hq, List.getElem?_eq_getElem (by omega), ho0] at h1
        exact Option.some.inj h1
      have hset : (List.map dg p).set P (AV.v (Value.int IntKind.u32 (c : Int))) = List.map dg (p.set P c) := by rw [List.map_set]; rfl
      rw [hset]
      have hvs := val_set (x := c) hq
      rw [hp0, Nat.mul_zero, Nat.add_zero] at hvs
      refine ⟨by omega, hL (j + 1, p.set P c) _ _ ⟨by show j + 1 ≤ _; omega, by simp [hpl], ?_, ?_⟩ (Wk.lst (by simp [sl]; rw [w64 _ (by omega) (by omega)]) (by simp)) (by show _ - (j + 1) < _ - j; omega)⟩
      · have := dig_set hpd P c
        rwa [Nat.mod_eq_of_lt hc] at this
      · show val (p.set P c) = val (a.take (j + 1)) * val b
        have hat : at' a j = a[j] := by simp [at', hjn]
        rw [hvs, hpv, take_max (Nat.le_refl _), val_take_succ, hat, hov, Nat.add_mul, Nat.mul_assoc]
  · have : j = a.length := by omega
    subst this
    rw [take_max (Nat.le_refl _)] at hov
    simp [sl]
    refine call_lie (l := o) (.so 0 0 (some n) [] (by rw [hol]) (by simp)) (fun nl cap => rtrim_ctr nl o cap (by omega)) ?_
    rintro _ σ' ⟨nl2, cap2, rfl⟩
    rw [trim_ofN hod, hov]
    simp
    exact hK _ _ _ (.same _ (by simp [sl])) ⟨_, _, rfl⟩
end Go.Proofs.Nt
