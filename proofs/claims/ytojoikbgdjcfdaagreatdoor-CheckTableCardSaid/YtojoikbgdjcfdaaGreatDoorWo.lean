import Derived.Test.YtojoikbgdjcfdaaGreatDoorWa
import Derived.Test.YtojoikbgdjcfdaaGreatDoorWb
import Derived.Test.YtojoikbgdjcfdaaGreatDoorWc
import Derived.Test.YtojoikbgdjcfdaaGreatDoorWd
import Derived.Test.YtojoikbgdjcfdaaGreatDoorWe
import Derived.Test.YtojoikbgdjcfdaaGreatDoorWf
import Derived.Test.YtojoikbgdjcfdaaGreatDoorWg
import Derived.Test.YtojoikbgdjcfdaaGreatDoorWh
import Derived.Test.YtojoikbgdjcfdaaGreatDoorWi
import Derived.Test.YtojoikbgdjcfdaaGreatDoorWk
import Derived.Test.YtojoikbgdjcfdaaGreatDoorWl
import Derived.Test.YtojoikbgdjcfdaaGreatDoorWm
/- The document's answer: a float, and a factor, out of bytes. -/
set_option linter.unusedVariables false
set_option maxRecDepth 20000
set_option linter.unusedSimpArgs false
set_option linter.unnecessarySimpa false
namespace Go.Proofs.Nt
open Go Go.Proofs Go.Proofs.Va Go.RowKit

theorem r15number_ctr {b : Nat} (hb : b < 18446744073709551616) : Ctr Tryz.prog 65 [fl b] (fun r => r = bo (numB b)) := by
  refine ctr_val Tryz.func65 rfl (by kernel_rfl) rfl (by simp) fun K hK => ?_
  simp [Tryz.f65]
  refine acall_by (rsplit_ctr hb) (by simp) ?_
  rintro _ rfl
  unfold numB at hK
  by_cases h1 : 9218868437227405312 < frg b
  · rw [splitV_nan h1]
    rw [decide_eq_false (by omega)] at hK
    simp; exact hK _
  by_cases h2 : frg b = 9218868437227405312
  · rw [splitV_inf h2]
    rw [decide_eq_false (by omega)] at hK
    simp; exact hK _
  rw [decide_eq_true (by omega)] at hK
  by_cases h3 : frg b = 0
  · rw [splitV_zero h3]
    simp; exact hK _
  · rw [splitV_num h3 (by omega)]
    simp; exact hK _

theorem r15get_ctr (s : ByteArray) (k : Int) (hs : s.size ≤ 100000) (hk : k ≤ 1000000) : Ctr Tryz.prog 45 [.v (.string s), i k] (fun r => r = .tup [fl (getV s k).1, bo (getV s k).2]) := by
  refine ctr_val Tryz.func45 rfl (by kernel_rfl) rfl (pu_tup (by simp)) fun K hK => ?_
  unfold getV at hK
  simp [Tryz.f45]
  by_cases h0 : k < 0
  · simp only [if_pos (show k < 0 ∨ (s.size : Int) < k + 8 from .inl h0)] at hK
    simp [h0, show ¬ 0 ≤ k by omega]; exact hK _
  obtain ⟨k, rfl⟩ : ∃ n : Nat, k = n := ⟨k.toNat, by omega⟩
  by_cases h1 : s.size < k
  · simp only [if_pos (show (k : Int) < 0 ∨ (s.size : Int) < k + 8 from .inr (by omega))] at hK
    simp [h1, show ¬ k ≤ s.size by omega]; exact hK _
  have h1' : k ≤ s.size := by omega
  have w1 : IntKind.i64.wrap ((s.size : Int) - k) = (s.size : Int) - k := w64 _ (by omega) (by omega)
  by_cases h2 : s.size < k + 8
  · simp only [if_pos (show (k : Int) < 0 ∨ (s.size : Int) < (k : Int) + 8 from .inr (by omega))] at hK
    have h3 : (s.size : Int) - k < 8 := by omega
    simp [h1, h1', w1, eq_true h3]; exact hK _
  simp only [if_neg (show ¬ ((k : Int) < 0 ∨ (s.size : Int) < (k : Int) + 8) by omega), Int.toNat_natCast] at hK
  have h3 : ¬ (s.size : Int) - k < 8 := by omega
  simp [h1, h1', w1, eq_false h3]
  refine loop_on (γ := Nat) 43 (fun g => [(0, .v (.string s)), (1, i k), (6, u (wordN s k g)), (7, i g)]) (fun _ => []) (fun g => g ≤ 8) (fun g => 8 - g) 0 (Nat.zero_le _) (Wk.lst (by simp [wordN]) (by simp)) ?_
  rintro g hg L hL
  by_cases hlt : g < 8
  · have hw1 : IntKind.i64.wrap ((g : Int) + 1) = ((g + 1 : Nat) : Int) := w64 _ (by omega) (by omega)
    have hw2 : IntKind.i64.wrap ((k : Int) + g) = ((k + g : Nat) : Int) := w64 _ (by omega) (by omega)
    have hnext := hL (g + 1)
    have hb := byteN_lt s (k + g)
    have hwn := wordN_lt s k g
    have hp : 256 ^ g ≤ 256 ^ 7 := Nat.pow_le_pow_right (by decide) (by omega)
    have hp2 : (256 : Nat) ^ 7 = 72057594037927936 := by decide
    have e1 : IntKind.u64.wrap ((wordN s k g : Int) * 256) = ((wordN s k g * 256 : Nat) : Int) := by rw [wrap64u]; omega
    have e2 : IntKind.u64.wrap (byteN s (k + g) : Int) = ((byteN s (k + g) : Nat) : Int) := by rw [wrap64u]; omega
    have e4 : IntKind.u64.wrap (((wordN s k g * 256 : Nat) : Int) + ((byteN s (k + g) : Nat) : Int)) = ((wordN s k (g + 1) : Nat) : Int) := by
      show _ = ((wordN s k g * 256 + byteN s (k + g) : Nat) : Int)
      rw [wrap64u]; omega
    obtain ⟨c, hc, hcb⟩ := str_at (s := s) (j := k + g) (by omega)
    simp [hlt, hw2, hc, hcb, e1, e2, e4, hw1, -Int.natCast_mul, -Int.natCast_add, -getElem?_pos]
    exact hnext _ _ (by omega) (Wk.lst (by simp) (by simp)) (by show _ - (g + 1) < _ - g; omega)
  · have hge : g = 8 := by omega
    subst hge
    simp
    refine acall_by (frombits_ctr _) (by simp) ?_
    rintro _ rfl
    simp
    refine acall_by (r15number_ctr (wordN_lt s k 8)) (by simp) ?_
    rintro _ rfl
    cases hq : numB (wordN s k 8)
    · simp only [hq] at hK
      simp; exact hK _
    · simp only [hq] at hK
      simp; exact hK _
end Go.Proofs.Nt
/- The document's answer: a factor out of bytes. -/
set_option linter.unusedVariables false
set_option maxRecDepth 20000
set_option linter.unusedSimpArgs false
set_option linter.unnecessarySimpa false
namespace Go.Proofs.Nt
open Go Go.Proofs Go.Proofs.Va Go.RowKit

set_option maxHeartbeats 1000000 in
theorem r15decode_ctr (s : ByteArray) (hs : s.size ≤ 100000) : Ctr Tryz.prog 27 [.v (.string s)] (decP s) := by
  refine ctr_in Tryz.func27 rfl (by kernel_rfl) rfl fun K hK => ?_
  have hpu : ∀ (f : FaV) tn tc, Pu (f.av tn tc) := fun f tn tc => pu_agg (by intro x hx; simp only [List.mem_cons, List.not_mem_nil, or_false] at hx; rcases hx with rfl | rfl | rfl | rfl <;> simp [pu_fslq])
  have hF : ∀ e : Int, decE s = e → e ≠ 0 → ∀ σ, K (.tup [.agg [i 0, .pl true [] 0 (some 0), i 0, i 0], i e]) σ := fun e he h0 σ => by
    have e1 : (decF s).av true (some 0) = .agg [i 0, .pl true [] 0 (some 0), i 0, i 0] := by rw [dec_bad (by rw [he]; exact h0)]; rfl
    exact hK _ _ _ (.same _ (pu_tup (by
      intro x hx
      simp only [List.mem_cons, List.not_mem_nil, or_false] at hx
      rcases hx with rfl | rfl
      · exact pu_agg (by simp)
      · simp))) ⟨true, some 0, by rw [e1, he]⟩
  simp [Tryz.f27]
  have d1 : s.size < 6 ∨ byteN s 0 ≠ 81 ∨ sizeI (byteN s 1) = 0 → decE s = 9 := fun h => if_pos h
  by_cases a0 : s.size < 6
  · simp [a0, Nat.not_le.2 a0, wr]
    exact hF 9 (d1 (.inl a0)) (by decide) _
  have a0' : 6 ≤ s.size := by omega
  obtain ⟨c0, r0, h0⟩ := str_at (s := s) (j := 0) (by omega)
  obtain ⟨c1, r1, h1⟩ := str_at (s := s) (j := 1) (by omega)
  obtain ⟨c2, r2, h2⟩ := str_at (s := s) (j := 2) (by omega)
  obtain ⟨c3, r3, h3⟩ := str_at (s := s) (j := 3) (by omega)
  obtain ⟨c4, r4, h4⟩ := str_at (s := s) (j := 4) (by omega)
  obtain ⟨c5, r5, h5⟩ := str_at (s := s) (j := 5) (by omega)
  have b1 := byteN_lt s 1
  have b2 := byteN_lt s 2
  have b3 := byteN_lt s 3
  have b4 := byteN_lt s 4
  have b5 := byteN_lt s 5
  have w1 : ∀ x : Nat, x < 256 → IntKind.i64.wrap (x : Int) = (x : Int) := fun x hx => w64 _ (by omega) (by omega)
  have w2 : ∀ x : Nat, x < 256 → IntKind.i64.wrap ((x : Int) * 256) = ((x * 256 : Nat) : Int) := fun x hx => by rw [w64 _ (by omega) (by omega)]; omega
  have w2' : ∀ x : Nat, x < 256 → IntKind.i64.wrap (256 * (x : Int)) = ((x * 256 : Nat) : Int) := fun x hx => by rw [w64 _ (by omega) (by omega)]; omega
  have w3 : ∀ x y : Nat, x < 256 → y < 256 → IntKind.i64.wrap (((x * 256 : Nat) : Int) + (y : Int)) = ((x * 256 + y : Nat) : Int) := fun x y hx hy => by
    rw [w64 _ (by omega) (by omega)]; omega
  rw [← h0] at d1
  by_cases a1 : c0.toNat = 81
  case neg =>
    simp [a0, a0', r0, a1, wr, -getElem?_pos, List.getElem?_cons_zero, List.getElem?_cons_succ]
    exact hF 9 (d1 (.inr (.inl a1))) (by decide) _
  by_cases a2 : byteN s 1 < 1
  · have z0 : byteN s 1 = 0 := by omega
    have z1 : sizeI (byteN s 1) = 0 := by rw [z0]; decide
    simp [a0, a0', r0, r1, h1, a1, z0, wr, -getElem?_pos, List.getElem?_cons_zero, List.getElem?_cons_succ]
    exact hF 9 (d1 (.inr (.inr z1))) (by decide) _
  by_cases a3 : 6 < byteN s 1
  · have z1 : sizeI (byteN s 1) = 0 := if_neg (by omega)
    have z2 : ¬ byteN s 1 = 0 := by omega
    have z3 : ¬ byteN s 1 ≤ 6 := by omega
    have z4 : 1 ≤ byteN s 1 := by omega
    simp [a0, a0', r0, r1, h1, a1, z2, z3, z4, a2, a3, wr, -getElem?_pos, List.getElem?_cons_zero, List.getElem?_cons_succ]
    exact hF 9 (d1 (.inr (.inr z1))) (by decide) _
  have hc6 : 1 ≤ byteN s 1 ∧ byteN s 1 ≤ 6 := by omega
  have z2 : ¬ byteN s 1 = 0 := by omega
  simp [a0, a0', r0, r1, h1, a1, a2, a3, z2, hc6.1, hc6.2, w1 _ b1, -getElem?_pos, List.getElem?_cons_zero, List.getElem?_cons_succ]
  refine acall_by (rsize_ctr _) (by simp) ?_
  rintro _ rfl
  obtain ⟨n, hn⟩ : ∃ n : Nat, sizeI (byteN s 1) = n := ⟨(sizeI (byteN s 1)).toNat, by have := size_facts (c := (byteN s 1 : Int)) (by omega); omega⟩
  have hn1 : 3 ≤ n ∧ n ≤ 28 := by have := size_facts (c := (byteN s 1 : Int)) (by omega); omega
  rw [hn]
  have hf : facOf s = ⟨(byteN s 1 : Int), wordsN s n, ((byteN s 2 * 256 + byteN s 3 : Nat) : Int), ((byteN s 4 * 256 + byteN s 5 : Nat) : Int)⟩ := by unfold facOf; rw [hn]; rfl
  have hE : decE s = if (s.size : Int) ≠ 6 + 8 * (n : Int) then 3 else if (wordsN s n).all numB = false then 2 else if triOk (byteN s 1 : Int) (wordsN s n) ((byteN s 2 * 256 + byteN s 3 : Nat) : Int) ((byteN s 4 * 256 + byteN s 5 : Nat) : Int) = false then 2 else 0 := by
    unfold decE
    rw [if_neg (by rw [← h0, hn]; rintro (h | h | h); omega; exact h a1; omega), hn, hf]
  have w8 : IntKind.i64.wrap (8 * (n : Int)) = ((8 * n : Nat) : Int) := by rw [w64 _ (by omega) (by omega)]; omega
  have w9 : IntKind.i64.wrap (6 + ((8 * n : Nat) : Int)) = ((6 + 8 * n : Nat) : Int) := by rw [w64 _ (by omega) (by omega)]; omega
  by_cases a3 : s.size = 6 + 8 * n
  case neg =>
    simp [w8, w9, a3, wr, -Int.natCast_mul, -Int.natCast_add]
    exact hF 3 (by rw [hE, if_pos (by omega)]) (by decide) _
  rw [if_neg (by omega)] at hE
  simp [w8, w9, eq_true a3, -Int.natCast_mul, -Int.natCast_add]
  refine draw_at [0, 1, 0, 0, 1, 0, 0, 0, 1, 0, 0, 0, 1, 0, 0, 0, 1, 0, 0, 0, 3, 4] (by kernel_rfl) (by kernel_rfl) ?_
  simp [r1, r2, r3, r4, r5, h1, h2, h3, h4, h5, w1 _ b1, w1 _ b2, w1 _ b3, w1 _ b4, w1 _ b5, w2' _ b2, w2' _ b4, w3 _ _ b2 b3, w3 _ _ b4 b5, cells_g4, cells_in, cells_pl, wr, -cellsOf, -Int.natCast_mul, -Int.natCast_add, -getElem?_pos, List.getElem?_cons_zero, List.getElem?_cons_succ]
  refine ⟨(same_more (σ := [_]) (more := [_])).2 (by simp), ?_⟩
  generalize (byteN s 1 : Int) = c at *
  generalize ((byteN s 2 * 256 + byteN s 3 : Nat) : Int) = R at *
  generalize ((byteN s 4 * 256 + byteN s 5 : Nat) : Int) = T at *
  refine loop_on (γ := Nat × AV × AHeap) 86 (fun g => [(0, .v (.string s)), (2, .po 0 0 0), (4, i n), (5, .po 1 0 0), (6, i g.1)]) (fun g => g.2.2)
    (fun g => g.1 ≤ n ∧ (wordsN s g.1).all numB = true ∧ 2 ≤ g.2.2.length ∧ g.2.2[0]? = some ⟨.own, 0, [i 0, .pl true [] 0 (some 0), i 0, i 0]⟩ ∧ g.2.2[1]? = some ⟨.own, 0, [i c, g.2.1, i R, i T]⟩ ∧ OW 1 2 g.2.2 g.2.1 ((wordsN s g.1).map fl) g.1) (fun g => n - g.1)
    (0, .pl true [] 0 (some 0), _) ⟨Nat.zero_le _, rfl, by simp, rfl, rfl, .nil⟩ (Wk.lst (by simp) (by simp)) ?_
  rintro ⟨g, r, σ⟩ ⟨hg, hall, hσ, s0, s1, hO⟩ L hL
  simp only at hg hall hσ s0 s1 hO
  have h0lt : 0 < σ.length := by omega
  have h1lt : 1 < σ.length := by omega
  by_cases hlt : g < n
  · have hlt2 : 6 + 8 * g < s.size := by omega
    have hlt3 : 6 + 8 * g < 6 + 8 * n := by omega
    have hnext := fun r' σ' => hL (g + 1, r', σ')
    have hw5 : IntKind.i64.wrap ((g : Int) + 1) = ((g + 1 : Nat) : Int) := w64 _ (by omega) (by omega)
    have hw6 : IntKind.i64.wrap (8 * (g : Int)) = ((8 * g : Nat) : Int) := by rw [w64 _ (by omega) (by omega)]; omega
    have hw7 : IntKind.i64.wrap (6 + ((8 * g : Nat) : Int)) = ((6 + 8 * g : Nat) : Int) := by rw [w64 _ (by omega) (by omega)]; omega
    have cG := r15get_ctr s ((6 + 8 * g : Nat) : Int) hs (by omega)
    have hgv : getV s ((6 + 8 * g : Nat) : Int) = if numB (wordN s (6 + 8 * g) 8) = true then (wordN s (6 + 8 * g) 8, true) else (0, false) := by
      unfold getV
      rw [if_neg (by omega), Int.toNat_natCast]
    simp only [words_succ, List.all_append, hall, List.map_append, List.map_cons, List.map_nil, List.all_cons, List.all_nil, Bool.and_true, Bool.true_and] at hnext
    rw [hgv] at cG
    simp [hlt, hw6, hw7, -Int.natCast_mul, -Int.natCast_add]
    refine acall_by cG (by simp) ?_
    rintro _ rfl
    cases hq : numB (wordN s (6 + 8 * g) 8)
    · have hbad : decE s = 2 := by
        rw [hE, if_pos]
        rw [Bool.eq_false_iff]
        intro e
        rw [List.all_eq_true] at e
        have := e (wordN s (6 + 8 * g) 8) (List.mem_map.2 ⟨g, List.mem_range.2 hlt, rfl⟩)
        rw [hq] at this; cases this
      have sp0 : ∀ C : ABlk, (σ.set 0 C)[0]? = some C := fun C => by rw [List.getElem?_set_self h0lt]
      simp [s0, wr, sp0, -getElem?_pos, List.getElem?_cons_zero, List.getElem?_cons_succ]
      exact hF 2 hbad (by decide) _
    · simp [s1, -aAppend, -getElem?_pos, List.getElem?_cons_zero, List.getElem?_cons_succ]
      refine append_ow2 (k := 2) elTF srcFs hO (by show (g + 1) * 9 ≤ _; omega) (by rfl) hσ fun r' σ' hO' hσ' hS => ?_
      have s0' : σ'[0]? = some ⟨.own, 0, [i 0, .pl true [] 0 (some 0), i 0, i 0]⟩ := by rw [hS 0 (by omega)]; exact s0
      have s1' : σ'[1]? = some ⟨.own, 0, [i c, r, i R, i T]⟩ := by rw [hS 1 (by omega)]; exact s1
      have hcr := hO'.cells
      simp [s1', hcr, wr, hw5, -cellsOf, -Int.natCast_mul, -Int.natCast_add, -getElem?_pos, List.getElem?_cons_zero, List.getElem?_cons_succ]
      refine hnext r' _ _ _ ⟨by omega, hq, ?_, ?_, ?_, ?_⟩ (Wk.lst (by simp) (by simp)) (by show _ - (g + 1) < _ - g; omega)
      · simp; omega
      · rw [List.getElem?_set_ne (by omega)]; exact s0'
      · rw [List.getElem?_set_self (by omega)]; rfl
      · exact hO'.keep fun a ha _ => by rw [List.getElem?_set_ne (by omega)]
  · have hge : g = n := by omega
    subst hge
    rw [if_neg (by rw [hall]; decide)] at hE
    obtain ⟨j, v, b, rfl, hkj, hj, hb, hlen⟩ := hO.inv (by omega)
    have hlj := (List.getElem?_eq_some_iff.1 hj).1
    have hn3 : ¬ 6 + 8 * g < s.size := by omega
    simp [s1, -Int.natCast_mul, -Int.natCast_add, -getElem?_pos, List.getElem?_cons_zero, List.getElem?_cons_succ]
    have hfl : ∀ x ∈ (wordsN s g).map fl, Pu x := by
      intro x hx
      obtain ⟨y, _, rfl⟩ := List.mem_map.1 hx
      simp
    have efs : AV.pl false ((wordsN s g).map fl) g none = fsl false (wordsN s g) none := by unfold fsl; rw [words_len]; rfl
    refine acall_froze [j] (rtcheck_ctr c (wordsN s g) false none R T (fl_words s g) (by rw [words_len]; omega)) rfl (fun q hq => ?_) ?_
    · have : q = 0 := by simpa using hq
      subst this
      have := pur_so (cap := none) (S := (· ∈ [j])) hj (by simp) hb hlen (by simp) hfl
      rw [efs] at this
      exact pur_fac this
    rintro _ rfl
    have s0' : (froze σ [j])[0]? = some ⟨.own, 0, [i 0, .pl true [] 0 (some 0), i 0, i 0]⟩ := by rw [froze_ne (by simp; omega)]; exact s0
    have s1' : (froze σ [j])[1]? = some ⟨.own, 0, [i c, .so j v 0 g 1 none, i R, i T]⟩ := by rw [froze_ne (by simp; omega)]; exact s1
    have sj' : (froze σ [j])[j]? = some ⟨.ro, v, b⟩ := by rw [froze_get, hj]; simp
    have hln := froze_length (σ := σ) [j]
    generalize froze σ [j] = τ at *
    have sp0 : ∀ C : ABlk, (τ.set 0 C)[0]? = some C := fun C => by rw [List.getElem?_set_self (by omega)]
    cases hq : triOk c (wordsN s g) R T
    · have hbad : decE s = 2 := by rw [hE, if_pos hq]
      simp [s0', sp0, wr, -getElem?_pos, List.getElem?_cons_zero, List.getElem?_cons_succ]
      exact hF 2 hbad (by decide) _
    · have hok : decE s = 0 := by rw [hE, if_neg (by rw [hq]; decide)]
      have hff : decF s = ⟨c, wordsN s g, R, T⟩ := by unfold decF; rw [if_pos hok, hf]
      simp [s0', s1', sp0, wr, -getElem?_pos, List.getElem?_cons_zero, List.getElem?_cons_succ]
      have hp := pur_so (cap := none) (σ := τ.set 0 ⟨.own, 0, [i c, .so j v 0 g 1 none, i R, i T]⟩) (S := fun _ => True) (kd := .ro) (v := v) (j := j) (by rw [List.getElem?_set_ne (by omega)]; exact sj') (by simp) hb hlen trivial hfl
      rw [efs] at hp
      exact hK _ _ (.tup [(decF s).av false none, i (decE s)]) (by rw [hok, hff]; exact pur_two (pur_fac hp)) ⟨false, none, rfl⟩
end Go.Proofs.Nt
/- The document's answer: which plans may be. -/
set_option linter.unusedVariables false
set_option maxRecDepth 20000
set_option linter.unusedSimpArgs false
set_option linter.unnecessarySimpa false
namespace Go.Proofs.Nt
open Go Go.Proofs Go.Proofs.Va Go.RowKit

theorem planE_hgt {l : List Int} {n : Int} (h : ¬ hgt l 0 = some 1) : planE l n = 10 := by
  unfold planE planOk
  rw [show (hgt l 0 == some 1) = false by simp [h], Bool.and_false]; rfl
theorem r14check_ctr (l : List Int) (nl : Bool) (cap : Option Nat) (n : Int) (hl : l.length ≤ 100000) : Ctr Tryz.prog 49 [zsl nl l cap, i n] (fun r => r = i (planE l n)) := by
  refine ctr_val Tryz.func49 rfl (by kernel_rfl) rfl (by simp) fun K hK => ?_
  simp [Tryz.f49, zsl]
  refine loop_on (γ := Nat × Nat) 61 (fun g => [(0, zsl nl l cap), (1, i n), (5, i g.2), (6, i g.1)]) (fun _ => [])
    (fun g => g.1 ≤ l.length ∧ entOk n [] (l.take g.1) = true ∧ hgt (l.take g.1) 0 = some g.2) (fun g => l.length - g.1) (0, 0) ⟨Nat.zero_le _, rfl, rfl⟩ (Wk.lst (by simp [zsl]) (by simp)) ?_
  rintro ⟨g, z⟩ ⟨hg, hall, hz⟩ L hL
  simp only at hg hall hz
  have hzl := hgt_le _ _ _ hz
  rw [List.length_take] at hzl
  by_cases hlt : g < l.length
  · have hw1 : IntKind.i64.wrap ((g : Int) + 1) = ((g + 1 : Nat) : Int) := w64 _ (by omega) (by omega)
    have hnext := fun z' => hL (g + 1, z')
    have htk : l.take (g + 1) = l.take g ++ [l[g]] := take_snoc hlt
    simp only [htk, entOk_snoc, hall, Bool.true_and] at hnext
    have hsn := hgt_snoc l[g] hz
    have hN : entB n (l.take g) l[g] = false → ∀ σ, K (.v (.int .i64 10)) σ := fun h σ => by rw [plan_bad hlt h] at hK; exact hK σ
    have hH : hgt (l.take g ++ [l[g]]) 0 = none → ∀ σ, K (.v (.int .i64 10)) σ := fun h σ => by
      have : hgt l 0 = none := by
        have := hgt_none (b := l.drop (g + 1)) (by rw [← htk] at h; exact h)
        rwa [List.take_append_drop] at this
      rw [planE_hgt (by rw [this]; simp)] at hK; exact hK σ
    by_cases b1 : l[g] < -1
    · simp [hlt, zsl, b1]; exact hN (entB_false (.inl b1)) _
    by_cases b2 : n ≤ l[g]
    · simp [hlt, zsl, b1, b2]; exact hN (entB_false (.inr (.inl b2))) _
    have b2' : l[g] < n := by omega
    simp [hlt, zsl, b1, b2, b2']
    refine loop_on (γ := Nat) 61 (fun k => [(0, zsl nl l cap), (1, i n), (5, i z), (6, i g), (7, i k)]) (fun _ => [])
      (fun k => k ≤ g ∧ ∀ j (h : j < l.length), j < k → 0 ≤ l[g] → l[j] ≠ l[g]) (fun k => g - k) 0 ⟨Nat.zero_le _, by intro j h hj; exact absurd hj (Nat.not_lt_zero _)⟩ (Wk.lst (by simp [zsl]) (by simp)) ?_
    rintro k ⟨hk, hno⟩ M hM
    by_cases hkt : k < g
    · have hkl : k < l.length := by omega
      have hw2 : IntKind.i64.wrap ((k : Int) + 1) = ((k + 1 : Nat) : Int) := w64 _ (by omega) (by omega)
      have hnk := hM (k + 1)
      have hstep : (0 ≤ l[g] → l[k] ≠ l[g]) → ∀ j (h : j < l.length), j < k + 1 → 0 ≤ l[g] → l[j] ≠ l[g] := fun h j hj hjk => by
        by_cases e : j = k
        · subst e; exact h
        · exact hno j hj (by omega)
      simp [hkt, zsl]
      refine draw_at [0, 0, 1, 1, 0, 0, 0, 0, 1, 1, 0, 0, 1, 1, 0, 0] (by kernel_rfl) (by kernel_rfl) ?_
      by_cases c1 : 0 ≤ l[g]
      · by_cases c2 : l[k] = l[g]
        · simp [hlt, hkl, c1, c2]
          refine hN (entB_false (.inr (.inr ⟨c1, ?_⟩))) _
          rw [List.contains_iff_mem, ← c2]
          exact List.mem_take_iff_getElem.2 ⟨k, by omega, rfl⟩
        · simp [hlt, hkl, c1, c2, hw2, -Int.natCast_add]
          exact hnk _ _ ⟨by omega, hstep (fun _ => c2)⟩ (Wk.lst (by simp [zsl]) (by simp)) (by show _ - (k + 1) < _ - k; omega)
      · simp [hlt, hkl, c1, hw2, -Int.natCast_add]
        exact hnk _ _ ⟨by omega, hstep (fun h => absurd h c1)⟩ (Wk.lst (by simp [zsl]) (by simp)) (by show _ - (k + 1) < _ - k; omega)
    · have hkg : k = g := by omega
      subst hkg
      clear hM
      have hcon : 0 ≤ l[k] → (l.take k).contains l[k] = false := fun h => by
        rw [Bool.eq_false_iff]
        intro e
        rw [List.contains_iff_mem] at e
        obtain ⟨j, hj, he⟩ := List.mem_take_iff_getElem.1 e
        exact hno j (by omega) (by omega) h he
      have hent := entB_true (n := n) (a := l.take k) (k := l[k]) (by omega) (by omega) hcon
      by_cases c1 : 0 ≤ l[k]
      · have hne : ¬ l[k] = -1 := by omega
        have hw3 : IntKind.i64.wrap ((z : Int) + 1) = ((z + 1 : Nat) : Int) := w64 _ (by omega) (by omega)
        rw [if_neg hne] at hsn
        simp [hlt, zsl, c1, hw1, hw3, -Int.natCast_add]
        exact hnext (z + 1) _ _ ⟨by omega, hent, hsn⟩ (Wk.lst (by simp [zsl]) (by simp)) (by show _ - (k + 1) < _ - k; omega)
      · have hne : l[k] = -1 := by omega
        rw [if_pos hne] at hsn
        by_cases c2 : z < 2
        · rw [if_pos c2] at hsn
          simp [hlt, zsl, c1, c2]
          exact hH hsn _
        · rw [if_neg c2] at hsn
          have hw3 : IntKind.i64.wrap ((z : Int) - 1) = ((z - 1 : Nat) : Int) := by rw [show (z : Int) - 1 = ((z - 1 : Nat) : Int) by omega]; exact w64 _ (by omega) (by omega)
          simp [hlt, zsl, c1, c2, hw1, hw3, -Int.natCast_add]
          exact hnext (z - 1) _ _ ⟨by omega, hent, hsn⟩ (Wk.lst (by simp [zsl]) (by simp)) (by show _ - (k + 1) < _ - k; omega)
  · have hge : g = l.length := by omega
    subst hge
    rw [List.take_length] at hall hz
    by_cases c : z = 1
    · subst c
      have hp : planE l n = 0 := by unfold planE planOk; rw [hall, hz]; rfl
      rw [hp] at hK
      simp [zsl]
      exact hK _
    · have hp : planE l n = 10 := planE_hgt (by rw [hz]; intro e; exact c (Option.some.inj e))
      rw [hp] at hK
      simp [zsl, show ¬ (z : Int) = 1 by omega, c]
      exact hK _
end Go.Proofs.Nt
/- The document's answer: how many rows and rotations a plan comes to. -/
set_option linter.unusedVariables false
set_option maxRecDepth 20000
set_option linter.unusedSimpArgs false
set_option linter.unnecessarySimpa false
namespace Go.Proofs.Nt
open Go Go.Proofs Go.Proofs.Va Go.RowKit

@[simp] theorem elT2i : elT Tryz.prog 80 = some (81, ⟨2, 16, [.v (.int .i64 0), .v (.int .i64 0)]⟩) := by kernel_rfl
@[simp] theorem src2i : srcT Tryz.prog 80 = some false := by kernel_rfl
@[simp] theorem und2is : Tryz.prog.underlying 80 = some (.slice 81) := by kernel_rfl
@[simp] theorem arr2i : arrT Tryz.prog 81 = some (2, 3, 1) := by kernel_rfl
@[simp] theorem sz2i : szT Tryz.prog 81 = some 2 := by kernel_rfl
@[simp] theorem agg2i : aggT Tryz.prog 81 = some true := by kernel_rfl
@[simp] theorem zc2i : zcT Tryz.prog 81 = some [.v (.int .i64 0), .v (.int .i64 0)] := by kernel_rfl
@[simp] theorem pl2i : placesT Tryz.prog 81 = some [(0, 1), (1, 1)] := by kernel_rfl

/-- A list that is appended to a new one. -/
theorem append_new {P : Program} {t e : TypeId} {E : ElT} {σ : AHeap} {K : AV → AHeap → Prop} {j v m : Nat} {kd : BK} {cp : Option Nat} {b : List AV} (hT : elT P t = some (e, E)) (hS : srcT P t = some false) (hj : σ[j]? = some ⟨kd, v, b⟩) (hd : kd ≠ .dead) (hb : m * E.sz ≤ b.length) (hl : m * (E.bytes + 1) ≤ 140737488355328)
    (h0 : m = 0 → K (.pl false [] 0 (some 0)) σ) (h1 : m ≠ 0 → K (.so σ.length 0 0 m E.sz none) (σ ++ [⟨.own, 0, b.take (m * E.sz)⟩])) : aAppend P t t (.pl false [] 0 (some 0)) (.so j v 0 m E.sz cp) σ K := by
  have hsrc : srcC E.sz false σ (.so j v 0 m E.sz cp) = some (b.take (m * E.sz), m) := by
    show (match σ[j]? with
      | some b => if false = false ∧ b.ver = v ∧ b.kind ≠ .dead ∧ 0 + m * E.sz ≤ b.cells.length then some ((b.cells.drop 0).take (m * E.sz), m) else none
      | none => none) = some (b.take (m * E.sz), m)
    rw [hj]
    simp only [List.drop_zero]
    rw [if_pos ⟨trivial, trivial, hd, by omega⟩]
  unfold aAppend
  rw [hT, hS]
  simp only [hsrc]
  refine ⟨by simp, by simp, by rw [Nat.zero_add]; exact hl, ?_⟩
  by_cases hm : m = 0
  · rw [if_pos (by omega)]
    exact ⟨hm, h0 hm⟩
  · rw [if_neg (by omega), Nat.zero_add, List.nil_append]
    exact h1 hm
set_option maxHeartbeats 2000000 in
theorem r14counts_ctr (l : List Int) (nl : Bool) (cap : Option Nat) (c : Int) (rows turns : List Int) (rn tn : Bool) (rc tc : Option Nat) (hl : l.length ≤ 100000) (hlr : rows.length ≤ 100000) (hlt2 : turns.length ≤ 100000) :
    Ctr Tryz.prog 29 [zsl nl l cap, i c, zsl rn rows rc, zsl tn turns tc] (fun r => r = trip (countsE l c rows turns)) := by
  refine ctr_in Tryz.func29 rfl (by kernel_rfl) rfl fun K hK => ?_
  have hK : ∀ σ, K (trip (countsE l c rows turns)) σ := fun σ => hK _ _ _ (.same _ (pu_trip _)) rfl
  unfold countsE at hK
  simp [Tryz.f29]
  refine acall_by (rsize_ctr c) (by simp) ?_
  rintro _ rfl
  by_cases h0 : sizeI c = 0
  · simp only [if_pos (show sizeI c = 0 ∨ rows.length ≠ turns.length from .inl h0)] at hK
    simp [h0]; exact hK _
  by_cases h1 : rows.length = turns.length
  case neg =>
    simp only [if_pos (show sizeI c = 0 ∨ rows.length ≠ turns.length from .inr h1)] at hK
    simp [h0, h1, zsl]; exact hK _
  simp only [if_neg (show ¬ (sizeI c = 0 ∨ rows.length ≠ turns.length) from fun h => h.elim h0 (fun h => h h1))] at hK
  simp [h0, eq_true h1, zsl]
  have hc : 1 ≤ c ∧ c ≤ 6 := by
    by_cases e : 1 ≤ c ∧ c ≤ 6
    · exact e
    · exact absurd (if_neg e) h0
  refine loop_on (γ := Nat) 145 (fun g => [(0, zsl nl l cap), (1, i c), (2, zsl rn rows rc), (3, zsl tn turns tc), (11, i g)]) (fun _ => [])
    (fun g => g ≤ rows.length ∧ ∀ j, j < g → mayC (rows.getD j 0, turns.getD j 0) = true) (fun g => rows.length - g) 0 ⟨Nat.zero_le _, by intro j hj; exact absurd hj (Nat.not_lt_zero _)⟩ (Wk.lst (by simp [zsl]) (by simp)) ?_
  rintro g ⟨hg, hall⟩ L hL
  by_cases hlt : g < rows.length
  · have hw1 : IntKind.i64.wrap ((g : Int) + 1) = ((g + 1 : Nat) : Int) := w64 _ (by omega) (by omega)
    have hnext := hL (g + 1)
    have hlt3 : g < turns.length := by omega
    have hrt : (turns.map i)[g]? = some (i (turns.getD g 0)) := zmap_get turns hlt3
    have hrr : (rows.map i)[g]? = some (i (rows.getD g 0)) := zmap_get rows hlt
    have hF : ¬ mayC (rows.getD g 0, turns.getD g 0) = true → ∀ σ, K (trip (0, 0, 1)) σ := fun h σ => by
      simp only [if_pos (rng_not hlt h)] at hK; exact hK σ
    have hm : (∀ j, j < g + 1 → mayC (rows.getD j 0, turns.getD j 0) = true) ↔ mayC (rows.getD g 0, turns.getD g 0) = true := by
      constructor
      · intro h; exact h g (by omega)
      · intro h j hj
        by_cases e : j = g
        · subst e; exact h
        · exact hall j (by omega)
    simp only [hm] at hnext
    clear hm
    generalize rows.getD g 0 = a at *
    generalize turns.getD g 0 = b at *
    simp [hlt, hlt3, zsl, hrt, hrr, -getElem?_pos, -List.getElem?_map, List.getElem?_cons_zero, List.getElem?_cons_succ]
    by_cases a1 : 0 ≤ a
    case neg =>
      simp [Int.not_le.1 a1, a1]
      exact hF (fun h => by have := mayC_def.1 h; omega) _
    by_cases a2 : a ≤ 200
    case neg =>
      simp [hlt, hlt3, hrt, hrr, a1, Int.not_lt.2 a1, a2, Int.not_le.1 a2, -getElem?_pos, -List.getElem?_map]
      exact hF (fun h => by have := mayC_def.1 h; omega) _
    by_cases a3 : 0 ≤ b
    case neg =>
      simp [hlt, hlt3, hrt, hrr, a1, Int.not_lt.2 a1, a2, Int.not_lt.2 a2, a3, Int.not_le.1 a3, -getElem?_pos, -List.getElem?_map]
      exact hF (fun h => by have := mayC_def.1 h; omega) _
    by_cases a4 : b ≤ 4096
    case neg =>
      simp [hlt, hlt3, hrt, hrr, a1, Int.not_lt.2 a1, a2, Int.not_lt.2 a2, a3, Int.not_lt.2 a3, a4, Int.not_le.1 a4, -getElem?_pos, -List.getElem?_map]
      exact hF (fun h => by have := mayC_def.1 h; omega) _
    simp [hlt, hlt3, hrt, hrr, a1, Int.not_lt.2 a1, a2, Int.not_lt.2 a2, a3, Int.not_lt.2 a3, a4, Int.not_lt.2 a4, hw1, -getElem?_pos, -List.getElem?_map, -Int.natCast_add]
    exact hnext _ _ ⟨by omega, mayC_def.2 ⟨⟨a1, a2⟩, a3, a4⟩⟩ (Wk.lst (by simp [zsl]) (by simp)) (by show _ - (g + 1) < _ - g; omega)
  have hge : g = rows.length := by omega
  subst hge
  clear hL
  have hr := rng_of hall
  simp only [hr] at hK
  simp [zsl]
  refine acall_by (r14check_ctr l nl cap rows.length hl) (by simp [zsl]) ?_
  rintro _ rfl
  cases hp : planOk l rows.length
  · simp only [hp] at hK
    have : planE l rows.length = 10 := by unfold planE; rw [hp]; rfl
    rw [this]
    simp
    exact hK _
  simp only [hp] at hK
  have hpe : planE l rows.length = 0 := by unfold planE; rw [hp]; rfl
  rw [hpe]
  have hgt1 : hgt l 0 = some 1 := by
    unfold planOk at hp
    rw [Bool.and_eq_true, beq_iff_eq] at hp
    exact hp.2
  have hent : entOk rows.length [] l = true := by
    unfold planOk at hp
    rw [Bool.and_eq_true] at hp
    exact hp.1
  simp
  refine loop_on (γ := Nat × List PairI × AV × AHeap) 145 (fun g => [(0, zsl nl l cap), (1, i c), (2, zsl rn rows rc), (3, zsl tn turns tc), (12, g.2.2.1), (13, i g.1)]) (fun g => g.2.2.2)
    (fun g => g.1 ≤ l.length ∧ cnt (sizeI c) rows turns (l.take g.1) [] = some g.2.1 ∧ hgt (l.take g.1) 0 = some g.2.1.length ∧ (∀ x ∈ g.2.1, mayC x = true) ∧ OW 2 0 g.2.2.2 g.2.2.1 (flatC g.2.1) g.2.1.length) (fun g => l.length - g.1)
    (0, [], _, _) ⟨Nat.zero_le _, rfl, rfl, by simp, .nil⟩ (Wk.lst (by simp [zsl]) (by simp)) ?_
  rintro ⟨g, s, r, σ⟩ ⟨hg, hs, hz, hall2, hO⟩ L hL
  simp only at hg hs hz hall2 hO
  have hzl := hgt_le _ _ _ hz
  rw [List.length_take] at hzl
  by_cases hlt : g < l.length
  · have hw1 : IntKind.i64.wrap ((g : Int) + 1) = ((g + 1 : Nat) : Int) := w64 _ (by omega) (by omega)
    have hnext := fun s' r' σ' => hL (g + 1, s', r', σ')
    have htk : l.take (g + 1) = l.take g ++ [l[g]] := take_snoc hlt
    have hsplit : l = l.take g ++ l[g] :: l.drop (g + 1) := by
      rw [← List.drop_eq_getElem_cons hlt, List.take_append_drop]
    simp only [htk] at hnext
    have hsn := hgt_snoc l[g] hz
    have hent2 := entOk_take hent hlt
    have e0 : l.getD g 0 = l[g] := by simp [hlt]
    rw [e0] at hent2
    by_cases hk : l[g] = -1
    · rw [if_pos hk] at hsn
      have h2z : ¬ s.length < 2 := by
        intro h
        rw [if_pos h] at hsn
        have := hgt_none (b := l.drop (g + 1)) hsn
        rw [List.append_assoc, List.singleton_append, ← hsplit, hgt1] at this
        cases this
      rw [if_neg h2z] at hsn
      obtain ⟨j, v, b, rfl, hkj, hj, hb, hlen⟩ := hO.inv (by omega)
      have hlj := (List.getElem?_eq_some_iff.1 hj).1
      have hbl : s.length * 2 ≤ b.length := by
        have := congrArg List.length hb
        rw [List.length_take, flat_len] at this
        omega
      obtain ⟨m, hm⟩ : ∃ m, s.length = m + 2 := ⟨s.length - 2, by omega⟩
      have hw3 : IntKind.i64.wrap ((s.length : Int) - 2) = (m : Int) := by rw [show (s.length : Int) - 2 = m by omega]; exact w64 _ (by omega) (by omega)
      have hw4 : IntKind.i64.wrap ((s.length : Int) - 1) = ((m + 1 : Nat) : Int) := by rw [show (s.length : Int) - 1 = ((m + 1 : Nat) : Int) by omega]; exact w64 _ (by omega) (by omega)
      have ra : ((b.drop (m * 2)).take 2) = pairC (s.getD m (0, 0)) := by rw [← flat_at (by omega), ← hb, sub_take (by omega)]
      have rb : ((b.drop ((m + 1) * 2)).take 2) = pairC (s.getD (m + 1) (0, 0)) := by rw [← flat_at (by omega), ← hb, sub_take (by omega)]
      have oa : m * 2 + 2 ≤ b.length := by omega
      have ob : (m + 1) * 2 + 2 ≤ b.length := by omega
      have om : m < s.length := by omega
      have om1 : m + 1 < s.length := by omega
      have om2 : m ≤ s.length := by omega
      have ma : mayC (s.getD m (0, 0)) = true := hall2 _ (by rw [show s.getD m (0, 0) = s[m] by simp [om]]; exact List.getElem_mem _)
      have mb : mayC (s.getD (m + 1) (0, 0)) = true := hall2 _ (by rw [show s.getD (m + 1) (0, 0) = s[m + 1] by simp [om1]]; exact List.getElem_mem _)
      have hc1 : ¬ mayC (joinC (sizeI c) (s.getD m (0, 0)) (s.getD (m + 1) (0, 0))) = true → cnt (sizeI c) rows turns l [] = none := by
        intro hq
        rw [hsplit, cnt_append, hs]
        show cnt _ _ _ (l[g] :: _) s = _
        simp only [cnt]
        rw [if_pos hk, show s.length - 2 = m by omega, show s.length - 1 = m + 1 by omega, if_neg hq]
      have hc2 : mayC (joinC (sizeI c) (s.getD m (0, 0)) (s.getD (m + 1) (0, 0))) = true → cnt (sizeI c) rows turns (l.take g ++ [l[g]]) [] = some (s.take m ++ [joinC (sizeI c) (s.getD m (0, 0)) (s.getD (m + 1) (0, 0))]) := by
        intro hq
        rw [cnt_append, hs]
        show cnt _ _ _ [l[g]] s = _
        simp only [cnt]
        rw [if_pos hk, show s.length - 2 = m by omega, show s.length - 1 = m + 1 by omega, if_pos hq]
      generalize s.getD m (0, 0) = pa at *
      generalize s.getD (m + 1) (0, 0) = pb at *
      obtain ⟨pa1, pa2⟩ := pa
      obtain ⟨pb1, pb2⟩ := pb
      have hma := mayC_def.1 ma
      have hmb := mayC_def.1 mb
      have hge0 : (l.map i)[g]? = some (i (-1)) := by simp [hlt, hk]
      have ap1 : ∀ A : ABlk, (σ ++ [A])[σ.length]? = some A := fun A => by simp
      have sp1 : ∀ A C : ABlk, (σ ++ [A]).set σ.length C = σ ++ [C] := fun A C => by simp
      have ap2 : ∀ A B : ABlk, (σ ++ [A, B])[σ.length + 1]? = some B := fun A B => by simp
      have sp2 : ∀ A B C : ABlk, (σ ++ [A, B]).set (σ.length + 1) C = σ ++ [A, C] := fun A B C => by simp
      have ap3 : ∀ A B : ABlk, (σ ++ [A, B])[σ.length]? = some A := fun A B => by simp
      simp [hlt, zsl, hge0, hj, hw3, hw4, om, om1, oa, ob, ra, rb, pairC, cells_g2q, cells_in, wr, ap1, sp1, ap2, sp2, ap3, List.getElem?_append_left hlj, -cellsOf, -getElem?_pos, -List.getElem?_map, List.getElem?_cons_zero, List.getElem?_cons_succ]
      refine ⟨by omega, ?_⟩
      have q0 : (σ ++ [(⟨.own, 0, [.v (.int .i64 pa1), .v (.int .i64 pa2)]⟩ : ABlk), ⟨.own, 0, [.v (.int .i64 pb1), .v (.int .i64 pb2)]⟩])[j]? = some ⟨.own, v, b⟩ := by rw [List.getElem?_append_left hlj]; exact hj
      have q1 : (σ ++ [(⟨.own, 0, [.v (.int .i64 pa1), .v (.int .i64 pa2)]⟩ : ABlk), ⟨.own, 0, [.v (.int .i64 pb1), .v (.int .i64 pb2)]⟩])[σ.length]? = some ⟨.own, 0, [.v (.int .i64 pa1), .v (.int .i64 pa2)]⟩ := ap3 _ _
      have q2 : (σ ++ [(⟨.own, 0, [.v (.int .i64 pa1), .v (.int .i64 pa2)]⟩ : ABlk), ⟨.own, 0, [.v (.int .i64 pb1), .v (.int .i64 pb2)]⟩])[σ.length + 1]? = some ⟨.own, 0, [.v (.int .i64 pb1), .v (.int .i64 pb2)]⟩ := ap2 _ _
      have ql : (σ ++ [(⟨.own, 0, [.v (.int .i64 pa1), .v (.int .i64 pa2)]⟩ : ABlk), ⟨.own, 0, [.v (.int .i64 pb1), .v (.int .i64 pb2)]⟩]).length = σ.length + 2 := by simp
      generalize (σ ++ [(⟨.own, 0, [.v (.int .i64 pa1), .v (.int .i64 pa2)]⟩ : ABlk), ⟨.own, 0, [.v (.int .i64 pb1), .v (.int .i64 pb2)]⟩]) = τ at *
      have hsz := sizeI_rng c
      have hmx : (if pa2 < pb2 then pb2 else pa2) = max pa2 pb2 := by split <;> omega
      have w1 : IntKind.i64.wrap (pa1 + pb1) = pa1 + pb1 := w64 _ (by omega) (by omega)
      have w2 : IntKind.i64.wrap (max pa2 pb2 + sizeI c) = max pa2 pb2 + sizeI c := w64 _ (by omega) (by omega)
      have l1 : σ.length < τ.length := by omega
      have l2 : σ.length + 1 < τ.length := by omega
      refine draw_at [1, 1, 1, 1, 0, 1, 1, 1, 1, 1, 0, 5, 0, 0, 2, 4] (by kernel_rfl) (by kernel_rfl) ?_
      simp [q1, q2, l1, l2, hmx, w1, -getElem?_pos, List.getElem?_cons_zero, List.getElem?_cons_succ]
      refine actr_by (rcost_ctr c) (by simp) ⟨_, rfl⟩ ?_
      rintro _ rfl
      have tp1 : ∀ A : ABlk, (τ ++ [A])[τ.length]? = some A := fun A => by simp
      have tp2 : ∀ A C : ABlk, (τ ++ [A]).set τ.length C = τ ++ [C] := fun A C => by simp
      simp [hmx, w2, tp1, tp2, cells_g2q, cells_in, wr, -cellsOf, -getElem?_pos, List.getElem?_cons_zero, List.getElem?_cons_succ]
      have hF : ¬ mayC (pa1 + pb1, max pa2 pb2 + sizeI c) = true → ∀ σ, K (trip (0, 0, 6)) σ := fun h σ => by
        have := hc1 h
        simp only [this] at hK; exact hK σ
      by_cases d1 : 200 < pa1 + pb1
      · simp [d1, Int.not_le.2 d1]
        exact hF (fun h => by have := mayC_def.1 h; omega) _
      by_cases d2 : 4096 < max pa2 pb2 + sizeI c
      · simp [d1, Int.not_lt.1 d1, d2]
        exact hF (fun h => by have := mayC_def.1 h; omega) _
      have hq : mayC (pa1 + pb1, max pa2 pb2 + sizeI c) = true := mayC_def.2 (by omega)
      have hcnt := hc2 hq
      have hgo : ∀ r' σ', OW 2 0 σ' r' (flatC (s.take m ++ [(pa1 + pb1, max pa2 pb2 + sizeI c)])) (s.take m ++ [(pa1 + pb1, max pa2 pb2 + sizeI c)]).length → ∀ T', Wk 0 ⟨lst 145 T', σ'⟩ ⟨lst 145 [(0, zsl nl l cap), (1, i c), (2, zsl rn rows rc), (3, zsl tn turns tc), (12, r'), (13, i ((g + 1 : Nat) : Int))], σ'⟩ → L ⟨lst 145 T', σ'⟩ := fun r' σ' h T' hW =>
        hnext (s.take m ++ [(pa1 + pb1, max pa2 pb2 + sizeI c)]) r' σ' _ _ ⟨by omega, hcnt, by rw [hsn, List.length_append, List.length_take, List.length_singleton]; congr 1; omega, by
          intro x hx
          rcases List.mem_append.1 hx with hx | hx
          · exact hall2 x (List.mem_of_mem_take hx)
          · rw [List.mem_singleton.1 hx]; exact hq, h⟩ hW (by show _ - (g + 1) < _ - g; omega)
      have hlm : (s.take m ++ [(pa1 + pb1, max pa2 pb2 + sizeI c)]).length = m + 1 := by rw [List.length_append, List.length_take, List.length_singleton]; omega
      rw [flat_append, hlm] at hgo
      have hbm : b.take (m * 2) = flatC (s.take m) := by
        rw [← flat_take s m (by omega), ← hb, List.take_take, Nat.min_eq_left (by omega)]
      generalize (max pa2 pb2 + sizeI c) = e2 at *
      generalize (pa1 + pb1) = e1 at *
      simp [d1, Int.not_lt.1 d1, d2]
      refine draw_at [0, 0, 0, 0, 1, 3, 1, 0, 3, 0] (by kernel_rfl) (by kernel_rfl) ?_
      have q0' : (τ ++ [(⟨.own, 0, [.v (.int .i64 e1), .v (.int .i64 e2)]⟩ : ABlk)])[j]? = some ⟨.own, v, b⟩ := by rw [List.getElem?_append_left (by omega)]; exact q0
      have q3' := tp1 ⟨.own, 0, [.v (.int .i64 e1), .v (.int .i64 e2)]⟩
      have ql' : (τ ++ [(⟨.own, 0, [.v (.int .i64 e1), .v (.int .i64 e2)]⟩ : ABlk)]).length = τ.length + 1 := by simp
      generalize (τ ++ [(⟨.own, 0, [.v (.int .i64 e1), .v (.int .i64 e2)]⟩ : ABlk)]) = ω at *
      have hjl : j < ω.length := (List.getElem?_eq_some_iff.1 q0').1
      have htl : τ.length < ω.length := by omega
      have hflm : (flatC (s.take m)).length = m * 2 := by rw [flat_len, List.length_take, Nat.min_eq_left om2]
      have hrest : ∀ x, x = [AV.v (.int .i64 e1), AV.v (.int .i64 e2)] → flatC (s.take m) ++ x = flatC (s.take m) ++ flatC [(e1, e2)] := fun x h => by rw [h]; rfl
      have hwm : IntKind.i64.wrap (m : Int) = (m : Int) := w64 _ (by omega) (by omega)
      simp [hw3, hm, hwm, q0', hjl, htl, -aAppend, -getElem?_pos, List.getElem?_cons_zero, List.getElem?_cons_succ]
      refine ⟨by omega, append_new elT2i src2i q0' (by simp) (by show m * 2 ≤ _; omega) (by show m * 17 ≤ _; omega) (fun h => ?_) (fun h => ?_)⟩
      · subst h
        simp [q3', htl, hw1, cells_g2q, cells_in, -cellsOf, -getElem?_pos, -Int.natCast_add, List.getElem?_cons_zero, List.getElem?_cons_succ]
        exact ⟨pu_agg (by simp), hgo _ _ (.so _ _ _ _ _ (Nat.zero_le _) (by rw [List.getElem?_append_right (Nat.le_refl _), Nat.sub_self]; rfl) (by rfl) (by rfl)) _ (Wk.lst (by simp [zsl]) (by simp))⟩
      · rw [show m * ElT.sz ⟨2, 16, [.v (.int .i64 0), .v (.int .i64 0)]⟩ = m * 2 from rfl, hbm]
        have q4 : (ω ++ [(⟨.own, 0, flatC (s.take m)⟩ : ABlk)])[τ.length]? = some ⟨.own, 0, [.v (.int .i64 e1), .v (.int .i64 e2)]⟩ := by rw [List.getElem?_append_left htl]; exact q3'
        have q5 : (ω ++ [(⟨.own, 0, flatC (s.take m)⟩ : ABlk)])[ω.length]? = some ⟨.own, 0, flatC (s.take m)⟩ := by simp
        have q6 : ∀ C : ABlk, (ω ++ [(⟨.own, 0, flatC (s.take m)⟩ : ABlk)]).set ω.length C = ω ++ [C] := fun C => by simp
        have q7 : List.take (m * 2) (flatC (s.take m)) = flatC (s.take m) := List.take_of_length_le (by omega)
        have q8 : m * 2 ≤ (flatC (s.take m)).length := by omega
        generalize flatC (s.take m) = FM at *
        simp [q4, q5, q6, q7, q8, htl, hw1, wr, cells_g2q, cells_in, -cellsOf, -getElem?_pos, -Int.natCast_add, List.getElem?_cons_zero, List.getElem?_cons_succ]
        refine ⟨pu_agg (by simp), by omega, ⟨by simp, by simp, fun a ha => by rw [List.getElem?_append_left ha, List.getElem?_append_left ha]⟩, hgo _ _ (.so _ _ _ _ _ (Nat.zero_le _) (by rw [List.getElem?_append_right (Nat.le_refl _), Nat.sub_self]; rfl) ?_ ?_) _ (Wk.lst (by simp [zsl]) (by simp))⟩
        · rw [List.take_of_length_le (by rw [List.length_append, hflm]; show m * 2 + 2 ≤ _; omega)]; rfl
        · rw [List.length_append, hflm]; show m * 2 + 2 = _; omega
    · rw [if_neg hk] at hsn
      have hm := rng_at hr (j := l[g].toNat) (by omega)
      have hcnt : cnt (sizeI c) rows turns (l.take g ++ [l[g]]) [] = some (s ++ [(rows.getD l[g].toNat 0, turns.getD l[g].toNat 0)]) := by
        rw [cnt_append, hs]
        show cnt _ _ _ [l[g]] s = _
        simp only [cnt]
        rw [if_neg hk]
      have c0 : 0 ≤ l[g] := by omega
      have hge0 : (l.map i)[g]? = some (i l[g]) := by simp [hlt]
      have k0 : l[g].toNat < rows.length := by omega
      have k0' : l[g] < rows.length := hent2.2
      have k1 : l[g].toNat < turns.length := by omega
      have k1' : l[g] < turns.length := by omega
      have hrr := zmap_get rows k0
      have hrt := zmap_get turns k1
      generalize rows.getD l[g].toNat 0 = ra at *
      generalize turns.getD l[g].toNat 0 = ta at *
      generalize l[g] = k at *
      simp [hlt, zsl, hge0, c0, -getElem?_pos, -List.getElem?_map, List.getElem?_cons_zero, List.getElem?_cons_succ]
      refine draw_at [0, 0, 0, 0, 1, 1, 1, 1, 0, 0, 0, 1, 1, 1, 1, 0, 0, 4, 0] (by kernel_rfl) (by kernel_rfl) ?_
      simp [hlt, hge0, c0, k0, k0', k1, k1', hrr, hrt, cells_g2q, cells_in, wr, -cellsOf, -aAppend, -getElem?_pos, -List.getElem?_map, List.getElem?_cons_zero, List.getElem?_cons_succ]

      refine ⟨pu_agg (by simp), append_ow (k := 0) (cs := flatC s) (ys := [i ra, i ta]) elT2i src2i hO (by show (_ + 1) * 17 ≤ _; omega) (by rfl) (Nat.zero_le _) fun r' σ' hO' hσ' hS => ?_⟩
      simp [hw1, -Int.natCast_add]
      refine hnext (s ++ [(ra, ta)]) r' σ' _ _ ⟨by omega, hcnt, ?_, ?_, ?_⟩ (Wk.lst (by simp [zsl]) (by simp)) (by show _ - (g + 1) < _ - g; omega)
      · rw [hsn, List.length_append, List.length_singleton]
      · intro x hx
        rcases List.mem_append.1 hx with hx | hx
        · exact hall2 x hx
        · rw [List.mem_singleton.1 hx]; exact hm
      · rw [flat_append, List.length_append]; exact hO'
  · have hge : g = l.length := by omega
    subst hge
    clear hL
    rw [List.take_length] at hs hz
    rw [hgt1] at hz
    have hsl : s.length = 1 := (Option.some.inj hz).symm
    obtain ⟨j, v, b, rfl, hkj, hj, hb, hlen⟩ := hO.inv (by omega)
    simp only [hs] at hK
    rw [hsl] at hb
    have hbl : 2 ≤ b.length := by
      have := congrArg List.length hb
      rw [List.length_take, flat_len] at this
      omega
    have hbl1 : 1 < b.length := by omega
    have hbl0 : 0 < b.length := by omega
    have ra : b.take 2 = pairC (s.getD 0 (0, 0)) := by
      rw [← flat_at (by omega), ← hb, sub_take (by omega)]
      simp
    generalize s.getD 0 (0, 0) = pa at *
    have hjl := (List.getElem?_eq_some_iff.1 hj).1
    obtain ⟨p1, p2⟩ := pa
    have r0 : b[0]? = some (i p1) := by
      have : (b.take 2)[0]? = some (i p1) := by rw [ra]; rfl
      rwa [List.getElem?_take_of_lt (by omega)] at this
    have r1 : b[1]? = some (i p2) := by
      have : (b.take 2)[1]? = some (i p2) := by rw [ra]; rfl
      rwa [List.getElem?_take_of_lt (by omega)] at this
    simp [zsl]
    refine draw_at [0, 1, 1, 1, 0, 1, 1, 1, 0, 0, 0] (by kernel_rfl) (by kernel_rfl) ?_
    simp [hj, hjl, hsl, hbl, hbl0, hbl1, r0, r1, -getElem?_pos, List.getElem?_cons_zero, List.getElem?_cons_succ]
    exact hK _
end Go.Proofs.Nt
/- The document's answer: which shapes may be; what is wrong with a row, a merge, a plan. -/
set_option linter.unusedVariables false
set_option maxRecDepth 20000
set_option linter.unusedSimpArgs false
set_option linter.unnecessarySimpa false
namespace Go.Proofs.Nt
open Go Go.Proofs Go.Proofs.Va Go.RowKit

theorem r20may_ctr (s : ShV) (f : Fg) : Ctr Tryz.prog 9 [s.av f] (fun r => r = bo s.may) := by
  refine ctr_val Tryz.func9 rfl (by kernel_rfl) rfl (by simp) fun K hK => ?_
  have hF : ¬ (sizeI s.cols ≠ 0 ∧ 1 ≤ s.rows.length ∧ s.rows.length ≤ 8 ∧ s.turns.length = s.rows.length) → ∀ σ, K (.v (.bool false)) σ := fun h σ => by
    have : s.may = false := by unfold ShV.may; rw [decide_eq_false h]; rfl
    rw [this] at hK; exact hK σ
  simp [Tryz.f9, ShV.av, cells_g3, zsl, -cellsOf]
  refine acall_by (rsize_ctr s.cols) (by simp) ?_
  rintro _ rfl
  by_cases h0 : sizeI s.cols = 0
  · simp [h0]; exact hF (fun h => h.1 h0) _
  by_cases h1 : s.rows.length < 1
  · have h1' : s.rows.length = 0 := by omega
    simp [h0, h1']; exact hF (by omega) _
  have h1' : ¬ s.rows.length = 0 := by omega
  by_cases h2 : 8 < s.rows.length
  · simp [h0, h1', h2]; exact hF (by omega) _
  have h2' : s.rows.length ≤ 8 := by omega
  by_cases h3 : s.turns.length = s.rows.length
  case neg =>
    have h3' : ¬ s.rows.length = s.turns.length := fun h => h3 h.symm
    simp [h0, h1', h2, h2', h3']; exact hF (fun h => h3 h.2.2.2) _
  simp [h0, h1', h2, h2', eq_true h3.symm]
  have hq : s.may = rngB s.rows s.turns := by unfold ShV.may; rw [decide_eq_true ⟨h0, by omega, by omega, h3⟩]; rfl
  rw [hq] at hK
  refine loop_on (γ := Nat) 66 (fun g => [(1, .po 0 0 0), (3, i g)]) (fun _ => [⟨.own, 0, [i s.cols, zsl f.rn s.rows f.rc, zsl f.tn s.turns f.tc]⟩])
    (fun g => g ≤ s.rows.length ∧ ∀ j, j < g → mayC (s.rows.getD j 0, s.turns.getD j 0) = true) (fun g => s.rows.length - g) 0 ⟨Nat.zero_le _, by intro j hj; omega⟩ (Wk.lst (by simp) (by simp)) ?_
  rintro g ⟨hg, hall⟩ L hL
  by_cases hlt : g < s.rows.length
  · have hltb : g < s.turns.length := by omega
    have hw1 : IntKind.i64.wrap ((g : Int) + 1) = ((g + 1 : Nat) : Int) := w64 _ (by omega) (by omega)
    have hnext := hL (g + 1)
    have hN : ¬ mayC (s.rows.getD g 0, s.turns.getD g 0) = true → ∀ σ, K (.v (.bool false)) σ := fun h σ => by
      rw [rng_not hlt h] at hK; exact hK σ
    have er : s.rows.getD g 0 = s.rows[g] := by simp [hlt]
    have et : s.turns.getD g 0 = s.turns[g] := by simp [hltb]
    rw [er, et] at hN
    simp [hlt, hltb, zsl]
    by_cases b1 : 0 ≤ s.rows[g]
    case neg => simp [b1, Int.not_le.1 b1]; exact hN (fun h => by have := mayC_def.1 h; omega) _
    have b1' := Int.not_lt.2 b1
    by_cases b2 : s.rows[g] ≤ 200
    case neg => simp [b1, b1', b2, Int.not_le.1 b2, hlt]; exact hN (fun h => by have := mayC_def.1 h; omega) _
    have b2' := Int.not_lt.2 b2
    by_cases b3 : 0 ≤ s.turns[g]
    case neg => simp [b1, b1', b2, b2', b3, Int.not_le.1 b3, hlt, hltb]; exact hN (fun h => by have := mayC_def.1 h; omega) _
    have b3' := Int.not_lt.2 b3
    by_cases b4 : s.turns[g] ≤ 4096
    case neg => simp [b1, b1', b2, b2', b3, b3', b4, Int.not_le.1 b4, hlt, hltb]; exact hN (fun h => by have := mayC_def.1 h; omega) _
    have b4' := Int.not_lt.2 b4
    simp [b1, b1', b2, b2', b3, b3', b4, b4', hlt, hltb, hw1, -Int.natCast_add]
    refine hnext _ _ ⟨by omega, fun j hj => ?_⟩ (Wk.lst (by simp [zsl]) (by simp)) (by show _ - (g + 1) < _ - g; omega)
    by_cases e : j = g
    · rw [e, er, et]; exact mayC_def.2 (by omega)
    · exact hall j (by omega)
  · have hge : g = s.rows.length := by omega
    subst hge
    rw [rng_of hall] at hK
    simp [zsl]
    exact hK _

def rowU (c : Int) (x : List Nat) (y : Nat) : Int := if (x.length : Int) ≠ c then 3 else if (x.all inB && inB y) = false then 2 else 0
theorem r20row_ctr (c : Int) (xn : Bool) (x : List Nat) (xc : Option Nat) (y : Nat) (hx : Fl x) (hy : y < 18446744073709551616) (hl : x.length ≤ 100000) : Ctr Tryz.prog 43 [i c, .agg [fsl xn x xc, fl y]] (fun r => r = i (rowU c x y)) := by
  refine ctr_val Tryz.func43 rfl (by kernel_rfl) rfl (by simp) fun K hK => ?_
  have cE := rentries_ctr xn x xc y hl
  have hpr : ∀ z ∈ [AV.agg [fsl xn x xc, fl y]], Pu z := pu_av _ (pu_agg (by simp [pu_fslq]))
  have hall : (x ++ [y]).all inB = (x.all inB && inB y) := by simp
  have cA := fun cap => rall_ctr (l := x ++ [y]) false cap (by
    intro z hz
    rcases List.mem_append.1 hz with h | h
    · exact hx z h
    · rw [List.mem_singleton.1 h]; exact hy) (by simp; omega)
  rw [hall] at cA
  unfold rowU at hK
  simp [Tryz.f43, cells_g2q, cells_fslq, cells_fl, -cellsOf]
  by_cases q0 : (x.length : Int) = c
  case neg =>
    rw [if_pos q0] at hK
    simp [fsl, q0]
    exact hK _
  rw [if_neg (by omega)] at hK
  simp [fsl, eq_true q0]
  refine acall_by cE hpr ?_
  rintro _ ⟨f1, rfl⟩
  simp
  refine acall_by (cA f1) (pu_av _ (pu_fslq _ _ _)) ?_
  rintro _ rfl
  cases hq : (x.all inB && inB y)
  · rw [if_pos hq] at hK
    simp
    exact hK _
  · rw [if_neg (by rw [hq]; decide)] at hK
    simp
    exact hK _
theorem r20insert_ctr (s : ShV) (f : Fg) (o : OpV) (hm : s.may = true) (hh : s.has o.shard = true) (ho : o.fit) (hk : o.kind = 1) : Ctr Tryz.prog 23 [s.av f, o.av] (fun r => r = i (rowE s o)) := by
  refine ctr_val Tryz.func23 rfl (by kernel_rfl) rfl (by simp) fun K hK => ?_
  have hhi := has_iff.1 hh
  have hcc := sh_cols hm
  have hln := sh_len hm
  have ha := sh_at hm hh
  have rr := row_at hh
  have rt := turn_at hm hh
  have k0 : o.shard.toNat < s.rows.length := by omega
  have k0' : o.shard < s.rows.length := hhi.2
  have k1' : o.shard < s.turns.length := by omega
  have k1 : o.shard.toNat < s.turns.length := by omega
  have k2 : 0 ≤ o.shard := hhi.1
  have wa : IntKind.i64.wrap (s.turn o.shard + s.cols) = s.turn o.shard + s.cols := w64 _ (by omega) (by omega)
  have wb : IntKind.i64.wrap (s.turn o.shard + s.cols + 1) = s.turn o.shard + s.cols + 1 := w64 _ (by omega) (by omega)
  have hE : rowE s o = if rowU s.cols o.x o.y ≠ 0 then rowU s.cols o.x o.y else if 200 ≤ s.row o.shard ∨ 4096 < s.turn o.shard + s.cols + 1 then 6 else 0 := by
    unfold rowE rowU roomE
    generalize (o.x.all inB && inB o.y) = q
    by_cases c1 : (o.x.length : Int) = s.cols
    · cases q
      · simp [c1]
      · simp only [c1, hk]
        by_cases e : s.row o.shard = 200
        · simp [e]
        · have e1 : ¬ 200 ≤ s.row o.shard := by omega
          simp [e, e1, Int.add_assoc]
    · simp [c1]
  rw [hE] at hK
  have cR := r20row_ctr s.cols o.xn o.x o.xc o.y ho.fx ho.fy ho.lx
  generalize rowU s.cols o.x o.y = q at *
  simp [Tryz.f23, ShV.av, OpV.av, OpV.cs, cells_g3, cells_g9, -cellsOf]
  refine acall_by cR (by
    intro z hz
    simp only [List.mem_cons, List.not_mem_nil, or_false] at hz
    rcases hz with rfl | rfl
    · simp
    · exact pu_agg (by simp [pu_fslq])) ?_
  rintro _ rfl
  by_cases q0 : q = 0
  case neg =>
    rw [if_pos q0] at hK
    simp [q0]
    exact hK _
  rw [if_neg (by omega)] at hK
  simp [q0]
  refine draw_at [1, 1, 1, 1, 1, 1, 0, 0, 1, 1, 1, 1, 1, 1, 1, 1, 0, 0, 0, 0] (by kernel_rfl) (by kernel_rfl) ?_
  by_cases e1 : 200 ≤ s.row o.shard
  · rw [if_pos (.inl e1)] at hK
    simp [zsl, k0, k0', k1, k1', k2, rr, rt, wa, wb, e1, -getElem?_pos, List.getElem?_cons_zero, List.getElem?_cons_succ]
    exact hK _
  by_cases e2 : 4096 < s.turn o.shard + s.cols + 1
  · rw [if_pos (.inr e2)] at hK
    simp [zsl, k0, k0', k1, k1', k2, rr, rt, wa, wb, e1, Int.not_le.1 e1, e2, -getElem?_pos, List.getElem?_cons_zero, List.getElem?_cons_succ]
    exact hK _
  · rw [if_neg (by omega)] at hK
    simp [zsl, k0, k0', k1, k1', k2, rr, rt, wa, wb, e1, Int.not_le.1 e1, e2, -getElem?_pos, List.getElem?_cons_zero, List.getElem?_cons_succ]
    exact hK _
theorem r20remove_ctr (s : ShV) (f : Fg) (o : OpV) (hm : s.may = true) (hh : s.has o.shard = true) (ho : o.fit) (hk : o.kind = 2) : Ctr Tryz.prog 24 [s.av f, o.av] (fun r => r = i (rowE s o)) := by
  refine ctr_val Tryz.func24 rfl (by kernel_rfl) rfl (by simp) fun K hK => ?_
  have hhi := has_iff.1 hh
  have hcc := sh_cols hm
  have hln := sh_len hm
  have ha := sh_at hm hh
  have rr := row_at hh
  have rt := turn_at hm hh
  have k0 : o.shard.toNat < s.rows.length := by omega
  have k0' : o.shard < s.rows.length := hhi.2
  have k1' : o.shard < s.turns.length := by omega
  have k1 : o.shard.toNat < s.turns.length := by omega
  have k2 : 0 ≤ o.shard := hhi.1
  have wa : IntKind.i64.wrap (s.turn o.shard + s.cols) = s.turn o.shard + s.cols := w64 _ (by omega) (by omega)
  have wb : IntKind.i64.wrap (s.turn o.shard + s.cols + 1) = s.turn o.shard + s.cols + 1 := w64 _ (by omega) (by omega)
  have hE : rowE s o = if rowU s.cols o.x o.y ≠ 0 then rowU s.cols o.x o.y else if s.row o.shard = 0 then 5 else if 4096 < s.turn o.shard + s.cols + 1 then 6 else 0 := by
    unfold rowE rowU roomE
    generalize (o.x.all inB && inB o.y) = q
    by_cases c1 : (o.x.length : Int) = s.cols
    · cases q
      · simp [c1]
      · simp only [c1, hk]
        by_cases e : s.row o.shard = 0
        · simp [e]
        · simp [e, Int.add_assoc]
    · simp [c1]
  rw [hE] at hK
  have cR := r20row_ctr s.cols o.xn o.x o.xc o.y ho.fx ho.fy ho.lx
  generalize rowU s.cols o.x o.y = q at *
  simp [Tryz.f24, ShV.av, OpV.av, OpV.cs, cells_g3, cells_g9, -cellsOf]
  refine acall_by cR (by
    intro z hz
    simp only [List.mem_cons, List.not_mem_nil, or_false] at hz
    rcases hz with rfl | rfl
    · simp
    · exact pu_agg (by simp [pu_fslq])) ?_
  rintro _ rfl
  by_cases q0 : q = 0
  case neg =>
    rw [if_pos q0] at hK
    simp [q0]
    exact hK _
  rw [if_neg (by omega)] at hK
  by_cases e1 : s.row o.shard = 0
  · rw [if_pos e1] at hK
    simp [q0, zsl, k0, k0', k1, k1', k2, rr, rt, e1, -getElem?_pos, List.getElem?_cons_zero, List.getElem?_cons_succ]
    exact hK _
  rw [if_neg e1] at hK
  simp [q0, zsl, k0, k0', k1, k1', k2, rr, rt, e1, -getElem?_pos, List.getElem?_cons_zero, List.getElem?_cons_succ]
  refine draw_at [1, 1, 1, 1, 1, 1, 1, 1, 0, 0, 0] (by kernel_rfl) (by kernel_rfl) ?_
  by_cases e2 : 4096 < s.turn o.shard + s.cols + 1
  · rw [if_pos e2] at hK
    simp [zsl, k0, k0', k1, k1', k2, rr, rt, wa, wb, e2, -getElem?_pos, List.getElem?_cons_zero, List.getElem?_cons_succ]
    exact hK _
  · rw [if_neg e2] at hK
    simp [zsl, k0, k0', k1, k1', k2, rr, rt, wa, wb, e2, -getElem?_pos, List.getElem?_cons_zero, List.getElem?_cons_succ]
    exact hK _
theorem r20merge_ctr (s : ShV) (f : Fg) (o : OpV) (hm : s.may = true) (hh : s.has o.shard = true) : Ctr Tryz.prog 26 [s.av f, o.av] (fun r => r = i (bothE s o)) := by
  refine ctr_val Tryz.func26 rfl (by kernel_rfl) rfl (by simp) fun K hK => ?_
  have hhi := has_iff.1 hh
  have hcc := sh_cols hm
  have hln := sh_len hm
  have ha := sh_at hm hh
  have rr := row_at hh
  have rt := turn_at hm hh
  have k0 : o.shard.toNat < s.rows.length := by omega
  have k0' : o.shard < s.rows.length := hhi.2
  have k1' : o.shard < s.turns.length := by omega
  have k1 : o.shard.toNat < s.turns.length := by omega
  have k2 : 0 ≤ o.shard := hhi.1
  unfold bothE at hK
  simp [Tryz.f26, ShV.av, OpV.av, OpV.cs, cells_g3, cells_g9, -cellsOf]
  have hN : s.has o.frm = false → ∀ σ, K (i 1) σ := fun h σ => by rw [if_pos (.inl h)] at hK; exact hK σ
  by_cases b0 : 0 ≤ o.frm
  case neg =>
    simp [b0, Int.not_le.1 b0]
    exact hN (decide_eq_false (by omega)) _
  by_cases b1 : o.frm < s.rows.length
  case neg =>
    simp [zsl, b0, Int.not_lt.2 b0, b1, Int.not_lt.1 b1]
    exact hN (decide_eq_false (by omega)) _
  by_cases b2 : o.frm = o.shard
  · rw [if_pos (.inr b2)] at hK
    rw [b2] at b0 b1
    simp [zsl, b0, Int.not_lt.2 b0, b1, Int.not_le.2 b1, eq_true b2, b2]
    exact hK _
  have b3 : s.has o.frm = true := decide_eq_true ⟨b0, b1⟩
  rw [if_neg (fun h => h.elim (fun h => by rw [b3] at h; cases h) b2)] at hK
  have hfi := has_iff.1 b3
  have hb := sh_at hm b3
  have rr2 := row_at b3
  have rt2 := turn_at hm b3
  have j0 : o.frm.toNat < s.rows.length := by omega
  have j0' : o.frm < s.rows.length := hfi.2
  have j1' : o.frm < s.turns.length := by omega
  have j1 : o.frm.toNat < s.turns.length := by omega
  have j2 : 0 ≤ o.frm := hfi.1
  have hw : IntKind.i64.wrap (s.row o.shard + s.row o.frm) = s.row o.shard + s.row o.frm := w64 _ (by omega) (by omega)
  have hsz := sizeI_rng s.cols
  have hmx : (if s.turn o.shard < s.turn o.frm then s.turn o.frm else s.turn o.shard) = max (s.turn o.shard) (s.turn o.frm) := by split <;> omega
  have wm : IntKind.i64.wrap (max (s.turn o.shard) (s.turn o.frm) + sizeI s.cols) = max (s.turn o.shard) (s.turn o.frm) + sizeI s.cols := w64 _ (by omega) (by omega)
  simp [zsl, b0, Int.not_lt.2 b0, b1, Int.not_le.2 b1, b2]
  refine draw_at [1, 1, 1, 1, 1, 1, 1, 1, 1, 1, 1, 1, 0, 0, 0, 1, 1, 1, 1, 1, 1, 1, 1, 1, 1, 1, 1, 1, 1, 1, 3, 0, 0, 0] (by kernel_rfl) (by kernel_rfl) ?_
  by_cases e1 : 200 < s.row o.shard + s.row o.frm
  · rw [if_pos e1] at hK
    simp [zsl, k0, k0', k1, k1', k2, rr, rt, j0, j0', j1, j1', j2, rr2, rt2, hw, e1, -getElem?_pos, List.getElem?_cons_zero, List.getElem?_cons_succ]
    exact hK _
  rw [if_neg e1] at hK
  unfold roomE at hK
  simp (maxSteps := 1000000) [zsl, k0, k0', k1, k1', k2, rr, rt, j0, j0', j1, j1', j2, rr2, rt2, hw, e1, Int.not_lt.1 e1, -getElem?_pos, List.getElem?_cons_zero, List.getElem?_cons_succ]
  refine acall_by (rcost_ctr s.cols) (by simp) ?_
  rintro _ rfl
  by_cases e2 : 4096 < max (s.turn o.shard) (s.turn o.frm) + sizeI s.cols
  · rw [if_pos e2] at hK
    simp [wm, hmx, e2]
    exact hK _
  · rw [if_neg e2] at hK
    simp [wm, hmx, e2]
    exact hK _
end Go.Proofs.Nt
/- The document's answer: what is wrong with a plan that is solved; with what is asked. -/
set_option linter.unusedVariables false
set_option maxRecDepth 20000
set_option linter.unusedSimpArgs false
set_option linter.unnecessarySimpa false
namespace Go.Proofs.Nt
open Go Go.Proofs Go.Proofs.Va Go.RowKit

theorem r20solve_ctr (s : ShV) (f : Fg) (o : OpV) (hm : s.may = true) (ho : o.fit) (hk : o.kind = 7) : Ctr Tryz.prog 28 [s.av f, o.av] (fun r => r = i (ansE s o)) := by
  refine ctr_val Tryz.func28 rfl (by kernel_rfl) rfl (by simp) fun K hK => ?_
  have hln := sh_len hm
  have hcc := sh_cols hm
  have cC := r14counts_ctr o.plan o.pn o.pc s.cols s.rows s.turns f.rn f.tn f.rc f.tc ho.lp (by omega) (by omega)
  have hrg : (countsE o.plan s.cols s.rows s.turns).2.2 = 0 → 0 ≤ (countsE o.plan s.cols s.rows s.turns).2.1 ∧ (countsE o.plan s.cols s.rows s.turns).2.1 ≤ 4096 := counts_rng (sh_rng hm)
  unfold ansE at hK
  generalize countsE o.plan s.cols s.rows s.turns = C at *
  obtain ⟨a, b, e⟩ := C
  simp only at hK hrg
  have hmul : 0 ≤ s.cols * (s.cols + 1) ∧ s.cols * (s.cols + 1) ≤ 42 := by
    have : s.cols = 1 ∨ s.cols = 2 ∨ s.cols = 3 ∨ s.cols = 4 ∨ s.cols = 5 ∨ s.cols = 6 := by omega
    rcases this with h | h | h | h | h | h <;> rw [h] <;> decide
  have w1 : IntKind.i64.wrap (s.cols + 1) = s.cols + 1 := w64 _ (by omega) (by omega)
  have w2 : IntKind.i64.wrap (s.cols * (s.cols + 1)) = s.cols * (s.cols + 1) := w64 _ (by omega) (by omega)
  simp [Tryz.f28, ShV.av, OpV.av, OpV.cs, cells_g3, cells_g9, -cellsOf]
  refine acall_by cC (by simp) ?_
  rintro _ rfl
  by_cases h0 : e = 0
  case neg =>
    simp only [if_pos h0] at hK
    simp [trip, h0]
    exact hK _
  have hb := hrg h0
  have w3 : IntKind.i64.wrap (b + s.cols * (s.cols + 1)) = b + s.cols * (s.cols + 1) := w64 _ (by omega) (by omega)
  simp only [h0, ne_eq, not_true_eq_false, if_false] at hK
  have h8 : ¬ o.kind = 8 := by omega
  simp only [if_neg (show ¬ (o.kind = 8 ∧ a ≤ s.cols) from fun h => h8 h.1), if_neg h8] at hK
  have hsp : ∃ g m ex kd, splitV o.mu = .tup [bo g, u m, i ex, i kd] ∧ (¬ 9218868437227405312 < frg o.mu → g = fsg o.mu) := ⟨_, _, _, _, rfl, fun h => if_neg h⟩
  obtain ⟨g, m, ex, kd, hsp, hgs⟩ := hsp
  simp [trip, h0]
  refine acall_by (rsplit_ctr ho.fm) (by simp) ?_
  rintro _ rfl
  rw [hsp]
  simp
  refine acall_by (rin_ctr ho.fm) (by simp) ?_
  rintro _ rfl
  cases hi : inB o.mu
  · simp only [if_pos (show inB o.mu = false ∨ fsg o.mu = true from .inl hi)] at hK
    simp
    exact hK _
  have hin := of_decide_eq_true hi
  have hnn : ¬ 9218868437227405312 < frg o.mu := by omega
  have hgs := hgs hnn
  subst hgs
  cases hg : fsg o.mu
  case true =>
    simp only [if_pos (show inB o.mu = false ∨ fsg o.mu = true from .inr hg)] at hK
    simp
    exact hK _
  simp only [if_neg (show ¬ (inB o.mu = false ∨ fsg o.mu = true) from fun h => h.elim (fun h => by rw [hi] at h; cases h) (fun h => by rw [hg] at h; cases h))] at hK
  by_cases hz : frg o.mu = 0
  · simp only [if_pos hz] at hK
    have hz1 : Ieee.double.order o.mu 0 = some .eq := by have := eq_zero_f o.mu; rw [decide_eq_true hz] at this; simpa using this
    simp [hz1]
    exact hK _
  simp only [if_neg hz] at hK
  have hz1 : ¬ Ieee.double.order o.mu 0 = some .eq := by have := eq_zero_f o.mu; rw [decide_eq_false hz] at this; simpa using this
  unfold roomE at hK
  by_cases hq : 4096 < b + s.cols * (s.cols + 1)
  · rw [if_pos hq] at hK
    simp [hz1, w1, w2, w3, hq]
    exact hK _
  · rw [if_neg hq] at hK
    simp [hz1, w1, w2, w3, hq]
    exact hK _

theorem fld_fa_av (f : FaV) (tn : Bool) (tc : Option Nat) : f.av tn tc = .agg [i f.cols, fsl tn f.tri tc, i f.rows, i f.turns] := rfl
theorem r20op_ctr (s : ShV) (f : Fg) (o : OpV) (ho : o.fit) : Ctr Tryz.prog 11 [s.av f, o.av] (fun r => r = i (opE s o)) := by
  refine ctr_val Tryz.func11 rfl (by kernel_rfl) rfl (by simp) fun K hK => ?_
  have hp := pu_shop s f o
  have hp1 := pu_av _ (pu_sh s f)
  have cM := r20may_ctr s f
  have cI := fun h1 h2 h3 => r20insert_ctr s f o h1 h2 ho h3
  have cR := fun h1 h2 h3 => r20remove_ctr s f o h1 h2 ho h3
  have cG := fun h1 h2 => r20merge_ctr s f o h1 h2
  have cV := fun h1 h2 => r20solve_ctr s f o h1 ho h2
  have hB : badO s o → ∀ σ, K (i 1) σ := fun h σ => by rw [opE_bad h] at hK; exact hK σ
  have hG : ¬ badO s o → ∀ σ, K (i (lookE s o)) σ := fun h σ => by rw [opE_ok h] at hK; exact hK σ
  rw [fld_op_av, fld_sh_av] at *
  clear hK
  simp [Tryz.f11, cells_g3, cells_g9, -cellsOf]
  refine acall_by cM hp1 ?_
  rintro _ rfl
  cases hm : s.may
  · simp
    exact hB (.inl hm) _
  by_cases h1 : o.kind < 1
  · simp [h1, Int.not_le.2 h1]
    exact hB (.inr (.inl h1)) _
  by_cases h2 : 8 < o.kind
  · simp [h1, Int.not_lt.1 h1, h2, Int.not_le.2 h2]
    exact hB (.inr (.inr (.inl h2))) _
  have h1' := Int.not_lt.1 h1
  have h2' := Int.not_lt.1 h2
  have hln := sh_len hm
  have hcc := sh_cols hm
  by_cases h3 : o.kind ≤ 6
  · by_cases n1 : 0 ≤ o.shard
    case neg =>
      simp [h1, h1', h2, h2', h3, Int.not_lt.2 h3, n1, Int.not_le.1 n1]
      exact hB (.inr (.inr (.inr ⟨h3, decide_eq_false (by omega)⟩))) _
    by_cases n2 : o.shard < s.rows.length
    case neg =>
      simp [zsl, h1, h1', h2, h2', h3, Int.not_lt.2 h3, n1, Int.not_lt.2 n1, n2, Int.not_lt.1 n2]
      exact hB (.inr (.inr (.inr ⟨h3, decide_eq_false (by omega)⟩))) _
    have hh : s.has o.shard = true := decide_eq_true ⟨n1, n2⟩
    have hok : ¬ badO s o := by
      rintro (h | h | h | h)
      · rw [hm] at h; cases h
      · exact h1 h
      · exact h2 h
      · rw [hh] at h; cases h.2
    have hG := hG hok
    unfold lookE at hG
    have ha := sh_at hm hh
    have rt := turn_at hm hh
    have k1' : o.shard < s.turns.length := by omega
    have k1 : o.shard.toNat < s.turns.length := by omega
    simp [zsl, h1, h1', h2, h2', h3, Int.not_lt.2 h3, n1, Int.not_lt.2 n1, n2, Int.not_le.2 n2]
    by_cases e1 : o.kind = 1
    · rw [if_pos (.inl e1)] at hG
      simp [eq_true e1]
      refine acall_by (cI hm hh e1) hp ?_
      rintro _ rfl
      simp
      exact hG _
    by_cases e2 : o.kind = 2
    · rw [if_pos (.inr e2)] at hG
      simp [e1, eq_true e2]
      refine acall_by (cR hm hh e2) hp ?_
      rintro _ rfl
      simp
      exact hG _
    rw [if_neg (fun h => h.elim e1 e2)] at hG
    by_cases e3 : o.kind = 3
    · rw [if_pos e3] at hG
      simp [e1, e2, eq_true e3]
      refine acall_by (rfmay_ctr ho.fb) (by simp) ?_
      rintro _ rfl
      cases hmb : mayB o.beta
      · rw [if_neg (by rw [hmb]; decide)] at hG
        simp
        exact hG _
      rw [if_pos hmb] at hG
      unfold roomE at hG
      have wt : IntKind.i64.wrap (s.turn o.shard + 1) = s.turn o.shard + 1 := w64 _ (by omega) (by omega)
      by_cases q : 4096 < s.turn o.shard + 1
      · rw [if_pos q] at hG
        simp [n1, k1, k1', rt, wt, q, -getElem?_pos, List.getElem?_cons_zero, List.getElem?_cons_succ]
        exact hG _
      · rw [if_neg q] at hG
        simp [n1, k1, k1', rt, wt, q, -getElem?_pos, List.getElem?_cons_zero, List.getElem?_cons_succ]
        exact hG _
    rw [if_neg e3] at hG
    by_cases e4 : o.kind = 4
    · rw [if_pos e4] at hG
      simp [e1, e2, e3, eq_true e4]
      refine acall_by (cG hm hh) hp ?_
      rintro _ rfl
      simp
      exact hG _
    rw [if_neg e4] at hG
    by_cases e6 : o.kind = 6
    · rw [if_pos e6] at hG
      unfold loadE at hG
      simp [e1, e2, e3, e4, eq_true e6]
      refine acall_by (r15decode_ctr o.bytes ho.lb) (by simp) ?_
      rintro _ ⟨tn, tc, rfl⟩
      by_cases d0 : decE o.bytes = 0
      · have hF : decF o.bytes = facOf o.bytes := if_pos d0
        rw [hF]
        by_cases d1 : (facOf o.bytes).cols = s.cols
        · rw [if_neg (show ¬ (decE o.bytes = 0 ∧ (facOf o.bytes).cols ≠ s.cols) from fun h => h.2 d1), d0] at hG
          simp [FaV.av, cells_g4, fsl, d0, d1, wr, -cellsOf]
          exact hG _
        · rw [if_pos (show (decE o.bytes = 0 ∧ (facOf o.bytes).cols ≠ s.cols) from ⟨d0, d1⟩)] at hG
          simp [FaV.av, cells_g4, fsl, d0, d1, wr, -cellsOf]
          exact hG _
      · rw [if_neg (show ¬ (decE o.bytes = 0 ∧ (facOf o.bytes).cols ≠ s.cols) from fun h => d0 h.1)] at hG
        simp [FaV.av, cells_g4, fsl, d0, wr, -cellsOf]
        exact hG _
    have e5 : o.kind = 5 := by omega
    rw [if_neg e6, if_neg (by omega)] at hG
    have e7 : ¬ o.kind = 7 := by omega
    have e8 : ¬ o.kind = 8 := by omega
    simp [e1, e2, e3, e4, e6, e7, e8]
    exact hG _
  · have hok : ¬ badO s o := by
      rintro (h | h | h | h)
      · rw [hm] at h; cases h
      · exact h1 h
      · exact h2 h
      · exact h3 h.1
    have hG := hG hok
    have e1 : ¬ o.kind = 1 := by omega
    have e2 : ¬ o.kind = 2 := by omega
    have e3 : ¬ o.kind = 3 := by omega
    have e4 : ¬ o.kind = 4 := by omega
    have e6 : ¬ o.kind = 6 := by omega
    unfold lookE at hG
    rw [if_neg (fun h => h.elim e1 e2), if_neg e3, if_neg e4, if_neg e6] at hG
    simp [h1, h1', h2, h2', h3, Int.not_le.1 h3]
    by_cases e7 : o.kind = 7
    · rw [if_pos (.inl e7)] at hG
      simp [e1, e2, e3, e4, e6, eq_true e7]
      refine acall_by (cV hm e7) hp ?_
      rintro _ rfl
      simp
      exact hG _
    have e8 : o.kind = 8 := by omega
    rw [if_pos (.inr e8)] at hG
    have cC := r14counts_ctr o.plan o.pn o.pc s.cols s.rows s.turns f.rn f.tn f.rc f.tc ho.lp (by omega) (by omega)
    unfold ansE at hG
    generalize countsE o.plan s.cols s.rows s.turns = C at *
    obtain ⟨a, b, e⟩ := C
    simp only at hG
    simp [e1, e2, e3, e4, e6, e7, eq_true e8]
    refine acall_by cC (by simp) ?_
    rintro _ rfl
    by_cases q0 : e = 0
    case neg =>
      simp only [if_pos q0] at hG
      simp [trip, q0]
      exact hG _
    simp only [q0, ne_eq, not_true_eq_false, if_false] at hG
    by_cases q1 : a ≤ s.cols
    · rw [if_pos ⟨e8, q1⟩] at hG
      simp [trip, q0, q1]
      exact hG _
    · rw [if_neg (fun h => q1 h.2), if_pos e8] at hG
      simp [trip, q0, q1]
      exact hG _
end Go.Proofs.Nt
/- The document's answer: what comes next; a table. -/
set_option linter.unusedVariables false
set_option maxRecDepth 20000
set_option linter.unusedSimpArgs false
set_option linter.unnecessarySimpa false
namespace Go.Proofs.Nt
open Go Go.Proofs Go.Proofs.Va Go.RowKit

set_option maxHeartbeats 2000000 in
theorem r20next_ctr (s : ShV) (f : Fg) (o : OpV) (ho : o.fit) : Ctr Tryz.prog 14 [s.av f, o.av] (nextA s o) := by
  refine ctr_in Tryz.func14 rfl (by kernel_rfl) rfl fun K hK => ?_
  have hp := pu_shop s f o
  have cO := r20op_ctr s f o ho
  have hS : opE s o ≠ 0 → ∀ σ, K (s.av f) σ := fun h σ => hK _ _ _ (.same _ (pu_sh s f)) ⟨f, by rw [nextS_same (.inl h)]⟩
  rw [fld_op_av, fld_sh_av] at *
  simp [Tryz.f14, cells_g3, cells_g9, -cellsOf]
  refine acall_by cO hp ?_
  rintro _ rfl
  by_cases h0 : opE s o = 0
  case neg =>
    simp [h0, cells_g3, -cellsOf]
    exact hS h0 _
  simp [h0]
  have hb0 : ¬ badO s o := fun h => by rw [opE_bad h] at h0; cases h0
  have hm := nb_may hb0
  have hkk := nb_kind hb0
  have hln := sh_len hm
  have hcc := sh_cols hm
  have hr0 : s.rows ≠ [] := by intro h; rw [h] at hln; simp at hln
  have ht0 : s.turns ≠ [] := by intro h; rw [h] at hln; simp at hln; omega
  have l1 : 0 < s.rows.length ∧ s.rows.length * 9 ≤ 140737488355328 := by omega
  have l2 : 0 < s.turns.length ∧ s.turns.length * 9 ≤ 140737488355328 := by omega
  refine draw_at [1, 1, 0, 1, 1, 10, 0, 1, 1, 11, 0, 9, 4] (by kernel_rfl) (by kernel_rfl) ?_
  simp [zsl, l1.1, l1.2, l2.1, l2.2]
  refine ⟨(same_more (σ := [_, _, _]) (more := [_, _])).2 (by simp), (same_more3 (σ := [_, _, _, _, _]) (more := [_])).2 (by simp), ⟨by simp, by simp, fun j hj => by
    have : j = 0 ∨ j = 1 ∨ j = 2 := by omega
    rcases this with rfl | rfl | rfl <;> rfl⟩, ?_⟩
  have nK := hK
  unfold nextA at nK
  have nS : o.kind = 5 ∨ o.kind = 7 ∨ o.kind = 8 → nextS s o = s := fun h => nextS_same (.inr h)
  by_cases h578 : o.kind = 5 ∨ o.kind = 7 ∨ o.kind = 8
  · rw [nS h578] at nK
    have e1 : ¬ o.kind = 1 := by omega
    have e2 : ¬ o.kind = 2 := by omega
    have e3 : ¬ o.kind = 3 := by omega
    have e4 : ¬ o.kind = 4 := by omega
    have e6 : ¬ o.kind = 6 := by omega
    simp [e1, e2, e3, e4, e6, wr]
    exact nK _ _ _ (pur_sh (j1 := 4) (j2 := 5) (v1 := 1) (v2 := 1) (l1 := s.rows) (l2 := s.turns) (by rfl) (by rfl) (by simp) (by simp)).choose_spec ⟨_, rfl⟩
  have h5 : ¬ o.kind = 5 := fun h => h578 (.inl h)
  have h7 : ¬ o.kind = 7 := fun h => h578 (.inr (.inl h))
  have h8 : ¬ o.kind = 8 := fun h => h578 (.inr (.inr h))
  obtain ⟨_, hh, ht⟩ := next_turn h0 h5 h7 h8
  have hhi := has_iff.1 hh
  have ha := sh_at hm hh
  have k2 := hhi.1
  have k0 : o.shard.toNat < s.rows.length := by omega
  have k0' : o.shard < s.rows.length := hhi.2
  have k1 : o.shard.toNat < s.turns.length := by omega
  have k1' : o.shard < s.turns.length := by omega
  have er : s.rows[o.shard.toNat] = s.row o.shard := by unfold ShV.row; simp [k0]
  have et : s.turns[o.shard.toNat] = s.turn o.shard := by unfold ShV.turn; simp [k1]
  unfold nextS at nK
  rw [if_neg (by rintro (h | h | h | h); exact h h0; exact h5 h; exact h7 h; exact h8 h)] at nK
  have lb1 : o.shard.toNat + 1 ≤ s.rows.length := by omega
  have lb2 : o.shard.toNat + 1 ≤ s.turns.length := by omega
  have wc : IntKind.i64.wrap (s.turn o.shard + s.cols) = s.turn o.shard + s.cols := w64 _ (by omega) (by omega)
  have wd : IntKind.i64.wrap (s.turn o.shard + s.cols + 1) = s.turn o.shard + (s.cols + 1) := by rw [w64 _ (by omega) (by omega)]; omega
  by_cases e1 : o.kind = 1
  · simp only [if_pos e1] at nK
    have wa : IntKind.i64.wrap (s.row o.shard + 1) = s.row o.shard + 1 := w64 _ (by omega) (by omega)
    simp [eq_true e1]
    refine draw_at [1, 1, 1, 1, 1, 1, 1, 1, 1, 1, 0, 1, 4] (by kernel_rfl) (by kernel_rfl) ?_
    simp [k0, k0', k1, k1', k2, er, wa, lb1]
    refine draw_at [1, 1, 1, 1, 1, 1, 1, 1, 1, 1, 1, 1, 0, 0, 1, 4] (by kernel_rfl) (by kernel_rfl) ?_
    simp [k0, k0', k1, k1', k2, et, wc, wd, lb2, wr]
    exact nK _ _ _ (pur_sh (j1 := 4) (j2 := 5) (v1 := 1) (v2 := 1) (l1 := s.rows.set o.shard.toNat (s.row o.shard + 1)) (l2 := s.turns.set o.shard.toNat (s.turn o.shard + (s.cols + 1))) (by rw [← st_at]; rfl) (by rw [← st_at]; rfl) (by simp) (by simp)).choose_spec ⟨_, rfl⟩
  simp only [if_neg e1] at nK
  by_cases e2 : o.kind = 2
  · simp only [if_pos e2] at nK
    have wb : IntKind.i64.wrap (s.row o.shard - 1) = s.row o.shard - 1 := w64 _ (by omega) (by omega)
    simp [e1, eq_true e2]
    refine draw_at [1, 1, 1, 1, 1, 1, 1, 1, 1, 1, 0, 1, 4] (by kernel_rfl) (by kernel_rfl) ?_
    simp [k0, k0', k1, k1', k2, er, wb, lb1]
    refine draw_at [1, 1, 1, 1, 1, 1, 1, 1, 1, 1, 1, 1, 0, 0, 1, 4] (by kernel_rfl) (by kernel_rfl) ?_
    simp [k0, k0', k1, k1', k2, et, wc, wd, lb2, wr]
    exact nK _ _ _ (pur_sh (j1 := 4) (j2 := 5) (v1 := 1) (v2 := 1) (l1 := s.rows.set o.shard.toNat (s.row o.shard - 1)) (l2 := s.turns.set o.shard.toNat (s.turn o.shard + (s.cols + 1))) (by rw [← st_at]; rfl) (by rw [← st_at]; rfl) (by simp) (by simp)).choose_spec ⟨_, rfl⟩
  simp only [if_neg e2] at nK
  by_cases e3 : o.kind = 3
  · simp only [if_pos e3] at nK
    have wt : IntKind.i64.wrap (s.turn o.shard + 1) = s.turn o.shard + 1 := w64 _ (by omega) (by omega)
    simp [e1, e2, eq_true e3]
    refine draw_at [1, 1, 1, 1, 1, 1, 1, 1, 1, 1, 0, 1, 4] (by kernel_rfl) (by kernel_rfl) ?_
    simp [k0, k0', k1, k1', k2, et, wt, lb2, wr]
    exact nK _ _ _ (pur_sh (j1 := 4) (j2 := 5) (v1 := 1) (v2 := 1) (l1 := s.rows) (l2 := s.turns.set o.shard.toNat (s.turn o.shard + 1)) (by rfl) (by rw [← st_at]; rfl) (by simp) (by simp)).choose_spec ⟨_, rfl⟩
  simp only [if_neg e3] at nK
  by_cases e4 : o.kind = 4
  · simp only [if_pos e4] at nK
    have hfr : s.has o.frm = true ∧ o.frm ≠ o.shard := by
      cases ht with
      | one a b h1 h2 hk hs hb => exact absurd e4 hk
      | two h1 h2 hf hd hk => exact ⟨hf, hd⟩
    have hfi := has_iff.1 hfr.1
    have hb := sh_at hm hfr.1
    have j2 := hfi.1
    have j0 : o.frm.toNat < s.rows.length := by omega
    have j0' : o.frm < s.rows.length := hfi.2
    have j1 : o.frm.toNat < s.turns.length := by omega
    have j1' : o.frm < s.turns.length := by omega
    have fr : s.rows[o.frm.toNat] = s.row o.frm := by unfold ShV.row; simp [j0]
    have ft : s.turns[o.frm.toNat] = s.turn o.frm := by unfold ShV.turn; simp [j1]
    have lb3 : o.frm.toNat + 1 ≤ s.rows.length := by omega
    have lb4 : o.frm.toNat + 1 ≤ s.turns.length := by omega
    have hsz := sizeI_rng s.cols
    have hmx : (if s.turn o.shard < s.turn o.frm then s.turn o.frm else s.turn o.shard) = max (s.turn o.shard) (s.turn o.frm) := by split <;> omega
    have wr1 : IntKind.i64.wrap (s.row o.shard + s.row o.frm) = s.row o.shard + s.row o.frm := w64 _ (by omega) (by omega)
    have wt1 : IntKind.i64.wrap (max (s.turn o.shard) (s.turn o.frm) + sizeI s.cols) = max (s.turn o.shard) (s.turn o.frm) + sizeI s.cols := w64 _ (by omega) (by omega)
    simp [e1, e2, e3, eq_true e4]
    refine draw_at [1, 1, 1, 1, 1, 1, 1, 1, 1, 1, 1, 1, 1, 1, 1, 1, 0, 1, 4] (by kernel_rfl) (by kernel_rfl) ?_
    simp [k0, k0', k1, k1', k2, j0, j0', j1, j1', j2, er, fr, wr1, lb1]
    refine draw_at [1, 1, 1, 1, 1, 1, 1, 1, 1, 1, 1, 1, 1, 1, 1, 1, 1, 1, 1, 3, 0, 1, 4] (by kernel_rfl) (by kernel_rfl) ?_
    simp [k0, k0', k1, k1', k2, j0, j0', j1, j1', j2, et, ft, hmx]
    refine acall_by (rcost_ctr s.cols) (by simp) ?_
    rintro _ rfl
    simp [k0, k0', k1, k1', k2, j0, j0', j1, j1', j2, hmx, wt1, lb1, lb2, lb3, lb4, wr]
    exact nK _ _ _ (pur_sh (j1 := 4) (j2 := 5) (v1 := 1) (v2 := 1) (l1 := (s.rows.set o.shard.toNat (s.row o.shard + s.row o.frm)).set o.frm.toNat 0) (l2 := (s.turns.set o.shard.toNat (max (s.turn o.shard) (s.turn o.frm) + sizeI s.cols)).set o.frm.toNat 0) (by rw [← st_at, ← st_at]; rfl) (by rw [← st_at, ← st_at]; rfl) (by simp) (by simp)).choose_spec ⟨_, rfl⟩
  simp only [if_neg e4] at nK
  have e6 : o.kind = 6 := by omega
  have hd := load_dec h0 e6
  have hF : decF o.bytes = facOf o.bytes := if_pos hd
  simp [e1, e2, e3, e4, eq_true e6]
  refine acall_by (r15decode_ctr o.bytes ho.lb) (by simp) ?_
  rintro _ ⟨tn, tc, rfl⟩
  rw [hF]
  simp [FaV.av, cells_g3, cells_g4, cells_fslq, cells_in, k0, k0', k1, k1', k2, lb1, lb2, wr, -cellsOf]
  exact nK _ _ _ (pur_sh (j1 := 4) (j2 := 5) (v1 := 1) (v2 := 1) (l1 := s.rows.set o.shard.toNat (facOf o.bytes).rows) (l2 := s.turns.set o.shard.toNat (facOf o.bytes).turns) (by rw [← st_at]; rfl) (by rw [← st_at]; rfl) (by simp) (by simp)).choose_spec ⟨_, rfl⟩

set_option maxHeartbeats 1000000 in
theorem r20table_ctr (s : ShV) (f : Fg) (l : List OpV) (ln : Bool) (lc : Option Nat) (w : List Bool) (wn : Bool) (wc : Option Nat) (hl : l.length ≤ 100000) (hw : w.length ≤ 100000) (ho : ∀ o ∈ l, o.fit) :
    Ctr Tryz.prog 17 [s.av f, opsl ln l lc, bsl wn w wc] (fun r => ∃ nl c, r = zsl nl (tabE s l w) c) := by
  refine ctr_in Tryz.func17 rfl (by kernel_rfl) rfl fun K hK => ?_
  simp [Tryz.f17, fld_sh_av, cells_g3, opsl, -cellsOf]
  refine loop_on (γ := Nat × Fg × AV × AHeap) 41 (fun g => [(1, opsl ln l lc), (2, bsl wn w wc), (3, .po 0 0 0), (7, g.2.2.1), (8, i g.1)]) (fun g => g.2.2.2)
    (fun g => g.1 ≤ l.length ∧ 1 ≤ g.2.2.2.length ∧ g.2.2.2[0]? = some ⟨.own, 0, [i (runS s l w g.1).cols, zsl g.2.1.rn (runS s l w g.1).rows g.2.1.rc, zsl g.2.1.tn (runS s l w g.1).turns g.2.1.tc]⟩ ∧ OW 1 1 g.2.2.2 g.2.2.1 ((tabP s l w g.1).map i) g.1) (fun g => l.length - g.1)
    (0, f, .pl true [] 0 (some 0), _) ⟨Nat.zero_le _, by simp, rfl, .nil⟩ (Wk.lst (by simp [opsl, bsl]) (by simp)) ?_
  rintro ⟨g, f', r, σ⟩ ⟨hg, hσ, s0, hO⟩ L hL
  simp only at hg hσ s0 hO
  by_cases hlt : g < l.length
  · have hw1 : IntKind.i64.wrap ((g : Int) + 1) = ((g + 1 : Nat) : Int) := w64 _ (by omega) (by omega)
    have hnext := fun f2 r' σ' => hL (g + 1, f2, r', σ')
    have hgd : l.getD g opD = l[g] := by simp [hlt]
    simp only [tabP_succ, hgd, List.map_append, List.map_cons, List.map_nil] at hnext
    have hrun : runS s l w (g + 1) = if w.getD g true = true then nextS (runS s l w g) l[g] else runS s l w g := by simp only [runS, hgd]
    have cO := r20op_ctr (runS s l w g) f' l[g] (ho _ (List.getElem_mem hlt))
    have cN := r20next_ctr (runS s l w g) f' l[g] (ho _ (List.getElem_mem hlt))
    have hp := pu_shop (runS s l w g) f' l[g]
    have rO := op_read hlt
    have oa : g * 9 + 9 ≤ (opcs l).length := by rw [opcs_len]; omega
    have oa2 : g * 9 < (opcs l).length := by omega
    generalize hT : runS s l w g = t at *
    generalize hQ : l[g] = q at *
    have h0lt : 0 < σ.length := by omega
    have ht3 : ∀ a b c : AV, List.take 3 [a, b, c] = [a, b, c] := fun _ _ _ => rfl
    simp [hlt, opsl, -getElem?_pos, List.getElem?_cons_zero, List.getElem?_cons_succ]
    refine draw_at [0, 1, 0, 0, 1, 1, 3, 0, 4, 0] (by kernel_rfl) (by kernel_rfl) ?_
    simp [hlt, h0lt, s0, oa, oa2, rO, ht3, -getElem?_pos, -List.take_succ_cons, List.getElem?_cons_zero, List.getElem?_cons_succ]
    refine acall_by cO hp ?_
    rintro _ rfl
    simp [-aAppend]
    refine append_ow (k := 1) elTEr srcErs hO (by show (g + 1) * 9 ≤ _; omega) (by rfl) (by omega) fun r' σ' hO' hσ' hS => ?_
    have u0 : σ'[0]? = some ⟨.own, 0, [i t.cols, zsl f'.rn t.rows f'.rc, zsl f'.tn t.turns f'.tc]⟩ := by rw [hS 0 (by omega)]; exact s0
    have h0lt' : 0 < σ'.length := by omega
    have hno : w.getD g true = false → ∀ T', Wk 0 ⟨lst 41 T', σ'⟩ ⟨lst 41 [(1, opsl ln l lc), (2, bsl wn w wc), (3, .po 0 0 0), (7, r'), (8, i ((g + 1 : Nat) : Int))], σ'⟩ → L ⟨lst 41 T', σ'⟩ := fun hf T' hW =>
      hnext f' r' σ' _ _ ⟨by omega, by omega, by rw [hrun, if_neg (by rw [hf]; decide)]; exact u0, hO'⟩ hW (by show _ - (g + 1) < _ - g; omega)
    have hyes : w.getD g true = true → ∀ (f2 : Fg) T', Wk 0 ⟨lst 41 T', σ'.set 0 ⟨.own, 0, [i (nextS t q).cols, zsl f2.rn (nextS t q).rows f2.rc, zsl f2.tn (nextS t q).turns f2.tc]⟩⟩ ⟨lst 41 [(1, opsl ln l lc), (2, bsl wn w wc), (3, .po 0 0 0), (7, r'), (8, i ((g + 1 : Nat) : Int))], σ'.set 0 ⟨.own, 0, [i (nextS t q).cols, zsl f2.rn (nextS t q).rows f2.rc, zsl f2.tn (nextS t q).turns f2.tc]⟩⟩ → L ⟨lst 41 T', σ'.set 0 ⟨.own, 0, [i (nextS t q).cols, zsl f2.rn (nextS t q).rows f2.rc, zsl f2.tn (nextS t q).turns f2.tc]⟩⟩ := fun hf f2 T' hW =>
      hnext f2 r' _ _ _ ⟨by omega, by simp; omega, by rw [hrun, if_pos hf, List.getElem?_set_self (by omega)], hO'.keep fun a ha _ => by rw [List.getElem?_set_ne (by omega)]⟩ hW (by show _ - (g + 1) < _ - g; omega)
    by_cases hgw : g < w.length
    · have hwd : w.getD g true = w[g] := by simp [hgw]
      rw [hwd] at hno hyes
      have hwg : (w.map bo)[g]? = some (bo w[g]) := by simp [hgw]
      cases hb : w[g]
      · rw [hb] at hwg
        simp [bsl, hlt, hgw, Nat.not_le.2 hgw, hwg, hw1, -Int.natCast_add, -getElem?_pos, -List.getElem?_map]
        exact hno hb _ (Wk.lst (by simp [bsl, opsl]) (by simp))
      · rw [hb] at hwg
        simp [bsl, hlt, hgw, Nat.not_le.2 hgw, hwg, -getElem?_pos, -List.getElem?_map, List.getElem?_cons_zero, List.getElem?_cons_succ]
        refine draw_at [1, 0, 0, 1, 1, 3, 4] (by kernel_rfl) (by kernel_rfl) ?_
        simp [hlt, h0lt', u0, oa, oa2, rO, ht3, -getElem?_pos, -List.take_succ_cons, List.getElem?_cons_zero, List.getElem?_cons_succ]
        refine acall_by cN hp ?_
        rintro _ ⟨f2, rfl⟩
        simp [fld_sh_av, cells_g3, u0, wr, hw1, -cellsOf, -Int.natCast_add, -getElem?_pos, List.getElem?_cons_zero, List.getElem?_cons_succ]
        exact hyes hb f2 _ (Wk.lst (by simp [bsl, opsl]) (by simp))
    · have hwd : w.getD g true = true := by simp [Nat.not_lt.1 hgw]
      simp [bsl, hlt, hgw, Nat.not_lt.1 hgw, -getElem?_pos, List.getElem?_cons_zero, List.getElem?_cons_succ]
      refine draw_at [1, 0, 0, 1, 1, 3, 4] (by kernel_rfl) (by kernel_rfl) ?_
      simp [hlt, h0lt', u0, oa, oa2, rO, ht3, -getElem?_pos, -List.take_succ_cons, List.getElem?_cons_zero, List.getElem?_cons_succ]
      refine acall_by cN hp ?_
      rintro _ ⟨f2, rfl⟩
      simp [fld_sh_av, cells_g3, u0, wr, hw1, -cellsOf, -Int.natCast_add, -getElem?_pos, List.getElem?_cons_zero, List.getElem?_cons_succ]
      exact hyes hwd f2 _ (Wk.lst (by simp [bsl, opsl]) (by simp))
  · have hge : g = l.length := by omega
    subst hge
    have he : tabP s l w l.length = tabE s l w := rfl
    rw [he] at hO
    simp [opsl]
    obtain ⟨n2, c2, hn2, _, hp⟩ := hO.pur (S := fun _ => True) (fun _ => trivial) (by
      intro x hx
      obtain ⟨k, _, rfl⟩ := List.mem_map.1 hx
      simp)
    refine hK _ _ _ hp ⟨n2, c2, ?_⟩
    unfold zsl
    rw [tab_len]
    have : (n2 && (tabE s l w).isEmpty) = n2 := by
      by_cases h : l.length = 0
      · have : tabE s l w = [] := List.eq_nil_of_length_eq_zero (by rw [tab_len]; exact h)
        rw [this]; simp
      · rw [hn2 h]; rfl
    rw [this]
end Go.Proofs.Nt
/- The laws CheckTells, CheckTable. -/
set_option linter.unusedVariables false
set_option maxRecDepth 20000
set_option linter.unusedSimpArgs false
set_option linter.unnecessarySimpa false
namespace Go.Proofs.Nt
open Go Go.Proofs Go.Proofs.Va Go.RowKit

theorem ofewz (l : List OpV) (nl : Bool) (cap : Option Nat) : Ctr Tryz.prog 6 [opsl nl l cap, i 30] (fun r => r = bo (fewO l 30)) := by
  by_cases hl : l.length ≤ 1000000
  · exact ofew_ctr l nl cap 30 hl
  refine ctr_val Tryz.func6 rfl (by kernel_rfl) rfl (by simp) fun K hK => ?_
  have h0 : 30 < l.length := by omega
  have : fewO l 30 = false := by unfold fewO; rw [decide_eq_false (by omega)]; rfl
  rw [this] at hK
  simp [Tryz.f6, opsl, h0]
  exact hK _
set_option maxHeartbeats 2000000 in
theorem lawctells_ctr (hc : CodeOk) (s : ShV) (f : Fg) (o : OpV) (hw : o.wf) : Ctr Tryz.prog 3 [s.av f, o.av] (fun r => r = bo true) := by
  refine ctr_val Tryz.func3 rfl (by kernel_rfl) rfl (by simp) fun K hK => ?_
  have cLive := clive_ctr hc
  have hp := pu_shop s f o
  have hp1 := pu_av _ (pu_sh s f)
  have cS := shsmall_ctr s f
  have cM := shmay_ctr s f
  have cM2 := r20may_ctr s f
  rw [fld_op_av, fld_sh_av] at *
  simp [Tryz.f3, cells_g3, cells_g9, cells_pl, cells_in, cells_fl, cells_str, cells_zsl, cells_fslq, -cellsOf]
  refine acall_by cS hp1 ?_
  rintro _ rfl
  cases hs : s.small
  · simp
    refine acall_by cLive (by simp) ?_
    rintro _ rfl
    simp
    exact hK _
  simp [cells_g9, -cellsOf]
  refine acall_froze [2] (ofew_ctr [o] false (some 1) 1 (by simp)) rfl (fun j hj => ?_) ?_
  · have : j = 0 ∨ j = 1 := by simp at hj; omega
    rcases this with rfl | rfl
    · exact pur_so (sz := 9) (n := 1) (b := opcs [o]) (cs := opcs [o]) (kd := .own) rfl (by simp) rfl rfl (by simp) (by
        intro x hx
        obtain ⟨o', h, ho⟩ := List.mem_flatMap.1 hx
        exact pu_opc o' x ho)
    · exact .same _ (.v _)
  rintro _ rfl
  rw [few_one]
  simp [froze]
  cases hf : o.few
  · simp
    refine acall_by cLive (by simp) ?_
    rintro _ rfl
    simp
    exact hK _
  have ho := fit_of hw hf
  have cO := cop_ctr hc s f o ho
  have cN := cnext_ctr hc s f o ho
  have cO2 := r20op_ctr s f o ho
  have cN2 := r20next_ctr s f o ho
  have hnf := nfit_of hs o
  rw [fld_op_av, fld_sh_av] at cO cN cO2 cN2
  simp
  refine draw_at [1, 3, 1, 3, 0, 0, 1, 1, 3, 1, 1, 3, 0, 0, 0, 1, 1, 3, 1, 1, 3, 3, 0, 0, 3, 0, 0] (by kernel_rfl) (by kernel_rfl) ?_
  simp
  refine acall_by cM hp1 ?_
  rintro _ rfl
  simp
  refine acall_by cM2 hp1 ?_
  rintro _ rfl
  simp
  refine acall_by cO hp ?_
  rintro _ rfl
  simp
  refine acall_by cO2 hp ?_
  rintro _ rfl
  simp
  refine acall_by cN hp ?_
  rintro _ ⟨f1, rfl⟩
  simp
  refine acall_by cN2 hp ?_
  rintro _ ⟨f2, rfl⟩
  simp
  refine acall_by (shsame_ctr (nextS s o) (nextS s o) f1 f2 hnf hnf) (by
    intro x hx
    simp only [List.mem_cons, List.not_mem_nil, or_false] at hx
    rcases hx with rfl | rfl
    · exact pu_sh _ _
    · exact pu_sh _ _) ?_
  rintro _ rfl
  simp
  refine acall_by cLive (by simp) ?_
  rintro _ rfl
  simp
  exact hK _
set_option maxHeartbeats 2000000 in
theorem lawctable_ctr (hc : CodeOk) (s : ShV) (f : Fg) (l : List OpV) (ln : Bool) (lc : Option Nat) (w : List Bool) (wn : Bool) (wc : Option Nat) (hw : ∀ o ∈ l, o.wf) : Ctr Tryz.prog 4 [s.av f, opsl ln l lc, bsl wn w wc] (fun r => r = bo true) := by
  refine ctr_val Tryz.func4 rfl (by kernel_rfl) rfl (by simp) fun K hK => ?_
  have cLive := clive_ctr hc
  have hp1 := pu_av _ (pu_sh s f)
  have cS := shsmall_ctr s f
  have cF := ofewz l ln lc
  have hpF : ∀ x ∈ [opsl ln l lc, i 30], Pu x := by
    intro x hx
    simp only [List.mem_cons, List.not_mem_nil, or_false] at hx
    rcases hx with rfl | rfl
    · exact .pl ..
    · simp
  rw [fld_sh_av] at *
  simp [Tryz.f4, cells_g3, -cellsOf]
  refine acall_by cS hp1 ?_
  rintro _ rfl
  cases hs : s.small
  · simp
    refine acall_by cLive (by simp) ?_
    rintro _ rfl
    simp
    exact hK _
  simp
  refine acall_by cF hpF ?_
  rintro _ rfl
  cases hf : fewO l 30
  · simp
    refine acall_by cLive (by simp) ?_
    rintro _ rfl
    simp
    exact hK _
  by_cases h0 : w.length ≤ 60
  case neg =>
    simp [bsl, h0, Nat.lt_of_not_le h0]
    refine acall_by cLive (by simp) ?_
    rintro _ rfl
    simp
    exact hK _
  have h0' : ¬ 60 < w.length := by omega
  have hfl : l.length ≤ 30 := by
    unfold fewO at hf
    rw [Bool.and_eq_true] at hf
    have := of_decide_eq_true hf.1
    omega
  have hof : ∀ o ∈ l, o.fit := fun o ho => by
    unfold fewO at hf
    rw [Bool.and_eq_true] at hf
    exact fit_of (hw o ho) (List.all_eq_true.1 hf.2 o ho)
  have hpt : ∀ x ∈ [s.av f, opsl ln l lc, bsl wn w wc], Pu x := by
    intro x hx
    simp only [List.mem_cons, List.not_mem_nil, or_false] at hx
    rcases hx with rfl | rfl | rfl
    · exact pu_sh _ _
    · exact .pl ..
    · exact .pl ..
  have cT := table_ctr hc s f l ln lc w wn wc (by omega) (by omega) hof
  have cT2 := r20table_ctr s f l ln lc w wn wc (by omega) (by omega) hof
  have hlen := tab_len s l w
  rw [fld_sh_av] at cT cT2 hpt
  simp [bsl, h0, h0']
  refine draw_at [1, 0, 0, 3, 1, 0, 0, 3, 3, 0, 3, 0, 0] (by kernel_rfl) (by kernel_rfl) ?_
  simp
  refine acall_by cT hpt ?_
  rintro _ ⟨n1, c1, rfl⟩
  simp
  refine acall_by cT2 hpt ?_
  rintro _ ⟨n2, c2, rfl⟩
  simp
  refine acall_by (errnos_ctr (tabE s l w) (tabE s l w) n1 n2 c1 c2 (by omega) (by omega)) (by
    intro x hx
    simp only [List.mem_cons, List.not_mem_nil, or_false] at hx
    rcases hx with rfl | rfl
    · exact .pl ..
    · exact .pl ..) ?_
  rintro _ rfl
  simp
  refine acall_by cLive (by simp) ?_
  rintro _ rfl
  simp
  exact hK _
end Go.Proofs.Nt
