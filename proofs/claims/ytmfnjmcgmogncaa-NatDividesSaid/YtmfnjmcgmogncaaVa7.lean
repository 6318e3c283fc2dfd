/- VA, part 7: append and copy. -/
import Derived.Test.YtmfnjmcgmogncaaVa6
import Derived.Deep.Upon
set_option linter.unusedVariables false
set_option linter.unusedSimpArgs false
namespace Go.Proofs.Va
open Go Go.RowKit

section
variable {P : Program} {w0 : World} {ρ : Nat → Nat × Nat} {σ : AHeap} {fz : Nat → Prop} {w : World}

/-- A block of the call's own gets a later version: in another place of the same row, or in a new row. -/
theorem HRel.renew (h : HRel w0 ρ fz σ w) {i : Nat} {b : ABlk} (hb : σ[i]? = some b) (hk : b.kind = .own) (g o : Nat) (cs : List AV) {w' : World} {cells : Array Value} {e : TypeId}
    (hos : w'.os = w.os) (htp : w'.tape = w.tape) (hout : w'.output = w.output) (hsize : w.heap.size ≤ w'.heap.size)
    (hg : g = (ρ i).1 ∨ w.heap.size ≤ g) (hself : w'.heap[g]? = some (.cells cells e (0, 0)))
    (hother : ∀ k, k < w.heap.size → k ≠ (ρ i).1 → w'.heap[k]? = w.heap[k]?)
    (hcells : ∀ (c : Array Value) (e : TypeId) (fr : Nat × Nat), w.heap[(ρ i).1]? = some (.cells c e fr) → ∃ c' fr', w'.heap[(ρ i).1]? = some (.cells c' e fr') ∧ c'.size = c.size)
    (hroom : o + cs.length ≤ cells.size)
    (hc : ∀ j (hj : j < cs.length), ∃ u, cells[o + j]? = some u ∧ u.oneCell' = true ∧ R ρ σ fz w cs[j] u) :
    HRel w0 (upd ρ i (g, o)) fz (σ.set i ⟨.own, b.ver + 1, cs⟩) w' ∧ Ev w0 σ.length ρ σ fz w (upd ρ i (g, o)) (σ.set i ⟨.own, b.ver + 1, cs⟩) fz w' := by
  have hi : i < σ.length := (List.getElem?_eq_some_iff.1 hb).1
  obtain ⟨c0, e0, hw, hbase, hl0, hnf, _, _⟩ := h.blk i b hb (by rw [hk]; decide)
  have hnf := hnf hk
  have hle := h.le
  have lt : ∀ {k : Nat} {ob : Obj}, w.heap[k]? = some ob → k < w.heap.size := fun hk => (Array.getElem?_eq_some_iff.1 hk).1
  have hgbase : w0.heap.size ≤ g := by rcases hg with rfl | hg <;> omega
  have hgf : ¬ fz g := by
    rcases hg with rfl | hg
    · exact hnf
    · intro hf; have := h.fzlt g hf; omega
  have E : Ev w0 σ.length ρ σ fz w (upd ρ i (g, o)) (σ.set i ⟨.own, b.ver + 1, cs⟩) fz w' := by
    refine ⟨Nat.le_refl _, by simp, ?_, fun _ h => h, fun _ h => .inl h, fun k hf => hother k (h.fzlt k hf) (fun hh => hnf (hh ▸ hf)), hsize, ?_, ?_⟩
    · intro k hk' b1 b2 h1 h2
      by_cases hik : k = i
      · subst hik
        rw [hb] at h1; cases h1
        rw [List.getElem?_set_self hi] at h2; cases h2
        exact ⟨Nat.le_succ _, fun hh => absurd hh (by simp)⟩
      · rw [List.getElem?_set_ne (by omega), h1] at h2; cases h2
        exact ⟨Nat.le_refl _, fun _ hd => ⟨hd, upd_other hik⟩⟩
    · intro k ob hko ho
      refine (hother k (lt hko) fun hh => ?_).trans hko
      subst hh; rw [hw] at hko; cases hko; cases ho
    · intro k c el fr hkc
      by_cases hh : k = (ρ i).1
      · subst hh; exact hcells c el fr hkc
      · exact ⟨c, fr, (hother k (lt hkc) hh).trans hkc, rfl⟩
  refine ⟨⟨h.below.trans ⟨hos, htp, hout, hsize, fun k hk' => hother k (by omega) (by omega)⟩, fun k hf => Nat.lt_of_lt_of_le (h.fzlt k hf) hsize, ?_, ?_⟩, E⟩
  · intro k blk hkb hd
    by_cases hik : k = i
    · subst hik
      rw [List.getElem?_set_self hi] at hkb; cases hkb
      rw [upd_same]
      refine ⟨cells, e, hself, hgbase, hroom, fun _ => hgf, fun hro => by simp at hro, fun j hj => ?_⟩
      obtain ⟨u, hu, h1, hR⟩ := hc j hj
      exact ⟨u, hu, h1, hR.ev E hR.sc⟩
    · rw [List.getElem?_set_ne (by omega)] at hkb
      obtain ⟨c1, e1, h1, h2, hs, h3, h4, h5⟩ := h.blk k blk hkb hd
      rw [upd_other hik]
      have hne : (ρ k).1 ≠ (ρ i).1 := by
        intro hh
        cases hkk : blk.kind with
        | own => exact hik (h.inj k i blk b hkb hb hkk hk hh)
        | ro => exact hnf (hh ▸ h4 hkk)
        | dead => exact hd hkk
      refine ⟨c1, e1, (hother _ (lt h1) hne).trans h1, h2, hs, h3, h4, fun j hj => ?_⟩
      obtain ⟨u, hu, h1, hR⟩ := h5 j hj
      exact ⟨u, hu, h1, hR.ev E hR.sc⟩
  · intro p q bp bq hp hq kp kq he
    have aux : ∀ (p : Nat) (bp : ABlk), (σ.set i ⟨.own, b.ver + 1, cs⟩)[p]? = some bp → bp.kind = .own → ∃ b', σ[p]? = some b' ∧ b'.kind = .own := by
      intro p bp hp kp
      by_cases hpi : p = i
      · subst hpi; exact ⟨b, hb, hk⟩
      · rw [List.getElem?_set_ne (by omega)] at hp; exact ⟨bp, hp, kp⟩
    obtain ⟨b1, h1, k1⟩ := aux p bp hp kp
    obtain ⟨b2, h2, k2⟩ := aux q bq hq kq
    by_cases hpi : p = i <;> by_cases hqi : q = i
    · omega
    · exfalso
      subst hpi
      rw [upd_same, upd_other hqi] at he
      obtain ⟨_, _, h3, _, _, _⟩ := h.blk q b2 h2 (by rw [k2]; decide)
      have := lt h3
      rcases hg with rfl | hg
      · exact hqi (h.inj q p b2 b1 h2 h1 k2 k1 he.symm)
      · have he' : g = (ρ q).1 := he
        omega
    · exfalso
      subst hqi
      rw [upd_same, upd_other hpi] at he
      obtain ⟨_, _, h3, _, _, _⟩ := h.blk p b1 h1 (by rw [k1]; decide)
      have := lt h3
      rcases hg with rfl | hg
      · exact hpi (h.inj p q b1 b2 h1 h2 k1 k2 he)
      · have he' : (ρ p).1 = g := he
        omega
    · rw [upd_other hpi, upd_other hqi] at he
      exact h.inj p q b1 b2 h1 h2 k1 k2 he

/-! ### What is appended, or copied -/
/-- The cells of what is appended, and how many elements they are. -/
def srcC (sz : Nat) (u8 : Bool) (σ : AHeap) : AV → Option (List AV × Nat)
  | .pl _ cs n _ => if u8 = false ∧ cs.length = n * sz then some (cs, n) else none
  | .so i ver off n _ _ => match σ[i]? with
    | some b => if u8 = false ∧ b.ver = ver ∧ b.kind ≠ .dead ∧ off + n * sz ≤ b.cells.length then some ((b.cells.drop off).take (n * sz), n) else none
    | none => none
  | .v (.string s) => if u8 then some (s.data.toList.map fun b => .v (.int .u8 b.toNat), s.size) else none
  | _ => none

def srcT (P : Program) (t : TypeId) : Option Bool := match P.underlying t with | some (.slice _) => some false | some .string => some true | _ => none

theorem src_ok (h : HRel w0 ρ fz σ w) {sz : Nat} {u8 : Bool} {t : TypeId} {y : AV} {v : Value} {ys : List AV} {m : Nat} (hy : R ρ σ fz w y v) (hs : srcC sz u8 σ y = some (ys, m)) (ht : srcT P t = some u8) (h1 : u8 = true → sz = 1) :
    ∃ news, Src P sz t v m news w ∧ news.length = ys.length ∧ ys.length = m * sz ∧ (∀ j, j < ys.length → (news.getD j undef).oneCell' = true) ∧ ∀ j (hj : j < ys.length), R ρ σ fz w ys[j] (news.getD j undef) := by
  unfold srcT at ht
  cases y with
  | pl nl cs n cap =>
    obtain ⟨a, c, b, o, us, rfl, hnl, hn, hc, hcap, ha, hfz, hcell, hone, hR⟩ := hy.pl_inv
    simp only [srcC] at hs
    split at hs
    · rename_i hlen
      obtain ⟨rfl, hlen⟩ := hlen
      cases hs
      have hgd : ∀ j, j < ys.length → ((List.range ys.length).map us).getD j undef = us j := fun j hj => by simp [List.getD, hj]
      refine ⟨(List.range ys.length).map us, ?_, by simp, hlen, fun j hj => by rw [hgd j hj]; exact hone j hj, fun j hj => by rw [hgd j hj]; exact .pure _ _ (hR j hj)⟩
      split at ht
      · rename_i e' hk
        rcases Nat.eq_zero_or_pos ys.length with h0 | h0
        · have hnil : ys = [] := List.eq_nil_of_length_eq_zero h0
          subst hnil
          cases a with
          | none =>
            have := hn rfl
            have hm0 : m = 0 := by omega
            subst hm0; subst this
            exact Src.ofNil w hk 0
          | some ad => exact Src.ofSlice w hk ad m c _ (by simpa using hlen) (fun j u hu => by simp at hu) (fun u hu => by simp at hu)
        · rw [ha h0]
          refine Src.ofSlice w hk _ m c _ (by simpa using hlen) (fun j u hu => ?_) (fun u hu => ?_)
          · have hj : j < ys.length := by have := (List.getElem?_eq_some_iff.1 hu).1; simpa using this
            rw [List.getElem?_map, List.getElem?_range hj] at hu
            cases hu
            rw [add_lit]; exact hcell j hj
          · obtain ⟨j, hj, rfl⟩ := List.mem_map.1 hu
            exact hone j (by simpa using hj)
      · cases ht
      · cases ht
    · cases hs
  | so i ver off n s2 cap =>
    obtain ⟨b, hb, hle, _, hval⟩ := hy.so_inv
    simp only [srcC, hb] at hs
    split at hs
    · rename_i hcond
      obtain ⟨rfl, hv, hd, hlen⟩ := hcond
      cases hs
      obtain ⟨a, c, rfl, hnc, hcap, ha, hroom⟩ := hval hv hd
      obtain ⟨cells, e, hw, hbase, hl, _, _, hc⟩ := h.blk i b hb hd
      have hll : ((b.cells.drop off).take (m * sz)).length = m * sz := by simp; omega
      have hget : ∀ j, j < m * sz → ∃ u, cells[(ρ i).2 + (off + j)]? = some u ∧ u.oneCell' = true ∧ ∀ hj, R ρ σ fz w (((b.cells.drop off).take (m * sz))[j]'hj) u := fun j hj => by
        obtain ⟨u, hu, h1, hR⟩ := hc (off + j) (by omega)
        exact ⟨u, hu, h1, fun hj => by simpa using hR⟩
      let us : Nat → Value := fun j => cells.getD ((ρ i).2 + (off + j)) undef
      have hus : ∀ j, j < m * sz → cells[(ρ i).2 + (off + j)]? = some (us j) := fun j hj => by
        obtain ⟨u, hu, _, _⟩ := hget j hj
        exact get_of_getD (Array.getElem?_eq_some_iff.1 hu).1
      have hgd : ∀ j, j < m * sz → ((List.range (m * sz)).map us).getD j undef = us j := fun j hj => by simp [List.getD, hj]
      have hone : ∀ j, j < m * sz → (us j).oneCell' = true := fun j hj => by
        obtain ⟨u, hu, h1, _⟩ := hget j hj
        rw [hus j hj] at hu; cases hu; exact h1
      have hcell : ∀ j, j < m * sz → w.cell? ⟨(ρ i).1, (ρ i).2 + off + j, none⟩ = some (us j) := fun j hj => by
        have := hus j hj
        rw [← Nat.add_assoc] at this
        simp [World.cell?, hw, this]
      refine ⟨(List.range (m * sz)).map us, ?_, by rw [hll]; simp, hll, fun j hj => ?_, fun j hj => ?_⟩
      · split at ht
        · rename_i e' hk
          rcases Nat.eq_zero_or_pos (m * sz) with h0 | h0
          · refine Src.ofSlice w hk a m c _ (by simp) (fun j u hu => ?_) (fun u hu => ?_)
            · rw [h0] at hu; simp at hu
            · rw [h0] at hu; simp at hu
          · have : 0 < c := by
              rcases Nat.eq_zero_or_pos c with hc0 | hc0
              · have : m = 0 := by omega
                subst this; simp at h0
              · exact hc0
            rw [ha this]
            refine Src.ofSlice w hk _ m c _ (by simp) (fun j u hu => ?_) (fun u hu => ?_)
            · have hj : j < m * sz := by have := (List.getElem?_eq_some_iff.1 hu).1; simpa using this
              rw [List.getElem?_map, List.getElem?_range hj] at hu
              cases hu
              rw [add_lit]; exact hcell j hj
            · obtain ⟨j, hj, rfl⟩ := List.mem_map.1 hu
              exact hone j (by simpa using hj)
        · cases ht
        · cases ht
      · rw [hll] at hj; rw [hgd j hj]; exact hone j hj
      · have hj' : j < m * sz := by rwa [hll] at hj
        rw [hgd j hj']
        obtain ⟨u, hu, h1, hR⟩ := hget j hj'
        rw [hus j hj'] at hu; cases hu; exact hR hj
    · cases hs
  | v x =>
    cases x <;> try (simp [srcC] at hs; done)
    rename_i s
    simp only [srcC] at hs
    split at hs
    · rename_i hu8
      cases hs
      subst hu8
      have hsz := h1 rfl
      subst hsz
      obtain rfl := hy.v_eq
      split at ht
      · cases ht
      · rename_i hk
        have hlen : (s.data.toList.map fun b => AV.v (.int .u8 b.toNat)).length = s.size := by
          simp
        have hlen2 : (byteCells s).length = s.data.toList.length := by simp [byteCells]
        refine ⟨byteCells s, Src.ofString w hk s, by rw [byteCells_length, hlen], by rw [hlen, Nat.mul_one], fun j hj => ?_, fun j hj => ?_⟩
        · rw [List.length_map] at hj
          simp [byteCells, List.getD, List.getElem?_eq_getElem hj]; rfl
        · have hj' := hj
          rw [List.length_map] at hj'
          have : (byteCells s).getD j undef = .int .u8 (s.data.toList[j]'hj').toNat := by simp [byteCells, List.getD, List.getElem?_eq_getElem hj']
          rw [this]
          simp only [List.getElem_map]
          exact .lit _
      · cases ht
    · cases hs
  | _ => simp [srcC] at hs

/-! ### append -/
def aAppend (P : Program) (t tx : TypeId) (x y : AV) (σ : AHeap) (K : AV → AHeap → Prop) : Prop :=
  match elT P t, srcT P tx with
  | some (_, e), some u8 => match srcC e.sz u8 σ y with
    | some (ys, m) => (u8 = true → e.sz = 1) ∧ match x with
      | .pl nl cs n (some c) => cs.length = n * e.sz ∧ (n + m) * (e.bytes + 1) ≤ 140737488355328 ∧ if n + m ≤ c then m = 0 ∧ K (.pl nl cs n (some c)) σ
          else K (.so σ.length 0 0 (n + m) e.sz none) (σ ++ [⟨.own, 0, cs ++ ys⟩])
      | .so i ver off n sz cap => match σ[i]? with
        | some b => b.ver = ver ∧ b.kind ≠ .dead ∧ sz = e.sz ∧ off + n * sz ≤ b.cells.length ∧ (n + m) * (e.bytes + 1) ≤ 140737488355328 ∧ match cap with
          | none => b.kind = .own ∧ K (.so i (b.ver + 1) 0 (n + m) sz none) (σ.set i ⟨.own, b.ver + 1, (b.cells.drop off).take (n * sz) ++ ys⟩)
          | some c => if n + m ≤ c then b.kind = .own ∧ K (.so i (b.ver + 1) 0 (n + m) sz none) (σ.set i ⟨.own, b.ver + 1, (b.cells.drop off).take (n * sz) ++ ys⟩)
              else ∀ c', n + m ≤ c' → K (.so σ.length 0 0 (n + m) sz (some c')) (σ ++ [⟨.own, 0, (b.cells.drop off).take (n * sz) ++ ys ++ reps (c' - (n + m)) e.zero⟩])
        | none => False
      | _ => False
    | none => False
  | _, _ => False

theorem getD_join {Rr : AV → Value → Prop} {A B : List AV} {a b : Array Value} (ha : a.size = A.length) (hb : b.size = B.length) (h1 : ∀ j (hj : j < A.length), (a.getD j undef).oneCell' = true ∧ Rr A[j] (a.getD j undef))
    (h2 : ∀ j (hj : j < B.length), (b.getD j undef).oneCell' = true ∧ Rr B[j] (b.getD j undef)) : ∀ j (hj : j < (A ++ B).length), ((a ++ b).getD j undef).oneCell' = true ∧ Rr (A ++ B)[j] ((a ++ b).getD j undef) := by
  intro j hj
  rw [List.length_append] at hj
  rcases Nat.lt_or_ge j A.length with hj1 | hj1
  · have e : (a ++ b).getD j undef = a.getD j undef := by
      simp only [Array.getD_eq_getD_getElem?]; rw [Array.getElem?_append_left (by omega)]
    rw [e, List.getElem_append_left hj1]; exact h1 j hj1
  · have e : (a ++ b).getD j undef = b.getD (j - A.length) undef := by
      simp only [Array.getD_eq_getD_getElem?]; rw [Array.getElem?_append_right (by omega), ha]
    rw [e, List.getElem_append_right hj1]; exact h2 _ (by omega)

theorem append_room_run {t tx ty e : TypeId} {i : TypeInfo} (ht : P.underlying t = some (.slice e)) (hi : P.info? e = some i) {a : Addr} {n c m : Nat} {x : Value} {news : List Value}
    (hs : Src P i.size tx x m news w) (hroom : n + m ≤ c) {w' : World} (hst : (storeCells (a.add (n * i.size)) news).run P w = .ok () w') :
    (Builtin.append_ #[t, tx] ty #[.slice (some a) n c, x]).run P w = .ok (.slice (some a) (n + m) c) w' := by
  rcases hs.kind with ⟨e', hk⟩ | hk <;> simp [Builtin.append_, run_underlying ht, run_underlying hk, sizeOf, typeInfo, hi, hs.len, hroom, hs.cells, hst]

theorem fits_bytes {n b : Nat} (h : n * (b + 1) ≤ 140737488355328) : n * b ≤ 140737488355328 ∧ n ≤ 140737488355328 := by
  have : n * (b + 1) = n * b + n := Nat.mul_succ n b
  omega

theorem grownCap_ge (w : World) (need old : Nat) (e : TypeId) : need ≤ grownCap w need old e := by simp [grownCap, Question.cut]

theorem join_ok {Rr : AV → Value → Prop} {cs ys : List AV} {olds news : List Value} (rest : Array Value) (hl1 : olds.length = cs.length) (hl2 : news.length = ys.length)
    (h1 : ∀ j, j < cs.length → (olds.getD j undef).oneCell' = true) (hR1 : ∀ j (hj : j < cs.length), Rr cs[j] (olds.getD j undef))
    (h2 : ∀ j, j < ys.length → (news.getD j undef).oneCell' = true) (hR2 : ∀ j (hj : j < ys.length), Rr ys[j] (news.getD j undef)) :
    ∀ j (hj : j < (cs ++ ys).length), (((olds ++ news).toArray ++ rest).getD j undef).oneCell' = true ∧ Rr (cs ++ ys)[j] (((olds ++ news).toArray ++ rest).getD j undef) := by
  intro j hj
  rw [List.length_append] at hj
  have hg : ((olds ++ news).toArray ++ rest).getD j undef = (olds ++ news).getD j undef := by
    simp only [Array.getD_eq_getD_getElem?, List.getD_eq_getElem?_getD]
    rw [Array.getElem?_append_left (by simp; omega)]
    simp
  rw [hg]
  rcases Nat.lt_or_ge j cs.length with hj1 | hj1
  · have e : (olds ++ news).getD j undef = olds.getD j undef := by
      simp only [List.getD_eq_getElem?_getD]; rw [List.getElem?_append_left (by omega)]
    rw [e, List.getElem_append_left hj1]
    exact ⟨h1 j hj1, hR1 j hj1⟩
  · have e : (olds ++ news).getD j undef = news.getD (j - cs.length) undef := by
      simp only [List.getD_eq_getElem?_getD]; rw [List.getElem?_append_right (by omega), hl1]
    rw [e, List.getElem_append_right hj1]
    exact ⟨h2 _ (by omega), hR2 _ (by omega)⟩

theorem grown_size {z : Value} {sz n m g : Nat} {olds news : List Value} (hzs : z.cells.size = sz) (ho : olds.length = n * sz) (hn : news.length = m * sz) (hg : n + m ≤ g) :
    ((olds ++ news).toArray ++ Builtin.zeroCells z.cells (g - (n + m))).size = g * sz := by
  have hzc : (Builtin.zeroCells z.cells (g - (n + m))).size = (g - (n + m)) * sz := by simp [Builtin.zeroCells, hzs]
  simp only [Array.size_append, List.size_toArray, List.length_append, hzc, hn, ho]
  rw [← Nat.add_mul, ← Nat.add_mul, show n + m + (g - (n + m)) = g by omega]

theorem append_ok (h : HRel w0 ρ fz σ w) {t tx ty : TypeId} {x y : AV} {u v : Value} (hx : R ρ σ fz w x u) (hy : R ρ σ fz w y v) {K : AV → AHeap → Prop} (hK : aAppend P t tx x y σ K) :
    SemOK P w0 ρ fz σ w (Builtin.append_ #[t, tx] ty #[u, v]) K := by
  unfold aAppend at hK
  split at hK
  · rename_i e q u8 he htx
    split at hK
    · rename_i ys m hys
      obtain ⟨hu8, hK⟩ := hK
      obtain ⟨hu, i, hi, hsz, hby, hzl, h0, z, hz0, hz, hzs, hz1, hzR⟩ := elT_ok he
      obtain ⟨news, hsrc, hnl, hyl, hn1, hnR⟩ := src_ok (P := P) h hy hys htx hu8
      rw [← hsz] at hsrc
      split at hK
      · -- a slice without a block of its own, its capacity known
        rename_i nl cs n c
        obtain ⟨hcl, hfit, hK⟩ := hK
        obtain ⟨hin, hgrow⟩ := ite_and.1 hK
        obtain ⟨hf1, hf2⟩ := fits_bytes hfit
        obtain ⟨a, c', b, o, us, rfl, hnil, hn, hc, hcap, ha, hfz, hcell, h1, hR⟩ := hx.pl_inv
        have := hcap c rfl
        subst this
        rcases Nat.lt_or_ge c' (n + m) with hlt | hge
        · have hK := hgrow (by omega)
          let olds : List Value := (List.range cs.length).map us
          have hol : olds.length = cs.length := by simp [olds]
          have hgd : ∀ j, j < cs.length → olds.getD j undef = us j := fun j hj => by simp [olds, List.getD, hj]
          have hold : (Builtin.firstCells i.size n (.slice a n c')).run P w.drew = .ok olds.toArray w.drew := by
            rw [hsz]
            rcases Nat.eq_zero_or_pos cs.length with hz | hz
            · have : olds = [] := by simp [olds, hz]
              rw [this]
              cases a with
              | none => exact run_firstCells_none w.drew q.sz n n c'
              | some ad => exact run_firstCells_some w.drew q.sz n ad n c' [] (by simp; omega) (fun j u hu => by simp at hu)
            · rw [ha hz]
              refine run_firstCells_some w.drew q.sz n _ n c' olds (by simp [olds]; omega) (fun j u hu => ?_)
              have hj : j < cs.length := by have := (List.getElem?_eq_some_iff.1 hu).1; simpa [olds] using this
              simp only [olds, List.getElem?_map, List.getElem?_range hj] at hu
              cases hu
              rw [add_lit]; exact hcell j hj
          have hrun := run_append_grow_src (P := P) w t tx ty e i z hu hi hz0 a n c' olds hold v m news hsrc hlt (by omega) (growslice_fits hlt (by rw [hby]; exact hf1))
          obtain ⟨hd, hEd⟩ := h.drew
          have hge := grownCap_ge w (n + m) c' e
          have hjoin := join_ok (Rr := R ρ σ fz w.drew) (Builtin.zeroCells z.cells (grownCap w (n + m) c' e - (n + m))) hol hnl (fun j hj => by rw [hgd j hj]; exact h1 j hj)
            (fun j hj => by rw [hgd j hj]; exact (R.pure _ _ (hR j hj)).ev hEd ((hR j hj).sc _)) hn1 (fun j hj => (hnR j hj).ev hEd (hnR j hj).sc)
          have hgs := grown_size (g := grownCap w (n + m) c' e) hzs (hol.trans hcl) (hnl.trans hyl) hge
          obtain ⟨hp, hEp⟩ := newRow_ok hd (cs ++ ys) ((olds ++ news).toArray ++ Builtin.zeroCells z.cells (grownCap w (n + m) c' e - (n + m))) e
            (by simp; omega) (fun j hj => (hjoin j hj).1) (fun j hj => (hjoin j hj).2)
          exact ⟨_, _, _, _, _, _, hrun, hK, hp, R.newSlice (w := w.drew) (cs ++ ys) e _ 0 (n + m) (grownCap w (n + m) c' e) q.sz none hge (fun k hk => by cases hk) (by rw [hgs]; omega), hEd.trans hEp⟩
        · obtain ⟨hm, hK2⟩ := hin hge
          clear hK
          subst hm
          have hnews : news = [] := List.eq_nil_of_length_eq_zero (by omega)
          subst hnews
          have hrun := run_append_nothing (P := P) w t tx ty e i hu hi a n c' (by omega) v hsrc
          exact SemOK.of_same h hrun hx hK2
      · rename_i iB ver off n sz cap
        split at hK
        · rename_i b hb
          obtain ⟨hv, hnd, hse, hoff, hfit, hK⟩ := hK
          subst hse
          obtain ⟨hf1, hf2⟩ := fits_bytes hfit
          obtain ⟨b', hb', hle, _, hval⟩ := hx.so_inv
          rw [hb] at hb'; cases hb'
          obtain ⟨a, c, rfl, hnc, hcap, ha, hroomx⟩ := hval hv hnd
          obtain ⟨cells, e1, hw, hbase, hlen, hnf, _, hcl⟩ := h.blk iB b hb hnd
          obtain ⟨cellsx, e2, fr2, hw2, hroom⟩ := hroomx
          have hKs : (c < n + m ∧ ∀ c', n + m ≤ c' → K (.so σ.length 0 0 (n + m) q.sz (some c')) (σ ++ [⟨.own, 0, (b.cells.drop off).take (n * q.sz) ++ ys ++ reps (c' - (n + m)) q.zero⟩])) ∨
              (b.kind = .own ∧ K (.so iB (b.ver + 1) 0 (n + m) q.sz none) (σ.set iB ⟨.own, b.ver + 1, (b.cells.drop off).take (n * q.sz) ++ ys⟩)) := by
            cases cap with
            | none => exact .inr hK
            | some c0 =>
              have := hcap c0 rfl
              subst this
              rcases Nat.lt_or_ge c (n + m) with hlt | hge
              · exact .inl ⟨hlt, (ite_and.1 hK).2 (by omega)⟩
              · exact .inr ((ite_and.1 hK).1 hge)
          clear hK
          rw [hw] at hw2; cases hw2
          have hll : ((b.cells.drop off).take (n * q.sz)).length = n * q.sz := by simp; omega
          let us : Nat → Value := fun j => cells.getD ((ρ iB).2 + (off + j)) undef
          have hus : ∀ j, j < n * q.sz → cells[(ρ iB).2 + (off + j)]? = some (us j) ∧ (us j).oneCell' = true ∧ ∀ hj, R ρ σ fz w (((b.cells.drop off).take (n * q.sz))[j]'hj) (us j) := fun j hj => by
            obtain ⟨u, hu, h1, hR⟩ := hcl (off + j) (by omega)
            have hq : cells[(ρ iB).2 + (off + j)]? = some (us j) := get_of_getD (Array.getElem?_eq_some_iff.1 hu).1
            rw [hu] at hq
            have hq' := Option.some.inj hq
            exact ⟨by rw [hu, hq'], by rw [← hq']; exact h1, fun hj => by rw [← hq']; simpa using hR⟩
          rcases hKs with ⟨hlt, hK⟩ | ⟨hd, hK⟩
          · -- its capacity known, too little
            let olds : List Value := (List.range (n * q.sz)).map us
            have hol : olds.length = n * q.sz := by simp [olds]
            have hgd : ∀ j, j < n * q.sz → olds.getD j undef = us j := fun j hj => by simp [olds, List.getD, hj]
            have hold : (Builtin.firstCells i.size n (.slice (some a) n c)).run P w.drew = .ok olds.toArray w.drew := by
              rw [hsz]
              rcases Nat.eq_zero_or_pos c with hz | hz
              · have hn0 : n = 0 := by omega
                have : olds = [] := by simp [olds, hn0]
                rw [this]
                exact run_firstCells_some w.drew q.sz n a n c [] (by simp [hn0]) (fun j u hu => by simp at hu)
              · rw [ha hz]
                refine run_firstCells_some w.drew q.sz n _ n c olds hol (fun j u hu => ?_)
                have hj : j < n * q.sz := by have := (List.getElem?_eq_some_iff.1 hu).1; simpa [olds] using this
                simp only [olds, List.getElem?_map, List.getElem?_range hj] at hu
                cases hu
                rw [add_lit]
                have := (hus j hj).1
                rw [← Nat.add_assoc] at this
                rw [World.cell?_drew]; simp [World.cell?, hw, this]
            have hrun := run_append_grow_src (P := P) w t tx ty e i z hu hi hz0 (some a) n c olds hold v m news hsrc hlt (by omega) (growslice_fits hlt (by rw [hby]; exact hf1))
            obtain ⟨hdh, hEd⟩ := h.drew
            have hgc := grownCap_ge w (n + m) c e
            have hjoin := join_ok (Rr := R ρ σ fz w.drew) #[] (hol.trans hll.symm) hnl (fun j hj => by rw [hll] at hj; rw [hgd j hj]; exact (hus j hj).2.1)
              (fun j hj => by have hj' := hj; rw [hll] at hj'; rw [hgd j hj']; exact ((hus j hj').2.2 hj).ev hEd ((hus j hj').2.2 hj).sc) hn1 (fun j hj => (hnR j hj).ev hEd (hnR j hj).sc)
            have hzr := zeros_row (w := w.drew) (fz := fz) hzs hzl h0 hz1 (fun j hj => hzR _ _ j hj) (grownCap w (n + m) c e - (n + m))
            have hzc : Builtin.zeroCells z.cells (grownCap w (n + m) c e - (n + m)) = (Array.range ((grownCap w (n + m) c e - (n + m)) * q.sz)).map (z.cells[· % z.cells.size]!) := by
              simp [Builtin.zeroCells, hzs]
            have hgs := grown_size (g := grownCap w (n + m) c e) hzs hol (hnl.trans hyl) hgc
            have hall := getD_join (Rr := R ρ σ fz w.drew) (A := (b.cells.drop off).take (n * q.sz) ++ ys) (B := reps (grownCap w (n + m) c e - (n + m)) q.zero) (a := (olds ++ news).toArray) (b := Builtin.zeroCells z.cells (grownCap w (n + m) c e - (n + m)))
              (by simp only [List.size_toArray, List.length_append, hll]; omega) (by rw [hzc]; exact hzr.1) (fun j hj => by have := hjoin j hj; simpa using this) (fun j hj => by rw [hzc]; exact ⟨hzr.2.1 j hj, R.pure _ _ (hzr.2.2 j hj)⟩)
            obtain ⟨hp, hEp⟩ := newRow_ok hdh ((b.cells.drop off).take (n * q.sz) ++ ys ++ reps (grownCap w (n + m) c e - (n + m)) q.zero) ((olds ++ news).toArray ++ Builtin.zeroCells z.cells (grownCap w (n + m) c e - (n + m))) e
              (by rw [hgs]; simp only [List.length_append, hll, reps_length, hyl, hzl]; rw [← Nat.add_mul, ← Nat.add_mul, show n + m + (grownCap w (n + m) c e - (n + m)) = grownCap w (n + m) c e by omega]; exact Nat.le_refl _)
              (fun j hj => (hall j hj).1) (fun j hj => (hall j hj).2)
            exact ⟨_, _, _, _, _, _, hrun, hK _ hgc, hp, R.newSlice (w := w.drew) _ e _ 0 (n + m) (grownCap w (n + m) c e) q.sz (some (grownCap w (n + m) c e)) hgc (fun k hk => by cases hk; rfl) (by rw [hgs]; omega), hEd.trans hEp⟩
          rcases Nat.lt_or_ge c (n + m) with hlt | hge
          · -- a new row
            let olds : List Value := (List.range (n * q.sz)).map us
            have hol : olds.length = n * q.sz := by simp [olds]
            have hgd : ∀ j, j < n * q.sz → olds.getD j undef = us j := fun j hj => by simp [olds, List.getD, hj]
            have hold : (Builtin.firstCells i.size n (.slice (some a) n c)).run P w.drew = .ok olds.toArray w.drew := by
              rw [hsz]
              rcases Nat.eq_zero_or_pos c with hz | hz
              · have hn0 : n = 0 := by omega
                have : olds = [] := by simp [olds, hn0]
                rw [this]
                exact run_firstCells_some w.drew q.sz n a n c [] (by simp [hn0]) (fun j u hu => by simp at hu)
              · rw [ha hz]
                refine run_firstCells_some w.drew q.sz n _ n c olds hol (fun j u hu => ?_)
                have hj : j < n * q.sz := by have := (List.getElem?_eq_some_iff.1 hu).1; simpa [olds] using this
                simp only [olds, List.getElem?_map, List.getElem?_range hj] at hu
                cases hu
                rw [add_lit]
                have := (hus j hj).1
                rw [← Nat.add_assoc] at this
                rw [World.cell?_drew]; simp [World.cell?, hw, this]
            have hrun := run_append_grow_src (P := P) w t tx ty e i z hu hi hz0 (some a) n c olds hold v m news hsrc hlt (by omega) (growslice_fits hlt (by rw [hby]; exact hf1))
            have hgc := grownCap_ge w (n + m) c e
            have hjoin := join_ok (Rr := R ρ σ fz w) (Builtin.zeroCells z.cells (grownCap w (n + m) c e - (n + m))) (hol.trans hll.symm) hnl (fun j hj => by rw [hll] at hj; rw [hgd j hj]; exact (hus j hj).2.1)
              (fun j hj => by have hj' := hj; rw [hll] at hj'; rw [hgd j hj']; exact (hus j hj').2.2 hj) hn1 hnR
            have hgs := grown_size (g := grownCap w (n + m) c e) hzs hol (hnl.trans hyl) hgc
            obtain ⟨hp, hEp⟩ := h.renew hb hd w.heap.size 0 ((b.cells.drop off).take (n * q.sz) ++ ys)
              (w' := w.drew.alloc (.cells ((olds ++ news).toArray ++ Builtin.zeroCells z.cells (grownCap w (n + m) c e - (n + m))) e)) rfl rfl rfl (by simp) (.inr (Nat.le_refl _)) (World.alloc_heap_new w.drew _)
              (fun k hk _ => Below.heap_alloc w.drew _ k hk) (fun c' e' fr' hk => ⟨c', fr', (Below.heap_alloc w.drew _ _ (Array.getElem?_eq_some_iff.1 hk).1).trans hk, rfl⟩)
              (by simp only [Array.size_append, List.size_toArray, List.length_append, hll]; omega)
              (fun j hj => ⟨_, by rw [Nat.zero_add]; exact get_of_getD (by simp only [Array.size_append, List.size_toArray, List.length_append, hll] at hj ⊢; omega), (hjoin j hj).1, (hjoin j hj).2⟩)
            refine ⟨_, _, _, _, _, _, hrun, hK, hp, ?_, hEp⟩
            refine .so _ _ _ _ _ _ ⟨.own, b.ver + 1, _⟩ _ (List.getElem?_set_self (List.getElem?_eq_some_iff.1 hb).1) (Nat.le_refl _) rfl fun _ _ => ?_
            rw [upd_same]
            exact ⟨_, _, rfl, hgc, (fun k hk => by cases hk), (fun _ => rfl), _, e, (0, 0), World.alloc_heap_new w.drew _, (by rw [hgs]; simp)⟩
          · -- in place
            have hgb := (List.getElem?_eq_some_iff.1 hb).1
            rcases Nat.eq_zero_or_pos c with hz | hz
            · have hm0 : m = 0 := by omega
              have hn0 : n = 0 := by omega
              subst hm0; subst hn0; subst hz
              have hnews : news = [] := List.eq_nil_of_length_eq_zero (by omega)
              have hysn : ys = [] := List.eq_nil_of_length_eq_zero (by omega)
              subst hnews; subst hysn
              have hrun := run_append_nothing (P := P) w t tx ty e i hu hi (some a) 0 0 (Nat.le_refl _) v hsrc
              obtain ⟨hp, hEp⟩ := h.renew hb hd (ρ iB).1 ((ρ iB).2 + off) ((b.cells.drop off).take (0 * q.sz) ++ []) (w' := w) rfl rfl rfl (Nat.le_refl _) (.inl rfl) hw (fun _ _ _ => rfl) (fun c' e' fr' hk => ⟨c', fr', hk, rfl⟩)
                (by simp; omega) (fun j hj => by simp at hj)
              refine ⟨_, _, _, _, _, _, hrun, hK, hp, ?_, hEp⟩
              refine .so _ _ _ _ _ _ ⟨.own, b.ver + 1, _⟩ _ (List.getElem?_set_self hgb) (Nat.le_refl _) rfl fun _ _ => ?_
              rw [upd_same]
              exact ⟨_, 0, rfl, Nat.le_refl _, (fun k hk => by cases hk), (fun hh => absurd hh (by omega)), cells, e1, (0, 0), hw, (by omega)⟩
            · have ha := ha hz
              subst ha
              have hnm : n * q.sz + m * q.sz ≤ c * q.sz := by rw [← Nat.add_mul]; exact Nat.mul_le_mul_right _ hge
              have hst := run_storeCells_at (P := P) (ρ iB).1 ((ρ iB).2 + off + n * q.sz) e1 news 0 cells w hw (by omega) (fun v hv => by
                obtain ⟨j, hj, rfl⟩ := List.mem_iff_getElem.1 hv
                have := hn1 j (by omega)
                simpa [List.getD, hj] using this)
              simp only [Nat.add_zero] at hst
              rw [setRow_eq w _ cells _ e1 hw] at hst
              have hrun := append_room_run (P := P) (ty := ty) (a := ⟨(ρ iB).1, (ρ iB).2 + off, none⟩) hu hi hsrc hge (by rw [add_lit, hsz]; exact hst)
              have hlt1 : (ρ iB).1 < w.heap.size := (Array.getElem?_eq_some_iff.1 hw).1
              have hnews : news.length = m * q.sz := hnl.trans hyl
              obtain ⟨cells', hcells'⟩ : ∃ c', (cells.toList.take ((ρ iB).2 + off + n * q.sz) ++ news ++ cells.toList.drop ((ρ iB).2 + off + n * q.sz + news.length)).toArray = c' := ⟨_, rfl⟩
              rw [hcells'] at hrun
              have hcs : cells'.size = cells.size := by rw [← hcells']; simp; omega
              have hcg : ∀ j, cells'[j]? = if (ρ iB).2 + off + n * q.sz ≤ j ∧ j < (ρ iB).2 + off + n * q.sz + news.length then news[j - ((ρ iB).2 + off + n * q.sz)]? else cells[j]? := by
                intro j
                rw [← hcells']
                have hm : min ((ρ iB).2 + off + n * q.sz) cells.size = (ρ iB).2 + off + n * q.sz := by omega
                simp only [List.getElem?_toArray, List.append_assoc]
                rcases Nat.lt_or_ge j ((ρ iB).2 + off + n * q.sz) with hj | hj
                · rw [if_neg (by omega), List.getElem?_append_left (by simp; omega), List.getElem?_take_of_lt (by omega)]; simp
                · rw [List.getElem?_append_right (by simp; omega)]
                  simp only [List.length_take, Array.length_toList, hm]
                  rcases Nat.lt_or_ge j ((ρ iB).2 + off + n * q.sz + news.length) with hj2 | hj2
                  · rw [if_pos ⟨hj, hj2⟩, List.getElem?_append_left (by omega)]
                  · rw [if_neg (by omega), List.getElem?_append_right (by omega), List.getElem?_drop]
                    rw [show (ρ iB).2 + off + n * q.sz + news.length + (j - ((ρ iB).2 + off + n * q.sz) - news.length) = j by omega]
                    simp
              obtain ⟨hp, hEp⟩ := h.renew hb hd (ρ iB).1 ((ρ iB).2 + off) ((b.cells.drop off).take (n * q.sz) ++ ys)
                (w' := { w with heap := w.heap.setIfInBounds (ρ iB).1 (.cells cells' e1 (0, 0)) }) (cells := cells') (e := e1) rfl rfl rfl (by simp) (.inl rfl)
                (by simp [hlt1]) (fun k hk hne => by rw [Array.getElem?_setIfInBounds, if_neg (by omega)])
                (fun c' e' fr' hk => ⟨cells', (0, 0), by rw [hw] at hk; cases hk; simp [hlt1], by rw [hw] at hk; cases hk; exact hcs⟩)
                (by rw [List.length_append, hll, hcs]; omega)
                (fun j hj => by
                  rw [List.length_append, hll] at hj
                  rcases Nat.lt_or_ge j (n * q.sz) with hj1 | hj1
                  · obtain ⟨q1, q2, q3⟩ := hus j hj1
                    refine ⟨us j, ?_, q2, ?_⟩
                    · rw [hcg, if_neg (by omega), ← q1, Nat.add_assoc]
                    · rw [List.getElem_append_left (by rw [hll]; exact hj1)]; exact q3 _
                  · refine ⟨news.getD (j - n * q.sz) undef, ?_, hn1 _ (by omega), ?_⟩
                    · rw [hcg, if_pos (by omega), show (ρ iB).2 + off + j - ((ρ iB).2 + off + n * q.sz) = j - n * q.sz by omega]
                      simp [List.getD, List.getElem?_eq_getElem (show j - n * q.sz < news.length by omega)]
                    · rw [List.getElem_append_right (by rw [hll]; exact hj1)]
                      simp only [hll]
                      exact hnR _ (by omega))
              refine ⟨_, _, _, _, _, _, hrun, hK, hp, ?_, hEp⟩
              refine .so _ _ _ _ _ _ ⟨.own, b.ver + 1, _⟩ _ (List.getElem?_set_self hgb) (Nat.le_refl _) rfl fun _ _ => ?_
              rw [upd_same]
              exact ⟨_, c, rfl, hge, (fun k hk => by cases hk), (fun _ => rfl), cells', e1, (0, 0), (by simp [hlt1]), (by rw [hcs]; simpa using hroom)⟩
        · exact hK.elim
      · exact hK.elim
    · exact hK.elim
  · exact hK.elim

/-! ### copy -/
theorem cells_ok (h : HRel w0 ρ fz σ w) {sz : Nat} {y : AV} {v : Value} {ys : List AV} {m : Nat} (hy : R ρ σ fz w y v) (hs : srcC sz false σ y = some (ys, m)) :
    ∃ a c us, v = .slice a m c ∧ ys.length = m * sz ∧ (∀ k, k ≤ m → (Builtin.firstCells sz k v).run P w = .ok ((List.range (k * sz)).map us).toArray w) ∧
      ∀ j (hj : j < ys.length), (us j).oneCell' = true ∧ R ρ σ fz w ys[j] (us j) := by
  cases y with
  | pl nl cs n cap =>
    obtain ⟨a, c, b, o, us, rfl, hnl, hn, hc, hcap, ha, hfz, hcell, hone, hR⟩ := hy.pl_inv
    simp only [srcC] at hs
    split at hs
    · rename_i hlen
      obtain ⟨_, hlen⟩ := hlen
      cases hs
      refine ⟨a, c, us, rfl, hlen, fun k hk => ?_, fun j hj => ⟨hone j hj, .pure _ _ (hR j hj)⟩⟩
      have hkm : k * sz ≤ m * sz := Nat.mul_le_mul_right _ hk
      rcases Nat.eq_zero_or_pos (k * sz) with h0 | h0
      · cases a with
        | none => rw [h0]; exact run_firstCells_none w sz k m c
        | some ad => rw [h0]; exact run_firstCells_some w sz k ad m c [] (by simp [h0]) (fun j u hu => by simp at hu)
      · rw [ha (by omega)]
        refine run_firstCells_some w sz k _ m c _ (by simp) (fun j u hu => ?_)
        have hj : j < k * sz := by have := (List.getElem?_eq_some_iff.1 hu).1; simpa using this
        rw [List.getElem?_map, List.getElem?_range hj] at hu
        cases hu
        rw [add_lit]; exact hcell j (by omega)
    · cases hs
  | so i ver off n s2 cap =>
    obtain ⟨b, hb, hle, _, hval⟩ := hy.so_inv
    simp only [srcC, hb] at hs
    split at hs
    · rename_i hcond
      obtain ⟨_, hv, hd, hlen⟩ := hcond
      cases hs
      obtain ⟨a, c, rfl, hnc, hcap, ha, hroom⟩ := hval hv hd
      obtain ⟨cells, e, hw, hbase, hl, _, _, hc⟩ := h.blk i b hb hd
      have hll : ((b.cells.drop off).take (m * sz)).length = m * sz := by simp; omega
      let us : Nat → Value := fun j => cells.getD ((ρ i).2 + (off + j)) undef
      have hus : ∀ j, j < m * sz → cells[(ρ i).2 + (off + j)]? = some (us j) ∧ (us j).oneCell' = true ∧ ∀ hj, R ρ σ fz w (((b.cells.drop off).take (m * sz))[j]'hj) (us j) := fun j hj => by
        obtain ⟨u, hu, h1, hR⟩ := hc (off + j) (by omega)
        have hq : cells[(ρ i).2 + (off + j)]? = some (us j) := get_of_getD (Array.getElem?_eq_some_iff.1 hu).1
        rw [hu] at hq
        have hq' := Option.some.inj hq
        exact ⟨by rw [hu, hq'], by rw [← hq']; exact h1, fun hj => by rw [← hq']; simpa using hR⟩
      refine ⟨some a, c, us, rfl, hll, fun k hk => ?_, fun j hj => ⟨(hus j (by omega)).2.1, (hus j (by omega)).2.2 hj⟩⟩
      have hkm : k * sz ≤ m * sz := Nat.mul_le_mul_right _ hk
      rcases Nat.eq_zero_or_pos (k * sz) with h0 | h0
      · rw [h0]; exact run_firstCells_some w sz k a m c [] (by simp [h0]) (fun j u hu => by simp at hu)
      · have hc0 : 0 < c := by
          rcases Nat.eq_zero_or_pos c with hz | hz
          · have : k = 0 := by omega
            subst this; simp at h0
          · exact hz
        rw [ha hc0]
        refine run_firstCells_some w sz k _ m c _ (by simp) (fun j u hu => ?_)
        have hj : j < k * sz := by have := (List.getElem?_eq_some_iff.1 hu).1; simpa using this
        rw [List.getElem?_map, List.getElem?_range hj] at hu
        cases hu
        rw [add_lit]
        have := (hus j (by omega)).1
        rw [← Nat.add_assoc] at this
        simp [World.cell?, hw, this]
    · cases hs
  | v x => cases x <;> simp [srcC] at hs
  | _ => simp [srcC] at hs

/-- Zeros are appended ('append(s[:0], make(..)...)'), where the room is too little. -/
def aAppZ (P : Program) (t : TypeId) (x y : AV) (σ : AHeap) (K : AV → AHeap → Prop) : Prop :=
  match x, y with
  | .so i ver off n sz (some c), .v (.int _ m) => match elT P t, σ[i]? with
    | some (_, e), some b => b.ver = ver ∧ b.kind ≠ .dead ∧ n = 0 ∧ (c : Int) < m ∧ m.toNat * (e.bytes + 1) ≤ 140737488355328 ∧
        ∀ c', m.toNat ≤ c' → K (.so σ.length 0 0 m.toNat e.sz (some c')) (σ ++ [⟨.own, 0, reps m.toNat e.zero ++ reps (c' - m.toNat) e.zero⟩])
    | _, _ => False
  | _, _ => False

theorem appz_run {t tx ty e : TypeId} {k k' : IntKind} {i : TypeInfo} {z : Value} (ht : P.underlying t = some (.slice e)) (htx : P.underlying tx = some (.int k)) (hi : P.info? e = some i) (hz : i.zero = some z) {a : Addr} {c M : Nat}
    (hlt : c < M) (h0 : 0 < i.size) (hM : M * (i.bytes + 1) ≤ 140737488355328) :
    (Builtin.append_ #[t, tx] ty #[.slice (some a) 0 c, .int k' (M : Int)]).run P w =
      .ok (.slice (some ⟨w.heap.size, 0, none⟩) M (grownCap w M c e)) (w.drew.alloc (.cells (Builtin.zeroCells z.cells M ++ Builtin.zeroCells z.cells (grownCap w M c e - M)) e)) := by
  obtain ⟨hf1, hf2⟩ := fits_bytes hM
  have hfit := growslice_fits hlt hf1
  have hw : IntKind.i64.wrap (M : Int) = (M : Int) := by rw [IntKind.wrap_i64]; omega
  have h1 : ¬ ((M : Int) * (i.bytes : Int) > 281474976710656) := by rw [← Int.natCast_mul]; omega
  have h2 : ¬ (M ≤ c) := by omega
  have h3 : ¬ (M * i.size = 0) := Nat.mul_ne_zero (by omega) (by omega)
  have h4 : ¬ ((M : Int) > 9223372036854775807) := by omega
  have h5 : ¬ (281474976710656 < Builtin.nextslicecap M c * i.bytes) := by omega
  have hold : (Builtin.firstCells i.size 0 (.slice (some a) 0 c)).run P w.drew = .ok #[] w.drew := run_firstCells_some w.drew i.size 0 a 0 c [] (by simp) (fun j u hu => by simp at hu)
  have h6 : ¬ (M = 0 ∨ i.size = 0) := by omega
  have h7 : ¬ (281474976710656 < (M : Int) * (i.bytes : Int)) := h1
  have h8 : ¬ (9223372036854775807 < (M : Int)) := h4
  have h9 : ¬ ((M : Int) < 0) := by omega
  simp [Builtin.append_, run_underlying ht, run_underlying htx, sizeOf, typeInfo, zeroValue, hi, hz, asInt, asIntOf, hw, h9, h7, h2, h6, h8, h5, Question.forced, hold, newRow, grownCap]
  exact fun h => absurd h h3

theorem appz_ok (h : HRel w0 ρ fz σ w) {t tx ty : TypeId} {x y : AV} {u v : Value} (hx : R ρ σ fz w x u) (hy : R ρ σ fz w y v) {K : AV → AHeap → Prop} (hi : (intT P tx).isSome = true) (hK : aAppZ P t x y σ K) :
    SemOK P w0 ρ fz σ w (Builtin.append_ #[t, tx] ty #[u, v]) K := by
  have htx : ∃ k, P.underlying tx = some (.int k) := by
    unfold intT at hi
    split at hi
    · exact ⟨_, ‹_›⟩
    · cases hi
  obtain ⟨k, htx⟩ := htx
  unfold aAppZ at hK
  split at hK
  · rename_i iB ver off n sz c k' m
    obtain rfl := hy.v_eq
    split at hK
    · rename_i e q b he hb
      obtain ⟨hv, hnd, rfl, hlt, hM, hK⟩ := hK
      obtain ⟨M, rfl⟩ : ∃ M : Nat, m = M := ⟨m.toNat, by omega⟩
      simp only [Int.toNat_natCast] at hM hK
      obtain ⟨hu, i, hi, hsz, hby, hzl, h0, z, hz0, hz, hzs, hz1, hzR⟩ := elT_ok he
      obtain ⟨b', hb', hle, _, hval⟩ := hx.so_inv
      rw [hb] at hb'; cases hb'
      obtain ⟨a, c2, rfl, hnc, hcap, ha, hroomx⟩ := hval hv hnd
      have := hcap c rfl
      subst this
      have hrun := appz_run (w := w) (ty := ty) (k' := k') (a := a) hu htx hi hz0 (c := c2) (M := M) (by omega) (by omega) (by rw [hby]; exact hM)
      obtain ⟨hdh, hEd⟩ := h.drew
      have hgc := grownCap_ge w M c2 e
      have zc : ∀ n, Builtin.zeroCells z.cells n = (Array.range (n * q.sz)).map (z.cells[· % z.cells.size]!) := fun n => by simp [Builtin.zeroCells, hzs]
      have hzr := fun n => zeros_row (w := w.drew) (fz := fz) hzs hzl h0 hz1 (fun j hj => hzR _ _ j hj) n
      have hall := getD_join (Rr := R ρ σ fz w.drew) (A := reps M q.zero) (B := reps (grownCap w M c2 e - M) q.zero) (a := Builtin.zeroCells z.cells M) (b := Builtin.zeroCells z.cells (grownCap w M c2 e - M))
        (by rw [zc]; exact (hzr _).1) (by rw [zc]; exact (hzr _).1) (fun j hj => by rw [zc]; exact ⟨(hzr _).2.1 j hj, R.pure _ _ ((hzr _).2.2 j hj)⟩) (fun j hj => by rw [zc]; exact ⟨(hzr _).2.1 j hj, R.pure _ _ ((hzr _).2.2 j hj)⟩)
      have hsize : (Builtin.zeroCells z.cells M ++ Builtin.zeroCells z.cells (grownCap w M c2 e - M)).size = grownCap w M c2 e * q.sz := by
        rw [zc, zc]
        simp only [Array.size_append, Array.size_map, Array.size_range]
        rw [← Nat.add_mul, show M + (grownCap w M c2 e - M) = grownCap w M c2 e by omega]
      obtain ⟨hp, hEp⟩ := newRow_ok hdh (reps M q.zero ++ reps (grownCap w M c2 e - M) q.zero) (Builtin.zeroCells z.cells M ++ Builtin.zeroCells z.cells (grownCap w M c2 e - M)) e
        (by rw [hsize]; simp only [List.length_append, reps_length, hzl]; rw [← Nat.add_mul, show M + (grownCap w M c2 e - M) = grownCap w M c2 e by omega]; exact Nat.le_refl _)
        (fun j hj => (hall j hj).1) (fun j hj => (hall j hj).2)
      exact ⟨_, _, _, _, _, _, hrun, hK _ hgc, hp, R.newSlice (w := w.drew) _ e _ 0 M (grownCap w M c2 e) q.sz (some (grownCap w M c2 e)) hgc (fun k hk => by cases hk; rfl) (by rw [hsize]; omega), hEd.trans hEp⟩
    · exact hK.elim
  · exact hK.elim

def splice (cs : List AV) (off : Nat) (ys : List AV) : List AV := cs.take off ++ ys ++ cs.drop (off + ys.length)
theorem wr_splice (cs : List AV) (off : Nat) (ys : List AV) (h : off + ys.length ≤ cs.length) : wr cs off ys = splice cs off ys := by
  apply List.ext_getElem?
  intro j
  rw [wr_get ys cs off j h, splice, List.append_assoc]
  have hm : min off cs.length = off := by omega
  rcases Nat.lt_or_ge j off with h1 | h1
  · rw [if_neg (by omega), List.getElem?_append_left (by simp; omega), List.getElem?_take_of_lt h1]
  · rw [List.getElem?_append_right (by simp; omega)]
    simp only [List.length_take, hm]
    rcases Nat.lt_or_ge j (off + ys.length) with h2 | h2
    · rw [if_pos ⟨h1, h2⟩, List.getElem?_append_left (by omega)]
    · rw [if_neg (by omega), List.getElem?_append_right (by omega), List.getElem?_drop]
      rw [show off + ys.length + (j - off - ys.length) = j by omega]

def aCopy (P : Program) (t : TypeId) (x y : AV) (σ : AHeap) (K : AV → AHeap → Prop) : Prop :=
  match elT P t with
  | some (_, e) => match srcC e.sz false σ y with
    | some (ys, m) => match x with
      | .so i ver off n sz _ => match σ[i]? with
        | some b => b.ver = ver ∧ b.kind = .own ∧ sz = e.sz ∧ off + n * sz ≤ b.cells.length ∧ K (.v (.int .i64 (min m n : Nat))) (σ.set i { b with cells := splice b.cells off (ys.take (min m n * sz)) })
        | none => False
      | .pl _ _ n _ => n = 0 ∧ K (.v (.int .i64 0)) σ
      | _ => False
    | none => False
  | none => False

theorem copy_ok (h : HRel w0 ρ fz σ w) {t tx ty : TypeId} {x y : AV} {u v : Value} (hx : R ρ σ fz w x u) (hy : R ρ σ fz w y v) {K : AV → AHeap → Prop} (hK : aCopy P t x y σ K) :
    SemOK P w0 ρ fz σ w (Builtin.copy_ #[t, tx] ty #[u, v]) K := by
  unfold aCopy at hK
  split at hK
  · rename_i e q he
    obtain ⟨hu, i, hi, hsz, hby, hzl, h0, z, hz0, hz, hzs, hz1, hzR⟩ := elT_ok he
    split at hK
    · rename_i ys m hys
      obtain ⟨a', c', us, rfl, hyl, hfirst, hcells⟩ := cells_ok (P := P) h hy hys
      split at hK
      · rename_i iB ver off n sz cap
        split at hK
        · rename_i b hb
          obtain ⟨hv, hd, rfl, hoff, hK⟩ := hK
          obtain ⟨b', hb', hle, _, hval⟩ := hx.so_inv
          rw [hb] at hb'; cases hb'
          obtain ⟨a, c, rfl, hnc, hcap, ha, hroom⟩ := hval hv (by rw [hd]; decide)
          have hk1 : min m n ≤ m := Nat.min_le_left _ _
          have hk2 : min m n ≤ n := Nat.min_le_right _ _
          have hkm : min m n * q.sz ≤ m * q.sz := Nat.mul_le_mul_right _ hk1
          have hkn : min m n * q.sz ≤ n * q.sz := Nat.mul_le_mul_right _ hk2
          have htl : (ys.take (min m n * q.sz)).length = min m n * q.sz := by simp; omega
          rcases Nat.eq_zero_or_pos (min m n * q.sz) with hz | hz
          · -- nothing is written
            have hk0 : min m n = 0 := by rcases Nat.mul_eq_zero.1 hz with h | h <;> omega
            have hf := hfirst (min m n) hk1
            rw [hz] at hf
            have e1 : splice b.cells off (ys.take (min m n * q.sz)) = b.cells := by rw [hz]; simp [splice]
            rw [e1] at hK
            have e2 : σ.set iB { b with cells := b.cells } = σ := by
              have : ({ b with cells := b.cells } : ABlk) = b := rfl
              rw [this]
              obtain ⟨hlt, hb⟩ := List.getElem?_eq_some_iff.1 hb
              rw [← hb]; exact List.set_getElem_self hlt
            rw [e2] at hK
            refine SemOK.of_same h (v := .int .i64 (min m n : Nat)) ?_ (.lit _) hK
            have hmin : Nat.min m n = min m n := rfl
            simp [Builtin.copy_, run_underlying hu, Builtin.lenOf, sizeOf, typeInfo, hi, hsz, hmin, hf, storeCells, goInt]
          · have hc0 : 0 < c := by
              rcases Nat.eq_zero_or_pos c with hc | hc
              · have : min m n = 0 := by omega
                rw [this] at hz; simp at hz
              · exact hc
            have ha := ha hc0
            subst ha
            have hgd : ∀ j, j < min m n * q.sz → ((List.range (min m n * q.sz)).map us).getD j undef = us j := fun j hj => by simp [List.getD, hj]
            obtain ⟨w', hst, hp, hE⟩ := storeCells_ok (P := P) h hb hd ((List.range (min m n * q.sz)).map us) (ys.take (min m n * q.sz)) (by simp; omega)
              (fun j hj => by rw [htl] at hj; rw [hgd j hj]; exact (hcells j (by omega)).1)
              (fun j hj => by have hj' := hj; rw [htl] at hj'; rw [hgd j hj']; simpa using (hcells j (by omega)).2) (off := off) (by rw [htl]; omega)
            rw [wr_splice _ _ _ (by rw [htl]; omega)] at hp hE
            refine ⟨.int .i64 (min m n : Nat), w', _, _, _, _, ?_, hK, hp, .lit _, hE⟩
            have hmin : Nat.min m n = min m n := rfl
            have hf := hfirst (min m n) hk1
            simp [Builtin.copy_, run_underlying hu, Builtin.lenOf, sizeOf, typeInfo, hi, hsz, hmin, hf, hst, goInt]
        · exact hK.elim
      · rename_i nl cs n cap
        obtain ⟨rfl, hK⟩ := hK
        obtain ⟨a, c, b, o, us', rfl, _⟩ := hx.pl_inv
        have hf := hfirst 0 (Nat.zero_le _)
        rw [Nat.zero_mul] at hf
        refine SemOK.of_same h (v := .int .i64 0) ?_ (.lit _) hK
        have hmin : Nat.min m 0 = 0 := Nat.min_zero _
        cases a <;> simp [Builtin.copy_, run_underlying hu, Builtin.lenOf, sizeOf, typeInfo, hi, hsz, hmin, hf, storeCells, goInt]
      · exact hK.elim
    · exact hK.elim
  · exact hK.elim
end
end Go.Proofs.Va
