import Derived.Test.YtnhhlamecljhhaaGreatWa
import Derived.Test.YtnhhlamecljhhaaGreatWb
import Derived.Test.YtnhhlamecljhhaaGreatWc
import Derived.Test.YtnhhlamecljhhaaGreatWd
import Derived.Test.YtnhhlamecljhhaaGreatWe
import Derived.Test.YtnhhlamecljhhaaGreatWf
import Derived.Test.YtnhhlamecljhhaaGreatWg
import Derived.Test.YtnhhlamecljhhaaGreatWh
import Derived.Test.YtnhhlamecljhhaaGreatWi
import Derived.Test.YtnhhlamecljhhaaGreatWk
import Derived.Test.YtnhhlamecljhhaaGreatWl
import Derived.Test.YtnhhlamecljhhaaGreatWm
import Derived.Test.YtnhhlamecljhhaaGreatWn
import Derived.WalkKit
import Derived.ProofKit
import Derived.OpenShut
import Derived.ShutString
import Derived.ChangeOld
import Derived.Below
import Derived.Carry
/- From what can be read as data to what is said of it, for any shape: numbers, floats, texts, structs, arrays, slices. -/
set_option linter.unusedVariables false
set_option linter.unusedSimpArgs false
namespace Go.Proofs.Va
open Go Go.RowKit

/-- What lies in one cell. -/
inductive Sh where
  | bool
  | int (k : IntKind)
  | flt
  | str
  | sl (e : List Sh)

inductive Fit : Sh → AV → Prop
  | bool (b : Bool) : Fit .bool (.v (.bool b))
  | int (k : IntKind) (z : Int) (h : (Lit.int k z).wf = true) : Fit (.int k) (.v (.int k z))
  | flt (b : Nat) (h : b < 18446744073709551616) : Fit .flt (.v (.float .f64 b))
  | str (s : ByteArray) (h : s.size ≤ maxLen) : Fit .str (.v (.string s))
  | sl (es : List Sh) (nl : Bool) (l : List (List AV)) (hnl : nl = true → l = []) (hm : l.length ≤ maxLen) (hlen : ∀ ys ∈ l, ys.length = es.length) (h : ∀ ys ∈ l, ∀ j (hj : j < ys.length) (hj' : j < es.length), Fit es[j] ys[j]) : Fit (.sl es) (.pl nl l.flatten l.length none)

def fieldsSh (P : Program) (rec_ : TypeId → Option (List Sh)) : List Field → Nat → Option (List Sh)
  | [], _ => some []
  | f :: fs, o => if f.offset = o then (match rec_ f.type with
      | some a => (match fieldsSh P rec_ fs (o + a.length) with
        | some b => some (a ++ b)
        | none => none)
      | none => none) else none
def repSh (a : List Sh) : Nat → List Sh
  | 0 => []
  | n + 1 => a ++ repSh a n

/-- The cells of a type. -/
def cellsh (P : Program) : Nat → TypeId → Option (List Sh)
  | 0, _ => none
  | n + 1, t =>
    match (match P.underlying t with
      | some .bool => some [Sh.bool]
      | some (.int k) => some [Sh.int k]
      | some (.float .f64) => some [Sh.flt]
      | some .string => some [Sh.str]
      | some (.slice e) => (cellsh P n e).map fun es => [Sh.sl es]
      | some (.struct fs) => fieldsSh P (cellsh P n) fs.toList 0
      | some (.array k e) => (cellsh P n e).map fun es => repSh es k
      | _ => none) with
    | some s => if s.length = P.cellsOf t then some s else none
    | none => none

theorem cellsh_len {P : Program} {n : Nat} {t : TypeId} {s : List Sh} (h : cellsh P n t = some s) : s.length = P.cellsOf t := by
  cases n with
  | zero => simp [cellsh] at h
  | succ n =>
    simp only [cellsh] at h
    split at h
    · split at h
      · cases h; assumption
      · cases h
    · cases h

theorem flatten_get {α : Type} (l : List (List α)) (k : Nat) (h : ∀ ys ∈ l, ys.length = k) : l.flatten.length = l.length * k ∧ ∀ i j (hi : i < l.length) (hj : j < k) (hij : i * k + j < l.flatten.length), l.flatten[i * k + j] = (l[i])[j]'(by rw [h _ (List.getElem_mem hi)]; exact hj) := by
  induction l with
  | nil => exact ⟨by simp, fun i j hi => by simp at hi⟩
  | cons a l ih =>
    obtain ⟨ih1, ih2⟩ := ih fun ys hy => h ys (by simp [hy])
    have ha := h a (by simp)
    refine ⟨by simp [ih1, ha, Nat.succ_mul]; omega, fun i j hi hj hij => ?_⟩
    cases i with
    | zero =>
      simp only [List.flatten_cons, Nat.zero_mul, Nat.zero_add, List.getElem_cons_zero]
      rw [List.getElem_append_left]
    | succ i =>
      have e : (i + 1) * k + j = a.length + (i * k + j) := by rw [Nat.succ_mul, ha]; omega
      simp only [List.flatten_cons, List.getElem_cons_succ]
      rw [List.getElem_append_right (by omega)]
      have e2 : (i + 1) * k + j - a.length = i * k + j := by omega
      simp only [e2]
      exact ih2 i j (by simpa using hi) hj _

section
variable {H : Type} {enc : TypeId × Value → H} {P : Program} {w : World} {sp : Nat → Bool} {held : Bool}

abbrev live (w : World) : Nat → Prop := fun k => k < w.heap.size

/-- A cell list that fits. -/
def Good (w : World) (s : List Sh) (cs : List Value) (o : Nat) : Prop := ∃ xs : List AV, xs.length = s.length ∧ ∀ j (hj : j < s.length) (hx : j < xs.length), Fit s[j] xs[j] ∧ ∃ u, cs[o + j]? = some u ∧ u.oneCell' = true ∧ Rp (live w) w xs[j] u

theorem Good.append {s s' : List Sh} {cs : List Value} {o : Nat} (h : Good w s cs o) (h' : Good w s' cs (o + s.length)) : Good w (s ++ s') cs o := by
  obtain ⟨xs, h1, h2⟩ := h
  obtain ⟨ys, h3, h4⟩ := h'
  refine ⟨xs ++ ys, by simp [h1, h3], fun j hj hx => ?_⟩
  rcases Nat.lt_or_ge j s.length with hlt | hge
  · rw [List.getElem_append_left hlt, List.getElem_append_left (by omega)]
    exact h2 j hlt (by omega)
  · rw [List.getElem_append_right hge, List.getElem_append_right (by omega)]
    simp only [List.length_append] at hj
    obtain ⟨f, u, hu, h5, h6⟩ := h4 (j - s.length) (by omega) (by omega)
    refine ⟨?_, u, by rw [← hu]; congr 1; omega, h5, ?_⟩
    · have e : j - xs.length = j - s.length := by omega
      simp only [e]; exact f
    · have e : j - xs.length = j - s.length := by omega
      simp only [e]; exact h6
theorem Good.nil {cs : List Value} {o : Nat} : Good w [] cs o := ⟨[], rfl, fun j hj => by simp at hj⟩
theorem Good.sub {s : List Sh} {cs : List Value} {o n : Nat} (h : Good w s ((cs.drop o).take n) 0) (hn : s.length ≤ n) : Good w s cs o := by
  obtain ⟨xs, h1, h2⟩ := h
  refine ⟨xs, h1, fun j hj hx => ?_⟩
  obtain ⟨f, u, hu, h5⟩ := h2 j hj hx
  refine ⟨f, u, ?_, h5⟩
  rw [Nat.zero_add, List.getElem?_take_of_lt (by omega), List.getElem?_drop] at hu
  exact hu
theorem Good.one {s : Sh} {x : AV} {u : Value} (hf : Fit s x) (h1 : u.oneCell' = true) (hR : Rp (live w) w x u) : Good w [s] [u] 0 := by
  refine ⟨[x], rfl, fun j hj hx => ?_⟩
  have : j = 0 := by simp at hj; omega
  subst this
  exact ⟨hf, u, rfl, h1, hR⟩

theorem trod_float {fuel : Nat} {t : TypeId} {cs : List Value} {x : DataW H × List MemPlace} (ht : P.underlying t = some (.float .f64)) (h : DataW.trod enc P w 0 sp held fuel t cs = some x) : ∃ b, cs = [.float .f64 b] ∧ b < 18446744073709551616 := by
  cases fuel with
  | zero => simp [DataW.trod] at h
  | succ n =>
    unfold DataW.trod at h
    rw [ht] at h
    split at h <;> first | (simp_all; done) | skip
    rename_i k k' b heq
    cases heq
    split at h
    · rename_i hc
      obtain ⟨rfl, hw⟩ := hc
      exact ⟨b, rfl, by simpa [Lit.wf] using hw⟩
    · cases h

theorem good_of : ∀ (fuel n : Nat) (t : TypeId) (cs : List Value) (s : List Sh) (x : DataW H × List MemPlace), DataW.trod enc P w 0 sp held fuel t cs = some x → cellsh P n t = some s → Good w s cs 0
  | 0, n, t, cs, s, x, h, hs => by simp [DataW.trod] at h
  | fuel + 1, 0, t, cs, s, x, h, hs => by simp [cellsh] at hs
  | fuel + 1, n + 1, t, cs, s, x, h, hs => by
    have hlen := cellsh_len hs
    have ih := fun (n : Nat) (t : TypeId) (cs : List Value) (s : List Sh) (x : DataW H × List MemPlace) => good_of fuel n t cs s x
    simp only [cellsh] at hs
    split at hs
    · rename_i s' hs'
      have e : s' = s := by
        split at hs
        · cases hs; rfl
        · cases hs
      subst e
      split at hs'
      · rename_i hu
        cases hs'
        obtain ⟨b, rfl, _⟩ := DataW.trod_bool hu h
        exact Good.one (.bool _) rfl (.v _)
      · rename_i k hu
        cases hs'
        obtain ⟨z, rfl, _, hw⟩ := DataW.trod_int hu h
        exact Good.one (.int _ _ hw) rfl (.v _)
      · rename_i hu
        cases hs'
        obtain ⟨b, rfl, hb⟩ := trod_float hu h
        exact Good.one (.flt _ hb) rfl (.v _)
      · rename_i hu
        cases hs'
        obtain ⟨b, rfl, _, hb⟩ := DataW.trod_string hu h
        exact Good.one (.str _ hb) rfl (.v _)
      · rename_i e hu
        obtain ⟨es, hes, rfl⟩ := Option.map_eq_some_iff.1 hs'
        have hel := cellsh_len hes
        rcases DataW.trod_slice hu h with ⟨rfl, _⟩ | ⟨a, len, cap, elems, rest, m, hm, rfl, _, _, hl, hmx, hle, hat, _, _⟩
        · exact Good.one (.sl es true [] (fun _ => rfl) (Nat.zero_le _) (fun ys hy => by simp at hy) (fun ys hy => by simp at hy)) rfl
            (.pl true [] 0 none none 0 0 0 (fun _ => undef) rfl (fun _ => rfl) (Nat.le_refl _) (fun k hk => by cases hk) (fun h => by simp at h) (fun h => by simp at h) (fun j hj => by simp at hj) (fun j hj => by simp at hj) (fun j hj => by simp at hj) (fun k hk => by cases hk))
        · cases hm
          -- the elements, one by one
          have each : ∀ i, i < len → ∃ cs', w.cells? 0 (a.add (i * P.cellsOf e)) (P.cellsOf e) = some cs' ∧ Good w es cs' 0 := by
            intro i hi
            have h1 := hat i hi
            rw [List.getElem?_eq_getElem (by omega)] at h1
            obtain ⟨cs', h2, h3⟩ := Option.bind_eq_some_iff.1 h1
            exact ⟨cs', h2, ih n e cs' es _ h3 hes⟩
          have pick : ∀ i, ∃ ys : List AV, i < len → ys.length = es.length ∧ ∀ j (hj : j < es.length) (hx : j < ys.length), Fit es[j] ys[j] ∧ ∃ u, w.cell? ((a.add (i * P.cellsOf e)).add j) = some u ∧ u.oneCell' = true ∧ Rp (live w) w ys[j] u := by
            intro i
            by_cases hi : i < len
            · obtain ⟨cs', h2, xs, h3, h4⟩ := each i hi
              refine ⟨xs, fun _ => ⟨h3, fun j hj hx => ?_⟩⟩
              obtain ⟨hf, u, hu, h5⟩ := h4 j hj hx
              obtain ⟨_, q2, q3⟩ := World.cells?_some h2
              rw [Nat.zero_add] at hu
              exact ⟨hf, u, by rw [q3 j (by omega)]; exact hu, h5⟩
            · exact ⟨[], fun h => absurd h hi⟩
          obtain ⟨f, hf⟩ : ∃ f : Nat → List AV, ∀ i, i < len → (f i).length = es.length ∧ ∀ j (hj : j < es.length) (hx : j < (f i).length), Fit es[j] (f i)[j] ∧ ∃ u, w.cell? ((a.add (i * P.cellsOf e)).add j) = some u ∧ u.oneCell' = true ∧ Rp (live w) w (f i)[j] u :=
            ⟨fun i => (pick i).choose, fun i => (pick i).choose_spec⟩
          have hmem : ∀ ys ∈ (List.range len).map f, ys.length = es.length := by
            intro ys hy
            obtain ⟨i, hi, rfl⟩ := List.mem_map.1 hy
            exact (hf i (List.mem_range.1 hi)).1
          obtain ⟨fl1, fl2⟩ := flatten_get ((List.range len).map f) es.length hmem
          have hll : ((List.range len).map f).length = len := by simp
          have cell : ∀ q, q < ((List.range len).map f).flatten.length → ∃ (hq : q < ((List.range len).map f).flatten.length) (u : Value), w.cell? (a.add q) = some u ∧ u.oneCell' = true ∧ Rp (live w) w (((List.range len).map f).flatten[q]) u := by
            intro q hq
            refine ⟨hq, ?_⟩
            rw [fl1, hll] at hq
            have hpos : 0 < es.length := by
              rcases Nat.eq_zero_or_pos es.length with h0 | h0
              · rw [h0] at hq; omega
              · exact h0
            obtain ⟨i, j, rfl, hi, hj⟩ : ∃ i j, q = i * es.length + j ∧ i < len ∧ j < es.length :=
              ⟨q / es.length, q % es.length, by rw [Nat.mul_comm]; exact (Nat.div_add_mod q es.length).symm, Nat.div_lt_of_lt_mul (by rw [Nat.mul_comm]; exact hq), Nat.mod_lt _ hpos⟩
            obtain ⟨h1, h2⟩ := hf i hi
            obtain ⟨_, u, hu, h3, h4⟩ := h2 j hj (by omega)
            have hidx := fl2 i j (by omega) hj (by rw [fl1, hll]; exact hq)
            refine ⟨u, ?_, h3, ?_⟩
            · rw [hel]
              have ea : (a.add (i * P.cellsOf e)).add j = a.add (i * P.cellsOf e + j) := by
                unfold Addr.add
                by_cases h0 : i * P.cellsOf e = 0
                · simp [h0]
                · by_cases hj0 : j = 0
                  · simp [h0, hj0]
                  · simp [h0, hj0, Nat.add_assoc]
              rw [← ea]; exact hu
            · rw [hidx]
              simpa using h4
          refine Good.one (x := .pl false ((List.range len).map f).flatten len none) ?_ rfl ?_
          · have := Fit.sl es false ((List.range len).map f) (fun h => by cases h) (by rw [hll]; omega) hmem (by
              intro ys hy j hj hj'
              obtain ⟨i, hi, rfl⟩ := List.mem_map.1 hy
              exact ((hf i (List.mem_range.1 hi)).2 j hj' hj).1)
            rw [hll] at this
            exact this
          · rcases Nat.eq_zero_or_pos ((List.range len).map f).flatten.length with h0 | h0
            · refine .pl false _ len none (some a) cap 0 0 (fun _ => undef) rfl (fun h => by cases h) hl (fun k hk => by cases hk) (fun h => by omega) (fun h => by omega) (fun j hj => by omega) (fun j hj => by omega) (fun j hj => by omega) (fun k hk => by cases hk)
            · obtain ⟨b, off, spot⟩ := a
              obtain ⟨_, u0, hu0, _⟩ := cell 0 h0
              have hspot : spot = none := by simpa [Addr.add] using World.cell?_spot hu0
              subst hspot
              have hlt : b < w.heap.size := by
                rcases Nat.lt_or_ge b w.heap.size with h2 | h2
                · exact h2
                · simp [World.cell?, Addr.add, Array.getElem?_eq_none h2] at hu0
              have pk : ∀ q, ∃ u : Value, q < ((List.range len).map f).flatten.length → w.cell? ⟨b, off + q, none⟩ = some u ∧ u.oneCell' = true ∧ ∀ hq : q < ((List.range len).map f).flatten.length, Rp (live w) w (((List.range len).map f).flatten[q]) u := by
                intro q
                by_cases hq : q < ((List.range len).map f).flatten.length
                · obtain ⟨_, u, h1, h2, h3⟩ := cell q hq
                  exact ⟨u, fun _ => ⟨by rw [← add_lit]; exact h1, h2, fun _ => h3⟩⟩
                · exact ⟨undef, fun h => absurd h hq⟩
              obtain ⟨us, hus⟩ : ∃ us : Nat → Value, ∀ q, q < ((List.range len).map f).flatten.length → w.cell? ⟨b, off + q, none⟩ = some (us q) ∧ (us q).oneCell' = true ∧ ∀ hq : q < ((List.range len).map f).flatten.length, Rp (live w) w (((List.range len).map f).flatten[q]) (us q) :=
                ⟨fun q => (pk q).choose, fun q => (pk q).choose_spec⟩
              exact .pl false _ len none (some ⟨b, off, none⟩) cap b off us rfl (fun h => by cases h) hl (fun k hk => by cases hk) (fun _ => rfl) (fun _ => hlt) (fun j hj => (hus j hj).1) (fun j hj => (hus j hj).2.1) (fun j hj => (hus j hj).2.2 hj) (fun k hk => by cases hk)
      · rename_i fs hu
        obtain ⟨xs, m, hm, _, hcl, hxl, hat⟩ := DataW.trod_struct hu h
        cases hm
        have key : ∀ (l : List Field) (o : Nat) (s : List Sh), fieldsSh P (cellsh P n) l o = some s → (∀ f ∈ l, ∃ y, DataW.trod enc P w 0 sp held fuel f.type ((cs.drop f.offset).take (P.cellsOf f.type)) = some y) → Good w s cs o := by
          intro l
          induction l with
          | nil => intro o s hs _; cases hs; exact Good.nil
          | cons f l ihl =>
            intro o s hs hall
            simp only [fieldsSh] at hs
            split at hs
            · rename_i ho
              split at hs
              · rename_i a' ha'
                split at hs
                · rename_i b' hb'
                  cases hs
                  obtain ⟨y, hy⟩ := hall f (by simp)
                  have g1 := ih n f.type _ a' y hy ha'
                  rw [← ho]
                  refine Good.append (g1.sub (by rw [cellsh_len ha']; exact Nat.le_refl _)) ?_
                  rw [ho]
                  exact ihl _ b' hb' fun g hg => hall g (by simp [hg])
                · cases hs
              · cases hs
            · cases hs
        refine key fs.toList 0 s' hs' fun f hf => ?_
        obtain ⟨i, hi⟩ := List.getElem?_of_mem hf
        rw [Array.getElem?_toList] at hi
        have h1 := hat i f hi
        rw [List.getElem?_eq_getElem (by have := (Array.getElem?_eq_some_iff.1 hi).1; omega)] at h1
        exact ⟨_, h1⟩
      · rename_i k e hu
        obtain ⟨es, hes, rfl⟩ := Option.map_eq_some_iff.1 hs'
        have hel := cellsh_len hes
        obtain ⟨xs, m, hm, _, hcl, hxl, hat⟩ := DataW.trod_array hu h
        cases hm
        have key : ∀ (r i0 : Nat), i0 + r = k → Good w (repSh es r) cs (i0 * es.length) := by
          intro r
          induction r with
          | zero => intro i0 _; exact Good.nil
          | succ r ihr =>
            intro i0 hi0
            have h1 := hat i0 (by omega)
            rw [List.getElem?_eq_getElem (by omega), ← hel] at h1
            have g1 := ih n e _ es _ h1 hes
            refine Good.append (g1.sub (Nat.le_refl _)) ?_
            have := ihr (i0 + 1) (by omega)
            rwa [Nat.succ_mul] at this
        have := key k 0 (by omega)
        rwa [Nat.zero_mul] at this
      · cases hs'
    · cases hs

/-- An argument of one cell; an argument of many. -/
def Arg1 (s : Sh) (w : World) (v : Value) : Prop := ∃ x, Fit s x ∧ Rp (live w) w x v
def ArgA (s : List Sh) (w : World) (v : Value) : Prop := ∃ xs : List AV, xs.length = s.length ∧ (∀ j (hj : j < s.length) (hx : j < xs.length), Fit s[j] xs[j]) ∧ Rp (live w) w (.agg xs) v

theorem arg1_of {t : TypeId} {v : Value} {d : DataW H} {ps : List MemPlace} {s : Sh} (n : Nat) (hc : v.cells = #[v]) (h : DataW.Trod enc P w 0 sp held t v d ps) (hs : cellsh P n t = some [s]) : Arg1 s w v := by
  obtain ⟨fuel, hf⟩ := h
  obtain ⟨xs, h1, h2⟩ := good_of fuel n t _ _ _ hf hs
  rw [hc] at h2
  match xs, h1 with
  | [x], _ =>
    obtain ⟨f, u, hu, _, hR⟩ := h2 0 (by simp) (by simp)
    simp at hu
    subst hu
    exact ⟨x, f, hR⟩
theorem argA_of {t : TypeId} {cs : Array Value} {d : DataW H} {ps : List MemPlace} {s : List Sh} (n : Nat) (h : DataW.Trod enc P w 0 sp held t (.agg cs) d ps) (hcs : cs.size = P.cellsOf t) (hs : cellsh P n t = some s) : ArgA s w (.agg cs) := by
  obtain ⟨fuel, hf⟩ := h
  obtain ⟨xs, h1, h2⟩ := good_of fuel n t _ _ _ hf hs
  have hl := cellsh_len hs
  refine ⟨xs, h1, fun j hj hx => (h2 j hj hx).1, .agg xs cs (by omega) (fun j hj => ?_) (fun j hj => ?_)⟩
  · obtain ⟨_, u, hu, h3, _⟩ := h2 j (by omega) hj
    rw [Nat.zero_add] at hu
    have : cs[j]? = some u := by simpa [Value.cells] using hu
    simpa [Array.getD_eq_getD_getElem?, this] using h3
  · obtain ⟨_, u, hu, _, h3⟩ := h2 j (by omega) hj
    rw [Nat.zero_add] at hu
    have : cs[j]? = some u := by simpa [Value.cells] using hu
    simpa [Array.getD_eq_getD_getElem?, this] using h3
end
end Go.Proofs.Va
/- The Dyad laws, from a row's arguments. -/
set_option linter.unusedVariables false
set_option maxRecDepth 20000
set_option linter.unusedSimpArgs false
namespace Go.Proofs.Nt
open Go Go.Proofs Go.Proofs.Va Go.RowKit

theorem fit_list {s : Sh} {β : Type} (g : β → AV) (Q : β → Prop) (h : ∀ x, Fit s x → ∃ b, Q b ∧ x = g b) {x : AV} (hx : Fit (.sl [s]) x) :
    ∃ (nl : Bool) (l : List β), (∀ b ∈ l, Q b) ∧ l.length ≤ maxLen ∧ x = .pl (nl && l.isEmpty) (l.map g) l.length none := by
  cases hx with
  | sl _ nl l hnl hm hlen hf =>
    have key : ∀ l : List (List AV), (∀ ys ∈ l, ys.length = 1) → (∀ ys ∈ l, ∀ j (hj : j < ys.length) (hj' : j < [s].length), Fit [s][j] ys[j]) → ∃ b : List β, (∀ c ∈ b, Q c) ∧ l.flatten = b.map g ∧ b.length = l.length := by
      intro l
      induction l with
      | nil => intro _ _; exact ⟨[], by simp, rfl, rfl⟩
      | cons ys l ih =>
        intro h1 h2
        obtain ⟨b, hb, e1, e2⟩ := ih (fun y hy => h1 y (by simp [hy])) (fun y hy => h2 y (by simp [hy]))
        have hl := h1 ys (by simp)
        match ys, hl with
        | [y], _ =>
          have hfy := h2 [y] (by simp) 0 (by simp) (by simp)
          obtain ⟨c, hc, rfl⟩ := h y hfy
          exact ⟨c :: b, by simpa using ⟨hc, hb⟩, by simp [e1], by simp [e2]⟩
    obtain ⟨b, hb, e1, e2⟩ := key l hlen hf
    refine ⟨nl, b, hb, by omega, ?_⟩
    rw [e1, ← e2]
    cases nl with
    | false => rfl
    | true =>
      have hl0 : b.length = 0 := by rw [e2, hnl rfl]; rfl
      have hb0 : b = [] := List.eq_nil_of_length_eq_zero hl0
      subst hb0; rfl

theorem fit_fls {x : AV} (hx : Fit (.sl [.flt]) x) : ∃ nl l, Fl l ∧ x = fsl nl l none := by
  obtain ⟨nl, l, h1, _, h2⟩ := fit_list fl (fun b => b < 18446744073709551616) (fun x hx => by
    cases hx with
    | flt b h => exact ⟨b, h, rfl⟩) hx
  exact ⟨nl, l, h1, h2⟩

theorem arg_fl {w : World} {v : Value} (h : Arg1 .flt w v) : ∃ b, b < 18446744073709551616 ∧ Rp (live w) w (fl b) v := by
  obtain ⟨x, hx, hR⟩ := h
  cases hx with
  | flt b hb => exact ⟨b, hb, hR⟩
end Go.Proofs.Nt
/- The laws of layer 19 as calls. -/
set_option linter.unusedVariables false
set_option maxRecDepth 20000
namespace Go.Proofs.Nt
open Go Go.Proofs Go.Proofs.Va Go.RowKit

end Go.Proofs.Nt
/- LedgerTells, LedgerNear, LedgerMoves as calls. -/
set_option linter.unusedVariables false
set_option maxRecDepth 20000
namespace Go.Proofs.Nt
open Go Go.Proofs Go.Proofs.Va Go.RowKit

abbrev fabSh : List Sh := [.int .i64, .sl [.flt], .int .i64, .int .i64]
/-- A factor that came in. -/
theorem arg_fab {w : World} {v : Value} (h : ArgA fabSh w v) : ∃ c tn t rows turns, Fl t ∧ Rp (live w) w (.agg [i c, fsl tn t none, i rows, i turns]) v := by
  obtain ⟨xs, h1, h2, h3⟩ := h
  match xs, h1 with
  | [a, b, c, d], _ =>
    have f0 := h2 0 (by simp) (by simp)
    have f1 := h2 1 (by simp) (by simp)
    have f2 := h2 2 (by simp) (by simp)
    have f3 := h2 3 (by simp) (by simp)
    simp only [List.getElem_cons_zero, List.getElem_cons_succ] at f0 f1 f2 f3
    obtain ⟨nl, l, hl, rfl⟩ := fit_fls f1
    cases f0 with
    | int _ a _ =>
      cases f2 with
      | int _ c _ =>
        cases f3 with
        | int _ d _ => exact ⟨a, nl, l, c, d, hl, h3⟩
end Go.Proofs.Nt
/- LedgerJoins as a call. -/
set_option linter.unusedVariables false
set_option maxRecDepth 20000
namespace Go.Proofs.Nt
open Go Go.Proofs Go.Proofs.Va Go.RowKit

theorem ledgerJoins_calls {w : World} {v0 v1 v2 : Value} (h0 : ArgA fabSh w v0) (h1 : ArgA fabSh w v1) (h2 : Arg1 .flt w v2) :
    Calls Tryz.prog 3 #[v0, v1, v2] w fun e w' => e = .returned (.bool true) ∧ Below w.heap.size w w' := by
  obtain ⟨c, tn, t, rows, turns, ht, r0⟩ := arg_fab h0
  obtain ⟨c2, tn2, t2, rows2, turns2, ht2, r1⟩ := arg_fab h1
  obtain ⟨mu, hy, r2⟩ := arg_fl h2
  exact ctr_calls Tryz.func3 rfl (by kernel_rfl) (ljoins_ctr c t tn none rows turns c2 t2 tn2 none rows2 turns2 mu ht ht2 hy) (rpl_three r0 r1 r2)
end Go.Proofs.Nt
