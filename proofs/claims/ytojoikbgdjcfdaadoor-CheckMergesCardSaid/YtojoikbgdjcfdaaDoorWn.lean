import Derived.Test.YtojoikbgdjcfdaaDoorWa
import Derived.Test.YtojoikbgdjcfdaaDoorWb
import Derived.Test.YtojoikbgdjcfdaaDoorWc
import Derived.Test.YtojoikbgdjcfdaaDoorWd
import Derived.Test.YtojoikbgdjcfdaaDoorWe
import Derived.Test.YtojoikbgdjcfdaaDoorWf
import Derived.Test.YtojoikbgdjcfdaaDoorWg
import Derived.Test.YtojoikbgdjcfdaaDoorWh
import Derived.Test.YtojoikbgdjcfdaaDoorWi
import Derived.Test.YtojoikbgdjcfdaaDoorWk
import Derived.Test.YtojoikbgdjcfdaaDoorWl
import Derived.Test.YtojoikbgdjcfdaaDoorWm
import Derived.Test.YtojoikbgdjcfdaaDoorProg
import Derived.WalkKit
import Derived.LaidEql
import Derived.Stop.Asserts
import Derived.RowKitTokens
import Derived.Below
/- errors.As at a target that points to a fault, of an error that wraps a fault: the chain's second link is it. After the worked ToyasAs. -/
set_option linter.unusedVariables false
set_option maxRecDepth 20000
namespace Go.Proofs.Nt
open Go Go.Proofs Go.RowKit Go.Extern.Stop Go.Stop Go.Extern

/-- errors.As(nil, target). -/
theorem as_nil (t : Value) (w : World) :
    Calls Tryd.prog 29 #[.nilIface, t] w fun e w' => e = .returned (.bool false) ∧ w' = w := by
  go_enter Tryd.func29, Tryd.ntmps29
  go_wp2
  go_ret
  exact ⟨rfl, rfl⟩

theorem aq_valueOfT (t : Addr) (w : World) : (ReflectliteValue.unpack (.iface 65 (.pointer (some t)))).run Tryd.prog w
    = .ok (.agg #[.pointer (some ⟨2, 65, none⟩), .pointer (some ⟨w.heap.size, 0, none⟩), .int .u64 150]) (w.alloc (.cells #[.pointer (some t)] 65)) := by kernel_rfl
theorem aq_typeT (a : Addr) (w : World) : (ReflectliteValue.methodAny (ReflectliteValue.valueError "reflectlite.Value.Type" 0) (fun t _ _ _ => ReflectliteType.toType t) #[.agg #[.pointer (some ⟨2, 65, none⟩), .pointer (some a), .int .u64 150]]).run Tryd.prog w
    = .ok (.iface 107 (.agg #[.pointer (some ⟨2, 65, none⟩)])) w := by kernel_rfl
theorem aq_methodKind (h : Value) (w : World) : (Go.method 280 107 (.agg #[h]) "Kind").run Tryd.prog w = .ok (101, h) w := by kernel_rfl
theorem aq_kindT (w : World) : ((ReflectliteType.abiMethod fun t => (fun a : Nat => Value.int IntKind.u8 (a : Int)) <$> Rtype.kind t) #[.pointer (some ⟨2, 65, none⟩)]).run Tryd.prog w = .ok (.int .u8 22) w := by kernel_rfl
theorem aq_kindF (w : World) : ((ReflectliteType.abiMethod fun t => (fun a : Nat => Value.int IntKind.u8 (a : Int)) <$> Rtype.kind t) #[.pointer (some ⟨2, 63, none⟩)]).run Tryd.prog w = .ok (.int .u8 22) w := by kernel_rfl

theorem aq_rlm (z : Sem Value) (f : TypeId → Addr → Nat → Nat → Sem Value) (v : Value) :
    ReflectliteValue.method z f #[v] = (do match ← ReflectliteValue.parts v with | none => z | some (t, a, fl) => f t a fl (fl % 32)) := rfl
theorem aq_partsT (a : Addr) (w : World) : (ReflectliteValue.parts (.agg #[.pointer (some ⟨2, 65, none⟩), .pointer (some a), .int .u64 150])).run Tryd.prog w = .ok (some (65, a, 150)) w := by kernel_rfl
theorem aq_isNilT (a p : Addr) (W : World) (ha : W.cell? a = some (.pointer (some p))) :
    (ReflectliteValue.method (ReflectliteValue.valueError "reflectlite.Value.IsNil" 0) ReflectliteValue.isNil #[.agg #[.pointer (some ⟨2, 65, none⟩), .pointer (some a), .int .u64 150]]).run Tryd.prog W = .ok (.bool false) W := by
  rw [aq_rlm]
  simp only [Sem.run_bind, aq_partsT, Result.andThen]
  simp [ReflectliteValue.isNil, loadVar, isAgg, underlying, Tryd.underlying65, ha, Result.andThen]

theorem aq_methodElem (h : Value) (w : World) : (Go.method 280 107 (.agg #[h]) "Elem").run Tryd.prog w = .ok (113, .agg #[h]) w := by kernel_rfl
theorem aq_methodImplements (h : Value) (w : World) : (Go.method 280 107 (.agg #[h]) "Implements").run Tryd.prog w = .ok (114, .agg #[h]) w := by kernel_rfl
theorem aq_methodAssignableTo (h : Value) (w : World) : (Go.method 280 107 (.agg #[h]) "AssignableTo").run Tryd.prog w = .ok (111, .agg #[h]) w := by kernel_rfl
theorem aq_methodUnwrap (h : Value) (w : World) : (Go.method 280 70 h "Unwrap").run Tryd.prog w = .ok (106, h) w := by kernel_rfl
theorem aq_elemT (w : World) : (ReflectliteType.method ReflectliteType.elem #[.agg #[.pointer (some ⟨2, 65, none⟩)]]).run Tryd.prog w = .ok (.iface 107 (.agg #[.pointer (some ⟨2, 63, none⟩)])) w := by kernel_rfl
theorem aq_implementsF (w : World) : (ReflectliteType.relation "Implements" ReflectliteType.implements_ #[.agg #[.pointer (some ⟨2, 63, none⟩)], .iface 107 (.agg #[.pointer (some ⟨2, 53, none⟩)])]).run Tryd.prog w = .ok (.bool true) w := by kernel_rfl
theorem aq_typeOfF (v : Value) (w : World) : (ReflectliteType.typeOf #[.iface 63 v]).run Tryd.prog w = .ok (.iface 107 (.agg #[.pointer (some ⟨2, 63, none⟩)])) w := by kernel_rfl
theorem aq_typeOfA (v : Value) (w : World) : (ReflectliteType.typeOf #[.iface 70 v]).run Tryd.prog w = .ok (.iface 107 (.agg #[.pointer (some ⟨2, 70, none⟩)])) w := by kernel_rfl
theorem aq_assignableF (w : World) : (ReflectliteType.relation "AssignableTo" ReflectliteType.assignableTo #[.agg #[.pointer (some ⟨2, 63, none⟩)], .iface 107 (.agg #[.pointer (some ⟨2, 63, none⟩)])]).run Tryd.prog w = .ok (.bool true) w := by kernel_rfl
theorem aq_assignableA (w : World) : (ReflectliteType.relation "AssignableTo" ReflectliteType.assignableTo #[.agg #[.pointer (some ⟨2, 70, none⟩)], .iface 107 (.agg #[.pointer (some ⟨2, 63, none⟩)])]).run Tryd.prog w = .ok (.bool false) w := by kernel_rfl
theorem aq_noAs (v : Value) (xT : TypeId) (w : World) : (Instr.typeAssert (.iface 70 v) xT 112 true).run Tryd.prog w = .ok (.tuple #[.nilIface, .bool false]) w :=
  run_typeAssert_lacksB Tryd.underlying112 (by kernel_rfl) (by kernel_rfl) v xT w
theorem aq_hasUnwrap (v : Value) (xT : TypeId) (w : World) : (Instr.typeAssert (.iface 70 v) xT 115 true).run Tryd.prog w = .ok (.tuple #[.iface 70 v, .bool true]) w :=
  run_typeAssert_hasB Tryd.underlying115 (by kernel_rfl) v xT w
theorem aq_valueOfF (e : Addr) (w : World) : (ReflectliteValue.unpack (.iface 63 (.pointer (some e)))).run Tryd.prog w
    = .ok (.agg #[.pointer (some ⟨2, 63, none⟩), .pointer (some ⟨w.heap.size, 0, none⟩), .int .u64 150]) (w.alloc (.cells #[.pointer (some e)] 63)) := by kernel_rfl
theorem aq_elemOfT (w : World) : (Rtype.elem? 65).run Tryd.prog w = .ok (some 63) w := by kernel_rfl
theorem aq_mkF (p : Addr) (w : World) : (ReflectliteValue.mk 63 p ReflectliteValue.flagAddr).run Tryd.prog w = .ok (.agg #[.pointer (some ⟨2, 63, none⟩), .pointer (some p), .int .u64 406]) w := by kernel_rfl
theorem aq_elemVT (a p : Addr) (W : World) (ha : W.cell? a = some (.pointer (some p))) :
    (ReflectliteValue.method (ReflectliteValue.valueError "reflectlite.Value.Elem" 0) ReflectliteValue.elem #[.agg #[.pointer (some ⟨2, 65, none⟩), .pointer (some a), .int .u64 150]]).run Tryd.prog W
      = .ok (.agg #[.pointer (some ⟨2, 63, none⟩), .pointer (some p), .int .u64 406]) W := by
  rw [aq_rlm]
  simp only [Sem.run_bind, aq_partsT, Result.andThen]
  simp [ReflectliteValue.elem, loadVar, isAgg, underlying, Tryd.underlying65, ha, Result.andThen, aq_elemOfT, aq_mkF]
theorem aq_rls (v x : Value) : ReflectliteValue.set #[v, x] = (do
    let (some (dst, a, fl), some (src, b, _)) := (← ReflectliteValue.parts v, ← ReflectliteValue.parts x)
      | unsupported (.noEntry "extern/(internal/reflectlite.Value).Set.zeroValue")
    if fl / ReflectliteValue.flagAddr % 2 == 0 then unsupported (.noEntry "extern/(internal/reflectlite.Value).Set.unaddressable")
    let val ← loadVar src b
    if ← Rtype.directlyAssignable dst src then storeVar dst a val
    else if ← Rtype.implements dst src then
      if (← Rtype.kind src) == 20 then
        match val with
        | .nilIface => unsupported (.noEntry "extern/reflectlite: a nil value of one interface type handed on as a value of another")
        | _ => storeVar dst a val
      else storeVar dst a (.iface src val)
    else panicString ("reflectlite.Set: value of type " ++ (← Rtype.spelt src) ++ " is not assignable to type " ++ (← Rtype.spelt dst))
    pure (.tuple #[])) := rfl
theorem aq_partsFa (a : Addr) (w : World) : (ReflectliteValue.parts (.agg #[.pointer (some ⟨2, 63, none⟩), .pointer (some a), .int .u64 406])).run Tryd.prog w = .ok (some (63, a, 406)) w := by kernel_rfl
theorem aq_partsF (a : Addr) (w : World) : (ReflectliteValue.parts (.agg #[.pointer (some ⟨2, 63, none⟩), .pointer (some a), .int .u64 150])).run Tryd.prog w = .ok (some (63, a, 150)) w := by kernel_rfl
theorem aq_directF (w : World) : (Rtype.directlyAssignable 63 63).run Tryd.prog w = .ok true w := by kernel_rfl
theorem aq_sizeF (w : World) : (sizeOf 63).run Tryd.prog w = .ok 1 w := by kernel_rfl
theorem aq_setF (ta b e : Addr) (old : Value) (W : World) (hb : W.cell? b = some (.pointer (some e))) (ht : W.cell? ta = some old) (hf : W.frozen? ta = false) :
    (ReflectliteValue.set #[.agg #[.pointer (some ⟨2, 63, none⟩), .pointer (some ta), .int .u64 406], .agg #[.pointer (some ⟨2, 63, none⟩), .pointer (some b), .int .u64 150]]).run Tryd.prog W
      = .ok (.tuple #[]) (W.setCell ta (.pointer (some e))) := by
  rw [aq_rls]
  simp only [Sem.run_bind, aq_partsFa, aq_partsF, Result.andThen]
  simp [ReflectliteValue.flagAddr, loadVar, isAgg, underlying, Tryd.underlying63, hb, Result.andThen, aq_directF, storeVar, Value.cells, storeCells, Addr.add]
  rw [run_store Tryd.prog W ta _ _ (by rfl)]
  simp [ht, hf]

set_option maxHeartbeats 4000000 in
theorem as_hit (ab ao : Nat) (e t : Addr) (k old : Value) (w : World) (hg : w.cell? ⟨0, 0, none⟩ = some (.iface 107 (.agg #[.pointer (some ⟨2, 53, none⟩)]))) (ht0 : w.cell? t = some old) (hf0 : w.frozen? t = false)
    (ha0 : w.cell? ⟨ab, ao, none⟩ = some k) (ha1 : w.cell? ⟨ab, ao + 1, none⟩ = some (.iface 63 (.pointer (some e)))) :
    Calls Tryd.prog 29 #[.iface 70 (.pointer (some ⟨ab, ao, none⟩)), .iface 65 (.pointer (some t))] w fun ev w' => ev = .returned (.bool true) ∧ w' = ((((w.alloc (.cells #[.pointer (some t)] 65)).alloc (.cells #[.pointer (some ⟨2, 65, none⟩), .pointer (some ⟨w.heap.size, 0, none⟩), .int .u64 150] 85)).alloc (.cells #[.pointer (some ⟨2, 65, none⟩), .pointer (some ⟨w.heap.size, 0, none⟩), .int .u64 150] 85)).alloc (.cells #[.pointer (some e)] 63)).setCell t (.pointer (some e)) := by
  have h6 := @run_callFunc_extern Tryd.prog 42 _ (fun args => ReflectliteValue.unpack (args.getD 0 (.tuple #[]))) Tryd.func42 (by kernel_rfl) (by kernel_rfl) (by kernel_rfl) (by kernel_rfl)
  have h7 := @run_callFunc_extern Tryd.prog 43 _ (ReflectliteValue.methodAny (ReflectliteValue.valueError "reflectlite.Value.Type" 0) (fun t _ _ _ => ReflectliteType.toType t)) Tryd.func43 (by kernel_rfl) (by kernel_rfl) (by kernel_rfl) (by kernel_rfl)
  have h8 := @run_callFunc_extern Tryd.prog 44 _ (ReflectliteValue.method (ReflectliteValue.valueError "reflectlite.Value.IsNil" 0) ReflectliteValue.isNil) Tryd.func44 (by kernel_rfl) (by kernel_rfl) (by kernel_rfl) (by kernel_rfl)
  have h27 := @run_callFunc_extern Tryd.prog 101 _ (ReflectliteType.abiMethod fun t => do pure (.int .u8 (← Rtype.kind t))) Tryd.func101 (by kernel_rfl) (by kernel_rfl) (by kernel_rfl) (by kernel_rfl)
  have h37 := @run_callFunc_extern Tryd.prog 113 _ (ReflectliteType.method ReflectliteType.elem) Tryd.func113 (by kernel_rfl) (by kernel_rfl) (by kernel_rfl) (by kernel_rfl)
  have h38 := @run_callFunc_extern Tryd.prog 114 _ (ReflectliteType.relation "Implements" ReflectliteType.implements_) Tryd.func114 (by kernel_rfl) (by kernel_rfl) (by kernel_rfl) (by kernel_rfl)
  have h10 := @run_callFunc_extern Tryd.prog 57 _ ReflectliteType.typeOf Tryd.func57 (by kernel_rfl) (by kernel_rfl) (by kernel_rfl) (by kernel_rfl)
  have h35 := @run_callFunc_extern Tryd.prog 111 _ (ReflectliteType.relation "AssignableTo" ReflectliteType.assignableTo) Tryd.func111 (by kernel_rfl) (by kernel_rfl) (by kernel_rfl) (by kernel_rfl)
  have h11 := @run_callFunc_extern Tryd.prog 58 _ (ReflectliteValue.method (ReflectliteValue.valueError "reflectlite.Value.Elem" 0) ReflectliteValue.elem) Tryd.func58 (by kernel_rfl) (by kernel_rfl) (by kernel_rfl) (by kernel_rfl)
  have h12 := @run_callFunc_extern Tryd.prog 59 _ ReflectliteValue.set Tryd.func59 (by kernel_rfl) (by kernel_rfl) (by kernel_rfl) (by kernel_rfl)
  have tO := aq_typeOfF
  have tA := aq_typeOfA
  have mA := aq_methodAssignableTo
  have mU := aq_methodUnwrap
  have aF := aq_assignableF
  have aA := aq_assignableA
  have nA := aq_noAs
  have hU := aq_hasUnwrap
  have vF := aq_valueOfF
  have f6 := aq_valueOfT
  have f7 := aq_typeT
  have mK := aq_methodKind
  have mE := aq_methodElem
  have mI := aq_methodImplements
  have kT := aq_kindT
  have kF := aq_kindF
  have eT := aq_elemT
  have iF := aq_implementsF
  have n8 := aq_isNilT ⟨w.heap.size, 0, none⟩ t ((w.alloc (.cells #[.pointer (some t)] 65)).alloc (.cells #[.pointer (some ⟨2, 65, none⟩), .pointer (some ⟨w.heap.size, 0, none⟩), .int .u64 150] 85)) (by simp)
  have hlt : 0 < w.heap.size := by
    rcases Nat.eq_zero_or_pos w.heap.size with h0 | h
    · simp [World.cell?, h0] at hg
    · exact h
  have hg2 : ((w.alloc (.cells #[.pointer (some t)] 65)).alloc (.cells #[.pointer (some ⟨2, 65, none⟩), .pointer (some ⟨w.heap.size, 0, none⟩), .int .u64 150] 85)).cell? ⟨0, 0, none⟩ = some (.iface 107 (.agg #[.pointer (some ⟨2, 53, none⟩)])) := by
    rw [World.cell?_alloc_lt _ _ ⟨0, 0, none⟩ (by simp), World.cell?_alloc_lt _ _ ⟨0, 0, none⟩ hlt]; exact hg
  have htl : t.block < w.heap.size := by
    rcases Nat.lt_or_ge t.block w.heap.size with h | h
    · exact h
    · simp [World.cell?, Array.getElem?_eq_none h] at ht0
  have el := aq_elemVT ⟨w.heap.size, 0, none⟩ t (((w.alloc (.cells #[.pointer (some t)] 65)).alloc (.cells #[.pointer (some ⟨2, 65, none⟩), .pointer (some ⟨w.heap.size, 0, none⟩), .int .u64 150] 85)).alloc (.cells #[.pointer (some ⟨2, 65, none⟩), .pointer (some ⟨w.heap.size, 0, none⟩), .int .u64 150] 85)) (by rw [World.cell?_alloc_lt _ _ ⟨w.heap.size, 0, none⟩ (by simp; omega)]; simp)
  have st := aq_setF t ⟨w.heap.size + 1 + 1 + 1, 0, none⟩ e old ((((w.alloc (.cells #[.pointer (some t)] 65)).alloc (.cells #[.pointer (some ⟨2, 65, none⟩), .pointer (some ⟨w.heap.size, 0, none⟩), .int .u64 150] 85)).alloc (.cells #[.pointer (some ⟨2, 65, none⟩), .pointer (some ⟨w.heap.size, 0, none⟩), .int .u64 150] 85)).alloc (.cells #[.pointer (some e)] 63))
    (by rw [World.cell?_alloc_at _ _ _ _ (by simp)]; rfl)
    (by rw [World.cell?_alloc_lt _ _ t (by simp; omega), World.cell?_alloc_lt _ _ t (by simp; omega), World.cell?_alloc_lt _ _ t (by simp; omega), World.cell?_alloc_lt _ _ t htl]; exact ht0)
    (by rw [World.frozen?_alloc_old _ _ t (by simp; omega), World.frozen?_alloc_old _ _ t (by simp; omega), World.frozen?_alloc_old _ _ t (by simp; omega), World.frozen?_alloc_old _ _ t (Nat.ne_of_lt htl)]; exact hf0)
  have hal : ab < w.heap.size := by
    rcases Nat.lt_or_ge ab w.heap.size with h | h
    · exact h
    · simp [World.cell?, Array.getElem?_eq_none h] at ha0
  have ha3 : (((w.alloc (.cells #[.pointer (some t)] 65)).alloc (.cells #[.pointer (some ⟨2, 65, none⟩), .pointer (some ⟨w.heap.size, 0, none⟩), .int .u64 150] 85)).alloc (.cells #[.pointer (some ⟨2, 65, none⟩), .pointer (some ⟨w.heap.size, 0, none⟩), .int .u64 150] 85)).cell? ⟨ab, ao + 1, none⟩ = some (.iface 63 (.pointer (some e))) := by
    rw [World.cell?_alloc_lt _ _ ⟨ab, ao + 1, none⟩ (by simp; omega), World.cell?_alloc_lt _ _ ⟨ab, ao + 1, none⟩ (by simp; omega), World.cell?_alloc_lt _ _ ⟨ab, ao + 1, none⟩ hal]; exact ha1
  go_enter Tryd.func29, Tryd.ntmps29
  go_wp2
  refine wp_loop_rounds 2 ?_
  rw [rounds_succ]
  go_wp2
  rw [rounds_succ]
  go_wp2
  go_ret
  exact ⟨rfl, rfl⟩
end Go.Proofs.Nt
/- An error's number: check.code, at nil and at a fault that is wrapped. -/
set_option linter.unusedVariables false
set_option maxRecDepth 20000
set_option linter.unusedSimpArgs false
namespace Go.Proofs.Nt
open Go Go.Proofs Go.RowKit Go.Extern.Stop Go.Stop Go.Extern Go.Proofs.Va

theorem code_nil (w : World) : Calls Tryd.prog 20 #[.nilIface] w fun e w' => e = .returned (.int .i64 0) ∧ w' = w.alloc (.cells #[.pointer none] 63) := by
  go_enter Tryd.func20, Tryd.ntmps20
  go_wp2_with (first | (go_at_call 29; refine (as_nil _ _).mono ?_; rintro e w' ⟨rfl, rfl⟩))
  go_ret
  exact ⟨rfl, rfl⟩

set_option maxHeartbeats 1000000 in
theorem code_hit (ab ao : Nat) (e : Addr) (k : Value) (n : Int) (w : World) (hg : w.cell? ⟨0, 0, none⟩ = some (.iface 107 (.agg #[.pointer (some ⟨2, 53, none⟩)])))
    (ha0 : w.cell? ⟨ab, ao, none⟩ = some k) (ha1 : w.cell? ⟨ab, ao + 1, none⟩ = some (.iface 63 (.pointer (some e)))) (he : w.cell? e = some (.int .i64 n)) :
    Calls Tryd.prog 20 #[.iface 70 (.pointer (some ⟨ab, ao, none⟩))] w fun ev w' => ev = .returned (.int .i64 n) ∧ Below w.heap.size w w' := by
  have lt' : ∀ (w : World) (a : Addr) v, w.cell? a = some v → a.block < w.heap.size := by
    intro w a v h
    rcases Nat.lt_or_ge a.block w.heap.size with h1 | h1
    · exact h1
    · simp [World.cell?, Array.getElem?_eq_none h1] at h
  have lt := lt' w
  have k1 : ∀ (x : World) (o : Obj) (a : Addr) v, x.cell? a = some v → (x.alloc o).cell? a = some v := fun x o a v h => by rw [World.cell?_alloc_lt _ _ a (lt' _ _ _ h)]; exact h
  have k4 : ∀ {x : World} (o1 o2 o3 o4 : Obj) (a : Addr) v, x.cell? a = some v → ((((x.alloc o1).alloc o2).alloc o3).alloc o4).cell? a = some v := fun o1 o2 o3 o4 a v h => k1 _ _ _ _ (k1 _ _ _ _ (k1 _ _ _ _ (k1 _ _ _ _ h)))
  have hgA : (w.alloc (.cells #[.pointer none] 63)).cell? ⟨0, 0, none⟩ = some (.iface 107 (.agg #[.pointer (some ⟨2, 53, none⟩)])) := by
    rw [World.cell?_alloc_lt _ _ ⟨0, 0, none⟩ (lt _ _ hg)]; exact hg
  have htA : (w.alloc (.cells #[.pointer none] 63)).cell? ⟨w.heap.size, 0, none⟩ = some (.pointer none) := by simp
  have hfA : (w.alloc (.cells #[.pointer none] 63)).frozen? ⟨w.heap.size, 0, none⟩ = false := by simp
  have ha0A : (w.alloc (.cells #[.pointer none] 63)).cell? ⟨ab, ao, none⟩ = some k := by rw [World.cell?_alloc_lt _ _ ⟨ab, ao, none⟩ (lt _ _ ha0)]; exact ha0
  have ha1A : (w.alloc (.cells #[.pointer none] 63)).cell? ⟨ab, ao + 1, none⟩ = some (.iface 63 (.pointer (some e))) := by rw [World.cell?_alloc_lt _ _ ⟨ab, ao + 1, none⟩ (lt _ _ ha1)]; exact ha1
  have heA : (w.alloc (.cells #[.pointer none] 63)).cell? e = some (.int .i64 n) := by rw [World.cell?_alloc_lt _ _ e (lt _ _ he)]; exact he
  have hB : Below w.heap.size w (w.alloc (.cells #[.pointer none] 63)) := (Below.refl _ _).alloc (Nat.le_refl _) _
  have hel := lt _ _ he
  have hit := as_hit ab ao e ⟨w.heap.size, 0, none⟩ k (.pointer none) _ hgA htA hfA ha0A ha1A
  have hit2 : Calls Tryd.prog 29 #[.iface 70 (.pointer (some ⟨ab, ao, none⟩)), .iface 65 (.pointer (some ⟨w.heap.size, 0, none⟩))] (w.alloc (.cells #[.pointer none] 63)) fun ev w' => ev = .returned (.bool true) ∧
      w'.cell? ⟨w.heap.size, 0, none⟩ = some (.pointer (some e)) ∧ w'.cell? e = some (.int .i64 n) ∧ Below w.heap.size w w' := by
    refine hit.mono ?_
    rintro ev w' ⟨rfl, rfl⟩
    refine ⟨rfl, World.cell?_setCell_same _ _ _ (k4 _ _ _ _ _ _ htA), ?_, ?_⟩
    · rw [World.cell?_setCell_other _ _ _ _ (by intro h; rw [← h] at hel; exact Nat.lt_irrefl _ hel)]
      exact k4 _ _ _ _ _ _ heA
    · have a : ∀ {x : World} (o : Obj), Below w.heap.size w x → Below w.heap.size w (x.alloc o) := fun {x} o h => h.alloc h.size o
      exact (a _ (a _ (a _ (a _ (a _ (Below.refl _ _)))))).setCell (Nat.le_refl _) _
  clear hit k4 k1 lt lt' hB hel hgA htA hfA ha0A ha1A heA
  go_enter Tryd.func20, Tryd.ntmps20
  go_wp2_with (first | (go_at_call 29; refine hit2.mono ?_; rintro e w' ⟨rfl, c1, c2, hb⟩))
  go_ret
  exact ⟨rfl, hb⟩

theorem enter_run {P : Program} {g : FuncId} {fn : Func} {c : Code} (hf : P.funcs[g]? = some fn) (hb : fn.body = some c) (hname : (fn.name == "runtime.NumGoroutine") = false) (vs : Array Value) (w : World) : (callFunc g vs).run P w = .ok (.enter g vs) w := by
  have hname' : ¬ fn.name = "runtime.NumGoroutine" := by simpa using hname
  simp [callFunc, hf, hname', hb]
theorem rpl_get {fz : Nat → Prop} {w : World} {x : AV} {vs : Array Value} (h : RpL fz w [x] vs) : ∃ v, vs = #[v] ∧ Rp fz w x v := by
  obtain ⟨h1, h2⟩ := h
  have hs : vs.size = 1 := h1
  refine ⟨vs.getD 0 undef, ?_, h2 0 (by simp)⟩
  apply Array.ext (by simp [hs])
  intro i hi _
  have : i = 0 := by omega
  subst this
  simp [hs]
theorem glob_err {fz : Nat → Prop} {w : World} (h : FzLt fz w) : w.cell? ⟨0, 0, none⟩ = some (.iface 107 (.agg #[.pointer (some ⟨2, 53, none⟩)])) := (h.gl _ (List.mem_cons_self ..)).2

theorem code_nil_ctr : Ctr Tryd.prog 20 [.v .nilIface] (fun r => r = i 0) := by
  intro fz w vs hf hr
  obtain ⟨v, rfl, hv⟩ := rpl_get hr
  cases hv
  refine .inl ⟨?_, ?_⟩
  · exact enter_run Tryd.func20 rfl (by kernel_rfl) _ _
  · refine (code_nil w).mono ?_
    rintro e w' ⟨rfl, rfl⟩
    exact ⟨_, i 0, fz, rfl, rfl, .v _, (Below.refl _ _).alloc (Nat.le_refl _) _, fun _ h => h, fun k h => by have := hf k h; simp; omega, fun k h => .inl h⟩
theorem code_hit_ctr (k n : Int) : Ctr Tryd.prog 20 [.ifc 70 (.pp [i k, .ifc 63 (.pp [i n] 0)] 0)] (fun r => r = i n) := by
  intro fz w vs hf hr
  obtain ⟨v, rfl, hv⟩ := rpl_get hr
  cases hv with
  | ifc _ _ u hu =>
  cases hu with
  | pp _ _ b o us hfz hcell h1 hR =>
  have e0 := hcell 0 (by simp)
  have e1 := hcell 1 (by simp)
  have r0 := hR 0 (by simp)
  have r1 := hR 1 (by simp)
  generalize us 0 = u0 at *
  generalize us 1 = u1 at *
  cases r0
  cases r1 with
  | ifc _ _ u hu =>
  cases hu with
  | pp _ _ b' o' us' hfz' hcell' h1' hR' =>
  have f0 := hcell' 0 (by simp)
  have s0 := hR' 0 (by simp)
  generalize us' 0 = u0' at *
  cases s0
  refine .inl ⟨?_, ?_⟩
  · exact enter_run Tryd.func20 rfl (by kernel_rfl) _ _
  · refine (code_hit b o ⟨b', o', none⟩ (.int .i64 k) n w (glob_err hf) e0 e1 f0).mono ?_
    rintro e w' ⟨rfl, hb⟩
    exact ⟨_, i n, fz, rfl, rfl, .v _, hb, fun _ h => h, fun k h => Nat.lt_of_lt_of_le (hf k h) hb.size, fun k h => .inl h⟩
end Go.Proofs.Nt
