import Derived.Test.YtojoikbgdjcfdaaGreatDoorWa
import Derived.Test.YtojoikbgdjcfdaaGreatDoorWb
import Derived.Test.YtojoikbgdjcfdaaGreatDoorWc
import Derived.Test.YtojoikbgdjcfdaaGreatDoorWd
import Derived.Test.YtojoikbgdjcfdaaGreatDoorWe
import Derived.Test.YtojoikbgdjcfdaaGreatDoorWf
import Derived.Test.YtojoikbgdjcfdaaGreatDoorWg
import Derived.Test.YtojoikbgdjcfdaaGreatDoorWh
import Derived.Test.YtojoikbgdjcfdaaGreatDoorWi
import Derived.Test.YtojoikbgdjcfdaaGreatDoorWk
import Derived.Test.YtojoikbgdjcfdaaGreatDoorWl
import Derived.Test.YtojoikbgdjcfdaaGreatDoorWm
import Derived.Test.YtojoikbgdjcfdaaGreatDoorProg
import Derived.WalkKit
import Derived.LaidEql
import Derived.Stop.Asserts
import Derived.RowKitTokens
import Derived.Below
/- errors.As at a target that points to a fault, of an error that wraps a fault: the chain's second link is it. After the worked ToyasAs. -/
set_option linter.unusedVariables false
set_option maxRecDepth 20000
namespace Go.Proofs.Nt
open Go Go.Proofs Go.RowKit Go.Extern.Stop Go.Stop Go.Extern

/-- errors.As(nil, target). -/
theorem as_nil (t : Value) (w : World) :
    Calls Tryz.prog 35 #[.nilIface, t] w fun e w' => e = .returned (.bool false) ∧ w' = w := by
  go_enter Tryz.func35, Tryz.ntmps35
  go_wp2
  go_ret
  exact ⟨rfl, rfl⟩

theorem aq_valueOfT (t : Addr) (w : World) : (ReflectliteValue.unpack (.iface 63 (.pointer (some t)))).run Tryz.prog w
    = .ok (.agg #[.pointer (some ⟨2, 63, none⟩), .pointer (some ⟨w.heap.size, 0, none⟩), .int .u64 150]) (w.alloc (.cells #[.pointer (some t)] 63)) := by kernel_rfl
theorem aq_typeT (a : Addr) (w : World) : (ReflectliteValue.methodAny (ReflectliteValue.valueError "reflectlite.Value.Type" 0) (fun t _ _ _ => ReflectliteType.toType t) #[.agg #[.pointer (some ⟨2, 63, none⟩), .pointer (some a), .int .u64 150]]).run Tryz.prog w
    = .ok (.iface 111 (.agg #[.pointer (some ⟨2, 63, none⟩)])) w := by kernel_rfl
theorem aq_methodKind (h : Value) (w : World) : (Go.method 283 111 (.agg #[h]) "Kind").run Tryz.prog w = .ok (116, h) w := by kernel_rfl
theorem aq_kindT (w : World) : ((ReflectliteType.abiMethod fun t => (fun a : Nat => Value.int IntKind.u8 (a : Int)) <$> Rtype.kind t) #[.pointer (some ⟨2, 63, none⟩)]).run Tryz.prog w = .ok (.int .u8 22) w := by kernel_rfl
theorem aq_kindF (w : World) : ((ReflectliteType.abiMethod fun t => (fun a : Nat => Value.int IntKind.u8 (a : Int)) <$> Rtype.kind t) #[.pointer (some ⟨2, 61, none⟩)]).run Tryz.prog w = .ok (.int .u8 22) w := by kernel_rfl

theorem aq_rlm (z : Sem Value) (f : TypeId → Addr → Nat → Nat → Sem Value) (v : Value) :
    ReflectliteValue.method z f #[v] = (do match ← ReflectliteValue.parts v with | none => z | some (t, a, fl) => f t a fl (fl % 32)) := rfl
theorem aq_partsT (a : Addr) (w : World) : (ReflectliteValue.parts (.agg #[.pointer (some ⟨2, 63, none⟩), .pointer (some a), .int .u64 150])).run Tryz.prog w = .ok (some (63, a, 150)) w := by kernel_rfl
theorem aq_isNilT (a p : Addr) (W : World) (ha : W.cell? a = some (.pointer (some p))) :
    (ReflectliteValue.method (ReflectliteValue.valueError "reflectlite.Value.IsNil" 0) ReflectliteValue.isNil #[.agg #[.pointer (some ⟨2, 63, none⟩), .pointer (some a), .int .u64 150]]).run Tryz.prog W = .ok (.bool false) W := by
  rw [aq_rlm]
  simp only [Sem.run_bind, aq_partsT, Result.andThen]
  simp [ReflectliteValue.isNil, loadVar, isAgg, underlying, Tryz.underlying63, ha, Result.andThen]

theorem aq_methodElem (h : Value) (w : World) : (Go.method 283 111 (.agg #[h]) "Elem").run Tryz.prog w = .ok (128, .agg #[h]) w := by kernel_rfl
theorem aq_methodImplements (h : Value) (w : World) : (Go.method 283 111 (.agg #[h]) "Implements").run Tryz.prog w = .ok (129, .agg #[h]) w := by kernel_rfl
theorem aq_methodAssignableTo (h : Value) (w : World) : (Go.method 283 111 (.agg #[h]) "AssignableTo").run Tryz.prog w = .ok (126, .agg #[h]) w := by kernel_rfl
theorem aq_methodUnwrap (h : Value) (w : World) : (Go.method 283 68 h "Unwrap").run Tryz.prog w = .ok (121, h) w := by kernel_rfl
theorem aq_elemT (w : World) : (ReflectliteType.method ReflectliteType.elem #[.agg #[.pointer (some ⟨2, 63, none⟩)]]).run Tryz.prog w = .ok (.iface 111 (.agg #[.pointer (some ⟨2, 61, none⟩)])) w := by kernel_rfl
theorem aq_implementsF (w : World) : (ReflectliteType.relation "Implements" ReflectliteType.implements_ #[.agg #[.pointer (some ⟨2, 61, none⟩)], .iface 111 (.agg #[.pointer (some ⟨2, 49, none⟩)])]).run Tryz.prog w = .ok (.bool true) w := by kernel_rfl
theorem aq_typeOfF (v : Value) (w : World) : (ReflectliteType.typeOf #[.iface 61 v]).run Tryz.prog w = .ok (.iface 111 (.agg #[.pointer (some ⟨2, 61, none⟩)])) w := by kernel_rfl
theorem aq_typeOfA (v : Value) (w : World) : (ReflectliteType.typeOf #[.iface 68 v]).run Tryz.prog w = .ok (.iface 111 (.agg #[.pointer (some ⟨2, 68, none⟩)])) w := by kernel_rfl
theorem aq_assignableF (w : World) : (ReflectliteType.relation "AssignableTo" ReflectliteType.assignableTo #[.agg #[.pointer (some ⟨2, 61, none⟩)], .iface 111 (.agg #[.pointer (some ⟨2, 61, none⟩)])]).run Tryz.prog w = .ok (.bool true) w := by kernel_rfl
theorem aq_assignableA (w : World) : (ReflectliteType.relation "AssignableTo" ReflectliteType.assignableTo #[.agg #[.pointer (some ⟨2, 68, none⟩)], .iface 111 (.agg #[.pointer (some ⟨2, 61, none⟩)])]).run Tryz.prog w = .ok (.bool false) w := by kernel_rfl
theorem aq_noAs (v : Value) (xT : TypeId) (w : World) : (Instr.typeAssert (.iface 68 v) xT 116 true).run Tryz.prog w = .ok (.tuple #[.nilIface, .bool false]) w :=
  run_typeAssert_lacksB Tryz.underlying116 (by kernel_rfl) (by kernel_rfl) v xT w
theorem aq_hasUnwrap (v : Value) (xT : TypeId) (w : World) : (Instr.typeAssert (.iface 68 v) xT 119 true).run Tryz.prog w = .ok (.tuple #[.iface 68 v, .bool true]) w :=
  run_typeAssert_hasB Tryz.underlying119 (by kernel_rfl) v xT w
theorem aq_valueOfF (e : Addr) (w : World) : (ReflectliteValue.unpack (.iface 61 (.pointer (some e)))).run Tryz.prog w
    = .ok (.agg #[.pointer (some ⟨2, 61, none⟩), .pointer (some ⟨w.heap.size, 0, none⟩), .int .u64 150]) (w.alloc (.cells #[.pointer (some e)] 61)) := by kernel_rfl
theorem aq_elemOfT (w : World) : (Rtype.elem? 63).run Tryz.prog w = .ok (some 61) w := by kernel_rfl
theorem aq_mkF (p : Addr) (w : World) : (ReflectliteValue.mk 61 p ReflectliteValue.flagAddr).run Tryz.prog w = .ok (.agg #[.pointer (some ⟨2, 61, none⟩), .pointer (some p), .int .u64 406]) w := by kernel_rfl
theorem aq_elemVT (a p : Addr) (W : World) (ha : W.cell? a = some (.pointer (some p))) :
    (ReflectliteValue.method (ReflectliteValue.valueError "reflectlite.Value.Elem" 0) ReflectliteValue.elem #[.agg #[.pointer (some ⟨2, 63, none⟩), .pointer (some a), .int .u64 150]]).run Tryz.prog W
      = .ok (.agg #[.pointer (some ⟨2, 61, none⟩), .pointer (some p), .int .u64 406]) W := by
  rw [aq_rlm]
  simp only [Sem.run_bind, aq_partsT, Result.andThen]
  simp [ReflectliteValue.elem, loadVar, isAgg, underlying, Tryz.underlying63, ha, Result.andThen, aq_elemOfT, aq_mkF]
theorem aq_rls (v x : Value) : ReflectliteValue.set #[v, x] = (do
    let (some (dst, a, fl), some (src, b, _)) := (← ReflectliteValue.parts v, ← ReflectliteValue.parts x)
      | unsupported (.noEntry "extern/(internal/reflectlite.Value).Set.zeroValue")
    if fl / ReflectliteValue.flagAddr % 2 == 0 then unsupported (.noEntry "extern/(internal/reflectlite.Value).Set.unaddressable")
    let val ← loadVar src b
    if ← Rtype.directlyAssignable dst src then storeVar dst a val
    else if ← Rtype.implements dst src then
      if (← Rtype.kind src) == 20 then
        match val with
        | .nilIface => unsupported (.noEntry "extern/reflectlite: a nil value of one interface type handed on as a value of another")
        | _ => storeVar dst a val
      else storeVar dst a (.iface src val)
    else panicString ("reflectlite.Set: value of type " ++ (← Rtype.spelt src) ++ " is not assignable to type " ++ (← Rtype.spelt dst))
    pure (.tuple #[])) := rfl
theorem aq_partsFa (a : Addr) (w : World) : (ReflectliteValue.parts (.agg #[.pointer (some ⟨2, 61, none⟩), .pointer (some a), .int .u64 406])).run Tryz.prog w = .ok (some (61, a, 406)) w := by kernel_rfl
theorem aq_partsF (a : Addr) (w : World) : (ReflectliteValue.parts (.agg #[.pointer (some ⟨2, 61, none⟩), .pointer (some a), .int .u64 150])).run Tryz.prog w = .ok (some (61, a, 150)) w := by kernel_rfl
theorem aq_directF (w : World) : (Rtype.directlyAssignable 61 61).run Tryz.prog w = .ok true w := by kernel_rfl
theorem aq_sizeF (w : World) : (sizeOf 61).run Tryz.prog w = .ok 1 w := by kernel_rfl
theorem aq_setF (ta b e : Addr) (old : Value) (W : World) (hb : W.cell? b = some (.pointer (some e))) (ht : W.cell? ta = some old) (hf : W.frozen? ta = false) :
    (ReflectliteValue.set #[.agg #[.pointer (some ⟨2, 61, none⟩), .pointer (some ta), .int .u64 406], .agg #[.pointer (some ⟨2, 61, none⟩), .pointer (some b), .int .u64 150]]).run Tryz.prog W
      = .ok (.tuple #[]) (W.setCell ta (.pointer (some e))) := by
  rw [aq_rls]
  simp only [Sem.run_bind, aq_partsFa, aq_partsF, Result.andThen]
  simp [ReflectliteValue.flagAddr, loadVar, isAgg, underlying, Tryz.underlying61, hb, Result.andThen, aq_directF, storeVar, Value.cells, storeCells, Addr.add]
  rw [run_store Tryz.prog W ta _ _ (by rfl)]
  simp [ht, hf]

set_option maxHeartbeats 4000000 in
theorem as_hit (ab ao : Nat) (e t : Addr) (k old : Value) (w : World) (hg : w.cell? ⟨0, 0, none⟩ = some (.iface 111 (.agg #[.pointer (some ⟨2, 49, none⟩)]))) (ht0 : w.cell? t = some old) (hf0 : w.frozen? t = false)
    (ha0 : w.cell? ⟨ab, ao, none⟩ = some k) (ha1 : w.cell? ⟨ab, ao + 1, none⟩ = some (.iface 61 (.pointer (some e)))) :
    Calls Tryz.prog 35 #[.iface 68 (.pointer (some ⟨ab, ao, none⟩)), .iface 63 (.pointer (some t))] w fun ev w' => ev = .returned (.bool true) ∧ w' = ((((w.alloc (.cells #[.pointer (some t)] 63)).alloc (.cells #[.pointer (some ⟨2, 63, none⟩), .pointer (some ⟨w.heap.size, 0, none⟩), .int .u64 150] 86)).alloc (.cells #[.pointer (some ⟨2, 63, none⟩), .pointer (some ⟨w.heap.size, 0, none⟩), .int .u64 150] 86)).alloc (.cells #[.pointer (some e)] 61)).setCell t (.pointer (some e)) := by
  have h6 := @run_callFunc_extern Tryz.prog 52 _ (fun args => ReflectliteValue.unpack (args.getD 0 (.tuple #[]))) Tryz.func52 (by kernel_rfl) (by kernel_rfl) (by kernel_rfl) (by kernel_rfl)
  have h7 := @run_callFunc_extern Tryz.prog 53 _ (ReflectliteValue.methodAny (ReflectliteValue.valueError "reflectlite.Value.Type" 0) (fun t _ _ _ => ReflectliteType.toType t)) Tryz.func53 (by kernel_rfl) (by kernel_rfl) (by kernel_rfl) (by kernel_rfl)
  have h8 := @run_callFunc_extern Tryz.prog 54 _ (ReflectliteValue.method (ReflectliteValue.valueError "reflectlite.Value.IsNil" 0) ReflectliteValue.isNil) Tryz.func54 (by kernel_rfl) (by kernel_rfl) (by kernel_rfl) (by kernel_rfl)
  have h27 := @run_callFunc_extern Tryz.prog 116 _ (ReflectliteType.abiMethod fun t => do pure (.int .u8 (← Rtype.kind t))) Tryz.func116 (by kernel_rfl) (by kernel_rfl) (by kernel_rfl) (by kernel_rfl)
  have h37 := @run_callFunc_extern Tryz.prog 128 _ (ReflectliteType.method ReflectliteType.elem) Tryz.func128 (by kernel_rfl) (by kernel_rfl) (by kernel_rfl) (by kernel_rfl)
  have h38 := @run_callFunc_extern Tryz.prog 129 _ (ReflectliteType.relation "Implements" ReflectliteType.implements_) Tryz.func129 (by kernel_rfl) (by kernel_rfl) (by kernel_rfl) (by kernel_rfl)
  have h10 := @run_callFunc_extern Tryz.prog 72 _ ReflectliteType.typeOf Tryz.func72 (by kernel_rfl) (by kernel_rfl) (by kernel_rfl) (by kernel_rfl)
  have h35 := @run_callFunc_extern Tryz.prog 126 _ (ReflectliteType.relation "AssignableTo" ReflectliteType.assignableTo) Tryz.func126 (by kernel_rfl) (by kernel_rfl) (by kernel_rfl) (by kernel_rfl)
  have h11 := @run_callFunc_extern Tryz.prog 73 _ (ReflectliteValue.method (ReflectliteValue.valueError "reflectlite.Value.Elem" 0) ReflectliteValue.elem) Tryz.func73 (by kernel_rfl) (by kernel_rfl) (by kernel_rfl) (by kernel_rfl)
  have h12 := @run_callFunc_extern Tryz.prog 74 _ ReflectliteValue.set Tryz.func74 (by kernel_rfl) (by kernel_rfl) (by kernel_rfl) (by kernel_rfl)
  have tO := aq_typeOfF
  have tA := aq_typeOfA
  have mA := aq_methodAssignableTo
  have mU := aq_methodUnwrap
  have aF := aq_assignableF
  have aA := aq_assignableA
  have nA := aq_noAs
  have hU := aq_hasUnwrap
  have vF := aq_valueOfF
  have f6 := aq_valueOfT
  have f7 := aq_typeT
  have mK := aq_methodKind
  have mE := aq_methodElem
  have mI := aq_methodImplements
  have kT := aq_kindT
  have kF := aq_kindF
  have eT := aq_elemT
  have iF := aq_implementsF
  have n8 := aq_isNilT ⟨w.heap.size, 0, none⟩ t ((w.alloc (.cells #[.pointer (some t)] 63)).alloc (.cells #[.pointer (some ⟨2, 63, none⟩), .pointer (some ⟨w.heap.size, 0, none⟩), .int .u64 150] 86)) (by simp)
  have hlt : 0 < w.heap.size := by
    rcases Nat.eq_zero_or_pos w.heap.size with h0 | h
    · simp [World.cell?, h0] at hg
    · exact h
  have hg2 : ((w.alloc (.cells #[.pointer (some t)] 63)).alloc (.cells #[.pointer (some ⟨2, 63, none⟩), .pointer (some ⟨w.heap.size, 0, none⟩), .int .u64 150] 86)).cell? ⟨0, 0, none⟩ = some (.iface 111 (.agg #[.pointer (some ⟨2, 49, none⟩)])) := by
    rw [World.cell?_alloc_lt _ _ ⟨0, 0, none⟩ (by simp), World.cell?_alloc_lt _ _ ⟨0, 0, none⟩ hlt]; exact hg
  have htl : t.block < w.heap.size := by
    rcases Nat.lt_or_ge t.block w.heap.size with h | h
    · exact h
    · simp [World.cell?, Array.getElem?_eq_none h] at ht0
  have el := aq_elemVT ⟨w.heap.size, 0, none⟩ t (((w.alloc (.cells #[.pointer (some t)] 63)).alloc (.cells #[.pointer (some ⟨2, 63, none⟩), .pointer (some ⟨w.heap.size, 0, none⟩), .int .u64 150] 86)).alloc (.cells #[.pointer (some ⟨2, 63, none⟩), .pointer (some ⟨w.heap.size, 0, none⟩), .int .u64 150] 86)) (by rw [World.cell?_alloc_lt _ _ ⟨w.heap.size, 0, none⟩ (by simp; omega)]; simp)
  have st := aq_setF t ⟨w.heap.size + 1 + 1 + 1, 0, none⟩ e old ((((w.alloc (.cells #[.pointer (some t)] 63)).alloc (.cells #[.pointer (some ⟨2, 63, none⟩), .pointer (some ⟨w.heap.size, 0, none⟩), .int .u64 150] 86)).alloc (.cells #[.pointer (some ⟨2, 63, none⟩), .pointer (some ⟨w.heap.size, 0, none⟩), .int .u64 150] 86)).alloc (.cells #[.pointer (some e)] 61))
    (by rw [World.cell?_alloc_at _ _ _ _ (by simp)]; rfl)
    (by rw [World.cell?_alloc_lt _ _ t (by simp; omega), World.cell?_alloc_lt _ _ t (by simp; omega), World.cell?_alloc_lt _ _ t (by simp; omega), World.cell?_alloc_lt _ _ t htl]; exact ht0)
    (by rw [World.frozen?_alloc_old _ _ t (by simp; omega), World.frozen?_alloc_old _ _ t (by simp; omega), World.frozen?_alloc_old _ _ t (by simp; omega), World.frozen?_alloc_old _ _ t (Nat.ne_of_lt htl)]; exact hf0)
  have hal : ab < w.heap.size := by
    rcases Nat.lt_or_ge ab w.heap.size with h | h
    · exact h
    · simp [World.cell?, Array.getElem?_eq_none h] at ha0
  have ha3 : (((w.alloc (.cells #[.pointer (some t)] 63)).alloc (.cells #[.pointer (some ⟨2, 63, none⟩), .pointer (some ⟨w.heap.size, 0, none⟩), .int .u64 150] 86)).alloc (.cells #[.pointer (some ⟨2, 63, none⟩), .pointer (some ⟨w.heap.size, 0, none⟩), .int .u64 150] 86)).cell? ⟨ab, ao + 1, none⟩ = some (.iface 61 (.pointer (some e))) := by
    rw [World.cell?_alloc_lt _ _ ⟨ab, ao + 1, none⟩ (by simp; omega), World.cell?_alloc_lt _ _ ⟨ab, ao + 1, none⟩ (by simp; omega), World.cell?_alloc_lt _ _ ⟨ab, ao + 1, none⟩ hal]; exact ha1
  go_enter Tryz.func35, Tryz.ntmps35
  go_wp2
  refine wp_loop_rounds 2 ?_
  rw [rounds_succ]
  go_wp2
  rw [rounds_succ]
  go_wp2
  go_ret
  exact ⟨rfl, rfl⟩
end Go.Proofs.Nt
/- An error's number: check.code, at nil and at a fault that is wrapped. -/
set_option linter.unusedVariables false
set_option maxRecDepth 20000
set_option linter.unusedSimpArgs false
namespace Go.Proofs.Nt
open Go Go.Proofs Go.RowKit Go.Extern.Stop Go.Stop Go.Extern Go.Proofs.Va

theorem code_nil (w : World) : Calls Tryz.prog 21 #[.nilIface] w fun e w' => e = .returned (.int .i64 0) ∧ w' = w.alloc (.cells #[.pointer none] 61) := by
  go_enter Tryz.func21, Tryz.ntmps21
  go_wp2_with (first | (go_at_call 35; refine (as_nil _ _).mono ?_; rintro e w' ⟨rfl, rfl⟩))
  go_ret
  exact ⟨rfl, rfl⟩

set_option maxHeartbeats 1000000 in
theorem code_hit (ab ao : Nat) (e : Addr) (k : Value) (n : Int) (w : World) (hg : w.cell? ⟨0, 0, none⟩ = some (.iface 111 (.agg #[.pointer (some ⟨2, 49, none⟩)])))
    (ha0 : w.cell? ⟨ab, ao, none⟩ = some k) (ha1 : w.cell? ⟨ab, ao + 1, none⟩ = some (.iface 61 (.pointer (some e)))) (he : w.cell? e = some (.int .i64 n)) :
    Calls Tryz.prog 21 #[.iface 68 (.pointer (some ⟨ab, ao, none⟩))] w fun ev w' => ev = .returned (.int .i64 n) ∧ Below w.heap.size w w' := by
  have lt' : ∀ (w : World) (a : Addr) v, w.cell? a = some v → a.block < w.heap.size := by
    intro w a v h
    rcases Nat.lt_or_ge a.block w.heap.size with h1 | h1
    · exact h1
    · simp [World.cell?, Array.getElem?_eq_none h1] at h
  have lt := lt' w
  have k1 : ∀ (x : World) (o : Obj) (a : Addr) v, x.cell? a = some v → (x.alloc o).cell? a = some v := fun x o a v h => by rw [World.cell?_alloc_lt _ _ a (lt' _ _ _ h)]; exact h
  have k4 : ∀ {x : World} (o1 o2 o3 o4 : Obj) (a : Addr) v, x.cell? a = some v → ((((x.alloc o1).alloc o2).alloc o3).alloc o4).cell? a = some v := fun o1 o2 o3 o4 a v h => k1 _ _ _ _ (k1 _ _ _ _ (k1 _ _ _ _ (k1 _ _ _ _ h)))
  have hgA : (w.alloc (.cells #[.pointer none] 61)).cell? ⟨0, 0, none⟩ = some (.iface 111 (.agg #[.pointer (some ⟨2, 49, none⟩)])) := by
    rw [World.cell?_alloc_lt _ _ ⟨0, 0, none⟩ (lt _ _ hg)]; exact hg
  have htA : (w.alloc (.cells #[.pointer none] 61)).cell? ⟨w.heap.size, 0, none⟩ = some (.pointer none) := by simp
  have hfA : (w.alloc (.cells #[.pointer none] 61)).frozen? ⟨w.heap.size, 0, none⟩ = false := by simp
  have ha0A : (w.alloc (.cells #[.pointer none] 61)).cell? ⟨ab, ao, none⟩ = some k := by rw [World.cell?_alloc_lt _ _ ⟨ab, ao, none⟩ (lt _ _ ha0)]; exact ha0
  have ha1A : (w.alloc (.cells #[.pointer none] 61)).cell? ⟨ab, ao + 1, none⟩ = some (.iface 61 (.pointer (some e))) := by rw [World.cell?_alloc_lt _ _ ⟨ab, ao + 1, none⟩ (lt _ _ ha1)]; exact ha1
  have heA : (w.alloc (.cells #[.pointer none] 61)).cell? e = some (.int .i64 n) := by rw [World.cell?_alloc_lt _ _ e (lt _ _ he)]; exact he
  have hB : Below w.heap.size w (w.alloc (.cells #[.pointer none] 61)) := (Below.refl _ _).alloc (Nat.le_refl _) _
  have hel := lt _ _ he
  have hit := as_hit ab ao e ⟨w.heap.size, 0, none⟩ k (.pointer none) _ hgA htA hfA ha0A ha1A
  have hit2 : Calls Tryz.prog 35 #[.iface 68 (.pointer (some ⟨ab, ao, none⟩)), .iface 63 (.pointer (some ⟨w.heap.size, 0, none⟩))] (w.alloc (.cells #[.pointer none] 61)) fun ev w' => ev = .returned (.bool true) ∧
      w'.cell? ⟨w.heap.size, 0, none⟩ = some (.pointer (some e)) ∧ w'.cell? e = some (.int .i64 n) ∧ Below w.heap.size w w' := by
    refine hit.mono ?_
    rintro ev w' ⟨rfl, rfl⟩
    refine ⟨rfl, World.cell?_setCell_same _ _ _ (k4 _ _ _ _ _ _ htA), ?_, ?_⟩
    · rw [World.cell?_setCell_other _ _ _ _ (by intro h; rw [← h] at hel; exact Nat.lt_irrefl _ hel)]
      exact k4 _ _ _ _ _ _ heA
    · have a : ∀ {x : World} (o : Obj), Below w.heap.size w x → Below w.heap.size w (x.alloc o) := fun {x} o h => h.alloc h.size o
      exact (a _ (a _ (a _ (a _ (a _ (Below.refl _ _)))))).setCell (Nat.le_refl _) _
  clear hit k4 k1 lt lt' hB hel hgA htA hfA ha0A ha1A heA
  go_enter Tryz.func21, Tryz.ntmps21
  go_wp2_with (first | (go_at_call 35; refine hit2.mono ?_; rintro e w' ⟨rfl, c1, c2, hb⟩))
  go_ret
  exact ⟨rfl, hb⟩

theorem enter_run {P : Program} {g : FuncId} {fn : Func} {c : Code} (hf : P.funcs[g]? = some fn) (hb : fn.body = some c) (hname : (fn.name == "runtime.NumGoroutine") = false) (vs : Array Value) (w : World) : (callFunc g vs).run P w = .ok (.enter g vs) w := by
  have hname' : ¬ fn.name = "runtime.NumGoroutine" := by simpa using hname
  simp [callFunc, hf, hname', hb]
theorem rpl_get {fz : Nat → Prop} {w : World} {x : AV} {vs : Array Value} (h : RpL fz w [x] vs) : ∃ v, vs = #[v] ∧ Rp fz w x v := by
  obtain ⟨h1, h2⟩ := h
  have hs : vs.size = 1 := h1
  refine ⟨vs.getD 0 undef, ?_, h2 0 (by simp)⟩
  apply Array.ext (by simp [hs])
  intro i hi _
  have : i = 0 := by omega
  subst this
  simp [hs]
theorem glob_err {fz : Nat → Prop} {w : World} (h : FzLt fz w) : w.cell? ⟨0, 0, none⟩ = some (.iface 111 (.agg #[.pointer (some ⟨2, 49, none⟩)])) := (h.gl _ (List.mem_cons_self ..)).2

theorem code_nil_ctr : Ctr Tryz.prog 21 [.v .nilIface] (fun r => r = i 0) := by
  intro fz w vs hf hr
  obtain ⟨v, rfl, hv⟩ := rpl_get hr
  cases hv
  refine .inl ⟨?_, ?_⟩
  · exact enter_run Tryz.func21 rfl (by kernel_rfl) _ _
  · refine (code_nil w).mono ?_
    rintro e w' ⟨rfl, rfl⟩
    exact ⟨_, i 0, fz, rfl, rfl, .v _, (Below.refl _ _).alloc (Nat.le_refl _) _, fun _ h => h, fun k h => by have := hf k h; simp; omega, fun k h => .inl h⟩
theorem code_hit_ctr (k n : Int) : Ctr Tryz.prog 21 [.ifc 68 (.pp [i k, .ifc 61 (.pp [i n] 0)] 0)] (fun r => r = i n) := by
  intro fz w vs hf hr
  obtain ⟨v, rfl, hv⟩ := rpl_get hr
  cases hv with
  | ifc _ _ u hu =>
  cases hu with
  | pp _ _ b o us hfz hcell h1 hR =>
  have e0 := hcell 0 (by simp)
  have e1 := hcell 1 (by simp)
  have r0 := hR 0 (by simp)
  have r1 := hR 1 (by simp)
  generalize us 0 = u0 at *
  generalize us 1 = u1 at *
  cases r0
  cases r1 with
  | ifc _ _ u hu =>
  cases hu with
  | pp _ _ b' o' us' hfz' hcell' h1' hR' =>
  have f0 := hcell' 0 (by simp)
  have s0 := hR' 0 (by simp)
  generalize us' 0 = u0' at *
  cases s0
  refine .inl ⟨?_, ?_⟩
  · exact enter_run Tryz.func21 rfl (by kernel_rfl) _ _
  · refine (code_hit b o ⟨b', o', none⟩ (.int .i64 k) n w (glob_err hf) e0 e1 f0).mono ?_
    rintro e w' ⟨rfl, hb⟩
    exact ⟨_, i n, fz, rfl, rfl, .v _, hb, fun _ h => h, fun k h => Nat.lt_of_lt_of_le (hf k h) hb.size, fun k h => .inl h⟩
end Go.Proofs.Nt
