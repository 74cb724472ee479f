/- errors.Is and errors.As at the program's own error type. -/
import Derived.Test.YtnmjgpnidpgimaaGreatDoorProg
import Derived.WalkKit
import Derived.LaidEql
import Derived.Stop.Asserts
import Derived.RowKitTokens
import Derived.Below
import Derived.Laws.CopyRow
namespace Go.Proofs.YtnmjgpnidpgimaaGreatDoor
open Go.RowKit Go.Extern.Stop Go.Stop Go.Extern
set_option maxRecDepth 100000

theorem typeOf37 (v : Value) (w : World) : (ReflectliteType.typeOf #[.iface 37 v]).run Tryz.prog w = .ok (.iface 279 (.agg #[.pointer (some ⟨8, 37, none⟩)])) w := by kernel_rfl
theorem methodComparable (h : Value) (w : World) : (Go.method 498 279 (.agg #[h]) "Comparable").run Tryz.prog w = .ok (304, .agg #[h]) w := by kernel_rfl
theorem comparable37 (w : World) : ((ReflectliteType.method fun t => do Rtype.noPackHeld "Comparable" t; (fun a : TypeInfo => Value.bool a.comparable) <$> typeInfo t) #[.agg #[.pointer (some ⟨8, 37, none⟩)]]).run Tryz.prog w = .ok (.bool true) w := by kernel_rfl

theorem eqFaultErrno (x : Value) (w : World) : (binOp .eql 105 (.iface 158 x) (.iface 37 (.int .i64 0))).run Tryz.prog w = .ok (.bool false) w := by kernel_rfl
theorem eqErrnos (e : Int) (w : World) : (binOp .eql 105 (.iface 37 (.int .i64 e)) (.iface 37 (.int .i64 0))).run Tryz.prog w = .ok (.bool (e == 0)) w := by kernel_rfl

theorem as281 (x : Value) (w : World) : (Instr.typeAssert (.iface 158 x) 105 281 true).run Tryz.prog w = .ok (.tuple #[.nilIface, .bool false]) w := run_typeAssert_lacksB Tryz.underlying281 (by kernel_rfl) (by kernel_rfl) x 105 w
theorem as284 (x : Value) (w : World) : (Instr.typeAssert (.iface 158 x) 105 284 true).run Tryz.prog w = .ok (.tuple #[.iface 158 x, .bool true]) w := run_typeAssert_hasB Tryz.underlying284 (by kernel_rfl) x 105 w
theorem es281 (x : Value) (w : World) : (Instr.typeAssert (.iface 37 x) 105 281 true).run Tryz.prog w = .ok (.tuple #[.nilIface, .bool false]) w := run_typeAssert_lacksB Tryz.underlying281 (by kernel_rfl) (by kernel_rfl) x 105 w
theorem es284 (x : Value) (w : World) : (Instr.typeAssert (.iface 37 x) 105 284 true).run Tryz.prog w = .ok (.tuple #[.nilIface, .bool false]) w := run_typeAssert_lacksB Tryz.underlying284 (by kernel_rfl) (by kernel_rfl) x 105 w
theorem es286 (x : Value) (w : World) : (Instr.typeAssert (.iface 37 x) 105 286 true).run Tryz.prog w = .ok (.tuple #[.nilIface, .bool false]) w := run_typeAssert_lacksB Tryz.underlying286 (by kernel_rfl) (by kernel_rfl) x 105 w
theorem methodUnwrap (v : Value) (w : World) : (Go.method 498 158 v "Unwrap").run Tryz.prog w = .ok (298, v) w := by kernel_rfl

set_option maxHeartbeats 4000000 in
theorem is_false (a e : Int) (he : e ≠ 0) (w : World) :
    Calls Tryz.prog 86 #[.iface 158 (.agg #[.int .i64 a, .int .i64 e]), .iface 37 (.int .i64 0)] w fun ev w' => ev = .returned (.bool false) ∧ w' = w.alloc (.cells #[.int .i64 a, .int .i64 e] 158) := by
  have h133 := @run_callFunc_extern Tryz.prog 133 _ ReflectliteType.typeOf Tryz.func133 (by kernel_rfl) (by kernel_rfl) (by kernel_rfl) (by kernel_rfl)
  have h304 := @run_callFunc_extern Tryz.prog 304 _ (ReflectliteType.method fun t => do Rtype.noPackHeld "Comparable" t; pure (.bool (← typeInfo t).comparable)) Tryz.func304 (by kernel_rfl) (by kernel_rfl) (by kernel_rfl) (by kernel_rfl)
  have t37 := typeOf37
  have mC := methodComparable
  have c37 := comparable37
  have q1 := eqFaultErrno
  have a1 := as281
  have a2 := as284
  have b1 := es281
  have b2 := es284
  have b3 := es286
  have mU := methodUnwrap
  have q2 : ∀ w, (binOp .eql 105 (.iface 37 (.int .i64 e)) (.iface 37 (.int .i64 0))).run Tryz.prog w = .ok (.bool false) w := fun w => by rw [eqErrnos]; simp [he]
  go_enter Tryz.func86, Tryz.ntmps86
  go_wp2
  refine wp_loop_rounds 2 ?_
  rw [rounds_succ]
  go_wp2
  rw [rounds_succ]
  go_wp2
  go_ret
  exact ⟨rfl, rfl⟩

/-! ## errors.As, at a target whose type is the error's own -/
theorem valueOf161 (t : Addr) (w : World) : (ReflectliteValue.unpack (.iface 161 (.pointer (some t)))).run Tryz.prog w
    = .ok (.agg #[.pointer (some ⟨8, 161, none⟩), .pointer (some ⟨w.heap.size, 0, none⟩), .int .u64 150]) (w.alloc (.cells #[.pointer (some t)] 161)) := by kernel_rfl
theorem type161 (a : Addr) (w : World) : (ReflectliteValue.methodAny (ReflectliteValue.valueError "reflectlite.Value.Type" 0) (fun t _ _ _ => ReflectliteType.toType t) #[.agg #[.pointer (some ⟨8, 161, none⟩), .pointer (some a), .int .u64 150]]).run Tryz.prog w
    = .ok (.iface 279 (.agg #[.pointer (some ⟨8, 161, none⟩)])) w := by kernel_rfl
theorem methodKind (h : Value) (w : World) : (Go.method 498 279 (.agg #[h]) "Kind").run Tryz.prog w = .ok (292, h) w := by kernel_rfl
theorem kind161 (w : World) : ((ReflectliteType.abiMethod fun t => (fun a : Nat => Value.int IntKind.u8 (a : Int)) <$> Rtype.kind t) #[.pointer (some ⟨8, 161, none⟩)]).run Tryz.prog w = .ok (.int .u8 22) w := by kernel_rfl
theorem kind158 (w : World) : ((ReflectliteType.abiMethod fun t => (fun a : Nat => Value.int IntKind.u8 (a : Int)) <$> Rtype.kind t) #[.pointer (some ⟨8, 158, none⟩)]).run Tryz.prog w = .ok (.int .u8 25) w := by kernel_rfl
theorem rlm (z : Sem Value) (f : TypeId → Addr → Nat → Nat → Sem Value) (v : Value) :
    ReflectliteValue.method z f #[v] = (do match ← ReflectliteValue.parts v with | none => z | some (t, a, fl) => f t a fl (fl % 32)) := rfl
theorem parts161 (a : Addr) (w : World) : (ReflectliteValue.parts (.agg #[.pointer (some ⟨8, 161, none⟩), .pointer (some a), .int .u64 150])).run Tryz.prog w = .ok (some (161, a, 150)) w := by kernel_rfl
theorem isNil161 (a p : Addr) (W : World) (ha : W.cell? a = some (.pointer (some p))) :
    (ReflectliteValue.method (ReflectliteValue.valueError "reflectlite.Value.IsNil" 0) ReflectliteValue.isNil #[.agg #[.pointer (some ⟨8, 161, none⟩), .pointer (some a), .int .u64 150]]).run Tryz.prog W = .ok (.bool false) W := by
  rw [rlm]
  simp only [Sem.run_bind, parts161, Result.andThen]
  simp [ReflectliteValue.isNil, loadVar, isAgg, underlying, Tryz.underlying161, ha, Result.andThen]
theorem methodElem (h : Value) (w : World) : (Go.method 498 279 (.agg #[h]) "Elem").run Tryz.prog w = .ok (305, .agg #[h]) w := by kernel_rfl
theorem methodImplements (h : Value) (w : World) : (Go.method 498 279 (.agg #[h]) "Implements").run Tryz.prog w = .ok (306, .agg #[h]) w := by kernel_rfl
theorem methodAssignableTo (h : Value) (w : World) : (Go.method 498 279 (.agg #[h]) "AssignableTo").run Tryz.prog w = .ok (303, .agg #[h]) w := by kernel_rfl
theorem elem161 (w : World) : (ReflectliteType.method ReflectliteType.elem #[.agg #[.pointer (some ⟨8, 161, none⟩)]]).run Tryz.prog w = .ok (.iface 279 (.agg #[.pointer (some ⟨8, 158, none⟩)])) w := by kernel_rfl
theorem implements158 (w : World) : (ReflectliteType.relation "Implements" ReflectliteType.implements_ #[.agg #[.pointer (some ⟨8, 158, none⟩)], .iface 279 (.agg #[.pointer (some ⟨8, 105, none⟩)])]).run Tryz.prog w = .ok (.bool true) w := by kernel_rfl
theorem typeOf158 (v : Value) (w : World) : (ReflectliteType.typeOf #[.iface 158 v]).run Tryz.prog w = .ok (.iface 279 (.agg #[.pointer (some ⟨8, 158, none⟩)])) w := by kernel_rfl
theorem assignable158 (w : World) : (ReflectliteType.relation "AssignableTo" ReflectliteType.assignableTo #[.agg #[.pointer (some ⟨8, 158, none⟩)], .iface 279 (.agg #[.pointer (some ⟨8, 158, none⟩)])]).run Tryz.prog w = .ok (.bool true) w := by kernel_rfl
theorem valueOf158 (x y : Value) (w : World) : (ReflectliteValue.unpack (.iface 158 (.agg #[x, y]))).run Tryz.prog w
    = .ok (.agg #[.pointer (some ⟨8, 158, none⟩), .pointer (some ⟨w.heap.size, 0, none⟩), .int .u64 153]) (w.alloc (.cells #[x, y] 158)) := by kernel_rfl
theorem elemOf161 (w : World) : (Rtype.elem? 161).run Tryz.prog w = .ok (some 158) w := by kernel_rfl
theorem mk158 (p : Addr) (w : World) : (ReflectliteValue.mk 158 p ReflectliteValue.flagAddr).run Tryz.prog w = .ok (.agg #[.pointer (some ⟨8, 158, none⟩), .pointer (some p), .int .u64 409]) w := by kernel_rfl
theorem elemV161 (a p : Addr) (W : World) (ha : W.cell? a = some (.pointer (some p))) :
    (ReflectliteValue.method (ReflectliteValue.valueError "reflectlite.Value.Elem" 0) ReflectliteValue.elem #[.agg #[.pointer (some ⟨8, 161, none⟩), .pointer (some a), .int .u64 150]]).run Tryz.prog W
      = .ok (.agg #[.pointer (some ⟨8, 158, none⟩), .pointer (some p), .int .u64 409]) W := by
  rw [rlm]
  simp only [Sem.run_bind, parts161, Result.andThen]
  simp [ReflectliteValue.elem, loadVar, isAgg, underlying, Tryz.underlying161, ha, Result.andThen, elemOf161, mk158]
theorem rls (v x : Value) : ReflectliteValue.set #[v, x] = (do
    let (some (dst, a, fl), some (src, b, _)) := (← ReflectliteValue.parts v, ← ReflectliteValue.parts x)
      | unsupported (.noEntry "extern/(internal/reflectlite.Value).Set.zeroValue")
    if fl / ReflectliteValue.flagAddr % 2 == 0 then unsupported (.noEntry "extern/(internal/reflectlite.Value).Set.unaddressable")
    let val ← loadVar src b
    if ← Rtype.directlyAssignable dst src then storeVar dst a val
    else if ← Rtype.implements dst src then
      if (← Rtype.kind src) == 20 then
        match val with
        | .nilIface => unsupported (.noEntry "extern/reflectlite: a nil value of one interface type handed on as a value of another")
        | _ => storeVar dst a val
      else storeVar dst a (.iface src val)
    else panicString ("reflectlite.Set: value of type " ++ (← Rtype.spelt src) ++ " is not assignable to type " ++ (← Rtype.spelt dst))
    pure (.tuple #[])) := rfl
theorem parts158a (a : Addr) (w : World) : (ReflectliteValue.parts (.agg #[.pointer (some ⟨8, 158, none⟩), .pointer (some a), .int .u64 409])).run Tryz.prog w = .ok (some (158, a, 409)) w := by kernel_rfl
theorem parts158 (a : Addr) (w : World) : (ReflectliteValue.parts (.agg #[.pointer (some ⟨8, 158, none⟩), .pointer (some a), .int .u64 153])).run Tryz.prog w = .ok (some (158, a, 153)) w := by kernel_rfl
theorem direct158 (w : World) : (Rtype.directlyAssignable 158 158).run Tryz.prog w = .ok true w := by kernel_rfl
theorem size158 (w : World) : (sizeOf 158).run Tryz.prog w = .ok 2 w := by kernel_rfl
/-- (Value).Set: the variable at 'tb' gets what the Value's own variable holds. -/
theorem set158 (tb b : Nat) (x y o1 o2 : Value) (ty : TypeId) (W : World) (hx : x.oneCell' = true) (hy : y.oneCell' = true) (hb0 : W.cell? ⟨b, 0, none⟩ = some x) (hb1 : W.cell? ⟨b, 1, none⟩ = some y) (ht : W.heap[tb]? = some (.cells #[o1, o2] ty (0, 0))) :
    (ReflectliteValue.set #[.agg #[.pointer (some ⟨8, 158, none⟩), .pointer (some ⟨tb, 0, none⟩), .int .u64 409], .agg #[.pointer (some ⟨8, 158, none⟩), .pointer (some ⟨b, 0, none⟩), .int .u64 153]]).run Tryz.prog W
      = .ok (.tuple #[]) (W.setRow tb #[x, y]) := by
  rw [rls]
  simp only [Sem.run_bind, parts158a, parts158, Result.andThen]
  have hld : (loadVar 158 ⟨b, 0, none⟩).run Tryz.prog W = .ok (.agg #[x, y]) W := by
    simp [loadVar, isAgg, underlying, Tryz.underlying158, Result.andThen, loadCells, loadCellsFrom, Addr.add, hb0, hb1]
  have hst : (storeVar 158 ⟨tb, 0, none⟩ (.agg #[x, y])).run Tryz.prog W = .ok () (W.setRow tb #[x, y]) := by
    have hs := run_storeCells_at Tryz.prog tb 0 ty [x, y] 0 #[o1, o2] W ht (by simp) (by simp [hx, hy])
    simp only [storeVar, Sem.run_bind, size158, Result.andThen_ok, Value.cells]
    simpa using hs
  simp [ReflectliteValue.flagAddr, Result.andThen, direct158, hld, hst]

set_option maxHeartbeats 8000000 in
theorem as_hit (a e : Int) (tb : Nat) (o1 o2 : Value) (ty : TypeId) (w : World) (hg : w.cell? ⟨0, 0, none⟩ = some (.iface 279 (.agg #[.pointer (some ⟨8, 105, none⟩)]))) (ht : w.heap[tb]? = some (.cells #[o1, o2] ty (0, 0))) :
    Calls Tryz.prog 87 #[.iface 158 (.agg #[.int .i64 a, .int .i64 e]), .iface 161 (.pointer (some ⟨tb, 0, none⟩))] w fun ev w' => ev = .returned (.bool true) ∧ w' = ((((w.alloc (.cells #[.pointer (some ⟨tb, 0, none⟩)] 161)).alloc (.cells #[.pointer (some ⟨8, 161, none⟩), .pointer (some ⟨w.heap.size, 0, none⟩), .int .u64 150] 233)).alloc (.cells #[.pointer (some ⟨8, 161, none⟩), .pointer (some ⟨w.heap.size, 0, none⟩), .int .u64 150] 233)).alloc (.cells #[.int .i64 a, .int .i64 e] 158)).setRow tb #[.int .i64 a, .int .i64 e] := by
  have h135 := @run_callFunc_extern Tryz.prog 135 _ (fun args => ReflectliteValue.unpack (args.getD 0 (.tuple #[]))) Tryz.func135 (by kernel_rfl) (by kernel_rfl) (by kernel_rfl) (by kernel_rfl)
  have h136 := @run_callFunc_extern Tryz.prog 136 _ (ReflectliteValue.methodAny (ReflectliteValue.valueError "reflectlite.Value.Type" 0) (fun t _ _ _ => ReflectliteType.toType t)) Tryz.func136 (by kernel_rfl) (by kernel_rfl) (by kernel_rfl) (by kernel_rfl)
  have h137 := @run_callFunc_extern Tryz.prog 137 _ (ReflectliteValue.method (ReflectliteValue.valueError "reflectlite.Value.IsNil" 0) ReflectliteValue.isNil) Tryz.func137 (by kernel_rfl) (by kernel_rfl) (by kernel_rfl) (by kernel_rfl)
  have h292 := @run_callFunc_extern Tryz.prog 292 _ (ReflectliteType.abiMethod fun t => do pure (.int .u8 (← Rtype.kind t))) Tryz.func292 (by kernel_rfl) (by kernel_rfl) (by kernel_rfl) (by kernel_rfl)
  have h305 := @run_callFunc_extern Tryz.prog 305 _ (ReflectliteType.method ReflectliteType.elem) Tryz.func305 (by kernel_rfl) (by kernel_rfl) (by kernel_rfl) (by kernel_rfl)
  have h306 := @run_callFunc_extern Tryz.prog 306 _ (ReflectliteType.relation "Implements" ReflectliteType.implements_) Tryz.func306 (by kernel_rfl) (by kernel_rfl) (by kernel_rfl) (by kernel_rfl)
  have h133 := @run_callFunc_extern Tryz.prog 133 _ ReflectliteType.typeOf Tryz.func133 (by kernel_rfl) (by kernel_rfl) (by kernel_rfl) (by kernel_rfl)
  have h303 := @run_callFunc_extern Tryz.prog 303 _ (ReflectliteType.relation "AssignableTo" ReflectliteType.assignableTo) Tryz.func303 (by kernel_rfl) (by kernel_rfl) (by kernel_rfl) (by kernel_rfl)
  have h189 := @run_callFunc_extern Tryz.prog 189 _ (ReflectliteValue.method (ReflectliteValue.valueError "reflectlite.Value.Elem" 0) ReflectliteValue.elem) Tryz.func189 (by kernel_rfl) (by kernel_rfl) (by kernel_rfl) (by kernel_rfl)
  have h190 := @run_callFunc_extern Tryz.prog 190 _ ReflectliteValue.set Tryz.func190 (by kernel_rfl) (by kernel_rfl) (by kernel_rfl) (by kernel_rfl)
  have tO := typeOf158
  have mA := methodAssignableTo
  have a25 := assignable158
  have v25 := valueOf158
  have f6 := valueOf161
  have f7 := type161
  have mK := methodKind
  have mE := methodElem
  have mI := methodImplements
  have k27 := kind161
  have k25 := kind158
  have e27 := elem161
  have i25 := implements158
  have n8 := isNil161 ⟨w.heap.size, 0, none⟩ ⟨tb, 0, none⟩ ((w.alloc (.cells #[.pointer (some ⟨tb, 0, none⟩)] 161)).alloc (.cells #[.pointer (some ⟨8, 161, none⟩), .pointer (some ⟨w.heap.size, 0, none⟩), .int .u64 150] 233)) (by simp)
  have hlt : 0 < w.heap.size := by
    rcases Nat.eq_zero_or_pos w.heap.size with h0 | h
    · simp [World.cell?, h0] at hg
    · exact h
  have hg2 : ((w.alloc (.cells #[.pointer (some ⟨tb, 0, none⟩)] 161)).alloc (.cells #[.pointer (some ⟨8, 161, none⟩), .pointer (some ⟨w.heap.size, 0, none⟩), .int .u64 150] 233)).cell? ⟨0, 0, none⟩ = some (.iface 279 (.agg #[.pointer (some ⟨8, 105, none⟩)])) := by
    rw [World.cell?_alloc_lt _ _ ⟨0, 0, none⟩ (by simp), World.cell?_alloc_lt _ _ ⟨0, 0, none⟩ hlt]; exact hg
  have htl : tb < w.heap.size := by
    rcases Nat.lt_or_ge tb w.heap.size with h | h
    · exact h
    · rw [Array.getElem?_eq_none h] at ht; cases ht
  have el := elemV161 ⟨w.heap.size, 0, none⟩ ⟨tb, 0, none⟩ (((w.alloc (.cells #[.pointer (some ⟨tb, 0, none⟩)] 161)).alloc (.cells #[.pointer (some ⟨8, 161, none⟩), .pointer (some ⟨w.heap.size, 0, none⟩), .int .u64 150] 233)).alloc (.cells #[.pointer (some ⟨8, 161, none⟩), .pointer (some ⟨w.heap.size, 0, none⟩), .int .u64 150] 233)) (by rw [World.cell?_alloc_lt _ _ ⟨w.heap.size, 0, none⟩ (by simp; omega)]; simp)
  have st := set158 tb (w.heap.size + 1 + 1 + 1) (.int .i64 a) (.int .i64 e) o1 o2 ty ((((w.alloc (.cells #[.pointer (some ⟨tb, 0, none⟩)] 161)).alloc (.cells #[.pointer (some ⟨8, 161, none⟩), .pointer (some ⟨w.heap.size, 0, none⟩), .int .u64 150] 233)).alloc (.cells #[.pointer (some ⟨8, 161, none⟩), .pointer (some ⟨w.heap.size, 0, none⟩), .int .u64 150] 233)).alloc (.cells #[.int .i64 a, .int .i64 e] 158)) rfl rfl
    (by rw [World.cell?_alloc_at _ _ _ _ (by simp)]; rfl)
    (by rw [World.cell?_alloc_at _ _ _ _ (by simp)]; rfl)
    (by rw [Below.heap_alloc _ _ _ (by simp; omega), Below.heap_alloc _ _ _ (by simp; omega), Below.heap_alloc _ _ _ (by simp; omega), Below.heap_alloc _ _ _ htl]; exact ht)
  go_enter Tryz.func87, Tryz.ntmps87
  go_wp2
  refine wp_loop_rounds 1 ?_
  rw [rounds_succ]
  go_wp2
  go_ret
  exact ⟨rfl, rfl⟩
end Go.Proofs.YtnmjgpnidpgimaaGreatDoor
