/- An error's kind: errors.As at a target of a number's type. -/
import Derived.Test.YtfeikolfdggnfaaDoorTa
import Derived.LaidEql
import Derived.Stop.Asserts
import Derived.RowKitTokens
namespace Go.Proofs.YtfeikolfdggnfaaDoor
open Go.RowKit Go.Extern.Stop Go.Stop Go.Extern

/-! Closed facts on the model's entries for internal/reflectlite, at this program's types. -/
theorem kd_valueOf (t : Addr) (w : World) : (ReflectliteValue.unpack (.iface 66 (.pointer (some t)))).run Tryd.prog w
    = .ok (.agg #[.pointer (some ⟨2, 66, none⟩), .pointer (some ⟨w.heap.size, 0, none⟩), .int .u64 150]) (w.alloc (.cells #[.pointer (some t)] 66)) := by kernel_rfl
theorem kd_type (a : Addr) (w : World) : (ReflectliteValue.methodAny (ReflectliteValue.valueError "reflectlite.Value.Type" 0) (fun t _ _ _ => ReflectliteType.toType t) #[.agg #[.pointer (some ⟨2, 66, none⟩), .pointer (some a), .int .u64 150]]).run Tryd.prog w
    = .ok (.iface 118 (.agg #[.pointer (some ⟨2, 66, none⟩)])) w := by kernel_rfl
theorem kd_mKind (h : Value) (w : World) : (Go.method 275 118 (.agg #[h]) "Kind").run Tryd.prog w = .ok (96, h) w := by kernel_rfl
theorem kd_kindP (w : World) : ((ReflectliteType.abiMethod fun t => (fun a : Nat => Value.int IntKind.u8 (a : Int)) <$> Rtype.kind t) #[.pointer (some ⟨2, 66, none⟩)]).run Tryd.prog w = .ok (.int .u8 22) w := by kernel_rfl
theorem kd_kindE (w : World) : ((ReflectliteType.abiMethod fun t => (fun a : Nat => Value.int IntKind.u8 (a : Int)) <$> Rtype.kind t) #[.pointer (some ⟨2, 26, none⟩)]).run Tryd.prog w = .ok (.int .u8 2) w := by kernel_rfl
theorem kd_rlm (z : Sem Value) (f : TypeId → Addr → Nat → Nat → Sem Value) (v : Value) :
    ReflectliteValue.method z f #[v] = (do match ← ReflectliteValue.parts v with | none => z | some (t, a, fl) => f t a fl (fl % 32)) := rfl
theorem kd_partsP (a : Addr) (w : World) : (ReflectliteValue.parts (.agg #[.pointer (some ⟨2, 66, none⟩), .pointer (some a), .int .u64 150])).run Tryd.prog w = .ok (some (66, a, 150)) w := by kernel_rfl
theorem kd_isNil (a p : Addr) (W : World) (ha : W.cell? a = some (.pointer (some p))) :
    (ReflectliteValue.method (ReflectliteValue.valueError "reflectlite.Value.IsNil" 0) ReflectliteValue.isNil #[.agg #[.pointer (some ⟨2, 66, none⟩), .pointer (some a), .int .u64 150]]).run Tryd.prog W = .ok (.bool false) W := by
  rw [kd_rlm]
  simp only [Sem.run_bind, kd_partsP, Result.andThen]
  simp [ReflectliteValue.isNil, loadVar, isAgg, underlying, Tryd.underlying66, ha, Result.andThen]
theorem kd_mElem (h : Value) (w : World) : (Go.method 275 118 (.agg #[h]) "Elem").run Tryd.prog w = .ok (109, .agg #[h]) w := by kernel_rfl
theorem kd_mImplements (h : Value) (w : World) : (Go.method 275 118 (.agg #[h]) "Implements").run Tryd.prog w = .ok (110, .agg #[h]) w := by kernel_rfl
theorem kd_mAssignableTo (h : Value) (w : World) : (Go.method 275 118 (.agg #[h]) "AssignableTo").run Tryd.prog w = .ok (107, .agg #[h]) w := by kernel_rfl
theorem kd_elem (w : World) : (ReflectliteType.method ReflectliteType.elem #[.agg #[.pointer (some ⟨2, 66, none⟩)]]).run Tryd.prog w = .ok (.iface 118 (.agg #[.pointer (some ⟨2, 26, none⟩)])) w := by kernel_rfl
theorem kd_implements (w : World) : (ReflectliteType.relation "Implements" ReflectliteType.implements_ #[.agg #[.pointer (some ⟨2, 26, none⟩)], .iface 118 (.agg #[.pointer (some ⟨2, 33, none⟩)])]).run Tryd.prog w = .ok (.bool true) w := by kernel_rfl
theorem kd_typeOfE (v : Value) (w : World) : (ReflectliteType.typeOf #[.iface 26 v]).run Tryd.prog w = .ok (.iface 118 (.agg #[.pointer (some ⟨2, 26, none⟩)])) w := by kernel_rfl
theorem kd_typeOfF (v : Value) (w : World) : (ReflectliteType.typeOf #[.iface 101 v]).run Tryd.prog w = .ok (.iface 118 (.agg #[.pointer (some ⟨2, 101, none⟩)])) w := by kernel_rfl
theorem kd_assignE (w : World) : (ReflectliteType.relation "AssignableTo" ReflectliteType.assignableTo #[.agg #[.pointer (some ⟨2, 26, none⟩)], .iface 118 (.agg #[.pointer (some ⟨2, 26, none⟩)])]).run Tryd.prog w = .ok (.bool true) w := by kernel_rfl
theorem kd_assignF (w : World) : (ReflectliteType.relation "AssignableTo" ReflectliteType.assignableTo #[.agg #[.pointer (some ⟨2, 101, none⟩)], .iface 118 (.agg #[.pointer (some ⟨2, 26, none⟩)])]).run Tryd.prog w = .ok (.bool false) w := by kernel_rfl
theorem kd_valueOfE (n : Int) (w : World) : (ReflectliteValue.unpack (.iface 26 (.int .i64 n))).run Tryd.prog w
    = .ok (.agg #[.pointer (some ⟨2, 26, none⟩), .pointer (some ⟨w.heap.size, 0, none⟩), .int .u64 130]) (w.alloc (.cells #[.int .i64 n] 26)) := by kernel_rfl
theorem kd_elemOf (w : World) : (Rtype.elem? 66).run Tryd.prog w = .ok (some 26) w := by kernel_rfl
theorem kd_mkE (p : Addr) (w : World) : (ReflectliteValue.mk 26 p ReflectliteValue.flagAddr).run Tryd.prog w = .ok (.agg #[.pointer (some ⟨2, 26, none⟩), .pointer (some p), .int .u64 386]) w := by kernel_rfl
theorem kd_elemV (a p : Addr) (W : World) (ha : W.cell? a = some (.pointer (some p))) :
    (ReflectliteValue.method (ReflectliteValue.valueError "reflectlite.Value.Elem" 0) ReflectliteValue.elem #[.agg #[.pointer (some ⟨2, 66, none⟩), .pointer (some a), .int .u64 150]]).run Tryd.prog W
      = .ok (.agg #[.pointer (some ⟨2, 26, none⟩), .pointer (some p), .int .u64 386]) W := by
  rw [kd_rlm]
  simp only [Sem.run_bind, kd_partsP, Result.andThen]
  simp [ReflectliteValue.elem, loadVar, isAgg, underlying, Tryd.underlying66, ha, Result.andThen, kd_elemOf, kd_mkE]
theorem kd_rls (v x : Value) : ReflectliteValue.set #[v, x] = (do
    let (some (dst, a, fl), some (src, b, _)) := (← ReflectliteValue.parts v, ← ReflectliteValue.parts x)
      | unsupported (.noEntry "extern/(internal/reflectlite.Value).Set.zeroValue")
    if fl / ReflectliteValue.flagAddr % 2 == 0 then unsupported (.noEntry "extern/(internal/reflectlite.Value).Set.unaddressable")
    let val ← loadVar src b
    if ← Rtype.directlyAssignable dst src then storeVar dst a val
    else if ← Rtype.implements dst src then
      if (← Rtype.kind src) == 20 then
        match val with
        | .nilIface => unsupported (.noEntry "extern/reflectlite: a nil value of one interface type handed on as a value of another")
        | _ => storeVar dst a val
      else storeVar dst a (.iface src val)
    else panicString ("reflectlite.Set: value of type " ++ (← Rtype.spelt src) ++ " is not assignable to type " ++ (← Rtype.spelt dst))
    pure (.tuple #[])) := rfl
theorem kd_partsA (a : Addr) (w : World) : (ReflectliteValue.parts (.agg #[.pointer (some ⟨2, 26, none⟩), .pointer (some a), .int .u64 386])).run Tryd.prog w = .ok (some (26, a, 386)) w := by kernel_rfl
theorem kd_partsE (a : Addr) (w : World) : (ReflectliteValue.parts (.agg #[.pointer (some ⟨2, 26, none⟩), .pointer (some a), .int .u64 130])).run Tryd.prog w = .ok (some (26, a, 130)) w := by kernel_rfl
theorem kd_direct (w : World) : (Rtype.directlyAssignable 26 26).run Tryd.prog w = .ok true w := by kernel_rfl
theorem kd_set (ta b : Addr) (n : Int) (old : Value) (W : World) (hb : W.cell? b = some (.int .i64 n)) (ht : W.cell? ta = some old) (hf : W.frozen? ta = false) :
    (ReflectliteValue.set #[.agg #[.pointer (some ⟨2, 26, none⟩), .pointer (some ta), .int .u64 386], .agg #[.pointer (some ⟨2, 26, none⟩), .pointer (some b), .int .u64 130]]).run Tryd.prog W
      = .ok (.tuple #[]) (W.setCell ta (.int .i64 n)) := by
  rw [kd_rls]
  simp only [Sem.run_bind, kd_partsA, kd_partsE, Result.andThen]
  simp [ReflectliteValue.flagAddr, loadVar, isAgg, underlying, Tryd.underlying26, hb, Result.andThen, kd_direct, storeVar, Value.cells, storeCells, Addr.add]
  rw [run_store Tryd.prog W ta _ _ (by rfl)]
  simp [ht, hf]

end Go.Proofs.YtfeikolfdggnfaaDoor
