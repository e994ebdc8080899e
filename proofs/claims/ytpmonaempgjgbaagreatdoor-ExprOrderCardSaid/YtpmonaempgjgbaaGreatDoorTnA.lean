/- Go's own text of errors.As, at **api.Fault and at *api.Errno: what it finds, and what it leaves in the heap. The lines are the guide's worked ToyasAs, turned to this program. -/
import Derived.Test.YtpmonaempgjgbaaGreatDoorChecked
import Derived.KernelRfl
import Derived.WalkKit
import Derived.LaidEql
import Derived.Stop.Asserts
import Derived.RowKitTokens
set_option linter.unusedSimpArgs false
set_option linter.unusedVariables false
namespace Go.Proofs.YtpmonaempgjgbaaGreatDoor.As
open Go.RowKit Go.Extern.Stop Go.Stop Go.Extern
set_option maxRecDepth 100000

theorem methodKind (h : Value) (w : World) : (Go.method 431 215 (.agg #[h]) "Kind").run Tryz.prog w = .ok (199, h) w := by kernel_rfl
theorem methodElem (h : Value) (w : World) : (Go.method 431 215 (.agg #[h]) "Elem").run Tryz.prog w = .ok (212, .agg #[h]) w := by kernel_rfl
theorem methodImplements (h : Value) (w : World) : (Go.method 431 215 (.agg #[h]) "Implements").run Tryz.prog w = .ok (213, .agg #[h]) w := by kernel_rfl
theorem methodAssignableTo (h : Value) (w : World) : (Go.method 431 215 (.agg #[h]) "AssignableTo").run Tryz.prog w = .ok (210, .agg #[h]) w := by kernel_rfl
theorem methodComparable (h : Value) (w : World) : (Go.method 431 215 (.agg #[h]) "Comparable").run Tryz.prog w = .ok (211, .agg #[h]) w := by kernel_rfl
theorem rlm (z : Sem Value) (f : TypeId → Addr → Nat → Nat → Sem Value) (v : Value) :
    ReflectliteValue.method z f #[v] = (do match ← ReflectliteValue.parts v with | none => z | some (t, a, fl) => f t a fl (fl % 32)) := rfl
theorem rls (v x : Value) : ReflectliteValue.set #[v, x] = (do
    let (some (dst, a, fl), some (src, b, _)) := (← ReflectliteValue.parts v, ← ReflectliteValue.parts x)
      | unsupported (.noEntry "extern/(internal/reflectlite.Value).Set.zeroValue")
    if fl / ReflectliteValue.flagAddr % 2 == 0 then unsupported (.noEntry "extern/(internal/reflectlite.Value).Set.unaddressable")
    let val ← loadVar src b
    if ← Rtype.directlyAssignable dst src then storeVar dst a val
    else if ← Rtype.implements dst src then
      if (← Rtype.kind src) == 20 then
        match val with
        | .nilIface => unsupported (.noEntry "extern/reflectlite: a nil value of one interface type handed on as a value of another")
        | _ => storeVar dst a val
      else storeVar dst a (.iface src val)
    else panicString ("reflectlite.Set: value of type " ++ (← Rtype.spelt src) ++ " is not assignable to type " ++ (← Rtype.spelt dst))
    pure (.tuple #[])) := rfl

theorem valueOfPF (t : Addr) (w : World) : (ReflectliteValue.unpack (.iface 137 (.pointer (some t)))).run Tryz.prog w
    = .ok (.agg #[.pointer (some ⟨10, 137, none⟩), .pointer (some ⟨w.heap.size, 0, none⟩), .int .u64 150]) (w.alloc (.cells #[.pointer (some t)] 137)) := by kernel_rfl
theorem typePF (a : Addr) (w : World) : (ReflectliteValue.methodAny (ReflectliteValue.valueError "reflectlite.Value.Type" 0) (fun t _ _ _ => ReflectliteType.toType t) #[.agg #[.pointer (some ⟨10, 137, none⟩), .pointer (some a), .int .u64 150]]).run Tryz.prog w
    = .ok (.iface 215 (.agg #[.pointer (some ⟨10, 137, none⟩)])) w := by kernel_rfl
theorem kindPF (w : World) : ((ReflectliteType.abiMethod fun t => (fun a : Nat => Value.int IntKind.u8 (a : Int)) <$> Rtype.kind t) #[.pointer (some ⟨10, 137, none⟩)]).run Tryz.prog w = .ok (.int .u8 22) w := by kernel_rfl
theorem kindEF (w : World) : ((ReflectliteType.abiMethod fun t => (fun a : Nat => Value.int IntKind.u8 (a : Int)) <$> Rtype.kind t) #[.pointer (some ⟨10, 135, none⟩)]).run Tryz.prog w = .ok (.int .u8 22) w := by kernel_rfl
theorem partsPF (a : Addr) (w : World) : (ReflectliteValue.parts (.agg #[.pointer (some ⟨10, 137, none⟩), .pointer (some a), .int .u64 150])).run Tryz.prog w = .ok (some (137, a, 150)) w := by kernel_rfl
theorem isNilPF (a p : Addr) (W : World) (ha : W.cell? a = some (.pointer (some p))) :
    (ReflectliteValue.method (ReflectliteValue.valueError "reflectlite.Value.IsNil" 0) ReflectliteValue.isNil #[.agg #[.pointer (some ⟨10, 137, none⟩), .pointer (some a), .int .u64 150]]).run Tryz.prog W = .ok (.bool false) W := by
  rw [rlm]
  simp only [Sem.run_bind, partsPF, Result.andThen]
  simp [ReflectliteValue.isNil, loadVar, isAgg, underlying, Tryz.underlying137, ha, Result.andThen]
theorem elemPF (w : World) : (ReflectliteType.method ReflectliteType.elem #[.agg #[.pointer (some ⟨10, 137, none⟩)]]).run Tryz.prog w = .ok (.iface 215 (.agg #[.pointer (some ⟨10, 135, none⟩)])) w := by kernel_rfl
theorem implementsEF (w : World) : (ReflectliteType.relation "Implements" ReflectliteType.implements_ #[.agg #[.pointer (some ⟨10, 135, none⟩)], .iface 215 (.agg #[.pointer (some ⟨10, 50, none⟩)])]).run Tryz.prog w = .ok (.bool true) w := by kernel_rfl
theorem typeOfEF (v : Value) (w : World) : (ReflectliteType.typeOf #[.iface 135 v]).run Tryz.prog w = .ok (.iface 215 (.agg #[.pointer (some ⟨10, 135, none⟩)])) w := by kernel_rfl
theorem assignableEF (w : World) : (ReflectliteType.relation "AssignableTo" ReflectliteType.assignableTo #[.agg #[.pointer (some ⟨10, 135, none⟩)], .iface 215 (.agg #[.pointer (some ⟨10, 135, none⟩)])]).run Tryz.prog w = .ok (.bool true) w := by kernel_rfl
theorem valueOfEF (e : Addr) (w : World) : (ReflectliteValue.unpack (.iface 135 (.pointer (some e)))).run Tryz.prog w
    = .ok (.agg #[.pointer (some ⟨10, 135, none⟩), .pointer (some ⟨w.heap.size, 0, none⟩), .int .u64 150]) (w.alloc (.cells #[.pointer (some e)] 135)) := by kernel_rfl
theorem elemOfPF (w : World) : (Rtype.elem? 137).run Tryz.prog w = .ok (some 135) w := by kernel_rfl
theorem mkEF (p : Addr) (w : World) : (ReflectliteValue.mk 135 p ReflectliteValue.flagAddr).run Tryz.prog w = .ok (.agg #[.pointer (some ⟨10, 135, none⟩), .pointer (some p), .int .u64 406]) w := by kernel_rfl
theorem elemVPF (a p : Addr) (W : World) (ha : W.cell? a = some (.pointer (some p))) :
    (ReflectliteValue.method (ReflectliteValue.valueError "reflectlite.Value.Elem" 0) ReflectliteValue.elem #[.agg #[.pointer (some ⟨10, 137, none⟩), .pointer (some a), .int .u64 150]]).run Tryz.prog W
      = .ok (.agg #[.pointer (some ⟨10, 135, none⟩), .pointer (some p), .int .u64 406]) W := by
  rw [rlm]
  simp only [Sem.run_bind, partsPF, Result.andThen]
  simp [ReflectliteValue.elem, loadVar, isAgg, underlying, Tryz.underlying137, ha, Result.andThen, elemOfPF, mkEF]
theorem partsAF (a : Addr) (w : World) : (ReflectliteValue.parts (.agg #[.pointer (some ⟨10, 135, none⟩), .pointer (some a), .int .u64 406])).run Tryz.prog w = .ok (some (135, a, 406)) w := by kernel_rfl
theorem partsEF (a : Addr) (w : World) : (ReflectliteValue.parts (.agg #[.pointer (some ⟨10, 135, none⟩), .pointer (some a), .int .u64 150])).run Tryz.prog w = .ok (some (135, a, 150)) w := by kernel_rfl
theorem directEF (w : World) : (Rtype.directlyAssignable 135 135).run Tryz.prog w = .ok true w := by kernel_rfl
theorem setEF (ta b : Addr) (e : Addr) (old : Value) (W : World) (hb : W.cell? b = some (.pointer (some e))) (ht : W.cell? ta = some old) (hf : W.frozen? ta = false) :
    (ReflectliteValue.set #[.agg #[.pointer (some ⟨10, 135, none⟩), .pointer (some ta), .int .u64 406], .agg #[.pointer (some ⟨10, 135, none⟩), .pointer (some b), .int .u64 150]]).run Tryz.prog W
      = .ok (.tuple #[]) (W.setCell ta (.pointer (some e))) := by
  rw [rls]
  simp only [Sem.run_bind, partsAF, partsEF, Result.andThen]
  simp [ReflectliteValue.flagAddr, loadVar, isAgg, underlying, Tryz.underlying135, hb, Result.andThen, directEF, storeVar, Value.cells, storeCells, Addr.add]
  rw [run_store Tryz.prog W ta _ _ (by rfl)]
  simp [ht, hf]

theorem valueOfPN (t : Addr) (w : World) : (ReflectliteValue.unpack (.iface 142 (.pointer (some t)))).run Tryz.prog w
    = .ok (.agg #[.pointer (some ⟨10, 142, none⟩), .pointer (some ⟨w.heap.size, 0, none⟩), .int .u64 150]) (w.alloc (.cells #[.pointer (some t)] 142)) := by kernel_rfl
theorem typePN (a : Addr) (w : World) : (ReflectliteValue.methodAny (ReflectliteValue.valueError "reflectlite.Value.Type" 0) (fun t _ _ _ => ReflectliteType.toType t) #[.agg #[.pointer (some ⟨10, 142, none⟩), .pointer (some a), .int .u64 150]]).run Tryz.prog w
    = .ok (.iface 215 (.agg #[.pointer (some ⟨10, 142, none⟩)])) w := by kernel_rfl
theorem kindPN (w : World) : ((ReflectliteType.abiMethod fun t => (fun a : Nat => Value.int IntKind.u8 (a : Int)) <$> Rtype.kind t) #[.pointer (some ⟨10, 142, none⟩)]).run Tryz.prog w = .ok (.int .u8 22) w := by kernel_rfl
theorem kindEN (w : World) : ((ReflectliteType.abiMethod fun t => (fun a : Nat => Value.int IntKind.u8 (a : Int)) <$> Rtype.kind t) #[.pointer (some ⟨10, 132, none⟩)]).run Tryz.prog w = .ok (.int .u8 2) w := by kernel_rfl
theorem partsPN (a : Addr) (w : World) : (ReflectliteValue.parts (.agg #[.pointer (some ⟨10, 142, none⟩), .pointer (some a), .int .u64 150])).run Tryz.prog w = .ok (some (142, a, 150)) w := by kernel_rfl
theorem isNilPN (a p : Addr) (W : World) (ha : W.cell? a = some (.pointer (some p))) :
    (ReflectliteValue.method (ReflectliteValue.valueError "reflectlite.Value.IsNil" 0) ReflectliteValue.isNil #[.agg #[.pointer (some ⟨10, 142, none⟩), .pointer (some a), .int .u64 150]]).run Tryz.prog W = .ok (.bool false) W := by
  rw [rlm]
  simp only [Sem.run_bind, partsPN, Result.andThen]
  simp [ReflectliteValue.isNil, loadVar, isAgg, underlying, Tryz.underlying142, ha, Result.andThen]
theorem elemPN (w : World) : (ReflectliteType.method ReflectliteType.elem #[.agg #[.pointer (some ⟨10, 142, none⟩)]]).run Tryz.prog w = .ok (.iface 215 (.agg #[.pointer (some ⟨10, 132, none⟩)])) w := by kernel_rfl
theorem implementsEN (w : World) : (ReflectliteType.relation "Implements" ReflectliteType.implements_ #[.agg #[.pointer (some ⟨10, 132, none⟩)], .iface 215 (.agg #[.pointer (some ⟨10, 50, none⟩)])]).run Tryz.prog w = .ok (.bool true) w := by kernel_rfl
theorem typeOfEN (v : Value) (w : World) : (ReflectliteType.typeOf #[.iface 132 v]).run Tryz.prog w = .ok (.iface 215 (.agg #[.pointer (some ⟨10, 132, none⟩)])) w := by kernel_rfl
theorem assignableEN (w : World) : (ReflectliteType.relation "AssignableTo" ReflectliteType.assignableTo #[.agg #[.pointer (some ⟨10, 132, none⟩)], .iface 215 (.agg #[.pointer (some ⟨10, 132, none⟩)])]).run Tryz.prog w = .ok (.bool true) w := by kernel_rfl
theorem valueOfEN (n : Int) (w : World) : (ReflectliteValue.unpack (.iface 132 (.int .i64 n))).run Tryz.prog w
    = .ok (.agg #[.pointer (some ⟨10, 132, none⟩), .pointer (some ⟨w.heap.size, 0, none⟩), .int .u64 130]) (w.alloc (.cells #[.int .i64 n] 132)) := by kernel_rfl
theorem elemOfPN (w : World) : (Rtype.elem? 142).run Tryz.prog w = .ok (some 132) w := by kernel_rfl
theorem mkEN (p : Addr) (w : World) : (ReflectliteValue.mk 132 p ReflectliteValue.flagAddr).run Tryz.prog w = .ok (.agg #[.pointer (some ⟨10, 132, none⟩), .pointer (some p), .int .u64 386]) w := by kernel_rfl
theorem elemVPN (a p : Addr) (W : World) (ha : W.cell? a = some (.pointer (some p))) :
    (ReflectliteValue.method (ReflectliteValue.valueError "reflectlite.Value.Elem" 0) ReflectliteValue.elem #[.agg #[.pointer (some ⟨10, 142, none⟩), .pointer (some a), .int .u64 150]]).run Tryz.prog W
      = .ok (.agg #[.pointer (some ⟨10, 132, none⟩), .pointer (some p), .int .u64 386]) W := by
  rw [rlm]
  simp only [Sem.run_bind, partsPN, Result.andThen]
  simp [ReflectliteValue.elem, loadVar, isAgg, underlying, Tryz.underlying142, ha, Result.andThen, elemOfPN, mkEN]
theorem partsAN (a : Addr) (w : World) : (ReflectliteValue.parts (.agg #[.pointer (some ⟨10, 132, none⟩), .pointer (some a), .int .u64 386])).run Tryz.prog w = .ok (some (132, a, 386)) w := by kernel_rfl
theorem partsEN (a : Addr) (w : World) : (ReflectliteValue.parts (.agg #[.pointer (some ⟨10, 132, none⟩), .pointer (some a), .int .u64 130])).run Tryz.prog w = .ok (some (132, a, 130)) w := by kernel_rfl
theorem directEN (w : World) : (Rtype.directlyAssignable 132 132).run Tryz.prog w = .ok true w := by kernel_rfl
theorem setEN (ta b : Addr) (n : Int) (old : Value) (W : World) (hb : W.cell? b = some (.int .i64 n)) (ht : W.cell? ta = some old) (hf : W.frozen? ta = false) :
    (ReflectliteValue.set #[.agg #[.pointer (some ⟨10, 132, none⟩), .pointer (some ta), .int .u64 386], .agg #[.pointer (some ⟨10, 132, none⟩), .pointer (some b), .int .u64 130]]).run Tryz.prog W
      = .ok (.tuple #[]) (W.setCell ta (.int .i64 n)) := by
  rw [rls]
  simp only [Sem.run_bind, partsAN, partsEN, Result.andThen]
  simp [ReflectliteValue.flagAddr, loadVar, isAgg, underlying, Tryz.underlying132, hb, Result.andThen, directEN, storeVar, Value.cells, storeCells, Addr.add]
  rw [run_store Tryz.prog W ta _ _ (by rfl)]
  simp [ht, hf]

set_option maxHeartbeats 4000000 in
theorem hitF (e : Addr) (t : Addr) (old : Value) (w : World) (hg : w.cell? ⟨0, 0, none⟩ = some (.iface 215 (.agg #[.pointer (some ⟨10, 50, none⟩)]))) (ht0 : w.cell? t = some old) (hf0 : w.frozen? t = false) :
    Calls Tryz.prog 62 #[.iface 135 (.pointer (some e)), .iface 137 (.pointer (some t))] w fun ev w' => ev = .returned (.bool true) ∧ w' = ((((w.alloc (.cells #[.pointer (some t)] 137)).alloc (.cells #[.pointer (some ⟨10, 137, none⟩), .pointer (some ⟨w.heap.size, 0, none⟩), .int .u64 150] 178)).alloc (.cells #[.pointer (some ⟨10, 137, none⟩), .pointer (some ⟨w.heap.size, 0, none⟩), .int .u64 150] 178)).alloc (.cells #[.pointer (some e)] 135)).setCell t (.pointer (some e)) := by
  have hVal := @run_callFunc_extern Tryz.prog 95 _ (fun args => ReflectliteValue.unpack (args.getD 0 (.tuple #[]))) Tryz.func95 (by kernel_rfl) (by kernel_rfl) (by kernel_rfl) (by kernel_rfl)
  have hTyp := @run_callFunc_extern Tryz.prog 96 _ (ReflectliteValue.methodAny (ReflectliteValue.valueError "reflectlite.Value.Type" 0) (fun t _ _ _ => ReflectliteType.toType t)) Tryz.func96 (by kernel_rfl) (by kernel_rfl) (by kernel_rfl) (by kernel_rfl)
  have hNil := @run_callFunc_extern Tryz.prog 97 _ (ReflectliteValue.method (ReflectliteValue.valueError "reflectlite.Value.IsNil" 0) ReflectliteValue.isNil) Tryz.func97 (by kernel_rfl) (by kernel_rfl) (by kernel_rfl) (by kernel_rfl)
  have hKnd := @run_callFunc_extern Tryz.prog 199 _ (ReflectliteType.abiMethod fun t => do pure (.int .u8 (← Rtype.kind t))) Tryz.func199 (by kernel_rfl) (by kernel_rfl) (by kernel_rfl) (by kernel_rfl)
  have hElt := @run_callFunc_extern Tryz.prog 212 _ (ReflectliteType.method ReflectliteType.elem) Tryz.func212 (by kernel_rfl) (by kernel_rfl) (by kernel_rfl) (by kernel_rfl)
  have hImp := @run_callFunc_extern Tryz.prog 213 _ (ReflectliteType.relation "Implements" ReflectliteType.implements_) Tryz.func213 (by kernel_rfl) (by kernel_rfl) (by kernel_rfl) (by kernel_rfl)
  have hTOf := @run_callFunc_extern Tryz.prog 93 _ ReflectliteType.typeOf Tryz.func93 (by kernel_rfl) (by kernel_rfl) (by kernel_rfl) (by kernel_rfl)
  have hAss := @run_callFunc_extern Tryz.prog 210 _ (ReflectliteType.relation "AssignableTo" ReflectliteType.assignableTo) Tryz.func210 (by kernel_rfl) (by kernel_rfl) (by kernel_rfl) (by kernel_rfl)
  have hElm := @run_callFunc_extern Tryz.prog 122 _ (ReflectliteValue.method (ReflectliteValue.valueError "reflectlite.Value.Elem" 0) ReflectliteValue.elem) Tryz.func122 (by kernel_rfl) (by kernel_rfl) (by kernel_rfl) (by kernel_rfl)
  have hSet := @run_callFunc_extern Tryz.prog 123 _ ReflectliteValue.set Tryz.func123 (by kernel_rfl) (by kernel_rfl) (by kernel_rfl) (by kernel_rfl)
  have mK := methodKind
  have mE := methodElem
  have mI := methodImplements
  have mA := methodAssignableTo
  have f6 := valueOfPF
  have f7 := typePF
  have k27 := kindPF
  have k25 := kindEF
  have e27 := elemPF
  have i25 := implementsEF
  have n8 := isNilPF ⟨w.heap.size, 0, none⟩ t ((w.alloc (.cells #[.pointer (some t)] 137)).alloc (.cells #[.pointer (some ⟨10, 137, none⟩), .pointer (some ⟨w.heap.size, 0, none⟩), .int .u64 150] 178)) (by simp)
  have hlt : 0 < w.heap.size := by
    rcases Nat.lt_or_ge 0 w.heap.size with h | h
    · exact h
    · simp [World.cell?, Array.getElem?_eq_none h] at hg
  have hg2 : ((w.alloc (.cells #[.pointer (some t)] 137)).alloc (.cells #[.pointer (some ⟨10, 137, none⟩), .pointer (some ⟨w.heap.size, 0, none⟩), .int .u64 150] 178)).cell? ⟨0, 0, none⟩ = some (.iface 215 (.agg #[.pointer (some ⟨10, 50, none⟩)])) := by
    rw [World.cell?_alloc_lt _ _ ⟨0, 0, none⟩ (by simp <;> omega), World.cell?_alloc_lt _ _ ⟨0, 0, none⟩ hlt]; exact hg
  have tO := typeOfEF
  have a25 := assignableEF
  have v25 := valueOfEF
  have htl : t.block < w.heap.size := by
    rcases Nat.lt_or_ge t.block w.heap.size with h | h
    · exact h
    · simp [World.cell?, Array.getElem?_eq_none h] at ht0
  have el := elemVPF ⟨w.heap.size, 0, none⟩ t (((w.alloc (.cells #[.pointer (some t)] 137)).alloc (.cells #[.pointer (some ⟨10, 137, none⟩), .pointer (some ⟨w.heap.size, 0, none⟩), .int .u64 150] 178)).alloc (.cells #[.pointer (some ⟨10, 137, none⟩), .pointer (some ⟨w.heap.size, 0, none⟩), .int .u64 150] 178)) (by rw [World.cell?_alloc_lt _ _ ⟨w.heap.size, 0, none⟩ (by simp; omega)]; simp)
  have st := setEF t ⟨w.heap.size + 1 + 1 + 1, 0, none⟩ e old ((((w.alloc (.cells #[.pointer (some t)] 137)).alloc (.cells #[.pointer (some ⟨10, 137, none⟩), .pointer (some ⟨w.heap.size, 0, none⟩), .int .u64 150] 178)).alloc (.cells #[.pointer (some ⟨10, 137, none⟩), .pointer (some ⟨w.heap.size, 0, none⟩), .int .u64 150] 178)).alloc (.cells #[.pointer (some e)] 135))
    (by rw [World.cell?_alloc_at _ _ _ _ (by simp)]; rfl)
    (by rw [World.cell?_alloc_lt _ _ t (by simp; omega), World.cell?_alloc_lt _ _ t (by simp; omega), World.cell?_alloc_lt _ _ t (by simp; omega), World.cell?_alloc_lt _ _ t htl]; exact ht0)
    (by rw [World.frozen?_alloc_old _ _ t (by simp; omega), World.frozen?_alloc_old _ _ t (by simp; omega), World.frozen?_alloc_old _ _ t (by simp; omega), World.frozen?_alloc_old _ _ t (Nat.ne_of_lt htl)]; exact hf0)
  go_enter Tryz.func62, Tryz.ntmps62
  go_wp2
  refine wp_loop_rounds 1 ?_
  rw [rounds_succ]
  go_wp2
  go_ret
  exact ⟨rfl, rfl⟩

set_option maxHeartbeats 4000000 in
theorem hitN (n : Int) (t : Addr) (old : Value) (w : World) (hg : w.cell? ⟨0, 0, none⟩ = some (.iface 215 (.agg #[.pointer (some ⟨10, 50, none⟩)]))) (ht0 : w.cell? t = some old) (hf0 : w.frozen? t = false) :
    Calls Tryz.prog 62 #[.iface 132 (.int .i64 n), .iface 142 (.pointer (some t))] w fun ev w' => ev = .returned (.bool true) ∧ w' = ((((w.alloc (.cells #[.pointer (some t)] 142)).alloc (.cells #[.pointer (some ⟨10, 142, none⟩), .pointer (some ⟨w.heap.size, 0, none⟩), .int .u64 150] 178)).alloc (.cells #[.pointer (some ⟨10, 142, none⟩), .pointer (some ⟨w.heap.size, 0, none⟩), .int .u64 150] 178)).alloc (.cells #[.int .i64 n] 132)).setCell t (.int .i64 n) := by
  have hVal := @run_callFunc_extern Tryz.prog 95 _ (fun args => ReflectliteValue.unpack (args.getD 0 (.tuple #[]))) Tryz.func95 (by kernel_rfl) (by kernel_rfl) (by kernel_rfl) (by kernel_rfl)
  have hTyp := @run_callFunc_extern Tryz.prog 96 _ (ReflectliteValue.methodAny (ReflectliteValue.valueError "reflectlite.Value.Type" 0) (fun t _ _ _ => ReflectliteType.toType t)) Tryz.func96 (by kernel_rfl) (by kernel_rfl) (by kernel_rfl) (by kernel_rfl)
  have hNil := @run_callFunc_extern Tryz.prog 97 _ (ReflectliteValue.method (ReflectliteValue.valueError "reflectlite.Value.IsNil" 0) ReflectliteValue.isNil) Tryz.func97 (by kernel_rfl) (by kernel_rfl) (by kernel_rfl) (by kernel_rfl)
  have hKnd := @run_callFunc_extern Tryz.prog 199 _ (ReflectliteType.abiMethod fun t => do pure (.int .u8 (← Rtype.kind t))) Tryz.func199 (by kernel_rfl) (by kernel_rfl) (by kernel_rfl) (by kernel_rfl)
  have hElt := @run_callFunc_extern Tryz.prog 212 _ (ReflectliteType.method ReflectliteType.elem) Tryz.func212 (by kernel_rfl) (by kernel_rfl) (by kernel_rfl) (by kernel_rfl)
  have hImp := @run_callFunc_extern Tryz.prog 213 _ (ReflectliteType.relation "Implements" ReflectliteType.implements_) Tryz.func213 (by kernel_rfl) (by kernel_rfl) (by kernel_rfl) (by kernel_rfl)
  have hTOf := @run_callFunc_extern Tryz.prog 93 _ ReflectliteType.typeOf Tryz.func93 (by kernel_rfl) (by kernel_rfl) (by kernel_rfl) (by kernel_rfl)
  have hAss := @run_callFunc_extern Tryz.prog 210 _ (ReflectliteType.relation "AssignableTo" ReflectliteType.assignableTo) Tryz.func210 (by kernel_rfl) (by kernel_rfl) (by kernel_rfl) (by kernel_rfl)
  have hElm := @run_callFunc_extern Tryz.prog 122 _ (ReflectliteValue.method (ReflectliteValue.valueError "reflectlite.Value.Elem" 0) ReflectliteValue.elem) Tryz.func122 (by kernel_rfl) (by kernel_rfl) (by kernel_rfl) (by kernel_rfl)
  have hSet := @run_callFunc_extern Tryz.prog 123 _ ReflectliteValue.set Tryz.func123 (by kernel_rfl) (by kernel_rfl) (by kernel_rfl) (by kernel_rfl)
  have mK := methodKind
  have mE := methodElem
  have mI := methodImplements
  have mA := methodAssignableTo
  have f6 := valueOfPN
  have f7 := typePN
  have k27 := kindPN
  have k25 := kindEN
  have e27 := elemPN
  have i25 := implementsEN
  have n8 := isNilPN ⟨w.heap.size, 0, none⟩ t ((w.alloc (.cells #[.pointer (some t)] 142)).alloc (.cells #[.pointer (some ⟨10, 142, none⟩), .pointer (some ⟨w.heap.size, 0, none⟩), .int .u64 150] 178)) (by simp)
  have hlt : 0 < w.heap.size := by
    rcases Nat.lt_or_ge 0 w.heap.size with h | h
    · exact h
    · simp [World.cell?, Array.getElem?_eq_none h] at hg
  have hg2 : ((w.alloc (.cells #[.pointer (some t)] 142)).alloc (.cells #[.pointer (some ⟨10, 142, none⟩), .pointer (some ⟨w.heap.size, 0, none⟩), .int .u64 150] 178)).cell? ⟨0, 0, none⟩ = some (.iface 215 (.agg #[.pointer (some ⟨10, 50, none⟩)])) := by
    rw [World.cell?_alloc_lt _ _ ⟨0, 0, none⟩ (by simp <;> omega), World.cell?_alloc_lt _ _ ⟨0, 0, none⟩ hlt]; exact hg
  have tO := typeOfEN
  have a25 := assignableEN
  have v25 := valueOfEN
  have htl : t.block < w.heap.size := by
    rcases Nat.lt_or_ge t.block w.heap.size with h | h
    · exact h
    · simp [World.cell?, Array.getElem?_eq_none h] at ht0
  have el := elemVPN ⟨w.heap.size, 0, none⟩ t (((w.alloc (.cells #[.pointer (some t)] 142)).alloc (.cells #[.pointer (some ⟨10, 142, none⟩), .pointer (some ⟨w.heap.size, 0, none⟩), .int .u64 150] 178)).alloc (.cells #[.pointer (some ⟨10, 142, none⟩), .pointer (some ⟨w.heap.size, 0, none⟩), .int .u64 150] 178)) (by rw [World.cell?_alloc_lt _ _ ⟨w.heap.size, 0, none⟩ (by simp; omega)]; simp)
  have st := setEN t ⟨w.heap.size + 1 + 1 + 1, 0, none⟩ n old ((((w.alloc (.cells #[.pointer (some t)] 142)).alloc (.cells #[.pointer (some ⟨10, 142, none⟩), .pointer (some ⟨w.heap.size, 0, none⟩), .int .u64 150] 178)).alloc (.cells #[.pointer (some ⟨10, 142, none⟩), .pointer (some ⟨w.heap.size, 0, none⟩), .int .u64 150] 178)).alloc (.cells #[.int .i64 n] 132))
    (by rw [World.cell?_alloc_at _ _ _ _ (by simp)]; rfl)
    (by rw [World.cell?_alloc_lt _ _ t (by simp; omega), World.cell?_alloc_lt _ _ t (by simp; omega), World.cell?_alloc_lt _ _ t (by simp; omega), World.cell?_alloc_lt _ _ t htl]; exact ht0)
    (by rw [World.frozen?_alloc_old _ _ t (by simp; omega), World.frozen?_alloc_old _ _ t (by simp; omega), World.frozen?_alloc_old _ _ t (by simp; omega), World.frozen?_alloc_old _ _ t (Nat.ne_of_lt htl)]; exact hf0)
  go_enter Tryz.func62, Tryz.ntmps62
  go_wp2
  refine wp_loop_rounds 1 ?_
  rw [rounds_succ]
  go_wp2
  go_ret
  exact ⟨rfl, rfl⟩

theorem assignableX (w : World) : (ReflectliteType.relation "AssignableTo" ReflectliteType.assignableTo #[.agg #[.pointer (some ⟨10, 132, none⟩)], .iface 215 (.agg #[.pointer (some ⟨10, 135, none⟩)])]).run Tryz.prog w = .ok (.bool false) w := by kernel_rfl
theorem noAs (v : Value) (xT : TypeId) (w : World) : (Instr.typeAssert (.iface 132 v) xT 227 true).run Tryz.prog w = .ok (.tuple #[.nilIface, .bool false]) w := run_typeAssert_lacksB Tryz.underlying227 (by kernel_rfl) (by kernel_rfl) v xT w
theorem noIs (v : Value) (xT : TypeId) (w : World) : (Instr.typeAssert (.iface 132 v) xT 217 true).run Tryz.prog w = .ok (.tuple #[.nilIface, .bool false]) w := run_typeAssert_lacksB Tryz.underlying217 (by kernel_rfl) (by kernel_rfl) v xT w
theorem noUn (v : Value) (xT : TypeId) (w : World) : (Instr.typeAssert (.iface 132 v) xT 220 true).run Tryz.prog w = .ok (.tuple #[.nilIface, .bool false]) w := run_typeAssert_lacksB Tryz.underlying220 (by kernel_rfl) (by kernel_rfl) v xT w
theorem noUs (v : Value) (xT : TypeId) (w : World) : (Instr.typeAssert (.iface 132 v) xT 222 true).run Tryz.prog w = .ok (.tuple #[.nilIface, .bool false]) w := run_typeAssert_lacksB Tryz.underlying222 (by kernel_rfl) (by kernel_rfl) v xT w

set_option maxHeartbeats 4000000 in
theorem missF (n : Int) (t : Addr) (w : World) (hg : w.cell? ⟨0, 0, none⟩ = some (.iface 215 (.agg #[.pointer (some ⟨10, 50, none⟩)]))) :
    Calls Tryz.prog 62 #[.iface 132 (.int .i64 n), .iface 137 (.pointer (some t))] w fun ev w' => ev = .returned (.bool false) ∧ w' = (((w.alloc (.cells #[.pointer (some t)] 137)).alloc (.cells #[.pointer (some ⟨10, 137, none⟩), .pointer (some ⟨w.heap.size, 0, none⟩), .int .u64 150] 178)).alloc (.cells #[.pointer (some ⟨10, 137, none⟩), .pointer (some ⟨w.heap.size, 0, none⟩), .int .u64 150] 178)) := by
  have hVal := @run_callFunc_extern Tryz.prog 95 _ (fun args => ReflectliteValue.unpack (args.getD 0 (.tuple #[]))) Tryz.func95 (by kernel_rfl) (by kernel_rfl) (by kernel_rfl) (by kernel_rfl)
  have hTyp := @run_callFunc_extern Tryz.prog 96 _ (ReflectliteValue.methodAny (ReflectliteValue.valueError "reflectlite.Value.Type" 0) (fun t _ _ _ => ReflectliteType.toType t)) Tryz.func96 (by kernel_rfl) (by kernel_rfl) (by kernel_rfl) (by kernel_rfl)
  have hNil := @run_callFunc_extern Tryz.prog 97 _ (ReflectliteValue.method (ReflectliteValue.valueError "reflectlite.Value.IsNil" 0) ReflectliteValue.isNil) Tryz.func97 (by kernel_rfl) (by kernel_rfl) (by kernel_rfl) (by kernel_rfl)
  have hKnd := @run_callFunc_extern Tryz.prog 199 _ (ReflectliteType.abiMethod fun t => do pure (.int .u8 (← Rtype.kind t))) Tryz.func199 (by kernel_rfl) (by kernel_rfl) (by kernel_rfl) (by kernel_rfl)
  have hElt := @run_callFunc_extern Tryz.prog 212 _ (ReflectliteType.method ReflectliteType.elem) Tryz.func212 (by kernel_rfl) (by kernel_rfl) (by kernel_rfl) (by kernel_rfl)
  have hImp := @run_callFunc_extern Tryz.prog 213 _ (ReflectliteType.relation "Implements" ReflectliteType.implements_) Tryz.func213 (by kernel_rfl) (by kernel_rfl) (by kernel_rfl) (by kernel_rfl)
  have hTOf := @run_callFunc_extern Tryz.prog 93 _ ReflectliteType.typeOf Tryz.func93 (by kernel_rfl) (by kernel_rfl) (by kernel_rfl) (by kernel_rfl)
  have hAss := @run_callFunc_extern Tryz.prog 210 _ (ReflectliteType.relation "AssignableTo" ReflectliteType.assignableTo) Tryz.func210 (by kernel_rfl) (by kernel_rfl) (by kernel_rfl) (by kernel_rfl)
  have hElm := @run_callFunc_extern Tryz.prog 122 _ (ReflectliteValue.method (ReflectliteValue.valueError "reflectlite.Value.Elem" 0) ReflectliteValue.elem) Tryz.func122 (by kernel_rfl) (by kernel_rfl) (by kernel_rfl) (by kernel_rfl)
  have hSet := @run_callFunc_extern Tryz.prog 123 _ ReflectliteValue.set Tryz.func123 (by kernel_rfl) (by kernel_rfl) (by kernel_rfl) (by kernel_rfl)
  have mK := methodKind
  have mE := methodElem
  have mI := methodImplements
  have mA := methodAssignableTo
  have f6 := valueOfPF
  have f7 := typePF
  have k27 := kindPF
  have k25 := kindEF
  have e27 := elemPF
  have i25 := implementsEF
  have n8 := isNilPF ⟨w.heap.size, 0, none⟩ t ((w.alloc (.cells #[.pointer (some t)] 137)).alloc (.cells #[.pointer (some ⟨10, 137, none⟩), .pointer (some ⟨w.heap.size, 0, none⟩), .int .u64 150] 178)) (by simp)
  have hlt : 0 < w.heap.size := by
    rcases Nat.lt_or_ge 0 w.heap.size with h | h
    · exact h
    · simp [World.cell?, Array.getElem?_eq_none h] at hg
  have hg2 : ((w.alloc (.cells #[.pointer (some t)] 137)).alloc (.cells #[.pointer (some ⟨10, 137, none⟩), .pointer (some ⟨w.heap.size, 0, none⟩), .int .u64 150] 178)).cell? ⟨0, 0, none⟩ = some (.iface 215 (.agg #[.pointer (some ⟨10, 50, none⟩)])) := by
    rw [World.cell?_alloc_lt _ _ ⟨0, 0, none⟩ (by simp <;> omega), World.cell?_alloc_lt _ _ ⟨0, 0, none⟩ hlt]; exact hg
  have tO := typeOfEN
  have a25 := assignableX
  have b1 := noAs
  have b2 := noUn
  have b3 := noUs
  go_enter Tryz.func62, Tryz.ntmps62
  go_wp2
  refine wp_loop_rounds 1 ?_
  rw [rounds_succ]
  go_wp2
  go_ret
  exact ⟨rfl, rfl⟩
end Go.Proofs.YtpmonaempgjgbaaGreatDoor.As
