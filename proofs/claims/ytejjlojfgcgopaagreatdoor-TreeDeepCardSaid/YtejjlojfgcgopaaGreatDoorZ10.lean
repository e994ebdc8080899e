/- Go's own text of errors.As, at **api.Fault and at *api.Errno .. errors.Is and errors.As at faults and error numbers, as cont -/
import Derived.Test.YtejjlojfgcgopaaGreatDoorZ7
import Derived.Test.YtejjlojfgcgopaaGreatDoorZ4
import Derived.Test.YtejjlojfgcgopaaGreatDoorChecked
import Derived.KernelRfl
import Derived.WalkKit
import Derived.LaidEql
import Derived.Stop.Asserts
import Derived.RowKitTokens
set_option linter.unusedSimpArgs false
set_option linter.unusedVariables false
namespace Go.Proofs.YtejjlojfgcgopaaGreatDoor.As
open Go.RowKit Go.Extern.Stop Go.Stop Go.Extern
set_option maxRecDepth 100000
theorem methodKind (h : Value) (w : World) : (Go.method 491 266 (.agg #[h]) "Kind").run Tryz.prog w = .ok (251, h) w := by kernel_rfl
theorem methodElem (h : Value) (w : World) : (Go.method 491 266 (.agg #[h]) "Elem").run Tryz.prog w = .ok (264, .agg #[h]) w := by kernel_rfl
theorem methodImplements (h : Value) (w : World) : (Go.method 491 266 (.agg #[h]) "Implements").run Tryz.prog w = .ok (265, .agg #[h]) w := by kernel_rfl
theorem methodAssignableTo (h : Value) (w : World) : (Go.method 491 266 (.agg #[h]) "AssignableTo").run Tryz.prog w = .ok (262, .agg #[h]) w := by kernel_rfl
theorem methodComparable (h : Value) (w : World) : (Go.method 491 266 (.agg #[h]) "Comparable").run Tryz.prog w = .ok (263, .agg #[h]) w := by kernel_rfl
theorem rlm (z : Sem Value) (f : TypeId → Addr → Nat → Nat → Sem Value) (v : Value) :
    ReflectliteValue.method z f #[v] = (do match ← ReflectliteValue.parts v with | none => z | some (t, a, fl) => f t a fl (fl % 32)) := rfl
theorem rls (v x : Value) : ReflectliteValue.set #[v, x] = (do
    let (some (dst, a, fl), some (src, b, _)) := (← ReflectliteValue.parts v, ← ReflectliteValue.parts x)
      | unsupported (.noEntry "extern/(internal/reflectlite.Value).Set.zeroValue")
    if fl / ReflectliteValue.flagAddr % 2 == 0 then unsupported (.noEntry "extern/(internal/reflectlite.Value).Set.unaddressable")
    let val ← loadVar src b
    if ← Rtype.directlyAssignable dst src then storeVar dst a val
    else if ← Rtype.implements dst src then
      if (← Rtype.kind src) == 20 then
        match val with
        | .nilIface => unsupported (.noEntry "extern/reflectlite: a nil value of one interface type handed on as a value of another")
        | _ => storeVar dst a val
      else storeVar dst a (.iface src val)
    else panicString ("reflectlite.Set: value of type " ++ (← Rtype.spelt src) ++ " is not assignable to type " ++ (← Rtype.spelt dst))
    pure (.tuple #[])) := rfl
theorem valueOfPF (t : Addr) (w : World) : (ReflectliteValue.unpack (.iface 154 (.pointer (some t)))).run Tryz.prog w
    = .ok (.agg #[.pointer (some ⟨12, 154, none⟩), .pointer (some ⟨w.heap.size, 0, none⟩), .int .u64 150]) (w.alloc (.cells #[.pointer (some t)] 154)) := by kernel_rfl
theorem typePF (a : Addr) (w : World) : (ReflectliteValue.methodAny (ReflectliteValue.valueError "reflectlite.Value.Type" 0) (fun t _ _ _ => ReflectliteType.toType t) #[.agg #[.pointer (some ⟨12, 154, none⟩), .pointer (some a), .int .u64 150]]).run Tryz.prog w
    = .ok (.iface 266 (.agg #[.pointer (some ⟨12, 154, none⟩)])) w := by kernel_rfl
theorem kindPF (w : World) : ((ReflectliteType.abiMethod fun t => (fun a : Nat => Value.int IntKind.u8 (a : Int)) <$> Rtype.kind t) #[.pointer (some ⟨12, 154, none⟩)]).run Tryz.prog w = .ok (.int .u8 22) w := by kernel_rfl
theorem kindEF (w : World) : ((ReflectliteType.abiMethod fun t => (fun a : Nat => Value.int IntKind.u8 (a : Int)) <$> Rtype.kind t) #[.pointer (some ⟨12, 152, none⟩)]).run Tryz.prog w = .ok (.int .u8 22) w := by kernel_rfl
theorem partsPF (a : Addr) (w : World) : (ReflectliteValue.parts (.agg #[.pointer (some ⟨12, 154, none⟩), .pointer (some a), .int .u64 150])).run Tryz.prog w = .ok (some (154, a, 150)) w := by kernel_rfl
theorem isNilPF (a p : Addr) (W : World) (ha : W.cell? a = some (.pointer (some p))) :
    (ReflectliteValue.method (ReflectliteValue.valueError "reflectlite.Value.IsNil" 0) ReflectliteValue.isNil #[.agg #[.pointer (some ⟨12, 154, none⟩), .pointer (some a), .int .u64 150]]).run Tryz.prog W = .ok (.bool false) W := by
  rw [rlm]
  simp only [Sem.run_bind, partsPF, Result.andThen]
  simp [ReflectliteValue.isNil, loadVar, isAgg, underlying, Tryz.underlying154, ha, Result.andThen]
theorem elemPF (w : World) : (ReflectliteType.method ReflectliteType.elem #[.agg #[.pointer (some ⟨12, 154, none⟩)]]).run Tryz.prog w = .ok (.iface 266 (.agg #[.pointer (some ⟨12, 152, none⟩)])) w := by kernel_rfl
theorem implementsEF (w : World) : (ReflectliteType.relation "Implements" ReflectliteType.implements_ #[.agg #[.pointer (some ⟨12, 152, none⟩)], .iface 266 (.agg #[.pointer (some ⟨12, 33, none⟩)])]).run Tryz.prog w = .ok (.bool true) w := by kernel_rfl
theorem typeOfEF (v : Value) (w : World) : (ReflectliteType.typeOf #[.iface 152 v]).run Tryz.prog w = .ok (.iface 266 (.agg #[.pointer (some ⟨12, 152, none⟩)])) w := by kernel_rfl
theorem assignableEF (w : World) : (ReflectliteType.relation "AssignableTo" ReflectliteType.assignableTo #[.agg #[.pointer (some ⟨12, 152, none⟩)], .iface 266 (.agg #[.pointer (some ⟨12, 152, none⟩)])]).run Tryz.prog w = .ok (.bool true) w := by kernel_rfl
theorem valueOfEF (e : Addr) (w : World) : (ReflectliteValue.unpack (.iface 152 (.pointer (some e)))).run Tryz.prog w
    = .ok (.agg #[.pointer (some ⟨12, 152, none⟩), .pointer (some ⟨w.heap.size, 0, none⟩), .int .u64 150]) (w.alloc (.cells #[.pointer (some e)] 152)) := by kernel_rfl
theorem elemOfPF (w : World) : (Rtype.elem? 154).run Tryz.prog w = .ok (some 152) w := by kernel_rfl
theorem mkEF (p : Addr) (w : World) : (ReflectliteValue.mk 152 p ReflectliteValue.flagAddr).run Tryz.prog w = .ok (.agg #[.pointer (some ⟨12, 152, none⟩), .pointer (some p), .int .u64 406]) w := by kernel_rfl
theorem elemVPF (a p : Addr) (W : World) (ha : W.cell? a = some (.pointer (some p))) :
    (ReflectliteValue.method (ReflectliteValue.valueError "reflectlite.Value.Elem" 0) ReflectliteValue.elem #[.agg #[.pointer (some ⟨12, 154, none⟩), .pointer (some a), .int .u64 150]]).run Tryz.prog W
      = .ok (.agg #[.pointer (some ⟨12, 152, none⟩), .pointer (some p), .int .u64 406]) W := by
  rw [rlm]
  simp only [Sem.run_bind, partsPF, Result.andThen]
  simp [ReflectliteValue.elem, loadVar, isAgg, underlying, Tryz.underlying154, ha, Result.andThen, elemOfPF, mkEF]
theorem partsAF (a : Addr) (w : World) : (ReflectliteValue.parts (.agg #[.pointer (some ⟨12, 152, none⟩), .pointer (some a), .int .u64 406])).run Tryz.prog w = .ok (some (152, a, 406)) w := by kernel_rfl
theorem partsEF (a : Addr) (w : World) : (ReflectliteValue.parts (.agg #[.pointer (some ⟨12, 152, none⟩), .pointer (some a), .int .u64 150])).run Tryz.prog w = .ok (some (152, a, 150)) w := by kernel_rfl
theorem directEF (w : World) : (Rtype.directlyAssignable 152 152).run Tryz.prog w = .ok true w := by kernel_rfl
theorem setEF (ta b : Addr) (e : Addr) (old : Value) (W : World) (hb : W.cell? b = some (.pointer (some e))) (ht : W.cell? ta = some old) (hf : W.frozen? ta = false) :
    (ReflectliteValue.set #[.agg #[.pointer (some ⟨12, 152, none⟩), .pointer (some ta), .int .u64 406], .agg #[.pointer (some ⟨12, 152, none⟩), .pointer (some b), .int .u64 150]]).run Tryz.prog W
      = .ok (.tuple #[]) (W.setCell ta (.pointer (some e))) := by
  rw [rls]
  simp only [Sem.run_bind, partsAF, partsEF, Result.andThen]
  simp [ReflectliteValue.flagAddr, loadVar, isAgg, underlying, Tryz.underlying152, hb, Result.andThen, directEF, storeVar, Value.cells, storeCells, Addr.add]
  rw [run_store Tryz.prog W ta _ _ (by rfl)]
  simp [ht, hf]
theorem valueOfPN (t : Addr) (w : World) : (ReflectliteValue.unpack (.iface 159 (.pointer (some t)))).run Tryz.prog w
    = .ok (.agg #[.pointer (some ⟨12, 159, none⟩), .pointer (some ⟨w.heap.size, 0, none⟩), .int .u64 150]) (w.alloc (.cells #[.pointer (some t)] 159)) := by kernel_rfl
theorem typePN (a : Addr) (w : World) : (ReflectliteValue.methodAny (ReflectliteValue.valueError "reflectlite.Value.Type" 0) (fun t _ _ _ => ReflectliteType.toType t) #[.agg #[.pointer (some ⟨12, 159, none⟩), .pointer (some a), .int .u64 150]]).run Tryz.prog w
    = .ok (.iface 266 (.agg #[.pointer (some ⟨12, 159, none⟩)])) w := by kernel_rfl
theorem kindPN (w : World) : ((ReflectliteType.abiMethod fun t => (fun a : Nat => Value.int IntKind.u8 (a : Int)) <$> Rtype.kind t) #[.pointer (some ⟨12, 159, none⟩)]).run Tryz.prog w = .ok (.int .u8 22) w := by kernel_rfl
theorem kindEN (w : World) : ((ReflectliteType.abiMethod fun t => (fun a : Nat => Value.int IntKind.u8 (a : Int)) <$> Rtype.kind t) #[.pointer (some ⟨12, 134, none⟩)]).run Tryz.prog w = .ok (.int .u8 2) w := by kernel_rfl
theorem partsPN (a : Addr) (w : World) : (ReflectliteValue.parts (.agg #[.pointer (some ⟨12, 159, none⟩), .pointer (some a), .int .u64 150])).run Tryz.prog w = .ok (some (159, a, 150)) w := by kernel_rfl
theorem isNilPN (a p : Addr) (W : World) (ha : W.cell? a = some (.pointer (some p))) :
    (ReflectliteValue.method (ReflectliteValue.valueError "reflectlite.Value.IsNil" 0) ReflectliteValue.isNil #[.agg #[.pointer (some ⟨12, 159, none⟩), .pointer (some a), .int .u64 150]]).run Tryz.prog W = .ok (.bool false) W := by
  rw [rlm]
  simp only [Sem.run_bind, partsPN, Result.andThen]
  simp [ReflectliteValue.isNil, loadVar, isAgg, underlying, Tryz.underlying159, ha, Result.andThen]
theorem elemPN (w : World) : (ReflectliteType.method ReflectliteType.elem #[.agg #[.pointer (some ⟨12, 159, none⟩)]]).run Tryz.prog w = .ok (.iface 266 (.agg #[.pointer (some ⟨12, 134, none⟩)])) w := by kernel_rfl
theorem implementsEN (w : World) : (ReflectliteType.relation "Implements" ReflectliteType.implements_ #[.agg #[.pointer (some ⟨12, 134, none⟩)], .iface 266 (.agg #[.pointer (some ⟨12, 33, none⟩)])]).run Tryz.prog w = .ok (.bool true) w := by kernel_rfl
theorem typeOfEN (v : Value) (w : World) : (ReflectliteType.typeOf #[.iface 134 v]).run Tryz.prog w = .ok (.iface 266 (.agg #[.pointer (some ⟨12, 134, none⟩)])) w := by kernel_rfl
theorem assignableEN (w : World) : (ReflectliteType.relation "AssignableTo" ReflectliteType.assignableTo #[.agg #[.pointer (some ⟨12, 134, none⟩)], .iface 266 (.agg #[.pointer (some ⟨12, 134, none⟩)])]).run Tryz.prog w = .ok (.bool true) w := by kernel_rfl
theorem valueOfEN (n : Int) (w : World) : (ReflectliteValue.unpack (.iface 134 (.int .i64 n))).run Tryz.prog w
    = .ok (.agg #[.pointer (some ⟨12, 134, none⟩), .pointer (some ⟨w.heap.size, 0, none⟩), .int .u64 130]) (w.alloc (.cells #[.int .i64 n] 134)) := by kernel_rfl
theorem elemOfPN (w : World) : (Rtype.elem? 159).run Tryz.prog w = .ok (some 134) w := by kernel_rfl
theorem mkEN (p : Addr) (w : World) : (ReflectliteValue.mk 134 p ReflectliteValue.flagAddr).run Tryz.prog w = .ok (.agg #[.pointer (some ⟨12, 134, none⟩), .pointer (some p), .int .u64 386]) w := by kernel_rfl
theorem elemVPN (a p : Addr) (W : World) (ha : W.cell? a = some (.pointer (some p))) :
    (ReflectliteValue.method (ReflectliteValue.valueError "reflectlite.Value.Elem" 0) ReflectliteValue.elem #[.agg #[.pointer (some ⟨12, 159, none⟩), .pointer (some a), .int .u64 150]]).run Tryz.prog W
      = .ok (.agg #[.pointer (some ⟨12, 134, none⟩), .pointer (some p), .int .u64 386]) W := by
  rw [rlm]
  simp only [Sem.run_bind, partsPN, Result.andThen]
  simp [ReflectliteValue.elem, loadVar, isAgg, underlying, Tryz.underlying159, ha, Result.andThen, elemOfPN, mkEN]
theorem partsAN (a : Addr) (w : World) : (ReflectliteValue.parts (.agg #[.pointer (some ⟨12, 134, none⟩), .pointer (some a), .int .u64 386])).run Tryz.prog w = .ok (some (134, a, 386)) w := by kernel_rfl
theorem partsEN (a : Addr) (w : World) : (ReflectliteValue.parts (.agg #[.pointer (some ⟨12, 134, none⟩), .pointer (some a), .int .u64 130])).run Tryz.prog w = .ok (some (134, a, 130)) w := by kernel_rfl
theorem directEN (w : World) : (Rtype.directlyAssignable 134 134).run Tryz.prog w = .ok true w := by kernel_rfl
theorem setEN (ta b : Addr) (n : Int) (old : Value) (W : World) (hb : W.cell? b = some (.int .i64 n)) (ht : W.cell? ta = some old) (hf : W.frozen? ta = false) :
    (ReflectliteValue.set #[.agg #[.pointer (some ⟨12, 134, none⟩), .pointer (some ta), .int .u64 386], .agg #[.pointer (some ⟨12, 134, none⟩), .pointer (some b), .int .u64 130]]).run Tryz.prog W
      = .ok (.tuple #[]) (W.setCell ta (.int .i64 n)) := by
  rw [rls]
  simp only [Sem.run_bind, partsAN, partsEN, Result.andThen]
  simp [ReflectliteValue.flagAddr, loadVar, isAgg, underlying, Tryz.underlying134, hb, Result.andThen, directEN, storeVar, Value.cells, storeCells, Addr.add]
  rw [run_store Tryz.prog W ta _ _ (by rfl)]
  simp [ht, hf]
set_option maxHeartbeats 4000000 in
theorem hitF (e : Addr) (t : Addr) (old : Value) (w : World) (hg : w.cell? ⟨0, 0, none⟩ = some (.iface 266 (.agg #[.pointer (some ⟨12, 33, none⟩)]))) (ht0 : w.cell? t = some old) (hf0 : w.frozen? t = false) :
    Calls Tryz.prog 71 #[.iface 152 (.pointer (some e)), .iface 154 (.pointer (some t))] w fun ev w' => ev = .returned (.bool true) ∧ w' = ((((w.alloc (.cells #[.pointer (some t)] 154)).alloc (.cells #[.pointer (some ⟨12, 154, none⟩), .pointer (some ⟨w.heap.size, 0, none⟩), .int .u64 150] 211)).alloc (.cells #[.pointer (some ⟨12, 154, none⟩), .pointer (some ⟨w.heap.size, 0, none⟩), .int .u64 150] 211)).alloc (.cells #[.pointer (some e)] 152)).setCell t (.pointer (some e)) := by
  have hVal := @run_callFunc_extern Tryz.prog 103 _ (fun args => ReflectliteValue.unpack (args.getD 0 (.tuple #[]))) Tryz.func103 (by kernel_rfl) (by kernel_rfl) (by kernel_rfl) (by kernel_rfl)
  have hTyp := @run_callFunc_extern Tryz.prog 104 _ (ReflectliteValue.methodAny (ReflectliteValue.valueError "reflectlite.Value.Type" 0) (fun t _ _ _ => ReflectliteType.toType t)) Tryz.func104 (by kernel_rfl) (by kernel_rfl) (by kernel_rfl) (by kernel_rfl)
  have hNil := @run_callFunc_extern Tryz.prog 105 _ (ReflectliteValue.method (ReflectliteValue.valueError "reflectlite.Value.IsNil" 0) ReflectliteValue.isNil) Tryz.func105 (by kernel_rfl) (by kernel_rfl) (by kernel_rfl) (by kernel_rfl)
  have hKnd := @run_callFunc_extern Tryz.prog 251 _ (ReflectliteType.abiMethod fun t => do pure (.int .u8 (← Rtype.kind t))) Tryz.func251 (by kernel_rfl) (by kernel_rfl) (by kernel_rfl) (by kernel_rfl)
  have hElt := @run_callFunc_extern Tryz.prog 264 _ (ReflectliteType.method ReflectliteType.elem) Tryz.func264 (by kernel_rfl) (by kernel_rfl) (by kernel_rfl) (by kernel_rfl)
  have hImp := @run_callFunc_extern Tryz.prog 265 _ (ReflectliteType.relation "Implements" ReflectliteType.implements_) Tryz.func265 (by kernel_rfl) (by kernel_rfl) (by kernel_rfl) (by kernel_rfl)
  have hTOf := @run_callFunc_extern Tryz.prog 101 _ ReflectliteType.typeOf Tryz.func101 (by kernel_rfl) (by kernel_rfl) (by kernel_rfl) (by kernel_rfl)
  have hAss := @run_callFunc_extern Tryz.prog 262 _ (ReflectliteType.relation "AssignableTo" ReflectliteType.assignableTo) Tryz.func262 (by kernel_rfl) (by kernel_rfl) (by kernel_rfl) (by kernel_rfl)
  have hElm := @run_callFunc_extern Tryz.prog 153 _ (ReflectliteValue.method (ReflectliteValue.valueError "reflectlite.Value.Elem" 0) ReflectliteValue.elem) Tryz.func153 (by kernel_rfl) (by kernel_rfl) (by kernel_rfl) (by kernel_rfl)
  have hSet := @run_callFunc_extern Tryz.prog 154 _ ReflectliteValue.set Tryz.func154 (by kernel_rfl) (by kernel_rfl) (by kernel_rfl) (by kernel_rfl)
  have mK := methodKind
  have mE := methodElem
  have mI := methodImplements
  have mA := methodAssignableTo
  have f6 := valueOfPF
  have f7 := typePF
  have k27 := kindPF
  have k25 := kindEF
  have e27 := elemPF
  have i25 := implementsEF
  have n8 := isNilPF ⟨w.heap.size, 0, none⟩ t ((w.alloc (.cells #[.pointer (some t)] 154)).alloc (.cells #[.pointer (some ⟨12, 154, none⟩), .pointer (some ⟨w.heap.size, 0, none⟩), .int .u64 150] 211)) (by simp)
  have hlt : 0 < w.heap.size := by
    rcases Nat.lt_or_ge 0 w.heap.size with h | h
    · exact h
    · simp [World.cell?, Array.getElem?_eq_none h] at hg
  have hg2 : ((w.alloc (.cells #[.pointer (some t)] 154)).alloc (.cells #[.pointer (some ⟨12, 154, none⟩), .pointer (some ⟨w.heap.size, 0, none⟩), .int .u64 150] 211)).cell? ⟨0, 0, none⟩ = some (.iface 266 (.agg #[.pointer (some ⟨12, 33, none⟩)])) := by
    rw [World.cell?_alloc_lt _ _ ⟨0, 0, none⟩ (by simp <;> omega), World.cell?_alloc_lt _ _ ⟨0, 0, none⟩ hlt]; exact hg
  have tO := typeOfEF
  have a25 := assignableEF
  have v25 := valueOfEF
  have htl : t.block < w.heap.size := by
    rcases Nat.lt_or_ge t.block w.heap.size with h | h
    · exact h
    · simp [World.cell?, Array.getElem?_eq_none h] at ht0
  have el := elemVPF ⟨w.heap.size, 0, none⟩ t (((w.alloc (.cells #[.pointer (some t)] 154)).alloc (.cells #[.pointer (some ⟨12, 154, none⟩), .pointer (some ⟨w.heap.size, 0, none⟩), .int .u64 150] 211)).alloc (.cells #[.pointer (some ⟨12, 154, none⟩), .pointer (some ⟨w.heap.size, 0, none⟩), .int .u64 150] 211)) (by rw [World.cell?_alloc_lt _ _ ⟨w.heap.size, 0, none⟩ (by simp; omega)]; simp)
  have st := setEF t ⟨w.heap.size + 1 + 1 + 1, 0, none⟩ e old ((((w.alloc (.cells #[.pointer (some t)] 154)).alloc (.cells #[.pointer (some ⟨12, 154, none⟩), .pointer (some ⟨w.heap.size, 0, none⟩), .int .u64 150] 211)).alloc (.cells #[.pointer (some ⟨12, 154, none⟩), .pointer (some ⟨w.heap.size, 0, none⟩), .int .u64 150] 211)).alloc (.cells #[.pointer (some e)] 152))
    (by rw [World.cell?_alloc_at _ _ _ _ (by simp)]; rfl)
    (by rw [World.cell?_alloc_lt _ _ t (by simp; omega), World.cell?_alloc_lt _ _ t (by simp; omega), World.cell?_alloc_lt _ _ t (by simp; omega), World.cell?_alloc_lt _ _ t htl]; exact ht0)
    (by rw [World.frozen?_alloc_old _ _ t (by simp; omega), World.frozen?_alloc_old _ _ t (by simp; omega), World.frozen?_alloc_old _ _ t (by simp; omega), World.frozen?_alloc_old _ _ t (Nat.ne_of_lt htl)]; exact hf0)
  go_enter Tryz.func71, Tryz.ntmps71
  go_wp2
  refine wp_loop_rounds 1 ?_
  rw [rounds_succ]
  go_wp2
  go_ret
  exact ⟨rfl, rfl⟩
set_option maxHeartbeats 4000000 in
theorem hitN (n : Int) (t : Addr) (old : Value) (w : World) (hg : w.cell? ⟨0, 0, none⟩ = some (.iface 266 (.agg #[.pointer (some ⟨12, 33, none⟩)]))) (ht0 : w.cell? t = some old) (hf0 : w.frozen? t = false) :
    Calls Tryz.prog 71 #[.iface 134 (.int .i64 n), .iface 159 (.pointer (some t))] w fun ev w' => ev = .returned (.bool true) ∧ w' = ((((w.alloc (.cells #[.pointer (some t)] 159)).alloc (.cells #[.pointer (some ⟨12, 159, none⟩), .pointer (some ⟨w.heap.size, 0, none⟩), .int .u64 150] 211)).alloc (.cells #[.pointer (some ⟨12, 159, none⟩), .pointer (some ⟨w.heap.size, 0, none⟩), .int .u64 150] 211)).alloc (.cells #[.int .i64 n] 134)).setCell t (.int .i64 n) := by
  have hVal := @run_callFunc_extern Tryz.prog 103 _ (fun args => ReflectliteValue.unpack (args.getD 0 (.tuple #[]))) Tryz.func103 (by kernel_rfl) (by kernel_rfl) (by kernel_rfl) (by kernel_rfl)
  have hTyp := @run_callFunc_extern Tryz.prog 104 _ (ReflectliteValue.methodAny (ReflectliteValue.valueError "reflectlite.Value.Type" 0) (fun t _ _ _ => ReflectliteType.toType t)) Tryz.func104 (by kernel_rfl) (by kernel_rfl) (by kernel_rfl) (by kernel_rfl)
  have hNil := @run_callFunc_extern Tryz.prog 105 _ (ReflectliteValue.method (ReflectliteValue.valueError "reflectlite.Value.IsNil" 0) ReflectliteValue.isNil) Tryz.func105 (by kernel_rfl) (by kernel_rfl) (by kernel_rfl) (by kernel_rfl)
  have hKnd := @run_callFunc_extern Tryz.prog 251 _ (ReflectliteType.abiMethod fun t => do pure (.int .u8 (← Rtype.kind t))) Tryz.func251 (by kernel_rfl) (by kernel_rfl) (by kernel_rfl) (by kernel_rfl)
  have hElt := @run_callFunc_extern Tryz.prog 264 _ (ReflectliteType.method ReflectliteType.elem) Tryz.func264 (by kernel_rfl) (by kernel_rfl) (by kernel_rfl) (by kernel_rfl)
  have hImp := @run_callFunc_extern Tryz.prog 265 _ (ReflectliteType.relation "Implements" ReflectliteType.implements_) Tryz.func265 (by kernel_rfl) (by kernel_rfl) (by kernel_rfl) (by kernel_rfl)
  have hTOf := @run_callFunc_extern Tryz.prog 101 _ ReflectliteType.typeOf Tryz.func101 (by kernel_rfl) (by kernel_rfl) (by kernel_rfl) (by kernel_rfl)
  have hAss := @run_callFunc_extern Tryz.prog 262 _ (ReflectliteType.relation "AssignableTo" ReflectliteType.assignableTo) Tryz.func262 (by kernel_rfl) (by kernel_rfl) (by kernel_rfl) (by kernel_rfl)
  have hElm := @run_callFunc_extern Tryz.prog 153 _ (ReflectliteValue.method (ReflectliteValue.valueError "reflectlite.Value.Elem" 0) ReflectliteValue.elem) Tryz.func153 (by kernel_rfl) (by kernel_rfl) (by kernel_rfl) (by kernel_rfl)
  have hSet := @run_callFunc_extern Tryz.prog 154 _ ReflectliteValue.set Tryz.func154 (by kernel_rfl) (by kernel_rfl) (by kernel_rfl) (by kernel_rfl)
  have mK := methodKind
  have mE := methodElem
  have mI := methodImplements
  have mA := methodAssignableTo
  have f6 := valueOfPN
  have f7 := typePN
  have k27 := kindPN
  have k25 := kindEN
  have e27 := elemPN
  have i25 := implementsEN
  have n8 := isNilPN ⟨w.heap.size, 0, none⟩ t ((w.alloc (.cells #[.pointer (some t)] 159)).alloc (.cells #[.pointer (some ⟨12, 159, none⟩), .pointer (some ⟨w.heap.size, 0, none⟩), .int .u64 150] 211)) (by simp)
  have hlt : 0 < w.heap.size := by
    rcases Nat.lt_or_ge 0 w.heap.size with h | h
    · exact h
    · simp [World.cell?, Array.getElem?_eq_none h] at hg
  have hg2 : ((w.alloc (.cells #[.pointer (some t)] 159)).alloc (.cells #[.pointer (some ⟨12, 159, none⟩), .pointer (some ⟨w.heap.size, 0, none⟩), .int .u64 150] 211)).cell? ⟨0, 0, none⟩ = some (.iface 266 (.agg #[.pointer (some ⟨12, 33, none⟩)])) := by
    rw [World.cell?_alloc_lt _ _ ⟨0, 0, none⟩ (by simp <;> omega), World.cell?_alloc_lt _ _ ⟨0, 0, none⟩ hlt]; exact hg
  have tO := typeOfEN
  have a25 := assignableEN
  have v25 := valueOfEN
  have htl : t.block < w.heap.size := by
    rcases Nat.lt_or_ge t.block w.heap.size with h | h
    · exact h
    · simp [World.cell?, Array.getElem?_eq_none h] at ht0
  have el := elemVPN ⟨w.heap.size, 0, none⟩ t (((w.alloc (.cells #[.pointer (some t)] 159)).alloc (.cells #[.pointer (some ⟨12, 159, none⟩), .pointer (some ⟨w.heap.size, 0, none⟩), .int .u64 150] 211)).alloc (.cells #[.pointer (some ⟨12, 159, none⟩), .pointer (some ⟨w.heap.size, 0, none⟩), .int .u64 150] 211)) (by rw [World.cell?_alloc_lt _ _ ⟨w.heap.size, 0, none⟩ (by simp; omega)]; simp)
  have st := setEN t ⟨w.heap.size + 1 + 1 + 1, 0, none⟩ n old ((((w.alloc (.cells #[.pointer (some t)] 159)).alloc (.cells #[.pointer (some ⟨12, 159, none⟩), .pointer (some ⟨w.heap.size, 0, none⟩), .int .u64 150] 211)).alloc (.cells #[.pointer (some ⟨12, 159, none⟩), .pointer (some ⟨w.heap.size, 0, none⟩), .int .u64 150] 211)).alloc (.cells #[.int .i64 n] 134))
    (by rw [World.cell?_alloc_at _ _ _ _ (by simp)]; rfl)
    (by rw [World.cell?_alloc_lt _ _ t (by simp; omega), World.cell?_alloc_lt _ _ t (by simp; omega), World.cell?_alloc_lt _ _ t (by simp; omega), World.cell?_alloc_lt _ _ t htl]; exact ht0)
    (by rw [World.frozen?_alloc_old _ _ t (by simp; omega), World.frozen?_alloc_old _ _ t (by simp; omega), World.frozen?_alloc_old _ _ t (by simp; omega), World.frozen?_alloc_old _ _ t (Nat.ne_of_lt htl)]; exact hf0)
  go_enter Tryz.func71, Tryz.ntmps71
  go_wp2
  refine wp_loop_rounds 1 ?_
  rw [rounds_succ]
  go_wp2
  go_ret
  exact ⟨rfl, rfl⟩
theorem assignableX (w : World) : (ReflectliteType.relation "AssignableTo" ReflectliteType.assignableTo #[.agg #[.pointer (some ⟨12, 134, none⟩)], .iface 266 (.agg #[.pointer (some ⟨12, 152, none⟩)])]).run Tryz.prog w = .ok (.bool false) w := by kernel_rfl
theorem noAs (v : Value) (xT : TypeId) (w : World) : (Instr.typeAssert (.iface 134 v) xT 278 true).run Tryz.prog w = .ok (.tuple #[.nilIface, .bool false]) w := run_typeAssert_lacksB Tryz.underlying278 (by kernel_rfl) (by kernel_rfl) v xT w
theorem noUn (v : Value) (xT : TypeId) (w : World) : (Instr.typeAssert (.iface 134 v) xT 271 true).run Tryz.prog w = .ok (.tuple #[.nilIface, .bool false]) w := run_typeAssert_lacksB Tryz.underlying271 (by kernel_rfl) (by kernel_rfl) v xT w
theorem noUs (v : Value) (xT : TypeId) (w : World) : (Instr.typeAssert (.iface 134 v) xT 273 true).run Tryz.prog w = .ok (.tuple #[.nilIface, .bool false]) w := run_typeAssert_lacksB Tryz.underlying273 (by kernel_rfl) (by kernel_rfl) v xT w
set_option maxHeartbeats 4000000 in
theorem missF (n : Int) (t : Addr) (w : World) (hg : w.cell? ⟨0, 0, none⟩ = some (.iface 266 (.agg #[.pointer (some ⟨12, 33, none⟩)]))) :
    Calls Tryz.prog 71 #[.iface 134 (.int .i64 n), .iface 154 (.pointer (some t))] w fun ev w' => ev = .returned (.bool false) ∧ w' = (((w.alloc (.cells #[.pointer (some t)] 154)).alloc (.cells #[.pointer (some ⟨12, 154, none⟩), .pointer (some ⟨w.heap.size, 0, none⟩), .int .u64 150] 211)).alloc (.cells #[.pointer (some ⟨12, 154, none⟩), .pointer (some ⟨w.heap.size, 0, none⟩), .int .u64 150] 211)) := by
  have hVal := @run_callFunc_extern Tryz.prog 103 _ (fun args => ReflectliteValue.unpack (args.getD 0 (.tuple #[]))) Tryz.func103 (by kernel_rfl) (by kernel_rfl) (by kernel_rfl) (by kernel_rfl)
  have hTyp := @run_callFunc_extern Tryz.prog 104 _ (ReflectliteValue.methodAny (ReflectliteValue.valueError "reflectlite.Value.Type" 0) (fun t _ _ _ => ReflectliteType.toType t)) Tryz.func104 (by kernel_rfl) (by kernel_rfl) (by kernel_rfl) (by kernel_rfl)
  have hNil := @run_callFunc_extern Tryz.prog 105 _ (ReflectliteValue.method (ReflectliteValue.valueError "reflectlite.Value.IsNil" 0) ReflectliteValue.isNil) Tryz.func105 (by kernel_rfl) (by kernel_rfl) (by kernel_rfl) (by kernel_rfl)
  have hKnd := @run_callFunc_extern Tryz.prog 251 _ (ReflectliteType.abiMethod fun t => do pure (.int .u8 (← Rtype.kind t))) Tryz.func251 (by kernel_rfl) (by kernel_rfl) (by kernel_rfl) (by kernel_rfl)
  have hElt := @run_callFunc_extern Tryz.prog 264 _ (ReflectliteType.method ReflectliteType.elem) Tryz.func264 (by kernel_rfl) (by kernel_rfl) (by kernel_rfl) (by kernel_rfl)
  have hImp := @run_callFunc_extern Tryz.prog 265 _ (ReflectliteType.relation "Implements" ReflectliteType.implements_) Tryz.func265 (by kernel_rfl) (by kernel_rfl) (by kernel_rfl) (by kernel_rfl)
  have hTOf := @run_callFunc_extern Tryz.prog 101 _ ReflectliteType.typeOf Tryz.func101 (by kernel_rfl) (by kernel_rfl) (by kernel_rfl) (by kernel_rfl)
  have hAss := @run_callFunc_extern Tryz.prog 262 _ (ReflectliteType.relation "AssignableTo" ReflectliteType.assignableTo) Tryz.func262 (by kernel_rfl) (by kernel_rfl) (by kernel_rfl) (by kernel_rfl)
  have hElm := @run_callFunc_extern Tryz.prog 153 _ (ReflectliteValue.method (ReflectliteValue.valueError "reflectlite.Value.Elem" 0) ReflectliteValue.elem) Tryz.func153 (by kernel_rfl) (by kernel_rfl) (by kernel_rfl) (by kernel_rfl)
  have hSet := @run_callFunc_extern Tryz.prog 154 _ ReflectliteValue.set Tryz.func154 (by kernel_rfl) (by kernel_rfl) (by kernel_rfl) (by kernel_rfl)
  have mK := methodKind
  have mE := methodElem
  have mI := methodImplements
  have mA := methodAssignableTo
  have f6 := valueOfPF
  have f7 := typePF
  have k27 := kindPF
  have k25 := kindEF
  have e27 := elemPF
  have i25 := implementsEF
  have n8 := isNilPF ⟨w.heap.size, 0, none⟩ t ((w.alloc (.cells #[.pointer (some t)] 154)).alloc (.cells #[.pointer (some ⟨12, 154, none⟩), .pointer (some ⟨w.heap.size, 0, none⟩), .int .u64 150] 211)) (by simp)
  have hlt : 0 < w.heap.size := by
    rcases Nat.lt_or_ge 0 w.heap.size with h | h
    · exact h
    · simp [World.cell?, Array.getElem?_eq_none h] at hg
  have hg2 : ((w.alloc (.cells #[.pointer (some t)] 154)).alloc (.cells #[.pointer (some ⟨12, 154, none⟩), .pointer (some ⟨w.heap.size, 0, none⟩), .int .u64 150] 211)).cell? ⟨0, 0, none⟩ = some (.iface 266 (.agg #[.pointer (some ⟨12, 33, none⟩)])) := by
    rw [World.cell?_alloc_lt _ _ ⟨0, 0, none⟩ (by simp <;> omega), World.cell?_alloc_lt _ _ ⟨0, 0, none⟩ hlt]; exact hg
  have tO := typeOfEN
  have a25 := assignableX
  have b1 := noAs
  have b2 := noUn
  have b3 := noUs
  go_enter Tryz.func71, Tryz.ntmps71
  go_wp2
  refine wp_loop_rounds 1 ?_
  rw [rounds_succ]
  go_wp2
  go_ret
  exact ⟨rfl, rfl⟩
end Go.Proofs.YtejjlojfgcgopaaGreatDoor.As

namespace Go.Proofs.YtejjlojfgcgopaaGreatDoor
open Go.RowKit Go.Proofs.Fw Go.Stop Go.Extern
set_option maxRecDepth 100000
set_option maxHeartbeats 4000000
def globN : List (Nat × AV) := (0, .vptr [.iface 266 (.agg [.adr 12 33])] 0) :: globT
def methN (t : TypeId) (n : String) : Option FuncId := if t = 152 ∧ n = "Unwrap" then some 256 else none
def envN : Env := ⟨globOf globN, methN, fun t => t == 156 || t == 341 || t == 57, fun _ => false⟩
@[simp] theorem envN_soft (t : TypeId) : envN.soft t = false := nrfl rfl
@[simp] theorem immW : envN.imm 57 = true := by decide
theorem methNOk : MethOk Tryz.prog envN := by
  intro t name f h v w
  simp only [envN, methN] at h
  split at h
  · rename_i hh
    obtain ⟨rfl, rfl⟩ := hh
    injection h with h
    subst h
    kernel_rfl
  · cases h
@[simp] theorem methU : envN.meth 152 "Unwrap" = some 256 := rfl
theorem lowN : ∀ i, low 0 (envN.glob i) = true := low_globOf (by
  intro x hx
  simp only [globN, globT, List.mem_cons, List.not_mem_nil, or_false] at hx
  rcases hx with rfl | rfl | rfl
  · rfl
  · show lowL 0 spaceCells = true
    kernel_rfl
  · rfl)
theorem globN_T {g : Gh} (h : GlobOk envN g) : GlobOk envT g := by
  intro i
  by_cases hi : i = 0
  · subst hi
    have : envT.glob 0 = .undef := by rfl
    rw [this]
    trivial
  · have : envT.glob i = envN.glob i := by
      simp only [envT, envN, globOf, globN, List.find?_cons]
      rw [show ((0 : Nat) == i) = false by simp; omega]
    rw [this]
    exact h i
theorem CS.toN {f : FuncId} {args : List AV} {H H' : AH} {v : AV} (h : CS Tryz.prog envT f args H v H') : CS Tryz.prog envN f args H v H' := fun g w cargs R hG hA => h g w cargs R (globN_T hG) hA
theorem Sound.toN {O : Orc} (h : Sound Tryz.prog envT O) : Sound Tryz.prog envN O := fun f args H v H' ho => by
  obtain ⟨h1, h2, h3⟩ := h f args H v H' ho
  exact ⟨CS.toN h1, h2, h3⟩
def errAV : List (List UInt8 × Int) → Int → AV
  | [], c => .iface 134 (.int .i64 c)
  | (w, p) :: r, c => .iface 152 (.vptr [.str w, .int .i64 p, errAV r c] 0)
theorem errAV_low : ∀ (l : List (List UInt8 × Int)) (c : Int), low 0 (errAV l c) = true
  | [], c => rfl
  | (w, p) :: r, c => by simp [errAV, errAV_low r c]
section
variable {P : Program}
theorem atype_lacks {t I : TypeId} {z : AV} {want : Array (String × TypeId)} (hu : P.underlying I = some (.interface want)) (h : (P.info? t).map (fun i => (lacking want i.methods).isEmpty) = some false) (hz : zeroAV P I = some z) (v : AV) :
    atypeAssert P (.iface t v) I true = some (.tup [z, .bool false]) := by
  obtain ⟨i, hi, hl⟩ := Option.map_eq_some_iff.1 h
  obtain ⟨m, hm⟩ := missingMethod_some (want := want) (got := i.methods) (fun e => by rw [e] at hl; cases hl)
  simp [atypeAssert, hu, hi, hm, hz]
theorem atype_has {t I : TypeId} {want : Array (String × TypeId)} (hu : P.underlying I = some (.interface want)) (h : (P.info? t).map (fun i => (lacking want i.methods).isEmpty) = some true) (v : AV) :
    atypeAssert P (.iface t v) I true = some (.tup [.iface t v, .bool true]) := by
  obtain ⟨i, hi, hl⟩ := Option.map_eq_some_iff.1 h
  have hm := missingMethod_none (want := want) (got := i.methods) (List.isEmpty_iff.1 hl)
  simp [atypeAssert, hu, hi, hm]
end
@[simp high] theorem fIs (v : AV) : atypeAssert Tryz.prog (.iface 152 v) 268 true = some (.tup [.nilIface, .bool false]) := atype_lacks Tryz.underlying268 (by kernel_rfl) (by kernel_rfl) v
@[simp high] theorem fUn (v : AV) : atypeAssert Tryz.prog (.iface 152 v) 271 true = some (.tup [.iface 152 v, .bool true]) := atype_has Tryz.underlying271 (by kernel_rfl) v
@[simp high] theorem eIs (v : AV) : atypeAssert Tryz.prog (.iface 134 v) 268 true = some (.tup [.nilIface, .bool false]) := atype_lacks Tryz.underlying268 (by kernel_rfl) (by kernel_rfl) v
@[simp high] theorem eUn (v : AV) : atypeAssert Tryz.prog (.iface 134 v) 271 true = some (.tup [.nilIface, .bool false]) := atype_lacks Tryz.underlying271 (by kernel_rfl) (by kernel_rfl) v
@[simp high] theorem eUs (v : AV) : atypeAssert Tryz.prog (.iface 134 v) 273 true = some (.tup [.nilIface, .bool false]) := atype_lacks Tryz.underlying273 (by kernel_rfl) (by kernel_rfl) v
@[simp high] theorem eqEE (a b : Int) : aeq Tryz.prog 33 (.iface 134 (.int .i64 a)) (.iface 134 (.int .i64 b)) = some (a == b) := by
  obtain ⟨i, hi, hc⟩ := Option.map_eq_some_iff.1 (show (Tryz.prog.info? 134).map (·.comparable) = some true by kernel_rfl)
  simp [aeq, hi, hc]
@[simp high] theorem eqFE (v : AV) (b : Int) : aeq Tryz.prog 33 (.iface 152 v) (.iface 134 (.int .i64 b)) = some false := by
  simp [aeq]
def oUw : Orc := fun f args H => if f = 256 then (match args with
  | [.vptr [a, b, e] 0] => if low 0 a = true ∧ low 0 b = true ∧ low 0 e = true then some (e, H) else none
  | _ => none) else none
theorem uwAny_cs (a b e : AV) (ha : low 0 a = true) (hb : low 0 b = true) (he : low 0 e = true) (H : AH) : CS Tryz.prog envN 256 [.vptr [a, b, e] 0] H e H := by
  refine CS.run0 (O := oNil) ⟨oNil_sound, methNOk, mixed⟩ lowN Tryz.func256 (by kernel_rfl) (by kernel_rfl) 0 (by simp [Tryz.f256]) ?_ he (by simp [ha, hb, he]) H
  simp [Tryz.f256, strip_low _ _ he]
theorem oUw_sound : Sound Tryz.prog envN oUw := Sound.pure fun f args H v H' h => by
  unfold oUw at h
  split at h
  · rename_i hf
    subst hf
    split at h
    · split at h
      · rename_i hl
        injection h with h
        simp only [Prod.mk.injEq] at h
        obtain ⟨rfl, rfl⟩ := h
        exact ⟨rfl, uwAny_cs _ _ _ hl.1 hl.2.1 hl.2.2 _⟩
      · cases h
    · cases h
  · cases h
@[simp high] theorem oUw_at (w : List UInt8) (p : Int) (l : List (List UInt8 × Int)) (c : Int) (H : AH) : oUw 256 [.vptr [.str w, .int .i64 p, errAV l c] 0] H = some (errAV l c, H) := by
  simp [oUw, errAV_low]
theorem oUw_cx : Cx oUw Tryz.prog envN := ⟨oUw_sound, methNOk, mixed⟩
@[simp high] theorem errNil (l : List (List UInt8 × Int)) (c : Int) : aeq Tryz.prog 33 (errAV l c) .nilIface = some false := by
  cases l <;> simp [errAV, aeq]
@[simp high] theorem errEql (l : List (List UInt8 × Int)) (c : Int) (k : Bool) : abin Tryz.prog .eql 33 k (errAV l c) .nilIface = some (.bool false) := by
  cases l <;> simp [errAV]
@[simp high] theorem errNeq (l : List (List UInt8 × Int)) (c : Int) (k : Bool) : abin Tryz.prog .neq 33 k (errAV l c) .nilIface = some (.bool true) := by
  cases l <;> simp [errAV]
def TiI (c n : Int) (k : Nat) (t : List AV) (H : AH) : Prop :=
  ∃ r : List (List UInt8 × Int), r.length = k ∧ t = mkT 54 [(0, errAV r c), (1, .iface 134 (.int .i64 n)), (2, .bool true)] ∧ H = []
theorem is_cs (l : List (List UInt8 × Int)) (c n : Int) (H : AH) : CS Tryz.prog envN 102 [errAV l c, .iface 134 (.int .i64 n), .bool true] H (.bool (c == n)) H := by
  refine CS.tr0 lowN Tryz.func102 (by kernel_rfl) 0 (by simp [Tryz.f102]) (fun B hB hG => ?_) rfl (by simp [errAV_low]) H
  refine Tr.go oUw_cx hG (by kernel_rfl) ?_
  simp [Tryz.f102]
  refine LpT.loopN oUw_cx hG (by kernel_rfl) (TiI c n) l.length (t' := mkT 54 [(0, errAV l c), (1, .iface 134 (.int .i64 n)), (2, .bool true)]) (H' := []) (Less.mk0 hB (by simp [errAV_low])) ⟨l, rfl, rfl, rfl⟩ ?_
  rintro k t H ⟨r, hk, rfl, rfl⟩
  cases r with
  | nil =>
    by_cases h : c = n
    · subst h
      simp [errAV, Blk_exit, Blk_ret]
    · have h2 : (c == n) = false := by simp [h]
      simp [errAV, h, h2, Blk_exit, Blk_ret]
  | cons x r =>
    obtain ⟨w, p⟩ := x
    subst hk
    simp [errAV, callI]
    exact Nxt.mk r.length (by simp) (Less.mk0 (l' := [(0, errAV r c), (1, .iface 134 (.int .i64 n)), (2, .bool true)]) hB (by simp [errAV_low])) ⟨r, rfl, rfl, rfl⟩
end Go.Proofs.YtejjlojfgcgopaaGreatDoor
namespace Go.Proofs.YtejjlojfgcgopaaGreatDoor
open Go.RowKit Go.Proofs.Fw Go.Stop Go.Extern
set_option maxRecDepth 100000
set_option maxHeartbeats 4000000
theorem comparableE (w : World) : (Go.Extern.ReflectliteType.method (fun t => do Go.Extern.Rtype.noPackHeld "Comparable" t; (fun a : TypeInfo => Value.bool a.comparable) <$> typeInfo t) #[.agg #[.pointer (some ⟨12, 134, none⟩)]]).run Tryz.prog w = .ok (.bool true) w := by kernel_rfl
theorem Is_cs (l : List (List UInt8 × Int)) (c n : Int) (H : AH) : CS Tryz.prog envN 70 [errAV l c, .iface 134 (.int .i64 n)] H (.bool (c == n)) H := by
  refine CS.frame ?_ lowN (by simp [errAV_low]) H
  intro g w cargs R hG hA
  have hA' := hA
  simp only [RepL] at hA
  obtain ⟨v0, ws0, rfl, h0, v1, ws1, rfl, h1, rfl⟩ := hA
  simp only [RepV] at h1
  obtain ⟨y1, rfl, rfl⟩ := h1
  have h38 := is_cs l c n [] g w [v0, .iface 134 (.int .i64 n), .bool true] R hG (by
    simp only [RepL]
    exact ⟨_, _, rfl, h0, _, _, rfl, by simp [RepV], _, _, rfl, by simp [RepV], rfl⟩)
  have tO := As.typeOfEN
  have mC := As.methodComparable
  have cE := comparableE
  have x1 := @run_callFunc_extern Tryz.prog 263 _ (Go.Extern.ReflectliteType.method (fun t => do Go.Extern.Rtype.noPackHeld "Comparable" t; pure (.bool (← typeInfo t).comparable))) Tryz.func263 (by kernel_rfl) (by kernel_rfl) (by kernel_rfl) (by kernel_rfl)
  have x2 := @run_callFunc_extern Tryz.prog 101 _ Go.Extern.ReflectliteType.typeOf Tryz.func101 (by kernel_rfl) (by kernel_rfl) (by kernel_rfl) (by kernel_rfl)
  cases l with
  | nil =>
    simp only [errAV, RepV] at h0
    obtain ⟨y0, rfl, rfl⟩ := h0
    go_enter Tryz.func70, Tryz.ntmps70
    go_wp2_with (go_at_call 102; refine h38.mono ?_; rintro e w' ⟨g', cv, rfl, R', p, hr⟩)
    go_ret
    exact ⟨g', _, rfl, R', p, hr⟩
  | cons x r =>
    obtain ⟨wd, p⟩ := x
    simp only [errAV, RepV] at h0
    obtain ⟨y0, rfl, hy⟩ := h0
    go_enter Tryz.func70, Tryz.ntmps70
    go_wp2_with (go_at_call 102; refine h38.mono ?_; rintro e w' ⟨g', cv, rfl, R', p, hr⟩)
    go_ret
    exact ⟨g', _, rfl, R', p, hr⟩
end Go.Proofs.YtejjlojfgcgopaaGreatDoor
namespace Go.Proofs.YtejjlojfgcgopaaGreatDoor
open Go.RowKit Go.Proofs.Fw
set_option maxRecDepth 100000
set_option maxHeartbeats 4000000
theorem write_after {g : Gh} {H : AH} {w W4 : World} (R : Rel g H w) {id b : Nat} {x a : AV} {el : TypeId} {ov v : Value} (hH : H.at id = some (.box [x])) (hM : g.M id = some (.box b)) (h1 : w.heap[b]? = some (.cells #[ov] el (0, 0)))
    (hb : Below w.heap.size w W4) (hr : RepV g a v) :
    Rel g (H.set id (some (.box [a]))) (W4.setCell ⟨b, 0, none⟩ v) ∧ Post g H w g (H.set id (some (.box [a]))) (W4.setCell ⟨b, 0, none⟩ v) := by
  obtain ⟨R4, P4⟩ := R.below hb
  have hlt : b < w.heap.size := (Array.getElem?_eq_some_iff.1 h1).1
  have h4 : W4.heap[b]? = some (.cells #[ov] el (0, 0)) := by rw [hb.block b hlt]; exact h1
  have hs : (W4.setCell ⟨b, 0, none⟩ v).heap[b]? = some (.cells (List.toArray [v]) el (0, 0)) := by
    simp [World.setCell, Array.getElem?_modify, h4]
  obtain ⟨R5, P5⟩ := R4.write_box (w' := W4.setCell ⟨b, 0, none⟩ v) (cs := [a]) (vs := [v]) hH hM hs (by simp only [RepL]; exact ⟨_, _, rfl, hr, rfl⟩) (fun k hk => Below.heap_setCell W4 ⟨b, 0, none⟩ v k hk) (by simp [World.setCell]) rfl rfl rfl
  exact ⟨R5, Post.trans R P4 P5⟩
theorem errorHandle {g : Gh} {H : AH} {w : World} (hG : GlobOk envN g) (R : Rel g H w) : w.cell? ⟨0, 0, none⟩ = some (.iface 266 (.agg #[.pointer (some ⟨12, 33, none⟩)])) := by
  have h := hG 0
  rw [show envN.glob 0 = .vptr [.iface 266 (.agg [.adr 12 33])] 0 from rfl] at h
  simp only [RepV, RepL] at h
  obtain ⟨b, o, vs, hv, ⟨v, ws, rfl, ⟨y, rfl, vs2, rfl, v3, ws3, rfl, rfl, rfl⟩, rfl⟩, hh⟩ := h
  simp at hv
  obtain ⟨rfl, rfl⟩ := hv
  exact R.imm _ _ _ (hh 0 _ rfl)
theorem below3 (w : World) (a b c : Obj) : Below w.heap.size w (((w.alloc a).alloc b).alloc c) :=
  (((Below.refl _ w).alloc (Nat.le_refl _) a).alloc (by simp) b).alloc (by simp; omega) c
theorem below4 (w : World) (a b c d : Obj) : Below w.heap.size w ((((w.alloc a).alloc b).alloc c).alloc d) :=
  (below3 w a b c).alloc (by simp; omega) d
theorem asF_cs {cs : List AV} {id : Nat} {x : AV} {H : AH} (hH : H.at id = some (.box [x])) :
    CS Tryz.prog envN 71 [.iface 152 (.vptr cs 0), .iface 154 (.ptr id 0)] H (.bool true) (H.set id (some (.box [.vptr cs 0]))) := by
  intro g w cargs R hG hA
  simp only [RepL, RepV] at hA
  obtain ⟨v0, ws0, rfl, ⟨y0, rfl, b0, o0, vs0, rfl, hr0, hh0⟩, v1, ws1, rfl, ⟨y1, rfl, b, hM, rfl⟩, rfl⟩ := hA
  obtain ⟨vs, el, h1, h2, h3⟩ := box_cells R hH hM
  simp only [RepL] at h2
  obtain ⟨ov, ws, rfl, _, rfl⟩ := h2
  have hc : w.cell? ⟨b, 0, none⟩ = some ov := by simpa using h3 0 ov rfl
  have hf : w.frozen? ⟨b, 0, none⟩ = false := by simp [World.frozen?, h1]
  refine (As.hitF ⟨b0, o0 + 0, none⟩ ⟨b, 0, none⟩ ov w (errorHandle hG R) hc hf).mono ?_
  rintro e w' ⟨rfl, rfl⟩
  have hr := fun W4 hb => write_after (W4 := W4) (a := .vptr cs 0) (v := .pointer (some ⟨b0, o0 + 0, none⟩)) R hH hM h1 hb (by simp only [RepV]; exact ⟨b0, o0, vs0, rfl, hr0, hh0⟩)
  exact ⟨g, _, rfl, (hr _ (below4 w _ _ _ _)).1, (hr _ (below4 w _ _ _ _)).2, by simp [RepV]⟩
theorem asN_cs {c : Int} {id : Nat} {x : AV} {H : AH} (hH : H.at id = some (.box [x])) :
    CS Tryz.prog envN 71 [.iface 134 (.int .i64 c), .iface 159 (.ptr id 0)] H (.bool true) (H.set id (some (.box [.int .i64 c]))) := by
  intro g w cargs R hG hA
  simp only [RepL, RepV] at hA
  obtain ⟨v0, ws0, rfl, ⟨y0, rfl, rfl⟩, v1, ws1, rfl, ⟨y1, rfl, b, hM, rfl⟩, rfl⟩ := hA
  obtain ⟨vs, el, h1, h2, h3⟩ := box_cells R hH hM
  simp only [RepL] at h2
  obtain ⟨ov, ws, rfl, _, rfl⟩ := h2
  have hc : w.cell? ⟨b, 0, none⟩ = some ov := by simpa using h3 0 ov rfl
  have hf : w.frozen? ⟨b, 0, none⟩ = false := by simp [World.frozen?, h1]
  refine (As.hitN c ⟨b, 0, none⟩ ov w (errorHandle hG R) hc hf).mono ?_
  rintro e w' ⟨rfl, rfl⟩
  have hr := fun W4 hb => write_after (W4 := W4) (a := .int .i64 c) (v := .int .i64 c) R hH hM h1 hb (by simp only [RepV])
  exact ⟨g, _, rfl, (hr _ (below4 w _ _ _ _)).1, (hr _ (below4 w _ _ _ _)).2, by simp [RepV]⟩
theorem asX_cs {c : Int} {id : Nat} {H : AH} :
    CS Tryz.prog envN 71 [.iface 134 (.int .i64 c), .iface 154 (.ptr id 0)] H (.bool false) H := by
  intro g w cargs R hG hA
  simp only [RepL, RepV] at hA
  obtain ⟨v0, ws0, rfl, ⟨y0, rfl, rfl⟩, v1, ws1, rfl, ⟨y1, rfl, b, hM, rfl⟩, rfl⟩ := hA
  refine (As.missF c ⟨b, 0, none⟩ w (errorHandle hG R)).mono ?_
  rintro e w' ⟨rfl, rfl⟩
  obtain ⟨R', P'⟩ := R.below (below3 w _ _ _)
  exact ⟨g, _, rfl, R', P', by simp [RepV]⟩
end Go.Proofs.YtejjlojfgcgopaaGreatDoor
