/- Go's own text of errors.As, at **api.Fault and at *api.Errno: what it finds, and what it leaves in the heap. The lines are the guide's worked ToyasAs, turned to this program. -/
import Derived.Test.YtejjlojfgcgopaaGreatDoorChecked
import Derived.KernelRfl
import Derived.WalkKit
import Derived.LaidEql
import Derived.Stop.Asserts
import Derived.RowKitTokens
set_option linter.unusedSimpArgs false
set_option linter.unusedVariables false
namespace Go.Proofs.YtejjlojfgcgopaaGreatDoor.As
open Go.RowKit Go.Extern.Stop Go.Stop Go.Extern
set_option maxRecDepth 100000

theorem methodKind (h : Value) (w : World) : (Go.method 491 266 (.agg #[h]) "Kind").run Tryz.prog w = .ok (251, h) w := by kernel_rfl
theorem methodElem (h : Value) (w : World) : (Go.method 491 266 (.agg #[h]) "Elem").run Tryz.prog w = .ok (264, .agg #[h]) w := by kernel_rfl
theorem methodImplements (h : Value) (w : World) : (Go.method 491 266 (.agg #[h]) "Implements").run Tryz.prog w = .ok (265, .agg #[h]) w := by kernel_rfl
theorem methodAssignableTo (h : Value) (w : World) : (Go.method 491 266 (.agg #[h]) "AssignableTo").run Tryz.prog w = .ok (262, .agg #[h]) w := by kernel_rfl
theorem methodComparable (h : Value) (w : World) : (Go.method 491 266 (.agg #[h]) "Comparable").run Tryz.prog w = .ok (263, .agg #[h]) w := by kernel_rfl
theorem rlm (z : Sem Value) (f : TypeId → Addr → Nat → Nat → Sem Value) (v : Value) :
    ReflectliteValue.method z f #[v] = (do match ← ReflectliteValue.parts v with | none => z | some (t, a, fl) => f t a fl (fl % 32)) := rfl
theorem rls (v x : Value) : ReflectliteValue.set #[v, x] = (do
    let (some (dst, a, fl), some (src, b, _)) := (← ReflectliteValue.parts v, ← ReflectliteValue.parts x)
      | unsupported (.noEntry "extern/(internal/reflectlite.Value).Set.zeroValue")
    if fl / ReflectliteValue.flagAddr % 2 == 0 then unsupported (.noEntry "extern/(internal/reflectlite.Value).Set.unaddressable")
    let val ← loadVar src b
    if ← Rtype.directlyAssignable dst src then storeVar dst a val
    else if ← Rtype.implements dst src then
      if (← Rtype.kind src) == 20 then
        match val with
        | .nilIface => unsupported (.noEntry "extern/reflectlite: a nil value of one interface type handed on as a value of another")
        | _ => storeVar dst a val
      else storeVar dst a (.iface src val)
    else panicString ("reflectlite.Set: value of type " ++ (← Rtype.spelt src) ++ " is not assignable to type " ++ (← Rtype.spelt dst))
    pure (.tuple #[])) := rfl

theorem valueOfPF (t : Addr) (w : World) : (ReflectliteValue.unpack (.iface 154 (.pointer (some t)))).run Tryz.prog w
    = .ok (.agg #[.pointer (some ⟨12, 154, none⟩), .pointer (some ⟨w.heap.size, 0, none⟩), .int .u64 150]) (w.alloc (.cells #[.pointer (some t)] 154)) := by kernel_rfl
theorem typePF (a : Addr) (w : World) : (ReflectliteValue.methodAny (ReflectliteValue.valueError "reflectlite.Value.Type" 0) (fun t _ _ _ => ReflectliteType.toType t) #[.agg #[.pointer (some ⟨12, 154, none⟩), .pointer (some a), .int .u64 150]]).run Tryz.prog w
    = .ok (.iface 266 (.agg #[.pointer (some ⟨12, 154, none⟩)])) w := by kernel_rfl
theorem kindPF (w : World) : ((ReflectliteType.abiMethod fun t => (fun a : Nat => Value.int IntKind.u8 (a : Int)) <$> Rtype.kind t) #[.pointer (some ⟨12, 154, none⟩)]).run Tryz.prog w = .ok (.int .u8 22) w := by kernel_rfl
theorem kindEF (w : World) : ((ReflectliteType.abiMethod fun t => (fun a : Nat => Value.int IntKind.u8 (a : Int)) <$> Rtype.kind t) #[.pointer (some ⟨12, 152, none⟩)]).run Tryz.prog w = .ok (.int .u8 22) w := by kernel_rfl
theorem partsPF (a : Addr) (w : World) : (ReflectliteValue.parts (.agg #[.pointer (some ⟨12, 154, none⟩), .pointer (some a), .int .u64 150])).run Tryz.prog w = .ok (some (154, a, 150)) w := by kernel_rfl
theorem isNilPF (a p : Addr) (W : World) (ha : W.cell? a = some (.pointer (some p))) :
    (ReflectliteValue.method (ReflectliteValue.valueError "reflectlite.Value.IsNil" 0) ReflectliteValue.isNil #[.agg #[.pointer (some ⟨12, 154, none⟩), .pointer (some a), .int .u64 150]]).run Tryz.prog W = .ok (.bool false) W := by
  rw [rlm]
  simp only [Sem.run_bind, partsPF, Result.andThen]
  simp [ReflectliteValue.isNil, loadVar, isAgg, underlying, Tryz.underlying154, ha, Result.andThen]
theorem elemPF (w : World) : (ReflectliteType.method ReflectliteType.elem #[.agg #[.pointer (some ⟨12, 154, none⟩)]]).run Tryz.prog w = .ok (.iface 266 (.agg #[.pointer (some ⟨12, 152, none⟩)])) w := by kernel_rfl
theorem implementsEF (w : World) : (ReflectliteType.relation "Implements" ReflectliteType.implements_ #[.agg #[.pointer (some ⟨12, 152, none⟩)], .iface 266 (.agg #[.pointer (some ⟨12, 33, none⟩)])]).run Tryz.prog w = .ok (.bool true) w := by kernel_rfl
theorem typeOfEF (v : Value) (w : World) : (ReflectliteType.typeOf #[.iface 152 v]).run Tryz.prog w = .ok (.iface 266 (.agg #[.pointer (some ⟨12, 152, none⟩)])) w := by kernel_rfl
theorem assignableEF (w : World) : (ReflectliteType.relation "AssignableTo" ReflectliteType.assignableTo #[.agg #[.pointer (some ⟨12, 152, none⟩)], .iface 266 (.agg #[.pointer (some ⟨12, 152, none⟩)])]).run Tryz.prog w = .ok (.bool true) w := by kernel_rfl
theorem valueOfEF (e : Addr) (w : World) : (ReflectliteValue.unpack (.iface 152 (.pointer (some e)))).run Tryz.prog w
    = .ok (.agg #[.pointer (some ⟨12, 152, none⟩), .pointer (some ⟨w.heap.size, 0, none⟩), .int .u64 150]) (w.alloc (.cells #[.pointer (some e)] 152)) := by kernel_rfl
theorem elemOfPF (w : World) : (Rtype.elem? 154).run Tryz.prog w = .ok (some 152) w := by kernel_rfl
theorem mkEF (p : Addr) (w : World) : (ReflectliteValue.mk 152 p ReflectliteValue.flagAddr).run Tryz.prog w = .ok (.agg #[.pointer (some ⟨12, 152, none⟩), .pointer (some p), .int .u64 406]) w := by kernel_rfl
theorem elemVPF (a p : Addr) (W : World) (ha : W.cell? a = some (.pointer (some p))) :
    (ReflectliteValue.method (ReflectliteValue.valueError "reflectlite.Value.Elem" 0) ReflectliteValue.elem #[.agg #[.pointer (some ⟨12, 154, none⟩), .pointer (some a), .int .u64 150]]).run Tryz.prog W
      = .ok (.agg #[.pointer (some ⟨12, 152, none⟩), .pointer (some p), .int .u64 406]) W := by
  rw [rlm]
  simp only [Sem.run_bind, partsPF, Result.andThen]
  simp [ReflectliteValue.elem, loadVar, isAgg, underlying, Tryz.underlying154, ha, Result.andThen, elemOfPF, mkEF]
theorem partsAF (a : Addr) (w : World) : (ReflectliteValue.parts (.agg #[.pointer (some ⟨12, 152, none⟩), .pointer (some a), .int .u64 406])).run Tryz.prog w = .ok (some (152, a, 406)) w := by kernel_rfl
theorem partsEF (a : Addr) (w : World) : (ReflectliteValue.parts (.agg #[.pointer (some ⟨12, 152, none⟩), .pointer (some a), .int .u64 150])).run Tryz.prog w = .ok (some (152, a, 150)) w := by kernel_rfl
theorem directEF (w : World) : (Rtype.directlyAssignable 152 152).run Tryz.prog w = .ok true w := by kernel_rfl
theorem setEF (ta b : Addr) (e : Addr) (old : Value) (W : World) (hb : W.cell? b = some (.pointer (some e))) (ht : W.cell? ta = some old) (hf : W.frozen? ta = false) :
    (ReflectliteValue.set #[.agg #[.pointer (some ⟨12, 152, none⟩), .pointer (some ta), .int .u64 406], .agg #[.pointer (some ⟨12, 152, none⟩), .pointer (some b), .int .u64 150]]).run Tryz.prog W
      = .ok (.tuple #[]) (W.setCell ta (.pointer (some e))) := by
  rw [rls]
  simp only [Sem.run_bind, partsAF, partsEF, Result.andThen]
  simp [ReflectliteValue.flagAddr, loadVar, isAgg, underlying, Tryz.underlying152, hb, Result.andThen, directEF, storeVar, Value.cells, storeCells, Addr.add]
  rw [run_store Tryz.prog W ta _ _ (by rfl)]
  simp [ht, hf]

theorem valueOfPN (t : Addr) (w : World) : (ReflectliteValue.unpack (.iface 159 (.pointer (some t)))).run Tryz.prog w
    = .ok (.agg #[.pointer (some ⟨12, 159, none⟩), .pointer (some ⟨w.heap.size, 0, none⟩), .int .u64 150]) (w.alloc (.cells #[.pointer (some t)] 159)) := by kernel_rfl
theorem typePN (a : Addr) (w : World) : (ReflectliteValue.methodAny (ReflectliteValue.valueError "reflectlite.Value.Type" 0) (fun t _ _ _ => ReflectliteType.toType t) #[.agg #[.pointer (some ⟨12, 159, none⟩), .pointer (some a), .int .u64 150]]).run Tryz.prog w
    = .ok (.iface 266 (.agg #[.pointer (some ⟨12, 159, none⟩)])) w := by kernel_rfl
theorem kindPN (w : World) : ((ReflectliteType.abiMethod fun t => (fun a : Nat => Value.int IntKind.u8 (a : Int)) <$> Rtype.kind t) #[.pointer (some ⟨12, 159, none⟩)]).run Tryz.prog w = .ok (.int .u8 22) w := by kernel_rfl
theorem kindEN (w : World) : ((ReflectliteType.abiMethod fun t => (fun a : Nat => Value.int IntKind.u8 (a : Int)) <$> Rtype.kind t) #[.pointer (some ⟨12, 134, none⟩)]).run Tryz.prog w = .ok (.int .u8 2) w := by kernel_rfl
theorem partsPN (a : Addr) (w : World) : (ReflectliteValue.parts (.agg #[.pointer (some ⟨12, 159, none⟩), .pointer (some a), .int .u64 150])).run Tryz.prog w = .ok (some (159, a, 150)) w := by kernel_rfl
theorem isNilPN (a p : Addr) (W : World) (ha : W.cell? a = some (.pointer (some p))) :
    (ReflectliteValue.method (ReflectliteValue.valueError "reflectlite.Value.IsNil" 0) ReflectliteValue.isNil #[.agg #[.pointer (some ⟨12, 159, none⟩), .pointer (some a), .int .u64 150]]).run Tryz.prog W = .ok (.bool false) W := by
  rw [rlm]
  simp only [Sem.run_bind, partsPN, Result.andThen]
  simp [ReflectliteValue.isNil, loadVar, isAgg, underlying, Tryz.underlying159, ha, Result.andThen]
theorem elemPN (w : World) : (ReflectliteType.method ReflectliteType.elem #[.agg #[.pointer (some ⟨12, 159, none⟩)]]).run Tryz.prog w = .ok (.iface 266 (.agg #[.pointer (some ⟨12, 134, none⟩)])) w := by kernel_rfl
theorem implementsEN (w : World) : (ReflectliteType.relation "Implements" ReflectliteType.implements_ #[.agg #[.pointer (some ⟨12, 134, none⟩)], .iface 266 (.agg #[.pointer (some ⟨12, 33, none⟩)])]).run Tryz.prog w = .ok (.bool true) w := by kernel_rfl
theorem typeOfEN (v : Value) (w : World) : (ReflectliteType.typeOf #[.iface 134 v]).run Tryz.prog w = .ok (.iface 266 (.agg #[.pointer (some ⟨12, 134, none⟩)])) w := by kernel_rfl
theorem assignableEN (w : World) : (ReflectliteType.relation "AssignableTo" ReflectliteType.assignableTo #[.agg #[.pointer (some ⟨12, 134, none⟩)], .iface 266 (.agg #[.pointer (some ⟨12, 134, none⟩)])]).run Tryz.prog w = .ok (.bool true) w := by kernel_rfl
theorem valueOfEN (n : Int) (w : World) : (ReflectliteValue.unpack (.iface 134 (.int .i64 n))).run Tryz.prog w
    = .ok (.agg #[.pointer (some ⟨12, 134, none⟩), .pointer (some ⟨w.heap.size, 0, none⟩), .int .u64 130]) (w.alloc (.cells #[.int .i64 n] 134)) := by kernel_rfl
theorem elemOfPN (w : World) : (Rtype.elem? 159).run Tryz.prog w = .ok (some 134) w := by kernel_rfl
theorem mkEN (p : Addr) (w : World) : (ReflectliteValue.mk 134 p ReflectliteValue.flagAddr).run Tryz.prog w = .ok (.agg #[.pointer (some ⟨12, 134, none⟩), .pointer (some p), .int .u64 386]) w := by kernel_rfl
theorem elemVPN (a p : Addr) (W : World) (ha : W.cell? a = some (.pointer (some p))) :
    (ReflectliteValue.method (ReflectliteValue.valueError "reflectlite.Value.Elem" 0) ReflectliteValue.elem #[.agg #[.pointer (some ⟨12, 159, none⟩), .pointer (some a), .int .u64 150]]).run Tryz.prog W
      = .ok (.agg #[.pointer (some ⟨12, 134, none⟩), .pointer (some p), .int .u64 386]) W := by
  rw [rlm]
  simp only [Sem.run_bind, partsPN, Result.andThen]
  simp [ReflectliteValue.elem, loadVar, isAgg, underlying, Tryz.underlying159, ha, Result.andThen, elemOfPN, mkEN]
theorem partsAN (a : Addr) (w : World) : (ReflectliteValue.parts (.agg #[.pointer (some ⟨12, 134, none⟩), .pointer (some a), .int .u64 386])).run Tryz.prog w = .ok (some (134, a, 386)) w := by kernel_rfl
theorem partsEN (a : Addr) (w : World) : (ReflectliteValue.parts (.agg #[.pointer (some ⟨12, 134, none⟩), .pointer (some a), .int .u64 130])).run Tryz.prog w = .ok (some (134, a, 130)) w := by kernel_rfl
theorem directEN (w : World) : (Rtype.directlyAssignable 134 134).run Tryz.prog w = .ok true w := by kernel_rfl
theorem setEN (ta b : Addr) (n : Int) (old : Value) (W : World) (hb : W.cell? b = some (.int .i64 n)) (ht : W.cell? ta = some old) (hf : W.frozen? ta = false) :
    (ReflectliteValue.set #[.agg #[.pointer (some ⟨12, 134, none⟩), .pointer (some ta), .int .u64 386], .agg #[.pointer (some ⟨12, 134, none⟩), .pointer (some b), .int .u64 130]]).run Tryz.prog W
      = .ok (.tuple #[]) (W.setCell ta (.int .i64 n)) := by
  rw [rls]
  simp only [Sem.run_bind, partsAN, partsEN, Result.andThen]
  simp [ReflectliteValue.flagAddr, loadVar, isAgg, underlying, Tryz.underlying134, hb, Result.andThen, directEN, storeVar, Value.cells, storeCells, Addr.add]
  rw [run_store Tryz.prog W ta _ _ (by rfl)]
  simp [ht, hf]

set_option maxHeartbeats 4000000 in
theorem hitF (e : Addr) (t : Addr) (old : Value) (w : World) (hg : w.cell? ⟨0, 0, none⟩ = some (.iface 266 (.agg #[.pointer (some ⟨12, 33, none⟩)]))) (ht0 : w.cell? t = some old) (hf0 : w.frozen? t = false) :
    Calls Tryz.prog 71 #[.iface 152 (.pointer (some e)), .iface 154 (.pointer (some t))] w fun ev w' => ev = .returned (.bool true) ∧ w' = ((((w.alloc (.cells #[.pointer (some t)] 154)).alloc (.cells #[.pointer (some ⟨12, 154, none⟩), .pointer (some ⟨w.heap.size, 0, none⟩), .int .u64 150] 211)).alloc (.cells #[.pointer (some ⟨12, 154, none⟩), .pointer (some ⟨w.heap.size, 0, none⟩), .int .u64 150] 211)).alloc (.cells #[.pointer (some e)] 152)).setCell t (.pointer (some e)) := by
  have hVal := @run_callFunc_extern Tryz.prog 103 _ (fun args => ReflectliteValue.unpack (args.getD 0 (.tuple #[]))) Tryz.func103 (by kernel_rfl) (by kernel_rfl) (by kernel_rfl) (by kernel_rfl)
  have hTyp := @run_callFunc_extern Tryz.prog 104 _ (ReflectliteValue.methodAny (ReflectliteValue.valueError "reflectlite.Value.Type" 0) (fun t _ _ _ => ReflectliteType.toType t)) Tryz.func104 (by kernel_rfl) (by kernel_rfl) (by kernel_rfl) (by kernel_rfl)
  have hNil := @run_callFunc_extern Tryz.prog 105 _ (ReflectliteValue.method (ReflectliteValue.valueError "reflectlite.Value.IsNil" 0) ReflectliteValue.isNil) Tryz.func105 (by kernel_rfl) (by kernel_rfl) (by kernel_rfl) (by kernel_rfl)
  have hKnd := @run_callFunc_extern Tryz.prog 251 _ (ReflectliteType.abiMethod fun t => do pure (.int .u8 (← Rtype.kind t))) Tryz.func251 (by kernel_rfl) (by kernel_rfl) (by kernel_rfl) (by kernel_rfl)
  have hElt := @run_callFunc_extern Tryz.prog 264 _ (ReflectliteType.method ReflectliteType.elem) Tryz.func264 (by kernel_rfl) (by kernel_rfl) (by kernel_rfl) (by kernel_rfl)
  have hImp := @run_callFunc_extern Tryz.prog 265 _ (ReflectliteType.relation "Implements" ReflectliteType.implements_) Tryz.func265 (by kernel_rfl) (by kernel_rfl) (by kernel_rfl) (by kernel_rfl)
  have hTOf := @run_callFunc_extern Tryz.prog 101 _ ReflectliteType.typeOf Tryz.func101 (by kernel_rfl) (by kernel_rfl) (by kernel_rfl) (by kernel_rfl)
  have hAss := @run_callFunc_extern Tryz.prog 262 _ (ReflectliteType.relation "AssignableTo" ReflectliteType.assignableTo) Tryz.func262 (by kernel_rfl) (by kernel_rfl) (by kernel_rfl) (by kernel_rfl)
  have hElm := @run_callFunc_extern Tryz.prog 153 _ (ReflectliteValue.method (ReflectliteValue.valueError "reflectlite.Value.Elem" 0) ReflectliteValue.elem) Tryz.func153 (by kernel_rfl) (by kernel_rfl) (by kernel_rfl) (by kernel_rfl)
  have hSet := @run_callFunc_extern Tryz.prog 154 _ ReflectliteValue.set Tryz.func154 (by kernel_rfl) (by kernel_rfl) (by kernel_rfl) (by kernel_rfl)
  have mK := methodKind
  have mE := methodElem
  have mI := methodImplements
  have mA := methodAssignableTo
  have f6 := valueOfPF
  have f7 := typePF
  have k27 := kindPF
  have k25 := kindEF
  have e27 := elemPF
  have i25 := implementsEF
  have n8 := isNilPF ⟨w.heap.size, 0, none⟩ t ((w.alloc (.cells #[.pointer (some t)] 154)).alloc (.cells #[.pointer (some ⟨12, 154, none⟩), .pointer (some ⟨w.heap.size, 0, none⟩), .int .u64 150] 211)) (by simp)
  have hlt : 0 < w.heap.size := by
    rcases Nat.lt_or_ge 0 w.heap.size with h | h
    · exact h
    · simp [World.cell?, Array.getElem?_eq_none h] at hg
  have hg2 : ((w.alloc (.cells #[.pointer (some t)] 154)).alloc (.cells #[.pointer (some ⟨12, 154, none⟩), .pointer (some ⟨w.heap.size, 0, none⟩), .int .u64 150] 211)).cell? ⟨0, 0, none⟩ = some (.iface 266 (.agg #[.pointer (some ⟨12, 33, none⟩)])) := by
    rw [World.cell?_alloc_lt _ _ ⟨0, 0, none⟩ (by simp <;> omega), World.cell?_alloc_lt _ _ ⟨0, 0, none⟩ hlt]; exact hg
  have tO := typeOfEF
  have a25 := assignableEF
  have v25 := valueOfEF
  have htl : t.block < w.heap.size := by
    rcases Nat.lt_or_ge t.block w.heap.size with h | h
    · exact h
    · simp [World.cell?, Array.getElem?_eq_none h] at ht0
  have el := elemVPF ⟨w.heap.size, 0, none⟩ t (((w.alloc (.cells #[.pointer (some t)] 154)).alloc (.cells #[.pointer (some ⟨12, 154, none⟩), .pointer (some ⟨w.heap.size, 0, none⟩), .int .u64 150] 211)).alloc (.cells #[.pointer (some ⟨12, 154, none⟩), .pointer (some ⟨w.heap.size, 0, none⟩), .int .u64 150] 211)) (by rw [World.cell?_alloc_lt _ _ ⟨w.heap.size, 0, none⟩ (by simp; omega)]; simp)
  have st := setEF t ⟨w.heap.size + 1 + 1 + 1, 0, none⟩ e old ((((w.alloc (.cells #[.pointer (some t)] 154)).alloc (.cells #[.pointer (some ⟨12, 154, none⟩), .pointer (some ⟨w.heap.size, 0, none⟩), .int .u64 150] 211)).alloc (.cells #[.pointer (some ⟨12, 154, none⟩), .pointer (some ⟨w.heap.size, 0, none⟩), .int .u64 150] 211)).alloc (.cells #[.pointer (some e)] 152))
    (by rw [World.cell?_alloc_at _ _ _ _ (by simp)]; rfl)
    (by rw [World.cell?_alloc_lt _ _ t (by simp; omega), World.cell?_alloc_lt _ _ t (by simp; omega), World.cell?_alloc_lt _ _ t (by simp; omega), World.cell?_alloc_lt _ _ t htl]; exact ht0)
    (by rw [World.frozen?_alloc_old _ _ t (by simp; omega), World.frozen?_alloc_old _ _ t (by simp; omega), World.frozen?_alloc_old _ _ t (by simp; omega), World.frozen?_alloc_old _ _ t (Nat.ne_of_lt htl)]; exact hf0)
  go_enter Tryz.func71, Tryz.ntmps71
  go_wp2
  refine wp_loop_rounds 1 ?_
  rw [rounds_succ]
  go_wp2
  go_ret
  exact ⟨rfl, rfl⟩

set_option maxHeartbeats 4000000 in
theorem hitN (n : Int) (t : Addr) (old : Value) (w : World) (hg : w.cell? ⟨0, 0, none⟩ = some (.iface 266 (.agg #[.pointer (some ⟨12, 33, none⟩)]))) (ht0 : w.cell? t = some old) (hf0 : w.frozen? t = false) :
    Calls Tryz.prog 71 #[.iface 134 (.int .i64 n), .iface 159 (.pointer (some t))] w fun ev w' => ev = .returned (.bool true) ∧ w' = ((((w.alloc (.cells #[.pointer (some t)] 159)).alloc (.cells #[.pointer (some ⟨12, 159, none⟩), .pointer (some ⟨w.heap.size, 0, none⟩), .int .u64 150] 211)).alloc (.cells #[.pointer (some ⟨12, 159, none⟩), .pointer (some ⟨w.heap.size, 0, none⟩), .int .u64 150] 211)).alloc (.cells #[.int .i64 n] 134)).setCell t (.int .i64 n) := by
  have hVal := @run_callFunc_extern Tryz.prog 103 _ (fun args => ReflectliteValue.unpack (args.getD 0 (.tuple #[]))) Tryz.func103 (by kernel_rfl) (by kernel_rfl) (by kernel_rfl) (by kernel_rfl)
  have hTyp := @run_callFunc_extern Tryz.prog 104 _ (ReflectliteValue.methodAny (ReflectliteValue.valueError "reflectlite.Value.Type" 0) (fun t _ _ _ => ReflectliteType.toType t)) Tryz.func104 (by kernel_rfl) (by kernel_rfl) (by kernel_rfl) (by kernel_rfl)
  have hNil := @run_callFunc_extern Tryz.prog 105 _ (ReflectliteValue.method (ReflectliteValue.valueError "reflectlite.Value.IsNil" 0) ReflectliteValue.isNil) Tryz.func105 (by kernel_rfl) (by kernel_rfl) (by kernel_rfl) (by kernel_rfl)
  have hKnd := @run_callFunc_extern Tryz.prog 251 _ (ReflectliteType.abiMethod fun t => do pure (.int .u8 (← Rtype.kind t))) Tryz.func251 (by kernel_rfl) (by kernel_rfl) (by kernel_rfl) (by kernel_rfl)
  have hElt := @run_callFunc_extern Tryz.prog 264 _ (ReflectliteType.method ReflectliteType.elem) Tryz.func264 (by kernel_rfl) (by kernel_rfl) (by kernel_rfl) (by kernel_rfl)
  have hImp := @run_callFunc_extern Tryz.prog 265 _ (ReflectliteType.relation "Implements" ReflectliteType.implements_) Tryz.func265 (by kernel_rfl) (by kernel_rfl) (by kernel_rfl) (by kernel_rfl)
  have hTOf := @run_callFunc_extern Tryz.prog 101 _ ReflectliteType.typeOf Tryz.func101 (by kernel_rfl) (by kernel_rfl) (by kernel_rfl) (by kernel_rfl)
  have hAss := @run_callFunc_extern Tryz.prog 262 _ (ReflectliteType.relation "AssignableTo" ReflectliteType.assignableTo) Tryz.func262 (by kernel_rfl) (by kernel_rfl) (by kernel_rfl) (by kernel_rfl)
  have hElm := @run_callFunc_extern Tryz.prog 153 _ (ReflectliteValue.method (ReflectliteValue.valueError "reflectlite.Value.Elem" 0) ReflectliteValue.elem) Tryz.func153 (by kernel_rfl) (by kernel_rfl) (by kernel_rfl) (by kernel_rfl)
  have hSet := @run_callFunc_extern Tryz.prog 154 _ ReflectliteValue.set Tryz.func154 (by kernel_rfl) (by kernel_rfl) (by kernel_rfl) (by kernel_rfl)
  have mK := methodKind
  have mE := methodElem
  have mI := methodImplements
  have mA := methodAssignableTo
  have f6 := valueOfPN
  have f7 := typePN
  have k27 := kindPN
  have k25 := kindEN
  have e27 := elemPN
  have i25 := implementsEN
  have n8 := isNilPN ⟨w.heap.size, 0, none⟩ t ((w.alloc (.cells #[.pointer (some t)] 159)).alloc (.cells #[.pointer (some ⟨12, 159, none⟩), .pointer (some ⟨w.heap.size, 0, none⟩), .int .u64 150] 211)) (by simp)
  have hlt : 0 < w.heap.size := by
    rcases Nat.lt_or_ge 0 w.heap.size with h | h
    · exact h
    · simp [World.cell?, Array.getElem?_eq_none h] at hg
  have hg2 : ((w.alloc (.cells #[.pointer (some t)] 159)).alloc (.cells #[.pointer (some ⟨12, 159, none⟩), .pointer (some ⟨w.heap.size, 0, none⟩), .int .u64 150] 211)).cell? ⟨0, 0, none⟩ = some (.iface 266 (.agg #[.pointer (some ⟨12, 33, none⟩)])) := by
    rw [World.cell?_alloc_lt _ _ ⟨0, 0, none⟩ (by simp <;> omega), World.cell?_alloc_lt _ _ ⟨0, 0, none⟩ hlt]; exact hg
  have tO := typeOfEN
  have a25 := assignableEN
  have v25 := valueOfEN
  have htl : t.block < w.heap.size := by
    rcases Nat.lt_or_ge t.block w.heap.size with h | h
    · exact h
    · simp [World.cell?, Array.getElem?_eq_none h] at ht0
  have el := elemVPN ⟨w.heap.size, 0, none⟩ t (((w.alloc (.cells #[.pointer (some t)] 159)).alloc (.cells #[.pointer (some ⟨12, 159, none⟩), .pointer (some ⟨w.heap.size, 0, none⟩), .int .u64 150] 211)).alloc (.cells #[.pointer (some ⟨12, 159, none⟩), .pointer (some ⟨w.heap.size, 0, none⟩), .int .u64 150] 211)) (by rw [World.cell?_alloc_lt _ _ ⟨w.heap.size, 0, none⟩ (by simp; omega)]; simp)
  have st := setEN t ⟨w.heap.size + 1 + 1 + 1, 0, none⟩ n old ((((w.alloc (.cells #[.pointer (some t)] 159)).alloc (.cells #[.pointer (some ⟨12, 159, none⟩), .pointer (some ⟨w.heap.size, 0, none⟩), .int .u64 150] 211)).alloc (.cells #[.pointer (some ⟨12, 159, none⟩), .pointer (some ⟨w.heap.size, 0, none⟩), .int .u64 150] 211)).alloc (.cells #[.int .i64 n] 134))
    (by rw [World.cell?_alloc_at _ _ _ _ (by simp)]; rfl)
    (by rw [World.cell?_alloc_lt _ _ t (by simp; omega), World.cell?_alloc_lt _ _ t (by simp; omega), World.cell?_alloc_lt _ _ t (by simp; omega), World.cell?_alloc_lt _ _ t htl]; exact ht0)
    (by rw [World.frozen?_alloc_old _ _ t (by simp; omega), World.frozen?_alloc_old _ _ t (by simp; omega), World.frozen?_alloc_old _ _ t (by simp; omega), World.frozen?_alloc_old _ _ t (Nat.ne_of_lt htl)]; exact hf0)
  go_enter Tryz.func71, Tryz.ntmps71
  go_wp2
  refine wp_loop_rounds 1 ?_
  rw [rounds_succ]
  go_wp2
  go_ret
  exact ⟨rfl, rfl⟩

theorem assignableX (w : World) : (ReflectliteType.relation "AssignableTo" ReflectliteType.assignableTo #[.agg #[.pointer (some ⟨12, 134, none⟩)], .iface 266 (.agg #[.pointer (some ⟨12, 152, none⟩)])]).run Tryz.prog w = .ok (.bool false) w := by kernel_rfl
theorem noAs (v : Value) (xT : TypeId) (w : World) : (Instr.typeAssert (.iface 134 v) xT 278 true).run Tryz.prog w = .ok (.tuple #[.nilIface, .bool false]) w := run_typeAssert_lacksB Tryz.underlying278 (by kernel_rfl) (by kernel_rfl) v xT w
theorem noIs (v : Value) (xT : TypeId) (w : World) : (Instr.typeAssert (.iface 134 v) xT 268 true).run Tryz.prog w = .ok (.tuple #[.nilIface, .bool false]) w := run_typeAssert_lacksB Tryz.underlying268 (by kernel_rfl) (by kernel_rfl) v xT w
theorem noUn (v : Value) (xT : TypeId) (w : World) : (Instr.typeAssert (.iface 134 v) xT 271 true).run Tryz.prog w = .ok (.tuple #[.nilIface, .bool false]) w := run_typeAssert_lacksB Tryz.underlying271 (by kernel_rfl) (by kernel_rfl) v xT w
theorem noUs (v : Value) (xT : TypeId) (w : World) : (Instr.typeAssert (.iface 134 v) xT 273 true).run Tryz.prog w = .ok (.tuple #[.nilIface, .bool false]) w := run_typeAssert_lacksB Tryz.underlying273 (by kernel_rfl) (by kernel_rfl) v xT w

set_option maxHeartbeats 4000000 in
theorem missF (n : Int) (t : Addr) (w : World) (hg : w.cell? ⟨0, 0, none⟩ = some (.iface 266 (.agg #[.pointer (some ⟨12, 33, none⟩)]))) :
    Calls Tryz.prog 71 #[.iface 134 (.int .i64 n), .iface 154 (.pointer (some t))] w fun ev w' => ev = .returned (.bool false) ∧ w' = (((w.alloc (.cells #[.pointer (some t)] 154)).alloc (.cells #[.pointer (some ⟨12, 154, none⟩), .pointer (some ⟨w.heap.size, 0, none⟩), .int .u64 150] 211)).alloc (.cells #[.pointer (some ⟨12, 154, none⟩), .pointer (some ⟨w.heap.size, 0, none⟩), .int .u64 150] 211)) := by
  have hVal := @run_callFunc_extern Tryz.prog 103 _ (fun args => ReflectliteValue.unpack (args.getD 0 (.tuple #[]))) Tryz.func103 (by kernel_rfl) (by kernel_rfl) (by kernel_rfl) (by kernel_rfl)
  have hTyp := @run_callFunc_extern Tryz.prog 104 _ (ReflectliteValue.methodAny (ReflectliteValue.valueError "reflectlite.Value.Type" 0) (fun t _ _ _ => ReflectliteType.toType t)) Tryz.func104 (by kernel_rfl) (by kernel_rfl) (by kernel_rfl) (by kernel_rfl)
  have hNil := @run_callFunc_extern Tryz.prog 105 _ (ReflectliteValue.method (ReflectliteValue.valueError "reflectlite.Value.IsNil" 0) ReflectliteValue.isNil) Tryz.func105 (by kernel_rfl) (by kernel_rfl) (by kernel_rfl) (by kernel_rfl)
  have hKnd := @run_callFunc_extern Tryz.prog 251 _ (ReflectliteType.abiMethod fun t => do pure (.int .u8 (← Rtype.kind t))) Tryz.func251 (by kernel_rfl) (by kernel_rfl) (by kernel_rfl) (by kernel_rfl)
  have hElt := @run_callFunc_extern Tryz.prog 264 _ (ReflectliteType.method ReflectliteType.elem) Tryz.func264 (by kernel_rfl) (by kernel_rfl) (by kernel_rfl) (by kernel_rfl)
  have hImp := @run_callFunc_extern Tryz.prog 265 _ (ReflectliteType.relation "Implements" ReflectliteType.implements_) Tryz.func265 (by kernel_rfl) (by kernel_rfl) (by kernel_rfl) (by kernel_rfl)
  have hTOf := @run_callFunc_extern Tryz.prog 101 _ ReflectliteType.typeOf Tryz.func101 (by kernel_rfl) (by kernel_rfl) (by kernel_rfl) (by kernel_rfl)
  have hAss := @run_callFunc_extern Tryz.prog 262 _ (ReflectliteType.relation "AssignableTo" ReflectliteType.assignableTo) Tryz.func262 (by kernel_rfl) (by kernel_rfl) (by kernel_rfl) (by kernel_rfl)
  have hElm := @run_callFunc_extern Tryz.prog 153 _ (ReflectliteValue.method (ReflectliteValue.valueError "reflectlite.Value.Elem" 0) ReflectliteValue.elem) Tryz.func153 (by kernel_rfl) (by kernel_rfl) (by kernel_rfl) (by kernel_rfl)
  have hSet := @run_callFunc_extern Tryz.prog 154 _ ReflectliteValue.set Tryz.func154 (by kernel_rfl) (by kernel_rfl) (by kernel_rfl) (by kernel_rfl)
  have mK := methodKind
  have mE := methodElem
  have mI := methodImplements
  have mA := methodAssignableTo
  have f6 := valueOfPF
  have f7 := typePF
  have k27 := kindPF
  have k25 := kindEF
  have e27 := elemPF
  have i25 := implementsEF
  have n8 := isNilPF ⟨w.heap.size, 0, none⟩ t ((w.alloc (.cells #[.pointer (some t)] 154)).alloc (.cells #[.pointer (some ⟨12, 154, none⟩), .pointer (some ⟨w.heap.size, 0, none⟩), .int .u64 150] 211)) (by simp)
  have hlt : 0 < w.heap.size := by
    rcases Nat.lt_or_ge 0 w.heap.size with h | h
    · exact h
    · simp [World.cell?, Array.getElem?_eq_none h] at hg
  have hg2 : ((w.alloc (.cells #[.pointer (some t)] 154)).alloc (.cells #[.pointer (some ⟨12, 154, none⟩), .pointer (some ⟨w.heap.size, 0, none⟩), .int .u64 150] 211)).cell? ⟨0, 0, none⟩ = some (.iface 266 (.agg #[.pointer (some ⟨12, 33, none⟩)])) := by
    rw [World.cell?_alloc_lt _ _ ⟨0, 0, none⟩ (by simp <;> omega), World.cell?_alloc_lt _ _ ⟨0, 0, none⟩ hlt]; exact hg
  have tO := typeOfEN
  have a25 := assignableX
  have b1 := noAs
  have b2 := noUn
  have b3 := noUs
  go_enter Tryz.func71, Tryz.ntmps71
  go_wp2
  refine wp_loop_rounds 1 ?_
  rw [rounds_succ]
  go_wp2
  go_ret
  exact ⟨rfl, rfl⟩
end Go.Proofs.YtejjlojfgcgopaaGreatDoor.As
