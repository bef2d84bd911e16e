/- errors.As at a *master.trouble (after the guide's worked text on errors.As): at nil; where the error is one. -/
import Derived.Test.YtabmcambgdnaiaaDoorKit
import Derived.LaidEql
import Derived.Stop.Asserts
import Derived.RowKitTokens
namespace Go.Proofs.YtabmcambgdnaiaaDoor.asW
open Go.RowKit Go.Extern.Stop Go.Stop Go.Extern
set_option linter.unusedVariables false

theorem as_nil (t : Value) (w : World) :
    Calls Tryd.prog 39 #[.nilIface, t] w fun e w' => e = .returned (.bool false) ∧ w' = w := by
  go_enter Tryd.func39, Tryd.ntmps39
  go_wp2
  go_ret
  exact ⟨rfl, rfl⟩


theorem valueOfX27 (t : Addr) (w : World) : (ReflectliteValue.unpack (.iface 71 (.pointer (some t)))).run Tryd.prog w
    = .ok (.agg #[.pointer (some ⟨8, 71, none⟩), .pointer (some ⟨w.heap.size, 0, none⟩), .int .u64 150]) (w.alloc (.cells #[.pointer (some t)] 71)) := by kernel_rfl
theorem typeX27 (a : Addr) (w : World) : (ReflectliteValue.methodAny (ReflectliteValue.valueError "reflectlite.Value.Type" 0) (fun t _ _ _ => ReflectliteType.toType t) #[.agg #[.pointer (some ⟨8, 71, none⟩), .pointer (some a), .int .u64 150]]).run Tryd.prog w
    = .ok (.iface 121 (.agg #[.pointer (some ⟨8, 71, none⟩)])) w := by kernel_rfl
theorem methodKind (h : Value) (w : World) : (Go.method 296 121 (.agg #[h]) "Kind").run Tryd.prog w = .ok (119, h) w := by kernel_rfl
theorem kindX27 (w : World) : ((ReflectliteType.abiMethod fun t => (fun a : Nat => Value.int IntKind.u8 (a : Int)) <$> Rtype.kind t) #[.pointer (some ⟨8, 71, none⟩)]).run Tryd.prog w = .ok (.int .u8 22) w := by kernel_rfl
theorem kindX25 (w : World) : ((ReflectliteType.abiMethod fun t => (fun a : Nat => Value.int IntKind.u8 (a : Int)) <$> Rtype.kind t) #[.pointer (some ⟨8, 69, none⟩)]).run Tryd.prog w = .ok (.int .u8 22) w := by kernel_rfl


theorem rlm (z : Sem Value) (f : TypeId → Addr → Nat → Nat → Sem Value) (v : Value) :
    ReflectliteValue.method z f #[v] = (do match ← ReflectliteValue.parts v with | none => z | some (t, a, fl) => f t a fl (fl % 32)) := rfl
theorem partsX27 (a : Addr) (w : World) : (ReflectliteValue.parts (.agg #[.pointer (some ⟨8, 71, none⟩), .pointer (some a), .int .u64 150])).run Tryd.prog w = .ok (some (71, a, 150)) w := by kernel_rfl

theorem isNilX27 (a p : Addr) (W : World) (ha : W.cell? a = some (.pointer (some p))) :
    (ReflectliteValue.method (ReflectliteValue.valueError "reflectlite.Value.IsNil" 0) ReflectliteValue.isNil #[.agg #[.pointer (some ⟨8, 71, none⟩), .pointer (some a), .int .u64 150]]).run Tryd.prog W = .ok (.bool false) W := by
  rw [rlm]
  simp only [Sem.run_bind, partsX27, Result.andThen]
  simp [ReflectliteValue.isNil, loadVar, isAgg, underlying, Tryd.underlying71, ha, Result.andThen]

theorem methodElem (h : Value) (w : World) : (Go.method 296 121 (.agg #[h]) "Elem").run Tryd.prog w = .ok (130, .agg #[h]) w := by kernel_rfl
theorem methodImplements (h : Value) (w : World) : (Go.method 296 121 (.agg #[h]) "Implements").run Tryd.prog w = .ok (131, .agg #[h]) w := by kernel_rfl
theorem methodAssignableTo (h : Value) (w : World) : (Go.method 296 121 (.agg #[h]) "AssignableTo").run Tryd.prog w = .ok (128, .agg #[h]) w := by kernel_rfl
theorem elemX27 (w : World) : (ReflectliteType.method ReflectliteType.elem #[.agg #[.pointer (some ⟨8, 71, none⟩)]]).run Tryd.prog w = .ok (.iface 121 (.agg #[.pointer (some ⟨8, 69, none⟩)])) w := by kernel_rfl
theorem implementsX25 (w : World) : (ReflectliteType.relation "Implements" ReflectliteType.implements_ #[.agg #[.pointer (some ⟨8, 69, none⟩)], .iface 121 (.agg #[.pointer (some ⟨8, 46, none⟩)])]).run Tryd.prog w = .ok (.bool true) w := by kernel_rfl
theorem typeOfX25 (v : Value) (w : World) : (ReflectliteType.typeOf #[.iface 69 v]).run Tryd.prog w = .ok (.iface 121 (.agg #[.pointer (some ⟨8, 69, none⟩)])) w := by kernel_rfl
theorem assignableX25 (w : World) : (ReflectliteType.relation "AssignableTo" ReflectliteType.assignableTo #[.agg #[.pointer (some ⟨8, 69, none⟩)], .iface 121 (.agg #[.pointer (some ⟨8, 69, none⟩)])]).run Tryd.prog w = .ok (.bool true) w := by kernel_rfl
theorem valueOfX25 (e : Addr) (w : World) : (ReflectliteValue.unpack (.iface 69 (.pointer (some e)))).run Tryd.prog w
    = .ok (.agg #[.pointer (some ⟨8, 69, none⟩), .pointer (some ⟨w.heap.size, 0, none⟩), .int .u64 150]) (w.alloc (.cells #[.pointer (some e)] 69)) := by kernel_rfl

theorem elemOfX27 (w : World) : (Rtype.elem? 71).run Tryd.prog w = .ok (some 69) w := by kernel_rfl
theorem mkX25 (p : Addr) (w : World) : (ReflectliteValue.mk 69 p ReflectliteValue.flagAddr).run Tryd.prog w = .ok (.agg #[.pointer (some ⟨8, 69, none⟩), .pointer (some p), .int .u64 406]) w := by kernel_rfl

theorem elemVX27 (a p : Addr) (W : World) (ha : W.cell? a = some (.pointer (some p))) :
    (ReflectliteValue.method (ReflectliteValue.valueError "reflectlite.Value.Elem" 0) ReflectliteValue.elem #[.agg #[.pointer (some ⟨8, 71, none⟩), .pointer (some a), .int .u64 150]]).run Tryd.prog W
      = .ok (.agg #[.pointer (some ⟨8, 69, none⟩), .pointer (some p), .int .u64 406]) W := by
  rw [rlm]
  simp only [Sem.run_bind, partsX27, Result.andThen]
  simp [ReflectliteValue.elem, loadVar, isAgg, underlying, Tryd.underlying71, ha, Result.andThen, elemOfX27, mkX25]
theorem rls (v x : Value) : ReflectliteValue.set #[v, x] = (do
    let (some (dst, a, fl), some (src, b, _)) := (← ReflectliteValue.parts v, ← ReflectliteValue.parts x)
      | unsupported (.noEntry "extern/(internal/reflectlite.Value).Set.zeroValue")
    if fl / ReflectliteValue.flagAddr % 2 == 0 then unsupported (.noEntry "extern/(internal/reflectlite.Value).Set.unaddressable")
    let val ← loadVar src b
    if ← Rtype.directlyAssignable dst src then storeVar dst a val
    else if ← Rtype.implements dst src then
      if (← Rtype.kind src) == 20 then
        match val with
        | .nilIface => unsupported (.noEntry "extern/reflectlite: a nil value of one interface type handed on as a value of another")
        | _ => storeVar dst a val
      else storeVar dst a (.iface src val)
    else panicString ("reflectlite.Set: value of type " ++ (← Rtype.spelt src) ++ " is not assignable to type " ++ (← Rtype.spelt dst))
    pure (.tuple #[])) := rfl
theorem partsX25a (a : Addr) (w : World) : (ReflectliteValue.parts (.agg #[.pointer (some ⟨8, 69, none⟩), .pointer (some a), .int .u64 406])).run Tryd.prog w = .ok (some (69, a, 406)) w := by kernel_rfl
theorem partsX25 (a : Addr) (w : World) : (ReflectliteValue.parts (.agg #[.pointer (some ⟨8, 69, none⟩), .pointer (some a), .int .u64 150])).run Tryd.prog w = .ok (some (69, a, 150)) w := by kernel_rfl
theorem directX25 (w : World) : (Rtype.directlyAssignable 69 69).run Tryd.prog w = .ok true w := by kernel_rfl
theorem sizeX25 (w : World) : (sizeOf 69).run Tryd.prog w = .ok 1 w := by kernel_rfl

theorem setX25 (ta b e : Addr) (old : Value) (W : World) (hb : W.cell? b = some (.pointer (some e))) (ht : W.cell? ta = some old) (hf : W.frozen? ta = false) :
    (ReflectliteValue.set #[.agg #[.pointer (some ⟨8, 69, none⟩), .pointer (some ta), .int .u64 406], .agg #[.pointer (some ⟨8, 69, none⟩), .pointer (some b), .int .u64 150]]).run Tryd.prog W
      = .ok (.tuple #[]) (W.setCell ta (.pointer (some e))) := by
  rw [rls]
  simp only [Sem.run_bind, partsX25a, partsX25, Result.andThen]
  simp [ReflectliteValue.flagAddr, loadVar, isAgg, underlying, Tryd.underlying69, hb, Result.andThen, directX25, storeVar, Value.cells, storeCells, Addr.add]
  rw [run_store Tryd.prog W ta _ _ (by rfl)]
  simp [ht, hf]

set_option maxHeartbeats 4000000 in
theorem as_hit (e t : Addr) (old : Value) (w : World) (hg : w.cell? ⟨0, 0, none⟩ = some (.iface 121 (.agg #[.pointer (some ⟨8, 46, none⟩)]))) (ht0 : w.cell? t = some old) (hf0 : w.frozen? t = false) :
    Calls Tryd.prog 39 #[.iface 69 (.pointer (some e)), .iface 71 (.pointer (some t))] w fun ev w' => ev = .returned (.bool true) ∧ w' = ((((w.alloc (.cells #[.pointer (some t)] 71)).alloc (.cells #[.pointer (some ⟨8, 71, none⟩), .pointer (some ⟨w.heap.size, 0, none⟩), .int .u64 150] 93)).alloc (.cells #[.pointer (some ⟨8, 71, none⟩), .pointer (some ⟨w.heap.size, 0, none⟩), .int .u64 150] 93)).alloc (.cells #[.pointer (some e)] 69)).setCell t (.pointer (some e)) := by
  have h6 := @run_callFunc_extern Tryd.prog 54 _ (fun args => ReflectliteValue.unpack (args.getD 0 (.tuple #[]))) Tryd.func54 (by kernel_rfl) (by kernel_rfl) (by kernel_rfl) (by kernel_rfl)
  have h7 := @run_callFunc_extern Tryd.prog 55 _ (ReflectliteValue.methodAny (ReflectliteValue.valueError "reflectlite.Value.Type" 0) (fun t _ _ _ => ReflectliteType.toType t)) Tryd.func55 (by kernel_rfl) (by kernel_rfl) (by kernel_rfl) (by kernel_rfl)
  have h8 := @run_callFunc_extern Tryd.prog 56 _ (ReflectliteValue.method (ReflectliteValue.valueError "reflectlite.Value.IsNil" 0) ReflectliteValue.isNil) Tryd.func56 (by kernel_rfl) (by kernel_rfl) (by kernel_rfl) (by kernel_rfl)
  have h27 := @run_callFunc_extern Tryd.prog 119 _ (ReflectliteType.abiMethod fun t => do pure (.int .u8 (← Rtype.kind t))) Tryd.func119 (by kernel_rfl) (by kernel_rfl) (by kernel_rfl) (by kernel_rfl)
  have h37 := @run_callFunc_extern Tryd.prog 130 _ (ReflectliteType.method ReflectliteType.elem) Tryd.func130 (by kernel_rfl) (by kernel_rfl) (by kernel_rfl) (by kernel_rfl)
  have h38 := @run_callFunc_extern Tryd.prog 131 _ (ReflectliteType.relation "Implements" ReflectliteType.implements_) Tryd.func131 (by kernel_rfl) (by kernel_rfl) (by kernel_rfl) (by kernel_rfl)
  have h10 := @run_callFunc_extern Tryd.prog 77 _ ReflectliteType.typeOf Tryd.func77 (by kernel_rfl) (by kernel_rfl) (by kernel_rfl) (by kernel_rfl)
  have h35 := @run_callFunc_extern Tryd.prog 128 _ (ReflectliteType.relation "AssignableTo" ReflectliteType.assignableTo) Tryd.func128 (by kernel_rfl) (by kernel_rfl) (by kernel_rfl) (by kernel_rfl)
  have h11 := @run_callFunc_extern Tryd.prog 78 _ (ReflectliteValue.method (ReflectliteValue.valueError "reflectlite.Value.Elem" 0) ReflectliteValue.elem) Tryd.func78 (by kernel_rfl) (by kernel_rfl) (by kernel_rfl) (by kernel_rfl)
  have h12 := @run_callFunc_extern Tryd.prog 79 _ ReflectliteValue.set Tryd.func79 (by kernel_rfl) (by kernel_rfl) (by kernel_rfl) (by kernel_rfl)
  have tO := typeOfX25
  have mA := methodAssignableTo
  have a25 := assignableX25
  have v25 := valueOfX25
  have f6 := valueOfX27
  have f7 := typeX27
  have mK := methodKind
  have mE := methodElem
  have mI := methodImplements
  have k27 := kindX27
  have k25 := kindX25
  have e27 := elemX27
  have i25 := implementsX25
  have n8 := isNilX27 ⟨w.heap.size, 0, none⟩ t ((w.alloc (.cells #[.pointer (some t)] 71)).alloc (.cells #[.pointer (some ⟨8, 71, none⟩), .pointer (some ⟨w.heap.size, 0, none⟩), .int .u64 150] 93)) (by simp)
  have hlt : 0 < w.heap.size := by
    rcases Nat.eq_zero_or_pos w.heap.size with h0 | h
    · simp [World.cell?, h0] at hg
    · exact h
  have hg2 : ((w.alloc (.cells #[.pointer (some t)] 71)).alloc (.cells #[.pointer (some ⟨8, 71, none⟩), .pointer (some ⟨w.heap.size, 0, none⟩), .int .u64 150] 93)).cell? ⟨0, 0, none⟩ = some (.iface 121 (.agg #[.pointer (some ⟨8, 46, none⟩)])) := by
    rw [World.cell?_alloc_lt _ _ ⟨0, 0, none⟩ (by simp), World.cell?_alloc_lt _ _ ⟨0, 0, none⟩ hlt]; exact hg
  have htl : t.block < w.heap.size := by
    rcases Nat.lt_or_ge t.block w.heap.size with h | h
    · exact h
    · simp [World.cell?, Array.getElem?_eq_none h] at ht0
  have el := elemVX27 ⟨w.heap.size, 0, none⟩ t (((w.alloc (.cells #[.pointer (some t)] 71)).alloc (.cells #[.pointer (some ⟨8, 71, none⟩), .pointer (some ⟨w.heap.size, 0, none⟩), .int .u64 150] 93)).alloc (.cells #[.pointer (some ⟨8, 71, none⟩), .pointer (some ⟨w.heap.size, 0, none⟩), .int .u64 150] 93)) (by rw [World.cell?_alloc_lt _ _ ⟨w.heap.size, 0, none⟩ (by simp; omega)]; simp)
  have st := setX25 t ⟨w.heap.size + 1 + 1 + 1, 0, none⟩ e old ((((w.alloc (.cells #[.pointer (some t)] 71)).alloc (.cells #[.pointer (some ⟨8, 71, none⟩), .pointer (some ⟨w.heap.size, 0, none⟩), .int .u64 150] 93)).alloc (.cells #[.pointer (some ⟨8, 71, none⟩), .pointer (some ⟨w.heap.size, 0, none⟩), .int .u64 150] 93)).alloc (.cells #[.pointer (some e)] 69))
    (by rw [World.cell?_alloc_at _ _ _ _ (by simp)]; rfl)
    (by rw [World.cell?_alloc_lt _ _ t (by simp; omega), World.cell?_alloc_lt _ _ t (by simp; omega), World.cell?_alloc_lt _ _ t (by simp; omega), World.cell?_alloc_lt _ _ t htl]; exact ht0)
    (by rw [World.frozen?_alloc_old _ _ t (by simp; omega), World.frozen?_alloc_old _ _ t (by simp; omega), World.frozen?_alloc_old _ _ t (by simp; omega), World.frozen?_alloc_old _ _ t (Nat.ne_of_lt htl)]; exact hf0)
  go_enter Tryd.func39, Tryd.ntmps39
  go_wp2
  refine wp_loop_rounds 1 ?_
  rw [rounds_succ]
  go_wp2
  go_ret
  exact ⟨rfl, rfl⟩
end Go.Proofs.YtabmcambgdnaiaaDoor.asW
