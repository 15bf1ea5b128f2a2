/-
  Texts of this seat put together: L6.
-/
import Derived.Test.YtfgmmaahbngonaaGreatDoorQ9
import Derived.LaidEql
import Derived.Stop.Asserts
import Derived.RowKitTokens

/-
  The walk of errors.As at an error of logic's own (turned from the worked example ToyasAs), of ends. Conditions: what the library's variables hold; a process that runs.
-/
namespace Go.Proofs.YtfgmmaahbngonaaGreatDoor
open Go.RowKit Go.Shelf Go.Maps Go.Extern.Stop Go.Stop Go.Extern

/-- What errors.errorType holds, besides the others. -/
structure GloL (w : World) : Prop where
  glo : Glo w
  ety : w.cell? ⟨3, 0, none⟩ = some (.iface 299 (.agg #[.pointer (some ⟨9, 150, none⟩)]))
theorem GloL.below {w w' : World} (h : GloL w) (hb : Below w.heap.size w w') : GloL w' :=
  ⟨h.glo.below hb, (hb.cell (p := ⟨3, 0, none⟩) (World.block_lt_of_cell? _ _ h.ety)).trans h.ety⟩

theorem as_valueOfPP (t : Addr) (w : World) : (ReflectliteValue.unpack (.iface 192 (.pointer (some t)))).run Tryz.prog w
    = .ok (.agg #[.pointer (some ⟨9, 192, none⟩), .pointer (some ⟨w.heap.size, 0, none⟩), .int .u64 150]) (w.alloc (.cells #[.pointer (some t)] 192)) := by kernel_rfl
theorem as_typePP (a : Addr) (w : World) : (ReflectliteValue.methodAny (ReflectliteValue.valueError "reflectlite.Value.Type" 0) (fun t _ _ _ => ReflectliteType.toType t) #[.agg #[.pointer (some ⟨9, 192, none⟩), .pointer (some a), .int .u64 150]]).run Tryz.prog w
    = .ok (.iface 299 (.agg #[.pointer (some ⟨9, 192, none⟩)])) w := by kernel_rfl
theorem as_methodKind (h : Value) (w : World) : (Go.method 451 299 (.agg #[h]) "Kind").run Tryz.prog w = .ok (318, h) w := by kernel_rfl
theorem as_kindPP (w : World) : ((ReflectliteType.abiMethod fun t => (fun a : Nat => Value.int IntKind.u8 (a : Int)) <$> Rtype.kind t) #[.pointer (some ⟨9, 192, none⟩)]).run Tryz.prog w = .ok (.int .u8 22) w := by kernel_rfl
theorem as_kindP (w : World) : ((ReflectliteType.abiMethod fun t => (fun a : Nat => Value.int IntKind.u8 (a : Int)) <$> Rtype.kind t) #[.pointer (some ⟨9, 190, none⟩)]).run Tryz.prog w = .ok (.int .u8 22) w := by kernel_rfl
theorem rlm (z : Sem Value) (f : TypeId → Addr → Nat → Nat → Sem Value) (v : Value) :
    ReflectliteValue.method z f #[v] = (do match ← ReflectliteValue.parts v with | none => z | some (t, a, fl) => f t a fl (fl % 32)) := rfl
theorem as_partsPP (a : Addr) (w : World) : (ReflectliteValue.parts (.agg #[.pointer (some ⟨9, 192, none⟩), .pointer (some a), .int .u64 150])).run Tryz.prog w = .ok (some (192, a, 150)) w := by kernel_rfl
theorem as_isNilPP (a p : Addr) (W : World) (ha : W.cell? a = some (.pointer (some p))) :
    (ReflectliteValue.method (ReflectliteValue.valueError "reflectlite.Value.IsNil" 0) ReflectliteValue.isNil #[.agg #[.pointer (some ⟨9, 192, none⟩), .pointer (some a), .int .u64 150]]).run Tryz.prog W = .ok (.bool false) W := by
  rw [rlm]
  simp only [Sem.run_bind, as_partsPP, Result.andThen]
  simp [ReflectliteValue.isNil, loadVar, isAgg, underlying, Tryz.underlying192, ha, Result.andThen]
theorem as_methodElem (h : Value) (w : World) : (Go.method 451 299 (.agg #[h]) "Elem").run Tryz.prog w = .ok (342, .agg #[h]) w := by kernel_rfl
theorem as_methodImplements (h : Value) (w : World) : (Go.method 451 299 (.agg #[h]) "Implements").run Tryz.prog w = .ok (343, .agg #[h]) w := by kernel_rfl
theorem as_methodAssignableTo (h : Value) (w : World) : (Go.method 451 299 (.agg #[h]) "AssignableTo").run Tryz.prog w = .ok (340, .agg #[h]) w := by kernel_rfl
theorem as_elemPP (w : World) : (ReflectliteType.method ReflectliteType.elem #[.agg #[.pointer (some ⟨9, 192, none⟩)]]).run Tryz.prog w = .ok (.iface 299 (.agg #[.pointer (some ⟨9, 190, none⟩)])) w := by kernel_rfl
theorem as_implementsP (w : World) : (ReflectliteType.relation "Implements" ReflectliteType.implements_ #[.agg #[.pointer (some ⟨9, 190, none⟩)], .iface 299 (.agg #[.pointer (some ⟨9, 150, none⟩)])]).run Tryz.prog w = .ok (.bool true) w := by kernel_rfl
theorem as_typeOfP (v : Value) (w : World) : (ReflectliteType.typeOf #[.iface 190 v]).run Tryz.prog w = .ok (.iface 299 (.agg #[.pointer (some ⟨9, 190, none⟩)])) w := by kernel_rfl
theorem as_assignableP (w : World) : (ReflectliteType.relation "AssignableTo" ReflectliteType.assignableTo #[.agg #[.pointer (some ⟨9, 190, none⟩)], .iface 299 (.agg #[.pointer (some ⟨9, 190, none⟩)])]).run Tryz.prog w = .ok (.bool true) w := by kernel_rfl
theorem as_valueOfP (e : Addr) (w : World) : (ReflectliteValue.unpack (.iface 190 (.pointer (some e)))).run Tryz.prog w
    = .ok (.agg #[.pointer (some ⟨9, 190, none⟩), .pointer (some ⟨w.heap.size, 0, none⟩), .int .u64 150]) (w.alloc (.cells #[.pointer (some e)] 190)) := by kernel_rfl
theorem as_elemOfPP (w : World) : (Rtype.elem? 192).run Tryz.prog w = .ok (some 190) w := by kernel_rfl
theorem as_mkP (p : Addr) (w : World) : (ReflectliteValue.mk 190 p ReflectliteValue.flagAddr).run Tryz.prog w = .ok (.agg #[.pointer (some ⟨9, 190, none⟩), .pointer (some p), .int .u64 406]) w := by kernel_rfl
theorem as_elemVPP (a p : Addr) (W : World) (ha : W.cell? a = some (.pointer (some p))) :
    (ReflectliteValue.method (ReflectliteValue.valueError "reflectlite.Value.Elem" 0) ReflectliteValue.elem #[.agg #[.pointer (some ⟨9, 192, none⟩), .pointer (some a), .int .u64 150]]).run Tryz.prog W
      = .ok (.agg #[.pointer (some ⟨9, 190, none⟩), .pointer (some p), .int .u64 406]) W := by
  rw [rlm]
  simp only [Sem.run_bind, as_partsPP, Result.andThen]
  simp [ReflectliteValue.elem, loadVar, isAgg, underlying, Tryz.underlying192, ha, Result.andThen, as_elemOfPP, as_mkP]
theorem rls (v x : Value) : ReflectliteValue.set #[v, x] = (do
    let (some (dst, a, fl), some (src, b, _)) := (← ReflectliteValue.parts v, ← ReflectliteValue.parts x)
      | unsupported (.noEntry "extern/(internal/reflectlite.Value).Set.zeroValue")
    if fl / ReflectliteValue.flagAddr % 2 == 0 then unsupported (.noEntry "extern/(internal/reflectlite.Value).Set.unaddressable")
    let val ← loadVar src b
    if ← Rtype.directlyAssignable dst src then storeVar dst a val
    else if ← Rtype.implements dst src then
      if (← Rtype.kind src) == 20 then
        match val with
        | .nilIface => unsupported (.noEntry "extern/reflectlite: a nil value of one interface type handed on as a value of another")
        | _ => storeVar dst a val
      else storeVar dst a (.iface src val)
    else panicString ("reflectlite.Set: value of type " ++ (← Rtype.spelt src) ++ " is not assignable to type " ++ (← Rtype.spelt dst))
    pure (.tuple #[])) := rfl
theorem as_partsPa (a : Addr) (w : World) : (ReflectliteValue.parts (.agg #[.pointer (some ⟨9, 190, none⟩), .pointer (some a), .int .u64 406])).run Tryz.prog w = .ok (some (190, a, 406)) w := by kernel_rfl
theorem as_partsP (a : Addr) (w : World) : (ReflectliteValue.parts (.agg #[.pointer (some ⟨9, 190, none⟩), .pointer (some a), .int .u64 150])).run Tryz.prog w = .ok (some (190, a, 150)) w := by kernel_rfl
theorem as_directP (w : World) : (Rtype.directlyAssignable 190 190).run Tryz.prog w = .ok true w := by kernel_rfl
theorem as_setP (ta b e : Addr) (old : Value) (W : World) (hb : W.cell? b = some (.pointer (some e))) (ht : W.cell? ta = some old) (hf : W.frozen? ta = false) :
    (ReflectliteValue.set #[.agg #[.pointer (some ⟨9, 190, none⟩), .pointer (some ta), .int .u64 406], .agg #[.pointer (some ⟨9, 190, none⟩), .pointer (some b), .int .u64 150]]).run Tryz.prog W
      = .ok (.tuple #[]) (W.setCell ta (.pointer (some e))) := by
  rw [rls]
  simp only [Sem.run_bind, as_partsPa, as_partsP, Result.andThen]
  simp [ReflectliteValue.flagAddr, loadVar, isAgg, underlying, Tryz.underlying190, hb, Result.andThen, as_directP, storeVar, Value.cells, storeCells, Addr.add]
  rw [run_store Tryz.prog W ta _ _ (by rfl)]
  simp [ht, hf]

/-- The world behind errors.As that hits. -/
def asWorld (w : World) (e t : Addr) : World := ((((w.alloc (.cells #[.pointer (some t)] 192)).alloc (.cells #[.pointer (some ⟨9, 192, none⟩), .pointer (some ⟨w.heap.size, 0, none⟩), .int .u64 150] 255)).alloc (.cells #[.pointer (some ⟨9, 192, none⟩), .pointer (some ⟨w.heap.size, 0, none⟩), .int .u64 150] 255)).alloc (.cells #[.pointer (some e)] 190)).setCell t (.pointer (some e))

set_option maxRecDepth 100000 in
set_option maxHeartbeats 4000000 in
theorem as_hit (e t : Addr) (old : Value) (w : World) (hg : w.cell? ⟨3, 0, none⟩ = some (.iface 299 (.agg #[.pointer (some ⟨9, 150, none⟩)]))) (ht0 : w.cell? t = some old) (hf0 : w.frozen? t = false) :
    Calls Tryz.prog 83 #[.iface 190 (.pointer (some e)), .iface 192 (.pointer (some t))] w fun ev w' => ev = .returned (.bool true) ∧ w' = asWorld w e t := by
  have h6 := @run_callFunc_extern Tryz.prog 138 _ (fun args => ReflectliteValue.unpack (args.getD 0 (.tuple #[]))) Tryz.func138 (by kernel_rfl) (by kernel_rfl) (by kernel_rfl) (by kernel_rfl)
  have h7 := @run_callFunc_extern Tryz.prog 139 _ (ReflectliteValue.methodAny (ReflectliteValue.valueError "reflectlite.Value.Type" 0) (fun t _ _ _ => ReflectliteType.toType t)) Tryz.func139 (by kernel_rfl) (by kernel_rfl) (by kernel_rfl) (by kernel_rfl)
  have h8 := @run_callFunc_extern Tryz.prog 140 _ (ReflectliteValue.method (ReflectliteValue.valueError "reflectlite.Value.IsNil" 0) ReflectliteValue.isNil) Tryz.func140 (by kernel_rfl) (by kernel_rfl) (by kernel_rfl) (by kernel_rfl)
  have h27 := @run_callFunc_extern Tryz.prog 318 _ (ReflectliteType.abiMethod fun t => do pure (.int .u8 (← Rtype.kind t))) Tryz.func318 (by kernel_rfl) (by kernel_rfl) (by kernel_rfl) (by kernel_rfl)
  have h37 := @run_callFunc_extern Tryz.prog 342 _ (ReflectliteType.method ReflectliteType.elem) Tryz.func342 (by kernel_rfl) (by kernel_rfl) (by kernel_rfl) (by kernel_rfl)
  have h38 := @run_callFunc_extern Tryz.prog 343 _ (ReflectliteType.relation "Implements" ReflectliteType.implements_) Tryz.func343 (by kernel_rfl) (by kernel_rfl) (by kernel_rfl) (by kernel_rfl)
  have h10 := @run_callFunc_extern Tryz.prog 172 _ ReflectliteType.typeOf Tryz.func172 (by kernel_rfl) (by kernel_rfl) (by kernel_rfl) (by kernel_rfl)
  have h35 := @run_callFunc_extern Tryz.prog 340 _ (ReflectliteType.relation "AssignableTo" ReflectliteType.assignableTo) Tryz.func340 (by kernel_rfl) (by kernel_rfl) (by kernel_rfl) (by kernel_rfl)
  have h11 := @run_callFunc_extern Tryz.prog 173 _ (ReflectliteValue.method (ReflectliteValue.valueError "reflectlite.Value.Elem" 0) ReflectliteValue.elem) Tryz.func173 (by kernel_rfl) (by kernel_rfl) (by kernel_rfl) (by kernel_rfl)
  have h12 := @run_callFunc_extern Tryz.prog 174 _ ReflectliteValue.set Tryz.func174 (by kernel_rfl) (by kernel_rfl) (by kernel_rfl) (by kernel_rfl)
  have tO := as_typeOfP
  have mA := as_methodAssignableTo
  have a25 := as_assignableP
  have v25 := as_valueOfP
  have f6 := as_valueOfPP
  have f7 := as_typePP
  have mK := as_methodKind
  have mE := as_methodElem
  have mI := as_methodImplements
  have k27 := as_kindPP
  have k25 := as_kindP
  have e27 := as_elemPP
  have i25 := as_implementsP
  have hglt := World.block_lt_of_cell? _ _ hg
  have n8 := as_isNilPP ⟨w.heap.size, 0, none⟩ t ((w.alloc (.cells #[.pointer (some t)] 192)).alloc (.cells #[.pointer (some ⟨9, 192, none⟩), .pointer (some ⟨w.heap.size, 0, none⟩), .int .u64 150] 255)) (by simp)
  have hg2 : ((w.alloc (.cells #[.pointer (some t)] 192)).alloc (.cells #[.pointer (some ⟨9, 192, none⟩), .pointer (some ⟨w.heap.size, 0, none⟩), .int .u64 150] 255)).cell? ⟨3, 0, none⟩ = some (.iface 299 (.agg #[.pointer (some ⟨9, 150, none⟩)])) := by
    rw [World.cell?_alloc_lt _ _ ⟨3, 0, none⟩ (by simp; exact Nat.lt_succ_of_lt hglt), World.cell?_alloc_lt _ _ ⟨3, 0, none⟩ hglt]; exact hg
  have htl : t.block < w.heap.size := World.block_lt_of_cell? _ _ ht0
  have el := as_elemVPP ⟨w.heap.size, 0, none⟩ t (((w.alloc (.cells #[.pointer (some t)] 192)).alloc (.cells #[.pointer (some ⟨9, 192, none⟩), .pointer (some ⟨w.heap.size, 0, none⟩), .int .u64 150] 255)).alloc (.cells #[.pointer (some ⟨9, 192, none⟩), .pointer (some ⟨w.heap.size, 0, none⟩), .int .u64 150] 255)) (by rw [World.cell?_alloc_lt _ _ ⟨w.heap.size, 0, none⟩ (by simp; omega)]; simp)
  have st := as_setP t ⟨w.heap.size + 1 + 1 + 1, 0, none⟩ e old ((((w.alloc (.cells #[.pointer (some t)] 192)).alloc (.cells #[.pointer (some ⟨9, 192, none⟩), .pointer (some ⟨w.heap.size, 0, none⟩), .int .u64 150] 255)).alloc (.cells #[.pointer (some ⟨9, 192, none⟩), .pointer (some ⟨w.heap.size, 0, none⟩), .int .u64 150] 255)).alloc (.cells #[.pointer (some e)] 190))
    (by rw [World.cell?_alloc_at _ _ _ _ (by simp)]; rfl)
    (by rw [World.cell?_alloc_lt _ _ t (by simp; omega), World.cell?_alloc_lt _ _ t (by simp; omega), World.cell?_alloc_lt _ _ t (by simp; omega), World.cell?_alloc_lt _ _ t htl]; exact ht0)
    (by rw [World.frozen?_alloc_old _ _ t (by simp; omega), World.frozen?_alloc_old _ _ t (by simp; omega), World.frozen?_alloc_old _ _ t (by simp; omega), World.frozen?_alloc_old _ _ t (Nat.ne_of_lt htl)]; exact hf0)
  unfold asWorld
  go_enter Tryz.func83, Tryz.ntmps83
  go_wp2
  refine wp_loop_rounds 1 ?_
  rw [rounds_succ]
  go_wp2
  go_ret
  exact ⟨rfl, rfl⟩

end Go.Proofs.YtfgmmaahbngonaaGreatDoor
