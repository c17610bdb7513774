/-
  errors.As AT A *api.Errno, AND fault.Code: over a chain of *fault.Step that ends in an Errno.
  (Turned from the worked example ToyasAs.)
-/
import Derived.Test.YtidkamnciomnmaaDoorKit
import Derived.LaidEql
import Derived.Stop.Asserts
import Derived.RowKitTokens
namespace Go.Proofs.YtidkamnciomnmaaDoor
open Go.RowKit Go.Extern.Stop Go.Stop Go.Extern

theorem rlm (z : Sem Value) (f : TypeId → Addr → Nat → Nat → Sem Value) (v : Value) :
    ReflectliteValue.method z f #[v] = (do match ← ReflectliteValue.parts v with | none => z | some (t, a, fl) => f t a fl (fl % 32)) := rfl
theorem valueOfP (t : Addr) (w : World) : (ReflectliteValue.unpack (.iface 64 (.pointer (some t)))).run Tryd.prog w
    = .ok (.agg #[.pointer (some ⟨2, 64, none⟩), .pointer (some ⟨w.heap.size, 0, none⟩), .int .u64 150]) (w.alloc (.cells #[.pointer (some t)] 64)) := by kernel_rfl
theorem typeP (a : Addr) (w : World) : (ReflectliteValue.methodAny (ReflectliteValue.valueError "reflectlite.Value.Type" 0) (fun t _ _ _ => ReflectliteType.toType t) #[.agg #[.pointer (some ⟨2, 64, none⟩), .pointer (some a), .int .u64 150]]).run Tryd.prog w
    = .ok (.iface 95 (.agg #[.pointer (some ⟨2, 64, none⟩)])) w := by kernel_rfl
theorem kindP (w : World) : ((ReflectliteType.abiMethod fun t => (fun a : Nat => Value.int IntKind.u8 (a : Int)) <$> Rtype.kind t) #[.pointer (some ⟨2, 64, none⟩)]).run Tryd.prog w = .ok (.int .u8 22) w := by kernel_rfl
theorem kindE (w : World) : ((ReflectliteType.abiMethod fun t => (fun a : Nat => Value.int IntKind.u8 (a : Int)) <$> Rtype.kind t) #[.pointer (some ⟨2, 41, none⟩)]).run Tryd.prog w = .ok (.int .u8 2) w := by kernel_rfl
theorem partsP (a : Addr) (w : World) : (ReflectliteValue.parts (.agg #[.pointer (some ⟨2, 64, none⟩), .pointer (some a), .int .u64 150])).run Tryd.prog w = .ok (some (64, a, 150)) w := by kernel_rfl
theorem implementsE (w : World) : (ReflectliteType.relation "Implements" ReflectliteType.implements_ #[.agg #[.pointer (some ⟨2, 41, none⟩)], .iface 95 (.agg #[.pointer (some ⟨2, 36, none⟩)])]).run Tryd.prog w = .ok (.bool true) w := by kernel_rfl
theorem typeOfE (v : Value) (w : World) : (ReflectliteType.typeOf #[.iface 41 v]).run Tryd.prog w = .ok (.iface 95 (.agg #[.pointer (some ⟨2, 41, none⟩)])) w := by kernel_rfl
theorem typeOfS (v : Value) (w : World) : (ReflectliteType.typeOf #[.iface 72 v]).run Tryd.prog w = .ok (.iface 95 (.agg #[.pointer (some ⟨2, 72, none⟩)])) w := by kernel_rfl
theorem assignableE (w : World) : (ReflectliteType.relation "AssignableTo" ReflectliteType.assignableTo #[.agg #[.pointer (some ⟨2, 41, none⟩)], .iface 95 (.agg #[.pointer (some ⟨2, 41, none⟩)])]).run Tryd.prog w = .ok (.bool true) w := by kernel_rfl
theorem assignableS (w : World) : (ReflectliteType.relation "AssignableTo" ReflectliteType.assignableTo #[.agg #[.pointer (some ⟨2, 72, none⟩)], .iface 95 (.agg #[.pointer (some ⟨2, 41, none⟩)])]).run Tryd.prog w = .ok (.bool false) w := by kernel_rfl
theorem elemP (w : World) : (ReflectliteType.method ReflectliteType.elem #[.agg #[.pointer (some ⟨2, 64, none⟩)]]).run Tryd.prog w = .ok (.iface 95 (.agg #[.pointer (some ⟨2, 41, none⟩)])) w := by kernel_rfl
theorem valueOfE (c : Int) (w : World) : (ReflectliteValue.unpack (.iface 41 (.int .i64 c))).run Tryd.prog w
    = .ok (.agg #[.pointer (some ⟨2, 41, none⟩), .pointer (some ⟨w.heap.size, 0, none⟩), .int .u64 130]) (w.alloc (.cells #[.int .i64 c] 41)) := by kernel_rfl
theorem elemOfP (w : World) : (Rtype.elem? 64).run Tryd.prog w = .ok (some 41) w := by kernel_rfl
theorem mkE (p : Addr) (w : World) : (ReflectliteValue.mk 41 p ReflectliteValue.flagAddr).run Tryd.prog w = .ok (.agg #[.pointer (some ⟨2, 41, none⟩), .pointer (some p), .int .u64 386]) w := by kernel_rfl
theorem partsEa (a : Addr) (w : World) : (ReflectliteValue.parts (.agg #[.pointer (some ⟨2, 41, none⟩), .pointer (some a), .int .u64 386])).run Tryd.prog w = .ok (some (41, a, 386)) w := by kernel_rfl
theorem partsE (a : Addr) (w : World) : (ReflectliteValue.parts (.agg #[.pointer (some ⟨2, 41, none⟩), .pointer (some a), .int .u64 130])).run Tryd.prog w = .ok (some (41, a, 130)) w := by kernel_rfl
theorem directE (w : World) : (Rtype.directlyAssignable 41 41).run Tryd.prog w = .ok true w := by kernel_rfl
theorem methodKind (h : Value) (w : World) : (Go.method 261 95 (.agg #[h]) "Kind").run Tryd.prog w = .ok (83, h) w := by kernel_rfl
theorem methodElem (h : Value) (w : World) : (Go.method 261 95 (.agg #[h]) "Elem").run Tryd.prog w = .ok (95, .agg #[h]) w := by kernel_rfl
theorem methodImplements (h : Value) (w : World) : (Go.method 261 95 (.agg #[h]) "Implements").run Tryd.prog w = .ok (96, .agg #[h]) w := by kernel_rfl
theorem methodAssignableTo (h : Value) (w : World) : (Go.method 261 95 (.agg #[h]) "AssignableTo").run Tryd.prog w = .ok (93, .agg #[h]) w := by kernel_rfl
theorem methodUnwrap (h : Value) (w : World) : (Go.method 261 72 h "Unwrap").run Tryd.prog w = .ok (88, h) w := by kernel_rfl
/-- (Value).IsNil at the Value of a *api.Errno that is not nil. -/
theorem isNilP (a p : Addr) (W : World) (ha : W.cell? a = some (.pointer (some p))) :
    (ReflectliteValue.method (ReflectliteValue.valueError "reflectlite.Value.IsNil" 0) ReflectliteValue.isNil #[.agg #[.pointer (some ⟨2, 64, none⟩), .pointer (some a), .int .u64 150]]).run Tryd.prog W = .ok (.bool false) W := by
  rw [rlm]
  simp only [Sem.run_bind, partsP, Result.andThen]
  simp [ReflectliteValue.isNil, loadVar, isAgg, underlying, Tryd.underlying64, ha, Result.andThen]
/-- (Value).Elem at it. -/
theorem elemVP (a p : Addr) (W : World) (ha : W.cell? a = some (.pointer (some p))) :
    (ReflectliteValue.method (ReflectliteValue.valueError "reflectlite.Value.Elem" 0) ReflectliteValue.elem #[.agg #[.pointer (some ⟨2, 64, none⟩), .pointer (some a), .int .u64 150]]).run Tryd.prog W
      = .ok (.agg #[.pointer (some ⟨2, 41, none⟩), .pointer (some p), .int .u64 386]) W := by
  rw [rlm]
  simp only [Sem.run_bind, partsP, Result.andThen]
  simp [ReflectliteValue.elem, loadVar, isAgg, underlying, Tryd.underlying64, ha, Result.andThen, elemOfP, mkE]
theorem rls (v x : Value) : ReflectliteValue.set #[v, x] = (do
    let (some (dst, a, fl), some (src, b, _)) := (← ReflectliteValue.parts v, ← ReflectliteValue.parts x)
      | unsupported (.noEntry "extern/(internal/reflectlite.Value).Set.zeroValue")
    if fl / ReflectliteValue.flagAddr % 2 == 0 then unsupported (.noEntry "extern/(internal/reflectlite.Value).Set.unaddressable")
    let val ← loadVar src b
    if ← Rtype.directlyAssignable dst src then storeVar dst a val
    else if ← Rtype.implements dst src then
      if (← Rtype.kind src) == 20 then
        match val with
        | .nilIface => unsupported (.noEntry "extern/reflectlite: a nil value of one interface type handed on as a value of another")
        | _ => storeVar dst a val
      else storeVar dst a (.iface src val)
    else panicString ("reflectlite.Set: value of type " ++ (← Rtype.spelt src) ++ " is not assignable to type " ++ (← Rtype.spelt dst))
    pure (.tuple #[])) := rfl
/-- (Value).Set: the Errno at 'ta' gets what the Value's own variable 'b' holds. -/
theorem setE (ta b : Addr) (c : Int) (old : Value) (W : World) (hb : W.cell? b = some (.int .i64 c)) (ht : W.cell? ta = some old) (hf : W.frozen? ta = false) :
    (ReflectliteValue.set #[.agg #[.pointer (some ⟨2, 41, none⟩), .pointer (some ta), .int .u64 386], .agg #[.pointer (some ⟨2, 41, none⟩), .pointer (some b), .int .u64 130]]).run Tryd.prog W
      = .ok (.tuple #[]) (W.setCell ta (.int .i64 c)) := by
  rw [rls]
  simp only [Sem.run_bind, partsEa, partsE, Result.andThen]
  simp [ReflectliteValue.flagAddr, loadVar, isAgg, underlying, Tryd.underlying41, hb, Result.andThen, directE, storeVar, Value.cells, storeCells, Addr.add]
  rw [run_store Tryd.prog W ta _ _ (by rfl)]
  simp [ht, hf]
/-- errors.As of no error. -/
theorem as_nil (t : Value) (w : World) :
    Calls Tryd.prog 27 #[.nilIface, t] w fun e w' => e = .returned (.bool false) ∧ w = w' := by
  go_enter Tryd.func27, Tryd.ntmps27
  go_wp2
  go_ret
  exact ⟨rfl, rfl⟩
set_option maxRecDepth 4000 in
set_option maxHeartbeats 4000000 in
/-- errors.as of an Errno: true, and the target gets it. -/
theorem as1_hit (c : Int) (t b0 : Addr) (z old : Value) (w : World) (ht0 : w.cell? t = some old) (hf0 : w.frozen? t = false) (hc : w.cell? b0 = some (.pointer (some t))) :
    Calls Tryd.prog 37 #[.iface 41 (.int .i64 c), z, .agg #[.pointer (some ⟨2, 64, none⟩), .pointer (some b0), .int .u64 150], .iface 95 (.agg #[.pointer (some ⟨2, 41, none⟩)])] w
      fun ev w' => ev = .returned (.bool true) ∧ ((w.alloc (.cells #[.pointer (some ⟨2, 64, none⟩), .pointer (some b0), .int .u64 150] 79)).alloc (.cells #[.int .i64 c] 41)).setCell t (.int .i64 c) = w' := by
  have h11 := @run_callFunc_extern Tryd.prog 44 _ (ReflectliteValue.method (ReflectliteValue.valueError "reflectlite.Value.Elem" 0) ReflectliteValue.elem) Tryd.func44 (by kernel_rfl) (by kernel_rfl) (by kernel_rfl) (by kernel_rfl)
  have h6 := @run_callFunc_extern Tryd.prog 34 _ (fun args => ReflectliteValue.unpack (args.getD 0 (.tuple #[]))) Tryd.func34 (by kernel_rfl) (by kernel_rfl) (by kernel_rfl) (by kernel_rfl)
  have h12 := @run_callFunc_extern Tryd.prog 45 _ ReflectliteValue.set Tryd.func45 (by kernel_rfl) (by kernel_rfl) (by kernel_rfl) (by kernel_rfl)
  have h10 := @run_callFunc_extern Tryd.prog 43 _ ReflectliteType.typeOf Tryd.func43 (by kernel_rfl) (by kernel_rfl) (by kernel_rfl) (by kernel_rfl)
  have h35 := @run_callFunc_extern Tryd.prog 93 _ (ReflectliteType.relation "AssignableTo" ReflectliteType.assignableTo) Tryd.func93 (by kernel_rfl) (by kernel_rfl) (by kernel_rfl) (by kernel_rfl)
  have tO := typeOfE
  have mA := methodAssignableTo
  have aE := assignableE
  have vE := valueOfE
  have htl : t.block < w.heap.size := by
    rcases Nat.lt_or_ge t.block w.heap.size with h | h
    · exact h
    · simp [World.cell?, Array.getElem?_eq_none h] at ht0
  have hbl : b0.block < w.heap.size := by
    rcases Nat.lt_or_ge b0.block w.heap.size with h | h
    · exact h
    · simp [World.cell?, Array.getElem?_eq_none h] at hc
  have el := elemVP b0 t (w.alloc (.cells #[.pointer (some ⟨2, 64, none⟩), .pointer (some b0), .int .u64 150] 79)) (by rw [World.cell?_alloc_lt _ _ b0 hbl]; exact hc)
  have st := setE t ⟨w.heap.size + 1, 0, none⟩ c old ((w.alloc (.cells #[.pointer (some ⟨2, 64, none⟩), .pointer (some b0), .int .u64 150] 79)).alloc (.cells #[.int .i64 c] 41))
    (by rw [World.cell?_alloc_at _ _ _ _ (by simp)]; rfl)
    (by rw [World.cell?_alloc_lt _ _ t (by simp; omega), World.cell?_alloc_lt _ _ t htl]; exact ht0)
    (by rw [World.frozen?_alloc_old _ _ t (by simp; omega), World.frozen?_alloc_old _ _ t (Nat.ne_of_lt htl)]; exact hf0)
  go_enter Tryd.func37, Tryd.ntmps37
  go_wp2
  refine wp_loop_rounds 1 ?_
  rw [rounds_succ]
  go_wp2
  go_ret
  exact ⟨rfl, rfl⟩
/-- one Unwrap: what a Step wraps. -/
theorem unwrap_at {w : World} {g : Nat} {s : ByteArray} {i : Int} {u : Value} (h : Blk w g 74 #[.string s, .int .i64 i, u]) :
    Calls Tryd.prog 88 #[.pointer (some ⟨g, 0, none⟩)] w fun e w' => e = .returned u ∧ w = w' := by
  have c2 := h.cell 2
  simp only [List.getElem?_toArray, List.getElem?_cons_zero, List.getElem?_cons_succ] at c2
  go_enter Tryd.func88, Tryd.ntmps88
  go_wp2
  go_ret
  exact ⟨rfl, rfl⟩
end Go.Proofs.YtidkamnciomnmaaDoor
