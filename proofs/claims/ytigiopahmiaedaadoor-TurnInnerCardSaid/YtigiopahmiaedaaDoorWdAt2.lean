/-
  errors.As by its contracts, where the target is an Errno, after the worked example toyas. Conditions: stated at each.
-/
import Derived.Test.YtigiopahmiaedaaDoorWdAs
import Derived.Test.YtigiopahmiaedaaDoorChecked
import Derived.WalkKit
import Derived.LaidEql
import Derived.Stop.Asserts
import Derived.RowKitTokens
set_option linter.unusedVariables false
set_option linter.unusedSimpArgs false
namespace Go.Fw.Wd
open Go.Proofs Go.RowKit Go.Extern.Stop Go.Stop Go.Extern Code_

theorem at_valueOf27 (t : Addr) (w : World) : (ReflectliteValue.unpack (.iface 189 (.pointer (some t)))).run Tryd.prog w
    = .ok (.agg #[.pointer (some ⟨1, 189, none⟩), .pointer (some ⟨w.heap.size, 0, none⟩), .int .u64 150]) (w.alloc (.cells #[.pointer (some t)] 189)) := by kernel_rfl
theorem at_type27 (a : Addr) (w : World) : (ReflectliteValue.methodAny (ReflectliteValue.valueError "reflectlite.Value.Type" 0) (fun t _ _ _ => ReflectliteType.toType t) #[.agg #[.pointer (some ⟨1, 189, none⟩), .pointer (some a), .int .u64 150]]).run Tryd.prog w
    = .ok (.iface 200 (.agg #[.pointer (some ⟨1, 189, none⟩)])) w := by kernel_rfl
theorem at_kind27 (w : World) : ((ReflectliteType.abiMethod fun t => (fun a : Nat => Value.int IntKind.u8 (a : Int)) <$> Rtype.kind t) #[.pointer (some ⟨1, 189, none⟩)]).run Tryd.prog w = .ok (.int .u8 22) w := by kernel_rfl
theorem at_kind25 (w : World) : ((ReflectliteType.abiMethod fun t => (fun a : Nat => Value.int IntKind.u8 (a : Int)) <$> Rtype.kind t) #[.pointer (some ⟨1, 79, none⟩)]).run Tryd.prog w = .ok (.int .u8 2) w := by kernel_rfl


theorem at_parts27 (a : Addr) (w : World) : (ReflectliteValue.parts (.agg #[.pointer (some ⟨1, 189, none⟩), .pointer (some a), .int .u64 150])).run Tryd.prog w = .ok (some (189, a, 150)) w := by kernel_rfl
/-- (Value).IsNil at the Value of a **p.E that is not nil. -/
theorem at_isNil27 (a p : Addr) (W : World) (ha : W.cell? a = some (.pointer (some p))) :
    (ReflectliteValue.method (ReflectliteValue.valueError "reflectlite.Value.IsNil" 0) ReflectliteValue.isNil #[.agg #[.pointer (some ⟨1, 189, none⟩), .pointer (some a), .int .u64 150]]).run Tryd.prog W = .ok (.bool false) W := by
  rw [rlm]
  simp only [Sem.run_bind, at_parts27, Result.andThen]
  simp [ReflectliteValue.isNil, loadVar, isAgg, underlying, Tryd.underlying189, ha, Result.andThen]

theorem at_elem27 (w : World) : (ReflectliteType.method ReflectliteType.elem #[.agg #[.pointer (some ⟨1, 189, none⟩)]]).run Tryd.prog w = .ok (.iface 200 (.agg #[.pointer (some ⟨1, 79, none⟩)])) w := by kernel_rfl
theorem at_implements25 (w : World) : (ReflectliteType.relation "Implements" ReflectliteType.implements_ #[.agg #[.pointer (some ⟨1, 79, none⟩)], .iface 200 (.agg #[.pointer (some ⟨1, 50, none⟩)])]).run Tryd.prog w = .ok (.bool true) w := by kernel_rfl
theorem at_typeOf25 (v : Value) (w : World) : (ReflectliteType.typeOf #[.iface 79 v]).run Tryd.prog w = .ok (.iface 200 (.agg #[.pointer (some ⟨1, 79, none⟩)])) w := by kernel_rfl
theorem at_assignable25 (w : World) : (ReflectliteType.relation "AssignableTo" ReflectliteType.assignableTo #[.agg #[.pointer (some ⟨1, 79, none⟩)], .iface 200 (.agg #[.pointer (some ⟨1, 79, none⟩)])]).run Tryd.prog w = .ok (.bool true) w := by kernel_rfl
theorem at_valueOf25 (n : Int) (w : World) : (ReflectliteValue.unpack (.iface 79 (.int .i64 n))).run Tryd.prog w
    = .ok (.agg #[.pointer (some ⟨1, 79, none⟩), .pointer (some ⟨w.heap.size, 0, none⟩), .int .u64 130]) (w.alloc (.cells #[.int .i64 n] 79)) := by kernel_rfl

theorem at_elemOf27 (w : World) : (Rtype.elem? 189).run Tryd.prog w = .ok (some 79) w := by kernel_rfl
theorem at_mk25 (p : Addr) (w : World) : (ReflectliteValue.mk 79 p ReflectliteValue.flagAddr).run Tryd.prog w = .ok (.agg #[.pointer (some ⟨1, 79, none⟩), .pointer (some p), .int .u64 386]) w := by kernel_rfl
/-- (Value).Elem at the Value of a **p.E that is not nil: the Value of the *p.E variable that it points to, addressable. -/
theorem at_elemV27 (a p : Addr) (W : World) (ha : W.cell? a = some (.pointer (some p))) :
    (ReflectliteValue.method (ReflectliteValue.valueError "reflectlite.Value.Elem" 0) ReflectliteValue.elem #[.agg #[.pointer (some ⟨1, 189, none⟩), .pointer (some a), .int .u64 150]]).run Tryd.prog W
      = .ok (.agg #[.pointer (some ⟨1, 79, none⟩), .pointer (some p), .int .u64 386]) W := by
  rw [rlm]
  simp only [Sem.run_bind, at_parts27, Result.andThen]
  simp [ReflectliteValue.elem, loadVar, isAgg, underlying, Tryd.underlying189, ha, Result.andThen, at_elemOf27, at_mk25]
theorem at_parts25a (a : Addr) (w : World) : (ReflectliteValue.parts (.agg #[.pointer (some ⟨1, 79, none⟩), .pointer (some a), .int .u64 386])).run Tryd.prog w = .ok (some (79, a, 386)) w := by kernel_rfl
theorem at_parts25 (a : Addr) (w : World) : (ReflectliteValue.parts (.agg #[.pointer (some ⟨1, 79, none⟩), .pointer (some a), .int .u64 130])).run Tryd.prog w = .ok (some (79, a, 130)) w := by kernel_rfl
theorem at_direct25 (w : World) : (Rtype.directlyAssignable 79 79).run Tryd.prog w = .ok true w := by kernel_rfl
theorem at_size25 (w : World) : (sizeOf 79).run Tryd.prog w = .ok 1 w := by kernel_rfl
/-- (Value).Set: the *p.E variable at 'ta' gets what the Value's own variable 'b' holds. -/
theorem at_set25 (ta b : Addr) (n : Int) (old : Value) (W : World) (hb : W.cell? b = some (.int .i64 n)) (ht : W.cell? ta = some old) (hf : W.frozen? ta = false) :
    (ReflectliteValue.set #[.agg #[.pointer (some ⟨1, 79, none⟩), .pointer (some ta), .int .u64 386], .agg #[.pointer (some ⟨1, 79, none⟩), .pointer (some b), .int .u64 130]]).run Tryd.prog W
      = .ok (.tuple #[]) (W.setCell ta (.int .i64 n)) := by
  rw [rls]
  simp only [Sem.run_bind, at_parts25a, at_parts25, Result.andThen]
  simp [ReflectliteValue.flagAddr, loadVar, isAgg, underlying, Tryd.underlying79, hb, Result.andThen, at_direct25, storeVar, Value.cells, storeCells, Addr.add]
  rw [run_store Tryd.prog W ta _ _ (by rfl)]
  simp [ht, hf]

theorem at_assignableF (w : World) : (ReflectliteType.relation "AssignableTo" ReflectliteType.assignableTo #[.agg #[.pointer (some ⟨1, 125, none⟩)], .iface 200 (.agg #[.pointer (some ⟨1, 79, none⟩)])]).run Tryd.prog w = .ok (.bool false) w := by kernel_rfl
theorem no_asF (v : Value) (xT : TypeId) (w : World) : (Instr.typeAssert (.iface 125 v) xT 204 true).run Tryd.prog w = .ok (.tuple #[.nilIface, .bool false]) w := run_typeAssert_lacksB Tryd.underlying204 (by kernel_rfl) (by kernel_rfl) v xT w
theorem has_unF (v : Value) (xT : TypeId) (w : World) : (Instr.typeAssert (.iface 125 v) xT 207 true).run Tryd.prog w = .ok (.tuple #[.iface 125 v, .bool true]) w := run_typeAssert_hasB Tryd.underlying207 (by kernel_rfl) v xT w
theorem un_method (v : Value) (w : World) : (Go.method 343 125 v "Unwrap").run Tryd.prog w = .ok (145, v) w := by kernel_rfl
set_option maxHeartbeats 4000000 in
theorem at_hit (pb po : Nat) (sp : Option Nat) (n : Int) (t : Addr) (old : Value) (w : World) (hg : w.cell? ⟨0, 0, none⟩ = some (.iface 200 (.agg #[.pointer (some ⟨1, 50, none⟩)]))) (h1 : w.cell? ⟨pb, po + 1, none⟩ = some (.iface 79 (.int .i64 n))) (ht0 : w.cell? t = some old) (hf0 : w.frozen? t = false) :
    Calls Tryd.prog 88 #[.iface 125 (.pointer (some ⟨pb, po, sp⟩)), .iface 189 (.pointer (some t))] w fun ev w' => ev = .returned (.bool true) ∧ w' = ((((w.alloc (.cells #[.pointer (some t)] 189)).alloc (.cells #[.pointer (some ⟨1, 189, none⟩), .pointer (some ⟨w.heap.size, 0, none⟩), .int .u64 150] 180)).alloc (.cells #[.pointer (some ⟨1, 189, none⟩), .pointer (some ⟨w.heap.size, 0, none⟩), .int .u64 150] 180)).alloc (.cells #[.int .i64 n] 79)).setCell t (.int .i64 n) := by
  have h6 := @run_callFunc_extern Tryd.prog 113 _ (fun args => ReflectliteValue.unpack (args.getD 0 (.tuple #[]))) Tryd.func113 (by kernel_rfl) (by kernel_rfl) (by kernel_rfl) (by kernel_rfl)
  have h7 := @run_callFunc_extern Tryd.prog 114 _ (ReflectliteValue.methodAny (ReflectliteValue.valueError "reflectlite.Value.Type" 0) (fun t _ _ _ => ReflectliteType.toType t)) Tryd.func114 (by kernel_rfl) (by kernel_rfl) (by kernel_rfl) (by kernel_rfl)
  have h8 := @run_callFunc_extern Tryd.prog 115 _ (ReflectliteValue.method (ReflectliteValue.valueError "reflectlite.Value.IsNil" 0) ReflectliteValue.isNil) Tryd.func115 (by kernel_rfl) (by kernel_rfl) (by kernel_rfl) (by kernel_rfl)
  have h27 := @run_callFunc_extern Tryd.prog 140 _ (ReflectliteType.abiMethod fun t => do pure (.int .u8 (← Rtype.kind t))) Tryd.func140 (by kernel_rfl) (by kernel_rfl) (by kernel_rfl) (by kernel_rfl)
  have h37 := @run_callFunc_extern Tryd.prog 153 _ (ReflectliteType.method ReflectliteType.elem) Tryd.func153 (by kernel_rfl) (by kernel_rfl) (by kernel_rfl) (by kernel_rfl)
  have h38 := @run_callFunc_extern Tryd.prog 154 _ (ReflectliteType.relation "Implements" ReflectliteType.implements_) Tryd.func154 (by kernel_rfl) (by kernel_rfl) (by kernel_rfl) (by kernel_rfl)
  have h10 := @run_callFunc_extern Tryd.prog 117 _ ReflectliteType.typeOf Tryd.func117 (by kernel_rfl) (by kernel_rfl) (by kernel_rfl) (by kernel_rfl)
  have h35 := @run_callFunc_extern Tryd.prog 151 _ (ReflectliteType.relation "AssignableTo" ReflectliteType.assignableTo) Tryd.func151 (by kernel_rfl) (by kernel_rfl) (by kernel_rfl) (by kernel_rfl)
  have h11 := @run_callFunc_extern Tryd.prog 123 _ (ReflectliteValue.method (ReflectliteValue.valueError "reflectlite.Value.Elem" 0) ReflectliteValue.elem) Tryd.func123 (by kernel_rfl) (by kernel_rfl) (by kernel_rfl) (by kernel_rfl)
  have h12 := @run_callFunc_extern Tryd.prog 124 _ ReflectliteValue.set Tryd.func124 (by kernel_rfl) (by kernel_rfl) (by kernel_rfl) (by kernel_rfl)
  have tO := at_typeOf25
  have tF := as_typeOf25
  have aF := at_assignableF
  have nF := no_asF
  have uF := has_unF
  have mU := un_method
  have mA := as_methodAssignableTo
  have a25 := at_assignable25
  have v25 := at_valueOf25
  have f6 := at_valueOf27
  have f7 := at_type27
  have mK := as_methodKind
  have mE := as_methodElem
  have mI := as_methodImplements
  have k27 := at_kind27
  have k25 := at_kind25
  have e27 := at_elem27
  have i25 := at_implements25
  have n8 := at_isNil27 ⟨w.heap.size, 0, none⟩ t ((w.alloc (.cells #[.pointer (some t)] 189)).alloc (.cells #[.pointer (some ⟨1, 189, none⟩), .pointer (some ⟨w.heap.size, 0, none⟩), .int .u64 150] 180)) (by simp)
  have hlt : 0 < w.heap.size := by
    rcases Nat.eq_zero_or_pos w.heap.size with h0 | h
    · simp [World.cell?, h0] at hg
    · exact h
  have hg2 : ((w.alloc (.cells #[.pointer (some t)] 189)).alloc (.cells #[.pointer (some ⟨1, 189, none⟩), .pointer (some ⟨w.heap.size, 0, none⟩), .int .u64 150] 180)).cell? ⟨0, 0, none⟩ = some (.iface 200 (.agg #[.pointer (some ⟨1, 50, none⟩)])) := by
    rw [World.cell?_alloc_lt _ _ ⟨0, 0, none⟩ (by simp), World.cell?_alloc_lt _ _ ⟨0, 0, none⟩ hlt]; exact hg
  have htl : t.block < w.heap.size := by
    rcases Nat.lt_or_ge t.block w.heap.size with h | h
    · exact h
    · simp [World.cell?, Array.getElem?_eq_none h] at ht0
  have el := at_elemV27 ⟨w.heap.size, 0, none⟩ t (((w.alloc (.cells #[.pointer (some t)] 189)).alloc (.cells #[.pointer (some ⟨1, 189, none⟩), .pointer (some ⟨w.heap.size, 0, none⟩), .int .u64 150] 180)).alloc (.cells #[.pointer (some ⟨1, 189, none⟩), .pointer (some ⟨w.heap.size, 0, none⟩), .int .u64 150] 180)) (by rw [World.cell?_alloc_lt _ _ ⟨w.heap.size, 0, none⟩ (by simp; omega)]; simp)
  have st := at_set25 t ⟨w.heap.size + 1 + 1 + 1, 0, none⟩ n old ((((w.alloc (.cells #[.pointer (some t)] 189)).alloc (.cells #[.pointer (some ⟨1, 189, none⟩), .pointer (some ⟨w.heap.size, 0, none⟩), .int .u64 150] 180)).alloc (.cells #[.pointer (some ⟨1, 189, none⟩), .pointer (some ⟨w.heap.size, 0, none⟩), .int .u64 150] 180)).alloc (.cells #[.int .i64 n] 79))
    (by rw [World.cell?_alloc_at _ _ _ _ (by simp)]; rfl)
    (by rw [World.cell?_alloc_lt _ _ t (by simp; omega), World.cell?_alloc_lt _ _ t (by simp; omega), World.cell?_alloc_lt _ _ t (by simp; omega), World.cell?_alloc_lt _ _ t htl]; exact ht0)
    (by rw [World.frozen?_alloc_old _ _ t (by simp; omega), World.frozen?_alloc_old _ _ t (by simp; omega), World.frozen?_alloc_old _ _ t (by simp; omega), World.frozen?_alloc_old _ _ t (Nat.ne_of_lt htl)]; exact hf0)
  have hpl : pb < w.heap.size := by
    rcases Nat.lt_or_ge pb w.heap.size with h | h
    · exact h
    · simp [World.cell?, Array.getElem?_eq_none h] at h1
  have h1c : (((w.alloc (.cells #[.pointer (some t)] 189)).alloc (.cells #[.pointer (some ⟨1, 189, none⟩), .pointer (some ⟨w.heap.size, 0, none⟩), .int .u64 150] 180)).alloc (.cells #[.pointer (some ⟨1, 189, none⟩), .pointer (some ⟨w.heap.size, 0, none⟩), .int .u64 150] 180)).cell? ⟨pb, po + 1, none⟩ = some (.iface 79 (.int .i64 n)) := by
    rw [World.cell?_alloc_lt _ _ ⟨pb, po + 1, none⟩ (by simp; omega), World.cell?_alloc_lt _ _ ⟨pb, po + 1, none⟩ (by simp; omega), World.cell?_alloc_lt _ _ ⟨pb, po + 1, none⟩ hpl]; exact h1
  go_enter Tryd.func88, Tryd.ntmps88
  go_wp2
  refine wp_loop_rounds 2 ?_
  rw [rounds_succ]
  go_wp2
  rw [rounds_succ]
  go_wp2
  go_ret
  exact ⟨rfl, rfl⟩
end Go.Fw.Wd
