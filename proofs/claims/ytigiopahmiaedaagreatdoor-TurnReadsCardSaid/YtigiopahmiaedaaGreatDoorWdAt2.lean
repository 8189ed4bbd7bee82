/-
  errors.As by its contracts, where the target is an Errno, after the worked example toyas. Conditions: stated at each.
-/
import Derived.Test.YtigiopahmiaedaaGreatDoorWdAs
import Derived.Test.YtigiopahmiaedaaGreatDoorChecked
import Derived.WalkKit
import Derived.LaidEql
import Derived.Stop.Asserts
import Derived.RowKitTokens
set_option linter.unusedVariables false
set_option linter.unusedSimpArgs false
namespace Go.Fw.Wd
open Go.Proofs Go.RowKit Go.Extern.Stop Go.Stop Go.Extern Code_

theorem at_valueOf27 (t : Addr) (w : World) : (ReflectliteValue.unpack (.iface 137 (.pointer (some t)))).run Tryz.prog w
    = .ok (.agg #[.pointer (some ⟨1, 137, none⟩), .pointer (some ⟨w.heap.size, 0, none⟩), .int .u64 150]) (w.alloc (.cells #[.pointer (some t)] 137)) := by kernel_rfl
theorem at_type27 (a : Addr) (w : World) : (ReflectliteValue.methodAny (ReflectliteValue.valueError "reflectlite.Value.Type" 0) (fun t _ _ _ => ReflectliteType.toType t) #[.agg #[.pointer (some ⟨1, 137, none⟩), .pointer (some a), .int .u64 150]]).run Tryz.prog w
    = .ok (.iface 183 (.agg #[.pointer (some ⟨1, 137, none⟩)])) w := by kernel_rfl
theorem at_kind27 (w : World) : ((ReflectliteType.abiMethod fun t => (fun a : Nat => Value.int IntKind.u8 (a : Int)) <$> Rtype.kind t) #[.pointer (some ⟨1, 137, none⟩)]).run Tryz.prog w = .ok (.int .u8 22) w := by kernel_rfl
theorem at_kind25 (w : World) : ((ReflectliteType.abiMethod fun t => (fun a : Nat => Value.int IntKind.u8 (a : Int)) <$> Rtype.kind t) #[.pointer (some ⟨1, 43, none⟩)]).run Tryz.prog w = .ok (.int .u8 2) w := by kernel_rfl


theorem at_parts27 (a : Addr) (w : World) : (ReflectliteValue.parts (.agg #[.pointer (some ⟨1, 137, none⟩), .pointer (some a), .int .u64 150])).run Tryz.prog w = .ok (some (137, a, 150)) w := by kernel_rfl
/-- (Value).IsNil at the Value of a **p.E that is not nil. -/
theorem at_isNil27 (a p : Addr) (W : World) (ha : W.cell? a = some (.pointer (some p))) :
    (ReflectliteValue.method (ReflectliteValue.valueError "reflectlite.Value.IsNil" 0) ReflectliteValue.isNil #[.agg #[.pointer (some ⟨1, 137, none⟩), .pointer (some a), .int .u64 150]]).run Tryz.prog W = .ok (.bool false) W := by
  rw [rlm]
  simp only [Sem.run_bind, at_parts27, Result.andThen]
  simp [ReflectliteValue.isNil, loadVar, isAgg, underlying, Tryz.underlying137, ha, Result.andThen]

theorem at_elem27 (w : World) : (ReflectliteType.method ReflectliteType.elem #[.agg #[.pointer (some ⟨1, 137, none⟩)]]).run Tryz.prog w = .ok (.iface 183 (.agg #[.pointer (some ⟨1, 43, none⟩)])) w := by kernel_rfl
theorem at_implements25 (w : World) : (ReflectliteType.relation "Implements" ReflectliteType.implements_ #[.agg #[.pointer (some ⟨1, 43, none⟩)], .iface 183 (.agg #[.pointer (some ⟨1, 36, none⟩)])]).run Tryz.prog w = .ok (.bool true) w := by kernel_rfl
theorem at_typeOf25 (v : Value) (w : World) : (ReflectliteType.typeOf #[.iface 43 v]).run Tryz.prog w = .ok (.iface 183 (.agg #[.pointer (some ⟨1, 43, none⟩)])) w := by kernel_rfl
theorem at_assignable25 (w : World) : (ReflectliteType.relation "AssignableTo" ReflectliteType.assignableTo #[.agg #[.pointer (some ⟨1, 43, none⟩)], .iface 183 (.agg #[.pointer (some ⟨1, 43, none⟩)])]).run Tryz.prog w = .ok (.bool true) w := by kernel_rfl
theorem at_valueOf25 (n : Int) (w : World) : (ReflectliteValue.unpack (.iface 43 (.int .i64 n))).run Tryz.prog w
    = .ok (.agg #[.pointer (some ⟨1, 43, none⟩), .pointer (some ⟨w.heap.size, 0, none⟩), .int .u64 130]) (w.alloc (.cells #[.int .i64 n] 43)) := by kernel_rfl

theorem at_elemOf27 (w : World) : (Rtype.elem? 137).run Tryz.prog w = .ok (some 43) w := by kernel_rfl
theorem at_mk25 (p : Addr) (w : World) : (ReflectliteValue.mk 43 p ReflectliteValue.flagAddr).run Tryz.prog w = .ok (.agg #[.pointer (some ⟨1, 43, none⟩), .pointer (some p), .int .u64 386]) w := by kernel_rfl
/-- (Value).Elem at the Value of a **p.E that is not nil: the Value of the *p.E variable that it points to, addressable. -/
theorem at_elemV27 (a p : Addr) (W : World) (ha : W.cell? a = some (.pointer (some p))) :
    (ReflectliteValue.method (ReflectliteValue.valueError "reflectlite.Value.Elem" 0) ReflectliteValue.elem #[.agg #[.pointer (some ⟨1, 137, none⟩), .pointer (some a), .int .u64 150]]).run Tryz.prog W
      = .ok (.agg #[.pointer (some ⟨1, 43, none⟩), .pointer (some p), .int .u64 386]) W := by
  rw [rlm]
  simp only [Sem.run_bind, at_parts27, Result.andThen]
  simp [ReflectliteValue.elem, loadVar, isAgg, underlying, Tryz.underlying137, ha, Result.andThen, at_elemOf27, at_mk25]
theorem at_parts25a (a : Addr) (w : World) : (ReflectliteValue.parts (.agg #[.pointer (some ⟨1, 43, none⟩), .pointer (some a), .int .u64 386])).run Tryz.prog w = .ok (some (43, a, 386)) w := by kernel_rfl
theorem at_parts25 (a : Addr) (w : World) : (ReflectliteValue.parts (.agg #[.pointer (some ⟨1, 43, none⟩), .pointer (some a), .int .u64 130])).run Tryz.prog w = .ok (some (43, a, 130)) w := by kernel_rfl
theorem at_direct25 (w : World) : (Rtype.directlyAssignable 43 43).run Tryz.prog w = .ok true w := by kernel_rfl
theorem at_size25 (w : World) : (sizeOf 43).run Tryz.prog w = .ok 1 w := by kernel_rfl
/-- (Value).Set: the *p.E variable at 'ta' gets what the Value's own variable 'b' holds. -/
theorem at_set25 (ta b : Addr) (n : Int) (old : Value) (W : World) (hb : W.cell? b = some (.int .i64 n)) (ht : W.cell? ta = some old) (hf : W.frozen? ta = false) :
    (ReflectliteValue.set #[.agg #[.pointer (some ⟨1, 43, none⟩), .pointer (some ta), .int .u64 386], .agg #[.pointer (some ⟨1, 43, none⟩), .pointer (some b), .int .u64 130]]).run Tryz.prog W
      = .ok (.tuple #[]) (W.setCell ta (.int .i64 n)) := by
  rw [rls]
  simp only [Sem.run_bind, at_parts25a, at_parts25, Result.andThen]
  simp [ReflectliteValue.flagAddr, loadVar, isAgg, underlying, Tryz.underlying43, hb, Result.andThen, at_direct25, storeVar, Value.cells, storeCells, Addr.add]
  rw [run_store Tryz.prog W ta _ _ (by rfl)]
  simp [ht, hf]

theorem at_assignableF (w : World) : (ReflectliteType.relation "AssignableTo" ReflectliteType.assignableTo #[.agg #[.pointer (some ⟨1, 119, none⟩)], .iface 183 (.agg #[.pointer (some ⟨1, 43, none⟩)])]).run Tryz.prog w = .ok (.bool false) w := by kernel_rfl
theorem no_asF (v : Value) (xT : TypeId) (w : World) : (Instr.typeAssert (.iface 119 v) xT 187 true).run Tryz.prog w = .ok (.tuple #[.nilIface, .bool false]) w := run_typeAssert_lacksB Tryz.underlying187 (by kernel_rfl) (by kernel_rfl) v xT w
theorem has_unF (v : Value) (xT : TypeId) (w : World) : (Instr.typeAssert (.iface 119 v) xT 190 true).run Tryz.prog w = .ok (.tuple #[.iface 119 v, .bool true]) w := run_typeAssert_hasB Tryz.underlying190 (by kernel_rfl) v xT w
theorem un_method (v : Value) (w : World) : (Go.method 339 119 v "Unwrap").run Tryz.prog w = .ok (136, v) w := by kernel_rfl
set_option maxHeartbeats 4000000 in
theorem at_hit (pb po : Nat) (sp : Option Nat) (n : Int) (t : Addr) (old : Value) (w : World) (hg : w.cell? ⟨0, 0, none⟩ = some (.iface 183 (.agg #[.pointer (some ⟨1, 36, none⟩)]))) (h1 : w.cell? ⟨pb, po + 1, none⟩ = some (.iface 43 (.int .i64 n))) (ht0 : w.cell? t = some old) (hf0 : w.frozen? t = false) :
    Calls Tryz.prog 59 #[.iface 119 (.pointer (some ⟨pb, po, sp⟩)), .iface 137 (.pointer (some t))] w fun ev w' => ev = .returned (.bool true) ∧ w' = ((((w.alloc (.cells #[.pointer (some t)] 137)).alloc (.cells #[.pointer (some ⟨1, 137, none⟩), .pointer (some ⟨w.heap.size, 0, none⟩), .int .u64 150] 155)).alloc (.cells #[.pointer (some ⟨1, 137, none⟩), .pointer (some ⟨w.heap.size, 0, none⟩), .int .u64 150] 155)).alloc (.cells #[.int .i64 n] 43)).setCell t (.int .i64 n) := by
  have h6 := @run_callFunc_extern Tryz.prog 86 _ (fun args => ReflectliteValue.unpack (args.getD 0 (.tuple #[]))) Tryz.func86 (by kernel_rfl) (by kernel_rfl) (by kernel_rfl) (by kernel_rfl)
  have h7 := @run_callFunc_extern Tryz.prog 87 _ (ReflectliteValue.methodAny (ReflectliteValue.valueError "reflectlite.Value.Type" 0) (fun t _ _ _ => ReflectliteType.toType t)) Tryz.func87 (by kernel_rfl) (by kernel_rfl) (by kernel_rfl) (by kernel_rfl)
  have h8 := @run_callFunc_extern Tryz.prog 88 _ (ReflectliteValue.method (ReflectliteValue.valueError "reflectlite.Value.IsNil" 0) ReflectliteValue.isNil) Tryz.func88 (by kernel_rfl) (by kernel_rfl) (by kernel_rfl) (by kernel_rfl)
  have h27 := @run_callFunc_extern Tryz.prog 130 _ (ReflectliteType.abiMethod fun t => do pure (.int .u8 (← Rtype.kind t))) Tryz.func130 (by kernel_rfl) (by kernel_rfl) (by kernel_rfl) (by kernel_rfl)
  have h37 := @run_callFunc_extern Tryz.prog 143 _ (ReflectliteType.method ReflectliteType.elem) Tryz.func143 (by kernel_rfl) (by kernel_rfl) (by kernel_rfl) (by kernel_rfl)
  have h38 := @run_callFunc_extern Tryz.prog 144 _ (ReflectliteType.relation "Implements" ReflectliteType.implements_) Tryz.func144 (by kernel_rfl) (by kernel_rfl) (by kernel_rfl) (by kernel_rfl)
  have h10 := @run_callFunc_extern Tryz.prog 90 _ ReflectliteType.typeOf Tryz.func90 (by kernel_rfl) (by kernel_rfl) (by kernel_rfl) (by kernel_rfl)
  have h35 := @run_callFunc_extern Tryz.prog 141 _ (ReflectliteType.relation "AssignableTo" ReflectliteType.assignableTo) Tryz.func141 (by kernel_rfl) (by kernel_rfl) (by kernel_rfl) (by kernel_rfl)
  have h11 := @run_callFunc_extern Tryz.prog 105 _ (ReflectliteValue.method (ReflectliteValue.valueError "reflectlite.Value.Elem" 0) ReflectliteValue.elem) Tryz.func105 (by kernel_rfl) (by kernel_rfl) (by kernel_rfl) (by kernel_rfl)
  have h12 := @run_callFunc_extern Tryz.prog 106 _ ReflectliteValue.set Tryz.func106 (by kernel_rfl) (by kernel_rfl) (by kernel_rfl) (by kernel_rfl)
  have tO := at_typeOf25
  have tF := as_typeOf25
  have aF := at_assignableF
  have nF := no_asF
  have uF := has_unF
  have mU := un_method
  have mA := as_methodAssignableTo
  have a25 := at_assignable25
  have v25 := at_valueOf25
  have f6 := at_valueOf27
  have f7 := at_type27
  have mK := as_methodKind
  have mE := as_methodElem
  have mI := as_methodImplements
  have k27 := at_kind27
  have k25 := at_kind25
  have e27 := at_elem27
  have i25 := at_implements25
  have n8 := at_isNil27 ⟨w.heap.size, 0, none⟩ t ((w.alloc (.cells #[.pointer (some t)] 137)).alloc (.cells #[.pointer (some ⟨1, 137, none⟩), .pointer (some ⟨w.heap.size, 0, none⟩), .int .u64 150] 155)) (by simp)
  have hlt : 0 < w.heap.size := by
    rcases Nat.eq_zero_or_pos w.heap.size with h0 | h
    · simp [World.cell?, h0] at hg
    · exact h
  have hg2 : ((w.alloc (.cells #[.pointer (some t)] 137)).alloc (.cells #[.pointer (some ⟨1, 137, none⟩), .pointer (some ⟨w.heap.size, 0, none⟩), .int .u64 150] 155)).cell? ⟨0, 0, none⟩ = some (.iface 183 (.agg #[.pointer (some ⟨1, 36, none⟩)])) := by
    rw [World.cell?_alloc_lt _ _ ⟨0, 0, none⟩ (by simp), World.cell?_alloc_lt _ _ ⟨0, 0, none⟩ hlt]; exact hg
  have htl : t.block < w.heap.size := by
    rcases Nat.lt_or_ge t.block w.heap.size with h | h
    · exact h
    · simp [World.cell?, Array.getElem?_eq_none h] at ht0
  have el := at_elemV27 ⟨w.heap.size, 0, none⟩ t (((w.alloc (.cells #[.pointer (some t)] 137)).alloc (.cells #[.pointer (some ⟨1, 137, none⟩), .pointer (some ⟨w.heap.size, 0, none⟩), .int .u64 150] 155)).alloc (.cells #[.pointer (some ⟨1, 137, none⟩), .pointer (some ⟨w.heap.size, 0, none⟩), .int .u64 150] 155)) (by rw [World.cell?_alloc_lt _ _ ⟨w.heap.size, 0, none⟩ (by simp; omega)]; simp)
  have st := at_set25 t ⟨w.heap.size + 1 + 1 + 1, 0, none⟩ n old ((((w.alloc (.cells #[.pointer (some t)] 137)).alloc (.cells #[.pointer (some ⟨1, 137, none⟩), .pointer (some ⟨w.heap.size, 0, none⟩), .int .u64 150] 155)).alloc (.cells #[.pointer (some ⟨1, 137, none⟩), .pointer (some ⟨w.heap.size, 0, none⟩), .int .u64 150] 155)).alloc (.cells #[.int .i64 n] 43))
    (by rw [World.cell?_alloc_at _ _ _ _ (by simp)]; rfl)
    (by rw [World.cell?_alloc_lt _ _ t (by simp; omega), World.cell?_alloc_lt _ _ t (by simp; omega), World.cell?_alloc_lt _ _ t (by simp; omega), World.cell?_alloc_lt _ _ t htl]; exact ht0)
    (by rw [World.frozen?_alloc_old _ _ t (by simp; omega), World.frozen?_alloc_old _ _ t (by simp; omega), World.frozen?_alloc_old _ _ t (by simp; omega), World.frozen?_alloc_old _ _ t (Nat.ne_of_lt htl)]; exact hf0)
  have hpl : pb < w.heap.size := by
    rcases Nat.lt_or_ge pb w.heap.size with h | h
    · exact h
    · simp [World.cell?, Array.getElem?_eq_none h] at h1
  have h1c : (((w.alloc (.cells #[.pointer (some t)] 137)).alloc (.cells #[.pointer (some ⟨1, 137, none⟩), .pointer (some ⟨w.heap.size, 0, none⟩), .int .u64 150] 155)).alloc (.cells #[.pointer (some ⟨1, 137, none⟩), .pointer (some ⟨w.heap.size, 0, none⟩), .int .u64 150] 155)).cell? ⟨pb, po + 1, none⟩ = some (.iface 43 (.int .i64 n)) := by
    rw [World.cell?_alloc_lt _ _ ⟨pb, po + 1, none⟩ (by simp; omega), World.cell?_alloc_lt _ _ ⟨pb, po + 1, none⟩ (by simp; omega), World.cell?_alloc_lt _ _ ⟨pb, po + 1, none⟩ hpl]; exact h1
  go_enter Tryz.func59, Tryz.ntmps59
  go_wp2
  refine wp_loop_rounds 2 ?_
  rw [rounds_succ]
  go_wp2
  rw [rounds_succ]
  go_wp2
  go_ret
  exact ⟨rfl, rfl⟩
end Go.Fw.Wd
