/-
  errors.Is, where an error is a fault that wraps an error of the api's, and the target is one of the api's. Conditions: stated at each.
-/
import Derived.Test.YtigiopahmiaedaaGreatDoorWdCode
import Derived.Test.YtigiopahmiaedaaGreatDoorWdEnv
import Derived.Test.YtigiopahmiaedaaGreatDoorChecked
import Derived.WalkKit
import Derived.LaidEql
import Derived.Stop.Asserts
import Derived.RowKitTokens
set_option linter.unusedVariables false
set_option linter.unusedSimpArgs false
namespace Go.Fw.Wd
open Go.Proofs Go.RowKit Go.Extern.Stop Go.Stop Go.Extern Code_

theorem is_typeOf (v : Value) (w : World) : (Extern.ReflectliteType.typeOf #[.iface 43 v]).run Tryz.prog w = .ok (.iface 183 (.agg #[.pointer (some ⟨1, 43, none⟩)])) w := by kernel_rfl
/-- The model's entry for Comparable. -/
def cmpX : Array Value → Sem Value := Extern.ReflectliteType.method fun t => do Extern.Rtype.noPackHeld "Comparable" t; pure (.bool (← typeInfo t).comparable)
theorem is_comparable (w : World) : (cmpX #[.agg #[.pointer (some ⟨1, 43, none⟩)]]).run Tryz.prog w = .ok (.bool true) w := by kernel_rfl
theorem is_method (v : Value) (w : World) : (Go.method 339 183 v "Comparable").run Tryz.prog w = .ok (142, v) w := by kernel_rfl
theorem is_comp : (Tryz.prog.info? 43).map (·.comparable) = some true := by kernel_rfl
theorem no_isE (v : Value) (xT : TypeId) (w : World) : (Instr.typeAssert (.iface 43 v) xT 194 true).run Tryz.prog w = .ok (.tuple #[.nilIface, .bool false]) w := run_typeAssert_lacksB Tryz.underlying194 (by kernel_rfl) (by kernel_rfl) v xT w
theorem no_unE (v : Value) (xT : TypeId) (w : World) : (Instr.typeAssert (.iface 43 v) xT 190 true).run Tryz.prog w = .ok (.tuple #[.nilIface, .bool false]) w := run_typeAssert_lacksB Tryz.underlying190 (by kernel_rfl) (by kernel_rfl) v xT w
theorem no_unsE (v : Value) (xT : TypeId) (w : World) : (Instr.typeAssert (.iface 43 v) xT 191 true).run Tryz.prog w = .ok (.tuple #[.nilIface, .bool false]) w := run_typeAssert_lacksB Tryz.underlying191 (by kernel_rfl) (by kernel_rfl) v xT w
theorem no_isF (v : Value) (xT : TypeId) (w : World) : (Instr.typeAssert (.iface 119 v) xT 194 true).run Tryz.prog w = .ok (.tuple #[.nilIface, .bool false]) w := run_typeAssert_lacksB Tryz.underlying194 (by kernel_rfl) (by kernel_rfl) v xT w
theorem is_has_unF (v : Value) (xT : TypeId) (w : World) : (Instr.typeAssert (.iface 119 v) xT 190 true).run Tryz.prog w = .ok (.tuple #[.iface 119 v, .bool true]) w := run_typeAssert_hasB Tryz.underlying190 (by kernel_rfl) v xT w
theorem is_un_method (v : Value) (w : World) : (Go.method 339 119 v "Unwrap").run Tryz.prog w = .ok (136, v) w := by kernel_rfl

theorem eql_errno (w : World) (a b : Int) : (binOp .eql 36 (.iface 43 (.int .i64 a)) (.iface 43 (.int .i64 b))).run Tryz.prog w = .ok (.bool (a == b)) w := by
  obtain ⟨i, hi, hcmp⟩ := Option.map_eq_some_iff.1 is_comp
  have h : ∀ d : Nat, (Op.equalIn (d + 2) 36 (.iface 43 (.int .i64 a)) (.iface 43 (.int .i64 b))).run Tryz.prog w = .ok (a == b) w := fun d => by
    simp [Op.equalIn, run_underlying Tryz.underlying36, run_underlying Tryz.underlying43, typeInfo, hi, hcmp]
  simp only [binOp]
  simp [Op.equal, show Op.maxDepth = 9998 + 2 from rfl, h]

set_option maxRecDepth 4000 in
set_option maxHeartbeats 800000 in
theorem is_fault (pb po : Nat) (sp : Option Nat) (n m : Int) (w : World) (h1 : w.cell? ⟨pb, po + 1, none⟩ = some (.iface 43 (.int .i64 n))) :
    Calls Tryz.prog 61 #[.iface 119 (.pointer (some ⟨pb, po, sp⟩)), .iface 43 (.int .i64 m)] w fun e w' => e = .returned (.bool (n == m)) ∧ w' = w := by
  obtain ⟨i, hi, hcmp⟩ := Option.map_eq_some_iff.1 is_comp
  have h8 := @run_callFunc_extern Tryz.prog 90 _ Extern.ReflectliteType.typeOf Tryz.func90 (by kernel_rfl) (by kernel_rfl) (by kernel_rfl) (by kernel_rfl)
  have h32 := @run_callFunc_extern Tryz.prog 142 _ cmpX Tryz.func142 (by kernel_rfl) (by kernel_rfl) (by kernel_rfl) (by kernel_rfl)
  have tT := is_typeOf
  have cT := is_comparable
  have mR := is_method
  have nE := no_isE
  have uE := no_unE
  have vE := no_unsE
  have nW := no_isF
  have uW := is_has_unF
  have mU := is_un_method
  have heq := eql_errno w n m
  have hty := run_eql_iface_types (P := Tryz.prog) 119 43 (.pointer (some ⟨pb, po, sp⟩)) (.int .i64 m) Tryz.underlying36 (by decide) w
  generalize (n == m) = t at heq ⊢
  cases t
  · go_enter Tryz.func61, Tryz.ntmps61
    go_wp2
    refine wp_loop_rounds 2 ?_
    rw [rounds_succ]
    go_wp2
    rw [rounds_succ]
    go_wp2
    go_ret
    exact ⟨rfl, rfl⟩
  · go_enter Tryz.func61, Tryz.ntmps61
    go_wp2
    refine wp_loop_rounds 2 ?_
    rw [rounds_succ]
    go_wp2
    rw [rounds_succ]
    go_wp2
    go_ret
    exact ⟨rfl, rfl⟩

theorem is_enter : EnterOk Tryz.prog 61 := ⟨_, Tryz.func61, by kernel_rfl, by kernel_rfl⟩
/-- What errors.Is answers of a fault. -/
def isP : List AV → Option (AV × Heap)
  | [.iface t (.rp g (.agg [.int k r, .iface u (.int .i64 n)])), .iface u' (.int .i64 m)] => if t = 119 ∧ u = 43 ∧ u' = 43 then some (.bool (n == m), []) else none
  | _ => none
theorem is_spec (args : List AV) (r : AV) (objs : Heap) (h : isP args = some (r, objs)) : CallSpec Tryz.prog 61 args r objs := by
  unfold isP at h
  split at h
  case h_2 => cases h
  rename_i t g k r0 u n u' m
  split at h
  case isFalse => cases h
  rename_i hc
  obtain ⟨rfl, rfl, rfl⟩ := hc
  injection h with h
  injection h with h1 h2
  subst h1; subst h2
  refine ⟨is_enter, by simp, fun Bad w us hbad hr => ?_⟩
  obtain ⟨v1, us1, rfl, hv1, v2, us2, rfl, hv2, hus⟩ := hr
  have : us2 = [] := hus
  subst this
  obtain ⟨y1, rfl, a, c, rfl, hc, hro⟩ := hv1
  obtain ⟨cs, rfl, hcs, _⟩ := hc
  obtain ⟨c0, cs0, rfl, hc0, c1, cs1, rfl, hc1, hcs1⟩ := hcs
  have : cs1 = [] := hcs1
  subst this
  obtain ⟨z1, rfl, hz1⟩ := hc1
  have : z1 = .int .i64 n := hz1
  subst this
  obtain ⟨y2, rfl, hy2⟩ := hv2
  have : y2 = .int .i64 m := hy2
  subst this
  obtain ⟨ad, h1, _, h2, _⟩ := hro 1 (.iface 43 (.int .i64 n)) (by simp [Value.cells])
  injection h1 with h1
  subst h1
  obtain ⟨pb, po, sp⟩ := a
  refine (is_fault pb po sp n m w h2).mono ?_
  rintro e w' ⟨rfl, rfl⟩
  exact ⟨.bool (n == m), [], rfl, Below.refl _ _, heap_nil hbad, fun l k hk => absurd hk (by simp [Owns]), rfl⟩
end Go.Fw.Wd
