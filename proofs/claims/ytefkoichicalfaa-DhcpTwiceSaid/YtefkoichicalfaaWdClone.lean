/-
  slices.Clone of bytes, as the evaluation may take it: a row of the caller's own with the same bytes. Conditions: none.
-/
import Derived.Test.YtefkoichicalfaaFwU
import Derived.Test.YtefkoichicalfaaWdCode
import Derived.Test.YtefkoichicalfaaChecked
import Derived.WalkKit
import Derived.WalkSpells
import Derived.WalkLawsBesides
import Derived.ProofKit
set_option linter.unusedVariables false
set_option linter.unusedSimpArgs false
namespace Go.Fw.Wd
open Go.Proofs Go.RowKit Code_
attribute [local simp] oS_eq gM_eq gL_eq gF_eq oM_eq oL_eq oF_eq oE_eq oT_eq oN_eq evOps_nil evOps_plain evOps_gK gK_tup gK_true gK_false upd_cons stepK_some stepK_none stepK_ite opsK_some opsK_none opsK_ite ev_opsK ev_condK condK_bool andThen_norm andThen_exit andThen_ret andThen_none andThen_ite endBlock_norm endBlock_exit endBlock_ret endBlock_none endBlock_ite restr_some restr_none outOf_norm outOf_ret outOf_none outOf_ite get_nil get_cons put_some put_none ev_t ev_c valK_some valK_none valK_ite evI_mov evI_nilrow evI_pick pickK_true pickK_false pickK_or' pickK_and' evI_bin evI_binB evI_eqS evI_un evI_conv convK_int evI_alloc evI_box evI_boxR evI_build evI_buildSl evI_buildR evI_mkSl evI_load loadK_rp loadK_ref evI_store storeK_ref evI_slice sliceK_rs bound_none bound_int lenIn_rs lenIn_sl lenIn_nils evI_ext evI_mkIf evI_mkFn evI_len evI_lenA evI_eqNil isNilV evI_append app2K_some evI_iaddr iaddrK_rs iaddrK_sl evI_callF callK_some retK_some snapL_nil snapL_cons consK_some snap_int snap_bool snap_str snap_nils snap_rs snap_rp snap_nili snap_agg snap_tup finish_eq ev_skip ev_exit ev_ret ev_seq ev_block evI_faddr faddrK_ref faddrK_rp evI_field fieldK_agg bindO_ite mapO_ite retK_ite cellsOf storable plainB objCells partA ofCells fillA storeAt loadV shapeOk resOf resOne resL wrapI eqAgg eqCells eqOne binop binI binopB unop enumFrom okRes shift noG hasOwn hasOwn.hasOwnL

theorem eqlNil (w : World) (a : Option Addr) (l c : Nat) : (binOp .eql 47 (.slice a l c) (.slice none 0 0)).run Try.prog w = .ok (.bool a.isNone) w := by
  simp only [binOp]
  simp [run_equal_slice_nil w 47 5 a l c Try.underlying47]
attribute [local go_sem] eqlNil
set_option maxHeartbeats 400000 in
theorem clone_nil (c : Nat) (w : World) :
    Calls Try.prog 54 #[.slice none 0 c] w fun e w' => e = .returned (.slice none 0 0) ∧ w' = w := by
  go_enter Try.func54, Try.ntmps54
  go_wp2
  go_ret
  exact ⟨rfl, rfl⟩
set_option maxHeartbeats 400000 in
theorem clone_some (a : Addr) (c : Nat) (w : World) :
    Calls Try.prog 54 #[.slice (some a) 0 c] w fun e w' => e = .returned (.slice (some ⟨w.heap.size, 0, none⟩) 0 0) ∧ w' = w.alloc (.cells #[] 5) := by
  go_enter Try.func54, Try.ntmps54
  go_wp2
  go_ret
  exact ⟨rfl, rfl⟩

def E0 : Env := { fns := fns, keep := keep, prim := fun _ => none }
theorem E0_ok : EnvOk Try.prog E0 := { fns := fns_ok, prim := fun f p h => by cases h }
theorem E0_keep : E0.keep 54 = true := rfl

theorem flat_one : ∀ {l : List AV}, (∀ z ∈ l, ∃ k n, z = .int k n) → l.flatMap cellsOf = l ∧ l.all storable = true ∧ l.all plainB = true
  | [], _ => ⟨rfl, rfl, rfl⟩
  | x :: l, h => by
    obtain ⟨k, n, rfl⟩ := h x (by simp)
    obtain ⟨e1, e2, e3⟩ := flat_one (l := l) fun z hz => h z (by simp [hz])
    simp [List.flatMap_cons, cellsOf, e1, e2, e3, storable, plainB]

theorem clone_cons (g : Bool) (y : AV) (l : List AV) (h1 : l.length + 1 ≤ 140737488355328) (h2 : ∀ z ∈ y :: l, ∃ k n, z = .int k n) : pcall E0 54 [.rs g 1 (y :: l)] = some (.sl 1 0 0 0 (l.length + 1), [.row 0 1 (y :: l) 5]) := by
  rw [pcall_fn (fn := I54) rfl rfl rfl]
  obtain ⟨f1, f2, f3⟩ := flat_one h2
  have e1 : cellsIn [AObj.row 0 1 [] 5] 1 (.rs g 1 (y :: l)) = some (y :: l) := by simp only [cellsIn, if_true, f1]
  have e2 : appK [AObj.row 0 1 [] 5] 1 1 5 (y :: l) (l.length + 1) (.sl 1 0 0 0 0) = some (.sl 1 0 1 0 (l.length + 1), [.row 1 1 (y :: l) 5]) := by
    rw [appK_sl _ 1 1 5 (y :: l) (l.length + 1) 0 0 0 [] rfl rfl (by omega) (by omega) f2]
    simp
  have e3 : finish true (.sl 1 0 1 0 (l.length + 1), [.row 1 1 (y :: l) 5]) = some (.sl 1 0 0 0 (l.length + 1), [.row 0 1 (y :: l) 5]) := finish_keep 1 0 1 _ _ (y :: l) 5 rfl (by simp) f3
  simp [I54, E0_keep, e1, e2, e3]

def intB : AV → Bool
  | .int _ _ => true
  | _ => false
/-- What slices.Clone of bytes hands back. -/
def cloneP : List AV → Option (AV × Heap)
  | [.nils] => some (.sl 1 0 0 0 0, [.row 0 1 [] 5])
  | [.rs _ sz l] => if sz = 1 ∧ l.length ≤ 140737488355328 ∧ l.all intB = true then some (.sl 1 0 0 0 l.length, [.row 0 1 l 5]) else none
  | _ => none

theorem heap_nil {Bad : Forb} {w : World} (hbad : BadOk Bad w) : HeapRel Bad [] [] w := by
  refine ⟨rfl, ?_, ?_, ?_, hbad, ?_⟩
  · rintro l l' k ⟨bv, h1, _⟩; simp at h1
  · rintro l k ⟨bv, h1, _⟩; simp at h1
  · rintro l k g ⟨bv, h1, _⟩; simp at h1
  · intro l o bv h1; simp at h1

theorem empty_row {Bad : Forb} {w w' : World} (hbad : BadOk Bad w) (hb : Below w.heap.size w w') {bv : Value} (hown : w'.ownsRow w.heap.size 5 1 bv 0 []) (hv : ∀ k, blkOf bv = some k → k = w.heap.size)
    (hs : SlRep bv 1 0 0 bv) (hsl : ∃ a m c, bv = .slice a m c) :
    ∃ v βr, Ending.returned bv = .returned v ∧ Below w.heap.size w w' ∧ HeapRel Bad βr [.row 0 1 [] 5] w' ∧ (∀ l k, Owns βr l k → w.heap.size ≤ k) ∧ Rep (.sl 1 0 0 0 0) βr [.row 0 1 [] 5] (FOf Bad βr) w' v := by
  have hst := Step.newRow (heap_nil hbad) hb (bv := bv) (t := 5) (sz := 1) (n := 0) (vs := []) (xs := []) (by omega) hown rfl (by simp)
  refine ⟨bv, [bv], rfl, hb, hst.rel, ?_, ?_⟩
  · rintro l k ⟨bv', h1, h2⟩
    cases l with
    | zero => simp at h1; subst h1; exact Nat.le_of_eq (hv k h2).symm
    | succ l => simp at h1
  · exact ⟨⟨by simp, rfl⟩, hsl, fun _ => hs⟩

theorem clone_spec (args : List AV) (r : AV) (objs : Heap) (h : cloneP args = some (r, objs)) : CallSpec Try.prog 54 args r objs := by
  have henter : EnterOk Try.prog 54 := (pcall_sound E0_ok (clone_cons false (.int .u8 0) [] (by simp) (by simp))).1
  have hempty : ∀ (Bad : Forb) (w : World) (a : Option Addr) (c : Nat), BadOk Bad w → Calls Try.prog 54 #[.slice a 0 c] w fun e w' => ∃ v βr, e = .returned v ∧ Below w.heap.size w w' ∧ HeapRel Bad βr [.row 0 1 [] 5] w' ∧ (∀ l k, Owns βr l k → w.heap.size ≤ k) ∧ Rep (.sl 1 0 0 0 0) βr [.row 0 1 [] 5] (FOf Bad βr) w' v := by
    intro Bad w a c hbad
    cases a with
    | none =>
      refine (clone_nil c w).mono ?_
      rintro e w' ⟨rfl, rfl⟩
      exact empty_row hbad (Below.refl _ _) (World.ownsRow_nil _ _ 5 1) (by simp [blkOf]) ⟨rfl, rfl⟩ ⟨_, _, _, rfl⟩
    | some a =>
      refine (clone_some a c w).mono ?_
      rintro e w' ⟨rfl, rfl⟩
      refine empty_row hbad ?_ ?_ (by simp [blkOf]) ⟨0, 0, rfl, Nat.le_refl _, by simp, .inl rfl, fun _ => rfl⟩ ⟨_, _, _, rfl⟩
      · exact below_alloc w _
      · exact ⟨rfl, .inr ⟨w.heap.size, 0, #[], rfl, Nat.le_refl _, heap_alloc_new w _, Nat.le_refl _, by simp, rfl, rfl⟩⟩
  unfold cloneP at h
  split at h
  · injection h with h
    injection h with h1 h2
    subst h1; subst h2
    refine ⟨henter, by simp [objNoOwn], fun Bad w us hbad hr => ?_⟩
    obtain ⟨u, us', rfl, hu, hus⟩ := hr
    have : us' = [] := hus
    subst this
    have : u = .slice none 0 0 := hu
    subst this
    exact hempty Bad w none 0 hbad
  · rename_i g sz l
    split at h
    · rename_i hc
      obtain ⟨rfl, hl, hall⟩ := hc
      injection h with h
      injection h with h1 h2
      subst h1; subst h2
      cases l with
      | nil =>
        refine ⟨henter, by simp [objNoOwn], fun Bad w us hbad hr => ?_⟩
        obtain ⟨u, us', rfl, hu, hus⟩ := hr
        have : us' = [] := hus
        subst this
        obtain ⟨a, c, vs, rfl, _⟩ := hu
        exact hempty Bad w a c hbad
      | cons y l =>
        refine pcall_sound E0_ok (clone_cons g y l (by simpa using hl) fun z hz => ?_)
        have := List.all_eq_true.1 hall z hz
        cases z <;> simp [intB] at this
        exact ⟨_, _, rfl⟩
    · cases h
  · cases h
end Go.Fw.Wd
