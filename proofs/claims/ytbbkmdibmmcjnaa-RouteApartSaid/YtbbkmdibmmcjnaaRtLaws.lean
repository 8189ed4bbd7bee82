/-
  The laws on maps, as the evaluation answers them. Conditions: the addresses are of 32 bits.
-/
import Derived.Test.YtbbkmdibmmcjnaaRtRoute
set_option linter.unusedVariables false
set_option linter.unusedSimpArgs false
namespace Go.Fw.Net
open Code_
attribute [local simp] evOps_nil evOps_plain evOps_gK gK_tup gK_true gK_false upd_cons stepK_some stepK_none stepK_ite opsK_some opsK_none opsK_ite ev_opsK ev_condK condK_bool andThen_norm andThen_exit andThen_ret andThen_none andThen_ite endBlock_norm endBlock_exit endBlock_ret endBlock_none endBlock_ite restr_some restr_none outOf_norm outOf_ret outOf_none outOf_ite get_nil get_cons put_some put_none ev_t ev_c valK_some valK_none valK_ite evI_mov evI_nilrow evI_pick pickK_true pickK_false pickK_or' pickK_and' evI_bin evI_binB evI_eqS evI_un evI_conv convK_int evI_alloc evI_box evI_boxR evI_build evI_buildSl evI_buildR evI_mkSl evI_load loadK_rp loadK_ref evI_store storeK_ref evI_slice sliceK_rs bound_none bound_int lenIn_rs lenIn_sl lenIn_nils evI_ext evI_mkIf evI_mkFn evI_len evI_lenA evI_iaddr iaddrK_rs iaddrK_sl evI_callF callK_some retK_some snapL_nil snapL_cons consK_some snap_int snap_bool snap_str snap_nils snap_rs snap_rp snap_nili snap_agg snap_tup finish_eq ev_skip ev_exit ev_ret ev_seq ev_block evI_faddr faddrK_ref faddrK_rp evI_field fieldK_agg bindO_ite mapO_ite retK_ite cellsOf storable plainB objCells partA ofCells fillA storeAt loadV resOf resOne resL wrapI eqAgg eqCells eqOne binop binI binopB unop enumFrom okRes shift noG hasOwn hasOwn.hasOwnL
attribute [local simp] E_keep

theorem law3 (i b o c r side fr to : Int) (h1 : U i) (h2 : U o) (h3 : U r) (h4 : U fr) (h5 : U to) : pcall E 3 [mp i b o c r, .int .i64 side, .int .u32 fr, .int .u32 to] = B true := by
  rw [pcall_fn (fn := I3) rfl rfl rfl]
  simp [I3, s7, s8, s9 _ _ _ _ _ _ _ _ h1 h2 h3 h4 h5, s10 _ _ _ _ _ _ _ _ h1 h2 h3 h4 h5, s11 _ _ _ _ _ _ h1 h2 h3 h5, s12 _ _ _ _ _ _ h1 h2 h3 h5, s13 _ _ _ _ _ h1 h2 h3, s14 _ _ _ _ _ h1 h2 h3, s15]
  by_cases s0 : side = 0
  · simp [s0]
  · by_cases s1 : side = 1 <;> simp [s0, s1]
theorem law6 (i b o c r fr ot to : Int) (h1 : U i) (h2 : U o) (h3 : U r) (h4 : U fr) (h6 : U ot) (h5 : U to) : pcall E 6 [mp i b o c r, .int .u32 fr, .int .u32 ot, .int .u32 to] = B true := by
  rw [pcall_fn (fn := I6) rfl rfl rfl]
  simp [I6, s7, s9 _ _ _ _ _ _ _ _ h1 h2 h3 h4 h5, s9 _ _ _ _ _ _ _ _ h1 h2 h3 h6 h5, s13 _ _ _ _ _ h1 h2 h3, s16 _ _ _ h1 h4, s16 _ _ _ h1 h6, s16 _ _ _ h2 h5]
  have fA : (way i b o c r 0 fr to).1 = 3 → (way i b o c r 0 fr to).2.1 = 0 ∧ (host o c to = true ∧ (way i b o c r 0 fr to).2.2 = to ∨ host o c to = false ∧ (way i b o c r 0 fr to).2.2 = r ∧ r ≠ 0) := by
    unfold way beyond
    repeat' split
    all_goals simp_all
  have fB : (way i b o c r 0 fr to).1 ≠ 3 → (way i b o c r 0 fr to).2.2 = 0 := by
    unfold way beyond
    repeat' split
    all_goals simp_all
  have fC : rightM i b o c r = true → host i b fr = true → host i b ot = true → fr ≠ i → ot ≠ i → way i b o c r 0 fr to = way i b o c r 0 ot to := by
    intro g1 g2 g3 g4 g5
    simp [way, inside, g1, g2, g3, g4, g5]
  have fin : (if (way i b o c r 0 fr to).1 = 3 then
                  if (way i b o c r 0 fr to).2.1 = 0 then
                    if host o c to = true then
                      if (way i b o c r 0 fr to).2.2 = to then some (AV.bool true, [])
                      else
                        if host o c to = false then
                          if (way i b o c r 0 fr to).2.2 = r then some (AV.bool !decide (r = 0), [])
                          else some (AV.bool false, [])
                        else some (AV.bool false, [])
                    else
                      if host o c to = false then
                        if (way i b o c r 0 fr to).2.2 = r then some (AV.bool !decide (r = 0), [])
                        else some (AV.bool false, [])
                      else some (AV.bool false, [])
                  else some (AV.bool false, [])
                else some (AV.bool (decide ((way i b o c r 0 fr to).2.2 = 0)), [])) = B true := by
    by_cases g : (way i b o c r 0 fr to).1 = 3
    · obtain ⟨e1, e2⟩ := fA g
      rcases e2 with ⟨e2, e3⟩ | ⟨e2, e3, e4⟩ <;> simp [g, e1, e2, e3] <;> exact e4
    · simp [g, fB g]
  simp only [fin]
  cases g1 : host i b fr <;> cases g2 : host i b ot <;> simp
  by_cases g3 : fr = i <;> by_cases g4 : ot = i <;> cases g5 : rightM i b o c r <;> simp [g3, g4]
  have := fC g5 g1 g2 g3 g4
  simp [this]
end Go.Fw.Net
