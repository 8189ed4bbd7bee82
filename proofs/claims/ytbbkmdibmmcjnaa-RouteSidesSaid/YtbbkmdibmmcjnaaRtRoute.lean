/-
  What the maps' functions answer. Conditions: the addresses are of 32 bits.
-/
import Derived.Test.YtbbkmdibmmcjnaaRtRefs
set_option linter.unusedVariables false
set_option linter.unusedSimpArgs false
namespace Go.Fw.Net
open Code_
attribute [local simp] evOps_nil evOps_plain evOps_gK gK_tup gK_true gK_false upd_cons stepK_some stepK_none stepK_ite opsK_some opsK_none opsK_ite ev_opsK ev_condK condK_bool andThen_norm andThen_exit andThen_ret andThen_none andThen_ite endBlock_norm endBlock_exit endBlock_ret endBlock_none endBlock_ite restr_some restr_none outOf_norm outOf_ret outOf_none outOf_ite get_nil get_cons put_some put_none ev_t ev_c valK_some valK_none valK_ite evI_mov evI_nilrow evI_pick pickK_true pickK_false pickK_or' pickK_and' evI_bin evI_binB evI_eqS evI_un evI_conv convK_int evI_alloc evI_box evI_boxR evI_build evI_buildSl evI_buildR evI_mkSl evI_load loadK_rp loadK_ref evI_store storeK_ref evI_slice sliceK_rs bound_none bound_int lenIn_rs lenIn_sl lenIn_nils evI_ext evI_mkIf evI_mkFn evI_len evI_lenA evI_iaddr iaddrK_rs iaddrK_sl evI_callF callK_some retK_some snapL_nil snapL_cons consK_some snap_int snap_bool snap_str snap_nils snap_rs snap_rp snap_nili snap_agg snap_tup finish_eq ev_skip ev_exit ev_ret ev_seq ev_block evI_faddr faddrK_ref faddrK_rp evI_field fieldK_agg bindO_ite mapO_ite retK_ite cellsOf storable plainB objCells partA ofCells fillA storeAt loadV resOf resOne resL wrapI eqAgg eqCells eqOne binop binI binopB unop enumFrom okRes shift noG hasOwn hasOwn.hasOwnL
attribute [local simp] E_keep

abbrev mp (i b o c r : Int) : AV := .agg [.int .u32 i, .int .i64 b, .int .u32 o, .int .i64 c, .int .u32 r]
abbrev wy (p : Int × Int × Int) : AV := .agg [.int .i64 p.1, .int .i64 p.2.1, .int .u32 p.2.2]
def rightM (i b o c r : Int) : Bool := apart i b o c && (decide (r = 0) || host o c r && decide (r ≠ o))
def outside (i b o : Int) (fr : Int) : Bool := single fr && !has i b fr && decide (fr ≠ o)
def inside (i b : Int) (fr to : Int) : Bool := decide (fr = 0 ∧ to = 4294967295) || host i b fr && decide (fr ≠ i)
def beyond (o c r to : Int) : Int × Int × Int :=
  if single to then if host o c to then (3, 0, to) else if has o c to = true ∨ r = 0 then (0, 7, 0) else (3, 0, r) else (0, 7, 0)
def way (i b o c r side fr to : Int) : Int × Int × Int :=
  if rightM i b o c r = true ∧ (side = 0 ∨ side = 1) then
    if side = 1 then if outside i b o fr = true ∧ to = o then (4, 0, 0) else (0, 15, 0)
    else if inside i b fr to then
      if to = i ∨ to = 4294967295 then (1, 0, 0) else if to = o then (2, 0, 0) else if has i b to then (0, 18, 0) else beyond o c r to
    else (0, 15, 0)
  else (0, 7, 0)
def sideOf (i b o c r ip : Int) : Int × Bool :=
  if rightM i b o c r then if has i b ip then (0, true) else if has o c ip then (1, true) else (0, false) else (0, false)

theorem s13 (i b o c r : Int) (h1 : U i) (h2 : U o) (h3 : U r) : pcall E 13 [mp i b o c r] = B (rightM i b o c r) := by
  rw [pcall_fn (fn := I13) rfl rfl rfl]
  simp [I13, s29 _ _ _ _ h1 h2, s16 _ _ _ h2 h3]
  cases ha : apart i b o c <;> by_cases hr : r = 0 <;> cases hh : host o c r <;> simp [rightM, ha, hr, hh]
theorem s14 (i b o c r : Int) (h1 : U i) (h2 : U o) (h3 : U r) : pcall E 14 [mp i b o c r] = B (rightM i b o c r) := by
  rw [pcall_fn (fn := I14) rfl rfl rfl]
  simp [I14, s30 _ _ _ _ h1 h2, s28 _ _ _ h2]
  cases ha : apart i b o c <;> by_cases hr : r = 0 <;> cases hh : host o c r <;> simp [rightM, ha, hr, hh]
theorem s21 (x : Int) : pcall E 21 [.int .i64 x] = some (wy (0, x, 0), []) := by
  rw [pcall_fn (fn := I21) rfl rfl rfl]
  simp [I21]
theorem s25 (x : Int) : pcall E 25 [.int .i64 x] = some (wy (0, x, 0), []) := by
  rw [pcall_fn (fn := I25) rfl rfl rfl]
  simp [I25]
theorem s22 (i b o c r fr : Int) (h1 : U i) (h4 : U fr) : pcall E 22 [mp i b o c r, .int .u32 fr] = B (outside i b o fr) := by
  rw [pcall_fn (fn := I22) rfl rfl rfl]
  simp [I22, s18 _ h4, s17 _ _ _ h1 h4]
  cases ha : single fr <;> cases hh : has i b fr <;> simp [outside, ha, hh]
theorem s23 (i b o c r fr to : Int) (h1 : U i) (h4 : U fr) : pcall E 23 [mp i b o c r, .int .u32 fr, .int .u32 to] = B (inside i b fr to) := by
  rw [pcall_fn (fn := I23) rfl rfl rfl]
  simp [I23, s16 _ _ _ h1 h4]
  cases hh : host i b fr <;> by_cases ha : fr = 0 <;> by_cases hb : to = 4294967295 <;> simp_all [inside]
theorem s24 (i b o c r to : Int) (h2 : U o) (h4 : U to) : pcall E 24 [mp i b o c r, .int .u32 to] = some (wy (beyond o c r to), []) := by
  rw [pcall_fn (fn := I24) rfl rfl rfl]
  simp [I24, s18 _ h4, s16 _ _ _ h2 h4, s17 _ _ _ h2 h4, s21]
  unfold beyond
  cases ha : single to <;> cases hb : host o c to <;> cases hh : has o c to <;> by_cases hr : r = 0 <;> simp [ha, hb, hh, hr]
theorem s15 (i b o c r side : Int) : pcall E 15 [mp i b o c r, .int .i64 side] = some (.int .u32 (if side = 0 then i else if side = 1 then o else 0), []) := by
  rw [pcall_fn (fn := I15) rfl rfl rfl]
  simp [I15]
  by_cases h0 : side = 0
  · simp [h0]
  · by_cases h1 : side = 1 <;> simp [h0, h1]
theorem s11 (i b o c r ip : Int) (h1 : U i) (h2 : U o) (h3 : U r) (h4 : U ip) : pcall E 11 [mp i b o c r, .int .u32 ip] = some (.tup [.int .i64 (sideOf i b o c r ip).1, .bool (sideOf i b o c r ip).2], []) := by
  rw [pcall_fn (fn := I11) rfl rfl rfl]
  simp [I11, s13 _ _ _ _ _ h1 h2 h3, s17 _ _ _ h1 h4, s17 _ _ _ h2 h4]
  unfold sideOf
  cases ha : rightM i b o c r <;> cases hb : has i b ip <;> cases hh : has o c ip <;> simp [ha, hb, hh]
theorem s12 (i b o c r ip : Int) (h1 : U i) (h2 : U o) (h3 : U r) (h4 : U ip) : pcall E 12 [mp i b o c r, .int .u32 ip] = some (.tup [.int .i64 (sideOf i b o c r ip).1, .bool (sideOf i b o c r ip).2], []) := by
  rw [pcall_fn (fn := I12) rfl rfl rfl]
  simp [I12, s14 _ _ _ _ _ h1 h2 h3, s27 _ _ _ h1, s27 _ _ _ h2]
  unfold sideOf
  cases ha : rightM i b o c r <;> cases hb : has i b ip <;> cases hh : has o c ip <;> simp [ha, hb, hh]
theorem s19 : pcall E 19 [] = some (mp 167772161 24 3221225985 24 3221226238, []) := by
  rw [pcall_fn (fn := I19) rfl rfl rfl]
  simp [I19]
theorem s20 (i b : Int) : pcall E 20 [net i b] = some (net i b, []) := by
  rw [pcall_fn (fn := I20) rfl rfl rfl]
  simp [I20]
theorem s8 (i b o c r : Int) : pcall E 8 [mp i b o c r] = some (mp i b o c r, []) := by
  rw [pcall_fn (fn := I8) rfl rfl rfl]
  simp [I8, s20]
theorem s9 (i b o c r side fr to : Int) (h1 : U i) (h2 : U o) (h3 : U r) (h4 : U fr) (h5 : U to) : pcall E 9 [mp i b o c r, .int .i64 side, .int .u32 fr, .int .u32 to] = some (wy (way i b o c r side fr to), []) := by
  rw [pcall_fn (fn := I9) rfl rfl rfl]
  simp [I9, s13 _ _ _ _ _ h1 h2 h3, s21, s22 _ _ _ _ _ _ h1 h4, s23 _ _ _ _ _ _ _ h1 h4, s17 _ _ _ h1 h5, s24 _ _ _ _ _ _ h2 h5]
  cases hr : rightM i b o c r <;> cases hi : inside i b fr to <;> cases ho : outside i b o fr <;> by_cases s0 : side = 0 <;> by_cases s1 : side = 1 <;> simp [way, hr, hi, ho, s0, s1]
  all_goals
    by_cases t1 : to = i <;> by_cases t2 : to = 4294967295 <;> by_cases t3 : to = o <;> cases hh : has i b to <;> simp [t1, t2, t3, hh] <;> simp_all
theorem s10 (i b o c r side fr to : Int) (h1 : U i) (h2 : U o) (h3 : U r) (h4 : U fr) (h5 : U to) : pcall E 10 [mp i b o c r, .int .i64 side, .int .u32 fr, .int .u32 to] = some (wy (way i b o c r side fr to), []) := by
  rw [pcall_fn (fn := I10) rfl rfl rfl]
  simp [I10, s14 _ _ _ _ _ h1 h2 h3, s25, s26 _ h4, s26 _ h5, s27 _ _ _ h1, s27 _ _ _ h2, s28 _ _ _ h1, s28 _ _ _ h2]
  have e1 : ¬ side < 0 ∧ ¬ 1 < side ↔ side = 0 ∨ side = 1 := by omega
  unfold way
  cases hr : rightM i b o c r
  · simp
  by_cases s0 : side = 0
  · simp [s0]
    unfold inside beyond
    cases hh : host i b fr <;> by_cases f0 : fr = 0 <;> by_cases f1 : fr = i <;> by_cases t2 : to = 4294967295 <;> simp [hh, f0, f1, t2]
    all_goals
      cases ha : has i b to <;> cases hs : single to <;> cases hb : host o c to <;> cases hc : has o c to <;> by_cases t1 : to = i <;> by_cases t3 : to = o <;> by_cases r0 : r = 0 <;> simp_all
  · by_cases s1 : side = 1
    · simp [s1]
      unfold outside
      cases hh : has i b fr <;> cases hg : single fr <;> by_cases f1 : fr = o <;> by_cases t2 : to = o <;> simp [hh, hg, f1, t2]
    · simp [s0, s1]
      omega
theorem s7 : pcall E 7 [] = B true := by
  rw [pcall_fn (fn := I7) rfl rfl rfl]
  have u0 : U 0 := ⟨by decide, by decide⟩
  have u167772161 : U 167772161 := ⟨by decide, by decide⟩
  have u167772162 : U 167772162 := ⟨by decide, by decide⟩
  have u167772163 : U 167772163 := ⟨by decide, by decide⟩
  have u3221225985 : U 3221225985 := ⟨by decide, by decide⟩
  have u3221225991 : U 3221225991 := ⟨by decide, by decide⟩
  have u3221226238 : U 3221226238 := ⟨by decide, by decide⟩
  have u3325256711 : U 3325256711 := ⟨by decide, by decide⟩
  have u4294967295 : U 4294967295 := ⟨by decide, by decide⟩
  have r1 := s13 167772161 24 3221225985 24 3221226238 u167772161 u3221225985 u3221226238
  have e1 : rightM 167772161 24 3221225985 24 3221226238 = true := by decide +kernel
  rw [e1] at r1
  have p0 := s11 167772161 24 3221225985 24 3221226238 3221225991 u167772161 u3221225985 u3221226238 u3221225991
  have f0 : sideOf 167772161 24 3221225985 24 3221226238 3221225991 = (1, true) := by decide +kernel
  rw [f0] at p0
  have p1 := s11 167772161 24 3221225985 24 3221226238 3325256711 u167772161 u3221225985 u3221226238 u3325256711
  have f1 : sideOf 167772161 24 3221225985 24 3221226238 3325256711 = (0, false) := by decide +kernel
  rw [f1] at p1
  have q0 := s9 167772161 24 3221225985 24 3221226238 0 167772162 3325256711 u167772161 u3221225985 u3221226238 u167772162 u3325256711
  have g0 : way 167772161 24 3221225985 24 3221226238 0 167772162 3325256711 = (3, 0, 3221226238) := by decide +kernel
  rw [g0] at q0
  have q1 := s9 167772161 24 3221225985 24 3221226238 0 167772162 3221225985 u167772161 u3221225985 u3221226238 u167772162 u3221225985
  have g1 : way 167772161 24 3221225985 24 3221226238 0 167772162 3221225985 = (2, 0, 0) := by decide +kernel
  rw [g1] at q1
  have q2 := s9 167772161 24 3221225985 24 3221226238 1 3325256711 3221225985 u167772161 u3221225985 u3221226238 u3325256711 u3221225985
  have g2 : way 167772161 24 3221225985 24 3221226238 1 3325256711 3221225985 = (4, 0, 0) := by decide +kernel
  rw [g2] at q2
  have q3 := s9 167772161 24 3221225985 24 3221226238 0 0 4294967295 u167772161 u3221225985 u3221226238 u0 u4294967295
  have g3 : way 167772161 24 3221225985 24 3221226238 0 0 4294967295 = (1, 0, 0) := by decide +kernel
  rw [g3] at q3
  have q4 := s9 167772161 24 3221225985 24 3221226238 0 167772162 167772163 u167772161 u3221225985 u3221226238 u167772162 u167772163
  have g4 : way 167772161 24 3221225985 24 3221226238 0 167772162 167772163 = (0, 18, 0) := by decide +kernel
  rw [g4] at q4
  simp [I7, s19, r1, p0, p1, q0, q1, q2, q3, q4, s15]


end Go.Fw.Net
