/-
  The laws on maps, as the evaluation answers them. Conditions: the addresses are of 32 bits.
-/
import Derived.Test.YtbbkmdibmmcjnaaRtRoute
set_option linter.unusedVariables false
set_option linter.unusedSimpArgs false
namespace Go.Fw.Net
open Code_
attribute [local simp] evOps_nil evOps_plain evOps_gK gK_tup gK_true gK_false upd_cons stepK_some stepK_none stepK_ite opsK_some opsK_none opsK_ite ev_opsK ev_condK condK_bool andThen_norm andThen_exit andThen_ret andThen_none andThen_ite endBlock_norm endBlock_exit endBlock_ret endBlock_none endBlock_ite restr_some restr_none outOf_norm outOf_ret outOf_none outOf_ite get_nil get_cons put_some put_none ev_t ev_c valK_some valK_none valK_ite evI_mov evI_nilrow evI_pick pickK_true pickK_false pickK_or' pickK_and' evI_bin evI_binB evI_eqS evI_un evI_conv convK_int evI_alloc evI_box evI_boxR evI_build evI_buildSl evI_buildR evI_mkSl evI_load loadK_rp loadK_ref evI_store storeK_ref evI_slice sliceK_rs bound_none bound_int lenIn_rs lenIn_sl lenIn_nils evI_ext evI_mkIf evI_mkFn evI_len evI_lenA evI_iaddr iaddrK_rs iaddrK_sl evI_callF callK_some retK_some snapL_nil snapL_cons consK_some snap_int snap_bool snap_str snap_nils snap_rs snap_rp snap_nili snap_agg snap_tup finish_eq ev_skip ev_exit ev_ret ev_seq ev_block evI_faddr faddrK_ref faddrK_rp evI_field fieldK_agg bindO_ite mapO_ite retK_ite cellsOf storable plainB objCells partA ofCells fillA storeAt loadV resOf resOne resL wrapI eqAgg eqCells eqOne binop binI binopB unop enumFrom okRes shift noG hasOwn hasOwn.hasOwnL
attribute [local simp] E_keep

theorem way_in {i b o c r fr to : Int} (h3 : U r) (h5 : U to) (hr : rightM i b o c r = true) :
    (∃ n, way i b o c r 0 fr to = (3, 0, n) ∧ U n ∧ host o c n = true ∧ n ≠ o ∧ has i b to = false ∧ to ≠ o ∧ host i b fr = true ∧ fr ≠ i ∧ single to = true) ∨ (way i b o c r 0 fr to = (2, 0, 0) ∧ to = o ∧ host i b fr = true) ∨
      (way i b o c r 0 fr to = (1, 0, 0) ∧ (to = i ∨ to = 4294967295)) ∨ ∃ k, way i b o c r 0 fr to = (0, k, 0) ∧ k ≠ 0 := by
  have hr2 : r = 0 ∨ host o c r = true ∧ r ≠ o := by
    simp only [rightM, Bool.and_eq_true, Bool.or_eq_true, decide_eq_true_eq] at hr
    exact hr.2
  by_cases hi : inside i b fr to = true
  · by_cases t1 : to = i ∨ to = 4294967295
    · exact .inr (.inr (.inl ⟨by simp [way, hr, hi, t1], t1⟩))
    · have hh : host i b fr = true ∧ fr ≠ i := by
        simp only [inside, Bool.or_eq_true, Bool.and_eq_true, decide_eq_true_eq] at hi
        rcases hi with hi | hi
        · exact absurd (.inr hi.2) t1
        · exact hi
      by_cases t2 : to = o
      · exact .inr (.inl ⟨by simp [way, hr, hi, t1, t2] <;> simp_all, t2, hh.1⟩)
      · cases hs : has i b to with
        | true => exact .inr (.inr (.inr ⟨18, by simp [way, hr, hi, t1, t2, hs], by omega⟩))
        | false =>
          have hw : way i b o c r 0 fr to = beyond o c r to := by simp [way, hr, hi, t1, t2, hs]
          rw [hw]
          cases hg : single to with
          | false => exact .inr (.inr (.inr ⟨7, by simp [beyond, hg], by omega⟩))
          | true =>
            cases ho : host o c to with
            | true => exact .inl ⟨to, by simp [beyond, hg, ho], h5, ho, t2, rfl, t2, hh.1, hh.2, rfl⟩
            | false =>
              by_cases h0 : has o c to = true ∨ r = 0
              · exact .inr (.inr (.inr ⟨7, by simp [beyond, hg, ho, h0], by omega⟩))
              · rcases hr2 with hr2 | hr2
                · exact absurd (.inr hr2) h0
                · exact .inl ⟨r, by simp [beyond, hg, ho, h0], h3, hr2.1, hr2.2, rfl, t2, hh.1, hh.2, rfl⟩
  · exact .inr (.inr (.inr ⟨15, by simp [way, hr, hi], by omega⟩))
theorem way_out {i b o c r fr to : Int} (hr : rightM i b o c r = true) : (way i b o c r 1 fr to = (4, 0, 0) ∧ to = o ∧ has i b fr = false ∧ single fr = true) ∨ way i b o c r 1 fr to = (0, 15, 0) := by
  by_cases h : outside i b o fr = true ∧ to = o
  · refine .inl ⟨by simp [way, hr, h], h.2, ?_⟩
    have := h.1
    simp only [outside, Bool.and_eq_true, Bool.not_eq_true', decide_eq_true_eq] at this
    exact ⟨this.1.2, this.1.1⟩
  · exact .inr (by simp [way, hr, h])
theorem way_not {i b o c r sd fr to : Int} (hr : rightM i b o c r = false) : way i b o c r sd fr to = (0, 7, 0) := by simp [way, hr]
theorem law4 (i b o c r fr to : Int) (h1 : U i) (h2 : U o) (h3 : U r) (h4 : U fr) (h5 : U to) : pcall E 4 [mp i b o c r, .int .u32 fr, .int .u32 to] = B true := by
  rw [pcall_fn (fn := I4) rfl rfl rfl]
  have q0 := s9 i b o c r 0 fr to h1 h2 h3 h4 h5
  have q1 := s9 i b o c r 1 fr to h1 h2 h3 h4 h5
  have q2 := s13 i b o c r h1 h2 h3
  cases hr : rightM i b o c r with
  | false =>
    rw [way_not hr] at q0 q1
    rw [hr] at q2
    simp [I4, s7, q0, q1, q2]
  | true =>
    rw [hr] at q2
    rcases way_in (fr := fr) h3 h5 hr with ⟨n, hw, hn, c1, c2, c3, c4, c5, c6, c7⟩ | ⟨hw, c1, c2⟩ | ⟨hw, c1⟩ | ⟨k, hw, c1⟩ <;> rcases way_out (fr := fr) (to := to) hr with ⟨hv, d1, d2, d3⟩ | hv <;> rw [hw] at q0 <;> rw [hv] at q1
    · exact absurd d1 c4
    · simp [I4, s7, q0, q1, q2, s16 _ _ _ h2 hn, c1, c2, s17 _ _ _ h1 h5, c3, c4, s16 _ _ _ h1 h4, c5, c6, s18 _ h5, c7]
    · subst c1
      simp [I4, s7, q0, q1, q2, s16 _ _ _ h1 h4, c2, s17 _ _ _ h1 h4, d2, d3, s18 _ h4]
    · subst c1
      simp [I4, s7, q0, q1, q2, s16 _ _ _ h1 h4, c2]
    · subst d1
      rcases c1 with c1 | c1
      · subst c1
        simp [I4, s7, q0, q1, q2, s17 _ _ _ h1 h4, d2, d3, s18 _ h4]
      · subst c1
        by_cases c2 : 4294967295 = i
        · subst c2
          simp [I4, s7, q0, q1, q2, s17 _ _ _ h1 h4, d2, d3, s18 _ h4]
        · simp [I4, s7, q0, q1, q2, s17 _ _ _ h1 h4, d2, d3, s18 _ h4, c2]
    · rcases c1 with c1 | c1
      · subst c1
        simp [I4, s7, q0, q1, q2]
      · subst c1
        by_cases c2 : 4294967295 = i
        · subst c2
          simp [I4, s7, q0, q1, q2]
        · simp [I4, s7, q0, q1, q2, c2]
    · subst d1
      simp [I4, s7, q0, q1, q2, c1, s17 _ _ _ h1 h4, d2, d3, s18 _ h4]
    · simp [I4, s7, q0, q1, q2, c1]
theorem has_own {i b : Int} (hr : rightN i b = true) : has i b i = true := by
  simp only [rightN, Bool.and_eq_true] at hr
  exact host_has hr.1
theorem right_parts {i b o c r : Int} (hr : rightM i b o c r = true) : rightN i b = true ∧ rightN o c = true ∧ (lst i b < base o c ∨ lst o c < base i b) := by
  simp only [rightM, apart, Bool.and_eq_true, decide_eq_true_eq] at hr
  exact ⟨hr.1.1.1, hr.1.1.2, hr.1.2⟩
theorem has_two {i b o c x : Int} (h : lst i b < base o c ∨ lst o c < base i b) (h1 : has i b x = true) : has o c x = false := by
  cases h2 : has o c x with
  | false => rfl
  | true =>
    simp only [has, Bool.and_eq_true, decide_eq_true_eq] at h1 h2
    omega
theorem law5 (i b o c r fr to : Int) (h1 : U i) (h2 : U o) (h3 : U r) (h4 : U fr) (h5 : U to) : pcall E 5 [mp i b o c r, .int .u32 fr, .int .u32 to] = B true := by
  rw [pcall_fn (fn := I5) rfl rfl rfl]
  have u0 : U 0 := ⟨by decide, by decide⟩
  have q0 := s9 i b o c 0 0 fr to h1 h2 u0 h4 h5
  have q2 := s13 i b o c r h1 h2 h3
  have p0 := s11 i b o c r to h1 h2 h3 h5
  have p1 := s11 i b o c r i h1 h2 h3 h1
  have p2 := s11 i b o c r o h1 h2 h3 h2
  cases hr : rightM i b o c r with
  | false =>
    have e : ∀ x, sideOf i b o c r x = (0, false) := fun x => by simp [sideOf, hr]
    rw [e] at p0 p1 p2
    rw [hr] at q2
    simp [I5, s7, q2, p0]
  | true =>
    obtain ⟨g1, g2, g3⟩ := right_parts hr
    have e1 : sideOf i b o c r i = (0, true) := by simp [sideOf, hr, has_own g1]
    have e2 : sideOf i b o c r o = (1, true) := by
      have : has i b o = false := has_two (o := i) (c := b) (i := o) (b := c) (by omega) (has_own g2)
      simp [sideOf, hr, has_own g2, this]
    rw [e1] at p1
    rw [e2] at p2
    rw [hr] at q2
    have hf : (way i b o c 0 0 fr to).1 = 3 → host o c to = true ∧ (way i b o c 0 0 fr to).2.2 = to := by
      unfold way beyond
      repeat' split
      all_goals simp_all
    have r1 := s15 i b o c r 0
    have r2 := s15 i b o c r 1
    have r3 := s17 i b to h1 h5
    have r4 := s17 o c to h2 h5
    have r5 := s16 o c to h2 h5
    generalize way i b o c 0 0 fr to = W at q0 hf
    obtain ⟨w1, w2, w3⟩ := W
    cases hi : has i b to with
    | true =>
      have e0 : sideOf i b o c r to = (0, true) := by simp [sideOf, hr, hi]
      rw [e0] at p0
      rw [hi] at r3
      by_cases hw : w1 = 3
      · obtain ⟨f1, f2⟩ := hf hw
        simp only at f2
        simp [I5, s7, q2, p0, p1, p2, q0, r1, r2, r3, r4, r5, hw, f1, f2]
      · simp [I5, s7, q2, p0, p1, p2, q0, r1, r2, r3, r4, r5, hw]
    | false =>
      rw [hi] at r3
      cases ho : has o c to with
      | true =>
        have e0 : sideOf i b o c r to = (1, true) := by simp [sideOf, hr, hi, ho]
        rw [e0] at p0
        rw [ho] at r4
        by_cases hw : w1 = 3
        · obtain ⟨f1, f2⟩ := hf hw
          simp only at f2
          simp [I5, s7, q2, p0, p1, p2, q0, r1, r2, r3, r4, r5, hw, f1, f2]
        · simp [I5, s7, q2, p0, p1, p2, q0, r1, r2, r3, r4, r5, hw]
      | false =>
        have e0 : sideOf i b o c r to = (0, false) := by simp [sideOf, hr, hi, ho]
        rw [e0] at p0
        rw [ho] at r4
        by_cases hw : w1 = 3
        · obtain ⟨f1, f2⟩ := hf hw
          simp only at f2
          simp [I5, s7, q2, p0, p1, p2, q0, r1, r2, r3, r4, r5, hw, f1, f2]
        · simp [I5, s7, q2, p0, p1, p2, q0, r1, r2, r3, r4, r5, hw]
end Go.Fw.Net
