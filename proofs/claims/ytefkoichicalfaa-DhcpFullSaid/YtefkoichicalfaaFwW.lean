/-
  An empty slice without room, and what is appended to it. Conditions: stated at each.
-/
import Derived.Test.YtefkoichicalfaaFwV
set_option linter.unusedVariables false
set_option linter.unusedSimpArgs false
set_option linter.unusedSectionVars false
namespace Go.Fw
open Go.RowKit (Below)

section
variable {P : Program} {Bad : Forb} {β : List Value} {h : Heap} {w : World} {a : Act} {s : Slots} {o : Oper}
variable (hh : HeapRel Bad β h w) (hs : SlotsRep β h (FOf Bad β) w s a)
include hh hs

theorem sound_buildE {t e : TypeId} {parts : Array (Nat × Operand)} {sz : Nat} (ho : o.op = .buildSlice t 0 parts) (hu : P.underlying t = some (.slice e))
    {ie : TypeInfo} {z : Value} (hi : P.info? e = some ie) (hsz : ie.size = sz) (hzz : ie.zero = some z) (hz : 0 < sz) (hidx : parts.toList.map (·.1) = List.range 0) (hc : chkXs [] (parts.toList.map (·.2)) = true) :
    OpSound P Bad β h w a o (.rs false 0 []) h := by
  obtain ⟨arr, e1, hl, e2, e3⟩ := buildSlice_run (P := P) hh hs ho hu hi hsz hzz hz (by omega) hidx hc (fun v hv => by simp at hv)
  refine sound_value e1 (Step.quiet hh (below_alloc w (.cells arr e))) ?_
  exact ⟨_, 0, [], rfl, Nat.le_refl _, .inr rfl, rfl, fun i u hu => by simp at hu⟩

theorem sound_appE {x' y' : Operand} {x y : X} {t e : TypeId} {sz by_ : Nat} (ho : o.op = .call { callee := .builtin .append, args := #[x', y'], argTypes := #[t, t] }) (hc : chkX x x' = true) (hc2 : chkX y y' = true)
    (ht : P.underlying t = some (.slice e)) {i : TypeInfo} {z : Value} (hi : P.info? e = some i) (hzz : i.zero = some z) (hsize : i.size = sz) (hby : i.bytes = by_) (hsz : 0 < sz)
    {r : AV} (hr : appEV sz by_ (x.ev s) (y.ev s) = some r) : OpSound P Bad β h w a o r h := by
  have h1 := X_rep hs hc
  have h2 := X_rep hs hc2
  generalize hxv : x.ev s = xv at h1 hr
  generalize hyv : y.ev s = yv at h2 hr
  unfold appEV at hr
  split at hr
  case h_2 => cases hr
  unfold appE2 at hr
  split at hr
  case h_2 => cases hr
  rename_i g0 _ g zz l
  split at hr
  case isFalse => cases hr
  rename_i hcond
  obtain ⟨rfl, hb, hm, hall⟩ := hcond
  injection hr with hr
  subst hr
  simp only [Rep] at h1 h2
  obtain ⟨b0, c0, vs0, e1, _, hc0, _, _⟩ := h1
  obtain ⟨sa, c, vs, e2, hcap, _, hf, hro⟩ := h2
  have hc0 : c0 = 0 := by omega
  subst hc0
  have hl := hf.len
  have h1c : ∀ u ∈ vs, u.oneCell' = true := fun u hu => by
    obtain ⟨j, hj⟩ := List.mem_iff_getElem?.1 hu
    obtain ⟨_, _, _, _, h⟩ := hro j u hj
    exact h
  by_cases hl0 : l.length = 0
  · have hnil : l = [] := List.eq_nil_of_length_eq_zero hl0
    subst hnil
    have hv0 : vs = [] := List.eq_nil_of_length_eq_zero (by simpa using hl)
    subst hv0
    have hrun : (Builtin.append_ #[t, t] o.type #[.slice b0 0 0, .slice sa 0 c]).run P w = .ok (.slice b0 0 0) w := by
      have hfa : ∀ ad cc, (Builtin.firstCells i.size 0 (.slice (some ad) 0 cc)).run P w = .ok #[] w := fun ad cc => by
        have := run_firstCells_some (P := P) w i.size 0 ad 0 cc [] (by simp) (by simp)
        simpa using this
      have hfn : (Builtin.firstCells i.size 0 (.slice none 0 c)).run P w = .ok #[] w := rfl
      cases b0 <;> cases sa <;> simp [Builtin.append_, run_underlying ht, sizeOf, typeInfo, hi, Builtin.lenOf, hfa, hfn, storeCells]
    refine sound_value (v := .slice b0 0 0) ?_ (Step.refl hh) ?_
    · simp [execOp, ho, e1, e2, resolve, invoke, builtin, hrun]
    · exact ⟨b0, 0, [], rfl, Nat.le_refl _, .inl hsz, rfl, fun i u hu => by simp at hu⟩
  · cases sa with
    | none =>
      exfalso
      cases vs with
      | nil =>
        have : l.length * zz = 0 := by simpa using hl.symm
        rcases Nat.mul_eq_zero.1 this with h3 | h3 <;> omega
      | cons u us =>
        obtain ⟨_, h3, _⟩ := hro 0 u rfl
        cases h3
    | some ad =>
      have hnews : ∀ (j : Nat) (v : Value), vs[j]? = some v → w.cell? (ad.add j) = some v := fun j v hj => by
        obtain ⟨ad', h3, _, h4, _⟩ := hro j v hj
        injection h3 with h3
        subst h3
        exact h4
      have hb' : l.length * i.bytes ≤ 281474976710656 := by rw [hby]; omega
      have hrun : ∃ k, (Builtin.append_ #[t, t] o.type #[.slice b0 0 0, .slice (some ad) l.length c]).run P w = .ok (.slice (some ⟨w.heap.size, 0, none⟩) l.length k) (w.drew.alloc (.cells (vs.toArray ++ Builtin.zeroCells z.cells (k - l.length)) e)) ∧ l.length ≤ k := by
        cases b0 with
        | none =>
          refine ⟨_, run_append_nil (P := P) w t o.type e i z ht hi hzz ad l.length c vs (by rw [hsize]; exact hl) hnews (by omega) (by omega) hb', ?_⟩
          exact grownCap_ge w l.length 0 e
        | some b =>
          have hr := run_append_grow (P := P) w t o.type e i z ht hi hzz b 0 0 [] (by simp) (by simp) ad l.length c vs (by rw [hsize]; exact hl) hnews (by omega) (by omega) (by rw [Nat.zero_add, nextslicecap_zero (by omega)]; exact hb')
          simp only [Nat.zero_add] at hr
          refine ⟨_, by simpa using hr, ?_⟩
          exact grownCap_ge w l.length 0 e
      obtain ⟨k, hrun, hk⟩ := hrun
      have hbel : Below w.heap.size w (w.drew.alloc (.cells (vs.toArray ++ Builtin.zeroCells z.cells (k - l.length)) e)) := (Below.refl _ w).drew.alloc (Nat.le_refl _) _
      refine sound_value (v := .slice (some ⟨w.heap.size, 0, none⟩) l.length k) ?_ (Step.quiet hh hbel) ?_
      · simp [execOp, ho, e1, e2, resolve, invoke, builtin, hrun]
      · have hok : Ok (FOf Bad β) w (FOf Bad β) (w.drew.alloc (.cells (vs.toArray ++ Builtin.zeroCells z.cells (k - l.length)) e)) := fun g k hk hf _ => ⟨hf, hbel.block k hk⟩
        refine ⟨_, k, vs, rfl, hk, .inl hsz, RepF.step hok _ hf, fun j u hu => ⟨_, rfl, ?_, ?_, h1c u (List.mem_of_getElem? hu)⟩⟩
        · rintro (hb | ⟨q, hq⟩)
          · have := hh.bad.1 _ _ hb; simp at this
          · have := hh.lt _ _ hq; simp at this
        · rw [Addr.add_lit', Nat.zero_add]
          rw [cell_of_row (w.drew.alloc (.cells (vs.toArray ++ Builtin.zeroCells z.cells (k - l.length)) e)) w.heap.size j (vs.toArray ++ Builtin.zeroCells z.cells (k - l.length)) e (0, 0) (heap_alloc_new w.drew _)]
          have hjl : j < vs.length := (List.getElem?_eq_some_iff.1 hu).1
          rw [Array.getElem?_append_left (by simpa using hjl)]
          simpa using hu
end
end Go.Fw
