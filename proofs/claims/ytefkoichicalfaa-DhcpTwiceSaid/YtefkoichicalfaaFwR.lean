/-
  More operations: a string out of bytes, the least and the greatest, the room of a nil slice, a row cut short. Conditions: stated at each.
-/
import Derived.Test.YtefkoichicalfaaFwM
import Derived.Laws.BytesString
import Derived.Laws.Cells
set_option linter.unusedVariables false
set_option linter.unusedSimpArgs false
set_option linter.unusedSectionVars false
namespace Go.Fw
open Go.RowKit (Below)

section
variable {P : Program} {Bad : Forb} {β : List Value} {h : Heap} {w : World} {a : Act} {s : Slots} {o : Oper}

theorem u8s_rep {F : Forb} : ∀ {cs : List AV} {ns : List Int} {us : List Value}, u8sV cs = some ns → RepL cs β h F w us → us = ns.map (Value.int .u8)
  | [], ns, us, h1, h2 => by
    simp only [u8sV, Option.some.injEq] at h1
    subst h1
    exact h2
  | x :: l, ns, us, h1, h2 => by
    obtain ⟨u, us', rfl, hx, hl⟩ := h2
    cases x <;> try (simp [u8sV] at h1; done)
    rename_i k n
    cases k <;> try (simp [u8sV] at h1; done)
    simp only [u8sV] at h1
    cases hm : u8sV l with
    | none => rw [hm] at h1; cases h1
    | some m =>
      rw [hm] at h1
      simp only [Option.map_some, Option.some.injEq] at h1
      subst h1
      have := u8s_rep hm hl
      subst this
      simp only [Rep] at hx
      subst hx
      rfl

theorem ints_rep {F : Forb} : ∀ {cs : List AV} {ns : List Int} {us : List Value}, intsV cs = some ns → RepL cs β h F w us → ∃ ks : List IntKind, us = (ks.zip ns).map (fun p => Value.int p.1 p.2) ∧ ks.length = ns.length
  | [], ns, us, h1, h2 => by
    simp only [intsV, Option.some.injEq] at h1
    subst h1
    exact ⟨[], h2, rfl⟩
  | x :: l, ns, us, h1, h2 => by
    obtain ⟨u, us', rfl, hx, hl⟩ := h2
    cases x <;> simp only [intsV, reduceCtorEq] at h1
    rename_i k n
    cases hm : intsV l with
    | none => rw [hm] at h1; cases h1
    | some m =>
      rw [hm] at h1
      simp only [Option.map_some, Option.some.injEq] at h1
      subst h1
      obtain ⟨ks, rfl, hk⟩ := ints_rep hm hl
      simp only [Rep] at hx
      subst hx
      exact ⟨k :: ks, rfl, by simp [hk]⟩

theorem run_min_fold : ∀ (l : List (IntKind × Int)) (k : IntKind) (x : Int), ((l.map fun p => Value.int p.1 p.2).foldlM Builtin.min2 (.int k x)).run P w = .ok (.int k ((l.map (·.2)).foldl (mm2 false) x)) w
  | [], k, x => rfl
  | p :: l, k, x => by
    simp only [List.map_cons, List.foldlM_cons, Sem.run_bind, Builtin.min2, Sem.run_pure, Result.andThen_ok, List.foldl_cons]
    rw [run_min_fold l]
    rfl
theorem run_max_fold : ∀ (l : List (IntKind × Int)) (k : IntKind) (x : Int), ((l.map fun p => Value.int p.1 p.2).foldlM Builtin.max2 (.int k x)).run P w = .ok (.int k ((l.map (·.2)).foldl (mm2 true) x)) w
  | [], k, x => rfl
  | p :: l, k, x => by
    simp only [List.map_cons, List.foldlM_cons, Sem.run_bind, Builtin.max2, Sem.run_pure, Result.andThen_ok, List.foldl_cons]
    rw [run_max_fold l]
    rfl

variable (hh : HeapRel Bad β h w) (hs : SlotsRep β h (FOf Bad β) w s a)
include hh hs

theorem sound_toStr {x : X} {x' : Operand} {src dst e : TypeId} (ho : o.op = .convert src dst x') (hc : chkX x x' = true) (hsr : P.underlying src = some (.slice e)) (he : P.underlying e = some (.int .u8)) (hd : P.underlying dst = some .string)
    {cs : List AV} {m : Nat} {ns : List Int} (h1 : cellsIn h 1 (x.ev s) = some cs) (h2 : lenIn (x.ev s) = some m) (h3 : u8sV cs = some ns) : OpSound P Bad β h w a o (.str (strOfL ns)) h := by
  have hr := X_rep hs hc
  have hall : cs.all storable = true := by
    have : ∀ {cs : List AV} {ns : List Int}, u8sV cs = some ns → cs.all storable = true := by
      intro cs
      induction cs with
      | nil => intro _ _; rfl
      | cons x l ih =>
        intro ns h1
        cases x <;> try (simp [u8sV] at h1; done)
        rename_i k n
        cases k <;> try (simp [u8sV] at h1; done)
        simp only [u8sV] at h1
        cases hm : u8sV l with
        | none => rw [hm] at h1; cases h1
        | some m => simp [storable, ih hm]
    exact this h3
  obtain ⟨sa, c, us, e1, e2, e3, e4, e5⟩ := src_cells hh hr h1 h2 hall (by omega)
  have e6 := u8s_rep h3 e2
  subst e6
  refine sound_pure hh (v := .string (strOfL ns)) ?_ rfl
  have hm : ns.length = m := by simpa using e3
  have hnil : ∀ c, sa = none → m = 0 → (convert src dst (.slice sa m c)).run P w = .ok (.string (strOfL ns)) w := by
    rintro c rfl rfl
    rw [run_convert_bytes_string w src dst e none 0 c hsr he hd]
    have : ns = [] := List.eq_nil_of_length_eq_zero hm
    subst this
    rfl
  have hconv : (convert src dst (.slice sa m c)).run P w = .ok (.string (strOfL ns)) w := by
    rcases e5 with ⟨h4, h5, _⟩ | ⟨h4, h5⟩ | ⟨ad, rfl, h4⟩
    · exact hnil c h4 h5
    · exact hnil c h4 h5
    · rw [run_convert_bytes_string w src dst e _ _ _ hsr he hd]
      refine run_bytesToString w ad m c ns ?_
      have := run_loadCells_list (P := P) (w := w) ad (ns.map (Value.int .u8)) h4
      simpa [hm] using this
  simp only [execOp, ho, e1, Sem.run_bind, hconv, Result.andThen_ok, Sem.run_pure]

theorem sound_mm {mx : Bool} {xs : List X} {xs' : Array Operand} {ts : Array TypeId} (ho : o.op = .call { callee := .builtin (if mx then .max else .min), args := xs', argTypes := ts }) (hc : chkXs xs xs'.toList = true) {r : AV}
    (hr : mmV mx (xs.map (X.ev s)) = some r) : OpSound P Bad β h w a o r h := by
  have h1 := Xs_rep hs hc
  generalize xs.map (X.ev s) = vs at h1 hr
  cases vs with
  | nil => simp [mmV] at hr
  | cons x l =>
    obtain ⟨u, us, h2, hx, hl⟩ := h1
    cases x <;> simp only [mmV, reduceCtorEq] at hr
    rename_i k n
    cases hm : intsV l with
    | none => rw [hm] at hr; cases hr
    | some ns =>
      rw [hm] at hr
      simp only [Option.map_some, Option.some.injEq] at hr
      subst hr
      obtain ⟨ks, rfl, hk⟩ := ints_rep hm hl
      simp only [Rep] at hx
      subst hx
      have e2 : (ks.zip ns).map (·.2) = ns := by
        rw [List.map_snd_zip]
        omega
      have e3 : xs'.map a.eval = (xs'.toList.map a.eval).toArray := by apply Array.ext'; simp
      cases mx
      · refine sound_pure hh (v := .int k (ns.foldl (mm2 false) n)) ?_ rfl
        have := run_min_fold (P := P) (w := w) (ks.zip ns) k n
        rw [e2] at this
        simp [execOp, ho, resolve, invoke, builtin, Builtin.min_, e3, h2, this]
      · refine sound_pure hh (v := .int k (ns.foldl (mm2 true) n)) ?_ rfl
        have := run_max_fold (P := P) (w := w) (ks.zip ns) k n
        rw [e2] at this
        simp [execOp, ho, resolve, invoke, builtin, Builtin.max_, e3, h2, this]

theorem sound_capNil {x : X} {x' : Operand} {t e : TypeId} (ho : o.op = .call { callee := .builtin .cap, args := #[x'], argTypes := #[t] }) (hc : chkX x x' = true) (hk : P.underlying t = some (.slice e)) (hx : x.ev s = .nils) : OpSound P Bad β h w a o (.int .i64 0) h := by
  have h1 := X_rep hs hc
  rw [hx] at h1
  simp only [Rep] at h1
  exact sound_pure hh (v := .int .i64 0) (by simp [execOp, ho, h1, resolve, invoke, builtin, Builtin.cap_, run_underlying hk, goInt]) rfl

theorem sound_trunc {x hi : X} {x' hi' : Operand} {t e : TypeId} {sz : Nat} (ho : o.op = .slice t x' none (some hi') none) (hc : chkX x x' = true) (hc2 : chkX hi hi' = true)
    (hu : P.underlying t = some (.slice e)) {ti : TypeInfo} (hti : P.info? e = some ti) (hsz : ti.size = sz) (hz : 0 < sz) {k : IntKind} {n : Int} (hn : hi.ev s = .int k n) {r : AV} {h' : Heap} (hr : truncV h sz n (x.ev s) = some (r, h')) :
    OpSound P Bad β h w a o r h' := by
  have h1 := X_rep hs hc
  generalize hxv : x.ev s = xv at h1 hr
  cases xv <;> simp only [truncV, reduceCtorEq] at hr
  case nils =>
    split at hr
    case isFalse => cases hr
    rename_i hn0
    subst hn0
    simp only [Option.some.injEq, Prod.mk.injEq] at hr
    obtain ⟨rfl, rfl⟩ := hr
    simp only [Rep] at h1
    have hsb : (Instr.sliceBounds true 0 0 none (some (a.eval hi')) none).run P w = .ok (0, 0, 0) w :=
      run_sliceBounds (P := P) (lo := none) (hi := some hi) (lo' := none) (hi' := some hi') hs rfl (by simpa [chkXo] using hc2) (x := 0) (y := 0) rfl (by simp [bound, hn]) (Int.le_refl _) (Int.le_refl _) (by simp) (Nat.le_refl _)
    exact sound_pure hh (v := .slice none 0 0) (by simp [execOp, ho, h1, Instr.sliceAt, Instr.slice, run_underlying hu, hsb, run_sizeOf hti, hsz]) rfl
  rename_i z l ver off m
  split at hr
  case h_2 => cases hr
  rename_i v z' vs te hobj
  split at hr
  case isFalse => cases hr
  rename_i hcond
  obtain ⟨rfl, rfl, rfl, rfl, hvl, h0, hnm⟩ := hcond
  simp only [Option.some.injEq, Prod.mk.injEq] at hr
  obtain ⟨rfl, rfl⟩ := hr
  simp only [Rep] at h1
  obtain ⟨hl, _, h1⟩ := h1
  have hcur : objCells h l v = some vs := by simp [objCells, hobj]
  have h1 := h1 (by rw [hcur]; rfl)
  have hβ : β[l]? = some (β.getD l default) := by rw [List.getD_eq_getElem?_getD, List.getElem?_eq_getElem hl.1]; rfl
  obtain ⟨hz', n', xs, hown, hrx, hx1⟩ := hh.obj l _ _ hobj hβ
  have hnn : n' = m := by
    have e1 := hown.1
    have e2 := hrx.length
    have : n' * z' = m * z' := by omega
    exact Nat.eq_of_mul_eq_mul_right hz this
  subst hnn
  generalize hbv : β.getD l default = bv at *
  have hval : a.eval x' = bv := by
    rcases hown.2 with ⟨h3, h4⟩ | ⟨g, cap, cur, h3, _, _, h4, _⟩
    · rw [h3] at h1 ⊢
      simp only [SlRep] at h1
      exact h1.2
    · rw [h3] at h1 ⊢
      simp only [SlRep] at h1
      obtain ⟨o', c, h5, h6, h7, h8, h9⟩ := h1
      have ho' := h9 trivial
      subst ho'
      have : c = cap := Nat.eq_of_mul_eq_mul_right hz (by simpa using h7)
      subst this
      exact h5
  have hsb : ∀ cap, n' ≤ cap → (Instr.sliceBounds true n' cap none (some (a.eval hi')) none).run P w = .ok (0, n.toNat, cap) w := fun cap hcap =>
    run_sliceBounds (P := P) (lo := none) (hi := some hi) (lo' := none) (hi' := some hi') hs rfl (by simpa [chkXo] using hc2) (x := 0) (y := n) rfl (by simp [bound, hn]) (Int.le_refl _) h0 hnm hcap
  obtain ⟨v', hrun, hown', hv', hsl⟩ : ∃ v', (execOp a.eval o).run P w = .ok (.value v') w ∧ w.ownsRow 0 te z' v' n.toNat (xs.take (n.toNat * z')) ∧ (∀ k, blkOf v' = some k → blkOf bv = some k) ∧ SlRep v' z' 0 n.toNat v' ∧ ∃ a m c, v' = .slice a m c := by
    have hlen : (xs.take (n.toNat * z')).length = n.toNat * z' := by
      rw [List.length_take, hown.1]
      have : n.toNat * z' ≤ n' * z' := Nat.mul_le_mul_right z' (by omega)
      omega
    rcases hown.2 with ⟨h3, h4⟩ | ⟨g, cap, cur, h3, hg0, hg, hnc, hcm, hcs, hct⟩
    · subst h4
      have hn0 : n = 0 := by omega
      subst hn0
      refine ⟨.slice none 0 0, ?_, ⟨hlen, .inl ⟨rfl, rfl⟩⟩, by simp [blkOf], ⟨rfl, rfl⟩, _, _, _, rfl⟩
      have := hsb 0 (Nat.le_refl _)
      simp [execOp, ho, hval, h3, Instr.sliceAt, Instr.slice, run_underlying hu, this, run_sizeOf hti, hsz]
    · have := hsb cap hnc
      refine ⟨.slice (some ⟨g, 0, none⟩) n.toNat cap, ?_, ⟨hlen, .inr ⟨g, cap, cur, rfl, hg0, hg, by omega, hcm, hcs, ?_⟩⟩, by rw [h3]; simp [blkOf], ⟨0, cap, rfl, by omega, by simp, .inl rfl, fun _ => rfl⟩, _, _, _, rfl⟩
      · have ha : (if cap = 0 then some (⟨g, 0, none⟩ : Addr) else some (⟨g, 0, none⟩ : Addr)) = some ⟨g, 0, none⟩ := by split <;> rfl
        simp [execOp, ho, hval, h3, Instr.sliceAt, Instr.slice, run_underlying hu, this, run_sizeOf hti, hsz, Addr.add_lit']
      · rw [← hct, List.take_take]
        congr 1
        have : n.toNat * z' ≤ n' * z' := Nat.mul_le_mul_right z' (by omega)
        omega
  have hlt : ∀ k, blkOf v' = some k → k < w.heap.size := fun k hk => hh.lt l k ⟨bv, hβ, hv' k hk⟩
  have hst := Step.turn (Bad := Bad) (w' := w) hh (l := l) (bv := bv) (bv' := v') (o' := .row (v + 1) z' (vs.take (n.toNat * z')) te) hβ rfl rfl rfl (Nat.le_refl _)
    (fun k hk hne => rfl)
    (fun k hk => ⟨.inl (hv' k hk), hlt k hk⟩)
    (fun u hf => by
      have hs1 : (h.set l (.row (v + 1) z' (vs.take (n.toNat * z')) te))[l]? = some (.row (v + 1) z' (vs.take (n.toNat * z')) te) := List.getElem?_set_self (by rw [← hh.len]; exact hl.1)
      unfold fut at hf ⊢
      rw [hobj] at hf
      rw [hs1]
      simp only [decide_eq_false_iff_not, Nat.not_lt] at hf ⊢
      refine ⟨by omega, fun hs => ?_⟩
      unfold objCells at hs
      rw [hs1] at hs
      simp only at hs
      split at hs
      · omega
      · cases hs)
    (fun hok hkeep => ⟨hz, n.toNat, xs.take (n.toNat * z'), hown', RepL.step hok _ hkeep (hrx.take _), fun u hu => hx1 u (List.mem_of_mem_take hu)⟩)
  refine sound_value (v := v') hrun hst ?_
  have hself : (β.set l v')[l]? = some v' := by simp [List.getElem?_set_self, hl.1]
  have hfut : fut (h.set l (.row (v + 1) z' (vs.take (n.toNat * z')) te)) l (v + 1) = false := by
    unfold fut
    rw [List.getElem?_set_self (by rw [← hh.len]; exact hl.1)]
    simp
  simp only [Rep]
  refine ⟨⟨by simpa using hl.1, hfut⟩, hsl.2, fun _ => ?_⟩
  rw [List.getD_eq_getElem?_getD, hself]
  exact hsl.1

end
end Go.Fw
