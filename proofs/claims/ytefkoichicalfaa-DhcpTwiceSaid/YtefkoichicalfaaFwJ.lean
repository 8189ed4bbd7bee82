/-
  One operation at a time: composite values, new slices, append, copy. Conditions: stated at each.
-/
import Derived.Test.YtefkoichicalfaaFwI
import Derived.Laws.Tables
set_option linter.unusedVariables false
set_option linter.unusedSimpArgs false
set_option linter.unusedSectionVars false
namespace Go.Fw
open Go.RowKit (Below)

/-- Writing a value's cells into an array. -/
theorem foldl_cells (off : Nat) : ∀ (cs : List Value) (j : Nat) (arr : Array Value), off + j + cs.length ≤ arr.size →
    ((cs.zipIdx j).foldl (fun a (x : Value × Nat) => a.setIfInBounds (off + x.2) x.1) arr).toList = arr.toList.take (off + j) ++ cs ++ arr.toList.drop (off + j + cs.length)
  | [], j, arr, h => by simp
  | c :: cs, j, arr, h => by
    simp only [List.zipIdx_cons, List.foldl_cons]
    rw [foldl_cells off cs (j + 1) _ (by simp at h ⊢; omega)]
    have e := list_seg_step arr.toList (off + j) c cs (by simp at h ⊢; omega)
    simpa [Array.toList_setIfInBounds, Nat.add_assoc] using e

theorem fill_step (place : Nat → Option (Nat × Nat)) (cells : Array Value) (i : Nat) (v : Value) (rest : List (Nat × Value)) {off sz : Nat} (hp : place i = some (off, sz)) (hv : v.cells.size = sz) (hle : off + sz ≤ cells.size) :
    Instr.fill place cells ((i, v) :: rest) = Instr.fill place (cells.toList.take off ++ v.cells.toList ++ cells.toList.drop (off + sz)).toArray rest := by
  have h1 : v.cells.size = sz ∧ off + v.cells.size ≤ cells.size := ⟨hv, by omega⟩
  have hf := foldl_cells off v.cells.toList 0 cells (by simp; omega)
  simp only [Nat.add_zero, Array.length_toList, hv] at hf
  simp only [Instr.fill, hp]
  rw [if_neg (by simp; omega)]
  congr 1
  apply Array.ext'
  rw [← hf, ← Array.foldl_toList, Array.toList_zipIdx]

section
variable {β : List Value} {h : Heap} {F : Forb} {w : World}

theorem fill_rep (place : Nat → Option (Nat × Nat)) : ∀ (ps : List (Nat × Nat × AV)) (qs : List (Nat × Value)) {cs cs' : List AV} {arr : Array Value}, RepL cs β h F w arr.toList → 
    ps.length = qs.length → (∀ (i : Nat) p q, ps[i]? = some p → qs[i]? = some q → place q.1 = some (p.1, p.2.1) ∧ Rep p.2.2 β h F w q.2) → fillA cs ps = some cs' →
    ∃ arr', Instr.fill place arr qs = some arr' ∧ RepL cs' β h F w arr'.toList ∧ ((∀ u ∈ arr.toList, u.oneCell' = true) → ∀ u ∈ arr'.toList, u.oneCell' = true)
  | [], qs, cs, cs', arr, hr, hl, hp, hf => by
    cases qs with
    | nil => simp [fillA] at hf; subst hf; exact ⟨arr, rfl, hr, fun h => h⟩
    | cons q qs => simp at hl
  | (off, sz, x) :: ps, [], cs, cs', arr, hr, hl, hp, hf => by simp at hl
  | (off, sz, x) :: ps, (i, v) :: qs, cs, cs', arr, hr, hl, hp, hf => by
    simp only [fillA] at hf
    split at hf
    · rename_i hc
      obtain ⟨h1, h2, h3⟩ := hc
      obtain ⟨h4, h5⟩ := hp 0 _ _ rfl rfl
      obtain ⟨h6, h7⟩ := Rep.cells h3 h5
      have h2' : off + sz ≤ cs.length := h2
      have hvs : v.cells.size = sz := by have := h6.length; simpa [h1] using this.symm
      have hlen : cs.length = arr.size := by simpa using hr.length
      have hr' : RepL (cs.take off ++ cellsOf x ++ cs.drop (off + sz)) β h F w (arr.toList.take off ++ v.cells.toList ++ arr.toList.drop (off + sz)).toArray.toList := by
        simpa using ((hr.take off).append h6).append (hr.drop (off + sz))
      obtain ⟨arr', e1, e2, e3⟩ := fill_rep place ps qs hr' (by simpa using hl) (fun i p q a b => hp (i + 1) p q a b) hf
      refine ⟨arr', by rw [fill_step place arr i v qs h4 hvs (by rw [← hlen]; exact h2')]; exact e1, e2, fun hone => e3 ?_⟩
      intro u hu
      simp only [List.toList_toArray] at hu
      rcases List.mem_append.1 hu with hu | hu
      · rcases List.mem_append.1 hu with hu | hu
        · exact hone u (List.mem_of_mem_take hu)
        · exact h7 u hu
      · exact hone u (List.mem_of_mem_drop hu)
    · cases hf

theorem fillA_all (sz : Nat) : ∀ (vs : List AV) (k : Nat) (pre : List AV), pre.length = k * sz → (∀ v ∈ vs, (cellsOf v).length = sz ∧ (cellsOf v).all storable = true) →
    fillA (pre ++ List.replicate (vs.length * sz) AV.undef) ((vs.zipIdx k).map fun x => (x.2 * sz, sz, x.1)) = some (pre ++ vs.flatMap cellsOf)
  | [], k, pre, hp, hv => by simp [fillA]
  | v :: vs, k, pre, hp, hv => by
    obtain ⟨h1, h2⟩ := hv v (by simp)
    simp only [List.zipIdx_cons, List.map_cons, fillA]
    have hle : k * sz + sz ≤ (pre ++ List.replicate ((v :: vs).length * sz) AV.undef).length := by
      simp only [List.length_append, List.length_replicate, List.length_cons, Nat.succ_mul, hp]; omega
    rw [if_pos ⟨h1, hle, h2⟩]
    have e1 : (pre ++ List.replicate ((v :: vs).length * sz) AV.undef).take (k * sz) = pre := by rw [← hp]; exact List.take_left
    have e2 : (pre ++ List.replicate ((v :: vs).length * sz) AV.undef).drop (k * sz + sz) = List.replicate (vs.length * sz) AV.undef := by
      rw [← hp, ← List.drop_drop, List.drop_left, List.drop_replicate]
      congr 1
      rw [List.length_cons, Nat.succ_mul]; omega
    rw [e1, e2]
    have := fillA_all sz vs (k + 1) (pre ++ cellsOf v) (by rw [List.length_append, hp, h1, Nat.succ_mul]) (fun x hx => hv x (by simp [hx]))
    rw [this]
    simp

theorem RepL_undef : ∀ {n : Nat} {vs : List Value}, vs.length = n → RepL (List.replicate n AV.undef) β h F w vs
  | 0, vs, hv => by simp at hv; subst hv; rfl
  | n + 1, [], hv => by simp at hv
  | n + 1, v :: vs, hv => ⟨v, vs, rfl, trivial, RepL_undef (by simpa using hv)⟩

end

section
variable {P : Program} {Bad : Forb} {β : List Value} {h : Heap} {w : World} {a : Act} {s : Slots} {o : Oper}

/-- Where the parts of a struct or an array lie. -/
def placesOf (P : Program) (t : TypeId) : Option (Nat → Option (Nat × Nat)) :=
  match P.underlying t with
  | some (.array _ e) => (P.info? e).map fun ie i => some (i * ie.size, ie.size)
  | some (.struct fields) => (fields.toList.mapM fun f => (P.info? f.type).map fun i => (f.offset, i.size)).map fun (places : List (Nat × Nat)) (i : Nat) => places[i]?
  | _ => none

def chkParts (place : Nat → Option (Nat × Nat)) : List (Nat × Nat × X) → List (Nat × Operand) → Bool
  | [], [] => true
  | (off, sz, x) :: ps, (i, o) :: qs => (place i == some (off, sz)) && chkX x o && chkParts place ps qs
  | _, _ => false

theorem chkParts_spec {place : Nat → Option (Nat × Nat)} {F : Forb} (hs : SlotsRep β h F w s a) : ∀ {ps : List (Nat × Nat × X)} {qs : List (Nat × Operand)} (hc : chkParts place ps qs = true),
    (ps.map fun p => (p.1, p.2.1, p.2.2.ev s)).length = (qs.map fun q => (q.1, a.eval q.2)).length ∧
    ∀ (i : Nat) p q, (ps.map fun p => (p.1, p.2.1, p.2.2.ev s))[i]? = some p → (qs.map fun q => (q.1, a.eval q.2))[i]? = some q → place q.1 = some (p.1, p.2.1) ∧ Rep p.2.2 β h F w q.2
  | [], [], _ => ⟨rfl, fun i p q hp => by simp at hp⟩
  | (off, sz, x) :: ps, (j, o) :: qs, hc => by
    simp only [chkParts, Bool.and_eq_true, beq_iff_eq] at hc
    obtain ⟨h1, h2⟩ := chkParts_spec hs hc.2
    refine ⟨by simpa using h1, fun i p q hp hq => ?_⟩
    cases i with
    | zero =>
      simp at hp hq
      subst hp; subst hq
      exact ⟨hc.1.1, X_rep hs hc.1.2⟩
    | succ i => exact h2 i p q (by simpa using hp) (by simpa using hq)
  | [], _ :: _, hc => by simp [chkParts] at hc
  | _ :: _, [], hc => by simp [chkParts] at hc

variable (hh : HeapRel Bad β h w) (hs : SlotsRep β h (FOf Bad β) w s a)
include hh hs

theorem sound_build {t : TypeId} {parts : Array (Nat × Operand)} {zero : List AV} {ps : List (Nat × Nat × X)} (ho : o.op = .build t parts) (hz : zeroIs P t zero = true)
    {place : Nat → Option (Nat × Nat)} (hp : placesOf P t = some place) (hc : chkParts place ps parts.toList = true) {cs : List AV} (hf : fillA zero (ps.map fun p => (p.1, p.2.1, p.2.2.ev s)) = some cs) :
    OpSound P Bad β h w a o (.agg cs) h := by
  obtain ⟨i, z, hi, hzz, hcz⟩ := zeroIs_spec hz
  obtain ⟨hr, h1⟩ := constL_rep (β := β) (h := h) (F := FOf Bad β) (w := w) zero hcz
  obtain ⟨hl, hpq⟩ := chkParts_spec hs hc
  obtain ⟨arr, e1, e2, e3⟩ := fill_rep place _ _ hr hl hpq hf
  have hb : P.built t ((parts.map fun (i, x) => (i, a.eval x)).toList) = some arr := by
    have hq : (parts.map fun (i, x) => (i, a.eval x)).toList = parts.toList.map fun q => (q.1, a.eval q.2) := by simp
    rw [hq]
    unfold Program.built
    unfold placesOf at hp
    rw [hi]
    split at hp
    · rename_i n e hu
      cases hie : P.info? e with
      | none => rw [hie] at hp; cases hp
      | some ie =>
        rw [hie] at hp
        injection hp with hp
        subst hp
        simp only [hu, hzz, hie]
        exact e1
    · rename_i fields hu
      cases hm : fields.toList.mapM fun f => (P.info? f.type).map fun i => (f.offset, i.size) with
      | none => rw [hm] at hp; cases hp
      | some places =>
        rw [hm] at hp
        injection hp with hp
        subst hp
        simp only [hu, hzz, hm]
        have : (fun (x : Nat) => places.toArray[x]?) = fun (i : Nat) => places[i]? := by funext i; simp
        rw [this]
        exact e1
    · cases hp
  refine sound_pure hh (v := .agg arr) ?_ ⟨arr.toList, by simp, e2, e3 h1⟩
  simp only [execOp, ho, Sem.run_bind, run_build w t _ arr hb, Result.andThen_ok, Sem.run_pure]

/-- A slice literal all of whose places are written. -/
theorem buildSlice_run {t e : TypeId} {len : Nat} {parts : Array (Nat × Operand)} {sz : Nat} {els : List X} (ho : o.op = .buildSlice t len parts) (hu : P.underlying t = some (.slice e))
    {ie : TypeInfo} {z : Value} (hi : P.info? e = some ie) (hsz : ie.size = sz) (hzz : ie.zero = some z) (hz : 0 < sz) (hsmall : len * sz ≤ 16777216) (hidx : parts.toList.map (·.1) = List.range len) (hc : chkXs els (parts.toList.map (·.2)) = true)
    (hall : ∀ v ∈ els.map (X.ev s), (cellsOf v).length = sz ∧ (cellsOf v).all storable = true) :
    ∃ arr : Array Value, (execOp a.eval o).run P w = .ok (.value (.slice (some ⟨w.heap.size, 0, none⟩) len len)) (w.alloc (.cells arr e)) ∧ len = els.length ∧ RepL ((els.map (X.ev s)).flatMap cellsOf) β h (FOf Bad β) w arr.toList ∧ (∀ u ∈ arr.toList, u.oneCell' = true) := by
  have hr := Xs_rep hs hc
  have hlenp : parts.toList.length = len := by
    have := congrArg List.length hidx
    simpa using this
  have hlene : els.length = len := by
    have := hr.length
    simpa [hlenp] using this
  subst hlene
  have hq : (parts.map fun (i, x) => (i, a.eval x)).toList = parts.toList.map fun q => (q.1, a.eval q.2) := by simp
  have hnow : ∀ (init : Array Value), init.size = els.length * sz → ∃ arr, Instr.fill (fun i => some (i * sz, sz)) init (parts.toList.map fun q => (q.1, a.eval q.2)) = some arr ∧ RepL ((els.map (X.ev s)).flatMap cellsOf) β h (FOf Bad β) w arr.toList := by
    intro init hinit
    have hfa := fillA_all sz (els.map (X.ev s)) 0 [] (by simp) hall
    simp only [List.nil_append, List.length_map] at hfa
    have hpq : ∀ (i : Nat) (p : Nat × Nat × AV) (q : Nat × Value), (((els.map (X.ev s)).zipIdx 0).map fun x => (x.2 * sz, sz, x.1))[i]? = some p → (parts.toList.map fun q => (q.1, a.eval q.2))[i]? = some q → (fun i => some (i * sz, sz)) q.1 = some (p.1, p.2.1) ∧ Rep p.2.2 β h (FOf Bad β) w q.2 := by
      intro i p q hp hq
      simp only [List.getElem?_map, List.getElem?_zipIdx, Option.map_map, Option.map_eq_some_iff] at hp hq
      obtain ⟨x, hx, hp⟩ := hp
      obtain ⟨y, hy, hq⟩ := hq
      subst hp; subst hq
      have hi1 : y.1 = i := by
        have : (parts.toList.map (·.1))[i]? = some y.1 := by simp [hy]
        rw [hidx] at this
        have h2 := (List.getElem?_eq_some_iff.1 this)
        obtain ⟨_, h3⟩ := h2
        simpa using h3.symm
      refine ⟨by simp [hi1], ?_⟩
      obtain ⟨_, hrr⟩ := RepL_iff.1 hr
      exact hrr i _ _ (by simp [hx]) (by simp [hy])
    obtain ⟨arr, e1, e2, e3⟩ := fill_rep (β := β) (h := h) (F := FOf Bad β) (w := w) (fun i => some (i * sz, sz)) _ (parts.toList.map fun q => (q.1, a.eval q.2)) (arr := init) (RepL_undef (by simpa using hinit))
      (by simp [hlenp]) hpq hfa
    exact ⟨arr, e1, e2⟩
  have hone : ∀ (arr : Array Value), RepL ((els.map (X.ev s)).flatMap cellsOf) β h (FOf Bad β) w arr.toList → ∀ u ∈ arr.toList, u.oneCell' = true := by
    intro arr hra u hu
    obtain ⟨i, hi⟩ := List.mem_iff_getElem?.1 hu
    obtain ⟨hl, hrr⟩ := RepL_iff.1 hra
    have hlt : i < ((els.map (X.ev s)).flatMap cellsOf).length := by
      rw [hl]; exact (List.getElem?_eq_some_iff.1 hi).1
    have hx := List.getElem?_eq_getElem hlt
    have hmem := List.getElem_mem hlt
    obtain ⟨v, hv, hxv⟩ := List.mem_flatMap.1 hmem
    have hst : storable (((els.map (X.ev s)).flatMap cellsOf)[i]) = true := List.all_eq_true.1 (hall v hv).2 _ hxv
    exact Rep.oneCell hst (hrr i _ u hx hi)
  by_cases hpos : els.length * sz = 0
  · obtain ⟨arr, e1, e2⟩ := hnow ((Array.range 0).map fun _ => default) (by simp [hpos])
    refine ⟨arr, ?_, rfl, e2, hone arr e2⟩
    simp [execOp, ho, Instr.buildSlice, run_underlying hu, sizeOf, typeInfo, hi, hsz, hpos, hq, e1, newRow]
  · obtain ⟨arr, e1, e2⟩ := hnow ((Array.range (els.length * sz)).map (z.cells[· % z.cells.size]!)) (by simp)
    refine ⟨arr, ?_, rfl, e2, hone arr e2⟩
    have hns : ¬ (els.length * sz > 2 ^ 24) := by omega
    simp [execOp, ho, Instr.buildSlice, run_underlying hu, sizeOf, typeInfo, zeroValue, hi, hzz, hsz, hpos, hns, hq, e1, newRow]

omit hh hs in
theorem rep_newRow (hh : HeapRel Bad β h w) {sz n : Nat} (bv : Value) (obj : AObj) {F : Forb} {w' : World} {b c : Nat} (hbv : bv = .slice (some ⟨b, 0, none⟩) n c) (hnc : n ≤ c) (hne : isHole obj = false := by rfl) :
    Rep (.sl sz h.length 0 0 n) (β ++ [bv]) (h ++ [obj]) F w' (.slice (some ⟨b, 0, none⟩) n c) := by
  simp only [Rep]
  refine ⟨⟨by simp [hh.len], fut_new h obj hne⟩, ⟨_, _, _, rfl⟩, fun _ => ?_⟩
  rw [← hh.len]
  simp only [List.getD_eq_getElem?_getD, List.getElem?_append_right (Nat.le_refl _), Nat.sub_self, hbv]
  exact ⟨0, c, rfl, hnc, by simp, .inl rfl, fun _ => rfl⟩

omit hh hs in
/-- A new row of the run's own. -/
theorem Step.newRow (hh : HeapRel Bad β h w) {w' : World} (hb : Below w.heap.size w w') {bv : Value} {t : TypeId} {sz n : Nat} {vs : List AV} {xs : List Value} (hz : 0 < sz) (hown : w'.ownsRow w.heap.size t sz bv n xs)
    (hr : RepL vs β h (FOf Bad β) w xs) (h1 : ∀ u ∈ xs, u.oneCell' = true) : Step Bad β h w (β ++ [bv]) (h ++ [.row 0 sz vs t]) w' := by
  refine Step.alloc hh hb (fun k hk => ?_) fun hok hkeep => ⟨hz, n, xs, ?_, RepL.step hok _ hkeep hr, h1⟩
  · have : bv.ownBlock = some k := by
      rcases hown.2 with ⟨h2, _⟩ | ⟨g, cap, cur, h2, _⟩
      · subst h2; cases hk
      · subst h2; exact hk
    exact hown.lt k this
  · rcases hown.2 with h2 | ⟨g, cap, cur, e1, e2, e3, e4⟩
    · exact ⟨hown.1, .inl h2⟩
    · exact ⟨hown.1, .inr ⟨g, cap, cur, e1, Nat.zero_le _, e3, e4⟩⟩

end
end Go.Fw
