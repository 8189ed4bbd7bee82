/-
  One operation at a time: writing into memory of the run's own, and making it. Conditions: stated at each.
-/
import Derived.Test.YtefkoichicalfaaFwH
set_option linter.unusedVariables false
set_option linter.unusedSimpArgs false
set_option linter.unusedSectionVars false
namespace Go.Fw
open Go.RowKit (Below)

theorem list_set_self {α : Type} {l : List α} {i : Nat} {x : α} (h : l[i]? = some x) : l.set i x = l := by
  apply List.ext_getElem?
  intro j
  by_cases hj : i = j
  · subst hj
    have := (List.getElem?_eq_some_iff.1 h).1
    rw [List.getElem?_set_self this, h]
  · rw [List.getElem?_set_ne hj]

theorem splice_take {α : Type} (l us : List α) (o n : Nat) (h : o + us.length ≤ n) (hn : n ≤ l.length) :
    (l.take o ++ us ++ l.drop (o + us.length)).take n = (l.take n).take o ++ us ++ (l.take n).drop (o + us.length) := by
  apply List.ext_getElem?
  intro j
  simp only [List.getElem?_take, List.getElem?_append, List.getElem?_drop, List.length_append, List.length_take]
  have e1 : min o l.length = o := by omega
  have e2 : min n l.length = n := by omega
  have e3 : min o n = o := by omega
  simp only [e1, e2, e3]
  by_cases hj : j < n
  · by_cases h1 : j < o
    · have : j < o + us.length := by omega
      simp [hj, h1, this]
    · by_cases h2 : j < o + us.length
      · simp [hj, h1, h2]
      · have h3 : o + us.length + (j - (o + us.length)) = j := by omega
        simp [hj, h1, h2, h3]
  · by_cases h1 : j < o
    · omega
    · by_cases h2 : j < o + us.length
      · omega
      · have h3 : ¬ (o + us.length + (j - (o + us.length)) < n) := by omega
        simp [hj, h1, h2, h3]

theorem below_alloc (w : World) (o : Obj) : Below w.heap.size w (w.alloc o) := (Below.refl _ w).alloc (Nat.le_refl _) o

/-- An object with other cells. -/
def withCells (o : AObj) (vs : List AV) : AObj :=
  match o with
  | .cells ag _ t => .cells ag vs t
  | .row v s _ t => .row v s vs t
  | .gone => .gone
  | .hole => .hole
  | .map kk es => .map kk es

section
variable {P : Program} {Bad : Forb} {β : List Value} {h : Heap} {w : World}

/-- Cells of the run's own are written. -/
theorem Step.write (hh : HeapRel Bad β h w) {l ver : Nat} {vs : List AV} (hv : objCells h l ver = some vs) {b : Nat} {arr : Array Value} {t : TypeId}
    (hb : blkOf (β.getD l default) = some b) (harr : w.heap[b]? = some (.cells arr t (0, 0))) {o : Nat} {xs : List AV} {us : List Value} (hr : RepL xs β h (FOf Bad β) w us) (h1 : ∀ u ∈ us, u.oneCell' = true) (hle : o + xs.length ≤ vs.length) {obj : AObj} (hobj : h[l]? = some obj) :
    Step Bad β h w β (h.set l (withCells obj (vs.take o ++ xs ++ vs.drop (o + xs.length)))) (w.setRow b (arr.toList.take o ++ us ++ arr.toList.drop (o + us.length)).toArray) := by
  have hlen := hr.length
  obtain ⟨hl, hor⟩ := own_cells hh hv
  have hβ : β[l]? = some (β.getD l default) := by rw [List.getD_eq_getElem?_getD, List.getElem?_eq_getElem hl]; rfl
  generalize hbv : β.getD l default = bv at *
  obtain ⟨harrlen, hrl, hrc⟩ : vs.length ≤ arr.size ∧ RepL vs β h (FOf Bad β) w (arr.toList.take vs.length) ∧ ∀ u ∈ arr.toList.take vs.length, u.oneCell' = true := by
    rcases hor with ⟨_, h3⟩ | ⟨b', arr', t', h3, h4, h5, h6, h7⟩
    · rw [h3] at hb; cases hb
    · rw [hb] at h3
      injection h3 with h3
      subst h3
      rw [harr] at h4
      injection h4 with h4
      injection h4 with h4 _ _
      subst h4
      exact ⟨h5, h6, h7⟩
  have hblt : b < w.heap.size := (Array.getElem?_eq_some_iff.1 harr).1
  have hsize : (w.setRow b (arr.toList.take o ++ us ++ arr.toList.drop (o + us.length)).toArray).heap.size = w.heap.size := by simp [World.setRow]
  have hnm : ∀ kk es, obj ≠ .map kk es := fun kk es e => by
    unfold objCells at hv
    rw [hobj, e] at hv
    cases hv
  have key := Step.turn (hmap := fun hm => by
      rw [isMapO_set_not (by cases obj <;> first | rfl | exact absurd rfl (hnm _ _))] at hm
      cases hm) (Bad := Bad) (h := h) (w := w) (w' := w.setRow b (arr.toList.take o ++ us ++ arr.toList.drop (o + us.length)).toArray) hh (l := l) (bv := bv) (bv' := bv)
    (o' := withCells obj (vs.take o ++ xs ++ vs.drop (o + xs.length))) hβ rfl rfl rfl (by rw [hsize]; exact Nat.le_refl _)
    (fun k hk hne => setRow_other w b k _ (fun e => hne (by rw [e]; exact hb)))
    (fun k hk => ⟨.inl hk, by rw [hsize]; rw [hb] at hk; injection hk with hk; omega⟩)
    (fun v hf => by
      have hs1 : (h.set l (withCells obj (vs.take o ++ xs ++ vs.drop (o + xs.length))))[l]? = some (withCells obj (vs.take o ++ xs ++ vs.drop (o + xs.length))) := List.getElem?_set_self (by rw [← hh.len]; exact hl)
      refine ⟨?_, fun hs => ⟨?_, rfl⟩⟩
      · unfold fut at hf ⊢
        rw [hs1]
        rw [hobj] at hf
        cases obj <;> exact hf
      · unfold objCells at hs ⊢
        rw [hs1] at hs
        rw [hobj]
        cases obj <;> simp [withCells] at hs ⊢ <;> exact hs)
    (fun hok hkeep => by
      rw [list_set_self hβ] at hok hkeep ⊢
      have hxs : RepL (vs.take o ++ xs ++ vs.drop (o + xs.length)) β (h.set l (withCells obj (vs.take o ++ xs ++ vs.drop (o + xs.length)))) (FOf Bad β) (w.setRow b (arr.toList.take o ++ us ++ arr.toList.drop (o + us.length)).toArray)
          ((arr.toList.take vs.length).take o ++ us ++ (arr.toList.take vs.length).drop (o + us.length)) := by
        refine RepL.step hok _ hkeep ?_
        rw [hlen]
        exact ((hrl.take o).append hr).append (hrl.drop _)
      have hone : ∀ u ∈ (arr.toList.take vs.length).take o ++ us ++ (arr.toList.take vs.length).drop (o + us.length), u.oneCell' = true := by
        intro u hu
        rcases List.mem_append.1 hu with hu | hu
        · rcases List.mem_append.1 hu with hu | hu
          · exact hrc u (List.mem_of_mem_take hu)
          · exact h1 u hu
        · exact hrc u (List.mem_of_mem_drop hu)
      have hob := hh.obj l obj bv hobj hβ
      cases obj with
      | gone => trivial
      | hole => trivial
      | map kk es => exact absurd rfl (hnm _ _)
      | cells ag ws t' =>
        simp only [withCells, ObjRel]
        obtain ⟨b', arr', h3, h4, h5, h6⟩ := hob
        subst h3
        simp only [blkOf, Option.some.injEq] at hb
        subst hb
        have h4' := harr
        rw [h4] at h4'
        injection h4' with h4'
        injection h4' with h4' h5' _
        subst h4'; subst h5'
        have hwv : ws = vs := by
          unfold objCells at hv
          rw [hobj] at hv
          simp only at hv
          split at hv
          · injection hv
          · cases hv
        subst hwv
        have hfull : arr'.toList.take ws.length = arr'.toList := List.take_of_length_le (by rw [h5.length]; exact Nat.le_refl _)
        rw [hfull] at hxs hone
        simp only [withCells] at hxs
        exact ⟨b', _, rfl, setRow_heap w b' arr' _ t' _ h4, by simpa using hxs, by simpa using hone⟩
      | row v z ws t' =>
        simp only [withCells, ObjRel]
        obtain ⟨hz, n, ys, ho, h5, h6⟩ := hob
        have hwv : ws = vs := by
          unfold objCells at hv
          rw [hobj] at hv
          simp only at hv
          split at hv
          · injection hv
          · cases hv
        subst hwv
        refine ⟨hz, n, _, ⟨?_, ?_⟩, hxs, hone⟩
        · have := ho.1
          have h7 := h5.length
          simp only [List.length_append, List.length_take, List.length_drop, Array.length_toList]
          omega
        · rcases ho.2 with ⟨h7, _⟩ | ⟨g, cap, cur, h7, hg0, hg, hn, hcap, hcs, htk⟩
          · rw [h7] at hb; cases hb
          · right
            rw [h7] at hb
            simp only [blkOf, Option.some.injEq] at hb
            subst hb
            have h4' := harr
            rw [hg] at h4'
            injection h4' with h4'
            injection h4' with h4' h5' _
            subst h4'; subst h5'
            have hxl : n * z = ws.length := by rw [← ho.1, ← h5.length]
            refine ⟨g, cap, _, h7, hg0, setRow_heap w g cur _ t' _ hg, hn, hcap, ?_, ?_⟩
            · rw [← hcs]
              simp only [List.size_toArray, List.length_append, List.length_take, List.length_drop, Array.length_toList]
              omega
            · rw [hxl, List.toList_toArray]
              exact splice_take cur.toList us o ws.length (by omega) (by simpa using harrlen))
  rw [list_set_self hβ] at key
  exact key

end

section
variable {P : Program} {Bad : Forb} {β : List Value} {h : Heap} {w : World} {a : Act} {s : Slots} {o : Oper}

theorem storeAt_spec {l ver off sz : Nat} {v : AV} {h' : Heap} (hst : storeAt h l ver off sz v = some h') :
    (cellsOf v).length = sz ∧ (cellsOf v).all storable = true ∧ ∃ vs obj, objCells h l ver = some vs ∧ h[l]? = some obj ∧ off + sz ≤ vs.length ∧ h' = h.set l (withCells obj (vs.take off ++ cellsOf v ++ vs.drop (off + (cellsOf v).length))) := by
  unfold storeAt at hst
  split at hst
  · rename_i hc
    obtain ⟨h1, h2⟩ := hc
    refine ⟨h1, h2, ?_⟩
    split at hst
    · rename_i ag vs t hq
      split at hst
      · rename_i hv
        obtain ⟨hv, hle⟩ := hv
        injection hst with hst
        exact ⟨vs, _, by simp [objCells, hq, hv], hq, hle, by rw [← hst, h1]; rfl⟩
      · cases hst
    · rename_i ver' z vs t hq
      split at hst
      · rename_i hv
        obtain ⟨hv, hle⟩ := hv
        injection hst with hst
        exact ⟨vs, _, by simp [objCells, hq, hv], hq, hle, by rw [← hst, h1]; rfl⟩
      · cases hst
    · cases hst
  · cases hst

variable (hh : HeapRel Bad β h w) (hs : SlotsRep β h (FOf Bad β) w s a)
include hh hs

theorem sound_store {x y : X} {x' y' : Operand} {t : TypeId} {ag : Bool} {sz : Nat} (ho : o.op = .store t x' y') (hc : chkX x x' = true) (hcy : chkX y y' = true) (ht : tyIs P t ag sz = true) (hz : 0 < sz)
    {l ver off : Nat} (hx : x.ev s = .ref l ver off) {h' : Heap} (hst : storeAt h l ver off sz (y.ev s) = some h') : OpSound P Bad β h w a o .undef h' := by
  have h1 := X_rep hs hc
  have h2 := X_rep hs hcy
  rw [hx] at h1
  simp only [Rep] at h1
  obtain ⟨hl, _, h1⟩ := h1
  obtain ⟨hlen, hall, vs, obj, hv, hobj, hle, rfl⟩ := storeAt_spec hst
  obtain ⟨b, hb, h1⟩ := h1 (by rw [hv]; rfl)
  obtain ⟨hrc, h1c⟩ := Rep.cells hall h2
  obtain ⟨_, ⟨_, h3⟩ | ⟨b', arr, t', h3, h4, h5, h6, h7⟩⟩ := own_cells hh hv
  · rw [h3] at hb; cases hb
  · rw [hb] at h3
    injection h3 with h3
    subst h3
    have hul : (a.eval y').cells.toList.length = sz := by rw [← hrc.length]; exact hlen
    have hst := Step.write hh hv hb h4 (o := off) hrc h1c (by omega) hobj
    obtain ⟨ti, d, hti, hd, hsz, _⟩ := tyIs_spec ht
    have hrs := run_storeCells_at P b off t' (a.eval y').cells.toList 0 arr w h4 (by rw [hul]; omega) h1c
    refine sound_skip ?_ hst
    have hus : (a.eval y').cells.size = sz := by simpa using hul
    simp only [Nat.add_zero] at hrs
    simp [execOp, ho, h1, Instr.storeAt, Instr.sureAddr, storeVar, hus, run_sizeOf hti, hsz, hrs]

/-! ### new memory -/

omit hh hs in
/-- A new variable of the run's own. -/
theorem Step.newVar (hh : HeapRel Bad β h w) {arr : Array Value} {t : TypeId} {vs : List AV} (ag : Bool) (hr : RepL vs β h (FOf Bad β) w arr.toList) (h1 : ∀ u ∈ arr.toList, u.oneCell' = true) :
    Step Bad β h w (β ++ [.pointer (some ⟨w.heap.size, 0, none⟩)]) (h ++ [.cells ag vs t]) (w.alloc (.cells arr t)) :=
  Step.alloc hh (below_alloc w _) (fun k hk => by simp [blkOf] at hk; subst hk; simp) fun hok hkeep => ⟨w.heap.size, arr, rfl, heap_alloc_new w _, RepL.step hok _ hkeep hr, h1⟩

omit hh hs in
theorem fut_new (h : Heap) (obj : AObj) (hne : isHole obj = false := by rfl) : fut (h ++ [obj]) h.length 0 = false := by
  unfold fut
  rw [List.getElem?_append_right (Nat.le_refl _), Nat.sub_self]
  cases obj <;> first | (simp; done) | cases hne

omit hh hs in
theorem rep_newRef (hh : HeapRel Bad β h w) (bv : Value) (obj : AObj) {F : Forb} {w' : World} {b : Nat} (hb : blkOf bv = some b) (hne : isHole obj = false := by rfl) : Rep (.ref h.length 0 0) (β ++ [bv]) (h ++ [obj]) F w' (.pointer (some ⟨b, 0, none⟩)) := by
  simp only [Rep]
  refine ⟨⟨by simp [hh.len], fut_new h obj hne⟩, ⟨_, rfl⟩, fun _ => ?_⟩
  rw [← hh.len]
  exact ⟨b, by simpa [List.getD_eq_getElem?_getD] using hb, rfl⟩

/-- The zero value's cells are known. -/
def zeroIs (P : Program) (t : TypeId) (zero : List AV) : Bool :=
  match P.info? t with
  | some i => match i.zero with
    | some z => constOkL zero z.cells.toList
    | none => false
  | none => false

omit hh hs in
theorem zeroIs_spec {t : TypeId} {zero : List AV} (h : zeroIs P t zero = true) : ∃ i z, P.info? t = some i ∧ i.zero = some z ∧ constOkL zero z.cells.toList = true := by
  unfold zeroIs at h
  split at h
  · rename_i i hi
    split at h
    · rename_i z hz
      exact ⟨i, z, hi, hz, h⟩
    · cases h
  · cases h

theorem sound_alloc {t : TypeId} {zero : List AV} (ho : o.op = .alloc t) (hz : zeroIs P t zero = true) (ag : Bool) : OpSound P Bad β h w a o (.ref h.length 0 0) (h ++ [.cells ag zero t]) := by
  obtain ⟨i, z, hi, hzz, hc⟩ := zeroIs_spec hz
  obtain ⟨hr, h1⟩ := constL_rep (β := β) (h := h) (F := FOf Bad β) (w := w) zero hc
  refine sound_value (v := .pointer (some ⟨w.heap.size, 0, none⟩)) ?_ (Step.newVar hh ag hr h1) (rep_newRef hh _ _ rfl)
  simp [execOp, ho, Instr.alloc, zeroValue, typeInfo, hi, hzz, newVar, newRow]

omit hh hs in
/-- A new variable of the run's own, at a place that was kept for it. -/
theorem Step.fillVar (hh : HeapRel Bad β h w) {p : Nat} (hp : h[p]? = some .hole) {arr : Array Value} {t : TypeId} {vs : List AV} (ag : Bool) (hr : RepL vs β h (FOf Bad β) w arr.toList) (h1 : ∀ u ∈ arr.toList, u.oneCell' = true) :
    Step Bad β h w (β.set p (.pointer (some ⟨w.heap.size, 0, none⟩))) (h.set p (.cells ag vs t)) (w.alloc (.cells arr t)) := by
  have hlt : p < β.length := by rw [hh.len]; exact (List.getElem?_eq_some_iff.1 hp).1
  have hb := below_alloc w (.cells arr t)
  refine Step.turn hh (List.getElem?_eq_getElem hlt) hb.os hb.tape hb.output hb.size (fun k hk _ => hb.block k hk) (fun k hk => ?_) (fun ver hf => ?_) (fun hok hkeep => ⟨w.heap.size, arr, rfl, heap_alloc_new w _, RepL.step hok _ hkeep hr, h1⟩)
  · simp [blkOf] at hk; subst hk; exact ⟨.inr (Nat.le_refl _), by simp⟩
  · exfalso; simp [fut, hp] at hf

theorem sound_fill {t : TypeId} {zero : List AV} (ho : o.op = .alloc t) (hz : zeroIs P t zero = true) (ag : Bool) {p : Nat} (hp : h[p]? = some .hole) : OpSound P Bad β h w a o (.ref p 0 0) (h.set p (.cells ag zero t)) := by
  obtain ⟨i, z, hi, hzz, hc⟩ := zeroIs_spec hz
  obtain ⟨hr, h1⟩ := constL_rep (β := β) (h := h) (F := FOf Bad β) (w := w) zero hc
  have hlt : p < h.length := (List.getElem?_eq_some_iff.1 hp).1
  refine sound_value (v := .pointer (some ⟨w.heap.size, 0, none⟩)) ?_ (Step.fillVar hh hp ag hr h1) ?_
  · simp [execOp, ho, Instr.alloc, zeroValue, typeInfo, hi, hzz, newVar, newRow]
  · simp only [Rep]
    refine ⟨⟨by rw [List.length_set, hh.len]; exact hlt, by simp [fut, hlt]⟩, ⟨_, rfl⟩, fun _ => ?_⟩
    exact ⟨w.heap.size, by simp [List.getD_eq_getElem?_getD, hh.len, hlt, blkOf], rfl⟩

theorem sound_box {x : X} {x' : Operand} {t : TypeId} (ho : o.op = .box t x') (hc : chkX x x' = true) (ag : Bool) (hall : (cellsOf (x.ev s)).all storable = true) :
    OpSound P Bad β h w a o (.ref h.length 0 0) (h ++ [.cells ag (cellsOf (x.ev s)) t]) := by
  obtain ⟨hr, h1⟩ := Rep.cells hall (X_rep hs hc)
  refine sound_value (v := .pointer (some ⟨w.heap.size, 0, none⟩)) ?_ (Step.newVar hh ag hr h1) (rep_newRef hh _ _ rfl)
  simp [execOp, ho, Instr.box, newVar, newRow]

omit hh hs in
theorem roAt_new (hh : HeapRel Bad β h w) {arr : Array Value} {t : TypeId} (h1 : ∀ u ∈ arr.toList, u.oneCell' = true) (g : Bool) : RoAt (FOf Bad β) (w.alloc (.cells arr t)) g (some ⟨w.heap.size, 0, none⟩) arr.toList := by
  intro i u hu
  refine ⟨_, rfl, ?_, ?_, h1 u (List.mem_of_getElem? hu)⟩
  · rintro (hb | ⟨l, hl⟩)
    · have := hh.bad.1 _ _ hb; simp at this
    · have := hh.lt _ _ hl; simp at this
  · rw [Addr.add_lit', Nat.zero_add]
    rw [cell_of_row (w.alloc (.cells arr t)) w.heap.size i arr t (0, 0) (heap_alloc_new w _)]
    simpa using hu

omit hh hs in
theorem Rep.noOwnStep {x : AV} {v : Value} {w' : World} (hr : Rep x β h (FOf Bad β) w v) (hn : hasOwn x = false) (hh : HeapRel Bad β h w) (hb : Below w.heap.size w w') : Rep x [] [] (FOf Bad β) w' v :=
  Rep.step (fun g k hk hf _ => ⟨hf, hb.block k hk⟩) x Keep.nil (Rep.noOwn x hn hr)

theorem sound_boxR {x : X} {x' : Operand} {t : TypeId} {ag : Bool} {sz : Nat} (ho : o.op = .box t x') (hc : chkX x x' = true) (hsh : shapeOk ag sz (x.ev s) = true) (hn : hasOwn (x.ev s) = false) :
    OpSound P Bad β h w a o (.rp false (x.ev s)) h := by
  have h1 := X_rep hs hc
  have hall : (cellsOf (x.ev s)).all storable = true := by
    generalize x.ev s = xv at hsh
    cases xv <;> simp_all [shapeOk, cellsOf, storable]
  obtain ⟨hr, h1c⟩ := Rep.cells hall h1
  have hbel := below_alloc w (.cells (a.eval x').cells t)
  refine sound_value (v := .pointer (some ⟨w.heap.size, 0, none⟩)) (w' := w.alloc (.cells (a.eval x').cells t)) ?_ (Step.quiet hh hbel) ?_
  · simp [execOp, ho, Instr.box, newVar, newRow]
  · exact ⟨_, _, rfl, Rep.noOwnStep h1 hn hh hbel, roAt_new hh h1c false⟩

end
end Go.Fw
