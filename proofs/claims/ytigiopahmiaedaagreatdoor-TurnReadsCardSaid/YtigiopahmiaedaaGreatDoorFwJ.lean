/-
  One operation at a time: writing into memory of the run's own, and making it. Conditions: stated at each.
  One operation at a time: composite values, new slices, append, copy. Conditions: stated at each.
-/
import Derived.Test.YtigiopahmiaedaaGreatDoorFwH
import Derived.Laws.Tables
set_option linter.unusedVariables false
set_option linter.unusedSimpArgs false
set_option linter.unusedSectionVars false
namespace Go.Fw
open Go.RowKit (Below)

theorem list_set_self {α : Type} {l : List α} {i : Nat} {x : α} (h : l[i]? = some x) : l.set i x = l := by
  apply List.ext_getElem?
  intro j
  by_cases hj : i = j
  · subst hj
    have := (List.getElem?_eq_some_iff.1 h).1
    rw [List.getElem?_set_self this, h]
  · rw [List.getElem?_set_ne hj]

theorem splice_take {α : Type} (l us : List α) (o n : Nat) (h : o + us.length ≤ n) (hn : n ≤ l.length) :
    (l.take o ++ us ++ l.drop (o + us.length)).take n = (l.take n).take o ++ us ++ (l.take n).drop (o + us.length) := by
  apply List.ext_getElem?
  intro j
  simp only [List.getElem?_take, List.getElem?_append, List.getElem?_drop, List.length_append, List.length_take]
  have e1 : min o l.length = o := by omega
  have e2 : min n l.length = n := by omega
  have e3 : min o n = o := by omega
  simp only [e1, e2, e3]
  by_cases hj : j < n
  · by_cases h1 : j < o
    · have : j < o + us.length := by omega
      simp [hj, h1, this]
    · by_cases h2 : j < o + us.length
      · simp [hj, h1, h2]
      · have h3 : o + us.length + (j - (o + us.length)) = j := by omega
        simp [hj, h1, h2, h3]
  · by_cases h1 : j < o
    · omega
    · by_cases h2 : j < o + us.length
      · omega
      · have h3 : ¬ (o + us.length + (j - (o + us.length)) < n) := by omega
        simp [hj, h1, h2, h3]

theorem below_alloc (w : World) (o : Obj) : Below w.heap.size w (w.alloc o) := (Below.refl _ w).alloc (Nat.le_refl _) o

/-- An object with other cells. -/
def withCells (o : AObj) (vs : List AV) : AObj :=
  match o with
  | .cells ag _ t => .cells ag vs t
  | .row v s _ t => .row v s vs t
  | .gone => .gone

section
variable {P : Program} {Bad : Forb} {β : List Value} {h : Heap} {w : World}

/-- Cells of the run's own are written. -/
theorem Step.write (hh : HeapRel Bad β h w) {l ver : Nat} {vs : List AV} (hv : objCells h l ver = some vs) {b : Nat} {arr : Array Value} {t : TypeId}
    (hb : blkOf (β.getD l default) = some b) (harr : w.heap[b]? = some (.cells arr t (0, 0))) {o : Nat} {xs : List AV} {us : List Value} (hr : RepL xs β h (FOf Bad β) w us) (h1 : ∀ u ∈ us, u.oneCell' = true) (hle : o + xs.length ≤ vs.length) {obj : AObj} (hobj : h[l]? = some obj) :
    Step Bad β h w β (h.set l (withCells obj (vs.take o ++ xs ++ vs.drop (o + xs.length)))) (w.setRow b (arr.toList.take o ++ us ++ arr.toList.drop (o + us.length)).toArray) := by
  have hlen := hr.length
  obtain ⟨hl, hor⟩ := own_cells hh hv
  have hβ : β[l]? = some (β.getD l default) := by rw [List.getD_eq_getElem?_getD, List.getElem?_eq_getElem hl]; rfl
  generalize hbv : β.getD l default = bv at *
  obtain ⟨harrlen, hrl, hrc⟩ : vs.length ≤ arr.size ∧ RepL vs β h (FOf Bad β) w (arr.toList.take vs.length) ∧ ∀ u ∈ arr.toList.take vs.length, u.oneCell' = true := by
    rcases hor with ⟨_, h3⟩ | ⟨b', arr', t', h3, h4, h5, h6, h7⟩
    · rw [h3] at hb; cases hb
    · rw [hb] at h3
      injection h3 with h3
      subst h3
      rw [harr] at h4
      injection h4 with h4
      injection h4 with h4 _ _
      subst h4
      exact ⟨h5, h6, h7⟩
  have hblt : b < w.heap.size := (Array.getElem?_eq_some_iff.1 harr).1
  have hsize : (w.setRow b (arr.toList.take o ++ us ++ arr.toList.drop (o + us.length)).toArray).heap.size = w.heap.size := by simp [World.setRow]
  have key := Step.turn (Bad := Bad) (h := h) (w := w) (w' := w.setRow b (arr.toList.take o ++ us ++ arr.toList.drop (o + us.length)).toArray) hh (l := l) (bv := bv) (bv' := bv)
    (o' := withCells obj (vs.take o ++ xs ++ vs.drop (o + xs.length))) hβ rfl rfl rfl (by rw [hsize]; exact Nat.le_refl _)
    (fun k hk hne => setRow_other w b k _ (fun e => hne (by rw [e]; exact hb)))
    (fun k hk => ⟨.inl hk, by rw [hsize]; rw [hb] at hk; injection hk with hk; omega⟩)
    (fun v hf => by
      have hs1 : (h.set l (withCells obj (vs.take o ++ xs ++ vs.drop (o + xs.length))))[l]? = some (withCells obj (vs.take o ++ xs ++ vs.drop (o + xs.length))) := List.getElem?_set_self (by rw [← hh.len]; exact hl)
      refine ⟨?_, fun hs => ⟨?_, rfl⟩⟩
      · unfold fut at hf ⊢
        rw [hs1]
        rw [hobj] at hf
        cases obj <;> exact hf
      · unfold objCells at hs ⊢
        rw [hs1] at hs
        rw [hobj]
        cases obj <;> simp [withCells] at hs ⊢ <;> exact hs)
    (fun hok hkeep => by
      rw [list_set_self hβ] at hok hkeep ⊢
      have hxs : RepL (vs.take o ++ xs ++ vs.drop (o + xs.length)) β (h.set l (withCells obj (vs.take o ++ xs ++ vs.drop (o + xs.length)))) (FOf Bad β) (w.setRow b (arr.toList.take o ++ us ++ arr.toList.drop (o + us.length)).toArray)
          ((arr.toList.take vs.length).take o ++ us ++ (arr.toList.take vs.length).drop (o + us.length)) := by
        refine RepL.step hok _ hkeep ?_
        rw [hlen]
        exact ((hrl.take o).append hr).append (hrl.drop _)
      have hone : ∀ u ∈ (arr.toList.take vs.length).take o ++ us ++ (arr.toList.take vs.length).drop (o + us.length), u.oneCell' = true := by
        intro u hu
        rcases List.mem_append.1 hu with hu | hu
        · rcases List.mem_append.1 hu with hu | hu
          · exact hrc u (List.mem_of_mem_take hu)
          · exact h1 u hu
        · exact hrc u (List.mem_of_mem_drop hu)
      have hob := hh.obj l obj bv hobj hβ
      cases obj with
      | gone => trivial
      | cells ag ws t' =>
        simp only [withCells, ObjRel]
        obtain ⟨b', arr', h3, h4, h5, h6⟩ := hob
        subst h3
        simp only [blkOf, Option.some.injEq] at hb
        subst hb
        have h4' := harr
        rw [h4] at h4'
        injection h4' with h4'
        injection h4' with h4' h5' _
        subst h4'; subst h5'
        have hwv : ws = vs := by
          unfold objCells at hv
          rw [hobj] at hv
          simp only at hv
          split at hv
          · injection hv
          · cases hv
        subst hwv
        have hfull : arr'.toList.take ws.length = arr'.toList := List.take_of_length_le (by rw [h5.length]; exact Nat.le_refl _)
        rw [hfull] at hxs hone
        simp only [withCells] at hxs
        exact ⟨b', _, rfl, setRow_heap w b' arr' _ t' _ h4, by simpa using hxs, by simpa using hone⟩
      | row v z ws t' =>
        simp only [withCells, ObjRel]
        obtain ⟨hz, n, ys, ho, h5, h6⟩ := hob
        have hwv : ws = vs := by
          unfold objCells at hv
          rw [hobj] at hv
          simp only at hv
          split at hv
          · injection hv
          · cases hv
        subst hwv
        refine ⟨hz, n, _, ⟨?_, ?_⟩, hxs, hone⟩
        · have := ho.1
          have h7 := h5.length
          simp only [List.length_append, List.length_take, List.length_drop, Array.length_toList]
          omega
        · rcases ho.2 with ⟨h7, _⟩ | ⟨g, cap, cur, h7, hg0, hg, hn, hcap, hcs, htk⟩
          · rw [h7] at hb; cases hb
          · right
            rw [h7] at hb
            simp only [blkOf, Option.some.injEq] at hb
            subst hb
            have h4' := harr
            rw [hg] at h4'
            injection h4' with h4'
            injection h4' with h4' h5' _
            subst h4'; subst h5'
            have hxl : n * z = ws.length := by rw [← ho.1, ← h5.length]
            refine ⟨g, cap, _, h7, hg0, setRow_heap w g cur _ t' _ hg, hn, hcap, ?_, ?_⟩
            · rw [← hcs]
              simp only [List.size_toArray, List.length_append, List.length_take, List.length_drop, Array.length_toList]
              omega
            · rw [hxl, List.toList_toArray]
              exact splice_take cur.toList us o ws.length (by omega) (by simpa using harrlen))
  rw [list_set_self hβ] at key
  exact key

end

section
variable {P : Program} {Bad : Forb} {β : List Value} {h : Heap} {w : World} {a : Act} {s : Slots} {o : Oper}

theorem storeAt_spec {l ver off sz : Nat} {v : AV} {h' : Heap} (hst : storeAt h l ver off sz v = some h') :
    (cellsOf v).length = sz ∧ (cellsOf v).all storable = true ∧ ∃ vs obj, objCells h l ver = some vs ∧ h[l]? = some obj ∧ off + sz ≤ vs.length ∧ h' = h.set l (withCells obj (vs.take off ++ cellsOf v ++ vs.drop (off + (cellsOf v).length))) := by
  unfold storeAt at hst
  split at hst
  · rename_i hc
    obtain ⟨h1, h2⟩ := hc
    refine ⟨h1, h2, ?_⟩
    split at hst
    · rename_i ag vs t hq
      split at hst
      · rename_i hv
        obtain ⟨hv, hle⟩ := hv
        injection hst with hst
        exact ⟨vs, _, by simp [objCells, hq, hv], hq, hle, by rw [← hst, h1]; rfl⟩
      · cases hst
    · rename_i ver' z vs t hq
      split at hst
      · rename_i hv
        obtain ⟨hv, hle⟩ := hv
        injection hst with hst
        exact ⟨vs, _, by simp [objCells, hq, hv], hq, hle, by rw [← hst, h1]; rfl⟩
      · cases hst
    · cases hst
  · cases hst

variable (hh : HeapRel Bad β h w) (hs : SlotsRep β h (FOf Bad β) w s a)
include hh hs

theorem sound_store {x y : X} {x' y' : Operand} {t : TypeId} {ag : Bool} {sz : Nat} (ho : o.op = .store t x' y') (hc : chkX x x' = true) (hcy : chkX y y' = true) (ht : tyIs P t ag sz = true) (hz : 0 < sz)
    {l ver off : Nat} (hx : x.ev s = .ref l ver off) {h' : Heap} (hst : storeAt h l ver off sz (y.ev s) = some h') : OpSound P Bad β h w a o .undef h' := by
  have h1 := X_rep hs hc
  have h2 := X_rep hs hcy
  rw [hx] at h1
  simp only [Rep] at h1
  obtain ⟨hl, _, h1⟩ := h1
  obtain ⟨hlen, hall, vs, obj, hv, hobj, hle, rfl⟩ := storeAt_spec hst
  obtain ⟨b, hb, h1⟩ := h1 (by rw [hv]; rfl)
  obtain ⟨hrc, h1c⟩ := Rep.cells hall h2
  obtain ⟨_, ⟨_, h3⟩ | ⟨b', arr, t', h3, h4, h5, h6, h7⟩⟩ := own_cells hh hv
  · rw [h3] at hb; cases hb
  · rw [hb] at h3
    injection h3 with h3
    subst h3
    have hul : (a.eval y').cells.toList.length = sz := by rw [← hrc.length]; exact hlen
    have hst := Step.write hh hv hb h4 (o := off) hrc h1c (by omega) hobj
    obtain ⟨ti, d, hti, hd, hsz, _⟩ := tyIs_spec ht
    have hrs := run_storeCells_at P b off t' (a.eval y').cells.toList 0 arr w h4 (by rw [hul]; omega) h1c
    refine sound_skip ?_ hst
    have hus : (a.eval y').cells.size = sz := by simpa using hul
    simp only [Nat.add_zero] at hrs
    simp [execOp, ho, h1, Instr.storeAt, Instr.sureAddr, storeVar, hus, run_sizeOf hti, hsz, hrs]

/-! ### new memory -/

omit hh hs in
/-- A new variable of the run's own. -/
theorem Step.newVar (hh : HeapRel Bad β h w) {arr : Array Value} {t : TypeId} {vs : List AV} (ag : Bool) (hr : RepL vs β h (FOf Bad β) w arr.toList) (h1 : ∀ u ∈ arr.toList, u.oneCell' = true) :
    Step Bad β h w (β ++ [.pointer (some ⟨w.heap.size, 0, none⟩)]) (h ++ [.cells ag vs t]) (w.alloc (.cells arr t)) :=
  Step.alloc hh (below_alloc w _) (fun k hk => by simp [blkOf] at hk; subst hk; simp) fun hok hkeep => ⟨w.heap.size, arr, rfl, heap_alloc_new w _, RepL.step hok _ hkeep hr, h1⟩

omit hh hs in
theorem fut_new (h : Heap) (obj : AObj) : fut (h ++ [obj]) h.length 0 = false := by
  unfold fut
  rw [List.getElem?_append_right (Nat.le_refl _), Nat.sub_self]
  cases obj <;> simp

omit hh hs in
theorem rep_newRef (hh : HeapRel Bad β h w) (bv : Value) (obj : AObj) {F : Forb} {w' : World} {b : Nat} (hb : blkOf bv = some b) : Rep (.ref h.length 0 0) (β ++ [bv]) (h ++ [obj]) F w' (.pointer (some ⟨b, 0, none⟩)) := by
  simp only [Rep]
  refine ⟨⟨by simp [hh.len], fut_new h obj⟩, ⟨_, rfl⟩, fun _ => ?_⟩
  rw [← hh.len]
  exact ⟨b, by simpa [List.getD_eq_getElem?_getD] using hb, rfl⟩

/-- The zero value's cells are known. -/
def zeroIs (P : Program) (t : TypeId) (zero : List AV) : Bool :=
  match P.info? t with
  | some i => match i.zero with
    | some z => constOkL zero z.cells.toList
    | none => false
  | none => false

omit hh hs in
theorem zeroIs_spec {t : TypeId} {zero : List AV} (h : zeroIs P t zero = true) : ∃ i z, P.info? t = some i ∧ i.zero = some z ∧ constOkL zero z.cells.toList = true := by
  unfold zeroIs at h
  split at h
  · rename_i i hi
    split at h
    · rename_i z hz
      exact ⟨i, z, hi, hz, h⟩
    · cases h
  · cases h

theorem sound_alloc {t : TypeId} {zero : List AV} (ho : o.op = .alloc t) (hz : zeroIs P t zero = true) (ag : Bool) : OpSound P Bad β h w a o (.ref h.length 0 0) (h ++ [.cells ag zero t]) := by
  obtain ⟨i, z, hi, hzz, hc⟩ := zeroIs_spec hz
  obtain ⟨hr, h1⟩ := constL_rep (β := β) (h := h) (F := FOf Bad β) (w := w) zero hc
  refine sound_value (v := .pointer (some ⟨w.heap.size, 0, none⟩)) ?_ (Step.newVar hh ag hr h1) (rep_newRef hh _ _ rfl)
  simp [execOp, ho, Instr.alloc, zeroValue, typeInfo, hi, hzz, newVar, newRow]

theorem sound_box {x : X} {x' : Operand} {t : TypeId} (ho : o.op = .box t x') (hc : chkX x x' = true) (ag : Bool) (hall : (cellsOf (x.ev s)).all storable = true) :
    OpSound P Bad β h w a o (.ref h.length 0 0) (h ++ [.cells ag (cellsOf (x.ev s)) t]) := by
  obtain ⟨hr, h1⟩ := Rep.cells hall (X_rep hs hc)
  refine sound_value (v := .pointer (some ⟨w.heap.size, 0, none⟩)) ?_ (Step.newVar hh ag hr h1) (rep_newRef hh _ _ rfl)
  simp [execOp, ho, Instr.box, newVar, newRow]

omit hh hs in
theorem roAt_new (hh : HeapRel Bad β h w) {arr : Array Value} {t : TypeId} (h1 : ∀ u ∈ arr.toList, u.oneCell' = true) (g : Bool) : RoAt (FOf Bad β) (w.alloc (.cells arr t)) g (some ⟨w.heap.size, 0, none⟩) arr.toList := by
  intro i u hu
  refine ⟨_, rfl, ?_, ?_, h1 u (List.mem_of_getElem? hu)⟩
  · rintro (hb | ⟨l, hl⟩)
    · have := hh.bad.1 _ _ hb; simp at this
    · have := hh.lt _ _ hl; simp at this
  · rw [Addr.add_lit', Nat.zero_add]
    rw [cell_of_row (w.alloc (.cells arr t)) w.heap.size i arr t (0, 0) (heap_alloc_new w _)]
    simpa using hu

omit hh hs in
theorem Rep.noOwnStep {x : AV} {v : Value} {w' : World} (hr : Rep x β h (FOf Bad β) w v) (hn : hasOwn x = false) (hh : HeapRel Bad β h w) (hb : Below w.heap.size w w') : Rep x [] [] (FOf Bad β) w' v :=
  Rep.step (fun g k hk hf => ⟨hf, hb.block k hk⟩) x Keep.nil (Rep.noOwn x hn hr)

theorem sound_boxR {x : X} {x' : Operand} {t : TypeId} {ag : Bool} {sz : Nat} (ho : o.op = .box t x') (hc : chkX x x' = true) (hsh : shapeOk ag sz (x.ev s) = true) (hn : hasOwn (x.ev s) = false) :
    OpSound P Bad β h w a o (.rp false (x.ev s)) h := by
  have h1 := X_rep hs hc
  have hall : (cellsOf (x.ev s)).all storable = true := by
    generalize x.ev s = xv at hsh
    cases xv <;> simp_all [shapeOk, cellsOf, storable]
  obtain ⟨hr, h1c⟩ := Rep.cells hall h1
  have hbel := below_alloc w (.cells (a.eval x').cells t)
  refine sound_value (v := .pointer (some ⟨w.heap.size, 0, none⟩)) (w' := w.alloc (.cells (a.eval x').cells t)) ?_ (Step.quiet hh hbel) ?_
  · simp [execOp, ho, Instr.box, newVar, newRow]
  · exact ⟨_, _, rfl, Rep.noOwnStep h1 hn hh hbel, roAt_new hh h1c false⟩

end
end Go.Fw
set_option linter.unusedVariables false
set_option linter.unusedSimpArgs false
set_option linter.unusedSectionVars false
namespace Go.Fw
open Go.RowKit (Below)

/-- Writing a value's cells into an array. -/
theorem foldl_cells (off : Nat) : ∀ (cs : List Value) (j : Nat) (arr : Array Value), off + j + cs.length ≤ arr.size →
    ((cs.zipIdx j).foldl (fun a (x : Value × Nat) => a.setIfInBounds (off + x.2) x.1) arr).toList = arr.toList.take (off + j) ++ cs ++ arr.toList.drop (off + j + cs.length)
  | [], j, arr, h => by simp
  | c :: cs, j, arr, h => by
    simp only [List.zipIdx_cons, List.foldl_cons]
    rw [foldl_cells off cs (j + 1) _ (by simp at h ⊢; omega)]
    have e := list_seg_step arr.toList (off + j) c cs (by simp at h ⊢; omega)
    simpa [Array.toList_setIfInBounds, Nat.add_assoc] using e

theorem fill_step (place : Nat → Option (Nat × Nat)) (cells : Array Value) (i : Nat) (v : Value) (rest : List (Nat × Value)) {off sz : Nat} (hp : place i = some (off, sz)) (hv : v.cells.size = sz) (hle : off + sz ≤ cells.size) :
    Instr.fill place cells ((i, v) :: rest) = Instr.fill place (cells.toList.take off ++ v.cells.toList ++ cells.toList.drop (off + sz)).toArray rest := by
  have h1 : v.cells.size = sz ∧ off + v.cells.size ≤ cells.size := ⟨hv, by omega⟩
  have hf := foldl_cells off v.cells.toList 0 cells (by simp; omega)
  simp only [Nat.add_zero, Array.length_toList, hv] at hf
  simp only [Instr.fill, hp]
  rw [if_neg (by simp; omega)]
  congr 1
  apply Array.ext'
  rw [← hf, ← Array.foldl_toList, Array.toList_zipIdx]

section
variable {β : List Value} {h : Heap} {F : Forb} {w : World}

theorem fill_rep (place : Nat → Option (Nat × Nat)) : ∀ (ps : List (Nat × Nat × AV)) (qs : List (Nat × Value)) {cs cs' : List AV} {arr : Array Value}, RepL cs β h F w arr.toList → 
    ps.length = qs.length → (∀ (i : Nat) p q, ps[i]? = some p → qs[i]? = some q → place q.1 = some (p.1, p.2.1) ∧ Rep p.2.2 β h F w q.2) → fillA cs ps = some cs' →
    ∃ arr', Instr.fill place arr qs = some arr' ∧ RepL cs' β h F w arr'.toList ∧ ((∀ u ∈ arr.toList, u.oneCell' = true) → ∀ u ∈ arr'.toList, u.oneCell' = true)
  | [], qs, cs, cs', arr, hr, hl, hp, hf => by
    cases qs with
    | nil => simp [fillA] at hf; subst hf; exact ⟨arr, rfl, hr, fun h => h⟩
    | cons q qs => simp at hl
  | (off, sz, x) :: ps, [], cs, cs', arr, hr, hl, hp, hf => by simp at hl
  | (off, sz, x) :: ps, (i, v) :: qs, cs, cs', arr, hr, hl, hp, hf => by
    simp only [fillA] at hf
    split at hf
    · rename_i hc
      obtain ⟨h1, h2, h3⟩ := hc
      obtain ⟨h4, h5⟩ := hp 0 _ _ rfl rfl
      obtain ⟨h6, h7⟩ := Rep.cells h3 h5
      have h2' : off + sz ≤ cs.length := h2
      have hvs : v.cells.size = sz := by have := h6.length; simpa [h1] using this.symm
      have hlen : cs.length = arr.size := by simpa using hr.length
      have hr' : RepL (cs.take off ++ cellsOf x ++ cs.drop (off + sz)) β h F w (arr.toList.take off ++ v.cells.toList ++ arr.toList.drop (off + sz)).toArray.toList := by
        simpa using ((hr.take off).append h6).append (hr.drop (off + sz))
      obtain ⟨arr', e1, e2, e3⟩ := fill_rep place ps qs hr' (by simpa using hl) (fun i p q a b => hp (i + 1) p q a b) hf
      refine ⟨arr', by rw [fill_step place arr i v qs h4 hvs (by rw [← hlen]; exact h2')]; exact e1, e2, fun hone => e3 ?_⟩
      intro u hu
      simp only [List.toList_toArray] at hu
      rcases List.mem_append.1 hu with hu | hu
      · rcases List.mem_append.1 hu with hu | hu
        · exact hone u (List.mem_of_mem_take hu)
        · exact h7 u hu
      · exact hone u (List.mem_of_mem_drop hu)
    · cases hf

theorem fillA_all (sz : Nat) : ∀ (vs : List AV) (k : Nat) (pre : List AV), pre.length = k * sz → (∀ v ∈ vs, (cellsOf v).length = sz ∧ (cellsOf v).all storable = true) →
    fillA (pre ++ List.replicate (vs.length * sz) AV.undef) ((vs.zipIdx k).map fun x => (x.2 * sz, sz, x.1)) = some (pre ++ vs.flatMap cellsOf)
  | [], k, pre, hp, hv => by simp [fillA]
  | v :: vs, k, pre, hp, hv => by
    obtain ⟨h1, h2⟩ := hv v (by simp)
    simp only [List.zipIdx_cons, List.map_cons, fillA]
    have hle : k * sz + sz ≤ (pre ++ List.replicate ((v :: vs).length * sz) AV.undef).length := by
      simp only [List.length_append, List.length_replicate, List.length_cons, Nat.succ_mul, hp]; omega
    rw [if_pos ⟨h1, hle, h2⟩]
    have e1 : (pre ++ List.replicate ((v :: vs).length * sz) AV.undef).take (k * sz) = pre := by rw [← hp]; exact List.take_left
    have e2 : (pre ++ List.replicate ((v :: vs).length * sz) AV.undef).drop (k * sz + sz) = List.replicate (vs.length * sz) AV.undef := by
      rw [← hp, ← List.drop_drop, List.drop_left, List.drop_replicate]
      congr 1
      rw [List.length_cons, Nat.succ_mul]; omega
    rw [e1, e2]
    have := fillA_all sz vs (k + 1) (pre ++ cellsOf v) (by rw [List.length_append, hp, h1, Nat.succ_mul]) (fun x hx => hv x (by simp [hx]))
    rw [this]
    simp

theorem RepL_undef : ∀ {n : Nat} {vs : List Value}, vs.length = n → RepL (List.replicate n AV.undef) β h F w vs
  | 0, vs, hv => by simp at hv; subst hv; rfl
  | n + 1, [], hv => by simp at hv
  | n + 1, v :: vs, hv => ⟨v, vs, rfl, trivial, RepL_undef (by simpa using hv)⟩

end

section
variable {P : Program} {Bad : Forb} {β : List Value} {h : Heap} {w : World} {a : Act} {s : Slots} {o : Oper}

/-- Where the parts of a struct or an array lie. -/
def placesOf (P : Program) (t : TypeId) : Option (Nat → Option (Nat × Nat)) :=
  match P.underlying t with
  | some (.array _ e) => (P.info? e).map fun ie i => some (i * ie.size, ie.size)
  | some (.struct fields) => (fields.toList.mapM fun f => (P.info? f.type).map fun i => (f.offset, i.size)).map fun (places : List (Nat × Nat)) (i : Nat) => places[i]?
  | _ => none

def chkParts (place : Nat → Option (Nat × Nat)) : List (Nat × Nat × X) → List (Nat × Operand) → Bool
  | [], [] => true
  | (off, sz, x) :: ps, (i, o) :: qs => (place i == some (off, sz)) && chkX x o && chkParts place ps qs
  | _, _ => false

theorem chkParts_spec {place : Nat → Option (Nat × Nat)} {F : Forb} (hs : SlotsRep β h F w s a) : ∀ {ps : List (Nat × Nat × X)} {qs : List (Nat × Operand)} (hc : chkParts place ps qs = true),
    (ps.map fun p => (p.1, p.2.1, p.2.2.ev s)).length = (qs.map fun q => (q.1, a.eval q.2)).length ∧
    ∀ (i : Nat) p q, (ps.map fun p => (p.1, p.2.1, p.2.2.ev s))[i]? = some p → (qs.map fun q => (q.1, a.eval q.2))[i]? = some q → place q.1 = some (p.1, p.2.1) ∧ Rep p.2.2 β h F w q.2
  | [], [], _ => ⟨rfl, fun i p q hp => by simp at hp⟩
  | (off, sz, x) :: ps, (j, o) :: qs, hc => by
    simp only [chkParts, Bool.and_eq_true, beq_iff_eq] at hc
    obtain ⟨h1, h2⟩ := chkParts_spec hs hc.2
    refine ⟨by simpa using h1, fun i p q hp hq => ?_⟩
    cases i with
    | zero =>
      simp at hp hq
      subst hp; subst hq
      exact ⟨hc.1.1, X_rep hs hc.1.2⟩
    | succ i => exact h2 i p q (by simpa using hp) (by simpa using hq)
  | [], _ :: _, hc => by simp [chkParts] at hc
  | _ :: _, [], hc => by simp [chkParts] at hc

variable (hh : HeapRel Bad β h w) (hs : SlotsRep β h (FOf Bad β) w s a)
include hh hs

theorem sound_build {t : TypeId} {parts : Array (Nat × Operand)} {zero : List AV} {ps : List (Nat × Nat × X)} (ho : o.op = .build t parts) (hz : zeroIs P t zero = true)
    {place : Nat → Option (Nat × Nat)} (hp : placesOf P t = some place) (hc : chkParts place ps parts.toList = true) {cs : List AV} (hf : fillA zero (ps.map fun p => (p.1, p.2.1, p.2.2.ev s)) = some cs) :
    OpSound P Bad β h w a o (.agg cs) h := by
  obtain ⟨i, z, hi, hzz, hcz⟩ := zeroIs_spec hz
  obtain ⟨hr, h1⟩ := constL_rep (β := β) (h := h) (F := FOf Bad β) (w := w) zero hcz
  obtain ⟨hl, hpq⟩ := chkParts_spec hs hc
  obtain ⟨arr, e1, e2, e3⟩ := fill_rep place _ _ hr hl hpq hf
  have hb : P.built t ((parts.map fun (i, x) => (i, a.eval x)).toList) = some arr := by
    have hq : (parts.map fun (i, x) => (i, a.eval x)).toList = parts.toList.map fun q => (q.1, a.eval q.2) := by simp
    rw [hq]
    unfold Program.built
    unfold placesOf at hp
    rw [hi]
    split at hp
    · rename_i n e hu
      cases hie : P.info? e with
      | none => rw [hie] at hp; cases hp
      | some ie =>
        rw [hie] at hp
        injection hp with hp
        subst hp
        simp only [hu, hzz, hie]
        exact e1
    · rename_i fields hu
      cases hm : fields.toList.mapM fun f => (P.info? f.type).map fun i => (f.offset, i.size) with
      | none => rw [hm] at hp; cases hp
      | some places =>
        rw [hm] at hp
        injection hp with hp
        subst hp
        simp only [hu, hzz, hm]
        have : (fun (x : Nat) => places.toArray[x]?) = fun (i : Nat) => places[i]? := by funext i; simp
        rw [this]
        exact e1
    · cases hp
  refine sound_pure hh (v := .agg arr) ?_ ⟨arr.toList, by simp, e2, e3 h1⟩
  simp only [execOp, ho, Sem.run_bind, run_build w t _ arr hb, Result.andThen_ok, Sem.run_pure]

/-- A slice literal all of whose places are written. -/
theorem buildSlice_run {t e : TypeId} {len : Nat} {parts : Array (Nat × Operand)} {sz : Nat} {els : List X} (ho : o.op = .buildSlice t len parts) (hu : P.underlying t = some (.slice e))
    {ie : TypeInfo} {z : Value} (hi : P.info? e = some ie) (hsz : ie.size = sz) (hzz : ie.zero = some z) (hz : 0 < sz) (hsmall : len * sz ≤ 16777216) (hidx : parts.toList.map (·.1) = List.range len) (hc : chkXs els (parts.toList.map (·.2)) = true)
    (hall : ∀ v ∈ els.map (X.ev s), (cellsOf v).length = sz ∧ (cellsOf v).all storable = true) :
    ∃ arr : Array Value, (execOp a.eval o).run P w = .ok (.value (.slice (some ⟨w.heap.size, 0, none⟩) len len)) (w.alloc (.cells arr e)) ∧ len = els.length ∧ RepL ((els.map (X.ev s)).flatMap cellsOf) β h (FOf Bad β) w arr.toList ∧ (∀ u ∈ arr.toList, u.oneCell' = true) := by
  have hr := Xs_rep hs hc
  have hlenp : parts.toList.length = len := by
    have := congrArg List.length hidx
    simpa using this
  have hlene : els.length = len := by
    have := hr.length
    simpa [hlenp] using this
  subst hlene
  have hq : (parts.map fun (i, x) => (i, a.eval x)).toList = parts.toList.map fun q => (q.1, a.eval q.2) := by simp
  have hnow : ∀ (init : Array Value), init.size = els.length * sz → ∃ arr, Instr.fill (fun i => some (i * sz, sz)) init (parts.toList.map fun q => (q.1, a.eval q.2)) = some arr ∧ RepL ((els.map (X.ev s)).flatMap cellsOf) β h (FOf Bad β) w arr.toList := by
    intro init hinit
    have hfa := fillA_all sz (els.map (X.ev s)) 0 [] (by simp) hall
    simp only [List.nil_append, List.length_map] at hfa
    have hpq : ∀ (i : Nat) (p : Nat × Nat × AV) (q : Nat × Value), (((els.map (X.ev s)).zipIdx 0).map fun x => (x.2 * sz, sz, x.1))[i]? = some p → (parts.toList.map fun q => (q.1, a.eval q.2))[i]? = some q → (fun i => some (i * sz, sz)) q.1 = some (p.1, p.2.1) ∧ Rep p.2.2 β h (FOf Bad β) w q.2 := by
      intro i p q hp hq
      simp only [List.getElem?_map, List.getElem?_zipIdx, Option.map_map, Option.map_eq_some_iff] at hp hq
      obtain ⟨x, hx, hp⟩ := hp
      obtain ⟨y, hy, hq⟩ := hq
      subst hp; subst hq
      have hi1 : y.1 = i := by
        have : (parts.toList.map (·.1))[i]? = some y.1 := by simp [hy]
        rw [hidx] at this
        have h2 := (List.getElem?_eq_some_iff.1 this)
        obtain ⟨_, h3⟩ := h2
        simpa using h3.symm
      refine ⟨by simp [hi1], ?_⟩
      obtain ⟨_, hrr⟩ := RepL_iff.1 hr
      exact hrr i _ _ (by simp [hx]) (by simp [hy])
    obtain ⟨arr, e1, e2, e3⟩ := fill_rep (β := β) (h := h) (F := FOf Bad β) (w := w) (fun i => some (i * sz, sz)) _ (parts.toList.map fun q => (q.1, a.eval q.2)) (arr := init) (RepL_undef (by simpa using hinit))
      (by simp [hlenp]) hpq hfa
    exact ⟨arr, e1, e2⟩
  have hone : ∀ (arr : Array Value), RepL ((els.map (X.ev s)).flatMap cellsOf) β h (FOf Bad β) w arr.toList → ∀ u ∈ arr.toList, u.oneCell' = true := by
    intro arr hra u hu
    obtain ⟨i, hi⟩ := List.mem_iff_getElem?.1 hu
    obtain ⟨hl, hrr⟩ := RepL_iff.1 hra
    have hlt : i < ((els.map (X.ev s)).flatMap cellsOf).length := by
      rw [hl]; exact (List.getElem?_eq_some_iff.1 hi).1
    have hx := List.getElem?_eq_getElem hlt
    have hmem := List.getElem_mem hlt
    obtain ⟨v, hv, hxv⟩ := List.mem_flatMap.1 hmem
    have hst : storable (((els.map (X.ev s)).flatMap cellsOf)[i]) = true := List.all_eq_true.1 (hall v hv).2 _ hxv
    exact Rep.oneCell hst (hrr i _ u hx hi)
  by_cases hpos : els.length * sz = 0
  · obtain ⟨arr, e1, e2⟩ := hnow ((Array.range 0).map fun _ => default) (by simp [hpos])
    refine ⟨arr, ?_, rfl, e2, hone arr e2⟩
    simp [execOp, ho, Instr.buildSlice, run_underlying hu, sizeOf, typeInfo, hi, hsz, hpos, hq, e1, newRow]
  · obtain ⟨arr, e1, e2⟩ := hnow ((Array.range (els.length * sz)).map (z.cells[· % z.cells.size]!)) (by simp)
    refine ⟨arr, ?_, rfl, e2, hone arr e2⟩
    have hns : ¬ (els.length * sz > 2 ^ 24) := by omega
    simp [execOp, ho, Instr.buildSlice, run_underlying hu, sizeOf, typeInfo, zeroValue, hi, hzz, hsz, hpos, hns, hq, e1, newRow]

omit hh hs in
theorem rep_newRow (hh : HeapRel Bad β h w) {sz n : Nat} (bv : Value) (obj : AObj) {F : Forb} {w' : World} {b c : Nat} (hbv : bv = .slice (some ⟨b, 0, none⟩) n c) (hnc : n ≤ c) :
    Rep (.sl sz h.length 0 0 n) (β ++ [bv]) (h ++ [obj]) F w' (.slice (some ⟨b, 0, none⟩) n c) := by
  simp only [Rep]
  refine ⟨⟨by simp [hh.len], fut_new h obj⟩, ⟨_, _, _, rfl⟩, fun _ => ?_⟩
  rw [← hh.len]
  simp only [List.getD_eq_getElem?_getD, List.getElem?_append_right (Nat.le_refl _), Nat.sub_self, hbv]
  exact ⟨0, c, rfl, hnc, by simp, .inl rfl, fun _ => rfl⟩

omit hh hs in
/-- A new row of the run's own. -/
theorem Step.newRow (hh : HeapRel Bad β h w) {w' : World} (hb : Below w.heap.size w w') {bv : Value} {t : TypeId} {sz n : Nat} {vs : List AV} {xs : List Value} (hz : 0 < sz) (hown : w'.ownsRow w.heap.size t sz bv n xs)
    (hr : RepL vs β h (FOf Bad β) w xs) (h1 : ∀ u ∈ xs, u.oneCell' = true) : Step Bad β h w (β ++ [bv]) (h ++ [.row 0 sz vs t]) w' := by
  refine Step.alloc hh hb (fun k hk => ?_) fun hok hkeep => ⟨hz, n, xs, ?_, RepL.step hok _ hkeep hr, h1⟩
  · have : bv.ownBlock = some k := by
      rcases hown.2 with ⟨h2, _⟩ | ⟨g, cap, cur, h2, _⟩
      · subst h2; cases hk
      · subst h2; exact hk
    exact hown.lt k this
  · rcases hown.2 with h2 | ⟨g, cap, cur, e1, e2, e3, e4⟩
    · exact ⟨hown.1, .inl h2⟩
    · exact ⟨hown.1, .inr ⟨g, cap, cur, e1, Nat.zero_le _, e3, e4⟩⟩

end
end Go.Fw
