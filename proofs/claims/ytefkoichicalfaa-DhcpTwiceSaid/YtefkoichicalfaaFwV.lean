/-
  More operations: nil pointers and interfaces, a slice seen as an array, a row that is only read from now on, noughts behind a row. Conditions: stated at each.
-/
import Derived.Test.YtefkoichicalfaaFwR
set_option linter.unusedVariables false
set_option linter.unusedSimpArgs false
set_option linter.unusedSectionVars false
namespace Go.Fw
open Go.RowKit (Below)

section
variable {P : Program} {Bad : Forb} {β : List Value} {h : Heap} {w : World} {a : Act} {s : Slots} {o : Oper}

/-- The literal nil of a pointer's or an interface's type. -/
def isNlC (P : Program) (ifc : Bool) (t : TypeId) (y : Operand) : Bool :=
  match P.underlying t with
  | some (.pointer _) => !ifc && (match y with | .const (.pointer none) => true | _ => false)
  | some (.interface _) => ifc && (match y with | .const .nilIface => true | _ => false)
  | _ => false

theorem run_equal_iface_nil {t : TypeId} {ms : Array (String × TypeId)} (hu : P.underlying t = some (.interface ms)) : (Op.equal t .nilIface .nilIface).run P w = .ok true w ∧ ∀ u x, (Op.equal t (.iface u x) .nilIface).run P w = .ok false w := by
  have h1 : ∀ d : Nat, (Op.equalIn (d + 1) t .nilIface .nilIface).run P w = .ok true w := fun d => by simp [Op.equalIn, run_underlying hu]
  have h2 : ∀ (d : Nat) u x, (Op.equalIn (d + 1) t (.iface u x) .nilIface).run P w = .ok false w := fun d u x => by simp [Op.equalIn, run_underlying hu]
  exact ⟨h1 9999, h2 9999⟩
theorem run_equal_ptr_nil {t e : TypeId} (hu : P.underlying t = some (.pointer e)) (p : Option Addr) : (Op.equal t (.pointer p) (.pointer none)).run P w = .ok p.isNone w := by
  have h1 : ∀ d : Nat, (Op.equalIn (d + 1) t (.pointer p) (.pointer none)).run P w = .ok p.isNone w := fun d => by cases p <;> simp [Op.equalIn, run_underlying hu]
  exact h1 9999

variable (hh : HeapRel Bad β h w) (hs : SlotsRep β h (FOf Bad β) w s a)
include hh hs
theorem sound_eqNl {x : X} {x' y' : Operand} {ifc neg : Bool} {t u : TypeId} {op : BinOp} (hop : op = if neg then .neq else .eql) (ho : o.op = .binOp op t x' y' u) (hx : chkX x x' = true) (hy : isNlC P ifc t y' = true) {b : Bool}
    (hb : isNl ifc (x.ev s) = some b) : OpSound P Bad β h w a o (.bool (if neg then !b else b)) h := by
  have h1 := X_rep hs hx
  have key : (Op.equal t (a.eval x') (a.eval y')).run P w = .ok b w ∧ (eqGuard op t x' y' (a.eval x') (a.eval y')).run P w = .ok () w ∧ ((∃ p, a.eval x' = .pointer p) ∧ a.eval y' = .pointer none ∨ (a.eval x' = .nilIface ∨ ∃ u v, a.eval x' = .iface u v) ∧ a.eval y' = .nilIface) := by
    unfold isNlC at hy
    split at hy
    · rename_i e hu
      simp only [Bool.and_eq_true, Bool.not_eq_true'] at hy
      obtain ⟨rfl, hy⟩ := hy
      split at hy
      case h_2 => cases hy
      have hyv : a.eval (.const (.pointer none)) = .pointer none := rfl
      rw [hyv]
      generalize hxv : x.ev s = xv at h1 hb
      have hp : ∃ p : Option Addr, a.eval x' = .pointer p ∧ p.isNone = b := by
        cases xv <;> simp only [isNl, reduceCtorEq, Option.some.injEq, Bool.false_eq_true, if_false] at hb <;> subst hb
        case nilp => exact ⟨none, h1, rfl⟩
        case rp g y => obtain ⟨ad, v, h2, _⟩ := h1; exact ⟨some ad, h2, rfl⟩
        case ref l ver off => obtain ⟨_, ⟨ad, h2⟩, _⟩ := h1; exact ⟨some ad, h2, rfl⟩
      obtain ⟨p, h2, h3⟩ := hp
      rw [h2]
      exact ⟨by rw [run_equal_ptr_nil hu, h3], by cases op <;> simp [eqGuard], .inl ⟨⟨p, rfl⟩, rfl⟩⟩
    · rename_i ms hu
      simp only [Bool.and_eq_true] at hy
      obtain ⟨rfl, hy⟩ := hy
      split at hy
      case h_2 => cases hy
      have hyv : a.eval (.const .nilIface) = .nilIface := rfl
      rw [hyv]
      obtain ⟨e1, e2⟩ := run_equal_iface_nil (w := w) hu
      generalize hxv : x.ev s = xv at h1 hb
      cases xv <;> simp only [isNl, reduceCtorEq, Option.some.injEq, if_true] at hb <;> subst hb
      case nili =>
        have h1' : a.eval x' = .nilIface := h1
        rw [h1']
        refine ⟨e1, ?_, .inr ⟨.inl rfl, rfl⟩⟩
        cases op <;> simp [eqGuard]
      case iface t' y =>
        obtain ⟨v, h2, _⟩ := h1
        rw [h2]
        refine ⟨e2 _ _, ?_, .inr ⟨.inr ⟨_, _, rfl⟩, rfl⟩⟩
        cases op <;> simp [eqGuard]
    · cases hy
  obtain ⟨k1, k2, k3⟩ := key
  have hbin : (binOp .eql t (a.eval x') (a.eval y')).run P w = .ok (.bool b) w ∧ (binOp .neq t (a.eval x') (a.eval y')).run P w = .ok (.bool (!b)) w := by
    rcases k3 with ⟨⟨p, e1⟩, e2⟩ | ⟨e1 | ⟨u', v, e1⟩, e2⟩ <;> (rw [e1, e2] at k1 ⊢; exact ⟨by simp [binOp, k1], by simp [binOp, k1]⟩)
  subst hop
  cases neg
  · refine sound_pure hh (v := .bool b) ?_ rfl
    simp only [Bool.false_eq_true, if_false] at ho k2
    simp [execOp, ho, k2, hbin.1]
  · refine sound_pure hh (v := .bool (!b)) ?_ rfl
    simp only [if_true] at ho k2
    simp [execOp, ho, k2, hbin.2]

theorem sound_nilChk {x : X} {x' : Operand} (ho : o.op = .nilCheck x') (hx : chkX x x' = true) (hv : (∃ g y, x.ev s = .rp g y) ∨ ∃ l ver off, x.ev s = .ref l ver off) : OpSound P Bad β h w a o (x.ev s) h := by
  have h1 := X_rep hs hx
  have hp : ∃ ad, a.eval x' = .pointer (some ad) := by
    rcases hv with ⟨g, y, e⟩ | ⟨l, ver, off, e⟩
    · rw [e] at h1
      obtain ⟨ad, v, h2, _⟩ := h1
      exact ⟨ad, h2⟩
    · rw [e] at h1
      obtain ⟨_, ⟨ad, h2⟩, _⟩ := h1
      exact ⟨ad, h2⟩
  obtain ⟨ad, h2⟩ := hp
  refine sound_pure hh (v := a.eval x') ?_ h1
  simp [execOp, ho, h2]

theorem sound_s2a {x : X} {x' : Operand} {t e : TypeId} {n sz : Nat} (ho : o.op = .sliceToArrayPointer t x') (hx : chkX x x' = true) (hu : P.underlying t = some (.array n e)) (hn : 0 < n) {g : Bool} {l : List AV} (hv : x.ev s = .rs g sz l) (hl : n ≤ l.length)
    (hst : ((l.take n).flatMap cellsOf).all storable = true) : OpSound P Bad β h w a o (.rp g (.agg ((l.take n).flatMap cellsOf))) h := by
  have h1 := X_rep hs hx
  rw [hv] at h1
  obtain ⟨ad, c, vs, h2, hc, hz, hf, hro⟩ := h1
  have hlen := hf.len
  have hpos : 0 < vs.length := by
    rw [hlen]
    exact Nat.mul_pos (by omega) (by omega)
  obtain ⟨ad', rfl, _⟩ := hro 0 vs[0] (List.getElem?_eq_getElem hpos)
  have hf' := hf.take n
  have hrl := RepF_flat hf' hst
  have h1c : ∀ u ∈ vs.take (n * sz), u.oneCell' = true := fun u hu => by
    obtain ⟨i, hi, rfl⟩ := List.getElem_of_mem (List.mem_of_mem_take hu)
    obtain ⟨_, _, _, _, h3⟩ := hro i _ (List.getElem?_eq_getElem hi)
    exact h3
  refine sound_pure hh (v := .pointer (some ad')) ?_ ⟨ad', .agg (vs.take (n * sz)).toArray, rfl, ⟨vs.take (n * sz), rfl, hrl, h1c⟩, fun i u hu => ?_⟩
  · have : ¬ l.length < n := by omega
    simp [execOp, ho, h2, Instr.arrayAt, run_underlying hu, this]
  · refine hro i u ?_
    simp only [Value.cells, List.getElem?_take] at hu
    split at hu
    · exact hu
    · cases hu

theorem sound_frz {x : X} {x' : Operand} {t e : TypeId} (ho : o.op = .convert t t x') (hx : chkX x x' = true) (hu : P.underlying t = some (.slice e)) (he : P.underlying e = some (.int .u8)) {r : AV} {h' : Heap} (hr : frzV h (x.ev s) = some (r, h')) : OpSound P Bad β h w a o r h' := by
  have h1 := X_rep hs hx
  generalize hxv : x.ev s = xv at h1 hr
  cases xv <;> simp only [frzV, reduceCtorEq] at hr
  rename_i z l ver off n
  split at hr
  case h_2 => cases hr
  rename_i v z' vs te hobj
  split at hr
  case isFalse => cases hr
  rename_i hcond
  obtain ⟨rfl, rfl, rfl, rfl, hn0, hvl, hpl⟩ := hcond
  simp only [Option.some.injEq, Prod.mk.injEq] at hr
  obtain ⟨rfl, rfl⟩ := hr
  simp only [Rep] at h1
  obtain ⟨hl, _, h1⟩ := h1
  have hcur : objCells h l v = some vs := by simp [objCells, hobj]
  have h1 := h1 (by rw [hcur]; rfl)
  have hβ : β[l]? = some (β.getD l default) := by rw [List.getD_eq_getElem?_getD, List.getElem?_eq_getElem hl.1]; rfl
  obtain ⟨hz', n', xs, hown, hrx, hx1⟩ := hh.obj l _ _ hobj hβ
  have hnn : n' = n := by
    have e1 := hown.1
    have e2 := hrx.length
    omega
  subst hnn
  generalize hbv : β.getD l default = bv at *
  rcases hown.2 with ⟨_, h4⟩ | ⟨g, cap, cur, h3, _, hg, hnc, hcm, hcs, htk⟩
  · omega
  rw [h3] at h1
  simp only [SlRep] at h1
  obtain ⟨o', c, h5, h6, h7, h8, h9⟩ := h1
  have ho' := h9 trivial
  subst ho'
  have hcc : c = cap := by omega
  subst hcc
  have hsh : w.shape? g = some (te, cur.size) := by simp [World.shape?, hg]
  have hgl : g < w.heap.size := (Array.getElem?_eq_some_iff.1 hg).1
  let w' := w.freeze ⟨g, cur.size, none⟩ 1
  have hw' : w'.heap[g]? = some (.cells cur te (cur.size, cur.size + 1)) := by
    show (w.freeze ⟨g, cur.size, none⟩ 1).heap[g]? = _
    simp [World.freeze, Array.getElem?_modify, hg]
  have hwo : ∀ k, k ≠ g → w'.heap[k]? = w.heap[k]? := by
    intro k hk
    show (w.freeze ⟨g, cur.size, none⟩ 1).heap[k]? = _
    simp [World.freeze, Array.getElem?_modify, Ne.symm hk]
  have hws : w'.heap.size = w.heap.size := by
    show (w.freeze ⟨g, cur.size, none⟩ 1).heap.size = _
    simp [World.freeze]
  have hrun : (execOp a.eval o).run P w = .ok (.value (.slice (some ⟨g, 0, none⟩) n' c)) w' := by
    simp [execOp, ho, h5, convert, run_underlying hu, run_underlying he, markStringish, hsh]
    rfl
  have hst := Step.turn (Bad := Bad) (w' := w') hh (l := l) (bv := bv) (bv' := .slice none 0 0) (o' := .gone) hβ (by rfl) (by rfl) (by rfl) (by rw [hws]; exact Nat.le_refl _)
    (fun k hk hne => hwo k (fun e => hne (by rw [h3, e]; rfl)))
    (fun k hk => by cases hk)
    (fun u hf => by
      have hs1 : (h.set l .gone)[l]? = some .gone := List.getElem?_set_self (by rw [← hh.len]; exact hl.1)
      refine ⟨by unfold fut; rw [hs1], fun hs => ?_⟩
      unfold objCells at hs
      rw [hs1] at hs
      cases hs)
    (fun hok hkeep => trivial)
  refine sound_value hrun hst ?_
  have hrl := hst.repL hrx
  have hcell : vs.flatMap cellsOf = vs := by
    clear hobj hcur hrx hrl hvl
    induction vs with
    | nil => rfl
    | cons y ys ih =>
      simp only [List.all_cons, Bool.and_eq_true] at hpl
      rw [List.flatMap_cons, ih hpl.2]
      have : cellsOf y = [y] := by cases y <;> first | rfl | (simp [plainB] at hpl)
      rw [this]
      rfl
  have hform : ∀ y ∈ vs, shapeOk (1 != 1) 1 y = true ∧ hasOwn y = false := by
    intro y hy
    have := List.all_eq_true.1 hpl y hy
    cases y <;> first | exact ⟨rfl, rfl⟩ | cases this
  have hrf := RepF_of (sz := 1) hform (by rw [hcell]; exact hrl) hx1
  have hxl : xs.length = n' := by simpa using hown.1
  refine ⟨some ⟨g, 0, none⟩, c, xs, by rw [hvl], by rw [hvl]; exact hnc, by omega, hrf, fun i u hu => ⟨_, rfl, ?_, ?_, hx1 u (List.mem_of_getElem? hu)⟩⟩
  · rintro (hb | ⟨j, hj⟩)
    · exact hh.free l g false ⟨bv, hβ, by rw [h3]; rfl⟩ hb
    · obtain ⟨bv2, hj1, hj2⟩ := hj
      by_cases hjl : j = l
      · subst hjl
        rw [List.getElem?_set_self hl.1] at hj1
        injection hj1 with hj1
        subst hj1
        cases hj2
      · rw [List.getElem?_set_ne (Ne.symm hjl)] at hj1
        exact hjl (hh.inj j l g ⟨bv2, hj1, hj2⟩ ⟨bv, hβ, by rw [h3]; rfl⟩)
  · rw [Addr.add_lit', Nat.zero_add, cell_of_row w' g i cur te _ hw']
    have : (cur.toList.take (n' * 1))[i]? = some u := by rw [htk]; exact hu
    rw [List.getElem?_take] at this
    split at this
    · simpa using this
    · cases this

omit hh hs in
theorem zeros_flat {z : Value} {sz : Nat} (hz : 0 < sz) (hzs : z.cells.size = sz) : ∀ m : Nat, (Builtin.zeroCells z.cells m).toList = (List.replicate m z.cells.toList).flatten := by
  intro m
  have hl : ((List.replicate m z.cells.toList).flatten).length = m * sz := by simp [List.length_flatten, hzs]
  apply List.ext_getElem?
  intro j
  by_cases hj : j < m * sz
  · have hjs : j % sz < z.cells.size := by rw [hzs]; exact Nat.mod_lt _ hz
    have e4 : (Builtin.zeroCells z.cells m).toList[j]? = some z.cells[j % sz] := by
      simp [Builtin.zeroCells, hj, hzs]
      exact getElem!_pos z.cells (j % sz) hjs
    rw [e4]
    clear e4
    induction m generalizing j with
    | zero => simp at hj
    | succ m ih =>
      rw [List.replicate_succ, List.flatten_cons]
      by_cases hj2 : j < sz
      · rw [List.getElem?_append_left (by simpa [hzs] using hj2)]
        simp [Nat.mod_eq_of_lt hj2, hzs, hj2]
      · rw [List.getElem?_append_right (by simpa [hzs] using Nat.le_of_not_lt hj2)]
        have hlt : j - sz < m * sz := by rw [Nat.succ_mul] at hj; omega
        have := ih (by simp [List.length_flatten, hzs]) (j - sz) hlt (by rw [Nat.mod_eq_sub_mod (Nat.le_of_not_lt hj2)] at hjs; exact hjs)
        simp only [Array.length_toList, hzs]
        rw [← this]
        congr 1
        simp only [Nat.mod_eq_sub_mod (Nat.le_of_not_lt hj2)]
  · rw [List.getElem?_eq_none (by simp [Builtin.zeroCells, hzs]; omega), List.getElem?_eq_none (by omega)]

omit hh hs in
/-- Noughts behind a row: it lies where it lay, or in a new block. -/
theorem run_append_mk {t tn ty e : TypeId} {i : TypeInfo} {z : Value} {kn kq : IntKind} (ht : P.underlying t = some (.slice e)) (htn : P.underlying tn = some (.int kn)) (hi : P.info? e = some i) (hzz : i.zero = some z) {sz : Nat} (hsize : i.size = sz)
    (hzs : z.cells.size = sz) (hsz : 0 < sz) (hz1 : ∀ u ∈ z.cells.toList, u.oneCell' = true) {base : Nat} {v : Value} {n : Nat} {xs : List Value} (hown : w.ownsRow base e sz v n xs) (k : Nat) (h63 : n + k ≤ 140737488355328) (hbytes : (n + k) * i.bytes ≤ 140737488355328) (hbase : base ≤ w.heap.size) :
    ∃ v' w', (Builtin.append_ #[t, tn] ty #[v, .int kq k]).run P w = .ok v' w' ∧ w'.ownsRow base e sz v' (n + k) (xs ++ (List.replicate k z.cells.toList).flatten) ∧ w.grownBy w' v.ownBlock ∧ ∀ b, blkOf v' = some b → blkOf v = some b ∨ w.heap.size ≤ b := by
  have hw : IntKind.i64.wrap (k : Int) = k := by rw [IntKind.wrap_i64]; omega
  have hneg : ¬ ((k : Int) < 0) := by omega
  have h48i : ¬ (281474976710656 < (k : Int) * (i.bytes : Int)) := by
    rw [← Int.natCast_mul]
    have : k * i.bytes ≤ (n + k) * i.bytes := Nat.mul_le_mul_right _ (by omega)
    omega
  have hw0 : IntKind.i64.wrap 0 = 0 := by decide
  by_cases hk : k = 0
  · subst hk
    refine ⟨v, w, ?_, by simpa using hown, ⟨rfl, rfl, rfl, Nat.le_refl _, fun _ _ _ => rfl⟩, fun b hb => .inl hb⟩
    rcases hown.2 with ⟨rfl, rfl⟩ | ⟨g, cap, cur, rfl, _, _, hnc, _⟩
    · simp [Builtin.append_, run_underlying ht, run_underlying htn, sizeOf, typeInfo, hi, asInt, asIntOf, hw0]
    · simp [Builtin.append_, run_underlying ht, run_underlying htn, sizeOf, typeInfo, hi, asInt, asIntOf, hnc, storeCells, hw0]
  have hns : ¬ (k * i.size = 0) := Nat.mul_ne_zero hk (by omega)
  have hzl : (Builtin.zeroCells z.cells k).toList = (List.replicate k z.cells.toList).flatten := zeros_flat hsz hzs k
  have hlen : (xs ++ (List.replicate k z.cells.toList).flatten).length = (n + k) * sz := by
    rw [List.length_append, hown.1, Nat.add_mul]
    simp [List.length_flatten, hzs]
  have grow : ∀ (old : Nat) (b0 : Option Addr), n + k > old → (Builtin.firstCells i.size n (.slice b0 n old)).run P w.drew = .ok xs.toArray w.drew → (v = .slice b0 n old) →
      ∃ v' w', (Builtin.append_ #[t, tn] ty #[v, .int kq k]).run P w = .ok v' w' ∧ w'.ownsRow base e sz v' (n + k) (xs ++ (List.replicate k z.cells.toList).flatten) ∧ w.grownBy w' v.ownBlock ∧ ∀ b, blkOf v' = some b → blkOf v = some b ∨ w.heap.size ≤ b := by
    intro old b0 hold hfc hv
    subst hv
    have hn : ¬ (n + k ≤ old) := by omega
    have h63' : ¬ (9223372036854775807 < ((n : Int) + (k : Int))) := by omega
    have h48' : ¬ (281474976710656 < Builtin.nextslicecap (n + k) old * i.bytes) := by
      have := growslice_fits (old := old) (need := n + k) (bytes := i.bytes) (by omega) hbytes
      omega
    have hge := grownCap_ge w (n + k) old e
    have hcm : grownCap w (n + k) old e ≤ maxLen := grownCap_le_maxLen w (n + k) old e (by simp only [maxLen]; omega)
    refine ⟨.slice (some ⟨w.heap.size, 0, none⟩) (n + k) (grownCap w (n + k) old e), w.drew.alloc (.cells (xs.toArray ++ Builtin.zeroCells z.cells k ++ Builtin.zeroCells z.cells (grownCap w (n + k) old e - (n + k))) e), by
      simp [Builtin.append_, run_underlying ht, run_underlying htn, sizeOf, typeInfo, zeroValue, hi, hzz, asInt, asIntOf, hw, hn, hneg, hns, h63', h48', h48i, Question.forced, hfc, newRow, grownCap], ⟨hlen, .inr ⟨w.heap.size, grownCap w (n + k) old e, _, rfl, hbase, heap_alloc_new w.drew _, hge, hcm, ?_, ?_⟩⟩, ⟨rfl, rfl, rfl, by simp, fun b hb _ => heap_alloc_old w.drew _ b hb⟩, fun b hb => ?_⟩
    · simp only [Array.size_append, List.size_toArray, size_zeroCells, hzs, hown.1, ← Nat.add_mul]
      congr 1
      omega
    · simp only [Array.toList_append, List.append_assoc, hzl]
      rw [← List.append_assoc, ← hlen]
      exact List.take_left
    · simp only [blkOf, Option.some.injEq] at hb
      exact .inr (by omega)
  rcases hown.2 with ⟨hv, hn0⟩ | ⟨g, cap, cur, hv, hbg, hg, hnc, hcm, hcs, htake⟩
  · have hx : xs = [] := List.eq_nil_of_length_eq_zero (by rw [hown.1, hn0, Nat.zero_mul])
    refine grow 0 none (by omega) ?_ (by rw [hv, hn0])
    rw [hx, hn0]
    simp [Builtin.firstCells]
  · by_cases hroom : n + k ≤ cap
    · subst hv
      have hkm : k * sz + n * sz ≤ cap * sz := by rw [← Nat.add_mul]; exact Nat.mul_le_mul_right _ (by omega)
      have hul : ((List.replicate k z.cells.toList).flatten).length = k * sz := by simp [List.length_flatten, hzs]
      have h1c : ∀ u ∈ (List.replicate k z.cells.toList).flatten, u.oneCell' = true := fun u hu => by
        obtain ⟨l, hl, hu⟩ := List.mem_flatten.1 hu
        rw [List.eq_of_mem_replicate hl] at hu
        exact hz1 u hu
      have hrs := run_storeCells_at P g (n * sz) e (List.replicate k z.cells.toList).flatten 0 cur w hg (by rw [hul]; omega) h1c
      simp only [Nat.add_zero] at hrs
      have hns2 : ¬ (k * sz = 0) := Nat.mul_ne_zero hk (by omega)
      generalize (List.replicate k z.cells.toList).flatten = L at hzl hlen hul h1c hrs
      refine ⟨.slice (some ⟨g, 0, none⟩) (n + k) cap, w.setRow g (List.take (n * sz) cur.toList ++ L ++ List.drop (n * sz + L.length) cur.toList).toArray, by
        simp [Builtin.append_, run_underlying ht, run_underlying htn, sizeOf, typeInfo, zeroValue, hi, hzz, asInt, asIntOf, hw, hroom, hneg, hns2, h48i, hzl, hsize, Addr.add_lit', hrs], ⟨hlen, .inr ⟨g, cap, _, rfl, hbg, setRow_heap w g cur _ e _ hg, hroom, hcm, ?_, ?_⟩⟩, ⟨rfl, rfl, rfl, by simp, fun b hb hne => setRow_other w g b _ (fun e => hne (by simp [Value.ownBlock, e]))⟩, fun b hb => .inl hb⟩
      · simp only [List.size_toArray, List.length_append, List.length_take, List.length_drop, Array.length_toList, hul]
        omega
      · rw [htake, ← hlen]
        exact List.take_left
    · refine grow cap (some ⟨g, 0, none⟩) (by omega) ?_ hv
      have holds : ∀ (j : Nat) (u : Value), xs[j]? = some u → w.drew.cell? ((⟨g, 0, none⟩ : Addr).add j) = some u := fun j u hu => by
        subst hv
        exact hown.cells (g := g) rfl j u hu
      exact run_firstCells_some (P := P) w.drew i.size n ⟨g, 0, none⟩ n cap xs (by rw [hsize]; exact hown.1) holds

theorem sound_appMk {x' n' : Operand} {x nx : X} {t tn e : TypeId} {sz by_ : Nat} (ho : o.op = .call { callee := .builtin .append, args := #[x', n'], argTypes := #[t, tn] }) (hc : chkX x x' = true) (hc2 : chkX nx n' = true)
    (ht : P.underlying t = some (.slice e)) {kn : IntKind} (htn : P.underlying tn = some (.int kn)) {i : TypeInfo} {z : Value} (hi : P.info? e = some i) (hzz : i.zero = some z) (hsize : i.size = sz) (hby : i.bytes = by_) (hsz : 0 < sz)
    {zero : List AV} (hzero : constOkL zero z.cells.toList = true) (hzl : zero.length = sz)
    {k : IntKind} {n : Int} (hn : nx.ev s = .int k n) {r : AV} {h' : Heap} (hr : appMkV h sz by_ e zero n (x.ev s) = some (r, h')) : OpSound P Bad β h w a o r h' := by
  have h1 := X_rep hs hc
  have h2 := X_rep hs hc2
  rw [hn] at h2
  simp only [Rep] at h2
  generalize hxv : x.ev s = xv at h1 hr
  unfold appMkV at hr
  split at hr
  case h_2 => cases hr
  rename_i z_ l ver m
  split at hr
  case h_2 => cases hr
  rename_i v z' vs te hobj
  split at hr
  case isFalse => cases hr
  rename_i hcond
  obtain ⟨rfl, rfl, rfl, rfl, hvl, h0, hb, hm⟩ := hcond
  simp only [Option.some.injEq, Prod.mk.injEq] at hr
  obtain ⟨rfl, rfl⟩ := hr
  obtain ⟨q, rfl⟩ : ∃ q : Nat, n = q := ⟨n.toNat, by omega⟩
  simp only [Int.toNat_natCast] at *
  obtain ⟨hzr, hz1⟩ := constL_rep (β := β) (h := h) (F := FOf Bad β) (w := w) zero hzero
  have hzs : z.cells.size = z' := by have := hzr.length; simp at this; omega
  simp only [Rep] at h1
  obtain ⟨hl, _, h1⟩ := h1
  have hcur : objCells h l v = some vs := by simp [objCells, hobj]
  have h1 := h1 (by rw [hcur]; rfl)
  have hβ : β[l]? = some (β.getD l default) := by rw [List.getD_eq_getElem?_getD, List.getElem?_eq_getElem hl.1]; rfl
  obtain ⟨hz', n'', xs, hown, hrx, hx1⟩ := hh.obj l _ _ hobj hβ
  have hnn : n'' = m := by
    have e1 := hown.1
    have e2 := hrx.length
    have : n'' * z' = m * z' := by omega
    exact Nat.eq_of_mul_eq_mul_right hsz this
  subst hnn
  generalize hbv : β.getD l default = bv at *
  have hval : a.eval x' = bv := by
    rcases hown.2 with ⟨h3, h4⟩ | ⟨g, cap, cur, h3, _, _, h4, _⟩
    · rw [h3] at h1 ⊢
      simp only [SlRep] at h1
      exact h1.2
    · rw [h3] at h1 ⊢
      simp only [SlRep] at h1
      obtain ⟨o', c, h5, h6, h7, h8, h9⟩ := h1
      have ho' := h9 trivial
      subst ho'
      have : c = cap := Nat.eq_of_mul_eq_mul_right hsz (by simpa using h7)
      subst this
      exact h5
  obtain ⟨v', w', r1, r2, r3, r4⟩ := run_append_mk (P := P) (ty := o.type) (kq := k) ht htn hi hzz hsize hzs hsz hz1 hown q hm (by rw [hby]; exact hb) (Nat.zero_le _)
  have hblk : ∀ k, blkOf bv = some k ↔ bv.ownBlock = some k := by
    intro k
    rcases hown.2 with ⟨h3, _⟩ | ⟨g, cap, cur, h3, _⟩ <;> rw [h3] <;> simp [blkOf, Value.ownBlock]
  have hlt : ∀ k, blkOf v' = some k → k < w'.heap.size := by
    intro k hk
    rcases r2.2 with ⟨h3, _⟩ | ⟨g, cap, cur, h3, _, hg, _⟩
    · rw [h3] at hk; cases hk
    · rw [h3] at hk
      simp only [blkOf, Option.some.injEq] at hk
      subst hk
      exact (Array.getElem?_eq_some_iff.1 hg).1
  have hrep : ∀ m : Nat, RepL ((List.replicate m zero).flatten) β h (FOf Bad β) w ((List.replicate m z.cells.toList).flatten) := by
    intro m
    induction m with
    | zero => rfl
    | succ m ih => rw [List.replicate_succ, List.flatten_cons, List.replicate_succ, List.flatten_cons]; exact hzr.append ih
  have hst := Step.turn (Bad := Bad) (w' := w') hh (l := l) (bv := bv) (bv' := v') (o' := .row (v + 1) z' (vs ++ (List.replicate q zero).flatten) te) hβ r3.os r3.tape r3.output r3.size
    (fun k hk hne => r3.block k hk (fun e => hne ((hblk k).2 e.symm)))
    (fun k hk => ⟨r4 k hk, hlt k hk⟩)
    (fun u hf => by
      have hs1 : (h.set l (.row (v + 1) z' (vs ++ (List.replicate q zero).flatten) te))[l]? = some (.row (v + 1) z' (vs ++ (List.replicate q zero).flatten) te) := List.getElem?_set_self (by rw [← hh.len]; exact hl.1)
      unfold fut at hf ⊢
      rw [hobj] at hf
      rw [hs1]
      simp only [decide_eq_false_iff_not, Nat.not_lt] at hf ⊢
      refine ⟨by omega, fun hs => ?_⟩
      unfold objCells at hs
      rw [hs1] at hs
      simp only at hs
      split at hs
      · omega
      · cases hs)
    (fun hok hkeep => ⟨hsz, n'' + q, xs ++ (List.replicate q z.cells.toList).flatten, r2, RepL.step hok _ hkeep (hrx.append (hrep q)), fun u hu => by
      rcases List.mem_append.1 hu with hu | hu
      · exact hx1 u hu
      · obtain ⟨l, hl, hu⟩ := List.mem_flatten.1 hu
        rw [List.eq_of_mem_replicate hl] at hu
        exact hz1 u hu⟩)
  refine sound_value (v := v') ?_ hst ?_
  · simp [execOp, ho, hval, h2, resolve, invoke, builtin, r1]
  · have hself : (β.set l v')[l]? = some v' := by simp [List.getElem?_set_self, hl.1]
    have hfut : fut (h.set l (.row (v + 1) z' (vs ++ (List.replicate q zero).flatten) te)) l (v + 1) = false := by
      unfold fut
      rw [List.getElem?_set_self (by rw [← hh.len]; exact hl.1)]
      simp
    simp only [Rep]
    rcases r2.2 with ⟨h3, h4⟩ | ⟨g, cap, cur, h3, _, _, h4, _⟩
    · refine ⟨⟨by simpa using hl.1, hfut⟩, ⟨_, _, _, h3⟩, fun _ => ?_⟩
      rw [List.getD_eq_getElem?_getD, hself, h3]
      simp [SlRep, h4]
    · refine ⟨⟨by simpa using hl.1, hfut⟩, ⟨_, _, _, h3⟩, fun _ => ?_⟩
      rw [List.getD_eq_getElem?_getD, hself, h3]
      exact ⟨0, cap, rfl, h4, by simp, .inl rfl, fun _ => rfl⟩

omit hh hs in
theorem plain_storable {l : List AV} (h : l.all plainB = true) : l.all storable = true ∧ hasOwn.hasOwnL l = false := by
  induction l with
  | nil => exact ⟨rfl, rfl⟩
  | cons x l ih =>
    simp only [List.all_cons, Bool.and_eq_true] at h ⊢
    obtain ⟨i1, i2⟩ := ih h.2
    refine ⟨⟨?_, i1⟩, ?_⟩
    · cases x <;> first | rfl | cases h.1
    · show (hasOwn x || hasOwn.hasOwnL l) = false
      rw [i2, Bool.or_false]
      cases x <;> first | rfl | cases h.1

theorem sound_appF {x' y' : Operand} {x y : X} {t e : TypeId} {sz by_ : Nat} (ho : o.op = .call { callee := .builtin .append, args := #[x', y'], argTypes := #[t, t] }) (hc : chkX x x' = true) (hc2 : chkX y y' = true)
    (ht : P.underlying t = some (.slice e)) {i : TypeInfo} {z : Value} (hi : P.info? e = some i) (hzz : i.zero = some z) (hsize : i.size = sz) (hby : i.bytes = by_) (hzs : z.cells.size = sz) (hsz : 0 < sz)
    {ys : List AV} {m : Nat} (hys : cellsIn h sz (y.ev s) = some ys) (hm : lenIn (y.ev s) = some m) {r : AV} {h' : Heap} (hr : appFV h sz by_ e ys m (x.ev s) = some (r, h')) : OpSound P Bad β h w a o r h' := by
  have h1 := X_rep hs hc
  have h2 := X_rep hs hc2
  generalize hxv : x.ev s = xv at h1 hr
  unfold appFV at hr
  split at hr
  case h_2 => cases hr
  rename_i z_ l ver n
  split at hr
  case h_2 => cases hr
  rename_i v z' vs te hobj
  split at hr
  case isFalse => cases hr
  rename_i hcond
  obtain ⟨rfl, rfl, rfl, rfl, hvl, hyl, hb, hm2, hpv, hpy⟩ := hcond
  simp only [Option.some.injEq, Prod.mk.injEq] at hr
  obtain ⟨rfl, rfl⟩ := hr
  obtain ⟨hall, hoy⟩ := plain_storable hpy
  obtain ⟨hallv, hov⟩ := plain_storable hpv
  simp only [Rep] at h1
  obtain ⟨hl, _, h1⟩ := h1
  have hcur : objCells h l v = some vs := by simp [objCells, hobj]
  have h1 := h1 (by rw [hcur]; rfl)
  have hβ : β[l]? = some (β.getD l default) := by rw [List.getD_eq_getElem?_getD, List.getElem?_eq_getElem hl.1]; rfl
  obtain ⟨hz', n', xs, hown, hrx, hx1⟩ := hh.obj l _ _ hobj hβ
  have hnn : n' = n := by
    have e1 := hown.1
    have e2 := hrx.length
    have : n' * z' = n * z' := by omega
    exact Nat.eq_of_mul_eq_mul_right hsz this
  subst hnn
  generalize hbv : β.getD l default = bv at *
  have hval : a.eval x' = bv := by
    rcases hown.2 with ⟨h3, h4⟩ | ⟨g, cap, cur, h3, _, _, h4, _⟩
    · rw [h3] at h1 ⊢
      simp only [SlRep] at h1
      exact h1.2
    · rw [h3] at h1 ⊢
      simp only [SlRep] at h1
      obtain ⟨o', c, h5, h6, h7, h8, h9⟩ := h1
      have ho' := h9 trivial
      subst ho'
      have : c = cap := Nat.eq_of_mul_eq_mul_right hsz (by simpa using h7)
      subst this
      exact h5
  obtain ⟨sa, c, us, e1, e2, e3, e4, e5⟩ := src_cells hh h2 hys hm hall hsz
  obtain ⟨v', w', r1, r2, r3, r4⟩ := run_append_src (P := P) (ty := o.type) hh hs ht hi hzz hsize hzs hsz hown e3 e4 e5 hm2 (by rw [hby]; exact hb) (Nat.zero_le _)
  have hblk : ∀ k, blkOf bv = some k ↔ bv.ownBlock = some k := by
    intro k
    rcases hown.2 with ⟨h3, _⟩ | ⟨g, cap, cur, h3, _⟩ <;> rw [h3] <;> simp [blkOf, Value.ownBlock]
  have hst := Step.turn (Bad := Bad) (w' := w') hh (l := l) (bv := bv) (bv' := .slice none 0 0) (o' := .gone) hβ r3.os r3.tape r3.output r3.size
    (fun k hk hne => r3.block k hk (fun e => hne ((hblk k).2 e.symm)))
    (fun k hk => by cases hk)
    (fun u hf => by
      have hs1 : (h.set l .gone)[l]? = some .gone := List.getElem?_set_self (by rw [← hh.len]; exact hl.1)
      refine ⟨by unfold fut; rw [hs1], fun hs => ?_⟩
      unfold objCells at hs
      rw [hs1] at hs
      cases hs)
    (fun hok hkeep => trivial)
  refine sound_value (v := v') ?_ hst ?_
  · simp [execOp, ho, hval, e1, resolve, invoke, builtin, r1]
  have hcells := hst.repL (hrx.append e2)
  have hone : ∀ u ∈ xs ++ us, u.oneCell' = true := fun u hu => by
    rcases List.mem_append.1 hu with hu | hu
    · exact hx1 u hu
    · exact e4 u hu
  have hoo : hasOwn.hasOwnL (vs ++ ys) = false := (plain_storable (l := vs ++ ys) (by rw [List.all_append, hpv, hpy]; rfl)).2
  have hrl : RepL (vs ++ ys) [] [] (FOf Bad (β.set l (.slice none 0 0))) w' (xs ++ us) := RepL.noOwn _ hoo hcells
  have hlen : (vs ++ ys).length = (n' + m) * z' := by rw [List.length_append, hvl, hyl, Nat.add_mul]
  have hg := group_rep hsz (n' + m) hrl hone (by omega)
  have hxl : (xs ++ us).take ((n' + m) * z') = xs ++ us := List.take_of_length_le (by rw [r2.1]; exact Nat.le_refl _)
  rw [hxl] at hg
  have hgl := group_length (z' != 1) z' (n' + m) (vs ++ ys)
  rcases r2.2 with ⟨h3, h4⟩ | ⟨g, cap, cur, h3, _, hgh, h4, _, hcs, htk⟩
  · have hx0 : xs ++ us = [] := List.eq_nil_of_length_eq_zero (by rw [r2.1, h4, Nat.zero_mul])
    refine ⟨none, 0, xs ++ us, by rw [hgl, h4]; exact h3, by rw [hgl, h4]; exact Nat.le_refl _, .inl hsz, hg, fun i u hu => ?_⟩
    rw [hx0] at hu
    simp at hu
  · refine ⟨some ⟨g, 0, none⟩, cap, xs ++ us, by rw [hgl]; exact h3, by rw [hgl]; exact h4, .inl hsz, hg, fun i u hu => ⟨_, rfl, ?_, ?_, hone u (List.mem_of_getElem? hu)⟩⟩
    · have hgk := r4 g (by rw [h3]; rfl)
      rintro (hb' | ⟨j, bv2, hj1, hj2⟩)
      · rcases hgk with h5 | h5
        · exact hh.free l g false ⟨bv, hβ, h5⟩ hb'
        · have := hh.bad.1 false g hb'; omega
      · by_cases hjl : j = l
        · subst hjl
          rw [List.getElem?_set_self hl.1] at hj1
          injection hj1 with hj1
          subst hj1
          cases hj2
        · rw [List.getElem?_set_ne (Ne.symm hjl)] at hj1
          rcases hgk with h5 | h5
          · exact hjl (hh.inj j l g ⟨bv2, hj1, hj2⟩ ⟨bv, hβ, h5⟩)
          · have := hh.lt j g ⟨bv2, hj1, hj2⟩; omega
    · rw [Addr.add_lit', Nat.zero_add, cell_of_row w' g i cur _ _ hgh]
      have : (cur.toList.take ((n' + m) * z'))[i]? = some u := by rw [htk]; exact hu
      rw [List.getElem?_take] at this
      split at this
      · simpa using this
      · cases this

end
end Go.Fw
