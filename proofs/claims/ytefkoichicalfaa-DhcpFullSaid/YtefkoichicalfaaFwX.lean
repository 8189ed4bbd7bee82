/-
  Maps: making, looking up, storing, deleting, the length, whether it is nil. Conditions: none.
-/
import Derived.Test.YtefkoichicalfaaFwW
import Derived.Maps.OwnSet
import Derived.Maps.Range
set_option linter.unusedVariables false
set_option linter.unusedSimpArgs false
namespace Go.Fw
open Go.RowKit (Below)
open Go.Maps (Keyed)

/-! ### the entries, and the kit's views of them -/
theorem atKey_mapD (es : Ents) (k : PV) (z : PE) : (mapD es).atKey k.lit z.dat = ((mget k es).getD z).dat := by
  unfold mapD mget
  simp only [DataW.atKey]
  induction es with
  | nil => rfl
  | cons p es ih =>
    rw [List.map_cons, List.find?_cons, List.find?_cons]
    by_cases h : keq p.1 k = true
    · have h' : (datE p).1.sameKey k.lit = true := h
      simp only [h', h]
      rfl
    · have h0 : keq p.1 k = false := by simpa using h
      have h' : (datE p).1.sameKey k.lit = false := h0
      simp only [h', h0]
      exact ih
theorem has_mapD (es : Ents) (k : PV) : Maps.has (mapD es) k.lit = (mget k es).isSome := by
  unfold mapD mget
  rw [Maps.has_eq]
  induction es with
  | nil => rfl
  | cons p es ih =>
    rw [List.map_cons, List.any_cons, List.find?_cons, ih]
    by_cases h : keq p.1 k = true
    · have h' : (datE p).1.sameKey k.lit = true := h
      simp only [h', h, Bool.true_or, Option.map_some, Option.isSome_some]
    · have h0 : keq p.1 k = false := by simpa using h
      have h' : (datE p).1.sameKey k.lit = false := h0
      simp only [h', h0, Bool.false_or]
theorem del_mapD (es : Ents) (k : PV) : (mapD es).del k.lit = mapD (mdelE k es) := by
  unfold mapD mdelE
  simp only [DataW.del]
  congr 1
  induction es with
  | nil => rfl
  | cons p es ih =>
    rw [List.map_cons, List.filter_cons, List.filter_cons]
    by_cases h : keq p.1 k = true
    · have h' : (datE p).1.sameKey k.lit = true := h
      simp only [h', h, Bool.not_true, Bool.false_eq_true, if_false]
      exact ih
    · have h0 : keq p.1 k = false := by simpa using h
      have h' : (datE p).1.sameKey k.lit = false := h0
      simp only [h', h0, Bool.not_false, if_true, List.map_cons]
      rw [ih]
theorem ins_mapD (x : PV × PE) : ∀ es : Ents, DataW.insert (datE x) (es.map datE) = (minsE x es).map datE
  | [] => rfl
  | y :: r => by
    rw [List.map_cons]
    unfold DataW.insert minsE
    by_cases h : x.1.lit.before y.1.lit = true
    · have h' : (datE x).1.before (datE y).1 = true := h
      simp only [h, h', if_true, List.map_cons]
    · have h' : ¬ (datE x).1.before (datE y).1 = true := h
      simp only [h, h', if_false, List.map_cons, ins_mapD x r, Bool.false_eq_true]
theorem put_mapD (es : Ents) (k : PV) (v : PE) : (mapD es).put k.lit v.dat = mapD (mputE k v es) := by
  have h := del_mapD es k
  unfold mapD at h ⊢
  simp only [DataW.del, DataW.map.injEq] at h
  simp only [DataW.put]
  rw [h]
  unfold mputE
  rw [← ins_mapD]
  rfl
theorem size_mapD (es : Ents) : Maps.size (mapD es) = es.length := by
  unfold mapD
  rw [Maps.size_eq, List.length_map]
theorem mem_mins (x : PV × PE) : ∀ (es : Ents) (p : PV × PE), p ∈ minsE x es ↔ p = x ∨ p ∈ es
  | [], p => by simp [minsE]
  | y :: r, p => by
    unfold minsE
    split
    · simp
    · simp only [List.mem_cons, mem_mins x r]
      constructor
      · rintro (h | h | h)
        · exact .inr (.inl h)
        · exact .inl h
        · exact .inr (.inr h)
      · rintro (h | h | h)
        · exact .inr (.inl h)
        · exact .inl h
        · exact .inr (.inr h)
theorem len_mins (x : PV × PE) : ∀ es : Ents, (minsE x es).length = es.length + 1
  | [] => rfl
  | y :: r => by
    unfold minsE
    split
    · rfl
    · rw [List.length_cons, len_mins x r, List.length_cons]
/-! ### keys and elements -/
def kindB (P : Program) (k : TypeId) : Kk → Bool
  | .str => match P.underlying k with
    | some .string => true
    | _ => false
  | .int q => match P.underlying k with
    | some (.int q') => decide (q' = q)
    | _ => false
theorem kindB_spec {P : Program} {k : TypeId} {kk : Kk} (h : kindB P k kk = true) : kindOk P k kk := by
  cases kk <;> simp only [kindB] at h <;> split at h <;> simp only [kindOk, reduceCtorEq] at h ⊢
  · assumption
  · rename_i q q' hq
    rw [hq, of_decide_eq_true h]
theorem keyed {P : Program} {k : TypeId} {kk : Kk} (h : kindOk P k kk) : Keyed P k := by
  cases kk with
  | str => exact Maps.string_keyed h
  | int q => exact Maps.int_keyed h
theorem keyOf_val {P : Program} {k : TypeId} {kk : Kk} (h : kindOk P k kk) {x : PV} (hx : kk.has x = true) : keyOf P k x.val = some x.lit := by
  cases kk <;> cases x <;> simp only [Kk.has, Bool.and_eq_true, decide_eq_true_eq, reduceCtorEq, Bool.false_eq_true] at hx <;> simp only [kindOk] at h <;> simp only [keyOf, mapKey, h, PV.val, PV.lit]
  · rw [if_pos (by show (⟨_⟩ : ByteArray).size ≤ _; simpa [ByteArray.size] using hx)]
  · obtain ⟨rfl, hw⟩ := hx
    rw [if_pos ⟨rfl, hw⟩]
def vE : Value → Option PE
  | .agg a => (a.toList.mapM vP).map (PE.mk true)
  | v => (vP v).map fun x => ⟨false, [x]⟩
theorem vE_inv {v : Value} {e : PE} (h : vE v = some e) : v = e.val ∧ e.wf = true := by
  have one : ∀ {x : PV}, vP v = some x → e = ⟨false, [x]⟩ → v = e.val ∧ e.wf = true := fun h1 h2 => by
    rw [h2]
    exact ⟨vP_inv h1, rfl⟩
  cases v with
  | agg a =>
    simp only [vE] at h
    cases h1 : a.toList.mapM vP with
    | none => rw [h1] at h; cases h
    | some l =>
      rw [h1] at h
      injection h with h
      rw [← h]
      refine ⟨?_, rfl⟩
      simp only [PE.val, if_true]
      rw [← mapM_vP_inv h1]
  | bool b => simp only [vE, vP, Option.map_some, Option.some.injEq] at h; exact one (x := .b b) rfl h.symm
  | int k n => simp only [vE, vP, Option.map_some, Option.some.injEq] at h; exact one (x := .i k n) rfl h.symm
  | string s => simp only [vE, vP, Option.map_some, Option.some.injEq] at h; exact one rfl h.symm
  | _ => simp only [vE, vP, Option.map_none, reduceCtorEq] at h

section
variable {P : Program} {Bad : Forb} {β : List Value} {h : Heap} {w : World} {a : Act} {s : Slots} {o : Oper}

theorem rep_PV (x : PV) (β : List Value) (h : Heap) (F : Forb) (w : World) : Rep x.av β h F w x.val := by
  cases x <;> simp only [PV.av, PV.val, Rep]
theorem val_one (x : PV) : x.val.oneCell' = true := by cases x <;> rfl
theorem rep_PE {e : PE} (he : e.wf = true) (β : List Value) (h : Heap) (F : Forb) (w : World) : Rep e.av β h F w e.val := by
  obtain ⟨ag, cs⟩ := e
  cases ag with
  | true =>
    simp only [PE.av, PE.val, if_true, Rep]
    refine ⟨cs.map PV.val, rfl, ?_, fun u hu => ?_⟩
    · clear he
      induction cs with
      | nil => rfl
      | cons x l ih => exact ⟨_, _, rfl, rep_PV x β h F w, ih⟩
    · obtain ⟨x, _, rfl⟩ := List.mem_map.1 hu
      exact val_one x
  | false =>
    match cs, he with
    | [x], _ => exact rep_PV x β h F w
    | [], he => simp [PE.wf] at he
    | _ :: _ :: _, he => simp [PE.wf] at he
theorem avP_rep {x : AV} {p : PV} (hp : avP x = some p) {F : Forb} {v : Value} (hr : Rep x β h F w v) : v = p.val := by
  cases x <;> simp only [avP, Option.some.injEq, reduceCtorEq] at hp <;> subst hp <;> simp only [Rep] at hr <;> subst hr <;> simp [PV.val]
theorem avPs_rep : ∀ {l : List AV} {ps : List PV}, l.mapM avP = some ps → ∀ {F : Forb} {vs : List Value}, RepL l β h F w vs → vs = ps.map PV.val
  | [], ps, hp, F, vs, hr => by simp at hp; subst hp; simp only [RepL] at hr; subst hr; rfl
  | x :: l, ps, hp, F, vs, hr => by
    rw [List.mapM_cons] at hp
    cases h1 : avP x with
    | none => rw [h1] at hp; cases hp
    | some p =>
      cases h2 : l.mapM avP with
      | none => rw [h1, h2] at hp; cases hp
      | some ps' =>
        rw [h1, h2] at hp
        injection hp with hp
        subst hp
        simp only [RepL] at hr
        obtain ⟨u, us, rfl, hu, hus⟩ := hr
        rw [List.map_cons, avP_rep h1 hu, avPs_rep h2 hus]
theorem avE_rep {x : AV} {e : PE} (he : avE x = some e) {F : Forb} {v : Value} (hr : Rep x β h F w v) : v = e.val ∧ e.wf = true := by
  have one : ∀ {p : PV}, avP x = some p → e = ⟨false, [p]⟩ → v = e.val ∧ e.wf = true := fun h1 h2 => by
    rw [h2]
    exact ⟨avP_rep h1 hr, rfl⟩
  cases x with
  | agg cs =>
    simp only [avE] at he
    cases h1 : cs.mapM avP with
    | none => rw [h1] at he; cases he
    | some l =>
      rw [h1] at he
      injection he with he
      subst he
      simp only [Rep] at hr
      obtain ⟨vs, rfl, hl, _⟩ := hr
      refine ⟨?_, rfl⟩
      simp only [PE.val, if_true]
      rw [avPs_rep h1 hl]
  | bool b => simp only [avE, avP, Option.map_some, Option.some.injEq] at he; exact one rfl he.symm
  | int k n => simp only [avE, avP, Option.map_some, Option.some.injEq] at he; exact one rfl he.symm
  | str t => simp only [avE, avP, Option.map_some, Option.some.injEq] at he; exact one rfl he.symm
  | _ => simp only [avE, avP, Option.map_none, reduceCtorEq] at he
/-- A map, as the evaluation sees it, is nil or a block with its entries. -/
theorem ents_rep (hh : HeapRel Bad β h w) {kk : Kk} {x : AV} {es : Ents} (he : entsOf h kk x = some es) {v : Value} (hr : Rep x β h (FOf Bad β) w v) :
    (v = .map none ∧ es = []) ∨ ∃ b, v = .map (some b) ∧ mapIs w b kk es := by
  cases x <;> simp only [entsOf, reduceCtorEq] at he
  case nilm => injection he with he; exact .inl ⟨hr, he.symm⟩
  case rm g q es' =>
    split at he
    · rename_i hq
      injection he with he
      subst he; subst hq
      simp only [Rep] at hr
      obtain ⟨b, h1, _, h3⟩ := hr
      exact .inr ⟨b, h1, h3⟩
    · cases he
  case mp l =>
    split at he
    · rename_i q es' hobj
      split at he
      · rename_i hq
        injection he with he
        subst he; subst hq
        simp only [Rep] at hr
        obtain ⟨hl, _, hc⟩ := hr
        have hβ : β[l]? = some (β.getD l default) := by rw [List.getD_eq_getElem?_getD, List.getElem?_eq_getElem hl.1]; rfl
        obtain ⟨b, hb, hm⟩ := hh.obj l _ _ hobj hβ
        exact .inr ⟨b, by rw [hc (by simp [isMapO, hobj]), hb], hm⟩
      · cases he
    · cases he
def mapTy (P : Program) (t : TypeId) : Option (TypeId × TypeId) :=
  match P.underlying t with
  | some (.map k e) => some (k, e)
  | _ => none
theorem mapTy_spec {t k e : TypeId} (h : mapTy P t = some (k, e)) : P.underlying t = some (.map k e) := by
  unfold mapTy at h
  split at h
  · rename_i h1; injection h with h; injection h with h2 h3; rw [h1, h2, h3]
  · cases h
def zeroP (P : Program) (e : TypeId) (z : PE) : Bool := (P.info? e).any fun i => decide ((i.zero.bind vE) = some z)
theorem zeroP_spec {e : TypeId} {z : PE} (h : zeroP P e z = true) : (∀ w : World, (zeroValue e).run P w = .ok z.val w) ∧ z.wf = true := by
  unfold zeroP at h
  cases hi : P.info? e with
  | none => rw [hi] at h; cases h
  | some i =>
    rw [hi] at h
    have h := of_decide_eq_true h
    cases hz : i.zero with
    | none => rw [hz] at h; cases h
    | some v =>
      rw [hz] at h
      obtain ⟨h1, h2⟩ := vE_inv (show vE v = some z from h)
      refine ⟨fun w => ?_, h2⟩
      simp [zeroValue, typeInfo, hi, hz, ← h1]
theorem sound_look (hh : HeapRel Bad β h w) (hs : SlotsRep β h (FOf Bad β) w s a) {ok : Bool} {t kt et : TypeId} {m' k' : Operand} {m k : X} {kk : Kk} {z : PE} (ho : o.op = .lookup t m' k' ok) (ht : mapTy P t = some (kt, et)) (hk : kindB P kt kk = true) (hz : zeroP P et z = true)
    (hc : chkX m m' = true) (hc2 : chkX k k' = true) {es : Ents} (he : entsOf h kk (m.ev s) = some es) {p : PV} (hp : avP (k.ev s) = some p) (hkp : kk.has p = true) :
    OpSound P Bad β h w a o (if ok then .tup [((mget p es).getD z).av, .bool (mget p es).isSome] else ((mget p es).getD z).av) h := by
  have hkd := kindB_spec hk
  have hty := mapTy_spec ht
  obtain ⟨hzr, hzw⟩ := zeroP_spec hz
  have hkey : keyOf P kt (a.eval k') = some p.lit := by rw [avP_rep hp (X_rep hs hc2)]; exact keyOf_val hkd hkp
  have hR : rdV z.val = some (z.dat, []) := rdV_val hzw
  rcases ents_rep hh he (X_rep hs hc) with ⟨hm, rfl⟩ | ⟨b, hm, hmap⟩
  · have hrun := Maps.look_nil ok (keyed hkd) hty (hzr w) hkey
    refine sound_pure hh (v := if ok then .tuple #[z.val, .bool false] else z.val) ?_ ?_
    · simp only [execOp, ho, hm, Sem.run_bind, hrun, Result.andThen]
      cases ok <;> rfl
    · cases ok
      · exact rep_PE hzw _ _ _ _
      · exact ⟨[z.val, .bool false], rfl, _, _, rfl, rep_PE hzw _ _ _ _, _, _, rfl, rfl, rfl⟩
  · have hown := hmap.own hkd
    have hwf : ((mget p es).getD z).wf = true := by
      unfold mget
      cases hf : es.find? (fun q => keq q.1 p) with
      | none => exact hzw
      | some q => exact hmap.1 q (List.mem_of_find?_eq_some hf)
    cases ok with
    | false =>
      obtain ⟨v, ps, hrun, hv⟩ := hown.lookup (keyed hkd) hty (hzr w) hR hkey
      rw [atKey_mapD] at hv
      have hv' := rdV_inv hwf hv
      subst hv'
      refine sound_pure hh (v := ((mget p es).getD z).val) ?_ (rep_PE hwf _ _ _ _)
      simp only [execOp, ho, hm, Sem.run_bind, hrun, Result.andThen]
      rfl
    | true =>
      obtain ⟨v, ps, hrun, hv⟩ := hown.look_ok (keyed hkd) hty (hzr w) hR hkey
      rw [atKey_mapD] at hv
      rw [has_mapD] at hrun
      have hv' := rdV_inv hwf hv
      subst hv'
      refine sound_pure hh (v := .tuple #[((mget p es).getD z).val, .bool (mget p es).isSome]) ?_ ⟨[_, _], rfl, _, _, rfl, rep_PE hwf _ _ _ _, _, _, rfl, rfl, rfl⟩
      simp only [execOp, ho, hm, Sem.run_bind, hrun, Result.andThen]
      rfl
/-- No more entries than are told. -/
theorem own_tight {k : TypeId} {b n : Nat} {es : Ents} (h : w.ownsMap P k rdV b n (mapD es)) : w.ownsMap P k rdV b es.length (mapD es) := by
  obtain ⟨es', c, h1, F, h2, h3⟩ := h
  refine ⟨es', c, h1, F, ?_, h3⟩
  have := congrArg Maps.size h3
  rw [size_mapD] at this
  simp only [Maps.size, length_sorted, List.length_map, Array.length_toList] at this
  omega
/-- A map of the run's own has turned. -/
theorem Step.mapTurn (hh : HeapRel Bad β h w) {l b : Nat} {kk : Kk} {es es' : Ents} (hobj : h[l]? = some (.map kk es)) (hβ : β[l]? = some (.map (some b))) {w' : World} (hg : w.grownBy w' (some b)) (hm : mapIs w' b kk es') :
    Step Bad β h w β (h.set l (.map kk es')) w' := by
  have hlt : l < h.length := (List.getElem?_eq_some_iff.1 hobj).1
  have hs1 : (h.set l (.map kk es'))[l]? = some (.map kk es') := List.getElem?_set_self hlt
  have key := Step.turn (Bad := Bad) (h := h) (w := w) (w' := w') hh (l := l) (bv := .map (some b)) (bv' := .map (some b)) (o' := .map kk es') hβ hg.os hg.tape hg.output hg.size
    (fun k hk hne => hg.block k hk (fun e => hne (by rw [← e]; rfl)))
    (fun k hk => ⟨.inl hk, by injection hk with hk; subst hk; exact hm.lt⟩)
    (fun ver hf => by
      refine ⟨?_, fun hs => ?_⟩
      · unfold fut at hf ⊢
        rw [hobj] at hf
        rw [hs1]
        exact hf
      · unfold objCells at hs
        rw [hs1] at hs
        cases hs)
    (fun _ _ => ⟨b, rfl, hm⟩) (hmap := fun _ => ⟨by simp [isMapO, hobj], rfl⟩)
  rwa [list_set_self hβ] at key
theorem mp_own (hh : HeapRel Bad β h w) {l : Nat} {kk : Kk} {es : Ents} (hobj : h[l]? = some (.map kk es)) {v : Value} (hr : Rep (.mp l) β h (FOf Bad β) w v) : ∃ b, v = .map (some b) ∧ β[l]? = some (.map (some b)) ∧ mapIs w b kk es := by
  simp only [Rep] at hr
  obtain ⟨hl, _, hc⟩ := hr
  have hβ : β[l]? = some (β.getD l default) := by rw [List.getD_eq_getElem?_getD, List.getElem?_eq_getElem hl.1]; rfl
  obtain ⟨b, hb, hm⟩ := hh.obj l _ _ hobj hβ
  exact ⟨b, by rw [hc (by simp [isMapO, hobj]), hb], by rw [hβ, hb], hm⟩
theorem sound_mapUpd (hh : HeapRel Bad β h w) (hs : SlotsRep β h (FOf Bad β) w s a) {t kt et : TypeId} {m' k' v' : Operand} {m k v : X} {kk : Kk} (ho : o.op = .mapUpdate t m' k' v') (ht : mapTy P t = some (kt, et)) (hk : kindB P kt kk = true)
    (hc : chkX m m' = true) (hc2 : chkX k k' = true) (hc3 : chkX v v' = true) {l : Nat} (hm : m.ev s = .mp l) {es : Ents} (hobj : h[l]? = some (.map kk es)) {p : PV} (hp : avP (k.ev s) = some p) (hkp : kk.has p = true) {e : PE} (he : avE (v.ev s) = some e) (hlen : es.length ≤ 1048576) :
    OpSound P Bad β h w a o .undef (h.set l (.map kk (mputE p e es))) := by
  have hkd := kindB_spec hk
  have hty := mapTy_spec ht
  have hkey : keyOf P kt (a.eval k') = some p.lit := by rw [avP_rep hp (X_rep hs hc2)]; exact keyOf_val hkd hkp
  obtain ⟨hv, hvw⟩ := avE_rep he (X_rep hs hc3)
  have hmr := X_rep hs hc
  rw [hm] at hmr
  obtain ⟨b, hmv, hβ, hmap⟩ := mp_own hh hobj hmr
  have hR : rdV (a.eval v') = some (e.dat, []) := by rw [hv]; exact rdV_val hvw
  obtain ⟨w', hrun, hown, htu⟩ := (hmap.own hkd).store (keyed hkd) hty (by unfold maxLen; omega) hkey hR
  rw [put_mapD] at hown
  refine sound_skip (w' := w') ?_ (Step.mapTurn hh hobj hβ htu.grown ⟨fun q hq => ?_, P, kt, hkd, own_tight hown⟩)
  · simp only [execOp, ho, hmv, Sem.run_bind, hrun, Result.andThen]
    rfl
  · rcases (mem_mins _ _ _).1 hq with h1 | h1
    · rw [h1]; exact hvw
    · exact hmap.1 q (List.mem_filter.1 h1).1
theorem sound_mdel (hh : HeapRel Bad β h w) (hs : SlotsRep β h (FOf Bad β) w s a) {t kt kt' et : TypeId} {m' k' : Operand} {m k : X} {kk : Kk} (ho : o.op = .call { callee := .builtin .delete, args := #[m', k'], argTypes := #[t, kt'] }) (ht : mapTy P t = some (kt, et)) (hk : kindB P kt kk = true) (hkt : kt' = kt)
    (hc : chkX m m' = true) (hc2 : chkX k k' = true) {l : Nat} (hm : m.ev s = .mp l) {es : Ents} (hobj : h[l]? = some (.map kk es)) {p : PV} (hp : avP (k.ev s) = some p) (hkp : kk.has p = true) :
    OpSound P Bad β h w a o (.tup []) (h.set l (.map kk (mdelE p es))) := by
  subst hkt
  have hkd := kindB_spec hk
  have hty := mapTy_spec ht
  have hkey : keyOf P kt' (a.eval k') = some p.lit := by rw [avP_rep hp (X_rep hs hc2)]; exact keyOf_val hkd hkp
  have hmr := X_rep hs hc
  rw [hm] at hmr
  obtain ⟨b, hmv, hβ, hmap⟩ := mp_own hh hobj hmr
  obtain ⟨w', hrun, hown, htu⟩ := (hmap.own hkd).drop (keyed hkd) hty hkey o.type
  rw [del_mapD] at hown
  refine sound_value (v := .tuple #[]) (w' := w') ?_ (Step.mapTurn hh hobj hβ htu.grown ⟨fun q hq => hmap.1 q (List.mem_filter.1 hq).1, P, kt', hkd, own_tight hown⟩) ⟨[], rfl, rfl⟩
  simp [execOp, ho, hmv, resolve, invoke, builtin, hrun, Result.andThen]
theorem sound_mdel0 (hh : HeapRel Bad β h w) (hs : SlotsRep β h (FOf Bad β) w s a) {t kt kt' et : TypeId} {m' k' : Operand} {m k : X} {kk : Kk} (ho : o.op = .call { callee := .builtin .delete, args := #[m', k'], argTypes := #[t, kt'] }) (ht : mapTy P t = some (kt, et)) (hk : kindB P kt kk = true) (hkt : kt' = kt)
    (hc : chkX m m' = true) (hc2 : chkX k k' = true) (hm : m.ev s = .nilm) {p : PV} (hp : avP (k.ev s) = some p) (hkp : kk.has p = true) : OpSound P Bad β h w a o (.tup []) h := by
  subst hkt
  have hkd := kindB_spec hk
  have hkey : keyOf P kt' (a.eval k') = some p.lit := by rw [avP_rep hp (X_rep hs hc2)]; exact keyOf_val hkd hkp
  have hmr := X_rep hs hc
  rw [hm] at hmr
  have hmv : a.eval m' = .map none := hmr
  have hrun := Maps.drop_nil (w := w) (keyed hkd) (mapTy_spec ht) hkey o.type
  refine sound_pure hh (v := .tuple #[]) ?_ ⟨[], rfl, rfl⟩
  simp [execOp, ho, hmv, resolve, invoke, builtin, hrun, Result.andThen]
theorem sound_mlen (hh : HeapRel Bad β h w) (hs : SlotsRep β h (FOf Bad β) w s a) {t kt et : TypeId} {m' : Operand} {m : X} (ho : o.op = .call { callee := .builtin .len, args := #[m'], argTypes := #[t] }) (ht : mapTy P t = some (kt, et)) {kk : Kk} (hk : kindB P kt kk = true)
    (hc : chkX m m' = true) {es : Ents} (he : entsOf h kk (m.ev s) = some es) : OpSound P Bad β h w a o (.int .i64 (es.length : Int)) h := by
  have hty := mapTy_spec ht
  rcases ents_rep hh he (X_rep hs hc) with ⟨hm, rfl⟩ | ⟨b, hm, hmap⟩
  · have hrun := Maps.len_nil (w := w) hty o.type
    refine sound_pure hh (v := .int .i64 0) ?_ rfl
    simp [execOp, ho, hm, resolve, invoke, builtin, hrun, Result.andThen]
  · have hrun := (hmap.own (kindB_spec hk)).len hty o.type
    rw [size_mapD] at hrun
    refine sound_pure hh (v := .int .i64 (es.length : Int)) ?_ rfl
    simp [execOp, ho, hm, resolve, invoke, builtin, hrun, Result.andThen]
theorem sound_mkMap (hh : HeapRel Bad β h w) {t kt et : TypeId} {kk : Kk} (ho : o.op = .makeMap t none) (ht : mapTy P t = some (kt, et)) (hk : kindB P kt kk = true) : OpSound P Bad β h w a o (.mp h.length) (h ++ [.map kk []]) := by
  have hkd := kindB_spec hk
  refine sound_value (v := .map (some w.heap.size)) (w' := w.alloc (.map #[] 0)) (β' := β ++ [.map (some w.heap.size)]) ?_
    (Step.alloc hh (below_alloc w _) (fun k hk => by simp [blkOf] at hk; subst hk; simp) fun _ _ => ⟨w.heap.size, rfl, (fun p hp => by cases hp), P, kt, hkd, World.ownsMap_made w P kt rdV⟩) ?_
  · simp [execOp, ho, show (Instr.makeMap t none).run P w = .ok (.map (some w.heap.size)) (w.alloc (.map #[] 0)) from rfl]
  · refine ⟨⟨by simp [hh.len], by simp [fut]⟩, ⟨_, rfl⟩, fun _ => ?_⟩
    rw [List.getD_eq_getElem?_getD, ← hh.len, List.getElem?_append_right (Nat.le_refl _)]
    simp
theorem run_equal_map_nil {t k e : TypeId} (ht : P.underlying t = some (.map k e)) (p : Option Nat) : (Op.equal t (.map p) (.map none)).run P w = .ok p.isNone w := by
  have h1 : ∀ d : Nat, (Op.equalIn (d + 1) t (.map p) (.map none)).run P w = .ok p.isNone w := fun d => by cases p <;> simp [Op.equalIn, run_underlying ht]
  exact h1 9999
theorem sound_eqNlm (hh : HeapRel Bad β h w) (hs : SlotsRep β h (FOf Bad β) w s a) {neg : Bool} {t u : TypeId} {op : BinOp} {m' : Operand} {m : X} (hop : op = if neg then .neq else .eql) (ho : o.op = .binOp op t m' (.const (.map none)) u) {kt et : TypeId} (ht : mapTy P t = some (kt, et))
    (hc : chkX m m' = true) {b : Bool} (hb : nilMapV h (m.ev s) = some b) : OpSound P Bad β h w a o (.bool (if neg then !b else b)) h := by
  have h1 := X_rep hs hc
  have hp : ∃ p : Option Nat, a.eval m' = .map p ∧ p.isNone = b := by
    generalize hxv : m.ev s = xv at h1 hb
    cases xv <;> simp only [nilMapV, reduceCtorEq, Option.some.injEq] at hb
    case nilm => subst hb; exact ⟨none, h1, rfl⟩
    case rm g kk es => subst hb; obtain ⟨b, h2, _⟩ := h1; exact ⟨some b, h2, rfl⟩
    case mp l =>
      split at hb
      · rename_i kk es hobj
        injection hb with hb
        subst hb
        obtain ⟨b, h2, _⟩ := mp_own hh hobj h1
        exact ⟨some b, h2, rfl⟩
      · cases hb
  obtain ⟨p, h2, h3⟩ := hp
  have hev : a.eval (.const (.map none)) = .map none := rfl
  have he := run_equal_map_nil (w := w) (mapTy_spec ht) p
  rw [h3] at he
  have hg : ∀ op : BinOp, (eqGuard op t m' (.const (.map none)) (.map p) (.map none)).run P w = .ok () w := fun op => by cases op <;> simp [eqGuard]
  subst hop
  cases neg
  · refine sound_pure hh (v := .bool b) ?_ rfl
    simp only [Bool.false_eq_true, if_false] at ho
    simp [execOp, ho, h2, hev, hg, binOp, he]
  · refine sound_pure hh (v := .bool (!b)) ?_ rfl
    simp only [if_true] at ho
    simp [execOp, ho, h2, hev, hg, binOp, he]
end
end Go.Fw
