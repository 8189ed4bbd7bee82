/-
  A call in a run: what it hands back is taken over. Conditions: stated at each.
-/
import Derived.Test.YtefkoichicalfaaFwL
set_option linter.unusedVariables false
set_option linter.unusedSimpArgs false
set_option linter.unusedSectionVars false
namespace Go.Fw
open Go.RowKit (Below)

theorem owns_append {β βr : List Value} {l k : Nat} : Owns (β ++ βr) l k ↔ Owns β l k ∨ (β.length ≤ l ∧ Owns βr (l - β.length) k) := by
  unfold Owns
  by_cases hl : l < β.length
  · rw [List.getElem?_append_left hl]
    constructor
    · exact .inl
    · rintro (h | ⟨h, _⟩)
      · exact h
      · omega
  · rw [List.getElem?_append_right (by omega)]
    constructor
    · intro h; exact .inr ⟨by omega, h⟩
    · rintro (⟨bv, h, _⟩ | ⟨_, h⟩)
      · have := (List.getElem?_eq_some_iff.1 h).1; omega
      · exact h

theorem FOf_append {Bad : Forb} {β βr : List Value} (g : Bool) (k : Nat) : FOf (FOf Bad β) βr g k ↔ FOf Bad (β ++ βr) g k := by
  unfold FOf
  constructor
  · rintro ((h | ⟨l, h⟩) | ⟨l, h⟩)
    · exact .inl h
    · exact .inr ⟨l, owns_append.2 (.inl h)⟩
    · exact .inr ⟨l + β.length, owns_append.2 (.inr ⟨by omega, by rw [Nat.add_sub_cancel]; exact h⟩)⟩
  · rintro (h | ⟨l, h⟩)
    · exact .inl (.inl h)
    · rcases owns_append.1 h with h | ⟨_, h⟩
      · exact .inl (.inr ⟨l, h⟩)
      · exact .inr ⟨_, h⟩

theorem FOf_append_eq {Bad : Forb} {β βr : List Value} : FOf (FOf Bad β) βr = FOf Bad (β ++ βr) := by
  funext g k
  exact propext (FOf_append g k)

section
variable {P : Program} {Bad : Forb} {β : List Value} {h : Heap} {w : World} {a : Act} {s : Slots} {o : Oper}

theorem Step.adopt (hh : HeapRel Bad β h w) {w' : World} (hb : Below w.heap.size w w') {βr : List Value} {objs : Heap} (hr : HeapRel (FOf Bad β) βr objs w') (hnew : ∀ l k, Owns βr l k → w.heap.size ≤ k) (hno : ∀ o ∈ objs, objNoOwn o) :
    Step Bad β h w (β ++ βr) (h ++ objs) w' := by
  have hkeep : Keep β h (β ++ βr) (h ++ objs) := by
    refine ⟨by simp, fun l hl ver hf => ?_, fun l hl hf hs => ⟨by rw [isMapO_append (by rw [← hh.len]; exact hl)] at hs; exact hs, by simp [List.getD_eq_getElem?_getD, List.getElem?_append_left hl]⟩⟩
    have hl' : l < h.length := by rw [← hh.len]; exact hl
    have e1 : (h ++ objs)[l]? = h[l]? := List.getElem?_append_left hl'
    refine ⟨by unfold fut at hf ⊢; rw [e1]; exact hf, fun hs => ⟨by unfold objCells at hs ⊢; rw [e1] at hs; exact hs, by simp [List.getD_eq_getElem?_getD, List.getElem?_append_left hl]⟩⟩
  have hok : Ok (FOf Bad β) w (FOf Bad (β ++ βr)) w' := by
    intro g k hk hf _
    refine ⟨?_, hb.block k hk⟩
    rw [← FOf_append_eq]
    rintro (h1 | ⟨l, h1⟩)
    · exact hf h1
    · have := hnew l k h1; omega
  have hsince : Since β w (β ++ βr) w' := by
    refine ⟨hb.os, hb.tape, hb.output, hb.size, fun k hk _ => hb.block k hk, fun l k hl => ?_⟩
    rcases owns_append.1 hl with h1 | ⟨_, h1⟩
    · exact .inr ⟨l, h1⟩
    · exact .inl (hnew _ k h1)
  refine ⟨⟨by simp [hh.len, hr.len], ?_, ?_, ?_, hh.bad.below hb, ?_⟩, hkeep, hsince⟩
  · intro l l' k h1 h2
    rcases owns_append.1 h1 with a1 | ⟨a0, a1⟩ <;> rcases owns_append.1 h2 with b1 | ⟨b0, b1⟩
    · exact hh.inj l l' k a1 b1
    · have := hh.lt l k a1; have := hnew _ k b1; omega
    · have := hh.lt l' k b1; have := hnew _ k a1; omega
    · have := hr.inj _ _ k a1 b1; omega
  · intro l k h1
    rcases owns_append.1 h1 with a1 | ⟨_, a1⟩
    · exact Nat.lt_of_lt_of_le (hh.lt l k a1) hb.size
    · exact hr.lt _ k a1
  · intro l k g h1 hbad
    rcases owns_append.1 h1 with a1 | ⟨_, a1⟩
    · exact hh.free l k g a1 hbad
    · exact hr.free _ k g a1 (.inl hbad)
  · intro l o bv ho hbv
    by_cases hl : l < β.length
    · rw [List.getElem?_append_left (by rw [← hh.len]; exact hl)] at ho
      rw [List.getElem?_append_left hl] at hbv
      exact ObjRel.step hok hkeep (fun k _ hk => hb.block k hk) (hh.obj l o bv ho hbv)
    · rw [List.getElem?_append_right (by rw [← hh.len]; omega)] at ho
      rw [List.getElem?_append_right (by omega)] at hbv
      rw [← hh.len] at ho
      have h1 := hr.obj _ o bv ho hbv
      have hn := hno o (List.mem_of_getElem? ho)
      rw [FOf_append_eq] at h1
      cases o with
      | gone => trivial
      | hole => trivial
      | map kk es => exact h1
      | cells ag vs t =>
        obtain ⟨b, arr, h2, h3, h4, h5⟩ := h1
        exact ⟨b, arr, h2, h3, RepL.noOwn vs hn h4, h5⟩
      | row ver sz vs t =>
        obtain ⟨hz, n, xs, h2, h4, h5⟩ := h1
        exact ⟨hz, n, xs, h2, RepL.noOwn vs hn h4, h5⟩

theorem rep_shiftSl {F : Forb} {w' : World} {βr : List Value} {objs : Heap} (hlen : β.length = h.length) {sz l ver off n : Nat} {v : Value} (hr : Rep (.sl sz l ver off n) βr objs F w' v) :
    Rep (.sl sz (l + h.length) ver off n) (β ++ βr) (h ++ objs) F w' v := by
  simp only [Rep] at hr ⊢
  obtain ⟨⟨hl, hf⟩, h1, h2⟩ := hr
  have e1 : (h ++ objs)[l + h.length]? = objs[l]? := by rw [List.getElem?_append_right (by omega), Nat.add_sub_cancel]
  have e2 : (β ++ βr)[l + h.length]? = βr[l]? := by rw [← hlen, List.getElem?_append_right (by omega), Nat.add_sub_cancel]
  refine ⟨⟨by rw [List.length_append, ← hlen]; omega, by unfold fut at hf ⊢; rw [e1]; exact hf⟩, h1, fun hs => ?_⟩
  have := h2 (by unfold objCells at hs ⊢; rw [e1] at hs; exact hs)
  rw [List.getD_eq_getElem?_getD] at this ⊢
  rw [e2]
  exact this

theorem rep_shiftMp {F : Forb} {w' : World} {βr : List Value} {objs : Heap} (hlen : β.length = h.length) {l : Nat} {v : Value} (hr : Rep (.mp l) βr objs F w' v) :
    Rep (.mp (l + h.length)) (β ++ βr) (h ++ objs) F w' v := by
  simp only [Rep] at hr ⊢
  obtain ⟨⟨hl, hf⟩, h1, h2⟩ := hr
  have e1 : (h ++ objs)[l + h.length]? = objs[l]? := by rw [List.getElem?_append_right (by omega), Nat.add_sub_cancel]
  have e2 : (β ++ βr)[l + h.length]? = βr[l]? := by rw [← hlen, List.getElem?_append_right (by omega), Nat.add_sub_cancel]
  refine ⟨⟨by rw [List.length_append, ← hlen]; omega, by unfold fut at hf ⊢; rw [e1]; exact hf⟩, h1, fun hs => ?_⟩
  have := h2 (by unfold isMapO at hs ⊢; rw [e1] at hs; exact hs)
  rw [List.getD_eq_getElem?_getD] at this ⊢
  rw [e2]
  exact this
theorem rep_shift {F : Forb} {w' : World} {βr : List Value} {objs : Heap} (hlen : β.length = h.length) {r : AV} {v : Value} (hk : okRes r = true) (hr : Rep r βr objs F w' v) : Rep (shift h.length r) (β ++ βr) (h ++ objs) F w' v := by
  unfold okRes at hk
  split at hk
  · exact rep_shiftSl hlen hr
  · exact rep_shiftMp hlen hr
  · rename_i sz l ver off n rest
    simp only [Bool.not_eq_true'] at hk
    simp only [shift, Rep] at hr ⊢
    obtain ⟨vs, rfl, hl⟩ := hr
    simp only [RepL] at hl ⊢
    obtain ⟨u, us, rfl, h1, h2⟩ := hl
    exact ⟨_, rfl, u, us, rfl, rep_shiftSl hlen h1, RepL.noOwn rest hk h2⟩
  · rename_i h1 h3 h2
    have hs : shift h.length r = r := by
      cases r <;> try rfl
      · exact absurd rfl (h1 _ _ _ _ _)
      · rename_i vs
        cases vs with
        | nil => rfl
        | cons x rest => cases x <;> first | rfl | exact absurd rfl (h2 _ _ _ _ _ _)
      · exact absurd rfl (h3 _)
    rw [hs]
    exact Rep.noOwn r (by simpa using hk) hr

/-- What is said of a call that works with the caller's own memory. -/
def CallSpecM (P : Program) (f : FuncId) (vals : List AV) (h : Heap) (r : AV) (h' : Heap) : Prop :=
  EnterOk P f ∧ ∀ (Bad : Forb) (β : List Value) (w : World) (us : List Value), HeapRel Bad β h w → RepL vals β h (FOf Bad β) w us →
    Calls P f us.toArray w fun e w' => ∃ v β', e = .returned v ∧ Step Bad β h w β' h' w' ∧ Rep r β' h' (FOf Bad β') w' v

/-- What is asked of the calls. -/
def CallsOk (P : Program) (E : Env) (call : CallFn) : Prop := (∀ f args r objs, pcallOf E call f args = some (r, objs) → CallSpec P f args r objs) ∧ (∀ f vals h r h', doCallM E call h f vals = some (r, h') → CallSpecM P f vals h r h') ∧ (∀ f x h v, fldQ h (E.rd f) x = some v → CallSpecM P f [x] h v h) ∧ ∀ f x h r h', mkK h (E.mkr f) x = some (r, h') → CallSpecM P f [x] h r h'

theorem sound_doCallM {E : Env} {call : CallFn} (hcalls : CallsOk P E call) (hh : HeapRel Bad β h w) {f : FuncId} {vals : List AV} {us : List Value} (hvals : RepL vals β h (FOf Bad β) w us)
    {r : AV} {h' : Heap} (hd : doCallM E call h f vals = some (r, h')) (hrun : EnterOk P f → (execOp a.eval o).run P w = .ok (.enter f us.toArray) w) : OpSound P Bad β h w a o r h' := by
  obtain ⟨hent, hspec⟩ := hcalls.2.1 f vals h r h' hd
  have hcall := hspec Bad β w us hh hvals
  intro K Q hK
  unfold Oper.wp
  rw [hrun hent]
  simp only [Oper.upon]
  refine Calls.mono hcall ?_
  rintro e w' ⟨v, β', rfl, hst, hr⟩
  exact hK v β' w' hst hr

theorem sound_callQ {E : Env} {call : CallFn} (hcalls : CallsOk P E call) (hh : HeapRel Bad β h w) {f : FuncId} {x : AV} {us : List Value} (hvals : RepL [x] β h (FOf Bad β) w us)
    {r : AV} (hd : fldQ h (E.rd f) x = some r) (hrun : EnterOk P f → (execOp a.eval o).run P w = .ok (.enter f us.toArray) w) : OpSound P Bad β h w a o r h := by
  obtain ⟨hent, hspec⟩ := hcalls.2.2.1 f x h r hd
  have hcall := hspec Bad β w us hh hvals
  intro K Q hK
  unfold Oper.wp
  rw [hrun hent]
  simp only [Oper.upon]
  refine Calls.mono hcall ?_
  rintro e w' ⟨v, β', rfl, hst, hr⟩
  exact hK v β' w' hst hr

theorem sound_callA {E : Env} {call : CallFn} (hcalls : CallsOk P E call) (hh : HeapRel Bad β h w) {f : FuncId} {x : AV} {us : List Value} (hvals : RepL [x] β h (FOf Bad β) w us)
    {r : AV} {h' : Heap} (hd : mkK h (E.mkr f) x = some (r, h')) (hrun : EnterOk P f → (execOp a.eval o).run P w = .ok (.enter f us.toArray) w) : OpSound P Bad β h w a o r h' := by
  obtain ⟨hent, hspec⟩ := hcalls.2.2.2 f x h r h' hd
  have hcall := hspec Bad β w us hh hvals
  intro K Q hK
  unfold Oper.wp
  rw [hrun hent]
  simp only [Oper.upon]
  refine Calls.mono hcall ?_
  rintro e w' ⟨v, β', rfl, hst, hr⟩
  exact hK v β' w' hst hr

theorem mapM_snap_rep (hh : HeapRel Bad β h w) {g : Bool} {F2 : Forb} (hF : ∀ g' k, ¬ FOf Bad β g' k → ¬ F2 g' k) {vals vs : List AV} {us : List Value} (hm : snapL g h vals = some vs) (hr : RepL vals β h (FOf Bad β) w us)
    (ho : hasOwn.hasOwnL vals = true → ∀ l k, Owns β l k → objLive h l = true → ¬ F2 g k) : RepL vs [] [] F2 w us :=
  snapL_rep (fun x y v hx hxr hxo => snap_rep hh g hF depth x y v hx hxr hxo) vals vs us hm hr ho

theorem sound_doCall {E : Env} {call : CallFn} (hcalls : CallsOk P E call) (hh : HeapRel Bad β h w) {ro : Bool} {f : FuncId} {vals : List AV} {us : List Value} (hvals : RepL vals β h (FOf Bad β) w us)
    {r : AV} {h' : Heap} (hd : doCall E call ro h f vals = some (r, h')) (hrun : EnterOk P f → (execOp a.eval o).run P w = .ok (.enter f us.toArray) w) : OpSound P Bad β h w a o r h' := by
  unfold doCall at hd
  cases hs : snapL true h vals with
  | none => rw [hs] at hd; cases hd
  | some vs =>
    rw [hs] at hd
    simp only [Option.bind_some] at hd
    cases hp : pcallOf E call f vs with
    | none => rw [hp] at hd; cases hd
    | some res =>
      obtain ⟨r0, objs⟩ := res
      rw [hp] at hd
      simp only [Option.bind_some] at hd
      obtain ⟨hent, hno, hspec⟩ := hcalls.1 f vs r0 objs hp
      split at hd
      · cases hd
      · rename_i hguard
        have key : ∃ Bad' : Forb, BadOk Bad' w ∧ RepL vs [] [] Bad' w us ∧
            ∀ w' βr v, Below w.heap.size w w' → HeapRel Bad' βr objs w' → (∀ l k, Owns βr l k → w.heap.size ≤ k) → Rep r0 βr objs (FOf Bad' βr) w' v → HeapRel (FOf Bad β) βr objs w' ∧ Rep r0 βr objs (FOf (FOf Bad β) βr) w' v := by
          have hlt : ∀ g k, FOf Bad β g k → k < w.heap.size := by
            rintro g k (h1 | ⟨l, h1⟩)
            · exact hh.bad.1 g k h1
            · exact hh.lt l k h1
          by_cases hown : hasOwn.hasOwnL vals = true
          · rw [hown] at hguard
            simp only [Bool.true_and, Bool.not_eq_true', Bool.not_eq_false, Bool.and_eq_true] at hguard
            obtain ⟨hg1, hg2⟩ := hguard
            refine ⟨fun g k => Bad g k ∨ (g = false ∧ ∃ l, Owns β l k), ?_, ?_, ?_⟩
            · refine hh.bad.wide ?_ fun k hk => .inl hk
              rintro g k (h1 | ⟨_, l, h1⟩)
              · exact hh.bad.1 g k h1
              · exact hh.lt l k h1
            · refine mapM_snap_rep hh (g := true) ?_ hs hvals (fun _ l k ho _ => ?_)
              · rintro g k hf (h1 | ⟨_, h1⟩)
                · exact hf (.inl h1)
                · exact hf (.inr h1)
              · rintro (h1 | ⟨h1, _⟩)
                · exact hh.free l k true ho h1
                · cases h1
            · intro w' βr v hb hr1 hn1 hr2
              have hF : ∀ k, ¬ FOf (fun g k => Bad g k ∨ (g = false ∧ ∃ l, Owns β l k)) βr false k → ¬ FOf (FOf Bad β) βr false k := by
                rintro k hf ((h1 | h1) | h1)
                · exact hf (.inl (.inl h1))
                · exact hf (.inl (.inr ⟨rfl, h1⟩))
                · exact hf (.inr h1)
              refine ⟨HeapRel.change hr1 hno ((hh.bad.wide hlt fun k hk => .inl hk).below hb) (fun l k g ho h1 => by have := hlt g k h1; have := hn1 l k ho; omega) ?_, Rep.noG hF r0 hg1 hr2⟩
              rintro ws us' ⟨o, ho, hov⟩ hrr
              have h3 := List.all_eq_true.1 hg2 o ho
              refine RepL.noG hF ws ?_ hrr
              cases o <;> simp only [objNoG] at h3 hov <;> first | (rw [← hov]; exact h3) | cases hov
          · refine ⟨FOf Bad β, hh.bad.wide hlt fun k hk => .inl hk, ?_, fun w' βr v hb hr1 hn1 hr2 => ⟨hr1, hr2⟩⟩
            exact mapM_snap_rep hh (g := true) (fun g k hf => hf) hs hvals (fun h1 => absurd h1 hown)
        obtain ⟨Bad', hb1, hb2, hb3⟩ := key
        have hcall := hspec Bad' w us hb1 hb2
        intro K Q hK
        unfold Oper.wp
        rw [hrun hent]
        simp only [Oper.upon]
        refine Calls.mono hcall ?_
        rintro e w' ⟨v, βr, rfl, hbel, hr1, hn1, hr2⟩
        obtain ⟨hr1, hr2⟩ := hb3 w' βr v hbel hr1 hn1 hr2
        simp only
        by_cases hro : ro = true
        · rw [if_pos hro] at hd
          cases hsn : snap false objs depth r0 with
          | none => rw [hsn] at hd; cases hd
          | some y =>
            rw [hsn] at hd
            injection hd with hd
            injection hd with hd1 hd2
            subst hd1; subst hd2
            refine hK v β w' (Step.quiet hh hbel) (Rep.ofNil y ?_)
            exact snap_rep hr1 false (fun g k hf h1 => hf (.inl h1)) depth r0 y v hsn hr2 (fun _ l k ho _ => hr1.free l k false ho)
        · rw [if_neg hro] at hd
          split at hd
          · rename_i hok
            injection hd with hd
            injection hd with hd1 hd2
            subst hd1; subst hd2
            refine hK v (β ++ βr) w' (Step.adopt hh hbel hr1 hn1 hno) ?_
            rw [← FOf_append_eq]
            exact rep_shift hh.len hok hr2
          · cases hd

end
end Go.Fw
