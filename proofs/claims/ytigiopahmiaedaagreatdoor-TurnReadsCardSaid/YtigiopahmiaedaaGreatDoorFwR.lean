/-
  A call in a run: what it hands back is taken over. Conditions: stated at each.
  More operations: a string out of bytes, the least and the greatest, the room of a nil slice, a row cut short. Conditions: stated at each.
-/
import Derived.Test.YtigiopahmiaedaaGreatDoorFwL
import Derived.Laws.BytesString
import Derived.Laws.Cells
set_option linter.unusedVariables false
set_option linter.unusedSimpArgs false
set_option linter.unusedSectionVars false
namespace Go.Fw
open Go.RowKit (Below)

theorem owns_append {β βr : List Value} {l k : Nat} : Owns (β ++ βr) l k ↔ Owns β l k ∨ (β.length ≤ l ∧ Owns βr (l - β.length) k) := by
  unfold Owns
  by_cases hl : l < β.length
  · rw [List.getElem?_append_left hl]
    constructor
    · exact .inl
    · rintro (h | ⟨h, _⟩)
      · exact h
      · omega
  · rw [List.getElem?_append_right (by omega)]
    constructor
    · intro h; exact .inr ⟨by omega, h⟩
    · rintro (⟨bv, h, _⟩ | ⟨_, h⟩)
      · have := (List.getElem?_eq_some_iff.1 h).1; omega
      · exact h

theorem FOf_append {Bad : Forb} {β βr : List Value} (g : Bool) (k : Nat) : FOf (FOf Bad β) βr g k ↔ FOf Bad (β ++ βr) g k := by
  unfold FOf
  constructor
  · rintro ((h | ⟨l, h⟩) | ⟨l, h⟩)
    · exact .inl h
    · exact .inr ⟨l, owns_append.2 (.inl h)⟩
    · exact .inr ⟨l + β.length, owns_append.2 (.inr ⟨by omega, by rw [Nat.add_sub_cancel]; exact h⟩)⟩
  · rintro (h | ⟨l, h⟩)
    · exact .inl (.inl h)
    · rcases owns_append.1 h with h | ⟨_, h⟩
      · exact .inl (.inr ⟨l, h⟩)
      · exact .inr ⟨_, h⟩

theorem FOf_append_eq {Bad : Forb} {β βr : List Value} : FOf (FOf Bad β) βr = FOf Bad (β ++ βr) := by
  funext g k
  exact propext (FOf_append g k)

section
variable {P : Program} {Bad : Forb} {β : List Value} {h : Heap} {w : World} {a : Act} {s : Slots} {o : Oper}

theorem Step.adopt (hh : HeapRel Bad β h w) {w' : World} (hb : Below w.heap.size w w') {βr : List Value} {objs : Heap} (hr : HeapRel (FOf Bad β) βr objs w') (hnew : ∀ l k, Owns βr l k → w.heap.size ≤ k) (hno : ∀ o ∈ objs, objNoOwn o) :
    Step Bad β h w (β ++ βr) (h ++ objs) w' := by
  have hkeep : Keep β h (β ++ βr) (h ++ objs) := by
    refine ⟨by simp, fun l hl ver hf => ?_⟩
    have hl' : l < h.length := by rw [← hh.len]; exact hl
    have e1 : (h ++ objs)[l]? = h[l]? := List.getElem?_append_left hl'
    refine ⟨by unfold fut at hf ⊢; rw [e1]; exact hf, fun hs => ⟨by unfold objCells at hs ⊢; rw [e1] at hs; exact hs, by simp [List.getD_eq_getElem?_getD, List.getElem?_append_left hl]⟩⟩
  have hok : Ok (FOf Bad β) w (FOf Bad (β ++ βr)) w' := by
    intro g k hk hf
    refine ⟨?_, hb.block k hk⟩
    rw [← FOf_append_eq]
    rintro (h1 | ⟨l, h1⟩)
    · exact hf h1
    · have := hnew l k h1; omega
  have hsince : Since β w (β ++ βr) w' := by
    refine ⟨hb.os, hb.tape, hb.output, hb.size, fun k hk _ => hb.block k hk, fun l k hl => ?_⟩
    rcases owns_append.1 hl with h1 | ⟨_, h1⟩
    · exact .inr ⟨l, h1⟩
    · exact .inl (hnew _ k h1)
  refine ⟨⟨by simp [hh.len, hr.len], ?_, ?_, ?_, hh.bad.below hb, ?_⟩, hkeep, hsince⟩
  · intro l l' k h1 h2
    rcases owns_append.1 h1 with a1 | ⟨a0, a1⟩ <;> rcases owns_append.1 h2 with b1 | ⟨b0, b1⟩
    · exact hh.inj l l' k a1 b1
    · have := hh.lt l k a1; have := hnew _ k b1; omega
    · have := hh.lt l' k b1; have := hnew _ k a1; omega
    · have := hr.inj _ _ k a1 b1; omega
  · intro l k h1
    rcases owns_append.1 h1 with a1 | ⟨_, a1⟩
    · exact Nat.lt_of_lt_of_le (hh.lt l k a1) hb.size
    · exact hr.lt _ k a1
  · intro l k g h1 hbad
    rcases owns_append.1 h1 with a1 | ⟨_, a1⟩
    · exact hh.free l k g a1 hbad
    · exact hr.free _ k g a1 (.inl hbad)
  · intro l o bv ho hbv
    by_cases hl : l < β.length
    · rw [List.getElem?_append_left (by rw [← hh.len]; exact hl)] at ho
      rw [List.getElem?_append_left hl] at hbv
      exact ObjRel.step hok hkeep (fun k _ hk => hb.block k hk) (hh.obj l o bv ho hbv)
    · rw [List.getElem?_append_right (by rw [← hh.len]; omega)] at ho
      rw [List.getElem?_append_right (by omega)] at hbv
      rw [← hh.len] at ho
      have h1 := hr.obj _ o bv ho hbv
      have hn := hno o (List.mem_of_getElem? ho)
      rw [FOf_append_eq] at h1
      cases o with
      | gone => trivial
      | cells ag vs t =>
        obtain ⟨b, arr, h2, h3, h4, h5⟩ := h1
        exact ⟨b, arr, h2, h3, RepL.noOwn vs hn h4, h5⟩
      | row ver sz vs t =>
        obtain ⟨hz, n, xs, h2, h4, h5⟩ := h1
        exact ⟨hz, n, xs, h2, RepL.noOwn vs hn h4, h5⟩

theorem rep_shiftSl {F : Forb} {w' : World} {βr : List Value} {objs : Heap} (hlen : β.length = h.length) {sz l ver off n : Nat} {v : Value} (hr : Rep (.sl sz l ver off n) βr objs F w' v) :
    Rep (.sl sz (l + h.length) ver off n) (β ++ βr) (h ++ objs) F w' v := by
  simp only [Rep] at hr ⊢
  obtain ⟨⟨hl, hf⟩, h1, h2⟩ := hr
  have e1 : (h ++ objs)[l + h.length]? = objs[l]? := by rw [List.getElem?_append_right (by omega), Nat.add_sub_cancel]
  have e2 : (β ++ βr)[l + h.length]? = βr[l]? := by rw [← hlen, List.getElem?_append_right (by omega), Nat.add_sub_cancel]
  refine ⟨⟨by rw [List.length_append, ← hlen]; omega, by unfold fut at hf ⊢; rw [e1]; exact hf⟩, h1, fun hs => ?_⟩
  have := h2 (by unfold objCells at hs ⊢; rw [e1] at hs; exact hs)
  rw [List.getD_eq_getElem?_getD] at this ⊢
  rw [e2]
  exact this

theorem rep_shift {F : Forb} {w' : World} {βr : List Value} {objs : Heap} (hlen : β.length = h.length) {r : AV} {v : Value} (hk : okRes r = true) (hr : Rep r βr objs F w' v) : Rep (shift h.length r) (β ++ βr) (h ++ objs) F w' v := by
  unfold okRes at hk
  split at hk
  · exact rep_shiftSl hlen hr
  · rename_i sz l ver off n rest
    simp only [Bool.not_eq_true'] at hk
    simp only [shift, Rep] at hr ⊢
    obtain ⟨vs, rfl, hl⟩ := hr
    simp only [RepL] at hl ⊢
    obtain ⟨u, us, rfl, h1, h2⟩ := hl
    exact ⟨_, rfl, u, us, rfl, rep_shiftSl hlen h1, RepL.noOwn rest hk h2⟩
  · rename_i h1 h2
    have hs : shift h.length r = r := by
      cases r <;> try rfl
      · exact absurd rfl (h1 _ _ _ _ _)
      · rename_i vs
        cases vs with
        | nil => rfl
        | cons x rest => cases x <;> first | rfl | exact absurd rfl (h2 _ _ _ _ _ _)
    rw [hs]
    exact Rep.noOwn r (by simpa using hk) hr

/-- What is said of a call that works with the caller's own memory. -/
def CallSpecM (P : Program) (f : FuncId) (vals : List AV) (h : Heap) (r : AV) (h' : Heap) : Prop :=
  EnterOk P f ∧ ∀ (Bad : Forb) (β : List Value) (w : World) (us : List Value), HeapRel Bad β h w → RepL vals β h (FOf Bad β) w us →
    Calls P f us.toArray w fun e w' => ∃ v β', e = .returned v ∧ Step Bad β h w β' h' w' ∧ Rep r β' h' (FOf Bad β') w' v

/-- What is asked of the calls. -/
def CallsOk (P : Program) (E : Env) (call : CallFn) : Prop := (∀ f args r objs, pcallOf E call f args = some (r, objs) → CallSpec P f args r objs) ∧ ∀ f vals h r h', doCallM E call h f vals = some (r, h') → CallSpecM P f vals h r h'

theorem sound_doCallM {E : Env} {call : CallFn} (hcalls : CallsOk P E call) (hh : HeapRel Bad β h w) {f : FuncId} {vals : List AV} {us : List Value} (hvals : RepL vals β h (FOf Bad β) w us)
    {r : AV} {h' : Heap} (hd : doCallM E call h f vals = some (r, h')) (hrun : EnterOk P f → (execOp a.eval o).run P w = .ok (.enter f us.toArray) w) : OpSound P Bad β h w a o r h' := by
  obtain ⟨hent, hspec⟩ := hcalls.2 f vals h r h' hd
  have hcall := hspec Bad β w us hh hvals
  intro K Q hK
  unfold Oper.wp
  rw [hrun hent]
  simp only [Oper.upon]
  refine Calls.mono hcall ?_
  rintro e w' ⟨v, β', rfl, hst, hr⟩
  exact hK v β' w' hst hr

theorem mapM_snap_rep (hh : HeapRel Bad β h w) {g : Bool} {F2 : Forb} (hF : ∀ g' k, ¬ FOf Bad β g' k → ¬ F2 g' k) {vals vs : List AV} {us : List Value} (hm : snapL g h vals = some vs) (hr : RepL vals β h (FOf Bad β) w us)
    (ho : hasOwn.hasOwnL vals = true → ∀ l k, Owns β l k → objLive h l = true → ¬ F2 g k) : RepL vs [] [] F2 w us :=
  snapL_rep (fun x y v hx hxr hxo => snap_rep hh g hF depth x y v hx hxr hxo) vals vs us hm hr ho

theorem sound_doCall {E : Env} {call : CallFn} (hcalls : CallsOk P E call) (hh : HeapRel Bad β h w) {ro : Bool} {f : FuncId} {vals : List AV} {us : List Value} (hvals : RepL vals β h (FOf Bad β) w us)
    {r : AV} {h' : Heap} (hd : doCall E call ro h f vals = some (r, h')) (hrun : EnterOk P f → (execOp a.eval o).run P w = .ok (.enter f us.toArray) w) : OpSound P Bad β h w a o r h' := by
  unfold doCall at hd
  cases hs : snapL true h vals with
  | none => rw [hs] at hd; cases hd
  | some vs =>
    rw [hs] at hd
    simp only [Option.bind_some] at hd
    cases hp : pcallOf E call f vs with
    | none => rw [hp] at hd; cases hd
    | some res =>
      obtain ⟨r0, objs⟩ := res
      rw [hp] at hd
      simp only [Option.bind_some] at hd
      obtain ⟨hent, hno, hspec⟩ := hcalls.1 f vs r0 objs hp
      split at hd
      · cases hd
      · rename_i hguard
        have key : ∃ Bad' : Forb, BadOk Bad' w ∧ RepL vs [] [] Bad' w us ∧
            ∀ w' βr v, Below w.heap.size w w' → HeapRel Bad' βr objs w' → (∀ l k, Owns βr l k → w.heap.size ≤ k) → Rep r0 βr objs (FOf Bad' βr) w' v → HeapRel (FOf Bad β) βr objs w' ∧ Rep r0 βr objs (FOf (FOf Bad β) βr) w' v := by
          have hlt : ∀ g k, FOf Bad β g k → k < w.heap.size := by
            rintro g k (h1 | ⟨l, h1⟩)
            · exact hh.bad.1 g k h1
            · exact hh.lt l k h1
          by_cases hown : hasOwn.hasOwnL vals = true
          · rw [hown] at hguard
            simp only [Bool.true_and, Bool.not_eq_true', Bool.not_eq_false, Bool.and_eq_true] at hguard
            obtain ⟨hg1, hg2⟩ := hguard
            refine ⟨fun g k => Bad g k ∨ (g = false ∧ ∃ l, Owns β l k), ?_, ?_, ?_⟩
            · refine hh.bad.wide ?_ fun k hk => .inl hk
              rintro g k (h1 | ⟨_, l, h1⟩)
              · exact hh.bad.1 g k h1
              · exact hh.lt l k h1
            · refine mapM_snap_rep hh (g := true) ?_ hs hvals (fun _ l k ho _ => ?_)
              · rintro g k hf (h1 | ⟨_, h1⟩)
                · exact hf (.inl h1)
                · exact hf (.inr h1)
              · rintro (h1 | ⟨h1, _⟩)
                · exact hh.free l k true ho h1
                · cases h1
            · intro w' βr v hb hr1 hn1 hr2
              have hF : ∀ k, ¬ FOf (fun g k => Bad g k ∨ (g = false ∧ ∃ l, Owns β l k)) βr false k → ¬ FOf (FOf Bad β) βr false k := by
                rintro k hf ((h1 | h1) | h1)
                · exact hf (.inl (.inl h1))
                · exact hf (.inl (.inr ⟨rfl, h1⟩))
                · exact hf (.inr h1)
              refine ⟨HeapRel.change hr1 hno ((hh.bad.wide hlt fun k hk => .inl hk).below hb) (fun l k g ho h1 => by have := hlt g k h1; have := hn1 l k ho; omega) ?_, Rep.noG hF r0 hg1 hr2⟩
              rintro ws us' ⟨o, ho, hov⟩ hrr
              have h3 := List.all_eq_true.1 hg2 o ho
              refine RepL.noG hF ws ?_ hrr
              cases o <;> simp only [objNoG] at h3 hov <;> first | (rw [← hov]; exact h3) | cases hov
          · refine ⟨FOf Bad β, hh.bad.wide hlt fun k hk => .inl hk, ?_, fun w' βr v hb hr1 hn1 hr2 => ⟨hr1, hr2⟩⟩
            exact mapM_snap_rep hh (g := true) (fun g k hf => hf) hs hvals (fun h1 => absurd h1 hown)
        obtain ⟨Bad', hb1, hb2, hb3⟩ := key
        have hcall := hspec Bad' w us hb1 hb2
        intro K Q hK
        unfold Oper.wp
        rw [hrun hent]
        simp only [Oper.upon]
        refine Calls.mono hcall ?_
        rintro e w' ⟨v, βr, rfl, hbel, hr1, hn1, hr2⟩
        obtain ⟨hr1, hr2⟩ := hb3 w' βr v hbel hr1 hn1 hr2
        simp only
        by_cases hro : ro = true
        · rw [if_pos hro] at hd
          cases hsn : snap false objs depth r0 with
          | none => rw [hsn] at hd; cases hd
          | some y =>
            rw [hsn] at hd
            injection hd with hd
            injection hd with hd1 hd2
            subst hd1; subst hd2
            refine hK v β w' (Step.quiet hh hbel) (Rep.ofNil y ?_)
            exact snap_rep hr1 false (fun g k hf h1 => hf (.inl h1)) depth r0 y v hsn hr2 (fun _ l k ho _ => hr1.free l k false ho)
        · rw [if_neg hro] at hd
          split at hd
          · rename_i hok
            injection hd with hd
            injection hd with hd1 hd2
            subst hd1; subst hd2
            refine hK v (β ++ βr) w' (Step.adopt hh hbel hr1 hn1 hno) ?_
            rw [← FOf_append_eq]
            exact rep_shift hh.len hok hr2
          · cases hd

end
end Go.Fw
set_option linter.unusedVariables false
set_option linter.unusedSimpArgs false
set_option linter.unusedSectionVars false
namespace Go.Fw
open Go.RowKit (Below)

section
variable {P : Program} {Bad : Forb} {β : List Value} {h : Heap} {w : World} {a : Act} {s : Slots} {o : Oper}

theorem u8s_rep {F : Forb} : ∀ {cs : List AV} {ns : List Int} {us : List Value}, u8sV cs = some ns → RepL cs β h F w us → us = ns.map (Value.int .u8)
  | [], ns, us, h1, h2 => by
    simp only [u8sV, Option.some.injEq] at h1
    subst h1
    exact h2
  | x :: l, ns, us, h1, h2 => by
    obtain ⟨u, us', rfl, hx, hl⟩ := h2
    cases x <;> try (simp [u8sV] at h1; done)
    rename_i k n
    cases k <;> try (simp [u8sV] at h1; done)
    simp only [u8sV] at h1
    cases hm : u8sV l with
    | none => rw [hm] at h1; cases h1
    | some m =>
      rw [hm] at h1
      simp only [Option.map_some, Option.some.injEq] at h1
      subst h1
      have := u8s_rep hm hl
      subst this
      simp only [Rep] at hx
      subst hx
      rfl

theorem ints_rep {F : Forb} : ∀ {cs : List AV} {ns : List Int} {us : List Value}, intsV cs = some ns → RepL cs β h F w us → ∃ ks : List IntKind, us = (ks.zip ns).map (fun p => Value.int p.1 p.2) ∧ ks.length = ns.length
  | [], ns, us, h1, h2 => by
    simp only [intsV, Option.some.injEq] at h1
    subst h1
    exact ⟨[], h2, rfl⟩
  | x :: l, ns, us, h1, h2 => by
    obtain ⟨u, us', rfl, hx, hl⟩ := h2
    cases x <;> simp only [intsV, reduceCtorEq] at h1
    rename_i k n
    cases hm : intsV l with
    | none => rw [hm] at h1; cases h1
    | some m =>
      rw [hm] at h1
      simp only [Option.map_some, Option.some.injEq] at h1
      subst h1
      obtain ⟨ks, rfl, hk⟩ := ints_rep hm hl
      simp only [Rep] at hx
      subst hx
      exact ⟨k :: ks, rfl, by simp [hk]⟩

theorem run_min_fold : ∀ (l : List (IntKind × Int)) (k : IntKind) (x : Int), ((l.map fun p => Value.int p.1 p.2).foldlM Builtin.min2 (.int k x)).run P w = .ok (.int k ((l.map (·.2)).foldl (mm2 false) x)) w
  | [], k, x => rfl
  | p :: l, k, x => by
    simp only [List.map_cons, List.foldlM_cons, Sem.run_bind, Builtin.min2, Sem.run_pure, Result.andThen_ok, List.foldl_cons]
    rw [run_min_fold l]
    rfl
theorem run_max_fold : ∀ (l : List (IntKind × Int)) (k : IntKind) (x : Int), ((l.map fun p => Value.int p.1 p.2).foldlM Builtin.max2 (.int k x)).run P w = .ok (.int k ((l.map (·.2)).foldl (mm2 true) x)) w
  | [], k, x => rfl
  | p :: l, k, x => by
    simp only [List.map_cons, List.foldlM_cons, Sem.run_bind, Builtin.max2, Sem.run_pure, Result.andThen_ok, List.foldl_cons]
    rw [run_max_fold l]
    rfl

variable (hh : HeapRel Bad β h w) (hs : SlotsRep β h (FOf Bad β) w s a)
include hh hs

theorem sound_toStr {x : X} {x' : Operand} {src dst e : TypeId} (ho : o.op = .convert src dst x') (hc : chkX x x' = true) (hsr : P.underlying src = some (.slice e)) (he : P.underlying e = some (.int .u8)) (hd : P.underlying dst = some .string)
    {cs : List AV} {m : Nat} {ns : List Int} (h1 : cellsIn h 1 (x.ev s) = some cs) (h2 : lenIn (x.ev s) = some m) (h3 : u8sV cs = some ns) : OpSound P Bad β h w a o (.str (strOfL ns)) h := by
  have hr := X_rep hs hc
  have hall : cs.all storable = true := by
    have : ∀ {cs : List AV} {ns : List Int}, u8sV cs = some ns → cs.all storable = true := by
      intro cs
      induction cs with
      | nil => intro _ _; rfl
      | cons x l ih =>
        intro ns h1
        cases x <;> try (simp [u8sV] at h1; done)
        rename_i k n
        cases k <;> try (simp [u8sV] at h1; done)
        simp only [u8sV] at h1
        cases hm : u8sV l with
        | none => rw [hm] at h1; cases h1
        | some m => simp [storable, ih hm]
    exact this h3
  obtain ⟨sa, c, us, e1, e2, e3, e4, e5⟩ := src_cells hh hr h1 h2 hall (by omega)
  have e6 := u8s_rep h3 e2
  subst e6
  refine sound_pure hh (v := .string (strOfL ns)) ?_ rfl
  have hm : ns.length = m := by simpa using e3
  have hnil : ∀ c, sa = none → m = 0 → (convert src dst (.slice sa m c)).run P w = .ok (.string (strOfL ns)) w := by
    rintro c rfl rfl
    rw [run_convert_bytes_string w src dst e none 0 c hsr he hd]
    have : ns = [] := List.eq_nil_of_length_eq_zero hm
    subst this
    rfl
  have hconv : (convert src dst (.slice sa m c)).run P w = .ok (.string (strOfL ns)) w := by
    rcases e5 with ⟨h4, h5, _⟩ | ⟨h4, h5⟩ | ⟨ad, rfl, h4⟩
    · exact hnil c h4 h5
    · exact hnil c h4 h5
    · rw [run_convert_bytes_string w src dst e _ _ _ hsr he hd]
      refine run_bytesToString w ad m c ns ?_
      have := run_loadCells_list (P := P) (w := w) ad (ns.map (Value.int .u8)) h4
      simpa [hm] using this
  simp only [execOp, ho, e1, Sem.run_bind, hconv, Result.andThen_ok, Sem.run_pure]

theorem sound_mm {mx : Bool} {xs : List X} {xs' : Array Operand} {ts : Array TypeId} (ho : o.op = .call { callee := .builtin (if mx then .max else .min), args := xs', argTypes := ts }) (hc : chkXs xs xs'.toList = true) {r : AV}
    (hr : mmV mx (xs.map (X.ev s)) = some r) : OpSound P Bad β h w a o r h := by
  have h1 := Xs_rep hs hc
  generalize xs.map (X.ev s) = vs at h1 hr
  cases vs with
  | nil => simp [mmV] at hr
  | cons x l =>
    obtain ⟨u, us, h2, hx, hl⟩ := h1
    cases x <;> simp only [mmV, reduceCtorEq] at hr
    rename_i k n
    cases hm : intsV l with
    | none => rw [hm] at hr; cases hr
    | some ns =>
      rw [hm] at hr
      simp only [Option.map_some, Option.some.injEq] at hr
      subst hr
      obtain ⟨ks, rfl, hk⟩ := ints_rep hm hl
      simp only [Rep] at hx
      subst hx
      have e2 : (ks.zip ns).map (·.2) = ns := by
        rw [List.map_snd_zip]
        omega
      have e3 : xs'.map a.eval = (xs'.toList.map a.eval).toArray := by apply Array.ext'; simp
      cases mx
      · refine sound_pure hh (v := .int k (ns.foldl (mm2 false) n)) ?_ rfl
        have := run_min_fold (P := P) (w := w) (ks.zip ns) k n
        rw [e2] at this
        simp [execOp, ho, resolve, invoke, builtin, Builtin.min_, e3, h2, this]
      · refine sound_pure hh (v := .int k (ns.foldl (mm2 true) n)) ?_ rfl
        have := run_max_fold (P := P) (w := w) (ks.zip ns) k n
        rw [e2] at this
        simp [execOp, ho, resolve, invoke, builtin, Builtin.max_, e3, h2, this]

theorem sound_capNil {x : X} {x' : Operand} {t e : TypeId} (ho : o.op = .call { callee := .builtin .cap, args := #[x'], argTypes := #[t] }) (hc : chkX x x' = true) (hk : P.underlying t = some (.slice e)) (hx : x.ev s = .nils) : OpSound P Bad β h w a o (.int .i64 0) h := by
  have h1 := X_rep hs hc
  rw [hx] at h1
  simp only [Rep] at h1
  exact sound_pure hh (v := .int .i64 0) (by simp [execOp, ho, h1, resolve, invoke, builtin, Builtin.cap_, run_underlying hk, goInt]) rfl

theorem sound_trunc {x hi : X} {x' hi' : Operand} {t e : TypeId} {sz : Nat} (ho : o.op = .slice t x' none (some hi') none) (hc : chkX x x' = true) (hc2 : chkX hi hi' = true)
    (hu : P.underlying t = some (.slice e)) {ti : TypeInfo} (hti : P.info? e = some ti) (hsz : ti.size = sz) (hz : 0 < sz) {k : IntKind} {n : Int} (hn : hi.ev s = .int k n) {r : AV} {h' : Heap} (hr : truncV h sz n (x.ev s) = some (r, h')) :
    OpSound P Bad β h w a o r h' := by
  have h1 := X_rep hs hc
  generalize hxv : x.ev s = xv at h1 hr
  cases xv <;> simp only [truncV, reduceCtorEq] at hr
  case nils =>
    split at hr
    case isFalse => cases hr
    rename_i hn0
    subst hn0
    simp only [Option.some.injEq, Prod.mk.injEq] at hr
    obtain ⟨rfl, rfl⟩ := hr
    simp only [Rep] at h1
    have hsb : (Instr.sliceBounds true 0 0 none (some (a.eval hi')) none).run P w = .ok (0, 0, 0) w :=
      run_sliceBounds (P := P) (lo := none) (hi := some hi) (lo' := none) (hi' := some hi') hs rfl (by simpa [chkXo] using hc2) (x := 0) (y := 0) rfl (by simp [bound, hn]) (Int.le_refl _) (Int.le_refl _) (by simp) (Nat.le_refl _)
    exact sound_pure hh (v := .slice none 0 0) (by simp [execOp, ho, h1, Instr.sliceAt, Instr.slice, run_underlying hu, hsb, run_sizeOf hti, hsz]) rfl
  rename_i z l ver off m
  split at hr
  case h_2 => cases hr
  rename_i v z' vs te hobj
  split at hr
  case isFalse => cases hr
  rename_i hcond
  obtain ⟨rfl, rfl, rfl, rfl, hvl, h0, hnm⟩ := hcond
  simp only [Option.some.injEq, Prod.mk.injEq] at hr
  obtain ⟨rfl, rfl⟩ := hr
  simp only [Rep] at h1
  obtain ⟨hl, _, h1⟩ := h1
  have hcur : objCells h l v = some vs := by simp [objCells, hobj]
  have h1 := h1 (by rw [hcur]; rfl)
  have hβ : β[l]? = some (β.getD l default) := by rw [List.getD_eq_getElem?_getD, List.getElem?_eq_getElem hl.1]; rfl
  obtain ⟨hz', n', xs, hown, hrx, hx1⟩ := hh.obj l _ _ hobj hβ
  have hnn : n' = m := by
    have e1 := hown.1
    have e2 := hrx.length
    have : n' * z' = m * z' := by omega
    exact Nat.eq_of_mul_eq_mul_right hz this
  subst hnn
  generalize hbv : β.getD l default = bv at *
  have hval : a.eval x' = bv := by
    rcases hown.2 with ⟨h3, h4⟩ | ⟨g, cap, cur, h3, _, _, h4, _⟩
    · rw [h3] at h1 ⊢
      simp only [SlRep] at h1
      exact h1.2
    · rw [h3] at h1 ⊢
      simp only [SlRep] at h1
      obtain ⟨o', c, h5, h6, h7, h8, h9⟩ := h1
      have ho' := h9 trivial
      subst ho'
      have : c = cap := Nat.eq_of_mul_eq_mul_right hz (by simpa using h7)
      subst this
      exact h5
  have hsb : ∀ cap, n' ≤ cap → (Instr.sliceBounds true n' cap none (some (a.eval hi')) none).run P w = .ok (0, n.toNat, cap) w := fun cap hcap =>
    run_sliceBounds (P := P) (lo := none) (hi := some hi) (lo' := none) (hi' := some hi') hs rfl (by simpa [chkXo] using hc2) (x := 0) (y := n) rfl (by simp [bound, hn]) (Int.le_refl _) h0 hnm hcap
  obtain ⟨v', hrun, hown', hv', hsl⟩ : ∃ v', (execOp a.eval o).run P w = .ok (.value v') w ∧ w.ownsRow 0 te z' v' n.toNat (xs.take (n.toNat * z')) ∧ (∀ k, blkOf v' = some k → blkOf bv = some k) ∧ SlRep v' z' 0 n.toNat v' ∧ ∃ a m c, v' = .slice a m c := by
    have hlen : (xs.take (n.toNat * z')).length = n.toNat * z' := by
      rw [List.length_take, hown.1]
      have : n.toNat * z' ≤ n' * z' := Nat.mul_le_mul_right z' (by omega)
      omega
    rcases hown.2 with ⟨h3, h4⟩ | ⟨g, cap, cur, h3, hg0, hg, hnc, hcm, hcs, hct⟩
    · subst h4
      have hn0 : n = 0 := by omega
      subst hn0
      refine ⟨.slice none 0 0, ?_, ⟨hlen, .inl ⟨rfl, rfl⟩⟩, by simp [blkOf], ⟨rfl, rfl⟩, _, _, _, rfl⟩
      have := hsb 0 (Nat.le_refl _)
      simp [execOp, ho, hval, h3, Instr.sliceAt, Instr.slice, run_underlying hu, this, run_sizeOf hti, hsz]
    · have := hsb cap hnc
      refine ⟨.slice (some ⟨g, 0, none⟩) n.toNat cap, ?_, ⟨hlen, .inr ⟨g, cap, cur, rfl, hg0, hg, by omega, hcm, hcs, ?_⟩⟩, by rw [h3]; simp [blkOf], ⟨0, cap, rfl, by omega, by simp, .inl rfl, fun _ => rfl⟩, _, _, _, rfl⟩
      · have ha : (if cap = 0 then some (⟨g, 0, none⟩ : Addr) else some (⟨g, 0, none⟩ : Addr)) = some ⟨g, 0, none⟩ := by split <;> rfl
        simp [execOp, ho, hval, h3, Instr.sliceAt, Instr.slice, run_underlying hu, this, run_sizeOf hti, hsz, Addr.add_lit']
      · rw [← hct, List.take_take]
        congr 1
        have : n.toNat * z' ≤ n' * z' := Nat.mul_le_mul_right z' (by omega)
        omega
  have hlt : ∀ k, blkOf v' = some k → k < w.heap.size := fun k hk => hh.lt l k ⟨bv, hβ, hv' k hk⟩
  have hst := Step.turn (Bad := Bad) (w' := w) hh (l := l) (bv := bv) (bv' := v') (o' := .row (v + 1) z' (vs.take (n.toNat * z')) te) hβ rfl rfl rfl (Nat.le_refl _)
    (fun k hk hne => rfl)
    (fun k hk => ⟨.inl (hv' k hk), hlt k hk⟩)
    (fun u hf => by
      have hs1 : (h.set l (.row (v + 1) z' (vs.take (n.toNat * z')) te))[l]? = some (.row (v + 1) z' (vs.take (n.toNat * z')) te) := List.getElem?_set_self (by rw [← hh.len]; exact hl.1)
      unfold fut at hf ⊢
      rw [hobj] at hf
      rw [hs1]
      simp only [decide_eq_false_iff_not, Nat.not_lt] at hf ⊢
      refine ⟨by omega, fun hs => ?_⟩
      unfold objCells at hs
      rw [hs1] at hs
      simp only at hs
      split at hs
      · omega
      · cases hs)
    (fun hok hkeep => ⟨hz, n.toNat, xs.take (n.toNat * z'), hown', RepL.step hok _ hkeep (hrx.take _), fun u hu => hx1 u (List.mem_of_mem_take hu)⟩)
  refine sound_value (v := v') hrun hst ?_
  have hself : (β.set l v')[l]? = some v' := by simp [List.getElem?_set_self, hl.1]
  have hfut : fut (h.set l (.row (v + 1) z' (vs.take (n.toNat * z')) te)) l (v + 1) = false := by
    unfold fut
    rw [List.getElem?_set_self (by rw [← hh.len]; exact hl.1)]
    simp
  simp only [Rep]
  refine ⟨⟨by simpa using hl.1, hfut⟩, hsl.2, fun _ => ?_⟩
  rw [List.getD_eq_getElem?_getD, hself]
  exact hsl.1

end
end Go.Fw
