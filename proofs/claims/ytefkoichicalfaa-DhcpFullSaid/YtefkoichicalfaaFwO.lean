/-
  A statement's operations, in the text's order and in whatever order their edges allow. Conditions: stated at each.
-/
import Derived.Test.YtefkoichicalfaaFwN
set_option linter.unusedVariables false
set_option linter.unusedSimpArgs false
set_option linter.unusedSectionVars false
namespace Go.Fw
open Go.RowKit (Below)

/-! ### what an operation looks at -/

def xt : X → List Nat
  | .t n => [n]
  | .c _ => []
def xts (l : List X) : List Nat := l.flatMap xt
def xto : Option X → List Nat
  | some x => xt x
  | none => []

def readsI : I → List Nat
  | .mov x | .un _ x | .conv _ x | .box _ _ x | .boxR _ _ _ x | .load _ _ x | .faddr _ _ _ x | .field _ _ _ x | .ext x _ | .mkIf _ x | .len x | .lenS x | .eqNil _ x | .mkSl _ _ _ _ x | .toStr x | .capNil x | .loadR _ _ x | .loadC _ _ x | .eqNl _ _ x | .nilChk x | .s2a _ _ x | .frz x | .lenR x | .loadS _ _ _ x | .mlen _ x | .eqNlm _ x => xt x
  | .nilrow _ _ | .alloc _ _ _ | .lenA _ | .fail | .buildE | .mkMap _ => []
  | .pick c a b | .mapUpd _ c a b => xt c ++ xt a ++ xt b
  | .bin _ x y | .binB _ x y | .eqS _ _ x y | .store _ x y | .iaddr _ x y | .iaddrA _ _ _ x y | .index _ _ _ x y | .indexS x y | .append _ _ _ x y | .copy _ x y | .trunc _ x y | .iaddrR _ x y | .appMk _ _ _ _ x y | .appF _ _ _ x y | .appE _ _ x y | .storeS _ _ x y | .look _ _ _ x y | .mdel _ x y => xt x ++ xt y
  | .mm _ xs => xts xs
  | .build _ ps => ps.flatMap fun p => xt p.2.2
  | .buildSl _ _ els | .buildR _ _ els => xts els
  | .slice _ x lo hi | .sliceR _ x lo hi | .sliceA _ _ x lo hi | .sliceAR _ _ x lo hi | .sliceS x lo hi => xt x ++ xto lo ++ xto hi
  | .mkFn _ caps => xts caps
  | .callF _ _ args => xts args
  | .callM _ args => xts args
  | .callQ _ x => xt x
  | .callA _ x => xt x
  | .callP _ args => xts args
  | .callV _ x args => xt x ++ xts args

/-- 0: it looks at slots alone. 1: it looks at memory. 2: it writes memory, or makes it. -/
def clsI : I → Nat
  | .mov _ | .pick _ _ _ | .bin _ _ _ | .binB _ _ _ | .eqS _ _ _ _ | .un _ _ | .conv _ _ | .boxR _ _ _ _ | .build _ _ | .buildR _ _ _ | .sliceS _ _ _ | .faddr _ _ _ _ | .field _ _ _ _ | .iaddrA _ _ _ _ _ | .index _ _ _ _ _ | .indexS _ _ | .ext _ _
  | .mkIf _ _ | .mkFn _ _ | .lenS _ | .eqNil _ _ | .fail | .lenA _ | .mm _ _ | .capNil _ | .loadR _ _ _ | .iaddrR _ _ _ | .sliceR _ _ _ _ | .eqNl _ _ _ | .nilChk _ | .s2a _ _ _ | .callP _ _ | .buildE | .appE _ _ _ _ | .sliceAR _ _ _ _ _ | .lenR _ => 0
  | .load _ _ _ | .slice _ _ _ _ | .sliceA _ _ _ _ _ | .iaddr _ _ _ | .len _ | .toStr _ | .loadC _ _ _ | .loadS _ _ _ _ | .look _ _ _ _ _ | .mlen _ _ | .eqNlm _ _ | .callQ _ _ => 1
  | .callF ro _ _ => if ro then 1 else 2
  | .callV ro _ _ => if ro then 1 else 2
  | _ => 2

theorem X.ev_congr {s s' : Slots} {x : X} (h : ∀ t ∈ xt x, get s t = get s' t) : x.ev s = x.ev s' := by
  cases x with
  | t n => exact h n (by simp [xt])
  | c v => rfl
theorem Xs.ev_congr {s s' : Slots} {l : List X} (h : ∀ t ∈ xts l, get s t = get s' t) : l.map (X.ev s) = l.map (X.ev s') := by
  apply List.map_congr_left
  intro x hx
  exact X.ev_congr fun t ht => h t (List.mem_flatMap.2 ⟨x, hx, ht⟩)
theorem Xo.ev_congr {s s' : Slots} {x : Option X} (h : ∀ t ∈ xto x, get s t = get s' t) : x.map (X.ev s) = x.map (X.ev s') := by
  cases x with
  | none => rfl
  | some x => exact congrArg some (X.ev_congr h)

section
variable {E : Env} {call : CallFn}

theorem evI_congr {s s' : Slots} {h : Heap} {op : I} (hr : ∀ t ∈ readsI op, get s t = get s' t) : evI E call s h op = evI E call s' h op := by
  cases op <;> simp only [readsI, List.mem_append] at hr <;> simp only [evI]
  case mov x => rw [X.ev_congr hr]
  case pick c a b => rw [X.ev_congr (x := c) fun t ht => hr t (.inl (.inl ht)), X.ev_congr (x := a) fun t ht => hr t (.inl (.inr ht)), X.ev_congr (x := b) fun t ht => hr t (.inr ht)]
  case bin b x y => rw [X.ev_congr (x := x) fun t ht => hr t (.inl ht), X.ev_congr (x := y) fun t ht => hr t (.inr ht)]
  case eqS neg ks x y => rw [X.ev_congr (x := x) fun t ht => hr t (.inl ht), X.ev_congr (x := y) fun t ht => hr t (.inr ht)]
  case binB b x y => rw [X.ev_congr (x := x) fun t ht => hr t (.inl ht), X.ev_congr (x := y) fun t ht => hr t (.inr ht)]
  case un u x => rw [X.ev_congr hr]
  case mlen kk x => rw [X.ev_congr hr]
  case eqNlm neg x => rw [X.ev_congr hr]
  case look ok kk z x y => rw [X.ev_congr (x := x) fun t ht => hr t (.inl ht), X.ev_congr (x := y) fun t ht => hr t (.inr ht)]
  case mdel kk x y => rw [X.ev_congr (x := x) fun t ht => hr t (.inl ht), X.ev_congr (x := y) fun t ht => hr t (.inr ht)]
  case mapUpd kk c a b => rw [X.ev_congr (x := c) fun t ht => hr t (.inl (.inl ht)), X.ev_congr (x := a) fun t ht => hr t (.inl (.inr ht)), X.ev_congr (x := b) fun t ht => hr t (.inr ht)]
  case conv k x => rw [X.ev_congr hr]
  case box ag t x => rw [X.ev_congr hr]
  case boxR ag sz t x => rw [X.ev_congr hr]
  case build zero ps =>
    have : (ps.map fun p => (p.1, p.2.1, p.2.2.ev s)) = ps.map fun p => (p.1, p.2.1, p.2.2.ev s') := by
      apply List.map_congr_left
      intro p hp
      rw [X.ev_congr fun t ht => hr t (List.mem_flatMap.2 ⟨p, hp, ht⟩)]
    rw [this]
  case buildSl sz t els => rw [Xs.ev_congr hr]
  case buildR sz t els => rw [Xs.ev_congr hr]
  case mkSl sz b t z x => rw [X.ev_congr hr]
  case load ag sz x => rw [X.ev_congr hr]
  case loadR ag sz x => rw [X.ev_congr hr]
  case loadC ag sz x => rw [X.ev_congr hr]
  case iaddrR sz x y => rw [X.ev_congr (x := x) fun t ht => hr t (.inl ht), X.ev_congr (x := y) fun t ht => hr t (.inr ht)]
  case sliceR sz x lo hi => rw [X.ev_congr (x := x) fun t ht => hr t (.inl (.inl ht)), Xo.ev_congr (x := lo) fun t ht => hr t (.inl (.inr ht)), Xo.ev_congr (x := hi) fun t ht => hr t (.inr ht)]
  case sliceAR n sz x lo hi => rw [X.ev_congr (x := x) fun t ht => hr t (.inl (.inl ht)), Xo.ev_congr (x := lo) fun t ht => hr t (.inl (.inr ht)), Xo.ev_congr (x := hi) fun t ht => hr t (.inr ht)]
  case store sz x y => rw [X.ev_congr (x := x) fun t ht => hr t (.inl ht), X.ev_congr (x := y) fun t ht => hr t (.inr ht)]
  case slice sz x lo hi => rw [X.ev_congr (x := x) fun t ht => hr t (.inl (.inl ht)), Xo.ev_congr (x := lo) fun t ht => hr t (.inl (.inr ht)), Xo.ev_congr (x := hi) fun t ht => hr t (.inr ht)]
  case sliceA n sz x lo hi => rw [X.ev_congr (x := x) fun t ht => hr t (.inl (.inl ht)), Xo.ev_congr (x := lo) fun t ht => hr t (.inl (.inr ht)), Xo.ev_congr (x := hi) fun t ht => hr t (.inr ht)]
  case sliceS x lo hi => rw [X.ev_congr (x := x) fun t ht => hr t (.inl (.inl ht)), Xo.ev_congr (x := lo) fun t ht => hr t (.inl (.inr ht)), Xo.ev_congr (x := hi) fun t ht => hr t (.inr ht)]
  case faddr ag off sz x => rw [X.ev_congr hr]
  case field ag off sz x => rw [X.ev_congr hr]
  case iaddr sz x y => rw [X.ev_congr (x := x) fun t ht => hr t (.inl ht), X.ev_congr (x := y) fun t ht => hr t (.inr ht)]
  case iaddrA n sz ag x y => rw [X.ev_congr (x := x) fun t ht => hr t (.inl ht), X.ev_congr (x := y) fun t ht => hr t (.inr ht)]
  case index n sz ag x y => rw [X.ev_congr (x := x) fun t ht => hr t (.inl ht), X.ev_congr (x := y) fun t ht => hr t (.inr ht)]
  case indexS x y => rw [X.ev_congr (x := x) fun t ht => hr t (.inl ht), X.ev_congr (x := y) fun t ht => hr t (.inr ht)]
  case ext x i => rw [X.ev_congr hr]
  case mkIf t x => rw [X.ev_congr hr]
  case mkFn f caps => rw [Xs.ev_congr hr]
  case callF ro f args => rw [Xs.ev_congr hr]
  case callV ro x args => rw [X.ev_congr (x := x) fun t ht => hr t (.inl ht), Xs.ev_congr (l := args) fun t ht => hr t (.inr ht)]
  case len x => rw [X.ev_congr hr]
  case lenR x => rw [X.ev_congr hr]
  case loadS k ag sz x => rw [X.ev_congr hr]
  case storeS k sz x y => rw [X.ev_congr (x := x) fun t ht => hr t (.inl ht), X.ev_congr (x := y) fun t ht => hr t (.inr ht)]
  case lenS x => rw [X.ev_congr hr]
  case eqNil neg x => rw [X.ev_congr hr]
  case toStr x => rw [X.ev_congr hr]
  case capNil x => rw [X.ev_congr hr]
  case eqNl ifc neg x => rw [X.ev_congr hr]
  case nilChk x => rw [X.ev_congr hr]
  case s2a n sz x => rw [X.ev_congr hr]
  case frz x => rw [X.ev_congr hr]
  case appMk sz b t z x y => rw [X.ev_congr (x := x) fun t ht => hr t (.inl ht), X.ev_congr (x := y) fun t ht => hr t (.inr ht)]
  case callM f args => rw [Xs.ev_congr hr]
  case callQ f x => rw [X.ev_congr hr]
  case callA f x => rw [X.ev_congr hr]
  case callP f args => rw [Xs.ev_congr hr]
  case appF sz b t x y => rw [X.ev_congr (x := x) fun t ht => hr t (.inl ht), X.ev_congr (x := y) fun t ht => hr t (.inr ht)]
  case appE sz b x y => rw [X.ev_congr (x := x) fun t ht => hr t (.inl ht), X.ev_congr (x := y) fun t ht => hr t (.inr ht)]
  case mm mx xs => rw [Xs.ev_congr hr]
  case trunc sz x y => rw [X.ev_congr fun t ht => hr t (.inl ht), X.ev_congr fun t ht => hr t (.inr ht)]
  case append sz b t x y => rw [X.ev_congr (x := x) fun t ht => hr t (.inl ht), X.ev_congr (x := y) fun t ht => hr t (.inr ht)]
  case copy sz x y => rw [X.ev_congr (x := x) fun t ht => hr t (.inl ht), X.ev_congr (x := y) fun t ht => hr t (.inr ht)]

theorem map_heap {α : Type} {o : Option α} {f : α → AV} {h h' : Heap} {v : AV} (he : o.map (fun x => (f x, h)) = some (v, h')) : h' = h := by
  cases o with
  | none => cases he
  | some x => injection he with he; injection he with _ he; exact he.symm

theorem doCall_ro {h : Heap} {f : FuncId} {vals : List AV} {v : AV} {h' : Heap} (hd : doCall E call true h f vals = some (v, h')) : h' = h := by
  unfold doCall at hd
  cases hs : snapL true h vals with
  | none => rw [hs] at hd; cases hd
  | some vs =>
    rw [hs] at hd
    simp only [Option.bind_some] at hd
    cases hp : pcallOf E call f vs with
    | none => rw [hp] at hd; cases hd
    | some res =>
      rw [hp] at hd
      simp only [Option.bind_some, if_true] at hd
      split at hd
      · cases hd
      · exact map_heap (f := fun x => x) hd

theorem evI_quiet {s : Slots} {h h' : Heap} {op : I} {v : AV} (hc : clsI op ≤ 1) (he : evI E call s h op = some (v, h')) : h' = h := by
  cases op <;> simp only [clsI] at hc <;> first | (exfalso; omega) | skip
  case callF ro f args =>
    cases ro
    · simp at hc
    · exact doCall_ro he
  case callV ro x args =>
    cases ro
    · simp at hc
    · simp only [evI] at he
      split at he
      · exact doCall_ro he
      · cases he
  case slice sz x lo hi =>
    simp only [evI] at he
    cases hn : lenIn (x.ev s) with
    | none => rw [hn] at he; cases he
    | some n =>
      rw [hn] at he
      simp only [Option.bind_some] at he
      cases h1 : bound (lo.map (X.ev s)) 0 with
      | none => rw [h1] at he; cases he
      | some l =>
        rw [h1] at he
        simp only [Option.bind_some] at he
        cases h2 : bound (hi.map (X.ev s)) n with
        | none => rw [h2] at he; cases he
        | some m =>
          rw [h2] at he
          simp only [Option.bind_some] at he
          (repeat' split at he) <;> first | (injection he with he; injection he with _ he; exact he.symm) | cases he
  case sliceA n sz x lo hi =>
    simp only [evI] at he
    cases h1 : bound (lo.map (X.ev s)) 0 with
    | none => rw [h1] at he; cases he
    | some l =>
      rw [h1] at he
      simp only [Option.bind_some] at he
      cases h2 : bound (hi.map (X.ev s)) n with
      | none => rw [h2] at he; cases he
      | some m =>
        rw [h2] at he
        simp only [Option.bind_some] at he
        (repeat' split at he) <;> first | (injection he with he; injection he with _ he; exact he.symm) | cases he
  case sliceS x lo hi =>
    simp only [evI] at he
    split at he
    · rename_i b hb
      cases h1 : bound (lo.map (X.ev s)) 0 with
      | none => rw [h1] at he; cases he
      | some l =>
        rw [h1] at he
        simp only [Option.bind_some] at he
        cases h2 : bound (hi.map (X.ev s)) b.size with
        | none => rw [h2] at he; cases he
        | some m =>
          rw [h2] at he
          simp only [Option.bind_some] at he
          (repeat' split at he) <;> first | (injection he with he; injection he with _ he; exact he.symm) | cases he
    · cases he
  case load ag sz x =>
    simp only [evI] at he
    split at he
    · split at he
      · injection he with he; injection he with _ he; exact he.symm
      · cases he
    · rename_i l ver o hx
      cases hv : objCells h l ver with
      | none => rw [hv] at he; cases he
      | some vs => rw [hv] at he; exact map_heap (f := fun x => x) he
    · cases he
  case loadC ag sz x =>
    simp only [evI] at he
    split at he
    · split at he
      · injection he with he; injection he with _ he; exact he.symm
      · cases he
    · split at he
      · split at he
        · exact map_heap (f := fun x => x) he
        · cases he
      · cases he
    · cases he
  case sliceR sz x lo hi =>
    simp only [evI] at he
    split at he
    · rename_i g z l hx
      cases h1 : bound (lo.map (X.ev s)) 0 with
      | none => rw [h1] at he; cases he
      | some a =>
        rw [h1] at he
        simp only [Option.bind_some] at he
        cases h2 : bound (hi.map (X.ev s)) l.length with
        | none => rw [h2] at he; cases he
        | some b =>
          rw [h2] at he
          simp only [Option.bind_some] at he
          (repeat' split at he) <;> first | (injection he with he; injection he with _ he; exact he.symm) | cases he
    · cases he
  case sliceAR n sz x lo hi =>
    simp only [evI] at he
    split at he
    · rename_i g cs hx
      cases h1 : bound (lo.map (X.ev s)) 0 with
      | none => rw [h1] at he; cases he
      | some a =>
        rw [h1] at he
        simp only [Option.bind_some] at he
        cases h2 : bound (hi.map (X.ev s)) n with
        | none => rw [h2] at he; cases he
        | some b =>
          rw [h2] at he
          simp only [Option.bind_some] at he
          (repeat' split at he) <;> first | (injection he with he; injection he with _ he; exact he.symm) | cases he
    · cases he
  case bin b x y => exact map_heap (f := fun x => x) he
  case mlen kk x => exact map_heap (f := fun es : Ents => AV.int .i64 (es.length : Int)) he
  case callQ f x => exact map_heap (f := fun v => v) he
  case eqNlm neg x => exact map_heap (f := fun b => .bool (if neg then !b else b)) he
  case look ok kk z x y =>
    simp only [evI] at he
    cases h1 : entsOf h kk (x.ev s) with
    | none => rw [h1] at he; cases he
    | some es =>
      rw [h1] at he
      simp only [Option.bind_some] at he
      cases h2 : avP (y.ev s) with
      | none => rw [h2] at he; cases he
      | some p =>
        rw [h2] at he
        simp only [Option.bind_some] at he
        split at he
        · injection he with he; injection he with _ he; exact he.symm
        · cases he
  case callP f args => exact map_heap (f := fun x => x) he
  case binB b x y => exact map_heap (f := fun x => x) he
  case eqNil neg x => exact map_heap (f := fun b => .bool (if neg then !b else b)) he
  case eqNl ifc neg x => exact map_heap (f := fun b => .bool (if neg then !b else b)) he
  case mm mx xs => exact map_heap (f := fun v => v) he
  case toStr x =>
    simp only [evI] at he
    cases h1 : cellsIn h 1 (x.ev s) with
    | none => rw [h1] at he; cases he
    | some cs =>
      rw [h1] at he
      simp only [Option.bind_some] at he
      cases h2 : lenIn (x.ev s) with
      | none => rw [h2] at he; cases he
      | some n =>
        rw [h2] at he
        exact map_heap (f := fun ns => AV.str (strOfL ns)) he
  case eqS neg ks x y => exact map_heap (f := fun b => .bool (if neg then !b else b)) he
  case un u x => exact map_heap (f := fun x => x) he
  case build zero ps => exact map_heap (f := AV.agg) he
  case faddr ag off sz x =>
    simp only [evI] at he
    split at he
    · injection he with he; injection he with _ he; exact he.symm
    · exact map_heap (f := fun v => AV.rp _ v) he
    · cases he
  case field ag off sz x =>
    simp only [evI] at he
    split at he
    · exact map_heap (f := fun x => x) he
    · cases he
  case iaddrA n sz ag x i =>
    simp only [evI] at he
    split at he
    · split at he
      · split at he
        · injection he with he; injection he with _ he; exact he.symm
        · split at he
          · exact map_heap (f := fun v => AV.rp _ v) he
          · cases he
        · cases he
      · cases he
    · cases he
  case index n sz ag x i =>
    simp only [evI] at he
    split at he
    · split at he
      · split at he
        · exact map_heap (f := fun x => x) he
        · cases he
      · cases he
    · cases he
  case len x =>
    simp only [evI] at he
    split at he
    · exact map_heap (f := fun n : Nat => AV.int .i64 n) he
    · cases he
  case appE sz b x y =>
    simp only [evI] at he
    exact map_heap (f := fun x => x) he
  case loadS k ag sz x =>
    simp only [evI] at he
    split at he
    · split at he
      · rename_i l ver ol hx hk
        cases ho : objCells h l ver with
        | none => rw [ho] at he; cases he
        | some vs =>
          rw [ho] at he
          exact map_heap (f := fun x => x) he
      · cases he
    · cases he
  all_goals
    simp only [evI] at he
    (repeat' split at he) <;> first | (injection he with he; injection he with _ he; exact he.symm) | cases he

/-- An operation that looks at slots alone. -/
theorem evI_slot {s : Slots} {op : I} (hc : clsI op = 0) : ∃ f : Option AV, ∀ h, evI E call s h op = f.map fun v => (v, h) := by
  cases op <;> simp only [clsI] at hc <;> first | cases hc | skip
  case mov x => exact ⟨some (x.ev s), fun h => rfl⟩
  case pick c a b =>
    simp only [evI]
    split
    · exact ⟨some _, fun h => rfl⟩
    · exact ⟨none, fun h => rfl⟩
  case bin b x y => exact ⟨_, fun h => rfl⟩
  case binB b x y => exact ⟨_, fun h => rfl⟩
  case eqS neg ks x y => exact ⟨(eqAgg ks (x.ev s) (y.ev s)).map fun b => .bool (if neg then !b else b), fun h => by simp only [evI, Option.map_map]; rfl⟩
  case un u x => exact ⟨_, fun h => rfl⟩
  case conv k x =>
    simp only [evI]
    split
    · exact ⟨some _, fun h => rfl⟩
    · exact ⟨none, fun h => rfl⟩
  case boxR ag sz t x =>
    simp only [evI]
    split
    · exact ⟨some _, fun h => rfl⟩
    · exact ⟨none, fun h => rfl⟩
  case build zero ps => exact ⟨(fillA zero (ps.map fun p => (p.1, p.2.1, p.2.2.ev s))).map .agg, fun h => by simp only [evI, Option.map_map]; rfl⟩
  case buildR sz t els =>
    simp only [evI]
    split
    · exact ⟨some _, fun h => rfl⟩
    · exact ⟨none, fun h => rfl⟩
  case sliceS x lo hi =>
    simp only [evI]
    split
    · rename_i b hb
      cases h1 : bound (lo.map (X.ev s)) 0 with
      | none => exact ⟨none, fun h => rfl⟩
      | some l =>
        cases h2 : bound (hi.map (X.ev s)) b.size with
        | none => exact ⟨none, fun h => rfl⟩
        | some m =>
          simp only [Option.bind_some]
          split
          · exact ⟨some _, fun h => rfl⟩
          · exact ⟨none, fun h => rfl⟩
    · exact ⟨none, fun h => rfl⟩
  case faddr ag off sz x =>
    simp only [evI]
    split
    · exact ⟨some _, fun h => rfl⟩
    · rename_i g cs _
      exact ⟨(partA ag off sz cs).map (.rp g), fun h => by rw [Option.map_map]; rfl⟩
    · exact ⟨none, fun h => rfl⟩
  case field ag off sz x =>
    simp only [evI]
    split
    · exact ⟨_, fun h => rfl⟩
    · exact ⟨none, fun h => rfl⟩
  case iaddrA n sz ag x i =>
    simp only [evI]
    split
    · split
      · split
        · exact ⟨some _, fun h => rfl⟩
        · rename_i g cs _
          split
          · exact ⟨(partA ag _ sz cs).map (.rp g), fun h => by rw [Option.map_map]; rfl⟩
          · exact ⟨none, fun h => rfl⟩
        · exact ⟨none, fun h => rfl⟩
      · exact ⟨none, fun h => rfl⟩
    · exact ⟨none, fun h => rfl⟩
  case index n sz ag x i =>
    simp only [evI]
    split
    · split
      · split
        · exact ⟨_, fun h => rfl⟩
        · exact ⟨none, fun h => rfl⟩
      · exact ⟨none, fun h => rfl⟩
    · exact ⟨none, fun h => rfl⟩
  case indexS x i =>
    simp only [evI]
    split
    · split
      · exact ⟨some _, fun h => rfl⟩
      · exact ⟨none, fun h => rfl⟩
    · exact ⟨none, fun h => rfl⟩
  case ext x i =>
    simp only [evI]
    split
    · split
      · exact ⟨some _, fun h => rfl⟩
      · exact ⟨none, fun h => rfl⟩
    · exact ⟨none, fun h => rfl⟩
  case mkIf t x => exact ⟨some _, fun h => rfl⟩
  case mkFn f caps => exact ⟨some _, fun h => rfl⟩
  case lenS x =>
    simp only [evI]
    split
    · exact ⟨some _, fun h => rfl⟩
    · exact ⟨none, fun h => rfl⟩
  case eqNil neg x => exact ⟨(isNilV (x.ev s)).map fun b => .bool (if neg then !b else b), fun h => by simp only [evI, Option.map_map]; rfl⟩
  case fail => exact ⟨none, fun h => rfl⟩
  case eqNl ifc neg x => exact ⟨(isNl ifc (x.ev s)).map fun b => .bool (if neg then !b else b), fun h => by simp only [evI, Option.map_map]; rfl⟩
  case nilChk x =>
    simp only [evI]
    split
    · exact ⟨some _, fun h => rfl⟩
    · exact ⟨some _, fun h => rfl⟩
    · exact ⟨none, fun h => rfl⟩
  case s2a n sz x =>
    simp only [evI]
    split
    · split
      · exact ⟨some _, fun h => rfl⟩
      · exact ⟨none, fun h => rfl⟩
    · exact ⟨none, fun h => rfl⟩
  case lenA n => exact ⟨some _, fun h => rfl⟩
  case callP f args => exact ⟨_, fun h => rfl⟩
  case mm mx xs => exact ⟨_, fun h => rfl⟩
  case loadR ag sz x =>
    simp only [evI]
    split
    · split
      · exact ⟨some _, fun h => rfl⟩
      · exact ⟨none, fun h => rfl⟩
    · exact ⟨none, fun h => rfl⟩
  case iaddrR sz x i =>
    simp only [evI]
    split
    · split
      · split
        · exact ⟨some _, fun h => rfl⟩
        · exact ⟨none, fun h => rfl⟩
      · exact ⟨none, fun h => rfl⟩
    · exact ⟨none, fun h => rfl⟩
  case sliceR sz x lo hi =>
    simp only [evI]
    split
    · rename_i g z l hx
      cases h1 : bound (lo.map (X.ev s)) 0 with
      | none => exact ⟨none, fun h => rfl⟩
      | some a =>
        cases h2 : bound (hi.map (X.ev s)) l.length with
        | none => exact ⟨none, fun h => rfl⟩
        | some b =>
          simp only [Option.bind_some]
          split
          · split
            · exact ⟨some _, fun h => rfl⟩
            · exact ⟨none, fun h => rfl⟩
          · exact ⟨none, fun h => rfl⟩
    · exact ⟨none, fun h => rfl⟩
  case sliceAR n sz x lo hi =>
    simp only [evI]
    split
    · rename_i g cs hx
      cases h1 : bound (lo.map (X.ev s)) 0 with
      | none => exact ⟨none, fun h => rfl⟩
      | some a =>
        cases h2 : bound (hi.map (X.ev s)) n with
        | none => exact ⟨none, fun h => rfl⟩
        | some b =>
          simp only [Option.bind_some]
          split
          · split
            · exact ⟨some _, fun h => rfl⟩
            · exact ⟨none, fun h => rfl⟩
          · exact ⟨none, fun h => rfl⟩
    · exact ⟨none, fun h => rfl⟩
  case capNil x =>
    simp only [evI]
    split
    · exact ⟨some _, fun h => rfl⟩
    · exact ⟨none, fun h => rfl⟩
  case buildE => exact ⟨some _, fun h => rfl⟩
  case lenR x =>
    simp only [evI]
    split
    · exact ⟨some _, fun h => rfl⟩
    · exact ⟨none, fun h => rfl⟩
  case appE sz b x y => exact ⟨appEV sz b (x.ev s) (y.ev s), fun h => rfl⟩
  case callF ro f args => cases ro <;> simp at hc
  case callV ro x args => cases ro <;> simp at hc

/-! ### two operations that do not ask for one another -/

def readsO (o : IO_) : List Nat := readsI o.op ++ (match o.guard with | some (t, _) => [t] | none => [])

/-- What looks at memory stays out of the way of what grows a row, or makes memory anew. -/
def far : I → I → Bool
  | .append _ _ _ _ _, .loadC _ _ _ => true
  | .loadC _ _ _, .append _ _ _ _ _ => true
  | .appF _ _ _ _ _, .loadC _ _ _ => true
  | .loadC _ _ _, .appF _ _ _ _ _ => true
  | .buildSl _ _ _, .loadC _ _ _ => true
  | .appF _ _ _ _ _, .alloc _ _ _ => true
  | .loadS k _ _ _, .storeS k' _ _ _ => k != k'
  | .storeS k' _ _ _, .loadS k _ _ _ => k != k'
  | x, .alloc _ _ _ => decide (clsI x ≤ 1)
  | x, .buildSl _ _ _ => decide (clsI x ≤ 1)
  | x, .callA _ _ => decide (clsI x ≤ 1)
  | _, _ => false

def indep (x y : IO_) : Bool :=
  (match x.dst with | some d => !(readsO y).contains d && y.dst != some d | none => true) &&
  (match y.dst with | some d => !(readsO x).contains d | none => true) &&
  ((decide (clsI x.op ≤ 1) && decide (clsI y.op ≤ 1)) || clsI x.op == 0 || clsI y.op == 0 || far x.op y.op)

theorem get_put {s : Slots} {d : Option Nat} {v : AV} {t : Nat} : get (put s d v) t = if d = some t then v else get s t := by
  cases d with
  | none => simp [put]
  | some d =>
    simp only [put, get, Option.some.injEq]
    by_cases h : t = d
    · simp [h]
    · simp [h, Ne.symm h]

/-- The same slots, the same memory. -/
def Same (x y : St) : Prop := (∀ t, get x.s t = get y.s t) ∧ x.h = y.h

theorem Same.refl (x : St) : Same x x := ⟨fun _ => rfl, rfl⟩
theorem Same.symm {x y : St} (h : Same x y) : Same y x := ⟨fun t => (h.1 t).symm, h.2.symm⟩
theorem Same.trans {x y z : St} (h : Same x y) (k : Same y z) : Same x z := ⟨fun t => (h.1 t).trans (k.1 t), h.2.trans k.2⟩

theorem guardOk_congr {s s' : Slots} {g : Option (Nat × Bool)} (h : ∀ t ∈ (match g with | some (t, _) => [t] | none => []), get s t = get s' t) : guardOk s g = guardOk s' g := by
  cases g with
  | none => rfl
  | some p =>
    obtain ⟨t, b⟩ := p
    simp only [guardOk]
    rw [h t (by simp)]

/-- What an operation does, apart from where it is laid. -/
def coreO (E : Env) (call : CallFn) (s : Slots) (h : Heap) (o : IO_) : Option (AV × Heap) :=
  (guardOk s o.guard).bind fun b => if b then evI E call s h o.op else some (.tup [], h)

theorem evO_core (x : St) (o : IO_) : evO E call x o = (coreO E call x.s x.h o).map fun r => ⟨put x.s o.dst r.1, r.2⟩ := by
  unfold evO coreO
  cases guardOk x.s o.guard with
  | none => rfl
  | some b => cases b <;> rfl

theorem coreO_congr {s s' : Slots} {h : Heap} {o : IO_} (hr : ∀ t ∈ readsO o, get s t = get s' t) : coreO E call s h o = coreO E call s' h o := by
  unfold coreO
  rw [guardOk_congr (s := s) (s' := s') fun t ht => hr t (by simp only [readsO, List.mem_append]; exact .inr ht), evI_congr (s := s) (s' := s') fun t ht => hr t (by simp only [readsO, List.mem_append]; exact .inl ht)]

theorem coreO_quiet {s : Slots} {h h' : Heap} {o : IO_} {v : AV} (hc : clsI o.op ≤ 1) (he : coreO E call s h o = some (v, h')) : h' = h := by
  unfold coreO at he
  cases hg : guardOk s o.guard with
  | none => rw [hg] at he; cases he
  | some b =>
    rw [hg] at he
    cases b
    · injection he with he; injection he with _ he; exact he.symm
    · exact evI_quiet hc he

theorem coreO_slot {s : Slots} {o : IO_} (hc : clsI o.op = 0) : ∃ f : Option AV, ∀ h, coreO E call s h o = f.map fun v => (v, h) := by
  obtain ⟨f, hf⟩ := evI_slot (E := E) (call := call) (s := s) hc
  unfold coreO
  cases guardOk s o.guard with
  | none => exact ⟨none, fun h => rfl⟩
  | some b =>
    cases b
    · exact ⟨some (.tup []), fun h => rfl⟩
    · exact ⟨f, fun h => hf h⟩

/-! ### what looks at memory, in memory that has grown -/

/-- The same values, but for rows; more may lie behind. -/
def Cells (h h' : Heap) : Prop := ∀ (l : Nat) (ag : Bool) (vs : List AV) (t : TypeId), h'[l]? = some (AObj.cells ag vs t) ↔ h[l]? = some (AObj.cells ag vs t)
theorem append_cells {s : Slots} {h h' : Heap} {sz by_ : Nat} {t : TypeId} {x y : X} {v : AV} (he : evI E call s h (.append sz by_ t x y) = some (v, h')) : Cells h h' := by
  simp only [evI] at he
  cases h1 : cellsIn h sz (y.ev s) with
  | none => rw [h1] at he; cases he
  | some ys =>
    rw [h1] at he
    simp only [Option.bind_some] at he
    cases h2 : lenIn (y.ev s) with
    | none => rw [h2] at he; cases he
    | some m =>
      rw [h2] at he
      simp only [Option.bind_some] at he
      split at he
      · split at he
        · injection he with he
          injection he with _ he
          subst he
          intro l ag vs t'
          by_cases hl : l < h.length
          · rw [List.getElem?_append_left hl]
          · rw [List.getElem?_append_right (by omega), List.getElem?_eq_none (l := h) (by omega)]
            cases hk : l - h.length with
            | zero => simp
            | succ k => simp
        · cases he
      · rename_i z l ver n hx
        split at he
        · rename_i w z' vs t' hl
          split at he
          · injection he with he
            injection he with _ he
            subst he
            intro l' ag vs' t''
            have hlt : l < h.length := (List.getElem?_eq_some_iff.1 hl).1
            by_cases hll : l' = l
            · subst hll
              rw [List.getElem?_set_self hlt, hl]
              simp
            · rw [List.getElem?_set_ne (Ne.symm hll)]
          · cases he
        · cases he
      · cases he
theorem appF_cells {s : Slots} {h h' : Heap} {sz by_ : Nat} {t : TypeId} {x y : X} {v : AV} (he : evI E call s h (.appF sz by_ t x y) = some (v, h')) : Cells h h' := by
  simp only [evI] at he
  cases h1 : cellsIn h sz (y.ev s) with
  | none => rw [h1] at he; cases he
  | some ys =>
    rw [h1] at he
    simp only [Option.bind_some] at he
    cases h2 : lenIn (y.ev s) with
    | none => rw [h2] at he; cases he
    | some m =>
      rw [h2] at he
      simp only [Option.bind_some] at he
      unfold appFV at he
      split at he
      · rename_i z l ver n hx
        split at he
        · rename_i w z' vs t' hl
          split at he
          · injection he with he
            injection he with _ he
            subst he
            intro l' ag vs' t''
            have hlt : l < h.length := (List.getElem?_eq_some_iff.1 hl).1
            by_cases hll : l' = l
            · subst hll
              rw [List.getElem?_set_self hlt, hl]
              simp
            · rw [List.getElem?_set_ne (Ne.symm hll)]
          · cases he
        · cases he
      · cases he
theorem buildSl_cells {s : Slots} {h h' : Heap} {sz : Nat} {t : TypeId} {els : List X} {v : AV} (he : evI E call s h (.buildSl sz t els) = some (v, h')) : Cells h h' := by
  simp only [evI] at he
  split at he
  · injection he with he
    injection he with _ he
    subst he
    intro l ag vs t'
    by_cases hl : l < h.length
    · rw [List.getElem?_append_left hl]
    · rw [List.getElem?_append_right (by omega), List.getElem?_eq_none (l := h) (by omega)]
      cases h2 : l - h.length <;> simp
  · cases he
theorem loadC_cells {s : Slots} {h h' : Heap} {ag : Bool} {sz : Nat} {x : X} {v : AV} (hc : Cells h h') (he : evI E call s h (.loadC ag sz x) = some (v, h)) : evI E call s h' (.loadC ag sz x) = some (v, h') := by
  simp only [evI] at he ⊢
  split at he
  · split at he
    · rename_i hsh
      injection he with he
      injection he with he _
      subst he
      simp only [hsh, if_true]
    · cases he
  · split at he
    · rename_i hv
      split at he
      · rename_i ag' vs t hl
        simp only [hv, if_true, (hc _ _ _ _).2 hl]
        cases hp : partA ag _ sz vs with
        | none => rw [hp] at he; cases he
        | some z =>
          rw [hp] at he
          injection he with he
          injection he with he _
          subst he
          rfl
      · cases he
    · cases he
  · cases he
theorem Cells.symm {h h' : Heap} (hc : Cells h h') : Cells h' h := fun l ag vs t => (hc l ag vs t).symm

theorem get_more {h : Heap} {o : AObj} {l : Nat} {x : AObj} (hl : h[l]? = some x) : (h ++ [o])[l]? = some x := by
  rw [List.getElem?_append_left (List.getElem?_eq_some_iff.1 hl).1]
  exact hl
theorem objCells_more {h : Heap} {o : AObj} {l ver : Nat} {vs : List AV} (hv : objCells h l ver = some vs) : objCells (h ++ [o]) l ver = some vs := by
  unfold objCells at hv ⊢
  cases hl : h[l]? with
  | none => rw [hl] at hv; cases hv
  | some x => rw [get_more hl]; rw [hl] at hv; exact hv
theorem fldQ_more {h : Heap} {o : AObj} {q : Option (Bool × Nat × Nat)} {x v : AV} (hv : fldQ h q x = some v) : fldQ (h ++ [o]) q x = some v := by
  cases x <;> first | (cases hv; done) | skip
  cases q with
  | none => cases hv
  | some q =>
    simp only [fldQ] at hv ⊢
    rename_i l ver of
    cases ho : objCells h l ver with
    | none => rw [ho] at hv; cases hv
    | some vs => rw [objCells_more ho]; rw [ho] at hv; exact hv
theorem cellsIn_more {h : Heap} {o : AObj} {sz : Nat} {x : AV} {vs : List AV} (hv : cellsIn h sz x = some vs) : cellsIn (h ++ [o]) sz x = some vs := by
  cases x <;> simp only [cellsIn] at hv ⊢ <;> try exact hv
  rename_i z l ver off n
  split at hv
  · rename_i hz
    rw [if_pos hz]
    cases ho : objCells h l ver with
    | none => rw [ho] at hv; cases hv
    | some ws => rw [objCells_more ho]; rw [ho] at hv; exact hv
  · cases hv
theorem mapM_more {α β : Type} {f g : α → Option β} (hfg : ∀ a b, f a = some b → g a = some b) : ∀ {l : List α} {m : List β}, l.mapM f = some m → l.mapM g = some m
  | [], m, h => h
  | a :: l, m, h => by
    rw [List.mapM_cons] at h ⊢
    cases ha : f a with
    | none => rw [ha] at h; cases h
    | some b =>
      rw [ha] at h
      rw [hfg a b ha]
      cases hl : l.mapM f with
      | none => rw [hl] at h; cases h
      | some m' =>
        rw [hl] at h
        rw [mapM_more hfg hl]
        exact h
theorem entsOf_more {h : Heap} {o : AObj} {kk : Kk} {x : AV} {es : Ents} (he : entsOf h kk x = some es) : entsOf (h ++ [o]) kk x = some es := by
  cases x <;> simp only [entsOf] at he ⊢ <;> try exact he
  case mp l =>
    cases hl : h[l]? with
    | none => rw [hl] at he; cases he
    | some y => rw [get_more hl]; rw [hl] at he; exact he
theorem nilMapV_more {h : Heap} {o : AObj} {x : AV} {b : Bool} (he : nilMapV h x = some b) : nilMapV (h ++ [o]) x = some b := by
  cases x <;> simp only [nilMapV] at he ⊢ <;> try exact he
  case mp l =>
    cases hl : h[l]? with
    | none => rw [hl] at he; cases he
    | some y => rw [get_more hl]; rw [hl] at he; exact he
theorem snap_more {h : Heap} {o : AObj} {g : Bool} : ∀ {d : Nat} {x v : AV}, snap g h d x = some v → snap g (h ++ [o]) d x = some v
  | 0, x, v, hs => by cases hs
  | d + 1, x, v, hs => by
    cases x <;> simp only [snap] at hs ⊢ <;> try exact hs
    case ref l ver off =>
      split at hs
      · rename_i ag vs t hl
        rw [get_more hl]
        simp only
        split at hs
        · rename_i hc
          rw [if_pos hc]
          cases hm : vs.mapM (snap g h d) with
          | none => rw [hm] at hs; cases hs
          | some ws => rw [mapM_more (fun a b => snap_more) hm]; rw [hm] at hs; exact hs
        · cases hs
      · cases hs
    case sl z l ver off n =>
      have key : ∀ vs, objCells h l ver = some vs → ((objCells h l ver).bind fun vs => if 0 < z ∧ off + n * z ≤ vs.length then (((vs.drop off).take (n * z)).mapM (snap g h d)).map fun ws => AV.rs g z (group (z != 1) z n ws) else none) = some v → ((objCells (h ++ [o]) l ver).bind fun vs => if 0 < z ∧ off + n * z ≤ vs.length then (((vs.drop off).take (n * z)).mapM (snap g (h ++ [o]) d)).map fun ws => AV.rs g z (group (z != 1) z n ws) else none) = some v := by
        intro vs hv hs
        rw [objCells_more hv]
        rw [hv] at hs
        simp only [Option.bind_some] at hs ⊢
        split at hs
        · rename_i hc
          rw [if_pos hc]
          cases hm : ((vs.drop off).take (n * z)).mapM (snap g h d) with
          | none => rw [hm] at hs; cases hs
          | some ws => rw [mapM_more (fun a b => snap_more) hm]; rw [hm] at hs; exact hs
        · cases hs
      have some_of : ((objCells h l ver).bind fun vs => if 0 < z ∧ off + n * z ≤ vs.length then (((vs.drop off).take (n * z)).mapM (snap g h d)).map fun ws => AV.rs g z (group (z != 1) z n ws) else none) = some v → ∃ vs, objCells h l ver = some vs := by
        intro hs
        cases ho : objCells h l ver with
        | none => rw [ho] at hs; cases hs
        | some vs => exact ⟨vs, rfl⟩
      split at hs
      · rename_i hl
        rw [get_more hl]
        obtain ⟨vs, hv⟩ := some_of hs
        exact key vs hv hs
      · rename_i hl
        rw [get_more hl]
        obtain ⟨vs, hv⟩ := some_of hs
        exact key vs hv hs
      · cases hs
    case mp l =>
      cases hl : h[l]? with
      | none => rw [hl] at hs; cases hs
      | some y => rw [get_more hl]; rw [hl] at hs; exact hs
    case fn f cap =>
      cases hm : cap.mapM (snap g h d) with
      | none => rw [hm] at hs; cases hs
      | some ws => rw [mapM_more (fun a b => snap_more) hm]; rw [hm] at hs; exact hs
    case iface t x =>
      cases hm : snap g h d x with
      | none => rw [hm] at hs; cases hs
      | some ws => rw [snap_more hm]; rw [hm] at hs; exact hs
    case agg cs =>
      cases hm : cs.mapM (snap g h d) with
      | none => rw [hm] at hs; cases hs
      | some ws => rw [mapM_more (fun a b => snap_more) hm]; rw [hm] at hs; exact hs
    case tup cs =>
      cases hm : cs.mapM (snap g h d) with
      | none => rw [hm] at hs; cases hs
      | some ws => rw [mapM_more (fun a b => snap_more) hm]; rw [hm] at hs; exact hs
theorem doCall_more {h : Heap} {ob : AObj} {f : FuncId} {vals : List AV} {v : AV} {h' : Heap} (hd : doCall E call true h f vals = some (v, h')) : doCall E call true (h ++ [ob]) f vals = some (v, h ++ [ob]) := by
  have hq := doCall_ro hd
  subst hq
  unfold doCall at hd ⊢
  cases hs : snapL true h' vals with
  | none => rw [hs] at hd; cases hd
  | some vs =>
    have hs' : snapL true (h' ++ [ob]) vals = some vs := mapM_more (fun a b => snap_more) hs
    rw [hs']
    rw [hs] at hd
    simp only [Option.bind_some] at hd ⊢
    cases hp : pcallOf E call f vs with
    | none => rw [hp] at hd; cases hd
    | some res =>
      rw [hp] at hd
      simp only [Option.bind_some, if_true] at hd ⊢
      split at hd
      · cases hd
      · rename_i hc
        rw [if_neg hc]
        cases hm : snap false res.2 depth res.1 with
        | none => rw [hm] at hd; cases hd
        | some z =>
          rw [hm] at hd
          injection hd with hd
          injection hd with hd _
          subst hd
          rfl
theorem evI_more {s : Slots} {h : Heap} {ob : AObj} {op : I} {v : AV} (hc : clsI op ≤ 1) (he : evI E call s h op = some (v, h)) : evI E call s (h ++ [ob]) op = some (v, h ++ [ob]) := by
  by_cases h0 : clsI op = 0
  · obtain ⟨f, hf⟩ := evI_slot (E := E) (call := call) (s := s) h0
    rw [hf] at he ⊢
    cases f with
    | none => cases he
    | some z => injection he with he; injection he with he _; subst he; rfl
  cases op <;> simp only [clsI] at hc h0 <;> first | (exact absurd trivial h0) | (exfalso; omega) | skip
  case callQ f x =>
    simp only [evI] at he ⊢
    cases h1 : fldQ h (E.rd f) (x.ev s) with
    | none => rw [h1] at he; cases he
    | some z =>
      rw [fldQ_more h1]
      rw [h1] at he
      injection he with he; injection he with he _; subst he; rfl
  case mlen kk x =>
    simp only [evI] at he ⊢
    cases h1 : entsOf h kk (x.ev s) with
    | none => rw [h1] at he; cases he
    | some es =>
      rw [entsOf_more h1]
      rw [h1] at he
      injection he with he; injection he with he _; subst he; rfl
  case eqNlm neg x =>
    simp only [evI] at he ⊢
    cases h1 : nilMapV h (x.ev s) with
    | none => rw [h1] at he; cases he
    | some es =>
      rw [nilMapV_more h1]
      rw [h1] at he
      injection he with he; injection he with he _; subst he; rfl
  case look ok kk z x y =>
    simp only [evI] at he ⊢
    cases h1 : entsOf h kk (x.ev s) with
    | none => rw [h1] at he; cases he
    | some es =>
      rw [entsOf_more h1]
      rw [h1] at he
      simp only [Option.bind_some] at he ⊢
      cases h2 : avP (y.ev s) with
      | none => rw [h2] at he; cases he
      | some p =>
        rw [h2] at he
        simp only [Option.bind_some] at he ⊢
        split at he
        · rename_i hk
          rw [if_pos hk]
          injection he with he; injection he with he _; subst he; rfl
        · cases he
  case callF ro f args =>
    cases ro
    · simp at hc
    · exact doCall_more he
  case callV ro x args =>
    cases ro
    · simp at hc
    · simp only [evI] at he ⊢
      split at he
      · exact doCall_more he
      · cases he
  case load ag sz x =>
    simp only [evI] at he ⊢
    split at he
    · split at he
      · rename_i hsh
        injection he with he; injection he with he _; subst he
        simp only [hsh, if_true]
      · cases he
    · rename_i l ver o hx
      cases hv : objCells h l ver with
      | none => rw [hv] at he; cases he
      | some vs =>
        rw [objCells_more hv]
        rw [hv] at he
        simp only [Option.bind_some] at he ⊢
        cases hp : partA ag o sz vs with
        | none => rw [hp] at he; cases he
        | some z => rw [hp] at he; injection he with he; injection he with he _; subst he; rfl
    · cases he
  case loadS k ag sz x =>
    have hb : ∀ l ver vs, objCells h l ver = some vs → objCells (h ++ [ob]) l ver = some vs := fun l ver vs hv => objCells_more hv
    simp only [evI] at he ⊢
    split at he
    · split at he
      · rename_i l ver ol hx hl
        rw [if_pos hl]
        cases ho : objCells h l ver with
        | none => rw [ho] at he; cases he
        | some vs =>
          rw [ho] at he
          rw [hb l ver vs ho]
          simp only [Option.bind_some] at he ⊢
          cases hp : partA ag ol sz vs with
          | none => rw [hp] at he; cases he
          | some z =>
            rw [hp] at he
            injection he with he
            injection he with he _
            subst he
            rfl
      · cases he
    · cases he
  case loadC ag sz x =>
    simp only [evI] at he ⊢
    split at he
    · split at he
      · rename_i hsh
        injection he with he; injection he with he _; subst he
        simp only [hsh, if_true]
      · cases he
    · split at he
      · rename_i hv
        rw [if_pos hv]
        split at he
        · rename_i ag' vs t hl
          rw [get_more hl]
          simp only
          cases hp : partA ag _ sz vs with
          | none => rw [hp] at he; cases he
          | some z => rw [hp] at he; injection he with he; injection he with he _; subst he; rfl
        · cases he
      · cases he
    · cases he
  case slice sz x lo hi =>
    simp only [evI] at he ⊢
    cases hn : lenIn (x.ev s) with
    | none => rw [hn] at he; cases he
    | some n =>
      rw [hn] at he
      simp only [Option.bind_some] at he ⊢
      cases h1 : bound (lo.map (X.ev s)) 0 with
      | none => rw [h1] at he; cases he
      | some l =>
        rw [h1] at he
        simp only [Option.bind_some] at he ⊢
        cases h2 : bound (hi.map (X.ev s)) n with
        | none => rw [h2] at he; cases he
        | some m =>
          rw [h2] at he
          simp only [Option.bind_some] at he ⊢
          split at he
          · rename_i hcc
            rw [if_pos hcc]
            split at he
            · injection he with he; injection he with he _; subst he; rfl
            · split at he
              · rename_i hz
                rw [if_pos hz]
                injection he with he; injection he with he _; subst he; rfl
              · cases he
            · split at he
              · rename_i hz
                obtain ⟨vs, hv⟩ := Option.isSome_iff_exists.1 hz.2
                rw [if_pos ⟨hz.1, by rw [objCells_more hv]; rfl⟩]
                injection he with he; injection he with he _; subst he; rfl
              · cases he
            · cases he
          · cases he
  case sliceA n sz x lo hi =>
    simp only [evI] at he ⊢
    cases h1 : bound (lo.map (X.ev s)) 0 with
    | none => rw [h1] at he; cases he
    | some l =>
      rw [h1] at he
      simp only [Option.bind_some] at he ⊢
      cases h2 : bound (hi.map (X.ev s)) n with
      | none => rw [h2] at he; cases he
      | some m =>
        rw [h2] at he
        simp only [Option.bind_some] at he ⊢
        split at he
        · rename_i hcc
          rw [if_pos hcc]
          split at he
          · split at he
            · rename_i hl
              rw [get_more hl]
              injection he with he; injection he with he _; subst he; rfl
            · cases he
          · split at he
            · rename_i hz
              rw [if_pos hz]
              injection he with he; injection he with he _; subst he; rfl
            · cases he
          · cases he
        · cases he
  case iaddr sz x i =>
    simp only [evI] at he ⊢
    split at he
    · split at he
      · split at he
        · rename_i hz
          rw [if_pos hz]
          injection he with he; injection he with he _; subst he; rfl
        · cases he
      · split at he
        · rename_i hz
          obtain ⟨vs, hv⟩ := Option.isSome_iff_exists.1 hz.2.2.2
          rw [if_pos ⟨hz.1, hz.2.1, hz.2.2.1, by rw [objCells_more hv]; rfl⟩]
          injection he with he; injection he with he _; subst he; rfl
        · cases he
      · cases he
    · cases he
  case len x =>
    simp only [evI] at he ⊢
    split at he
    · rename_i hcur
      have hcur' : curOk (h ++ [ob]) (x.ev s) = true := by
        generalize x.ev s = y at hcur
        cases y <;> simp only [curOk] at hcur ⊢
        obtain ⟨vs, hv⟩ := Option.isSome_iff_exists.1 hcur
        rw [objCells_more hv]
        rfl
      rw [if_pos hcur']
      cases hn : lenIn (x.ev s) with
      | none => rw [hn] at he; cases he
      | some n => rw [hn] at he; injection he with he; injection he with he _; subst he; rfl
    · cases he
  case toStr x =>
    simp only [evI] at he ⊢
    cases h1 : cellsIn h 1 (x.ev s) with
    | none => rw [h1] at he; cases he
    | some cs =>
      rw [cellsIn_more h1]
      rw [h1] at he
      simp only [Option.bind_some] at he ⊢
      cases h2 : lenIn (x.ev s) with
      | none => rw [h2] at he; cases he
      | some n =>
        rw [h2] at he
        simp only [Option.bind_some] at he ⊢
        cases h3 : u8sV cs with
        | none => rw [h3] at he; cases he
        | some ns => rw [h3] at he; injection he with he; injection he with he _; subst he; rfl

theorem make_more {s : Slots} {h h' : Heap} {op : I} {v : AV} (hop : (∃ ag z t, op = .alloc ag z t) ∨ ∃ sz t els, op = .buildSl sz t els) (he : evI E call s h op = some (v, h')) : ∃ ob, h' = h ++ [ob] := by
  rcases hop with ⟨ag, z, t, rfl⟩ | ⟨sz, t, els, rfl⟩
  · simp only [evI] at he
    injection he with he
    injection he with _ he
    exact ⟨_, he.symm⟩
  · simp only [evI] at he
    split at he
    · injection he with he
      injection he with _ he
      exact ⟨_, he.symm⟩
    · cases he
/-- Two objects that are not one. -/
theorem evI_mores {s : Slots} {op : I} {v : AV} (hc : clsI op ≤ 1) : ∀ (obs : List AObj) (h : Heap), evI E call s h op = some (v, h) → evI E call s (h ++ obs) op = some (v, h ++ obs)
  | [], h, he => by simpa using he
  | ob :: obs, h, he => by
    have := evI_mores hc obs (h ++ [ob]) (evI_more hc he)
    simpa using this
theorem loadS_set {s : Slots} {h h' : Heap} {k : Nat} {ag : Bool} {sz : Nat} {x : X} {v : AV} (hk : h'[k]? = h[k]?) (he : evI E call s h (.loadS k ag sz x) = some (v, h)) : evI E call s h' (.loadS k ag sz x) = some (v, h') := by
  simp only [evI] at he ⊢
  split at he
  · split at he
    · rename_i l ver ol hx hl
      subst hl
      rw [if_pos rfl]
      have e : objCells h' l ver = objCells h l ver := by unfold objCells; rw [hk]
      rw [e]
      cases ho : objCells h l ver with
      | none => rw [ho] at he; cases he
      | some vs =>
        rw [ho] at he
        simp only [Option.bind_some] at he ⊢
        cases hp : partA ag ol sz vs with
        | none => rw [hp] at he; cases he
        | some z =>
          rw [hp] at he
          injection he with he
          injection he with he _
          subst he
          rfl
    · cases he
  · cases he
theorem storeS_set {s : Slots} {h h' : Heap} {k : Nat} {sz : Nat} {x y : X} {v : AV} (he : evI E call s h (.storeS k sz x y) = some (v, h')) (j : Nat) (hj : j ≠ k) : h'[j]? = h[j]? := by
  simp only [evI] at he
  split at he
  · split at he
    · rename_i l ver ol hx hl
      subst hl
      unfold storeAt at he
      split at he
      · split at he
        · split at he
          · injection he with he; injection he with _ he; subst he
            exact List.getElem?_set_ne (Ne.symm hj)
          · cases he
        · split at he
          · injection he with he; injection he with _ he; subst he
            exact List.getElem?_set_ne (Ne.symm hj)
          · cases he
        · cases he
      · cases he
    · cases he
  · cases he
/-- A row that is frozen, and a new variable. -/
theorem appF_alloc {s : Slots} {h h1 h2 : Heap} {sz by_ : Nat} {t : TypeId} {x y : X} {ag : Bool} {z : List AV} {t2 : TypeId} {v w : AV} (hx : evI E call s h (.appF sz by_ t x y) = some (v, h1)) (hy : evI E call s h1 (.alloc ag z t2) = some (w, h2)) :
    ∃ h3, evI E call s h (.alloc ag z t2) = some (w, h3) ∧ evI E call s h3 (.appF sz by_ t x y) = some (v, h2) := by
  simp only [evI] at hx hy ⊢
  injection hy with hy
  injection hy with hw hh
  subst hw; subst hh
  cases e1 : cellsIn h sz (y.ev s) with
  | none => rw [e1] at hx; cases hx
  | some ys =>
    rw [e1] at hx
    simp only [Option.bind_some] at hx
    cases e2 : lenIn (y.ev s) with
    | none => rw [e2] at hx; cases hx
    | some m =>
      rw [e2] at hx
      simp only [Option.bind_some] at hx
      have key : h1.length = h.length ∧ appFV (h ++ [.cells ag z t2]) sz by_ t ys m (x.ev s) = some (v, h1 ++ [.cells ag z t2]) := by
        unfold appFV at hx ⊢
        split at hx
        · rename_i z' l ver n hxx
          split at hx
          · rename_i w' z'' vs t' hl
            split at hx
            · rename_i hc
              injection hx with hx
              injection hx with hv hh
              subst hh
              have hlt : l < h.length := (List.getElem?_eq_some_iff.1 hl).1
              refine ⟨by rw [List.length_set], ?_⟩
              rw [List.getElem?_append_left hlt, hl]
              simp only
              rw [if_pos hc, List.set_append_left _ _ hlt, hv]
            · cases hx
          · cases hx
        · cases hx
      refine ⟨_, by rw [key.1], ?_⟩
      rw [cellsIn_more e1]
      simp only [Option.bind_some]
      exact key.2
/-- Two operations that stay out of one another's way. -/
theorem evI_far {s : Slots} {h h1 h2 : Heap} {x y : I} {v w : AV} (hf : far x y = true) (hx : evI E call s h x = some (v, h1)) (hy : evI E call s h1 y = some (w, h2)) : ∃ h3, evI E call s h y = some (w, h3) ∧ evI E call s h3 x = some (v, h2) := by
  have hmake : clsI x ≤ 1 → ((∃ ag z t, y = .alloc ag z t) ∨ ∃ sz t els, y = .buildSl sz t els) → ∃ h3, evI E call s h y = some (w, h3) ∧ evI E call s h3 x = some (v, h2) := by
    intro hc hm
    have e1 := evI_quiet hc hx
    subst e1
    obtain ⟨ob, rfl⟩ := make_more hm hy
    exact ⟨_, hy, evI_more hc hx⟩
  cases y <;> first | (cases x <;> cases hf; done) | skip
  case alloc ag z t =>
    cases x
    case appF sz by_ t2 a b => exact appF_alloc hx hy
    all_goals exact hmake (by simpa [far] using hf) (.inl ⟨_, _, _, rfl⟩)
  case callA f z =>
    have hc : clsI x ≤ 1 := by cases x <;> simpa [far] using hf
    have e1 := evI_quiet hc hx
    subst e1
    have hy0 := hy
    simp only [evI, mkK] at hy
    split at hy
    · rename_i q hq
      cases hz : q h1 (z.ev s) with
      | none => rw [hz] at hy; cases hy
      | some r =>
        rw [hz] at hy
        injection hy with hy
        injection hy with hy1 hy2
        subst hy1; subst hy2
        exact ⟨_, hy0, evI_mores hc _ _ hx⟩
    · cases hy
  case buildSl sz t els => exact hmake (by cases x <;> simpa [far] using hf) (.inr ⟨_, _, _, rfl⟩)
  case loadC ag sz a =>
    cases x <;> first | cases hf; done | skip
    case append sz2 by_ t a2 b2 =>
      have e1 := evI_quiet (by simp [clsI]) hy
      subst e1
      exact ⟨h, loadC_cells (append_cells hx).symm hy, hx⟩
    case appF sz2 by_ t a2 b2 =>
      have e1 := evI_quiet (by simp [clsI]) hy
      subst e1
      exact ⟨h, loadC_cells (appF_cells hx).symm hy, hx⟩
    case buildSl sz2 t els =>
      have e1 := evI_quiet (by simp [clsI]) hy
      subst e1
      exact ⟨h, loadC_cells (buildSl_cells hx).symm hy, hx⟩
  case storeS k' sz a b =>
    cases x <;> first | cases hf; done | skip
    rename_i k ag sz2 a2
    have hne : k ≠ k' := by simpa [far] using hf
    have e1 := evI_quiet (by simp [clsI]) hx
    subst e1
    exact ⟨h2, hy, loadS_set (storeS_set hy k hne) hx⟩
  case loadS k ag sz a =>
    cases x <;> first | cases hf; done | skip
    rename_i k' sz2 a2 b2
    have hne : k ≠ k' := by simpa [far] using hf
    have e1 := evI_quiet (by simp [clsI]) hy
    subst e1
    exact ⟨h, loadS_set (storeS_set hx k hne).symm hy, hx⟩
  case appF sz by_ t a b =>
    cases x <;> first | cases hf; done | skip
    have e1 := evI_quiet (by simp [clsI]) hx
    subst e1
    exact ⟨h2, hy, loadC_cells (appF_cells hy) hx⟩
  case append sz by_ t a b =>
    cases x <;> first | cases hf; done | skip
    have e1 := evI_quiet (by simp [clsI]) hx
    subst e1
    exact ⟨h2, hy, loadC_cells (append_cells hy) hx⟩
theorem coreO_far {s : Slots} {h h1 h2 : Heap} {x y : IO_} {v w : AV} (hf : far x.op y.op = true) (hx : coreO E call s h x = some (v, h1)) (hy : coreO E call s h1 y = some (w, h2)) : ∃ h3, coreO E call s h y = some (w, h3) ∧ coreO E call s h3 x = some (v, h2) := by
  unfold coreO at hx hy ⊢
  cases gx : guardOk s x.guard with
  | none => rw [gx] at hx; cases hx
  | some bx =>
    cases gy : guardOk s y.guard with
    | none => rw [gy] at hy; cases hy
    | some b_ =>
      rw [gx] at hx
      rw [gy] at hy
      cases bx <;> cases b_ <;> simp only [Option.bind_some, Bool.false_eq_true, if_true, if_false] at hx hy ⊢
      · injection hx with hx; injection hx with hx1 hx2; injection hy with hy; injection hy with hy1 hy2
        subst hx1; subst hx2; subst hy1; subst hy2
        exact ⟨_, rfl, rfl⟩
      · injection hx with hx; injection hx with hx1 hx2
        subst hx1; subst hx2
        exact ⟨_, hy, rfl⟩
      · injection hy with hy; injection hy with hy1 hy2
        subst hy1; subst hy2
        exact ⟨_, rfl, hx⟩
      · exact evI_far hf hx hy

theorem evO_same {x y : St} {o : IO_} {x1 : St} (hs : Same x y) (he : evO E call x o = some x1) : ∃ y1, evO E call y o = some y1 ∧ Same x1 y1 := by
  rw [evO_core] at he ⊢
  have : coreO E call y.s y.h o = coreO E call x.s x.h o := by rw [hs.2]; exact coreO_congr fun t _ => (hs.1 t).symm
  rw [this]
  cases hc : coreO E call x.s x.h o with
  | none => rw [hc] at he; cases he
  | some r =>
    rw [hc] at he
    injection he with he
    subst he
    exact ⟨_, rfl, fun t => by rw [get_put, get_put, hs.1 t], rfl⟩

theorem evO_comm {x x1 x2 : St} {a b : IO_} (hi : indep a b = true) (h1 : evO E call x a = some x1) (h2 : evO E call x1 b = some x2) : ∃ y1 y2, evO E call x b = some y1 ∧ evO E call y1 a = some y2 ∧ Same x2 y2 := by
  simp only [indep, Bool.and_eq_true] at hi
  obtain ⟨⟨hi1, hi2⟩, hi3⟩ := hi
  rw [evO_core] at h1 h2
  cases ha : coreO E call x.s x.h a with
  | none => rw [ha] at h1; cases h1
  | some ra =>
    rw [ha] at h1
    injection h1 with h1
    subst h1
    cases hb : coreO E call (put x.s a.dst ra.1) ra.2 b with
    | none => rw [show (⟨put x.s a.dst ra.1, ra.2⟩ : St).s = put x.s a.dst ra.1 from rfl, hb] at h2; cases h2
    | some rb =>
      rw [show (⟨put x.s a.dst ra.1, ra.2⟩ : St).s = put x.s a.dst ra.1 from rfl, hb] at h2
      injection h2 with h2
      subst h2
      have eb : ∀ h, coreO E call (put x.s a.dst ra.1) h b = coreO E call x.s h b := fun h => coreO_congr fun t ht => by
        rw [get_put]
        split
        · rename_i hd
          rw [hd] at hi1
          simp only [Bool.and_eq_true, Bool.not_eq_true', bne_iff_ne] at hi1
          have h3 : (readsO b).contains t = true := List.contains_iff_mem.2 ht
          rw [hi1.1] at h3
          cases h3
        · rfl
      have ea : ∀ v h, coreO E call (put x.s b.dst v) h a = coreO E call x.s h a := fun v h => coreO_congr fun t ht => by
        rw [get_put]
        split
        · rename_i hd
          rw [hd] at hi2
          simp only [Bool.not_eq_true'] at hi2
          have h3 : (readsO a).contains t = true := List.contains_iff_mem.2 ht
          rw [hi2] at h3
          cases h3
        · rfl
      have hput : ∀ t, get (put (put x.s a.dst ra.1) b.dst rb.1) t = get (put (put x.s b.dst rb.1) a.dst ra.1) t := by
        intro t
        simp only [get_put]
        by_cases h3 : b.dst = some t
        · by_cases h4 : a.dst = some t
          · rw [h4] at hi1
            simp only [Bool.and_eq_true, bne_iff_ne] at hi1
            exact absurd h3 hi1.2
          · simp [h3, h4]
        · simp [h3]
      rw [eb] at hb
      have finish : coreO E call x.s x.h b = some (rb.1, rb.2) → coreO E call x.s rb.2 a = some (ra.1, rb.2) → ∃ y1 y2, evO E call x b = some y1 ∧ evO E call y1 a = some y2 ∧ Same ⟨put (put x.s a.dst ra.1) b.dst rb.1, rb.2⟩ y2 := by
        intro c1 c2
        refine ⟨⟨put x.s b.dst rb.1, rb.2⟩, ⟨put (put x.s b.dst rb.1) a.dst ra.1, rb.2⟩, ?_, ?_, hput, rfl⟩
        · rw [evO_core, c1]; rfl
        · rw [evO_core]
          show Option.map _ (coreO E call (put x.s b.dst rb.1) rb.2 a) = _
          rw [ea, c2]; rfl
      simp only [Bool.or_eq_true, Bool.and_eq_true, decide_eq_true_eq, beq_iff_eq] at hi3
      rcases hi3 with ((⟨q1, q2⟩ | q1) | q2) | q3
      rotate_left 3
      · obtain ⟨h3, c1, c2⟩ := coreO_far (E := E) (call := call) (s := x.s) (v := ra.1) (h1 := ra.2) (w := rb.1) (h2 := rb.2) q3 ha hb
        refine ⟨⟨put x.s b.dst rb.1, h3⟩, ⟨put (put x.s b.dst rb.1) a.dst ra.1, rb.2⟩, ?_, ?_, hput, rfl⟩
        · rw [evO_core, c1]; rfl
        · rw [evO_core]
          show Option.map _ (coreO E call (put x.s b.dst rb.1) h3 a) = _
          rw [ea, c2]; rfl
      · have e1 := coreO_quiet (v := ra.1) (h' := ra.2) q1 ha
        rw [e1] at hb
        have e2 := coreO_quiet (v := rb.1) (h' := rb.2) q2 hb
        refine finish hb ?_
        rw [e2, ha]
        exact congrArg some (Prod.ext rfl e1)
      · have e1 := coreO_quiet (v := ra.1) (h' := ra.2) (by omega) ha
        rw [e1] at hb
        obtain ⟨f, hf⟩ := coreO_slot (E := E) (call := call) (s := x.s) q1
        refine finish hb ?_
        rw [hf] at ha ⊢
        cases f with
        | none => cases ha
        | some v => injection ha with ha; rw [← ha]; rfl
      · obtain ⟨f, hf⟩ := coreO_slot (E := E) (call := call) (s := x.s) q2
        have e2 := coreO_quiet (v := rb.1) (h' := rb.2) (by omega) hb
        rw [hf] at hb
        cases f with
        | none => cases hb
        | some v =>
          have hv : rb.1 = v := by injection hb with hb; rw [← hb]
          have hxb : coreO E call x.s x.h b = some (rb.1, x.h) := by rw [hf, hv]; rfl
          refine ⟨⟨put x.s b.dst rb.1, x.h⟩, ⟨put (put x.s b.dst rb.1) a.dst ra.1, ra.2⟩, ?_, ?_, hput, e2⟩
          · rw [evO_core, hxb]; rfl
          · rw [evO_core]
            show Option.map _ (coreO E call (put x.s b.dst rb.1) x.h a) = _
            rw [ea, ha]; rfl

end
end Go.Fw
