/-
  Which operation of the evaluation stands for which of the machine's, checked by a function; and then one stands for the other. Conditions: stated at each.
-/
import Derived.Test.YtefkoichicalfaaFwM
import Derived.Test.YtefkoichicalfaaFwW
import Derived.Test.YtefkoichicalfaaFwE
import Derived.Test.YtefkoichicalfaaFwX
set_option linter.unusedVariables false
set_option linter.unusedSimpArgs false
set_option linter.unusedSectionVars false
namespace Go.Fw
open Go.RowKit (Below)

/-- The element of a slice type, if its variables have so many cells. -/
def elemIs (P : Program) (t : TypeId) (sz : Nat) : Option TypeId :=
  match P.underlying t with
  | some (.slice e) => match P.info? e with
    | some i => if i.size = sz ∧ 0 < sz then some e else none
    | none => none
  | _ => none

theorem elemIs_spec {P : Program} {t e : TypeId} {sz : Nat} (h : elemIs P t sz = some e) : P.underlying t = some (.slice e) ∧ ∃ i, P.info? e = some i ∧ i.size = sz ∧ 0 < sz := by
  unfold elemIs at h
  split at h
  · rename_i e' hu
    split at h
    · rename_i i hi
      split at h
      · rename_i hc
        injection h with h
        subst h
        exact ⟨hu, i, hi, hc.1, hc.2⟩
      · cases h
    · cases h
  · cases h

/-- The same, with the element's bytes and its zero value. -/
def elemZ (P : Program) (t e : TypeId) (sz by_ : Nat) : Bool :=
  match P.underlying t with
  | some (.slice e') => e' == e && (match P.info? e with
    | some i => match i.zero with
      | some z => i.size == sz && i.bytes == by_ && z.cells.size == sz && decide (0 < sz)
      | none => false
    | none => false)
  | _ => false

theorem elemZ_spec {P : Program} {t e : TypeId} {sz by_ : Nat} (h : elemZ P t e sz by_ = true) : P.underlying t = some (.slice e) ∧ ∃ i z, P.info? e = some i ∧ i.zero = some z ∧ i.size = sz ∧ i.bytes = by_ ∧ z.cells.size = sz ∧ 0 < sz := by
  unfold elemZ at h
  split at h
  · rename_i e' hu
    simp only [Bool.and_eq_true, beq_iff_eq] at h
    obtain ⟨rfl, h⟩ := h
    split at h
    · rename_i i hi
      split at h
      · rename_i z hz
        simp only [Bool.and_eq_true, beq_iff_eq, decide_eq_true_eq] at h
        exact ⟨hu, i, z, hi, hz, h.1.1.1, h.1.1.2, h.1.2, h.2⟩
      · cases h
    · cases h
  · cases h

def litIs (P : Program) (t e : TypeId) (len sz : Nat) (parts : Array (Nat × Operand)) (els : List X) : Bool :=
  (match P.info? e with | some i => elemZ P t e sz i.bytes | none => false) && decide (len * sz ≤ 16777216) && (parts.toList.map (·.1) == List.range len) && chkXs els (parts.toList.map (·.2))

def fieldIs (P : Program) (t : TypeId) (fd : Nat) (ag : Bool) (off sz : Nat) : Bool :=
  match P.underlying t with
  | some (.struct fs) => match fs[fd]? with
    | some f => f.offset == off && tyIs P f.type ag sz && sz != 0
    | none => false
  | _ => false

theorem fieldIs_spec {P : Program} {t : TypeId} {fd : Nat} {ag : Bool} {off sz : Nat} (h : fieldIs P t fd ag off sz = true) : ∃ fs f, P.underlying t = some (.struct fs) ∧ fs[fd]? = some f ∧ f.offset = off ∧ tyIs P f.type ag sz = true ∧ sz ≠ 0 := by
  unfold fieldIs at h
  split at h
  · rename_i fs hu
    split at h
    · rename_i f hf
      simp only [Bool.and_eq_true, beq_iff_eq, bne_iff_ne] at h
      exact ⟨fs, f, hu, hf, h.1.1, h.1.2, h.2⟩
    · cases h
  · cases h

def arrIs (P : Program) (t : TypeId) (n : Nat) (ag : Bool) (sz : Nat) : Bool :=
  match P.underlying t with
  | some (.array m e) => m == n && tyIs P e ag sz && decide (0 < sz)
  | _ => false

theorem arrIs_spec {P : Program} {t : TypeId} {n : Nat} {ag : Bool} {sz : Nat} (h : arrIs P t n ag sz = true) : ∃ e, P.underlying t = some (.array n e) ∧ tyIs P e ag sz = true ∧ 0 < sz := by
  unfold arrIs at h
  split at h
  · rename_i m e hu
    simp only [Bool.and_eq_true, beq_iff_eq, decide_eq_true_eq] at h
    obtain ⟨⟨rfl, h1⟩, h2⟩ := h
    exact ⟨e, hu, h1, h2⟩
  · cases h

def isStr (P : Program) (t : TypeId) : Bool := match P.underlying t with | some .string => true | _ => false
theorem isStr_spec {P : Program} {t : TypeId} (h : isStr P t = true) : P.underlying t = some .string := by unfold isStr at h; split at h <;> first | assumption | cases h
def isBool (P : Program) (t : TypeId) : Bool := match P.underlying t with | some .bool => true | _ => false
theorem isBool_spec {P : Program} {t : TypeId} (h : isBool P t = true) : P.underlying t = some .bool := by unfold isBool at h; split at h <;> first | assumption | cases h

def one? {α : Type} (a : Array α) : Option α := match a.toList with
  | [x] => some x
  | _ => none
def two? {α : Type} (a : Array α) : Option (α × α) := match a.toList with
  | [x, y] => some (x, y)
  | _ => none
theorem one?_spec {α : Type} {a : Array α} {x : α} (h : one? a = some x) : a = #[x] := by
  unfold one? at h
  split at h
  · rename_i y hy; injection h with h; subst h; exact Array.ext' hy
  · cases h
theorem two?_spec {α : Type} {a : Array α} {x y : α} (h : two? a = some (x, y)) : a = #[x, y] := by
  unfold two? at h
  split at h
  · rename_i u v hy; injection h with h; injection h with h1 h2; subst h1; subst h2; exact Array.ext' hy
  · cases h

/-- A builtin's call with one argument, with two. -/
def call1 (b : Builtin) (op : Op) : Option (Operand × TypeId) := match op with
  | .call { callee := .builtin b', args, argTypes } => if b' = b then (one? args).bind fun x => (one? argTypes).map fun t => (x, t) else none
  | _ => none
def call2 (b : Builtin) (op : Op) : Option ((Operand × Operand) × (TypeId × TypeId)) := match op with
  | .call { callee := .builtin b', args, argTypes } => if b' = b then (two? args).bind fun x => (two? argTypes).map fun t => (x, t) else none
  | _ => none
theorem call1_spec {b : Builtin} {op : Op} {x : Operand} {t : TypeId} (h : call1 b op = some (x, t)) : op = .call { callee := .builtin b, args := #[x], argTypes := #[t] } := by
  unfold call1 at h
  split at h
  · rename_i b' args argTypes
    split at h
    · rename_i hb
      subst hb
      cases h1 : one? args with
      | none => rw [h1] at h; cases h
      | some y =>
        cases h2 : one? argTypes with
        | none => rw [h1, h2] at h; cases h
        | some u =>
          rw [h1, h2] at h
          simp only [Option.bind_some, Option.map_some, Option.some.injEq, Prod.mk.injEq] at h
          obtain ⟨rfl, rfl⟩ := h
          rw [one?_spec h1, one?_spec h2]
    · cases h
  · cases h
theorem call2_spec {b : Builtin} {op : Op} {x y : Operand} {t u : TypeId} (h : call2 b op = some ((x, y), (t, u))) : op = .call { callee := .builtin b, args := #[x, y], argTypes := #[t, u] } := by
  unfold call2 at h
  split at h
  · rename_i b' args argTypes
    split at h
    · rename_i hb
      subst hb
      cases h1 : two? args with
      | none => rw [h1] at h; cases h
      | some y =>
        cases h2 : two? argTypes with
        | none => rw [h1, h2] at h; cases h
        | some u =>
          rw [h1, h2] at h
          simp only [Option.bind_some, Option.map_some, Option.some.injEq, Prod.mk.injEq] at h
          obtain ⟨⟨rfl, rfl⟩, ⟨rfl, rfl⟩⟩ := h
          rw [two?_spec h1, two?_spec h2]
    · cases h
  · cases h

/-- Does the evaluation's operation stand for the machine's? -/
def chkI (P : Program) (op : Op) : I → Bool
  | .mov x => match op with
    | .move y | .assign y => chkX x y
    | _ => false
  | .nilrow sz t => match op with
    | .move y | .assign y => isNilC y && decide (0 < sz)
    | _ => false
  | .pick c a b => match op with
    | .pick c' a' b' => chkX c c' && chkX a a' && chkX b b'
    | _ => false
  | .bin b x y => match op with
    | .binOp b' _ x' y' _ => b == b' && chkX x x' && chkX y y'
    | _ => false
  | .binB b x y => match op with
    | .binOp b' t x' y' _ => b == b' && chkX x x' && chkX y y' && isBool P t
    | _ => false
  | .eqS neg ks x y => match op with
    | .binOp b t x' y' _ => b == (if neg then .neq else .eql) && chkX x x' && chkX y y' && eqTy P 6 t == some ks && isStructTy P t && !P.eqGuardType P.depth t
    | _ => false
  | .un u x => match op with
    | .unOp u' _ x' => u == u' && chkX x x'
    | _ => false
  | .conv k x => match op with
    | .convert src dst x' => chkX x x' && (match P.underlying dst with | some (.int k') => k == k' | _ => false) && (P.underlying src).isSome
    | _ => false
  | .alloc ag zero t => match op with
    | .alloc t' => t == t' && zeroIs P t zero
    | _ => false
  | .box ag t x => match op with
    | .box t' x' => t == t' && chkX x x'
    | _ => false
  | .boxR ag sz t x => match op with
    | .box t' x' => t == t' && chkX x x'
    | _ => false
  | .build zero ps => match op with
    | .build t parts => zeroIs P t zero && (match placesOf P t with | some place => chkParts place ps parts.toList | none => false)
    | _ => false
  | .buildSl sz e els => match op with
    | .buildSlice t len parts => litIs P t e len sz parts els
    | _ => false
  | .buildR sz e els => match op with
    | .buildSlice t len parts => litIs P t e len sz parts els
    | _ => false
  | .mkSl sz by_ e zero lx => match op with
    | .makeSlice t x y => chkX lx x && chkX lx y && elemZ P t e sz by_ && zeroIs P e zero && zero.length == sz
    | _ => false
  | .load ag sz a => match op with
    | .load t y => chkX a y && tyIs P t ag sz
    | _ => false
  | .store sz a v => match op with
    | .store t x y => chkX a x && chkX v y && (tyIs P t true sz || tyIs P t false sz) && decide (0 < sz)
    | _ => false
  | .slice sz x lo hi => match op with
    | .slice t x' lo' hi' none => chkX x x' && chkXo lo lo' && chkXo hi hi' && (elemIs P t sz).isSome
    | _ => false
  | .sliceA n sz x lo hi => match op with
    | .slice t x' lo' hi' none => chkX x x' && chkXo lo lo' && chkXo hi hi' && (arrIs P t n true sz || arrIs P t n false sz)
    | _ => false
  | .sliceS x lo hi => match op with
    | .slice t x' lo' hi' none => chkX x x' && chkXo lo lo' && chkXo hi hi' && isStr P t
    | _ => false
  | .faddr ag off sz x => match op with
    | .fieldAddr t x' fd => chkX x x' && fieldIs P t fd ag off sz
    | _ => false
  | .field ag off sz x => match op with
    | .field t x' fd => chkX x x' && fieldIs P t fd ag off sz
    | _ => false
  | .iaddr sz x i => match op with
    | .indexAddr t x' i' => chkX x x' && chkX i i' && (elemIs P t sz).isSome
    | _ => false
  | .iaddrA n sz ag x i => match op with
    | .indexAddr t x' i' => chkX x x' && chkX i i' && arrIs P t n ag sz
    | _ => false
  | .index n sz ag x i => match op with
    | .index t x' i' => chkX x x' && chkX i i' && arrIs P t n ag sz
    | _ => false
  | .indexS x i => match op with
    | .index t x' i' => chkX x x' && chkX i i' && isStr P t
    | _ => false
  | .ext x i => match op with
    | .extract x' i' => chkX x x' && i == i'
    | _ => false
  | .mkIf t x => match op with
    | .makeInterface t' x' => t == t' && chkX x x' && (match P.underlying t with | some (.interface _) => false | some _ => true | none => false)
    | _ => false
  | .mkFn f caps => match op with
    | .makeFunc (.func f') first captured => f == f' && first.isEmpty && chkXs caps captured.toList
    | _ => false
  | .callF ro f args => match op with
    | .call { callee := .value y, args := args', argTypes := _ } => (match y with | .func f' => f == f' | _ => false) && chkXs args args'.toList
    | _ => false
  | .callV ro x args => match op with
    | .call { callee := .value y, args := args', argTypes := _ } => chkX x y && chkXs args args'.toList
    | _ => false
  | .len x => match call1 .len op with
    | some (x', t) => chkX x x' && (match P.underlying t with | some (.slice _) => true | _ => false)
    | _ => false
  | .eqNil neg x => match op with
    | .binOp b t x' y' _ => b == (if neg then .neq else .eql) && chkX x x' && isNilC y' && isSliceTy P t
    | _ => false
  | .fail => true
  | .lenS x => match call1 .len op with
    | some (x', t) => chkX x x' && isStr P t
    | _ => false
  | .lenA n => match call1 .len op with
    | some (x', t) => (match P.underlying t with
      | some (.array m _) => m == n
      | some (.pointer r) => (match P.underlying r with | some (.array m _) => m == n | _ => false)
      | _ => false)
    | _ => false
  | .append sz by_ e x y => match call2 .append op with
    | some ((x', y'), (t, t')) => chkX x x' && chkX y y' && t == t' && elemZ P t e sz by_
    | _ => false
  | .copy sz x y => match call2 .copy op with
    | some ((x', y'), (t, _)) => chkX x x' && chkX y y' && (elemIs P t sz).isSome
    | _ => false
  | .toStr x => match op with
    | .convert src dst y => chkX x y && isStr P dst && (match P.underlying src with | some (.slice e) => (match P.underlying e with | some (.int .u8) => true | _ => false) | _ => false)
    | _ => false
  | .mm mx xs => match op with
    | .call { callee := .builtin b, args := xs', argTypes := _ } => b == (if mx then .max else .min) && chkXs xs xs'.toList
    | _ => false
  | .capNil x => match call1 .cap op with
    | some (x', t) => chkX x x' && (match P.underlying t with | some (.slice _) => true | _ => false)
    | _ => false
  | .trunc sz x hi => match op with
    | .slice t x' none (some hi') none => chkX x x' && chkX hi hi' && (elemIs P t sz).isSome
    | _ => false
  | .loadR ag sz a => match op with
    | .load t y => chkX a y && tyIs P t ag sz
    | _ => false
  | .loadC ag sz a => match op with
    | .load t y => chkX a y && tyIs P t ag sz
    | _ => false
  | .iaddrR sz x i => match op with
    | .indexAddr t x' i' => chkX x x' && chkX i i' && (elemIs P t sz).isSome
    | _ => false
  | .sliceAR n sz x lo hi => match op with
    | .slice t x' lo' hi' none => chkX x x' && chkXo lo lo' && chkXo hi hi' && (arrIs P t n true sz || arrIs P t n false sz)
    | _ => false
  | .loadS _ ag sz a => match op with
    | .load t y => chkX a y && tyIs P t ag sz
    | _ => false
  | .storeS _ sz a v => match op with
    | .store t x y => chkX a x && chkX v y && (tyIs P t true sz || tyIs P t false sz) && decide (0 < sz)
    | _ => false
  | .lenR x => match call1 .len op with
    | some (x', t) => chkX x x' && (match P.underlying t with | some (.slice _) => true | _ => false)
    | _ => false
  | .sliceR sz x lo hi => match op with
    | .slice t x' lo' hi' none => chkX x x' && chkXo lo lo' && chkXo hi hi' && (elemIs P t sz).isSome
    | _ => false

  | .eqNl ifc neg x => match op with
    | .binOp b t x' y' _ => b == (if neg then .neq else .eql) && chkX x x' && isNlC P ifc t y'
    | _ => false
  | .nilChk x => match op with
    | .nilCheck x' => chkX x x'
    | _ => false
  | .s2a n sz x => match op with
    | .sliceToArrayPointer t x' => chkX x x' && (match P.underlying t with | some (.array m _) => m == n | _ => false)
    | _ => false
  | .frz x => match op with
    | .convert src dst y => src == dst && chkX x y && (match P.underlying src with | some (.slice e) => (match P.underlying e with | some (.int .u8) => true | _ => false) | _ => false)
    | _ => false
  | .appMk sz by_ e zero x n => match call2 .append op with
    | some ((x', n'), (t, tn)) => chkX x x' && chkX n n' && elemZ P t e sz by_ && zeroIs P e zero && zero.length == sz && (match P.underlying tn with | some (.int _) => true | _ => false)
    | _ => false
  | .appF sz by_ e x y => match call2 .append op with
    | some ((x', y'), (t, t')) => chkX x x' && chkX y y' && t == t' && elemZ P t e sz by_
    | _ => false
  | .buildE => match op with
    | .buildSlice t 0 parts => (match P.underlying t with
      | some (.slice e) => (match P.info? e with
        | some i => litIs P t e 0 i.size parts []
        | none => false)
      | _ => false)
    | _ => false
  | .appE sz by_ x y => match call2 .append op with
    | some ((x', y'), (t, t')) => chkX x x' && chkX y y' && t == t' && (match P.underlying t with | some (.slice e) => elemZ P t e sz by_ | _ => false)
    | _ => false
  | .mkMap kk => match op with
    | .makeMap t none => (match mapTy P t with | some (kt, _) => kindB P kt kk | none => false)
    | _ => false
  | .look ok kk zero m k => match op with
    | .lookup t m' k' ok' => ok == ok' && chkX m m' && chkX k k' && (match mapTy P t with | some (kt, et) => kindB P kt kk && zeroP P et zero | none => false)
    | _ => false
  | .mapUpd kk m k v => match op with
    | .mapUpdate t m' k' v' => chkX m m' && chkX k k' && chkX v v' && (match mapTy P t with | some (kt, _) => kindB P kt kk | none => false)
    | _ => false
  | .mdel kk m k => match call2 .delete op with
    | some ((m', k'), (t, kt')) => chkX m m' && chkX k k' && (match mapTy P t with | some (kt, _) => kindB P kt kk && decide (kt' = kt) | none => false)
    | _ => false
  | .mlen kk m => match call1 .len op with
    | some (m', t) => chkX m m' && (match mapTy P t with | some (kt, _) => kindB P kt kk | none => false)
    | _ => false
  | .eqNlm neg m => match op with
    | .binOp b t m' (.const (.map none)) _ => b == (if neg then .neq else .eql) && chkX m m' && (mapTy P t).isSome
    | _ => false
  | .callP f args => match op with
    | .call { callee := .value y, args := args', argTypes := _ } => (match y with | .func f' => f == f' | _ => false) && chkXs args args'.toList
    | _ => false
  | .callA f x => match op with
    | .call { callee := .value y, args := args', argTypes := _ } => (match y with | .func f' => f == f' | _ => false) && chkXs [x] args'.toList
    | _ => false
  | .callQ f x => match op with
    | .call { callee := .value y, args := args', argTypes := _ } => (match y with | .func f' => f == f' | _ => false) && chkXs [x] args'.toList
    | _ => false
  | .callM f args => match op with
    | .call { callee := .value y, args := args', argTypes := _ } => (match y with | .func f' => f == f' | _ => false) && chkXs args args'.toList
    | _ => false

mutual
theorem snap_none {g : Bool} {h : Heap} : ∀ (d : Nat) (v : AV), hasOwn v = false → snap g h d v = snap g [] d v
  | 0, v, _ => rfl
  | d + 1, v, ho => by
    cases v <;> simp only [snap]
    case ref l ver o => simp [hasOwn] at ho
    case sl sz l ver o n => simp [hasOwn] at ho
    case mp l => simp [hasOwn] at ho
    case fn f cap => rw [snapM_none d cap (by simpa [hasOwn] using ho)]
    case iface t x => rw [snap_none d x (by simpa [hasOwn] using ho)]
    case agg cs => rw [snapM_none d cs (by simpa [hasOwn] using ho)]
    case tup vs => rw [snapM_none d vs (by simpa [hasOwn] using ho)]
theorem snapM_none {g : Bool} {h : Heap} : ∀ (d : Nat) (l : List AV), hasOwn.hasOwnL l = false → l.mapM (snap g h d) = l.mapM (snap g [] d)
  | d, [], _ => rfl
  | d, x :: l, ho => by
    simp only [hasOwn.hasOwnL, Bool.or_eq_false_iff] at ho
    rw [List.mapM_cons, List.mapM_cons, snap_none d x ho.1, snapM_none d l ho.2]
end

/-- What an operation that asks for more is like. -/
def gen : I → I
  | .loadR ag sz a => .load ag sz a
  | .loadC ag sz a => .load ag sz a
  | .iaddrR sz x i => .iaddr sz x i
  | .sliceR sz x lo hi => .slice sz x lo hi
  | .lenR x => .len x
  | .loadS _ ag sz a => .load ag sz a
  | .storeS _ sz a v => .store sz a v
  | .sliceAR n sz x lo hi => .sliceA n sz x lo hi
  | .callP f args => .callF true f args
  | x => x
theorem gen_gen (x : I) : gen (gen x) = gen x := by cases x <;> rfl
theorem chkI_gen (P : Program) (op : Op) (x : I) : chkI P op (gen x) = chkI P op x := by cases x <;> rfl
theorem evI_gen {E : Env} {call : CallFn} {s : Slots} {h : Heap} {x : I} {r : AV × Heap} (he : evI E call s h x = some r) : evI E call s h (gen x) = some r := by
  cases x <;> try exact he
  case loadR ag sz a =>
    simp only [gen, evI] at he ⊢
    split at he
    · rename_i g z hx
      rw [hx]
      exact he
    · cases he
  case loadC ag sz a =>
    simp only [gen, evI] at he ⊢
    split at he
    · rename_i g z hx
      exact he
    · rename_i l ver o hx
      split at he
      · rename_i hv
        split at he
        · rename_i ag' vs t hl
          simp only [objCells, hl, hv, if_true, Option.bind_some]
          exact he
        · cases he
      · cases he
    · cases he
  case callP f args =>
    simp only [gen, evI, doCallP] at he ⊢
    split at he
    · cases he
    · rename_i ho
      have ho : hasOwn.hasOwnL (args.map (X.ev s)) = false := by simpa using ho
      unfold doCall at he ⊢
      unfold snapL at he ⊢
      rw [snapM_none depth _ ho]
      cases hv : (args.map (X.ev s)).mapM (snap true [] depth) with
      | none => rw [hv] at he; cases he
      | some vs =>
        rw [hv] at he
        simp only [Option.bind_some] at he ⊢
        cases hp : pcallOf E call f vs with
        | none => rw [hp] at he; cases he
        | some res =>
          rw [hp] at he
          simp only [Option.bind_some, ho, Bool.false_and, Bool.false_eq_true, if_false, if_true] at he ⊢
          cases hz : snap false res.2 depth res.1 with
          | none => rw [hz] at he; cases he
          | some z => rw [hz] at he; exact he
  case iaddrR sz x i =>
    simp only [gen, evI] at he ⊢
    split at he
    · rename_i k n hn
      split at he
      · rename_i g z l hx
        rw [hx]
        exact he
      · cases he
    · cases he
  case loadS k ag sz a =>
    simp only [gen, evI] at he ⊢
    split at he
    · rename_i l ver o hx
      split at he
      · first | exact he | (rw [hx]; exact he)
      · cases he
    · cases he
  case storeS k sz a v =>
    simp only [gen, evI] at he ⊢
    split at he
    · rename_i l ver o hx
      split at he
      · first | exact he | (rw [hx]; exact he)
      · cases he
    · cases he
  case lenR x =>
    simp only [gen, evI] at he ⊢
    split at he
    · rename_i g z l hx
      rw [hx]
      exact he
    · cases he
  case sliceAR n sz x lo hi =>
    simp only [gen, evI] at he ⊢
    split at he
    · rename_i g cs hx
      rw [hx]
      exact he
    · cases he
  case sliceR sz x lo hi =>
    simp only [gen, evI] at he ⊢
    split at he
    · rename_i g z l hx
      rw [hx]
      exact he
    · cases he

section
variable {P : Program} {E : Env} {call : CallFn} {Bad : Forb} {β : List Value} {h : Heap} {w : World} {a : Act} {s : Slots} {o : Oper}

theorem enter_run {f : FuncId} {args : Array Operand} {op : Operand} {ts : Array TypeId} {caps : Array Value} (ho : o.op = .call { callee := .value op, args := args, argTypes := ts }) (hv : a.eval op = .func (.func f) #[] caps) (he : EnterOk P f) :
    (execOp a.eval o).run P w = .ok (.enter f (args.map a.eval ++ caps)) w := by
  obtain ⟨fn, h1, h2, h3⟩ := he
  have hcf : ∀ xs : Array Value, (callFunc f xs).run P w = .ok (.enter f xs) w := by
    intro xs
    unfold callFunc
    simp only [Sem.run_bind, run_program, Result.andThen_ok, h1, h2, h3, Bool.false_eq_true, if_false, Sem.run_pure]
  simp [execOp, ho, resolve, hv, Deferred.ofValue, invoke, hcf]

theorem lit_spec {t e : TypeId} {len sz : Nat} {parts : Array (Nat × Operand)} {els : List X} (h : litIs P t e len sz parts els = true) :
    ∃ i z, P.underlying t = some (.slice e) ∧ P.info? e = some i ∧ i.zero = some z ∧ i.size = sz ∧ 0 < sz ∧ len * sz ≤ 16777216 ∧ parts.toList.map (·.1) = List.range len ∧ chkXs els (parts.toList.map (·.2)) = true := by
  unfold litIs at h
  simp only [Bool.and_eq_true, decide_eq_true_eq, beq_iff_eq] at h
  obtain ⟨⟨⟨h1, h2⟩, h3⟩, h4⟩ := h
  split at h1
  · rename_i i hi
    obtain ⟨hu, i', z, hi', hz, hs, _, _, hp⟩ := elemZ_spec h1
    rw [hi] at hi'
    injection hi' with hi'
    subst hi'
    exact ⟨i, z, hu, hi, hz, hs, hp, h2, h3, h4⟩
  · cases h1

set_option maxHeartbeats 1600000 in
theorem evI_sound0 (hcalls : CallsOk P E call) (hh : HeapRel Bad β h w) (hs : SlotsRep β h (FOf Bad β) w s a) {op : I} (hgen : gen op = op) (hc : chkI P o.op op = true) {r : AV} {h' : Heap} (he : evI E call s h op = some (r, h')) : OpSound P Bad β h w a o r h' := by
  cases op <;> simp only [chkI] at hc <;> simp only [evI] at he
  case loadR ag sz a => cases hgen
  case loadC ag sz a => cases hgen
  case iaddrR sz x i => cases hgen
  case sliceR sz x lo hi => cases hgen
  case sliceAR n sz x lo hi => cases hgen
  case lenR x => cases hgen
  case loadS k ag sz a => cases hgen
  case storeS k sz a v => cases hgen
  case callP f args => cases hgen
  case mov x =>
    injection he with he; injection he with he1 he2; subst he1; subst he2
    split at hc
    · rename_i y ho; exact sound_mov hh hs (.inl ho) hc
    · rename_i y ho; exact sound_mov hh hs (.inr ho) hc
    · cases hc
  case nilrow sz t =>
    injection he with he; injection he with he1 he2; subst he1; subst he2
    split at hc
    · rename_i y ho
      simp only [Bool.and_eq_true, decide_eq_true_eq] at hc
      exact sound_nilrow hh hs (.inl ho) hc.1 hc.2 t
    · rename_i y ho
      simp only [Bool.and_eq_true, decide_eq_true_eq] at hc
      exact sound_nilrow hh hs (.inr ho) hc.1 hc.2 t
    · cases hc
  case pick c x y =>
    split at hc
    · rename_i c' x' y' ho
      simp only [Bool.and_eq_true] at hc
      split at he
      · rename_i b hb
        injection he with he; injection he with he1 he2; subst he1; subst he2
        exact sound_pick hh hs ho hc.1.1 hc.1.2 hc.2 hb
      · cases he
    · cases hc
  case bin b x y =>
    split at hc
    · rename_i b' t x' y' u ho
      simp only [Bool.and_eq_true, beq_iff_eq] at hc
      obtain ⟨⟨rfl, h1⟩, h2⟩ := hc
      cases hb : binop b (x.ev s) (y.ev s) with
      | none => rw [hb] at he; cases he
      | some z =>
        rw [hb] at he
        injection he with he; injection he with he1 he2; subst he1; subst he2
        exact sound_bin hh hs ho h1 h2 hb
    · cases hc
  case eqS neg ks x y =>
    split at hc
    · rename_i b' t x' y' u ho
      simp only [Bool.and_eq_true, beq_iff_eq, Bool.not_eq_true'] at hc
      obtain ⟨⟨⟨⟨⟨h0, h1⟩, h2⟩, h3⟩, h4⟩, h5⟩ := hc
      cases hb : eqAgg ks (x.ev s) (y.ev s) with
      | none => rw [hb] at he; cases he
      | some z =>
        rw [hb] at he
        injection he with he; injection he with he1 he2; subst he1; subst he2
        exact sound_eqS hh hs h0 ho h1 h2 h3 h4 h5 hb
    · cases hc
  case binB b x y =>
    split at hc
    · rename_i b' t x' y' u ho
      simp only [Bool.and_eq_true, beq_iff_eq] at hc
      obtain ⟨⟨⟨rfl, h1⟩, h2⟩, h3⟩ := hc
      cases hb : binopB b (x.ev s) (y.ev s) with
      | none => rw [hb] at he; cases he
      | some z =>
        rw [hb] at he
        injection he with he; injection he with he1 he2; subst he1; subst he2
        exact sound_binB hh hs ho h1 h2 (isBool_spec h3) hb
    · cases hc
  case un u x =>
    split at hc
    · rename_i u' t x' ho
      simp only [Bool.and_eq_true, beq_iff_eq] at hc
      obtain ⟨rfl, h1⟩ := hc
      cases hb : unop u (x.ev s) with
      | none => rw [hb] at he; cases he
      | some z =>
        rw [hb] at he
        injection he with he; injection he with he1 he2; subst he1; subst he2
        exact sound_un hh hs ho h1 hb
    · cases hc
  case conv k x =>
    split at hc
    · rename_i src dst x' ho
      simp only [Bool.and_eq_true] at hc
      obtain ⟨⟨h1, h2⟩, h3⟩ := hc
      split at he
      · rename_i j n hx
        injection he with he; injection he with he1 he2; subst he1; subst he2
        split at h2
        · rename_i k' hk'
          simp only [beq_iff_eq] at h2
          subst h2
          exact sound_conv hh hs ho h1 hk' h3 hx
        · cases h2
      · cases he
    · cases hc
  case alloc ag zero t =>
    injection he with he; injection he with he1 he2; subst he1; subst he2
    split at hc
    · rename_i t' ho
      simp only [Bool.and_eq_true, beq_iff_eq] at hc
      obtain ⟨rfl, h1⟩ := hc
      exact sound_alloc hh hs ho h1 ag
    · cases hc
  case box ag t x =>
    split at hc
    · rename_i t' x' ho
      simp only [Bool.and_eq_true, beq_iff_eq] at hc
      obtain ⟨rfl, h1⟩ := hc
      split at he
      · rename_i hall
        injection he with he; injection he with he1 he2; subst he1; subst he2
        exact sound_box hh hs ho h1 ag hall
      · cases he
    · cases hc
  case boxR ag sz t x =>
    split at hc
    · rename_i t' x' ho
      simp only [Bool.and_eq_true, beq_iff_eq] at hc
      obtain ⟨rfl, h1⟩ := hc
      split at he
      · rename_i hcond
        simp only [Bool.and_eq_true, Bool.not_eq_true'] at hcond
        injection he with he; injection he with he1 he2; subst he1; subst he2
        exact sound_boxR hh hs ho h1 hcond.1 hcond.2
      · cases he
    · cases hc
  case build zero ps =>
    split at hc
    · rename_i t parts ho
      simp only [Bool.and_eq_true] at hc
      obtain ⟨h1, h2⟩ := hc
      split at h2
      · rename_i place hp
        cases hf : fillA zero (ps.map fun p => (p.1, p.2.1, p.2.2.ev s)) with
        | none => rw [hf] at he; cases he
        | some cs =>
          rw [hf] at he
          injection he with he; injection he with he1 he2; subst he1; subst he2
          exact sound_build hh hs ho h1 hp h2 hf
      · cases h2
    · cases hc
  case buildSl sz e els =>
    split at hc
    · rename_i t len parts ho
      obtain ⟨i, z, hu, hi, hz, h1, h2, h3, h4, h5⟩ := lit_spec hc
      split at he
      · rename_i hall
        injection he with he; injection he with he1 he2; subst he1; subst he2
        rw [List.length_map]
        refine sound_buildSl hh hs ho hu hi h1 hz h2 h3 h4 h5 fun v hv => ?_
        have := List.all_eq_true.1 hall v hv
        simpa using this
      · cases he
    · cases hc
  case buildR sz e els =>
    split at hc
    · rename_i t len parts ho
      obtain ⟨i, z, hu, hi, hz, h1, h2, h3, h4, h5⟩ := lit_spec hc
      split at he
      · rename_i hall
        simp only [Bool.and_eq_true, Bool.not_eq_true'] at hall
        injection he with he; injection he with he1 he2; subst he1; subst he2
        refine sound_buildR hh hs ho hu hi h1 hz h2 h3 h4 h5 fun v hv => ⟨List.all_eq_true.1 hall.1 v hv, ?_⟩
        have hno : ∀ (l : List AV), hasOwn.hasOwnL l = false → ∀ v ∈ l, hasOwn v = false := by
          intro l
          induction l with
          | nil => intro _ v hv; cases hv
          | cons x l ih =>
            intro hl v hv
            simp only [hasOwn.hasOwnL, Bool.or_eq_false_iff] at hl
            rcases List.mem_cons.1 hv with rfl | hv
            · exact hl.1
            · exact ih hl.2 v hv
        exact hno _ hall.2 v hv
      · cases he
    · cases hc
  case mkSl sz by_ e zero lx =>
    split at hc
    · rename_i t x y ho
      simp only [Bool.and_eq_true, beq_iff_eq] at hc
      obtain ⟨⟨⟨⟨h1, h2⟩, h3⟩, h4⟩, h5⟩ := hc
      obtain ⟨hu, i, z, hi, hz, hs1, hb1, hzs, hp⟩ := elemZ_spec h3
      obtain ⟨i', z', hi', hz', hcz⟩ := zeroIs_spec h4
      rw [hi] at hi'
      injection hi' with hi'
      subst hi'
      rw [hz] at hz'
      injection hz' with hz'
      subst hz'
      split at he
      · rename_i k n hn
        split at he
        · rename_i hcond
          injection he with he; injection he with he1 he2; subst he1; subst he2
          exact sound_mkSl hh hs ho h1 h2 hu hi hs1 hb1 hz hp hcz h5 hn hcond.1 hcond.2.1 hcond.2.2
        · cases he
      · cases he
    · cases hc
  case load ag sz x =>
    split at hc
    · rename_i t y ho
      simp only [Bool.and_eq_true] at hc
      split at he
      · rename_i g z hx
        split at he
        · rename_i hsh
          injection he with he; injection he with he1 he2; subst he1; subst he2
          exact sound_load hh hs ho hc.1 hc.2 (by rw [hx]; simp only [hsh, if_true])
        · cases he
      · rename_i l ver off hx
        cases hv : objCells h l ver with
        | none => rw [hv] at he; cases he
        | some vs =>
          rw [hv] at he
          simp only [Option.bind_some] at he
          cases hp : partA ag off sz vs with
          | none => rw [hp] at he; cases he
          | some z =>
            rw [hp] at he
            injection he with he; injection he with he1 he2; subst he1; subst he2
            exact sound_load hh hs ho hc.1 hc.2 (by rw [hx]; simp only [hv, Option.bind_some, hp])
      · cases he
    · cases hc
  case store sz x y =>
    split at hc
    · rename_i t x' y' ho
      simp only [Bool.and_eq_true, decide_eq_true_eq] at hc
      obtain ⟨⟨⟨h1, h2⟩, h3⟩, h4⟩ := hc
      split at he
      · rename_i l ver off hx
        cases hst : storeAt h l ver off sz (y.ev s) with
        | none => rw [hst] at he; cases he
        | some h2' =>
          rw [hst] at he
          injection he with he; injection he with he1 he2; subst he1; subst he2
          simp only [Bool.or_eq_true] at h3
          rcases h3 with h3 | h3
          · exact sound_store hh hs ho h1 h2 h3 h4 hx hst
          · exact sound_store hh hs ho h1 h2 h3 h4 hx hst
      · cases he
    · cases hc
  case slice sz x lo hi =>
    split at hc
    · rename_i t x' lo' hi' ho
      simp only [Bool.and_eq_true] at hc
      obtain ⟨⟨⟨h1, h2⟩, h3⟩, h4⟩ := hc
      obtain ⟨e, he1⟩ := Option.isSome_iff_exists.1 h4
      obtain ⟨hu, i, hi', hsz, hz⟩ := elemIs_spec he1
      cases hn : lenIn (x.ev s) with
      | none => rw [hn] at he; cases he
      | some n =>
        rw [hn] at he
        simp only [Option.bind_some] at he
        cases hb1 : bound (lo.map (X.ev s)) 0 with
        | none => rw [hb1] at he; cases he
        | some l =>
          rw [hb1] at he
          simp only [Option.bind_some] at he
          cases hb2 : bound (hi.map (X.ev s)) n with
          | none => rw [hb2] at he; cases he
          | some m =>
            rw [hb2] at he
            simp only [Option.bind_some] at he
            split at he
            · rename_i hcond
              have hheap : h' = h := by
                split at he
                · injection he with he; injection he with he1 he2; exact he2.symm
                · split at he
                  · injection he with he; injection he with he1 he2; exact he2.symm
                  · cases he
                · split at he
                  · injection he with he; injection he with he1 he2; exact he2.symm
                  · cases he
                · cases he
              subst hheap
              refine sound_slice hh hs ho h1 h2 h3 hu hi' hsz hn hb1 hb2 hcond.1 hcond.2.1 hcond.2.2 ?_
              split at he
              · rename_i hx; rw [hx]; injection he with he; injection he with he1 he2; rw [← he1]
              · rename_i hx; rw [hx]
                split at he
                · rename_i hq; injection he with he; injection he with he1 he2; simp only [hq, if_true]; rw [← he1, hq]
                · cases he
              · rename_i hx; rw [hx]
                split at he
                · rename_i hq; injection he with he; injection he with he1 he2; simp only; rw [if_pos hq, ← he1]
                · cases he
              · cases he
            · cases he
    · cases hc
  case sliceA n sz x lo hi =>
    split at hc
    · rename_i t x' lo' hi' ho
      simp only [Bool.and_eq_true, Bool.or_eq_true] at hc
      obtain ⟨⟨⟨h1, h2⟩, h3⟩, h4⟩ := hc
      have h4' : ∃ e ag, P.underlying t = some (.array n e) ∧ tyIs P e ag sz = true ∧ 0 < sz := by
        rcases h4 with h4 | h4
        · obtain ⟨e, a1, a2, a3⟩ := arrIs_spec h4; exact ⟨e, true, a1, a2, a3⟩
        · obtain ⟨e, a1, a2, a3⟩ := arrIs_spec h4; exact ⟨e, false, a1, a2, a3⟩
      obtain ⟨e, ag, hu, ht, hz⟩ := h4'
      obtain ⟨i, d, hi', _, hsz, _⟩ := tyIs_spec ht
      cases hb1 : bound (lo.map (X.ev s)) 0 with
      | none => rw [hb1] at he; cases he
      | some l =>
        rw [hb1] at he
        simp only [Option.bind_some] at he
        cases hb2 : bound (hi.map (X.ev s)) n with
        | none => rw [hb2] at he; cases he
        | some m =>
          rw [hb2] at he
          simp only [Option.bind_some] at he
          split at he
          · rename_i hcond
            have hheap : h' = h := by
              split at he
              · split at he
                · injection he with he; injection he with he1 he2; exact he2.symm
                · cases he
              · split at he
                · injection he with he; injection he with he1 he2; exact he2.symm
                · cases he
              · cases he
            subst hheap
            refine sound_sliceA hh hs ho h1 h2 h3 hu hi' hsz hz hb1 hb2 hcond.1 hcond.2.1 hcond.2.2 ?_
            split at he
            · rename_i hx; rw [hx]
              split at he
              · rename_i hq; injection he with he; injection he with he1 he2; simp only [hq]; rw [← he1]
              · cases he
            · rename_i hx; rw [hx]
              split at he
              · rename_i hq; injection he with he; injection he with he1 he2; simp only; rw [if_pos hq, ← he1]
              · cases he
            · cases he
          · cases he
    · cases hc
  case sliceS x lo hi =>
    split at hc
    · rename_i t x' lo' hi' ho
      simp only [Bool.and_eq_true] at hc
      obtain ⟨⟨⟨h1, h2⟩, h3⟩, h4⟩ := hc
      split at he
      · rename_i b hb
        cases hb1 : bound (lo.map (X.ev s)) 0 with
        | none => rw [hb1] at he; cases he
        | some l =>
          rw [hb1] at he
          simp only [Option.bind_some] at he
          cases hb2 : bound (hi.map (X.ev s)) b.size with
          | none => rw [hb2] at he; cases he
          | some m =>
            rw [hb2] at he
            simp only [Option.bind_some] at he
            split at he
            · rename_i hcond
              injection he with he; injection he with he1 he2; subst he1; subst he2
              exact sound_sliceS hh hs ho h1 h2 h3 (isStr_spec h4) hb hb1 hb2 hcond.1 hcond.2.1 hcond.2.2
            · cases he
      · cases he
    · cases hc
  case faddr ag off sz x =>
    split at hc
    · rename_i t x' fd ho
      simp only [Bool.and_eq_true] at hc
      obtain ⟨fs, f, hu, hf, hoff, ht, hz⟩ := fieldIs_spec hc.2
      split at he
      · rename_i l ver o' hx
        injection he with he; injection he with he1 he2; subst he1; subst he2
        exact sound_faddr hh hs ho hc.1 hu hf hoff ht hz (by rw [hx])
      · rename_i g cs hx
        cases hp : partA ag off sz cs with
        | none => rw [hp] at he; cases he
        | some v =>
          rw [hp] at he
          injection he with he; injection he with he1 he2; subst he1; subst he2
          exact sound_faddr hh hs ho hc.1 hu hf hoff ht hz (by rw [hx]; simp only [hp]; rfl)
      · cases he
    · cases hc
  case field ag off sz x =>
    split at hc
    · rename_i t x' fd ho
      simp only [Bool.and_eq_true] at hc
      obtain ⟨fs, f, hu, hf, hoff, ht, hz⟩ := fieldIs_spec hc.2
      split at he
      · rename_i cs hx
        cases hp : partA ag off sz cs with
        | none => rw [hp] at he; cases he
        | some v =>
          rw [hp] at he
          injection he with he; injection he with he1 he2; subst he1; subst he2
          exact sound_field hh hs ho hc.1 hu hf hoff ht hx hp
      · cases he
    · cases hc
  case iaddr sz x i =>
    split at hc
    · rename_i t x' i' ho
      simp only [Bool.and_eq_true] at hc
      obtain ⟨⟨h1, h2⟩, h3⟩ := hc
      obtain ⟨e, he1⟩ := Option.isSome_iff_exists.1 h3
      obtain ⟨hu, ti, hi', hsz, hz⟩ := elemIs_spec he1
      split at he
      · rename_i k n hn
        split at he
        · rename_i g z l hx
          split at he
          · rename_i hcond
            injection he with he; injection he with he1 he2; subst he1; subst he2
            exact sound_iaddr hh hs ho h1 h2 hu hi' hsz hz hn (by rw [hx]; simp only; rw [if_pos hcond])
          · cases he
        · rename_i z l ver off m hx
          split at he
          · rename_i hcond
            injection he with he; injection he with he1 he2; subst he1; subst he2
            exact sound_iaddr hh hs ho h1 h2 hu hi' hsz hz hn (by rw [hx]; simp only; rw [if_pos hcond])
          · cases he
        · cases he
      · cases he
    · cases hc
  case iaddrA n sz ag x i =>
    split at hc
    · rename_i t x' i' ho
      simp only [Bool.and_eq_true] at hc
      obtain ⟨⟨h1, h2⟩, h3⟩ := hc
      obtain ⟨e, hu, ht, hz⟩ := arrIs_spec h3
      split at he
      · rename_i k m hn
        split at he
        · rename_i hcond
          split at he
          · rename_i l ver off hx
            injection he with he; injection he with he1 he2; subst he1; subst he2
            exact sound_iaddrA hh hs ho h1 h2 hu ht hn hcond.1 hcond.2 (by rw [hx])
          · rename_i g cs hx
            split at he
            · rename_i hlen
              cases hp : partA ag (m.toNat * sz) sz cs with
              | none => rw [hp] at he; cases he
              | some v =>
                rw [hp] at he
                injection he with he; injection he with he1 he2; subst he1; subst he2
                exact sound_iaddrA hh hs ho h1 h2 hu ht hn hcond.1 hcond.2 (by rw [hx]; simp only; rw [if_pos hlen, hp]; rfl)
            · cases he
          · cases he
        · cases he
      · cases he
    · cases hc
  case index n sz ag x i =>
    split at hc
    · rename_i t x' i' ho
      simp only [Bool.and_eq_true] at hc
      obtain ⟨⟨h1, h2⟩, h3⟩ := hc
      obtain ⟨e, hu, ht, hz⟩ := arrIs_spec h3
      split at he
      · rename_i k m hn
        split at he
        · rename_i hcond
          split at he
          · rename_i cs hx
            cases hp : partA ag (m.toNat * sz) sz cs with
            | none => rw [hp] at he; cases he
            | some v =>
              rw [hp] at he
              injection he with he; injection he with he1 he2; subst he1; subst he2
              exact sound_index hh hs ho h1 h2 hu ht hn hcond.1 hcond.2 hx hp
          · cases he
        · cases he
      · cases he
    · cases hc
  case indexS x i =>
    split at hc
    · rename_i t x' i' ho
      simp only [Bool.and_eq_true] at hc
      obtain ⟨⟨h1, h2⟩, h3⟩ := hc
      split at he
      · rename_i b k m hb hn
        split at he
        · rename_i hcond
          injection he with he; injection he with he1 he2; subst he1; subst he2
          exact sound_indexS hh hs ho h1 h2 (isStr_spec h3) hn hb hcond.1 hcond.2
        · cases he
      · cases he
    · cases hc
  case ext x i =>
    split at hc
    · rename_i x' i' ho
      simp only [Bool.and_eq_true, beq_iff_eq] at hc
      obtain ⟨h1, rfl⟩ := hc
      split at he
      · rename_i vs hx
        split at he
        · rename_i hi
          injection he with he; injection he with he1 he2; subst he1; subst he2
          exact sound_ext hh hs ho h1 hx hi
        · cases he
      · cases he
    · cases hc
  case mkIf t x =>
    injection he with he; injection he with he1 he2; subst he1; subst he2
    split at hc
    · rename_i t' x' ho
      simp only [Bool.and_eq_true, beq_iff_eq] at hc
      obtain ⟨⟨rfl, h1⟩, h2⟩ := hc
      cases hd : P.underlying t with
      | none => rw [hd] at h2; cases h2
      | some d => rw [hd] at h2; exact sound_mkIf hh hs ho h1 hd (by cases d <;> first | rfl | exact h2)
    · cases hc
  case mkFn f caps =>
    injection he with he; injection he with he1 he2; subst he1; subst he2
    split at hc
    · rename_i f' first captured ho
      simp only [Bool.and_eq_true, beq_iff_eq] at hc
      obtain ⟨⟨rfl, h1⟩, h2⟩ := hc
      exact sound_mkFn hh hs ho (by simpa using h1) h2
    · cases hc
  case callF ro f args =>
    split at hc
    · rename_i y args' ts ho
      simp only [Bool.and_eq_true] at hc
      obtain ⟨hy, h1⟩ := hc
      split at hy
      case h_2 => cases hy
      rename_i f'
      simp only [beq_iff_eq] at hy
      subst hy
      refine sound_doCall hcalls hh (Xs_rep hs h1) he fun hent => ?_
      have := enter_run (P := P) (w := w) (a := a) (o := o) (f := f) (caps := #[]) ho rfl hent
      rw [this]
      congr 2
      apply Array.ext'
      simp
    · cases hc
  case callM f args =>
    split at hc
    · rename_i y args' ts ho
      simp only [Bool.and_eq_true] at hc
      obtain ⟨hy, h1⟩ := hc
      split at hy
      case h_2 => cases hy
      rename_i f'
      simp only [beq_iff_eq] at hy
      subst hy
      refine sound_doCallM hcalls hh (Xs_rep hs h1) he fun hent => ?_
      have := enter_run (P := P) (w := w) (a := a) (o := o) (f := f) (caps := #[]) ho rfl hent
      rw [this]
      congr 2
      apply Array.ext'
      simp
    · cases hc
  case callQ f x =>
    split at hc
    · rename_i y args' ts ho
      simp only [Bool.and_eq_true] at hc
      obtain ⟨hy, h1⟩ := hc
      split at hy
      case h_2 => cases hy
      rename_i f'
      simp only [beq_iff_eq] at hy
      subst hy
      have he : (fldQ h (E.rd f) (x.ev s)).map (·, h) = some (r, h') := he
      cases hrd : fldQ h (E.rd f) (x.ev s) with
      | none => rw [hrd] at he; cases he
      | some z =>
      rw [hrd] at he
      injection he with he; injection he with he1 he2; subst he1; subst he2
      refine sound_callQ hcalls hh (Xs_rep hs h1) hrd fun hent => ?_
      have := enter_run (P := P) (w := w) (a := a) (o := o) (f := f) (caps := #[]) ho rfl hent
      rw [this]
      congr 2
      apply Array.ext'
      simp
    · cases hc
  case callA f x =>
    split at hc
    · rename_i y args' ts ho
      simp only [Bool.and_eq_true] at hc
      obtain ⟨hy, h1⟩ := hc
      split at hy
      case h_2 => cases hy
      rename_i f'
      simp only [beq_iff_eq] at hy
      subst hy
      refine sound_callA hcalls hh (Xs_rep hs h1) he fun hent => ?_
      have := enter_run (P := P) (w := w) (a := a) (o := o) (f := f) (caps := #[]) ho rfl hent
      rw [this]
      congr 2
      apply Array.ext'
      simp
    · cases hc
  case eqNl ifc neg x =>
    split at hc
    · rename_i b' t x' y' u ho
      simp only [Bool.and_eq_true, beq_iff_eq] at hc
      obtain ⟨⟨h0, h1⟩, h2⟩ := hc
      cases hb : isNl ifc (x.ev s) with
      | none => rw [hb] at he; cases he
      | some z =>
        rw [hb] at he
        injection he with he; injection he with he1 he2; subst he1; subst he2
        exact sound_eqNl hh hs h0 ho h1 h2 hb
    · cases hc
  case nilChk x =>
    split at hc
    · rename_i x' ho
      split at he
      · rename_i g y hx
        injection he with he; injection he with he1 he2; subst he1; subst he2
        rw [← hx]
        exact sound_nilChk hh hs ho hc (.inl ⟨g, y, hx⟩)
      · rename_i l ver off hx
        injection he with he; injection he with he1 he2; subst he1; subst he2
        rw [← hx]
        exact sound_nilChk hh hs ho hc (.inr ⟨l, ver, off, hx⟩)
      · cases he
    · cases hc
  case s2a n sz x =>
    split at hc
    · rename_i t x' ho
      simp only [Bool.and_eq_true] at hc
      obtain ⟨h1, h2⟩ := hc
      split at h2
      · rename_i m e hu
        simp only [beq_iff_eq] at h2
        subst h2
        split at he
        · rename_i g z l hx
          split at he
          · rename_i hcond
            obtain ⟨rfl, hn, hl, hst⟩ := hcond
            injection he with he; injection he with he1 he2; subst he1; subst he2
            exact sound_s2a hh hs ho h1 hu hn hx hl hst
          · cases he
        · cases he
      · cases h2
    · cases hc
  case frz x =>
    split at hc
    · rename_i src dst y ho
      simp only [Bool.and_eq_true, beq_iff_eq] at hc
      obtain ⟨⟨rfl, h1⟩, h3⟩ := hc
      split at h3
      · rename_i e hu
        split at h3
        · rename_i hub
          exact sound_frz hh hs ho h1 hu hub he
        · cases h3
      · cases h3
    · cases hc
  case appMk sz by_ e zero x n =>
    split at hc
    · rename_i x' n' t tn ho
      have ho := call2_spec ho
      simp only [Bool.and_eq_true, beq_iff_eq] at hc
      obtain ⟨⟨⟨⟨⟨h1, h2⟩, h3⟩, h4⟩, h5⟩, h6⟩ := hc
      obtain ⟨hu, i, z, hi, hz, hs1, hb1, hzs, hp⟩ := elemZ_spec h3
      obtain ⟨i', z', hi', hz', hcz⟩ := zeroIs_spec h4
      rw [hi] at hi'
      injection hi' with hi'
      subst hi'
      rw [hz] at hz'
      injection hz' with hz'
      subst hz'
      split at h6
      · rename_i kn htn
        split at he
        · rename_i k m hm
          exact sound_appMk hh hs ho h1 h2 hu htn hi hz hs1 hb1 hp hcz h5 hm he
        · cases he
      · cases h6
    · cases hc
  case callV ro x args =>
    split at hc
    · rename_i y args' ts ho
      simp only [Bool.and_eq_true] at hc
      split at he
      · rename_i f cap hx
        have h1 := X_rep hs hc.1
        rw [hx] at h1
        simp only [Rep] at h1
        obtain ⟨vs, h2, h3⟩ := h1
        refine sound_doCall hcalls hh ((Xs_rep hs hc.2).append h3) he fun hent => ?_
        have := enter_run (P := P) (w := w) (a := a) (o := o) (f := f) (caps := vs.toArray) ho h2 hent
        rw [this]
        congr 2
        apply Array.ext'
        simp
      · cases he
    · cases hc
  case len x =>
    split at hc
    · rename_i x' t ho
      have ho := call1_spec ho
      simp only [Bool.and_eq_true] at hc
      obtain ⟨h1, h2⟩ := hc
      split at h2
      · rename_i e hu
        split at he
        · rename_i hcu
          cases hn : lenIn (x.ev s) with
          | none => rw [hn] at he; cases he
          | some n =>
            rw [hn] at he
            injection he with he; injection he with he1 he2; subst he1; subst he2
            exact sound_len hh hs ho h1 hu hn hcu
        · cases he
      · cases h2
    · cases hc
  case eqNil neg x =>
    split at hc
    · rename_i b' t x' y' u ho
      simp only [Bool.and_eq_true, beq_iff_eq] at hc
      obtain ⟨⟨⟨h0, h1⟩, h2⟩, h3⟩ := hc
      cases hb : isNilV (x.ev s) with
      | none => rw [hb] at he; cases he
      | some z =>
        rw [hb] at he
        injection he with he; injection he with he1 he2; subst he1; subst he2
        exact sound_eqNil hh hs h0 ho h1 h2 h3 hb
    · cases hc
  case fail => cases he
  case lenS x =>
    split at hc
    · rename_i x' t ho
      have ho := call1_spec ho
      simp only [Bool.and_eq_true] at hc
      split at he
      · rename_i b hb
        injection he with he; injection he with he1 he2; subst he1; subst he2
        exact sound_lenS hh hs ho hc.1 (isStr_spec hc.2) hb
      · cases he
    · cases hc
  case lenA n =>
    injection he with he; injection he with he1 he2; subst he1; subst he2
    split at hc
    · rename_i x' t ho
      have ho := call1_spec ho
      split at hc
      · rename_i m e hu
        simp only [beq_iff_eq] at hc
        subst hc
        exact sound_lenA hh hs ho (.inl ⟨e, hu⟩)
      · rename_i r hu
        split at hc
        · rename_i m e hr
          simp only [beq_iff_eq] at hc
          subst hc
          exact sound_lenA hh hs ho (.inr ⟨r, e, hu, hr⟩)
        · cases hc
      · cases hc
    · cases hc
  case toStr x =>
    split at hc
    · rename_i src dst y ho
      simp only [Bool.and_eq_true] at hc
      obtain ⟨⟨h1, h2⟩, h3⟩ := hc
      split at h3
      · rename_i e hu
        split at h3
        · rename_i hub
          cases hcs : cellsIn h 1 (x.ev s) with
          | none => rw [hcs] at he; cases he
          | some cs =>
            rw [hcs] at he
            simp only [Option.bind_some] at he
            cases hm : lenIn (x.ev s) with
            | none => rw [hm] at he; cases he
            | some m =>
              rw [hm] at he
              simp only [Option.bind_some] at he
              cases hn : u8sV cs with
              | none => rw [hn] at he; cases he
              | some ns =>
                rw [hn] at he
                injection he with he; injection he with he1 he2; subst he1; subst he2
                exact sound_toStr hh hs ho h1 hu hub (isStr_spec h2) hcs hm hn
        · cases h3
      · cases h3
    · cases hc
  case mm mx xs =>
    split at hc
    · rename_i b xs' ts ho
      simp only [Bool.and_eq_true, beq_iff_eq] at hc
      obtain ⟨rfl, h1⟩ := hc
      cases hv : mmV mx (xs.map (X.ev s)) with
      | none => rw [hv] at he; cases he
      | some v =>
        rw [hv] at he
        injection he with he; injection he with he1 he2; subst he1; subst he2
        exact sound_mm hh hs ho h1 hv
    · cases hc
  case capNil x =>
    split at hc
    · rename_i x' t ho
      have ho := call1_spec ho
      simp only [Bool.and_eq_true] at hc
      obtain ⟨h1, h2⟩ := hc
      split at h2
      · rename_i e hu
        split at he
        · rename_i hx
          injection he with he; injection he with he1 he2; subst he1; subst he2
          exact sound_capNil hh hs ho h1 hu hx
        · cases he
      · cases h2
    · cases hc
  case trunc sz x hi =>
    split at hc
    · rename_i t x' hi' ho
      simp only [Bool.and_eq_true, Option.isSome_iff_exists] at hc
      obtain ⟨⟨h1, h2⟩, e, h3⟩ := hc
      obtain ⟨hu, ti, hti, hsz, hz⟩ := elemIs_spec h3
      split at he
      · rename_i k n hn
        exact sound_trunc hh hs ho h1 h2 hu hti hsz hz hn he
      · cases he
    · cases hc
  case buildE =>
    split at hc
    · rename_i t parts ho
      split at hc
      · rename_i e hu0
        split at hc
        · rename_i i0 hi0
          obtain ⟨i, z, hu, hi, hz, h1, h2, h3, h4, h5⟩ := lit_spec hc
          injection he with he; injection he with he1 he2; subst he1; subst he2
          exact sound_buildE hh hs ho hu hi h1 hz h2 h4 h5
        · cases hc
      · cases hc
    · cases hc
  case appE sz by_ x y =>
    split at hc
    · rename_i x' y' t t' ho
      have ho := call2_spec ho
      simp only [Bool.and_eq_true, beq_iff_eq] at hc
      obtain ⟨⟨⟨h1, h2⟩, rfl⟩, h3⟩ := hc
      split at h3
      · rename_i e hu0
        obtain ⟨hu, i, z, hi, hz, hs1, hb1, hzs, hp⟩ := elemZ_spec h3
        cases hv : appEV sz by_ (x.ev s) (y.ev s) with
        | none => rw [hv] at he; cases he
        | some r0 =>
          rw [hv] at he
          simp only [Option.map_some] at he
          injection he with he; injection he with he1 he2; subst he1; subst he2
          exact sound_appE hh hs ho h1 h2 hu hi hz hs1 hb1 hp hv
      · cases h3
    · cases hc
  case appF sz by_ e x y =>
    split at hc
    · rename_i x' y' t t' ho
      have ho := call2_spec ho
      simp only [Bool.and_eq_true, beq_iff_eq] at hc
      obtain ⟨⟨⟨h1, h2⟩, rfl⟩, h3⟩ := hc
      obtain ⟨hu, i, z, hi, hz, hs1, hb1, hzs, hp⟩ := elemZ_spec h3
      cases hys : cellsIn h sz (y.ev s) with
      | none => rw [hys] at he; cases he
      | some ys =>
        rw [hys] at he
        simp only [Option.bind_some] at he
        cases hm : lenIn (y.ev s) with
        | none => rw [hm] at he; cases he
        | some m =>
          rw [hm] at he
          simp only [Option.bind_some] at he
          exact sound_appF hh hs ho h1 h2 hu hi hz hs1 hb1 hzs hp hys hm he
    · cases hc
  case append sz by_ e x y =>
    split at hc
    · rename_i x' y' t t' ho
      have ho := call2_spec ho
      simp only [Bool.and_eq_true, beq_iff_eq] at hc
      obtain ⟨⟨⟨h1, h2⟩, rfl⟩, h3⟩ := hc
      obtain ⟨hu, i, z, hi, hz, hs1, hb1, hzs, hp⟩ := elemZ_spec h3
      cases hys : cellsIn h sz (y.ev s) with
      | none => rw [hys] at he; cases he
      | some ys =>
        rw [hys] at he
        simp only [Option.bind_some] at he
        cases hm : lenIn (y.ev s) with
        | none => rw [hm] at he; cases he
        | some m =>
          rw [hm] at he
          simp only [Option.bind_some] at he
          split at he
          · rename_i hx
            split at he
            · rename_i hcond
              injection he with he; injection he with he1 he2; subst he1; subst he2
              exact sound_appendNil hh hs ho h1 h2 hu hi hz hs1 hb1 hzs hp hys hm hx hcond.1 hcond.2.1 hcond.2.2
            · cases he
          · rename_i z' l ver n hx
            split at he
            · rename_i v zz vs t'' hobj
              split at he
              · rename_i hcond
                obtain ⟨rfl, rfl, rfl, rfl, c1, c2, c3, c4⟩ := hcond
                injection he with he; injection he with he1 he2; subst he1; subst he2
                exact sound_append hh hs ho h1 h2 hu hi hz hs1 hb1 hzs hp hys hm hx hobj c1 c2 c3 c4
              · cases he
            · cases he
          · cases he
    · cases hc
  case mkMap kk =>
    injection he with he; injection he with he1 he2; subst he1; subst he2
    split at hc
    · rename_i t ho
      split at hc
      · rename_i kt et ht
        exact sound_mkMap hh ho ht hc
      · cases hc
    · cases hc
  case look ok kk zero m k =>
    split at hc
    · rename_i t m' k' ok' ho
      simp only [Bool.and_eq_true, beq_iff_eq] at hc
      obtain ⟨⟨⟨rfl, h1⟩, h2⟩, h3⟩ := hc
      split at h3
      · rename_i kt et ht
        simp only [Bool.and_eq_true] at h3
        cases hes : entsOf h kk (m.ev s) with
        | none => rw [hes] at he; cases he
        | some es =>
          rw [hes] at he
          simp only [Option.bind_some] at he
          cases hp : avP (k.ev s) with
          | none => rw [hp] at he; cases he
          | some p =>
            rw [hp] at he
            simp only [Option.bind_some] at he
            split at he
            · rename_i hkp
              injection he with he; injection he with he1 he2; subst he1; subst he2
              exact sound_look hh hs ho ht h3.1 h3.2 h1 h2 hes hp hkp
            · cases he
      · cases h3
    · cases hc
  case mapUpd kk m k v =>
    split at hc
    · rename_i t m' k' v' ho
      simp only [Bool.and_eq_true] at hc
      obtain ⟨⟨⟨h1, h2⟩, h3⟩, h4⟩ := hc
      split at h4
      · rename_i kt et ht
        split at he
        · rename_i l k1 v1 hm hk hv
          split at he
          · rename_i q es hobj
            split at he
            · rename_i hcond
              obtain ⟨rfl, hkp, hlen⟩ := hcond
              injection he with he; injection he with he1 he2; subst he1; subst he2
              exact sound_mapUpd hh hs ho ht h4 h1 h2 h3 hm hobj hk hkp hv hlen
            · cases he
          · cases he
        · cases he
      · cases h4
    · cases hc
  case mdel kk m k =>
    split at hc
    · rename_i m' k' t kt' ho
      have ho := call2_spec ho
      simp only [Bool.and_eq_true] at hc
      obtain ⟨⟨h1, h2⟩, h4⟩ := hc
      split at h4
      · rename_i kt et ht
        simp only [Bool.and_eq_true, decide_eq_true_eq] at h4
        split at he
        · rename_i k1 hm hk
          split at he
          · rename_i hkp
            injection he with he; injection he with he1 he2; subst he1; subst he2
            exact sound_mdel0 hh hs ho ht h4.1 h4.2 h1 h2 hm hk hkp
          · cases he
        · rename_i l k1 hm hk
          split at he
          · rename_i q es hobj
            split at he
            · rename_i hcond
              obtain ⟨rfl, hkp⟩ := hcond
              injection he with he; injection he with he1 he2; subst he1; subst he2
              exact sound_mdel hh hs ho ht h4.1 h4.2 h1 h2 hm hobj hk hkp
            · cases he
          · cases he
        · cases he
      · cases h4
    · cases hc
  case mlen kk m =>
    split at hc
    · rename_i m' t ho
      have ho := call1_spec ho
      simp only [Bool.and_eq_true] at hc
      obtain ⟨h1, h4⟩ := hc
      split at h4
      · rename_i kt et ht
        cases hes : entsOf h kk (m.ev s) with
        | none => rw [hes] at he; cases he
        | some es =>
          rw [hes] at he
          injection he with he; injection he with he1 he2; subst he1; subst he2
          exact sound_mlen hh hs ho ht h4 h1 hes
      · cases h4
    · cases hc
  case eqNlm neg m =>
    split at hc
    · rename_i b t m' u ho
      simp only [Bool.and_eq_true, beq_iff_eq] at hc
      obtain ⟨⟨h0, h1⟩, h4⟩ := hc
      cases ht : mapTy P t with
      | none => rw [ht] at h4; cases h4
      | some q =>
        cases hb : nilMapV h (m.ev s) with
        | none => rw [hb] at he; cases he
        | some z =>
          rw [hb] at he
          injection he with he; injection he with he1 he2; subst he1; subst he2
          exact sound_eqNlm hh hs h0 ho ht h1 hb
    · cases hc
  case copy sz x y =>
    split at hc
    · rename_i x' y' t t2 ho
      have ho := call2_spec ho
      simp only [Bool.and_eq_true] at hc
      obtain ⟨⟨h1, h2⟩, h3⟩ := hc
      obtain ⟨e, he1⟩ := Option.isSome_iff_exists.1 h3
      obtain ⟨hu, ti, hi', hsz, hz⟩ := elemIs_spec he1
      cases hys : cellsIn h sz (y.ev s) with
      | none => rw [hys] at he; cases he
      | some ys =>
        rw [hys] at he
        simp only [Option.bind_some] at he
        cases hm : lenIn (y.ev s) with
        | none => rw [hm] at he; cases he
        | some m =>
          rw [hm] at he
          simp only [Option.bind_some] at he
          split at he
          · rename_i z l ver off n hx
            split at he
            · rename_i hcond
              cases hst : storeAt h l ver off (min m n * sz) (.agg (ys.take (min m n * sz))) with
              | none => rw [hst] at he; cases he
              | some h2' =>
                rw [hst] at he
                injection he with he; injection he with he1 he2; subst he1; subst he2
                obtain ⟨rfl, hall, hcu⟩ := hcond
                refine sound_copy hh hs ho h1 h2 hu hi' hsz hz hys hm hall hx hst ?_
                unfold hasCells at hcu
                split at hcu
                · rename_i vs hv
                  exact ⟨vs, hv, by simpa using hcu⟩
                · cases hcu
            · cases he
          · cases he
    · cases hc

theorem evI_sound (hcalls : CallsOk P E call) (hh : HeapRel Bad β h w) (hs : SlotsRep β h (FOf Bad β) w s a) {op : I} (hc : chkI P o.op op = true) {r : AV} {h' : Heap} (he : evI E call s h op = some (r, h')) : OpSound P Bad β h w a o r h' :=
  evI_sound0 hcalls hh hs (gen_gen op) ((chkI_gen P o.op op).trans hc) (evI_gen he)

end
end Go.Fw
