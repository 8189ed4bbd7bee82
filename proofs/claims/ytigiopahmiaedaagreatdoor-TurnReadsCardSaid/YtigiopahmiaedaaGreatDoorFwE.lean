/-
  One operation at a time: where the code of the evaluation fits the machine's operation, the machine's operation does what the evaluation says: values. Conditions: stated at each.
  One operation at a time: addresses, reading, writing. Conditions: stated at each.
  '==' of structs whose fields are plain values. Conditions: stated at each.
-/
import Derived.Test.YtigiopahmiaedaaGreatDoorFwC
import Derived.Laws.StructEq
import Derived.Laws.Cover3
import Derived.ChangeKeysEq
set_option linter.unusedVariables false
set_option linter.unusedSimpArgs false
namespace Go.Fw
open Go.RowKit (Below)

mutual
def constOk : AV → Value → Bool
  | .bool b, .bool c => b == c
  | .int k n, .int j m => k == j && n == m
  | .str s, .string t => s.data.toList == t.data.toList
  | .nils, .slice a n c => a.isNone && n == 0 && c == 0
  | .rs _ sz l, .slice a n c => decide (0 < sz) && l.isEmpty && a.isNone && n == 0 && c == 0
  | .nilp, .pointer a => a.isNone
  | .nilf, .nilFunc => true
  | .nili, .nilIface => true
  | .agg cs, .agg vs => constOkL cs vs.toList
  | _, _ => false
def constOkL : List AV → List Value → Bool
  | [], [] => true
  | x :: l, v :: vs => storable x && constOk x v && constOkL l vs
  | _, _ => false
end

def chkX : X → Operand → Bool
  | .t n, .tmp m => n == m
  | .c (.fn f []), .func g => f == g
  | .c v, .const u => constOk v u
  | _, _ => false

def chkXs : List X → List Operand → Bool
  | [], [] => true
  | x :: l, o :: os => chkX x o && chkXs l os
  | _, _ => false

def chkXo : Option X → Option Operand → Bool
  | none, none => true
  | some x, some o => chkX x o
  | _, _ => false

section
variable {β : List Value} {h : Heap} {F : Forb} {w : World}

theorem Rep.oneCell {x : AV} {v : Value} (hs : storable x = true) (hr : Rep x β h F w v) : v.oneCell' = true := by
  cases x <;> simp only [storable, Rep] at hs hr
  case rs g sz l => obtain ⟨a, c, us, rfl, r⟩ := hr; rfl
  case rp g x => obtain ⟨a, us, rfl, r⟩ := hr; rfl
  case ref l ver o => obtain ⟨_, ⟨a, rfl⟩, _⟩ := hr; rfl
  case sl sz l ver o n => obtain ⟨_, ⟨a, m, c, rfl⟩, _⟩ := hr; rfl
  case fn f cap => obtain ⟨vs, rfl, r⟩ := hr; rfl
  case iface t x => obtain ⟨y, rfl, r⟩ := hr; rfl
  all_goals first | (subst hr; rfl) | cases hs

theorem cells_of_one {v : Value} (h : v.oneCell' = true) : v.cells = #[v] := by
  cases v <;> first | rfl | cases h

/-- The cells of a value. -/
theorem Rep.cells {x : AV} {v : Value} (hs : (cellsOf x).all storable = true) (hr : Rep x β h F w v) : RepL (cellsOf x) β h F w v.cells.toList ∧ ∀ u ∈ v.cells.toList, u.oneCell' = true := by
  by_cases ha : ∃ cs, x = .agg cs
  · obtain ⟨cs, rfl⟩ := ha
    simp only [Rep] at hr
    obtain ⟨vs, rfl, hl, h1⟩ := hr
    exact ⟨by simpa [Value.cells, cellsOf] using hl, by simpa [Value.cells] using h1⟩
  · have hc : cellsOf x = [x] := by
      cases x <;> first | rfl | exact absurd ⟨_, rfl⟩ ha
    rw [hc] at hs ⊢
    have h1 := Rep.oneCell (by simpa using hs) hr
    rw [cells_of_one h1]
    exact ⟨⟨v, [], rfl, hr, rfl⟩, by simpa using h1⟩

mutual
theorem const_rep : ∀ (x : AV) {v : Value} (hc : constOk x v = true), Rep x β h F w v
  | .undef, v, hc => trivial
  | .bool b, v, hc => by cases v <;> simp_all [constOk, Rep]
  | .int k n, v, hc => by cases v <;> simp_all [constOk, Rep]
  | .str s, v, hc => by
    cases v <;> simp_all [constOk, Rep]
    rename_i t
    cases s; cases t
    simp at hc ⊢
    exact hc.symm
  | .nils, v, hc => by
    cases v <;> simp [constOk] at hc
    obtain ⟨⟨rfl, rfl⟩, rfl⟩ := hc
    rfl
  | .rs g sz l, v, hc => by
    cases v <;> simp [constOk] at hc
    obtain ⟨⟨⟨⟨hz, rfl⟩, rfl⟩, rfl⟩, rfl⟩ := hc
    exact ⟨none, 0, [], rfl, Nat.le_refl _, .inl hz, rfl, fun i u hi => by simp at hi⟩
  | .nilp, v, hc => by
    cases v <;> simp [constOk] at hc
    subst hc
    rfl
  | .rp g x, v, hc => by cases v <;> simp [constOk] at hc
  | .ref l ver o, v, hc => by cases v <;> simp [constOk] at hc
  | .sl sz l ver o n, v, hc => by cases v <;> simp [constOk] at hc
  | .nilf, v, hc => by cases v <;> simp_all [constOk, Rep]
  | .fn f cap, v, hc => by cases v <;> simp [constOk] at hc
  | .nili, v, hc => by cases v <;> simp_all [constOk, Rep]
  | .iface t x, v, hc => by cases v <;> simp [constOk] at hc
  | .agg cs, v, hc => by
    cases v <;> simp only [constOk] at hc <;> try (cases hc; done)
    rename_i vs
    simp only [Rep]
    obtain ⟨h1, h2⟩ := constL_rep cs hc
    exact ⟨vs.toList, by simp, h1, h2⟩
  | .tup cs, v, hc => by cases v <;> simp [constOk] at hc
theorem constL_rep : ∀ (l : List AV) {vs : List Value} (hc : constOkL l vs = true), RepL l β h F w vs ∧ ∀ u ∈ vs, u.oneCell' = true
  | [], vs, hc => by cases vs <;> simp_all [constOkL, RepL]
  | x :: l, vs, hc => by
    cases vs with
    | nil => simp [constOkL] at hc
    | cons v vs =>
      simp only [constOkL, Bool.and_eq_true] at hc
      obtain ⟨⟨h0, h1⟩, h2⟩ := hc
      obtain ⟨h3, h4⟩ := constL_rep l h2
      have h5 := const_rep x h1
      refine ⟨⟨v, vs, rfl, h5, h3⟩, ?_⟩
      intro u hu
      rcases List.mem_cons.1 hu with rfl | hu
      · exact Rep.oneCell h0 h5
      · exact h4 u hu
end

def SlotsRep (β : List Value) (h : Heap) (F : Forb) (w : World) (s : Slots) (a : Act) : Prop := ∀ t, Rep (get s t) β h F w (a.tmps.getD t undef)

theorem X_rep {s : Slots} {a : Act} (hs : SlotsRep β h F w s a) {x : X} {o : Operand} (hc : chkX x o = true) : Rep (x.ev s) β h F w (a.eval o) := by
  cases x with
  | t n =>
    cases o <;> simp [chkX] at hc
    subst hc
    exact hs n
  | c v =>
    cases o with
    | const u =>
      have : constOk v u = true := by
        cases v
        case fn f cap => cases cap <;> simpa [chkX] using hc
        all_goals simpa [chkX] using hc
      exact const_rep v this
    | func g =>
      cases v <;> simp [chkX] at hc
      rename_i f cap
      cases cap <;> simp [chkX] at hc
      subst hc
      exact ⟨[], rfl, rfl⟩
    | tmp t => cases v <;> first | (simp [chkX] at hc; done) | (rename_i f cap; cases cap <;> simp [chkX] at hc)
    | global g => cases v <;> first | (simp [chkX] at hc; done) | (rename_i f cap; cases cap <;> simp [chkX] at hc)

theorem Xs_rep {s : Slots} {a : Act} (hs : SlotsRep β h F w s a) : ∀ {xs : List X} {os : List Operand} (hc : chkXs xs os = true), RepL (xs.map (X.ev s)) β h F w (os.map a.eval)
  | [], [], _ => rfl
  | x :: xs, o :: os, hc => by
    simp only [chkXs, Bool.and_eq_true] at hc
    exact ⟨_, _, rfl, X_rep hs hc.1, Xs_rep hs hc.2⟩
  | [], _ :: _, hc => by simp [chkXs] at hc
  | _ :: _, [], hc => by simp [chkXs] at hc

end

theorem run_equalIn_bool {P : Program} (w : World) (d : Nat) (t : TypeId) (b c : Bool) (h : P.underlying t = some .bool) : (Op.equalIn (d + 1) t (.bool b) (.bool c)).run P w = .ok (b == c) w := by
  simp [Op.equalIn, run_underlying h]

/-! ### what an operation owes -/

section
variable {P : Program} {Bad : Forb} {β : List Value} {h : Heap} {w : World} {a : Act} {s : Slots} {o : Oper} {Q : Exit → Act → World → Prop}

def OpSound (P : Program) (Bad : Forb) (β : List Value) (h : Heap) (w : World) (a : Act) (o : Oper) (r : AV) (h' : Heap) : Prop :=
  ∀ (K : Act → World → Prop) (Q : Exit → Act → World → Prop), (∀ v β' w', Step Bad β h w β' h' w' → Rep r β' h' (FOf Bad β') w' v → K (a.put o.dst v) w') → o.wp P a w K Q

theorem sound_value {r : AV} {h' : Heap} {v : Value} {β' : List Value} {w' : World} (hrun : (execOp a.eval o).run P w = .ok (.value v) w') (hst : Step Bad β h w β' h' w')
    (hr : Rep r β' h' (FOf Bad β') w' v) : OpSound P Bad β h w a o r h' := by
  intro K Q hk
  unfold Oper.wp
  rw [hrun]
  exact hk v β' w' hst hr

theorem sound_skip {h' : Heap} {β' : List Value} {w' : World} (hrun : (execOp a.eval o).run P w = .ok .skip w') (hst : Step Bad β h w β' h' w') : OpSound P Bad β h w a o .undef h' := by
  intro K Q hk
  unfold Oper.wp
  rw [hrun]
  exact hk undef β' w' hst trivial

theorem sound_pure {r : AV} {v : Value} (hh : HeapRel Bad β h w) (hrun : (execOp a.eval o).run P w = .ok (.value v) w) (hr : Rep r β h (FOf Bad β) w v) : OpSound P Bad β h w a o r h :=
  sound_value hrun (Step.refl hh) hr

variable (hh : HeapRel Bad β h w) (hs : SlotsRep β h (FOf Bad β) w s a)
include hh hs

theorem sound_mov {x : X} {y : Operand} (ho : o.op = .move y ∨ o.op = .assign y) (hc : chkX x y = true) : OpSound P Bad β h w a o (x.ev s) h := by
  refine sound_pure hh ?_ (X_rep hs hc)
  rcases ho with ho | ho <;> simp [execOp, ho]

theorem sound_pick {c x y : X} {c' x' y' : Operand} (ho : o.op = .pick c' x' y') (hc : chkX c c' = true) (hx : chkX x x' = true) (hy : chkX y y' = true) {b : Bool} (hb : c.ev s = .bool b) :
    OpSound P Bad β h w a o (if b then x.ev s else y.ev s) h := by
  have h1 := X_rep hs hc
  rw [hb] at h1
  simp only [Rep] at h1
  refine sound_pure hh (v := if b then a.eval x' else a.eval y') ?_ ?_
  · simp [execOp, ho, h1, asBool]
  · cases b
    · exact X_rep hs hy
    · exact X_rep hs hx

theorem sound_un {x : X} {y : Operand} {op : UnOp} {t : TypeId} (ho : o.op = .unOp op t y) (hc : chkX x y = true) {r : AV} (hr : unop op (x.ev s) = some r) : OpSound P Bad β h w a o r h := by
  have h1 := X_rep hs hc
  generalize x.ev s = xv at h1 hr
  cases xv <;> cases op <;> simp only [unop, Option.some.injEq, reduceCtorEq] at hr <;> subst hr <;> simp only [Rep] at h1
  case int.neg k n => exact sound_pure hh (v := .int k (k.wrap (0 - n))) (by simp [execOp, ho, h1, Op.unary, Op.intArith]) rfl
  case int.xor k n => exact sound_pure hh (v := .int k (bitsI .xor k (if k.signed then -1 else k.max) n)) (by simp [execOp, ho, h1, Op.unary, Op.intBits, bitsI]) rfl
  case bool.not b => exact sound_pure hh (v := .bool !b) (by simp [execOp, ho, h1, Op.unary]) rfl

theorem sound_bin {x y : X} {x' y' : Operand} {op : BinOp} {t u : TypeId} (ho : o.op = .binOp op t x' y' u) (hx : chkX x x' = true) (hy : chkX y y' = true)
    {r : AV} (hr : binop op (x.ev s) (y.ev s) = some r) : OpSound P Bad β h w a o r h := by
  have h1 := X_rep hs hx
  have h2 := X_rep hs hy
  generalize x.ev s = xv at h1 hr
  generalize y.ev s = yv at h2 hr
  cases xv <;> cases yv <;> simp only [binop, reduceCtorEq] at hr
  case int.int k m k' n =>
    simp only [Rep] at h1 h2
    have hg : ∀ w : World, (eqGuard op t x' y' (.int k m) (.int k' n)).run P w = .ok () w := fun w => by
      unfold eqGuard
      cases op <;> simp
    by_cases hsh : op = .shl ∨ op = .shr
    · rcases hsh with rfl | rfl
      · simp only [shiftI] at hr
        split at hr
        · cases hr
        · rename_i hn
          injection hr with hr
          subst hr
          exact sound_pure hh (v := .int k (k.wrap (m * 2 ^ (min n.toNat k.bits)))) (by simp [execOp, ho, h1, h2, hg, binOp, Op.shift, hn]) rfl
      · simp only [shiftI] at hr
        split at hr
        · cases hr
        · rename_i hn
          injection hr with hr
          subst hr
          exact sound_pure hh (v := .int k (m.fdiv (2 ^ (min n.toNat k.bits)))) (by simp [execOp, ho, h1, h2, hg, binOp, Op.shift, hn]) rfl
    · have hr' : (if k = k' then binI op k m n else none) = some r := by
        cases op <;> first | exact hr | exact absurd (.inl rfl) hsh | exact absurd (.inr rfl) hsh
      split at hr'
      case isFalse => cases hr'
      case isTrue hk =>
        subst hk
        cases op <;> simp only [binI, reduceCtorEq] at hr'
        case quo =>
          split at hr' <;> first | (cases hr'; done) | skip
          rename_i hn
          injection hr' with hr'
          subst hr'
          exact sound_pure hh (v := .int k (k.wrap (m.tdiv n))) (by simp [execOp, ho, h1, h2, hg, binOp, Op.intDiv, hn]) rfl
        case rem =>
          split at hr' <;> first | (cases hr'; done) | skip
          rename_i hn
          injection hr' with hr'
          subst hr'
          exact sound_pure hh (v := .int k (m.tmod n)) (by simp [execOp, ho, h1, h2, hg, binOp, Op.intDiv, hn]) rfl
        all_goals (injection hr' with hr'; subst hr')
        case add => exact sound_pure hh (v := .int k (k.wrap (m + n))) (by simp [execOp, ho, h1, h2, hg, binOp, Op.intArith]) rfl
        case sub => exact sound_pure hh (v := .int k (k.wrap (m - n))) (by simp [execOp, ho, h1, h2, hg, binOp, Op.intArith]) rfl
        case mul => exact sound_pure hh (v := .int k (k.wrap (m * n))) (by simp [execOp, ho, h1, h2, hg, binOp, Op.intArith]) rfl
        case and => exact sound_pure hh (v := .int k (bitsI .and k m n)) (by simp [execOp, ho, h1, h2, hg, binOp, Op.intBits, bitsI]) rfl
        case or => exact sound_pure hh (v := .int k (bitsI .or k m n)) (by simp [execOp, ho, h1, h2, hg, binOp, Op.intBits, bitsI]) rfl
        case xor => exact sound_pure hh (v := .int k (bitsI .xor k m n)) (by simp [execOp, ho, h1, h2, hg, binOp, Op.intBits, bitsI]) rfl
        case andNot => exact sound_pure hh (v := .int k (bitsI .andNot k m n)) (by simp [execOp, ho, h1, h2, hg, binOp, Op.intBits, bitsI]) rfl
        case eql => exact sound_pure hh (v := .bool (decide (m = n))) (by simp [execOp, ho, h1, h2, hg, binOp, Op.intCmp]; rfl) rfl
        case neq => exact sound_pure hh (v := .bool (!decide (m = n))) (by simp [execOp, ho, h1, h2, hg, binOp, Op.intCmp, bne]; rfl) rfl
        case lss => exact sound_pure hh (v := .bool (decide (m < n))) (by simp [execOp, ho, h1, h2, hg, binOp, Op.intCmp]) rfl
        case leq => exact sound_pure hh (v := .bool (decide (m ≤ n))) (by simp [execOp, ho, h1, h2, hg, binOp, Op.intCmp]) rfl
        case gtr => exact sound_pure hh (v := .bool (decide (n < m))) (by simp [execOp, ho, h1, h2, hg, binOp, Op.intCmp]) rfl
        case geq => exact sound_pure hh (v := .bool (decide (n ≤ m))) (by simp [execOp, ho, h1, h2, hg, binOp, Op.intCmp]) rfl
  case str.str b c =>
    simp only [Rep] at h1 h2
    have hg : ∀ w : World, (eqGuard op t x' y' (.string b) (.string c)).run P w = .ok () w := fun w => by
      unfold eqGuard
      cases op <;> simp
    cases op <;> simp only [Option.some.injEq, reduceCtorEq] at hr
    case add =>
      split at hr
      · rename_i hl
        injection hr with hr
        subst hr
        have hl' : ¬ (((b.size + c.size : Nat) : Int) > IntKind.i64.max) := by
          show ¬ (_ > (9223372036854775807 : Int))
          omega
        exact sound_pure hh (v := .string (b ++ c)) (by simp only [execOp, ho, h1, h2, hg, binOp, Op.stringOp, Sem.run_bind, Result.andThen_ok, if_neg hl', Sem.run_pure]) rfl
      · cases hr
    all_goals subst hr
    · exact sound_pure hh (v := .bool (b.toList == c.toList)) (by simp [execOp, ho, h1, h2, hg, binOp, Op.stringOp]) rfl
    · exact sound_pure hh (v := .bool (!(b.toList == c.toList))) (by simp [execOp, ho, h1, h2, hg, binOp, Op.stringOp]) rfl

theorem sound_binB {x y : X} {x' y' : Operand} {op : BinOp} {t u : TypeId} (ho : o.op = .binOp op t x' y' u) (hx : chkX x x' = true) (hy : chkX y y' = true)
    (hb : P.underlying t = some .bool) {r : AV} (hr : binopB op (x.ev s) (y.ev s) = some r) : OpSound P Bad β h w a o r h := by
  have h1 := X_rep hs hx
  have h2 := X_rep hs hy
  generalize x.ev s = xv at h1 hr
  generalize y.ev s = yv at h2 hr
  cases xv <;> cases yv <;> simp only [binopB, reduceCtorEq] at hr
  case bool.bool b c =>
    simp only [Rep] at h1 h2
    have he : ∀ w : World, (Op.equal t (.bool b) (.bool c)).run P w = .ok (b == c) w := fun w => run_equalIn_bool w 9999 t b c hb
    have hg : ∀ w : World, (eqGuard op t x' y' (.bool b) (.bool c)).run P w = .ok () w := fun w => by
      unfold eqGuard
      cases op <;> simp
    cases op <;> simp only [Option.some.injEq, reduceCtorEq] at hr <;> subst hr
    · exact sound_pure hh (v := .bool (b == c)) (by simp only [execOp, ho, h1, h2, binOp, Sem.run_bind, hg, he, Result.andThen_ok, Sem.run_pure]) rfl
    · exact sound_pure hh (v := .bool (!(b == c))) (by simp only [execOp, ho, h1, h2, binOp, Sem.run_bind, hg, he, Result.andThen_ok, Sem.run_pure]) rfl

theorem sound_conv {x : X} {y : Operand} {src dst : TypeId} {k : IntKind} (ho : o.op = .convert src dst y) (hc : chkX x y = true) (hd : P.underlying dst = some (.int k)) (hsr : (P.underlying src).isSome = true)
    {j : IntKind} {n : Int} (hx : x.ev s = .int j n) : OpSound P Bad β h w a o (wrapI k n) h := by
  have h1 := X_rep hs hc
  rw [hx] at h1
  simp only [Rep] at h1
  obtain ⟨d, hd'⟩ := Option.isSome_iff_exists.1 hsr
  exact sound_pure hh (v := .int k (k.wrap n)) (by simp [execOp, ho, h1, convert, run_underlying hd, run_underlying hd', Conv.intToInt]) rfl

theorem sound_ext {x : X} {y : Operand} {i : Nat} (ho : o.op = .extract y i) (hc : chkX x y = true) {vs : List AV} (hx : x.ev s = .tup vs) (hi : i < vs.length) : OpSound P Bad β h w a o (vs.getD i .undef) h := by
  have h1 := X_rep hs hc
  rw [hx] at h1
  simp only [Rep] at h1
  obtain ⟨us, h1, hl⟩ := h1
  obtain ⟨u, hu, hr⟩ := RepL.at hl (List.getElem?_eq_getElem hi)
  refine sound_pure hh (v := u) (by simp [execOp, ho, h1, Instr.extract, hu]) ?_
  rw [List.getD_eq_getElem?_getD, List.getElem?_eq_getElem hi]
  exact hr

theorem sound_mkIf {x : X} {y : Operand} {t : TypeId} (ho : o.op = .makeInterface t y) (hc : chkX x y = true) {d : TypeDesc} (hd : P.underlying t = some d) (hn : (match d with | .interface _ => false | _ => true) = true) :
    OpSound P Bad β h w a o (.iface t (x.ev s)) h := by
  refine sound_pure hh (v := .iface t (a.eval y)) ?_ ⟨_, rfl, X_rep hs hc⟩
  cases d <;> first | (cases hn; done) | simp [execOp, ho, Instr.makeInterface, run_underlying hd]

theorem sound_mkFn {xs : List X} {f : FuncId} {first caps : Array Operand} (ho : o.op = .makeFunc (.func f) first caps) (hf : first = #[]) (hc : chkXs xs caps.toList = true) :
    OpSound P Bad β h w a o (.fn f (xs.map (X.ev s))) h := by
  subst hf
  refine sound_pure hh (v := .func (.func f) #[] (caps.toList.map a.eval).toArray) ?_ ⟨_, rfl, Xs_rep hs hc⟩
  have : caps.map a.eval = (caps.toList.map a.eval).toArray := by apply Array.ext'; simp
  simp [execOp, ho, Instr.makeFunc, this]

end
end Go.Fw
set_option linter.unusedVariables false
set_option linter.unusedSimpArgs false
set_option linter.unusedSectionVars false
namespace Go.Fw
open Go.RowKit (Below)

def isAggD : TypeDesc → Bool
  | .struct _ | .array _ _ => true
  | _ => false

/-- A type whose variables have so many cells. -/
def tyIs (P : Program) (t : TypeId) (ag : Bool) (sz : Nat) : Bool :=
  match P.info? t, P.underlying t with
  | some i, some d => i.size == sz && isAggD d == ag
  | _, _ => false

theorem tyIs_spec {P : Program} {t : TypeId} {ag : Bool} {sz : Nat} (h : tyIs P t ag sz = true) : ∃ i d, P.info? t = some i ∧ P.underlying t = some d ∧ i.size = sz ∧ isAggD d = ag := by
  unfold tyIs at h
  split at h
  · rename_i i d hi hd
    simp at h
    exact ⟨i, d, hi, hd, h.1, h.2⟩
  · cases h

theorem run_isAgg {P : Program} {t : TypeId} {d : TypeDesc} (hd : P.underlying t = some d) (w : World) : (isAgg t).run P w = .ok (isAggD d) w := by
  cases d <;> simp [isAgg, run_underlying hd, isAggD]

theorem run_sizeOf {P : Program} {t : TypeId} {i : TypeInfo} (hi : P.info? t = some i) (w : World) : (sizeOf t).run P w = .ok i.size w := by
  simp [sizeOf, typeInfo, hi]

/-! ### what is only read, wherever it is used -/

mutual
theorem Rep.ofNil {F : Forb} {w : World} : ∀ (x : AV) {β : List Value} {h : Heap} {v : Value}, Rep x [] [] F w v → Rep x β h F w v
  | .undef, _, _, _, _ => trivial
  | .bool b, _, _, _, hr => hr
  | .int k n, _, _, _, hr => hr
  | .str s, _, _, _, hr => hr
  | .nils, _, _, _, hr => hr
  | .rs g sz l, _, _, _, hr => hr
  | .nilp, _, _, _, hr => hr
  | .rp g x, _, _, _, hr => hr
  | .ref l ver o, _, _, _, hr => by simp [Rep, Live] at hr
  | .sl sz l ver o n, _, _, _, hr => by simp [Rep, Live] at hr
  | .nilf, _, _, _, hr => hr
  | .fn f cap, _, _, _, hr => by
    simp only [Rep] at hr ⊢
    obtain ⟨vs, rfl, hl⟩ := hr
    exact ⟨vs, rfl, RepL.ofNil cap hl⟩
  | .nili, _, _, _, hr => hr
  | .iface t x, _, _, _, hr => by
    simp only [Rep] at hr ⊢
    obtain ⟨y, rfl, h⟩ := hr
    exact ⟨y, rfl, Rep.ofNil x h⟩
  | .agg cs, _, _, _, hr => by
    simp only [Rep] at hr ⊢
    obtain ⟨vs, rfl, hl, h1⟩ := hr
    exact ⟨vs, rfl, RepL.ofNil cs hl, h1⟩
  | .tup cs, _, _, _, hr => by
    simp only [Rep] at hr ⊢
    obtain ⟨vs, rfl, hl⟩ := hr
    exact ⟨vs, rfl, RepL.ofNil cs hl⟩
theorem RepL.ofNil {F : Forb} {w : World} : ∀ (l : List AV) {β : List Value} {h : Heap} {vs : List Value}, RepL l [] [] F w vs → RepL l β h F w vs
  | [], _, _, _, hr => hr
  | x :: l, _, _, _, hr => by
    simp only [RepL] at hr ⊢
    obtain ⟨u, us, rfl, h1, h2⟩ := hr
    exact ⟨u, us, rfl, Rep.ofNil x h1, RepL.ofNil l h2⟩
end

/-- A slice's element, in memory that is only read. -/
theorem RepF.at {F : Forb} {w : World} : ∀ {l : List AV} {sz : Nat} {vs : List Value} (hr : RepF l sz F w vs) {i : Nat} {x : AV} (hx : l[i]? = some x),
    ∃ u, Rep x [] [] F w u ∧ u.cells.size = sz ∧ (∀ (j : Nat) (v : Value), u.cells.toList[j]? = some v → vs[i * sz + j]? = some v) := by
  intro l
  induction l with
  | nil => intro sz vs hr i x hx; simp at hx
  | cons y l ih =>
    intro sz vs hr i x hx
    simp only [RepF] at hr
    obtain ⟨u, us, rfl, hz, hy, hl⟩ := hr
    cases i with
    | zero =>
      simp at hx
      subst hx
      refine ⟨u, hy, hz, fun j v hv => ?_⟩
      have hj : j < u.cells.toList.length := (List.getElem?_eq_some_iff.1 hv).1
      rw [Nat.zero_mul, Nat.zero_add, List.getElem?_append_left hj]
      exact hv
    | succ i =>
      obtain ⟨u', h1, h2, h3⟩ := ih hl (by simpa using hx)
      refine ⟨u', h1, h2, fun j v hv => ?_⟩
      rw [List.getElem?_append_right (by rw [Array.length_toList, hz, Nat.succ_mul]; omega)]
      rw [Array.length_toList, hz, show (i + 1) * sz + j - sz = i * sz + j by rw [Nat.succ_mul]; omega]
      exact h3 j v hv

theorem RepF.len {F : Forb} {w : World} : ∀ {l : List AV} {sz : Nat} {vs : List Value} (hr : RepF l sz F w vs), vs.length = l.length * sz := by
  intro l
  induction l with
  | nil => intro sz vs hr; simp only [RepF] at hr; subst hr; simp
  | cons y l ih =>
    intro sz vs hr
    simp only [RepF] at hr
    obtain ⟨u, us, rfl, hz, hy, hl⟩ := hr
    rw [List.length_append, Array.length_toList, hz, ih hl, List.length_cons, Nat.succ_mul]
    omega

/-! ### cells in memory -/

theorem Addr.add_block (a : Addr) (n : Nat) : (a.add n).block = a.block := by unfold Addr.add; split <;> rfl

theorem Addr.add_add (a : Addr) (n m : Nat) : (a.add n).add m = a.add (n + m) := by
  unfold Addr.add
  by_cases hn : n = 0
  · subst hn; simp
  · by_cases hm : m = 0
    · subst hm; simp
    · have : ¬ n + m = 0 := by omega
      simp [hn, hm, this, Nat.add_assoc]

theorem Addr.add_lit' (b o n : Nat) : (⟨b, o, none⟩ : Addr).add n = ⟨b, o + n, none⟩ := by unfold Addr.add; split <;> simp_all

/-- Reading a variable whose cells are known. -/
theorem run_loadVar {P : Program} {w : World} {t : TypeId} {ag : Bool} {sz : Nat} (ht : tyIs P t ag sz = true) {ad : Addr} {cs : List Value} (hl : cs.length = sz)
    (hc : ∀ (j : Nat) (v : Value), cs[j]? = some v → w.cell? (ad.add j) = some v) :
    (ag = true → (loadVar t ad).run P w = .ok (.agg cs.toArray) w) ∧ (ag = false → ∀ v, cs = [v] → (loadVar t ad).run P w = .ok v w) := by
  obtain ⟨i, d, hi, hd, hsz, hag⟩ := tyIs_spec ht
  constructor
  · intro hA
    rw [hA] at hag
    have h1 := run_loadCells_list (P := P) w ad cs hc
    rw [hl] at h1
    simp [loadVar, run_isAgg hd, hag, run_sizeOf hi, hsz, h1]
  · intro hA v hv
    rw [hA] at hag
    subst hv
    have h0 := hc 0 v rfl
    have : ad.add 0 = ad := by simp [Addr.add]
    rw [this] at h0
    simp [loadVar, run_isAgg hd, hag, h0]

theorem run_part {P : Program} {w : World} {t : TypeId} {ag : Bool} {sz : Nat} (ht : tyIs P t ag sz = true) (off : Nat) (vs : List Value) (hle : off + sz ≤ vs.length) :
    (ag = true → (part t vs.toArray off).run P w = .ok (.agg ((vs.drop off).take sz).toArray) w) ∧ (ag = false → ∀ v, vs[off]? = some v → (part t vs.toArray off).run P w = .ok v w) := by
  obtain ⟨i, d, hi, hd, hsz, hag⟩ := tyIs_spec ht
  constructor
  · intro hA
    rw [hA] at hag
    have : vs.toArray.extract off (off + sz) = ((vs.drop off).take sz).toArray := by
      apply Array.ext'
      simp [List.take_drop]
    simp [part, run_isAgg hd, hag, run_sizeOf hi, hsz, this]
  · intro hA v hv
    rw [hA] at hag
    simp [part, run_isAgg hd, hag, hv]

section
variable {P : Program} {Bad : Forb} {β : List Value} {h : Heap} {w : World} {a : Act} {s : Slots} {o : Oper}

/-- What a known entry of the run's own memory is in the machine. -/
theorem own_cells (hh : HeapRel Bad β h w) {l ver : Nat} {vs : List AV} (hv : objCells h l ver = some vs) :
    l < β.length ∧ ((vs = [] ∧ β.getD l default = .slice none 0 0) ∨ ∃ b arr t, blkOf (β.getD l default) = some b ∧ w.heap[b]? = some (.cells arr t (0, 0)) ∧ vs.length ≤ arr.size ∧ RepL vs β h (FOf Bad β) w (arr.toList.take vs.length) ∧ ∀ u ∈ arr.toList.take vs.length, u.oneCell' = true) := by
  unfold objCells at hv
  have hl : l < h.length := by
    cases hq : h[l]? with
    | none => rw [hq] at hv; cases hv
    | some o => exact (List.getElem?_eq_some_iff.1 hq).1
  have hlβ : l < β.length := by rw [hh.len]; exact hl
  have hβ : β[l]? = some (β.getD l default) := by rw [List.getD_eq_getElem?_getD, List.getElem?_eq_getElem hlβ]; rfl
  refine ⟨hlβ, ?_⟩
  split at hv
  · rename_i ag vs' t hq
    split at hv
    · injection hv with hv
      subst hv
      obtain ⟨b, arr, h1, h2, h3, h4⟩ := hh.obj l _ _ hq hβ
      have hlen : vs'.length = arr.size := by simpa using h3.length
      have htake : arr.toList.take vs'.length = arr.toList := List.take_of_length_le (by simp [hlen])
      exact .inr ⟨b, arr, t, by rw [h1]; rfl, h2, by omega, by rw [htake]; exact h3, by rw [htake]; exact h4⟩
    · cases hv
  · rename_i v z vs' t hq
    split at hv
    · injection hv with hv
      subst hv
      obtain ⟨hz, n, xs, ho, h3, h4⟩ := hh.obj l _ _ hq hβ
      have hlen := h3.length
      rcases ho.2 with ⟨h5, h6⟩ | ⟨g, cap, cur, h5, _, h6, h7, _, h8, h9⟩
      · left
        have := ho.1
        rw [h6] at this
        simp at this
        subst this
        simp at hlen
        exact ⟨hlen, h5⟩
      · right
        have hxl := ho.1
        have hle : n * z ≤ cur.size := by rw [h8]; exact Nat.mul_le_mul_right z h7
        refine ⟨g, cur, t, by rw [h5]; rfl, h6, by omega, ?_, ?_⟩
        · rw [hlen, hxl, h9]; exact h3
        · rw [hlen, hxl, h9]; exact h4
    · cases hv
  · cases hv

theorem partA_rep {F : Forb} {ag : Bool} {off sz : Nat} {cs : List AV} {x : AV} {vs : List Value} (hp : partA ag off sz cs = some x) (hr : RepL cs β h F w vs) (h1 : ∀ u ∈ vs, u.oneCell' = true) :
    off + sz ≤ vs.length ∧ ((ag = true ∧ Rep x β h F w (.agg ((vs.drop off).take sz).toArray)) ∨ (ag = false ∧ sz = 1 ∧ ∃ v, (vs.drop off).take sz = [v] ∧ vs[off]? = some v ∧ Rep x β h F w v)) := by
  unfold partA at hp
  split at hp
  · rename_i hle
    rw [hr.length] at hle
    refine ⟨hle, ?_⟩
    have h2 := (hr.drop off).take sz
    unfold ofCells at hp
    split at hp
    · rename_i hlen
      cases ag
      · right
        simp only [Bool.false_eq_true, if_false] at hp
        split at hp
        · rename_i y hy
          injection hp with hp
          subst hp
          rw [hy] at h2 hlen
          simp at hlen
          subst hlen
          simp only [RepL] at h2
          obtain ⟨u, us, h3, h4, h5⟩ := h2
          subst h5
          refine ⟨rfl, rfl, u, h3, ?_, h4⟩
          have : ((vs.drop off).take 1)[0]? = some u := by rw [h3]; rfl
          simpa using this
        · cases hp
      · left
        simp only [if_true] at hp
        injection hp with hp
        subst hp
        refine ⟨rfl, _, rfl, h2, fun u hu => h1 u ?_⟩
        exact List.mem_of_mem_drop (List.mem_of_mem_take hu)
    · cases hp
  · cases hp

variable (hh : HeapRel Bad β h w) (hs : SlotsRep β h (FOf Bad β) w s a)
include hh hs

omit hs in
theorem load_rep {z : AV} {v : Value} (h1 : Rep z β h (FOf Bad β) w v) {t : TypeId} {ag : Bool} {sz : Nat} (ht : tyIs P t ag sz = true) {r : AV} (hr : loadV h ag sz z = some r) :
    ∃ ad u, v = .pointer (some ad) ∧ (loadVar t ad).run P w = .ok u w ∧ Rep r β h (FOf Bad β) w u := by
  unfold loadV at hr
  split at hr
  · rename_i g x'
    simp only [Rep] at h1
    obtain ⟨ad, u, h1, hxr, hro⟩ := h1
    split at hr
    · rename_i hsh
      injection hr with hr
      subst hr
      have hxr' := Rep.ofNil (β := β) (h := h) x' hxr
      have hcell : ∀ (j : Nat) (v : Value), u.cells.toList[j]? = some v → w.cell? (ad.add j) = some v := fun j v hv => by
        obtain ⟨ad', h3, _, h4, _⟩ := hro j v hv
        injection h3 with h3
        subst h3
        exact h4
      cases ag
      · have hu1 : u.oneCell' = true := by
          refine Rep.oneCell ?_ hxr
          cases x' <;> simp_all [shapeOk, storable]
        have hcs := cells_of_one hu1
        have hsz : sz = 1 := by cases x' <;> simp_all [shapeOk]
        subst hsz
        have hlv := (run_loadVar (P := P) (w := w) ht (ad := ad) (cs := u.cells.toList) (by rw [hcs]; rfl) hcell).2 rfl u (by rw [hcs])
        exact ⟨ad, u, h1, hlv, hxr'⟩
      · obtain ⟨cs, rfl, hlen⟩ : ∃ cs, x' = .agg cs ∧ cs.length = sz := by
          cases x' <;> simp_all [shapeOk]
        have hxr2 := hxr
        simp only [Rep] at hxr2
        obtain ⟨vs, hu, hl, _⟩ := hxr2
        have hcs : u.cells.toList = vs := by rw [hu]; simp [Value.cells]
        have hlv := (run_loadVar (P := P) (w := w) ht (ad := ad) (cs := u.cells.toList) (by rw [hcs, ← hl.length]; exact hlen) hcell).1 rfl
        rw [hcs, ← hu] at hlv
        exact ⟨ad, u, h1, hlv, hxr'⟩
    · cases hr
  · rename_i l ver off
    simp only [Rep] at h1
    obtain ⟨hl, _, h1⟩ := h1
    cases hv : objCells h l ver with
    | none => rw [hv] at hr; cases hr
    | some vs =>
      rw [hv] at hr h1
      simp only [Option.bind_some] at hr
      obtain ⟨b, hb, h1⟩ := h1 rfl
      obtain ⟨_, hnil | ⟨b', arr, t', hb', harr, hle, hrl, h1c⟩⟩ := own_cells hh hv
      · rw [hnil.2] at hb
        cases hb
      · rw [hb] at hb'
        injection hb' with hb'
        subst hb'
        obtain ⟨hoff, hp⟩ := partA_rep hr hrl h1c
        have hcell : ∀ (j : Nat) (v : Value), (((arr.toList.take vs.length).drop off).take sz)[j]? = some v → w.cell? ((⟨b, off, none⟩ : Addr).add j) = some v := fun j v hv => by
          rw [Addr.add_lit']
          simp only [List.getElem?_take, List.getElem?_drop] at hv
          split at hv
          · split at hv
            · simpa [World.cell?, harr] using hv
            · cases hv
          · cases hv
        have hlen : (((arr.toList.take vs.length).drop off).take sz).length = sz := by
          rw [List.length_take, List.length_drop]; omega
        have hlv := run_loadVar (P := P) (w := w) ht (ad := ⟨b, off, none⟩) hlen hcell
        rcases hp with ⟨hag, hp⟩ | ⟨hag, _, v, hv1, _, hp⟩
        · exact ⟨_, _, h1, hlv.1 hag, hp⟩
        · exact ⟨_, _, h1, hlv.2 hag v hv1, hp⟩
  · cases hr

theorem sound_load {x : X} {y : Operand} {t : TypeId} {ag : Bool} {sz : Nat} (ho : o.op = .load t y) (hc : chkX x y = true) (ht : tyIs P t ag sz = true) {r : AV}
    (hr : (match x.ev s with
      | .rp _ x => if shapeOk ag sz x then some x else none
      | .ref l ver o => (objCells h l ver).bind fun vs => partA ag o sz vs
      | _ => none) = some r) : OpSound P Bad β h w a o r h := by
  obtain ⟨ad, u, h1, h2, h3⟩ := load_rep hh (X_rep hs hc) ht (r := r) (by
    unfold loadV
    exact hr)
  exact sound_pure hh (v := u) (by simp [execOp, ho, h1, Instr.loadAt, Instr.sureAddr, h2]) h3

/-! ### addresses -/

theorem sound_faddr {x : X} {y : Operand} {t : TypeId} {fd : Nat} {ag : Bool} {off sz : Nat} (ho : o.op = .fieldAddr t y fd) (hc : chkX x y = true)
    {fs : Array Field} {f : Field} (hu : P.underlying t = some (.struct fs)) (hf : fs[fd]? = some f) (hoff : f.offset = off) (ht : tyIs P f.type ag sz = true) (hz : sz ≠ 0) {r : AV}
    (hr : (match x.ev s with
      | .ref l ver o => some (AV.ref l ver (o + off))
      | .rp g (.agg cs) => (partA ag off sz cs).map fun v => .rp g v
      | _ => none) = some r) : OpSound P Bad β h w a o r h := by
  have h1 := X_rep hs hc
  obtain ⟨i, d, hi, hd, hsz, hag⟩ := tyIs_spec ht
  have hrun : ∀ ad : Addr, a.eval y = .pointer (some ad) → (execOp a.eval o).run P w = .ok (.value (.pointer (some (ad.add off)))) w := fun ad hy => by
    simp [execOp, ho, hy, Instr.fieldAt, run_underlying hu, hf, Instr.sureAddr, fieldPlace, run_sizeOf hi, hsz, hz, hoff]
  split at hr
  · rename_i l ver off' hx
    injection hr with hr
    subst hr
    rw [hx] at h1
    simp only [Rep] at h1
    obtain ⟨hl, ⟨ad, had⟩, h1⟩ := h1
    refine sound_pure hh (hrun ad had) ?_
    simp only [Rep]
    refine ⟨hl, ⟨_, rfl⟩, fun hv => ?_⟩
    obtain ⟨b, hb, h2⟩ := h1 hv
    rw [had] at h2
    injection h2 with h2
    injection h2 with h2
    subst h2
    exact ⟨b, hb, by rw [Addr.add_lit']⟩
  · rename_i g cs hx
    rw [hx] at h1
    simp only [Rep] at h1
    obtain ⟨ad, u, h1, ⟨vs, hu', hl, hvc⟩, hro⟩ := h1
    cases hp : partA ag off sz cs with
    | none => rw [hp] at hr; cases hr
    | some v =>
      rw [hp] at hr
      injection hr with hr
      subst hr
      obtain ⟨hle, hp⟩ := partA_rep hp hl hvc
      have hcl : u.cells.toList = vs := by rw [hu']; simp [Value.cells]
      rw [hcl] at hro
      refine sound_pure hh (hrun ad h1) ?_
      have hro' : RoAt (FOf Bad β) w g (some (ad.add off)) ((vs.drop off).take sz) := by
        intro j u hu
        have hu2 : vs[off + j]? = some u := by
          simp only [List.getElem?_take, List.getElem?_drop] at hu
          split at hu
          · exact hu
          · cases hu
        obtain ⟨ad', h3, h4, h5, h6⟩ := hro (off + j) u hu2
        injection h3 with h3
        subst h3
        exact ⟨_, rfl, by rw [Addr.add_block]; exact h4, by rw [Addr.add_add]; exact h5, h6⟩
      simp only [Rep]
      rcases hp with ⟨_, hp⟩ | ⟨_, _, v', hv1, _, hp⟩
      · exact ⟨_, _, rfl, hp, by simpa [Value.cells] using hro'⟩
      · refine ⟨_, v', rfl, hp, ?_⟩
        have h1' : v'.oneCell' = true := hvc v' (List.mem_of_mem_drop (List.mem_of_mem_take (by rw [hv1]; simp)))
        rw [cells_of_one h1', ← hv1]
        exact hro'
  · cases hr

theorem sound_field {x : X} {y : Operand} {t : TypeId} {fd : Nat} {ag : Bool} {off sz : Nat} (ho : o.op = .field t y fd) (hc : chkX x y = true)
    {fs : Array Field} {f : Field} (hu : P.underlying t = some (.struct fs)) (hf : fs[fd]? = some f) (hoff : f.offset = off) (ht : tyIs P f.type ag sz = true)
    {cs : List AV} (hx : x.ev s = .agg cs) {r : AV} (hr : partA ag off sz cs = some r) : OpSound P Bad β h w a o r h := by
  have h1 := X_rep hs hc
  rw [hx] at h1
  simp only [Rep] at h1
  obtain ⟨vs, h1, hl, hvc⟩ := h1
  obtain ⟨hle, hp⟩ := partA_rep hr hl hvc
  have hrp := run_part (P := P) (w := w) ht off vs hle
  rcases hp with ⟨hag, hp⟩ | ⟨hag, _, v', hv1, hv2, hp⟩
  · refine sound_pure hh ?_ hp
    have := hrp.1 hag
    simp [execOp, ho, h1, Instr.field, run_underlying hu, hf, asAgg, hoff, this]
  · refine sound_pure hh ?_ hp
    have := hrp.2 hag v' hv2
    simp [execOp, ho, h1, Instr.field, run_underlying hu, hf, asAgg, hoff, this]

theorem sound_iaddr {x i : X} {x' i' : Operand} {t e : TypeId} {sz : Nat} (ho : o.op = .indexAddr t x' i') (hc : chkX x x' = true) (hci : chkX i i' = true)
    (hu : P.underlying t = some (.slice e)) {ti : TypeInfo} (hi : P.info? e = some ti) (hsz : ti.size = sz) (hz : 0 < sz) {k : IntKind} {n : Int} (hn : i.ev s = .int k n) {r : AV}
    (hr : (match x.ev s with
      | .rs g z l => if z = sz ∧ 0 ≤ n ∧ n < l.length then some (AV.rp g (l.getD n.toNat .undef)) else none
      | .sl z l ver o m => if z = sz ∧ 0 ≤ n ∧ n < m ∧ (objCells h l ver).isSome = true then some (.ref l ver (o + n.toNat * sz)) else none
      | _ => none) = some r) : OpSound P Bad β h w a o r h := by
  have h1 := X_rep hs hc
  have h2 := X_rep hs hci
  rw [hn] at h2
  simp only [Rep] at h2
  split at hr
  · rename_i g z l hx
    rw [hx] at h1
    simp only [Rep] at h1
    obtain ⟨ba, c, vs, h1, hcap, _, hf, hro⟩ := h1
    split at hr
    · rename_i hcond
      obtain ⟨rfl, hn0, hnl⟩ := hcond
      injection hr with hr
      subst hr
      have hlt : n.toNat < l.length := by omega
      have hget : l[n.toNat]? = some (l.getD n.toNat .undef) := by rw [List.getD_eq_getElem?_getD, List.getElem?_eq_getElem hlt]; rfl
      obtain ⟨u, hxr, hus, hcells⟩ := RepF.at hf hget
      obtain ⟨ad, hba⟩ : ∃ ad, ba = some ad := by
        have h0 : u.cells.toList[0]? = some (u.cells[0]'(by omega)) := by simp [Array.getElem?_eq_getElem (show 0 < u.cells.size by omega)]
        obtain ⟨ad, h3, _⟩ := hro _ _ (hcells 0 _ h0)
        exact ⟨ad, h3⟩
      subst hba
      refine sound_pure hh (v := .pointer (some (ad.add (n.toNat * z)))) ?_ ?_
      · simp [execOp, ho, h1, h2, Instr.indexAt, asIntOf, run_underlying hu, run_sizeOf hi, hsz, hn0, hnl]
      · simp only [Rep]
        refine ⟨_, u, rfl, hxr, fun j v hv => ?_⟩
        obtain ⟨ad', h3, h4, h5, h6⟩ := hro _ _ (hcells j v hv)
        injection h3 with h3
        subst h3
        exact ⟨_, rfl, by rw [Addr.add_block]; exact h4, by rw [Addr.add_add]; exact h5, h6⟩
    · cases hr
  · rename_i z l ver off m hx
    rw [hx] at h1
    simp only [Rep] at h1
    obtain ⟨hl, ⟨ba, m', c', h0⟩, h1⟩ := h1
    split at hr
    · rename_i hcond
      obtain ⟨rfl, hn0, hnl, hcur⟩ := hcond
      injection hr with hr
      subst hr
      · have h1 := h1 hcur
        have key : ∀ (bk : Nat) (o' c : Nat), a.eval x' = .slice (some ⟨bk, o', none⟩) m c → blkOf (β.getD l default) = some bk → o' = off → OpSound P Bad β h w a o (.ref l ver (off + n.toNat * z)) h := by
          intro bk o' c hv hb ho'
          subst ho'
          refine sound_pure hh (v := .pointer (some ((⟨bk, o', none⟩ : Addr).add (n.toNat * z)))) ?_ ?_
          · simp [execOp, ho, hv, h2, Instr.indexAt, asIntOf, run_underlying hu, run_sizeOf hi, hsz, hn0, hnl]
          · simp only [Rep]
            exact ⟨hl, ⟨_, rfl⟩, fun _ => ⟨bk, hb, by rw [Addr.add_lit']⟩⟩
        cases hbv : β.getD l default <;> rw [hbv] at h1 <;> simp only [SlRep] at h1
        case slice ad mm cc =>
          cases ad with
          | none => simp only at h1; omega
          | some ad =>
            simp only at h1
            obtain ⟨o', c, h3, h4, _, h5, _⟩ := h1
            have : c ≠ 0 := by omega
            exact key ad.block o' c h3 (by rw [hbv]; rfl) (h5.resolve_right this)
        case pointer ad =>
          cases ad with
          | none => simp only at h1
          | some ad =>
            simp only at h1
            obtain ⟨o', c, h3, h4, h5⟩ := h1
            have : c ≠ 0 := by omega
            exact key ad.block o' c h3 (by rw [hbv]; rfl) (h5.resolve_right this)
    · cases hr
  · cases hr

end
end Go.Fw
set_option linter.unusedVariables false
set_option linter.unusedSimpArgs false
set_option linter.unusedSectionVars false
namespace Go.Fw
open Go.RowKit (Below)

def eqFs (g : TypeId → Option (List Nat)) : List Field → Nat → Option (List Nat)
  | [], _ => some []
  | f :: fs, off => if f.offset = off ∧ f.name ≠ "_" then (g f.type).bind fun m => (eqFs g fs (off + m.length)).map (m ++ ·) else none

/-- The cells of a type whose values are compared cell by cell. -/
def eqTy (P : Program) : Nat → TypeId → Option (List Nat)
  | 0, _ => none
  | d + 1, t =>
    match P.underlying t with
    | some .bool => if tyIs P t false 1 then some [0] else none
    | some (.int _) => if tyIs P t false 1 then some [1] else none
    | some .string => if tyIs P t false 1 then some [2] else none
    | some (.struct fs) => (eqFs (eqTy P d) fs.toList 0).bind fun n => if !P.stoodInHeld t && tyIs P t true n.length then some n else none
    | some (.array n e) => (eqTy P d e).bind fun m => if tyIs P t true (List.replicate n m).flatten.length then some (List.replicate n m).flatten else none
    | _ => none

def ValOf (P : Program) (t : TypeId) (A : Value) (as : List Value) : Prop :=
  match P.underlying t with
  | some (.struct _) => A = .agg as.toArray
  | some (.array _ _) => A = .agg as.toArray
  | _ => as = [A]

theorem eqCells_cons {k : Nat} {ks : List Nat} {x y : AV} {l m : List AV} {r : Bool} (h : eqCells (k :: ks) (x :: l) (y :: m) = some r) : ∃ p q, eqOne k x y = some p ∧ eqCells ks l m = some q ∧ r = (p && q) := by
  simp only [eqCells] at h
  cases hp : eqOne k x y with
  | none => rw [hp] at h; cases h
  | some p =>
    rw [hp] at h
    cases hq : eqCells ks l m with
    | none => rw [hq] at h; cases h
    | some q =>
      rw [hq] at h
      injection h with h
      exact ⟨p, q, rfl, rfl, h.symm⟩

theorem eqCells_length : ∀ {ks : List Nat} {xs ys : List AV} {r : Bool}, eqCells ks xs ys = some r → xs.length = ks.length ∧ ys.length = ks.length
  | [], [], [], _, _ => ⟨rfl, rfl⟩
  | [], [], _ :: _, _, h => by simp [eqCells] at h
  | [], _ :: _, [], _, h => by simp [eqCells] at h
  | [], _ :: _, _ :: _, _, h => by simp [eqCells] at h
  | _ :: _, [], [], _, h => by simp [eqCells] at h
  | _ :: _, [], _ :: _, _, h => by simp [eqCells] at h
  | _ :: _, _ :: _, [], _, h => by simp [eqCells] at h
  | k :: ks, x :: xs, y :: ys, r, h => by
    obtain ⟨_, _, _, h, _⟩ := eqCells_cons h
    have := eqCells_length h
    simp [this.1, this.2]

theorem eqCells_append : ∀ {ks : List Nat} {ls : List Nat} {a c b d : List AV} {r : Bool}, a.length = ks.length → c.length = ks.length → eqCells (ks ++ ls) (a ++ b) (c ++ d) = some r → ∃ r1 r2, eqCells ks a c = some r1 ∧ eqCells ls b d = some r2 ∧ r = (r1 && r2)
  | [], ls, [], [], b, d, r, _, _, h => ⟨true, r, rfl, h, by simp⟩
  | [], ls, _ :: _, _, _, _, _, hl, _, _ => by simp at hl
  | [], ls, _, _ :: _, _, _, _, _, hl, _ => by simp at hl
  | _ :: _, ls, [], _, _, _, _, hl, _, _ => by simp at hl
  | _ :: _, ls, _, [], _, _, _, _, hl, _ => by simp at hl
  | kd :: ks, ls, x :: a, y :: c, b, d, r, hl, hl2, h => by
    simp only [List.cons_append] at h
    obtain ⟨p, q, e1, e2, rfl⟩ := eqCells_cons h
    obtain ⟨r1, r2, e3, e4, rfl⟩ := eqCells_append (by simpa using hl) (by simpa using hl2) e2
    exact ⟨p && r1, r2, by simp only [eqCells, e1, e3]; rfl, e4, by rw [Bool.and_assoc]⟩

section
variable {P : Program} {β : List Value} {h : Heap} {F : Forb} {w : World}

/-- What is claimed of a type. -/
def Form (P : Program) (t : TypeId) (n : Nat) : Prop := ∃ ag, tyIs P t ag n = true ∧ (ag = false → n = 1) ∧ ∀ A as, ValOf P t A as ↔ (if ag then A = .agg as.toArray else as = [A])

def EqAt_ (P : Program) (d : Nat) (t : TypeId) (ks : List Nat) : Prop :=
  Form P t ks.length ∧
  ∀ (β : List Value) (h : Heap) (F : Forb) (w : World) (xs ys : List AV) (as bs : List Value) (r : Bool) (k : Nat) (A B : Value), RepL xs β h F w as → RepL ys β h F w bs → eqCells ks xs ys = some r → ValOf P t A as → ValOf P t B bs →
    (Op.equalIn (d + k) t A B).run P w = .ok r w

theorem run_part_at {t : TypeId} {n off : Nat} (hf : Form P t n) {as : List Value} (hle : n = 0 ∨ off + n ≤ as.length) :
    ∃ A, (part t as.toArray off).run P w = .ok A w ∧ ValOf P t A ((as.drop off).take n) := by
  obtain ⟨ag, ht, hn, hv⟩ := hf
  obtain ⟨i, d, hi, hd, hsz, hag⟩ := tyIs_spec ht
  cases ag with
  | true =>
    refine ⟨.agg ((as.drop off).take n).toArray, ?_, (hv _ _).2 (by simp)⟩
    cases d <;> simp [isAggD] at hag <;> simp [part, isAgg, run_underlying hd, run_sizeOf hi, hsz] <;> simp [List.extract_eq_take_drop]
  | false =>
    have hn1 := hn rfl
    subst hn1
    have hlt : off < as.length := by omega
    refine ⟨as[off], ?_, (hv _ _).2 ?_⟩
    · cases d <;> simp [isAggD] at hag <;> simp [part, isAgg, run_underlying hd, hlt]
    · simp only [Bool.false_eq_true, if_false]
      rw [List.drop_eq_getElem_cons hlt]
      rfl

theorem eqFs_run {d : Nat} (ih : ∀ t n, eqTy P d t = some n → EqAt_ P d t n) (k : Nat) {xs ys : List AV} {as bs : List Value} (ha : RepL xs β h F w as) (hb : RepL ys β h F w bs) : ∀ (fs : List Field) (off : Nat) (ks : List Nat) (r : Bool), eqFs (eqTy P d) fs off = some ks → eqCells ks (xs.drop off) (ys.drop off) = some r →
    (Op.eqFields (d + k) as.toArray bs.toArray fs).run P w = .ok r w
  | [], off, ks, r, hf, he => by
    simp only [eqFs, Option.some.injEq] at hf
    subst hf
    have : r = true := by
      obtain ⟨l1, l2⟩ := eqCells_length he
      rw [List.eq_nil_of_length_eq_zero l1, List.eq_nil_of_length_eq_zero l2] at he
      simp only [eqCells, Option.some.injEq] at he
      exact he.symm
    subst this
    simp [Op.eqFields]
  | f :: fs, off, ks, r, hf, he => by
    unfold eqFs at hf
    split at hf
    case isFalse => cases hf
    case isTrue hc =>
      obtain ⟨ho, hnm⟩ := hc
      cases hg : eqTy P d f.type with
      | none => rw [hg] at hf; cases hf
      | some m =>
        rw [hg] at hf
        simp only [Option.bind_some] at hf
        cases hr : eqFs (eqTy P d) fs (off + m.length) with
        | none => rw [hr] at hf; cases hf
        | some ls =>
          rw [hr] at hf
          injection hf with hf
          subst hf
          obtain ⟨hform, hrun⟩ := ih _ _ hg
          have hal := ha.length
          have hbl := hb.length
          obtain ⟨l1, l2⟩ := eqCells_length he
          simp only [List.length_drop, List.length_append] at l1 l2
          have hx : (xs.drop off).length = m.length + ls.length := by rw [List.length_drop]; exact l1
          have hy : (ys.drop off).length = m.length + ls.length := by rw [List.length_drop]; exact l2
          have ex : xs.drop off = (xs.drop off).take m.length ++ xs.drop (off + m.length) := by rw [← List.drop_drop]; exact (List.take_append_drop _ _).symm
          have ey : ys.drop off = (ys.drop off).take m.length ++ ys.drop (off + m.length) := by rw [← List.drop_drop]; exact (List.take_append_drop _ _).symm
          rw [ex, ey] at he
          obtain ⟨r1, r2, e1, e2, rfl⟩ := eqCells_append (by simp only [List.length_take]; omega) (by simp only [List.length_take]; omega) he
          obtain ⟨A, hA, hvA⟩ := run_part_at (w := w) hform (as := as) (off := off) (by omega)
          obtain ⟨B, hB, hvB⟩ := run_part_at (w := w) hform (as := bs) (off := off) (by omega)
          have h1 := hrun β h F w ((xs.drop off).take m.length) ((ys.drop off).take m.length) ((as.drop off).take m.length) ((bs.drop off).take m.length) r1 k A B ((ha.drop off).take _) ((hb.drop off).take _) e1 hvA hvB
          have h2 := eqFs_run ih k ha hb fs (off + m.length) ls r2 hr e2
          rw [Op.eqFields]
          simp only [if_pos hnm, Sem.run_bind, ho, hA, hB, h1, Result.andThen_ok]
          cases r1
          · simp
          · simpa using h2

theorem eqAr_run {d : Nat} {e : TypeId} {m : List Nat} (ih : EqAt_ P d e m) (k : Nat) {xs ys : List AV} {as bs : List Value} (ha : RepL xs β h F w as) (hb : RepL ys β h F w bs) : ∀ (n j : Nat) (r : Bool), eqCells (List.replicate n m).flatten (xs.drop (j * m.length)) (ys.drop (j * m.length)) = some r →
    (Op.eqItems (d + k) e m.length as.toArray bs.toArray (List.range' j n)).run P w = .ok r w
  | 0, j, r, he => by
    have : r = true := by
      obtain ⟨l1, l2⟩ := eqCells_length he
      simp only [List.replicate_zero, List.flatten_nil, List.length_nil] at l1 l2
      rw [List.eq_nil_of_length_eq_zero l1, List.eq_nil_of_length_eq_zero l2] at he
      simp only [List.replicate_zero, List.flatten_nil, eqCells, Option.some.injEq] at he
      exact he.symm
    subst this
    simp [Op.eqItems]
  | n + 1, j, r, he => by
    obtain ⟨hform, hrun⟩ := ih
    have hal := ha.length
    have hbl := hb.length
    obtain ⟨l1, l2⟩ := eqCells_length he
    rw [List.replicate_succ, List.flatten_cons] at he
    simp only [List.replicate_succ, List.flatten_cons, List.length_append] at l1 l2
    have ex : xs.drop (j * m.length) = (xs.drop (j * m.length)).take m.length ++ xs.drop ((j + 1) * m.length) := by rw [Nat.succ_mul, ← List.drop_drop]; exact (List.take_append_drop _ _).symm
    have ey : ys.drop (j * m.length) = (ys.drop (j * m.length)).take m.length ++ ys.drop ((j + 1) * m.length) := by rw [Nat.succ_mul, ← List.drop_drop]; exact (List.take_append_drop _ _).symm
    have t1 : ((xs.drop (j * m.length)).take m.length).length = m.length := by rw [List.length_take]; omega
    have t2 : ((ys.drop (j * m.length)).take m.length).length = m.length := by rw [List.length_take]; omega
    rw [ex, ey] at he
    obtain ⟨r1, r2, e1, e2, rfl⟩ := eqCells_append t1 t2 he
    simp only [List.length_drop] at l1 l2
    obtain ⟨A, hA, hvA⟩ := run_part_at (w := w) hform (as := as) (off := j * m.length) (by omega)
    obtain ⟨B, hB, hvB⟩ := run_part_at (w := w) hform (as := bs) (off := j * m.length) (by omega)
    have h1 := hrun β h F w ((xs.drop (j * m.length)).take m.length) ((ys.drop (j * m.length)).take m.length) ((as.drop (j * m.length)).take m.length) ((bs.drop (j * m.length)).take m.length) r1 k A B ((ha.drop _).take _) ((hb.drop _).take _) e1 hvA hvB
    have h2 := eqAr_run ⟨hform, hrun⟩ k ha hb n (j + 1) r2 e2
    rw [List.range'_succ, Op.eqItems]
    simp only [Sem.run_bind, hA, hB, h1, Result.andThen_ok]
    cases r1
    · simp
    · simpa using h2

theorem eqTy_run : ∀ (d : Nat) (t : TypeId) (n : List Nat), eqTy P d t = some n → EqAt_ P d t n
  | 0, t, n, h => by simp [eqTy] at h
  | d + 1, t, n, hq => by
    unfold eqTy at hq
    have hone : ∀ (xs ys : List AV) (β : List Value) (h : Heap) (F : Forb) (w : World) (A B : Value), RepL xs β h F w [A] → RepL ys β h F w [B] → ∃ x y, xs = [x] ∧ ys = [y] ∧ Rep x β h F w A ∧ Rep y β h F w B := by
      intro xs ys β h F w A B ha hb
      obtain ⟨x, rfl⟩ := List.length_eq_one_iff.1 (by simpa using ha.length)
      obtain ⟨y, rfl⟩ := List.length_eq_one_iff.1 (by simpa using hb.length)
      obtain ⟨_, _, e1, h1, e3⟩ := ha
      obtain ⟨_, _, e2, h2, e4⟩ := hb
      injection e1 with e1
      injection e2 with e2
      subst e1; subst e2
      exact ⟨x, y, rfl, rfl, h1, h2⟩
    split at hq
    case h_1 hu =>
      split at hq
      case isFalse => cases hq
      case isTrue ht =>
        injection hq with hq; subst hq
        refine ⟨⟨false, ht, fun _ => rfl, fun A as => by simp [ValOf, hu]⟩, ?_⟩
        intro β h F w xs ys as bs r k A B ha hb he hA hB
        simp only [ValOf, hu] at hA hB
        subst hA; subst hB
        obtain ⟨x, y, rfl, rfl, h1, h2⟩ := hone _ _ _ _ _ _ _ _ ha hb
        cases x <;> cases y <;> simp [eqCells, eqOne] at he
        simp only [Rep] at h1 h2
        subst h1; subst h2
        rw [show d + 1 + k = (d + k) + 1 by omega, run_equalIn_bool' w _ _ _ _ hu, ← he]
    case h_2 hu =>
      split at hq
      case isFalse => cases hq
      case isTrue ht =>
        injection hq with hq; subst hq
        refine ⟨⟨false, ht, fun _ => rfl, fun A as => by simp [ValOf, hu]⟩, ?_⟩
        intro β h F w xs ys as bs r k A B ha hb he hA hB
        simp only [ValOf, hu] at hA hB
        subst hA; subst hB
        obtain ⟨x, y, rfl, rfl, h1, h2⟩ := hone _ _ _ _ _ _ _ _ ha hb
        cases x <;> cases y <;> simp [eqCells, eqOne] at he
        simp only [Rep] at h1 h2
        obtain ⟨rfl, he⟩ := he
        subst h1; subst h2
        rw [show d + 1 + k = (d + k) + 1 by omega, run_equalIn_int w _ _ _ _ _ _ hu, ← he]
        rfl
    case h_3 hu =>
      split at hq
      case isFalse => cases hq
      case isTrue ht =>
        injection hq with hq; subst hq
        refine ⟨⟨false, ht, fun _ => rfl, fun A as => by simp [ValOf, hu]⟩, ?_⟩
        intro β h F w xs ys as bs r k A B ha hb he hA hB
        simp only [ValOf, hu] at hA hB
        subst hA; subst hB
        obtain ⟨x, y, rfl, rfl, h1, h2⟩ := hone _ _ _ _ _ _ _ _ ha hb
        cases x <;> cases y <;> simp [eqCells, eqOne] at he
        simp only [Rep] at h1 h2
        subst h1; subst h2
        rw [show d + 1 + k = (d + k) + 1 by omega, run_equalIn_string w _ _ _ _ hu, ← he]
    case h_4 fs hu =>
      cases hf : eqFs (eqTy P d) fs.toList 0 with
      | none => rw [hf] at hq; cases hq
      | some m =>
        rw [hf] at hq
        simp only [Option.bind_some] at hq
        split at hq
        case isFalse => cases hq
        case isTrue ht =>
          injection hq with hq; subst hq
          simp only [Bool.and_eq_true, Bool.not_eq_true'] at ht
          refine ⟨⟨true, ht.2, by simp, fun A as => by simp [ValOf, hu]⟩, ?_⟩
          intro β h F w xs ys as bs r k A B ha hb he hA hB
          simp only [ValOf, hu] at hA hB
          subst hA; subst hB
          have hfo : P.fieldsOf t = fs := by simp [Program.fieldsOf, hu]
          rw [show d + 1 + k = (d + k) + 1 by omega, run_equalIn_struct w (d + k) t _ _ (by rw [hfo]; exact hu) ht.1, hfo]
          exact eqFs_run (fun t n => eqTy_run d t n) k ha hb fs.toList 0 m r hf (by simpa using he)
    case h_5 nn e hu =>
      cases hf : eqTy P d e with
      | none => rw [hf] at hq; cases hq
      | some m =>
        rw [hf] at hq
        simp only [Option.bind_some] at hq
        split at hq
        case isFalse => cases hq
        case isTrue ht =>
          injection hq with hq; subst hq
          have ih := eqTy_run d e m hf
          refine ⟨⟨true, ht, by simp, fun A as => by simp [ValOf, hu]⟩, ?_⟩
          intro β h F w xs ys as bs r k A B ha hb he hA hB
          simp only [ValOf, hu] at hA hB
          subst hA; subst hB
          obtain ⟨ag, hte, _, _⟩ := ih.1
          obtain ⟨i, _, hi, _, hsz, _⟩ := tyIs_spec hte
          have hce : P.cellsOf e = m.length := by simp [Program.cellsOf, hi, hsz]
          rw [show d + 1 + k = (d + k) + 1 by omega, run_equalIn_array w (d + k) _ _ hu hi, hce, List.range_eq_range']
          exact eqAr_run ih k ha hb nn 0 r (by simpa using he)
    case h_6 => cases hq

end
section
variable {P : Program} {Bad : Forb} {β : List Value} {h : Heap} {w : World} {a : Act} {s : Slots} {o : Oper}
variable (hh : HeapRel Bad β h w) (hs : SlotsRep β h (FOf Bad β) w s a)
include hh hs

def isStructTy (P : Program) (t : TypeId) : Bool :=
  match P.underlying t with
  | some (.struct _) => true
  | some (.array _ _) => true
  | _ => false

theorem sound_eqS {x y : X} {x' y' : Operand} {neg : Bool} {ks : List Nat} {t u : TypeId} {op : BinOp} (hop : op = if neg then .neq else .eql) (ho : o.op = .binOp op t x' y' u) (hx : chkX x x' = true) (hy : chkX y y' = true)
    (he : eqTy P 6 t = some ks) (hst : isStructTy P t = true) (hg : P.eqGuardType P.depth t = false) {b : Bool} (hr : eqAgg ks (x.ev s) (y.ev s) = some b) : OpSound P Bad β h w a o (.bool (if neg then !b else b)) h := by
  have h1 := X_rep hs hx
  have h2 := X_rep hs hy
  generalize x.ev s = xv at h1 hr
  generalize y.ev s = yv at h2 hr
  cases xv <;> cases yv <;> simp only [eqAgg, reduceCtorEq] at hr
  rename_i cs ds
  simp only [Rep] at h1 h2
  obtain ⟨as, h1, ha, _⟩ := h1
  obtain ⟨bs, h2, hb, _⟩ := h2
  have hrun := (eqTy_run 6 t ks he).2 β h (FOf Bad β) w cs ds as bs b 9994 (.agg as.toArray) (.agg bs.toArray) ha hb hr
    (by unfold isStructTy at hst; unfold ValOf; split at hst <;> simp_all) (by unfold isStructTy at hst; unfold ValOf; split at hst <;> simp_all)
  subst hop
  cases neg
  · refine sound_pure hh (v := .bool b) ?_ rfl
    simp only [Bool.false_eq_true, if_false] at ho
    simp [execOp, ho, h1, h2, run_eqGuard_agg w .eql t x' y' as.toArray bs.toArray hg, run_eql_struct w t as.toArray bs.toArray, hrun]
  · refine sound_pure hh (v := .bool (!b)) ?_ rfl
    simp only [if_true] at ho
    simp [execOp, ho, h1, h2, run_eqGuard_agg w .neq t x' y' as.toArray bs.toArray hg, run_neq_struct w t as.toArray bs.toArray, hrun]

def isNilC : Operand → Bool
  | .const (.slice none 0 0) => true
  | _ => false

omit hh hs in
theorem isNilC_spec {y : Operand} (h : isNilC y = true) : a.eval y = .slice none 0 0 := by
  unfold isNilC at h
  split at h
  · rfl
  · cases h

def isSliceTy (P : Program) (t : TypeId) : Bool :=
  match P.underlying t with
  | some (.slice _) => true
  | _ => false

theorem sound_eqNil {x : X} {x' y' : Operand} {neg : Bool} {t u : TypeId} {op : BinOp} (hop : op = if neg then .neq else .eql) (ho : o.op = .binOp op t x' y' u) (hx : chkX x x' = true) (hy : isNilC y' = true) (hst : isSliceTy P t = true) {b : Bool}
    (hb : isNilV (x.ev s) = some b) : OpSound P Bad β h w a o (.bool (if neg then !b else b)) h := by
  have h1 := X_rep hs hx
  obtain ⟨e, hu⟩ : ∃ e, P.underlying t = some (.slice e) := by
    unfold isSliceTy at hst
    split at hst
    · exact ⟨_, by assumption⟩
    · cases hst
  have h2 : a.eval y' = .slice none 0 0 := isNilC_spec hy
  obtain ⟨ao, n, c, h3, h4⟩ : ∃ ao n c, a.eval x' = .slice ao n c ∧ ao.isNone = b := by
    generalize x.ev s = xv at h1 hb
    cases xv <;> simp only [isNilV, reduceCtorEq, Option.some.injEq] at hb
    · subst hb
      exact ⟨none, 0, 0, h1, rfl⟩
    · rename_i g sz l
      split at hb
      · cases hb
      rename_i hl
      injection hb with hb
      subst hb
      obtain ⟨y, l, rfl⟩ := List.exists_cons_of_length_pos (Nat.pos_of_ne_zero hl)
      obtain ⟨ao, c, vs, h3, h4, hz, h5, h6⟩ := h1
      obtain ⟨u, us, hvs, hsz, _, _⟩ := h5
      have : ∃ v, vs[0]? = some v := by
        rw [hvs]
        have hlen : 0 < (u.cells.toList ++ us).length := by
          rw [List.length_append, Array.length_toList, hsz]
          omega
        exact ⟨_, List.getElem?_eq_getElem hlen⟩
      obtain ⟨v, hv⟩ := this
      obtain ⟨ad, rfl, _⟩ := h6 0 v hv
      exact ⟨some ad, _, c, h3, rfl⟩
  have heq : (Op.equal t (.slice ao n c) (.slice none 0 0)).run P w = .ok ao.isNone w := run_equal_slice_nil w t e ao n c hu
  have hg : ∀ v, (eqGuard op t x' y' (.slice ao n c) v).run P w = .ok () w := fun v => by
    cases op <;> simp [eqGuard]
  subst hop
  cases neg
  · refine sound_pure hh (v := .bool b) ?_ rfl
    simp only [Bool.false_eq_true, if_false] at ho hg
    simp [execOp, ho, h2, h3, hg, binOp, heq, h4]
  · refine sound_pure hh (v := .bool (!b)) ?_ rfl
    simp only [if_true] at ho hg
    simp [execOp, ho, h2, h3, hg, binOp, heq, h4]

end
end Go.Fw
