/-
  One operation at a time: where the code of the evaluation fits the machine's operation, the machine's operation does what the evaluation says: values. Conditions: stated at each.
-/
import Derived.Test.YtefkoichicalfaaFwC
set_option linter.unusedVariables false
set_option linter.unusedSimpArgs false
namespace Go.Fw
open Go.RowKit (Below)

mutual
def constOk : AV → Value → Bool
  | .bool b, .bool c => b == c
  | .int k n, .int j m => k == j && n == m
  | .str s, .string t => s.data.toList == t.data.toList
  | .nils, .slice a n c => a.isNone && n == 0 && c == 0
  | .rs _ sz l, .slice a n c => decide (0 < sz) && l.isEmpty && a.isNone && n == 0 && c == 0
  | .nilp, .pointer a => a.isNone
  | .nilf, .nilFunc => true
  | .nili, .nilIface => true
  | .nilm, .map b => b.isNone
  | .agg cs, .agg vs => constOkL cs vs.toList
  | _, _ => false
def constOkL : List AV → List Value → Bool
  | [], [] => true
  | x :: l, v :: vs => storable x && constOk x v && constOkL l vs
  | _, _ => false
end

def chkX : X → Operand → Bool
  | .t n, .tmp m => n == m
  | .c (.fn f []), .func g => f == g
  | .c v, .const u => constOk v u
  | _, _ => false

def chkXs : List X → List Operand → Bool
  | [], [] => true
  | x :: l, o :: os => chkX x o && chkXs l os
  | _, _ => false

def chkXo : Option X → Option Operand → Bool
  | none, none => true
  | some x, some o => chkX x o
  | _, _ => false

section
variable {β : List Value} {h : Heap} {F : Forb} {w : World}

theorem Rep.oneCell {x : AV} {v : Value} (hs : storable x = true) (hr : Rep x β h F w v) : v.oneCell' = true := by
  cases x <;> simp only [storable, Rep] at hs hr
  case rs g sz l => obtain ⟨a, c, us, rfl, r⟩ := hr; rfl
  case rp g x => obtain ⟨a, us, rfl, r⟩ := hr; rfl
  case ref l ver o => obtain ⟨_, ⟨a, rfl⟩, _⟩ := hr; rfl
  case sl sz l ver o n => obtain ⟨_, ⟨a, m, c, rfl⟩, _⟩ := hr; rfl
  case fn f cap => obtain ⟨vs, rfl, r⟩ := hr; rfl
  case iface t x => obtain ⟨y, rfl, r⟩ := hr; rfl
  case mp l => obtain ⟨_, ⟨a, rfl⟩, _⟩ := hr; rfl
  case rm g kk es => obtain ⟨b, rfl, _⟩ := hr; rfl
  all_goals first | (subst hr; rfl) | cases hs

theorem cells_of_one {v : Value} (h : v.oneCell' = true) : v.cells = #[v] := by
  cases v <;> first | rfl | cases h

/-- The cells of a value. -/
theorem Rep.cells {x : AV} {v : Value} (hs : (cellsOf x).all storable = true) (hr : Rep x β h F w v) : RepL (cellsOf x) β h F w v.cells.toList ∧ ∀ u ∈ v.cells.toList, u.oneCell' = true := by
  by_cases ha : ∃ cs, x = .agg cs
  · obtain ⟨cs, rfl⟩ := ha
    simp only [Rep] at hr
    obtain ⟨vs, rfl, hl, h1⟩ := hr
    exact ⟨by simpa [Value.cells, cellsOf] using hl, by simpa [Value.cells] using h1⟩
  · have hc : cellsOf x = [x] := by
      cases x <;> first | rfl | exact absurd ⟨_, rfl⟩ ha
    rw [hc] at hs ⊢
    have h1 := Rep.oneCell (by simpa using hs) hr
    rw [cells_of_one h1]
    exact ⟨⟨v, [], rfl, hr, rfl⟩, by simpa using h1⟩

mutual
theorem const_rep : ∀ (x : AV) {v : Value} (hc : constOk x v = true), Rep x β h F w v
  | .undef, v, hc => trivial
  | .bool b, v, hc => by cases v <;> simp_all [constOk, Rep]
  | .int k n, v, hc => by cases v <;> simp_all [constOk, Rep]
  | .str s, v, hc => by
    cases v <;> simp_all [constOk, Rep]
    rename_i t
    cases s; cases t
    simp at hc ⊢
    exact hc.symm
  | .nils, v, hc => by
    cases v <;> simp [constOk] at hc
    obtain ⟨⟨rfl, rfl⟩, rfl⟩ := hc
    rfl
  | .rs g sz l, v, hc => by
    cases v <;> simp [constOk] at hc
    obtain ⟨⟨⟨⟨hz, rfl⟩, rfl⟩, rfl⟩, rfl⟩ := hc
    exact ⟨none, 0, [], rfl, Nat.le_refl _, .inl hz, rfl, fun i u hi => by simp at hi⟩
  | .nilp, v, hc => by
    cases v <;> simp [constOk] at hc
    subst hc
    rfl
  | .rp g x, v, hc => by cases v <;> simp [constOk] at hc
  | .ref l ver o, v, hc => by cases v <;> simp [constOk] at hc
  | .sl sz l ver o n, v, hc => by cases v <;> simp [constOk] at hc
  | .nilf, v, hc => by cases v <;> simp_all [constOk, Rep]
  | .fn f cap, v, hc => by cases v <;> simp [constOk] at hc
  | .nili, v, hc => by cases v <;> simp_all [constOk, Rep]
  | .nilm, v, hc => by cases v <;> simp_all [constOk, Rep]
  | .iface t x, v, hc => by cases v <;> simp [constOk] at hc
  | .agg cs, v, hc => by
    cases v <;> simp only [constOk] at hc <;> try (cases hc; done)
    rename_i vs
    simp only [Rep]
    obtain ⟨h1, h2⟩ := constL_rep cs hc
    exact ⟨vs.toList, by simp, h1, h2⟩
  | .tup cs, v, hc => by cases v <;> simp [constOk] at hc
theorem constL_rep : ∀ (l : List AV) {vs : List Value} (hc : constOkL l vs = true), RepL l β h F w vs ∧ ∀ u ∈ vs, u.oneCell' = true
  | [], vs, hc => by cases vs <;> simp_all [constOkL, RepL]
  | x :: l, vs, hc => by
    cases vs with
    | nil => simp [constOkL] at hc
    | cons v vs =>
      simp only [constOkL, Bool.and_eq_true] at hc
      obtain ⟨⟨h0, h1⟩, h2⟩ := hc
      obtain ⟨h3, h4⟩ := constL_rep l h2
      have h5 := const_rep x h1
      refine ⟨⟨v, vs, rfl, h5, h3⟩, ?_⟩
      intro u hu
      rcases List.mem_cons.1 hu with rfl | hu
      · exact Rep.oneCell h0 h5
      · exact h4 u hu
end

def SlotsRep (β : List Value) (h : Heap) (F : Forb) (w : World) (s : Slots) (a : Act) : Prop := ∀ t, Rep (get s t) β h F w (a.tmps.getD t undef)

theorem X_rep {s : Slots} {a : Act} (hs : SlotsRep β h F w s a) {x : X} {o : Operand} (hc : chkX x o = true) : Rep (x.ev s) β h F w (a.eval o) := by
  cases x with
  | t n =>
    cases o <;> simp [chkX] at hc
    subst hc
    exact hs n
  | c v =>
    cases o with
    | const u =>
      have : constOk v u = true := by
        cases v
        case fn f cap => cases cap <;> simpa [chkX] using hc
        all_goals simpa [chkX] using hc
      exact const_rep v this
    | func g =>
      cases v <;> simp [chkX] at hc
      rename_i f cap
      cases cap <;> simp [chkX] at hc
      subst hc
      exact ⟨[], rfl, rfl⟩
    | tmp t => cases v <;> first | (simp [chkX] at hc; done) | (rename_i f cap; cases cap <;> simp [chkX] at hc)
    | global g => cases v <;> first | (simp [chkX] at hc; done) | (rename_i f cap; cases cap <;> simp [chkX] at hc)

theorem Xs_rep {s : Slots} {a : Act} (hs : SlotsRep β h F w s a) : ∀ {xs : List X} {os : List Operand} (hc : chkXs xs os = true), RepL (xs.map (X.ev s)) β h F w (os.map a.eval)
  | [], [], _ => rfl
  | x :: xs, o :: os, hc => by
    simp only [chkXs, Bool.and_eq_true] at hc
    exact ⟨_, _, rfl, X_rep hs hc.1, Xs_rep hs hc.2⟩
  | [], _ :: _, hc => by simp [chkXs] at hc
  | _ :: _, [], hc => by simp [chkXs] at hc

end

theorem run_equalIn_bool {P : Program} (w : World) (d : Nat) (t : TypeId) (b c : Bool) (h : P.underlying t = some .bool) : (Op.equalIn (d + 1) t (.bool b) (.bool c)).run P w = .ok (b == c) w := by
  simp [Op.equalIn, run_underlying h]

/-! ### what an operation owes -/

section
variable {P : Program} {Bad : Forb} {β : List Value} {h : Heap} {w : World} {a : Act} {s : Slots} {o : Oper} {Q : Exit → Act → World → Prop}

def OpSound (P : Program) (Bad : Forb) (β : List Value) (h : Heap) (w : World) (a : Act) (o : Oper) (r : AV) (h' : Heap) : Prop :=
  ∀ (K : Act → World → Prop) (Q : Exit → Act → World → Prop), (∀ v β' w', Step Bad β h w β' h' w' → Rep r β' h' (FOf Bad β') w' v → K (a.put o.dst v) w') → o.wp P a w K Q

theorem sound_value {r : AV} {h' : Heap} {v : Value} {β' : List Value} {w' : World} (hrun : (execOp a.eval o).run P w = .ok (.value v) w') (hst : Step Bad β h w β' h' w')
    (hr : Rep r β' h' (FOf Bad β') w' v) : OpSound P Bad β h w a o r h' := by
  intro K Q hk
  unfold Oper.wp
  rw [hrun]
  exact hk v β' w' hst hr

theorem sound_skip {h' : Heap} {β' : List Value} {w' : World} (hrun : (execOp a.eval o).run P w = .ok .skip w') (hst : Step Bad β h w β' h' w') : OpSound P Bad β h w a o .undef h' := by
  intro K Q hk
  unfold Oper.wp
  rw [hrun]
  exact hk undef β' w' hst trivial

theorem sound_pure {r : AV} {v : Value} (hh : HeapRel Bad β h w) (hrun : (execOp a.eval o).run P w = .ok (.value v) w) (hr : Rep r β h (FOf Bad β) w v) : OpSound P Bad β h w a o r h :=
  sound_value hrun (Step.refl hh) hr

variable (hh : HeapRel Bad β h w) (hs : SlotsRep β h (FOf Bad β) w s a)
include hh hs

theorem sound_mov {x : X} {y : Operand} (ho : o.op = .move y ∨ o.op = .assign y) (hc : chkX x y = true) : OpSound P Bad β h w a o (x.ev s) h := by
  refine sound_pure hh ?_ (X_rep hs hc)
  rcases ho with ho | ho <;> simp [execOp, ho]

theorem sound_pick {c x y : X} {c' x' y' : Operand} (ho : o.op = .pick c' x' y') (hc : chkX c c' = true) (hx : chkX x x' = true) (hy : chkX y y' = true) {b : Bool} (hb : c.ev s = .bool b) :
    OpSound P Bad β h w a o (if b then x.ev s else y.ev s) h := by
  have h1 := X_rep hs hc
  rw [hb] at h1
  simp only [Rep] at h1
  refine sound_pure hh (v := if b then a.eval x' else a.eval y') ?_ ?_
  · simp [execOp, ho, h1, asBool]
  · cases b
    · exact X_rep hs hy
    · exact X_rep hs hx

theorem sound_un {x : X} {y : Operand} {op : UnOp} {t : TypeId} (ho : o.op = .unOp op t y) (hc : chkX x y = true) {r : AV} (hr : unop op (x.ev s) = some r) : OpSound P Bad β h w a o r h := by
  have h1 := X_rep hs hc
  generalize x.ev s = xv at h1 hr
  cases xv <;> cases op <;> simp only [unop, Option.some.injEq, reduceCtorEq] at hr <;> subst hr <;> simp only [Rep] at h1
  case int.neg k n => exact sound_pure hh (v := .int k (k.wrap (0 - n))) (by simp [execOp, ho, h1, Op.unary, Op.intArith]) rfl
  case int.xor k n => exact sound_pure hh (v := .int k (bitsI .xor k (if k.signed then -1 else k.max) n)) (by simp [execOp, ho, h1, Op.unary, Op.intBits, bitsI]) rfl
  case bool.not b => exact sound_pure hh (v := .bool !b) (by simp [execOp, ho, h1, Op.unary]) rfl

theorem sound_bin {x y : X} {x' y' : Operand} {op : BinOp} {t u : TypeId} (ho : o.op = .binOp op t x' y' u) (hx : chkX x x' = true) (hy : chkX y y' = true)
    {r : AV} (hr : binop op (x.ev s) (y.ev s) = some r) : OpSound P Bad β h w a o r h := by
  have h1 := X_rep hs hx
  have h2 := X_rep hs hy
  generalize x.ev s = xv at h1 hr
  generalize y.ev s = yv at h2 hr
  cases xv <;> cases yv <;> simp only [binop, reduceCtorEq] at hr
  case int.int k m k' n =>
    simp only [Rep] at h1 h2
    have hg : ∀ w : World, (eqGuard op t x' y' (.int k m) (.int k' n)).run P w = .ok () w := fun w => by
      unfold eqGuard
      cases op <;> simp
    by_cases hsh : op = .shl ∨ op = .shr
    · rcases hsh with rfl | rfl
      · simp only [shiftI] at hr
        split at hr
        · cases hr
        · rename_i hn
          injection hr with hr
          subst hr
          exact sound_pure hh (v := .int k (k.wrap (m * 2 ^ (min n.toNat k.bits)))) (by simp [execOp, ho, h1, h2, hg, binOp, Op.shift, hn]) rfl
      · simp only [shiftI] at hr
        split at hr
        · cases hr
        · rename_i hn
          injection hr with hr
          subst hr
          exact sound_pure hh (v := .int k (m.fdiv (2 ^ (min n.toNat k.bits)))) (by simp [execOp, ho, h1, h2, hg, binOp, Op.shift, hn]) rfl
    · have hr' : (if k = k' then binI op k m n else none) = some r := by
        cases op <;> first | exact hr | exact absurd (.inl rfl) hsh | exact absurd (.inr rfl) hsh
      split at hr'
      case isFalse => cases hr'
      case isTrue hk =>
        subst hk
        cases op <;> simp only [binI, reduceCtorEq] at hr'
        case quo =>
          split at hr' <;> first | (cases hr'; done) | skip
          rename_i hn
          injection hr' with hr'
          subst hr'
          exact sound_pure hh (v := .int k (k.wrap (m.tdiv n))) (by simp [execOp, ho, h1, h2, hg, binOp, Op.intDiv, hn]) rfl
        case rem =>
          split at hr' <;> first | (cases hr'; done) | skip
          rename_i hn
          injection hr' with hr'
          subst hr'
          exact sound_pure hh (v := .int k (m.tmod n)) (by simp [execOp, ho, h1, h2, hg, binOp, Op.intDiv, hn]) rfl
        all_goals (injection hr' with hr'; subst hr')
        case add => exact sound_pure hh (v := .int k (k.wrap (m + n))) (by simp [execOp, ho, h1, h2, hg, binOp, Op.intArith]) rfl
        case sub => exact sound_pure hh (v := .int k (k.wrap (m - n))) (by simp [execOp, ho, h1, h2, hg, binOp, Op.intArith]) rfl
        case mul => exact sound_pure hh (v := .int k (k.wrap (m * n))) (by simp [execOp, ho, h1, h2, hg, binOp, Op.intArith]) rfl
        case and => exact sound_pure hh (v := .int k (bitsI .and k m n)) (by simp [execOp, ho, h1, h2, hg, binOp, Op.intBits, bitsI]) rfl
        case or => exact sound_pure hh (v := .int k (bitsI .or k m n)) (by simp [execOp, ho, h1, h2, hg, binOp, Op.intBits, bitsI]) rfl
        case xor => exact sound_pure hh (v := .int k (bitsI .xor k m n)) (by simp [execOp, ho, h1, h2, hg, binOp, Op.intBits, bitsI]) rfl
        case andNot => exact sound_pure hh (v := .int k (bitsI .andNot k m n)) (by simp [execOp, ho, h1, h2, hg, binOp, Op.intBits, bitsI]) rfl
        case eql => exact sound_pure hh (v := .bool (decide (m = n))) (by simp [execOp, ho, h1, h2, hg, binOp, Op.intCmp]; rfl) rfl
        case neq => exact sound_pure hh (v := .bool (!decide (m = n))) (by simp [execOp, ho, h1, h2, hg, binOp, Op.intCmp, bne]; rfl) rfl
        case lss => exact sound_pure hh (v := .bool (decide (m < n))) (by simp [execOp, ho, h1, h2, hg, binOp, Op.intCmp]) rfl
        case leq => exact sound_pure hh (v := .bool (decide (m ≤ n))) (by simp [execOp, ho, h1, h2, hg, binOp, Op.intCmp]) rfl
        case gtr => exact sound_pure hh (v := .bool (decide (n < m))) (by simp [execOp, ho, h1, h2, hg, binOp, Op.intCmp]) rfl
        case geq => exact sound_pure hh (v := .bool (decide (n ≤ m))) (by simp [execOp, ho, h1, h2, hg, binOp, Op.intCmp]) rfl
  case str.str b c =>
    simp only [Rep] at h1 h2
    have hg : ∀ w : World, (eqGuard op t x' y' (.string b) (.string c)).run P w = .ok () w := fun w => by
      unfold eqGuard
      cases op <;> simp
    cases op <;> simp only [Option.some.injEq, reduceCtorEq] at hr
    case add =>
      split at hr
      · rename_i hl
        injection hr with hr
        subst hr
        have hl' : ¬ (((b.size + c.size : Nat) : Int) > IntKind.i64.max) := by
          show ¬ (_ > (9223372036854775807 : Int))
          omega
        exact sound_pure hh (v := .string (b ++ c)) (by simp only [execOp, ho, h1, h2, hg, binOp, Op.stringOp, Sem.run_bind, Result.andThen_ok, if_neg hl', Sem.run_pure]) rfl
      · cases hr
    all_goals subst hr
    · exact sound_pure hh (v := .bool (b.toList == c.toList)) (by simp [execOp, ho, h1, h2, hg, binOp, Op.stringOp]) rfl
    · exact sound_pure hh (v := .bool (!(b.toList == c.toList))) (by simp [execOp, ho, h1, h2, hg, binOp, Op.stringOp]) rfl

theorem sound_binB {x y : X} {x' y' : Operand} {op : BinOp} {t u : TypeId} (ho : o.op = .binOp op t x' y' u) (hx : chkX x x' = true) (hy : chkX y y' = true)
    (hb : P.underlying t = some .bool) {r : AV} (hr : binopB op (x.ev s) (y.ev s) = some r) : OpSound P Bad β h w a o r h := by
  have h1 := X_rep hs hx
  have h2 := X_rep hs hy
  generalize x.ev s = xv at h1 hr
  generalize y.ev s = yv at h2 hr
  cases xv <;> cases yv <;> simp only [binopB, reduceCtorEq] at hr
  case bool.bool b c =>
    simp only [Rep] at h1 h2
    have he : ∀ w : World, (Op.equal t (.bool b) (.bool c)).run P w = .ok (b == c) w := fun w => run_equalIn_bool w 9999 t b c hb
    have hg : ∀ w : World, (eqGuard op t x' y' (.bool b) (.bool c)).run P w = .ok () w := fun w => by
      unfold eqGuard
      cases op <;> simp
    cases op <;> simp only [Option.some.injEq, reduceCtorEq] at hr <;> subst hr
    · exact sound_pure hh (v := .bool (b == c)) (by simp only [execOp, ho, h1, h2, binOp, Sem.run_bind, hg, he, Result.andThen_ok, Sem.run_pure]) rfl
    · exact sound_pure hh (v := .bool (!(b == c))) (by simp only [execOp, ho, h1, h2, binOp, Sem.run_bind, hg, he, Result.andThen_ok, Sem.run_pure]) rfl

theorem sound_conv {x : X} {y : Operand} {src dst : TypeId} {k : IntKind} (ho : o.op = .convert src dst y) (hc : chkX x y = true) (hd : P.underlying dst = some (.int k)) (hsr : (P.underlying src).isSome = true)
    {j : IntKind} {n : Int} (hx : x.ev s = .int j n) : OpSound P Bad β h w a o (wrapI k n) h := by
  have h1 := X_rep hs hc
  rw [hx] at h1
  simp only [Rep] at h1
  obtain ⟨d, hd'⟩ := Option.isSome_iff_exists.1 hsr
  exact sound_pure hh (v := .int k (k.wrap n)) (by simp [execOp, ho, h1, convert, run_underlying hd, run_underlying hd', Conv.intToInt]) rfl

theorem sound_ext {x : X} {y : Operand} {i : Nat} (ho : o.op = .extract y i) (hc : chkX x y = true) {vs : List AV} (hx : x.ev s = .tup vs) (hi : i < vs.length) : OpSound P Bad β h w a o (vs.getD i .undef) h := by
  have h1 := X_rep hs hc
  rw [hx] at h1
  simp only [Rep] at h1
  obtain ⟨us, h1, hl⟩ := h1
  obtain ⟨u, hu, hr⟩ := RepL.at hl (List.getElem?_eq_getElem hi)
  refine sound_pure hh (v := u) (by simp [execOp, ho, h1, Instr.extract, hu]) ?_
  rw [List.getD_eq_getElem?_getD, List.getElem?_eq_getElem hi]
  exact hr

theorem sound_mkIf {x : X} {y : Operand} {t : TypeId} (ho : o.op = .makeInterface t y) (hc : chkX x y = true) {d : TypeDesc} (hd : P.underlying t = some d) (hn : (match d with | .interface _ => false | _ => true) = true) :
    OpSound P Bad β h w a o (.iface t (x.ev s)) h := by
  refine sound_pure hh (v := .iface t (a.eval y)) ?_ ⟨_, rfl, X_rep hs hc⟩
  cases d <;> first | (cases hn; done) | simp [execOp, ho, Instr.makeInterface, run_underlying hd]

theorem sound_mkFn {xs : List X} {f : FuncId} {first caps : Array Operand} (ho : o.op = .makeFunc (.func f) first caps) (hf : first = #[]) (hc : chkXs xs caps.toList = true) :
    OpSound P Bad β h w a o (.fn f (xs.map (X.ev s))) h := by
  subst hf
  refine sound_pure hh (v := .func (.func f) #[] (caps.toList.map a.eval).toArray) ?_ ⟨_, rfl, Xs_rep hs hc⟩
  have : caps.map a.eval = (caps.toList.map a.eval).toArray := by apply Array.ext'; simp
  simp [execOp, ho, Instr.makeFunc, this]

end
end Go.Fw
