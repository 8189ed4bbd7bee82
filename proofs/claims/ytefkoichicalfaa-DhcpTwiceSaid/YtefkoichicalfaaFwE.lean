/-
  '==' of structs whose fields are plain values. Conditions: stated at each.
-/
import Derived.Test.YtefkoichicalfaaFwG
import Derived.Laws.StructEq
import Derived.Laws.Cover3
import Derived.ChangeKeysEq
set_option linter.unusedVariables false
set_option linter.unusedSimpArgs false
set_option linter.unusedSectionVars false
namespace Go.Fw
open Go.RowKit (Below)

def eqFs (g : TypeId → Option (List Nat)) : List Field → Nat → Option (List Nat)
  | [], _ => some []
  | f :: fs, off => if f.offset = off ∧ f.name ≠ "_" then (g f.type).bind fun m => (eqFs g fs (off + m.length)).map (m ++ ·) else none

/-- The cells of a type whose values are compared cell by cell. -/
def eqTy (P : Program) : Nat → TypeId → Option (List Nat)
  | 0, _ => none
  | d + 1, t =>
    match P.underlying t with
    | some .bool => if tyIs P t false 1 then some [0] else none
    | some (.int _) => if tyIs P t false 1 then some [1] else none
    | some .string => if tyIs P t false 1 then some [2] else none
    | some (.struct fs) => (eqFs (eqTy P d) fs.toList 0).bind fun n => if !P.stoodInHeld t && tyIs P t true n.length then some n else none
    | some (.array n e) => (eqTy P d e).bind fun m => if tyIs P t true (List.replicate n m).flatten.length then some (List.replicate n m).flatten else none
    | _ => none

def ValOf (P : Program) (t : TypeId) (A : Value) (as : List Value) : Prop :=
  match P.underlying t with
  | some (.struct _) => A = .agg as.toArray
  | some (.array _ _) => A = .agg as.toArray
  | _ => as = [A]

theorem eqCells_cons {k : Nat} {ks : List Nat} {x y : AV} {l m : List AV} {r : Bool} (h : eqCells (k :: ks) (x :: l) (y :: m) = some r) : ∃ p q, eqOne k x y = some p ∧ eqCells ks l m = some q ∧ r = (p && q) := by
  simp only [eqCells] at h
  cases hp : eqOne k x y with
  | none => rw [hp] at h; cases h
  | some p =>
    rw [hp] at h
    cases hq : eqCells ks l m with
    | none => rw [hq] at h; cases h
    | some q =>
      rw [hq] at h
      injection h with h
      exact ⟨p, q, rfl, rfl, h.symm⟩

theorem eqCells_length : ∀ {ks : List Nat} {xs ys : List AV} {r : Bool}, eqCells ks xs ys = some r → xs.length = ks.length ∧ ys.length = ks.length
  | [], [], [], _, _ => ⟨rfl, rfl⟩
  | [], [], _ :: _, _, h => by simp [eqCells] at h
  | [], _ :: _, [], _, h => by simp [eqCells] at h
  | [], _ :: _, _ :: _, _, h => by simp [eqCells] at h
  | _ :: _, [], [], _, h => by simp [eqCells] at h
  | _ :: _, [], _ :: _, _, h => by simp [eqCells] at h
  | _ :: _, _ :: _, [], _, h => by simp [eqCells] at h
  | k :: ks, x :: xs, y :: ys, r, h => by
    obtain ⟨_, _, _, h, _⟩ := eqCells_cons h
    have := eqCells_length h
    simp [this.1, this.2]

theorem eqCells_append : ∀ {ks : List Nat} {ls : List Nat} {a c b d : List AV} {r : Bool}, a.length = ks.length → c.length = ks.length → eqCells (ks ++ ls) (a ++ b) (c ++ d) = some r → ∃ r1 r2, eqCells ks a c = some r1 ∧ eqCells ls b d = some r2 ∧ r = (r1 && r2)
  | [], ls, [], [], b, d, r, _, _, h => ⟨true, r, rfl, h, by simp⟩
  | [], ls, _ :: _, _, _, _, _, hl, _, _ => by simp at hl
  | [], ls, _, _ :: _, _, _, _, _, hl, _ => by simp at hl
  | _ :: _, ls, [], _, _, _, _, hl, _, _ => by simp at hl
  | _ :: _, ls, _, [], _, _, _, _, hl, _ => by simp at hl
  | kd :: ks, ls, x :: a, y :: c, b, d, r, hl, hl2, h => by
    simp only [List.cons_append] at h
    obtain ⟨p, q, e1, e2, rfl⟩ := eqCells_cons h
    obtain ⟨r1, r2, e3, e4, rfl⟩ := eqCells_append (by simpa using hl) (by simpa using hl2) e2
    exact ⟨p && r1, r2, by simp only [eqCells, e1, e3]; rfl, e4, by rw [Bool.and_assoc]⟩

section
variable {P : Program} {β : List Value} {h : Heap} {F : Forb} {w : World}

/-- What is claimed of a type. -/
def Form (P : Program) (t : TypeId) (n : Nat) : Prop := ∃ ag, tyIs P t ag n = true ∧ (ag = false → n = 1) ∧ ∀ A as, ValOf P t A as ↔ (if ag then A = .agg as.toArray else as = [A])

def EqAt_ (P : Program) (d : Nat) (t : TypeId) (ks : List Nat) : Prop :=
  Form P t ks.length ∧
  ∀ (β : List Value) (h : Heap) (F : Forb) (w : World) (xs ys : List AV) (as bs : List Value) (r : Bool) (k : Nat) (A B : Value), RepL xs β h F w as → RepL ys β h F w bs → eqCells ks xs ys = some r → ValOf P t A as → ValOf P t B bs →
    (Op.equalIn (d + k) t A B).run P w = .ok r w

theorem run_part_at {t : TypeId} {n off : Nat} (hf : Form P t n) {as : List Value} (hle : n = 0 ∨ off + n ≤ as.length) :
    ∃ A, (part t as.toArray off).run P w = .ok A w ∧ ValOf P t A ((as.drop off).take n) := by
  obtain ⟨ag, ht, hn, hv⟩ := hf
  obtain ⟨i, d, hi, hd, hsz, hag⟩ := tyIs_spec ht
  cases ag with
  | true =>
    refine ⟨.agg ((as.drop off).take n).toArray, ?_, (hv _ _).2 (by simp)⟩
    cases d <;> simp [isAggD] at hag <;> simp [part, isAgg, run_underlying hd, run_sizeOf hi, hsz] <;> simp [List.extract_eq_take_drop]
  | false =>
    have hn1 := hn rfl
    subst hn1
    have hlt : off < as.length := by omega
    refine ⟨as[off], ?_, (hv _ _).2 ?_⟩
    · cases d <;> simp [isAggD] at hag <;> simp [part, isAgg, run_underlying hd, hlt]
    · simp only [Bool.false_eq_true, if_false]
      rw [List.drop_eq_getElem_cons hlt]
      rfl

theorem eqFs_run {d : Nat} (ih : ∀ t n, eqTy P d t = some n → EqAt_ P d t n) (k : Nat) {xs ys : List AV} {as bs : List Value} (ha : RepL xs β h F w as) (hb : RepL ys β h F w bs) : ∀ (fs : List Field) (off : Nat) (ks : List Nat) (r : Bool), eqFs (eqTy P d) fs off = some ks → eqCells ks (xs.drop off) (ys.drop off) = some r →
    (Op.eqFields (d + k) as.toArray bs.toArray fs).run P w = .ok r w
  | [], off, ks, r, hf, he => by
    simp only [eqFs, Option.some.injEq] at hf
    subst hf
    have : r = true := by
      obtain ⟨l1, l2⟩ := eqCells_length he
      rw [List.eq_nil_of_length_eq_zero l1, List.eq_nil_of_length_eq_zero l2] at he
      simp only [eqCells, Option.some.injEq] at he
      exact he.symm
    subst this
    simp [Op.eqFields]
  | f :: fs, off, ks, r, hf, he => by
    unfold eqFs at hf
    split at hf
    case isFalse => cases hf
    case isTrue hc =>
      obtain ⟨ho, hnm⟩ := hc
      cases hg : eqTy P d f.type with
      | none => rw [hg] at hf; cases hf
      | some m =>
        rw [hg] at hf
        simp only [Option.bind_some] at hf
        cases hr : eqFs (eqTy P d) fs (off + m.length) with
        | none => rw [hr] at hf; cases hf
        | some ls =>
          rw [hr] at hf
          injection hf with hf
          subst hf
          obtain ⟨hform, hrun⟩ := ih _ _ hg
          have hal := ha.length
          have hbl := hb.length
          obtain ⟨l1, l2⟩ := eqCells_length he
          simp only [List.length_drop, List.length_append] at l1 l2
          have hx : (xs.drop off).length = m.length + ls.length := by rw [List.length_drop]; exact l1
          have hy : (ys.drop off).length = m.length + ls.length := by rw [List.length_drop]; exact l2
          have ex : xs.drop off = (xs.drop off).take m.length ++ xs.drop (off + m.length) := by rw [← List.drop_drop]; exact (List.take_append_drop _ _).symm
          have ey : ys.drop off = (ys.drop off).take m.length ++ ys.drop (off + m.length) := by rw [← List.drop_drop]; exact (List.take_append_drop _ _).symm
          rw [ex, ey] at he
          obtain ⟨r1, r2, e1, e2, rfl⟩ := eqCells_append (by simp only [List.length_take]; omega) (by simp only [List.length_take]; omega) he
          obtain ⟨A, hA, hvA⟩ := run_part_at (w := w) hform (as := as) (off := off) (by omega)
          obtain ⟨B, hB, hvB⟩ := run_part_at (w := w) hform (as := bs) (off := off) (by omega)
          have h1 := hrun β h F w ((xs.drop off).take m.length) ((ys.drop off).take m.length) ((as.drop off).take m.length) ((bs.drop off).take m.length) r1 k A B ((ha.drop off).take _) ((hb.drop off).take _) e1 hvA hvB
          have h2 := eqFs_run ih k ha hb fs (off + m.length) ls r2 hr e2
          rw [Op.eqFields]
          simp only [if_pos hnm, Sem.run_bind, ho, hA, hB, h1, Result.andThen_ok]
          cases r1
          · simp
          · simpa using h2

theorem eqAr_run {d : Nat} {e : TypeId} {m : List Nat} (ih : EqAt_ P d e m) (k : Nat) {xs ys : List AV} {as bs : List Value} (ha : RepL xs β h F w as) (hb : RepL ys β h F w bs) : ∀ (n j : Nat) (r : Bool), eqCells (List.replicate n m).flatten (xs.drop (j * m.length)) (ys.drop (j * m.length)) = some r →
    (Op.eqItems (d + k) e m.length as.toArray bs.toArray (List.range' j n)).run P w = .ok r w
  | 0, j, r, he => by
    have : r = true := by
      obtain ⟨l1, l2⟩ := eqCells_length he
      simp only [List.replicate_zero, List.flatten_nil, List.length_nil] at l1 l2
      rw [List.eq_nil_of_length_eq_zero l1, List.eq_nil_of_length_eq_zero l2] at he
      simp only [List.replicate_zero, List.flatten_nil, eqCells, Option.some.injEq] at he
      exact he.symm
    subst this
    simp [Op.eqItems]
  | n + 1, j, r, he => by
    obtain ⟨hform, hrun⟩ := ih
    have hal := ha.length
    have hbl := hb.length
    obtain ⟨l1, l2⟩ := eqCells_length he
    rw [List.replicate_succ, List.flatten_cons] at he
    simp only [List.replicate_succ, List.flatten_cons, List.length_append] at l1 l2
    have ex : xs.drop (j * m.length) = (xs.drop (j * m.length)).take m.length ++ xs.drop ((j + 1) * m.length) := by rw [Nat.succ_mul, ← List.drop_drop]; exact (List.take_append_drop _ _).symm
    have ey : ys.drop (j * m.length) = (ys.drop (j * m.length)).take m.length ++ ys.drop ((j + 1) * m.length) := by rw [Nat.succ_mul, ← List.drop_drop]; exact (List.take_append_drop _ _).symm
    have t1 : ((xs.drop (j * m.length)).take m.length).length = m.length := by rw [List.length_take]; omega
    have t2 : ((ys.drop (j * m.length)).take m.length).length = m.length := by rw [List.length_take]; omega
    rw [ex, ey] at he
    obtain ⟨r1, r2, e1, e2, rfl⟩ := eqCells_append t1 t2 he
    simp only [List.length_drop] at l1 l2
    obtain ⟨A, hA, hvA⟩ := run_part_at (w := w) hform (as := as) (off := j * m.length) (by omega)
    obtain ⟨B, hB, hvB⟩ := run_part_at (w := w) hform (as := bs) (off := j * m.length) (by omega)
    have h1 := hrun β h F w ((xs.drop (j * m.length)).take m.length) ((ys.drop (j * m.length)).take m.length) ((as.drop (j * m.length)).take m.length) ((bs.drop (j * m.length)).take m.length) r1 k A B ((ha.drop _).take _) ((hb.drop _).take _) e1 hvA hvB
    have h2 := eqAr_run ⟨hform, hrun⟩ k ha hb n (j + 1) r2 e2
    rw [List.range'_succ, Op.eqItems]
    simp only [Sem.run_bind, hA, hB, h1, Result.andThen_ok]
    cases r1
    · simp
    · simpa using h2

theorem eqTy_run : ∀ (d : Nat) (t : TypeId) (n : List Nat), eqTy P d t = some n → EqAt_ P d t n
  | 0, t, n, h => by simp [eqTy] at h
  | d + 1, t, n, hq => by
    unfold eqTy at hq
    have hone : ∀ (xs ys : List AV) (β : List Value) (h : Heap) (F : Forb) (w : World) (A B : Value), RepL xs β h F w [A] → RepL ys β h F w [B] → ∃ x y, xs = [x] ∧ ys = [y] ∧ Rep x β h F w A ∧ Rep y β h F w B := by
      intro xs ys β h F w A B ha hb
      obtain ⟨x, rfl⟩ := List.length_eq_one_iff.1 (by simpa using ha.length)
      obtain ⟨y, rfl⟩ := List.length_eq_one_iff.1 (by simpa using hb.length)
      obtain ⟨_, _, e1, h1, e3⟩ := ha
      obtain ⟨_, _, e2, h2, e4⟩ := hb
      injection e1 with e1
      injection e2 with e2
      subst e1; subst e2
      exact ⟨x, y, rfl, rfl, h1, h2⟩
    split at hq
    case h_1 hu =>
      split at hq
      case isFalse => cases hq
      case isTrue ht =>
        injection hq with hq; subst hq
        refine ⟨⟨false, ht, fun _ => rfl, fun A as => by simp [ValOf, hu]⟩, ?_⟩
        intro β h F w xs ys as bs r k A B ha hb he hA hB
        simp only [ValOf, hu] at hA hB
        subst hA; subst hB
        obtain ⟨x, y, rfl, rfl, h1, h2⟩ := hone _ _ _ _ _ _ _ _ ha hb
        cases x <;> cases y <;> simp [eqCells, eqOne] at he
        simp only [Rep] at h1 h2
        subst h1; subst h2
        rw [show d + 1 + k = (d + k) + 1 by omega, run_equalIn_bool' w _ _ _ _ hu, ← he]
    case h_2 hu =>
      split at hq
      case isFalse => cases hq
      case isTrue ht =>
        injection hq with hq; subst hq
        refine ⟨⟨false, ht, fun _ => rfl, fun A as => by simp [ValOf, hu]⟩, ?_⟩
        intro β h F w xs ys as bs r k A B ha hb he hA hB
        simp only [ValOf, hu] at hA hB
        subst hA; subst hB
        obtain ⟨x, y, rfl, rfl, h1, h2⟩ := hone _ _ _ _ _ _ _ _ ha hb
        cases x <;> cases y <;> simp [eqCells, eqOne] at he
        simp only [Rep] at h1 h2
        obtain ⟨rfl, he⟩ := he
        subst h1; subst h2
        rw [show d + 1 + k = (d + k) + 1 by omega, run_equalIn_int w _ _ _ _ _ _ hu, ← he]
        rfl
    case h_3 hu =>
      split at hq
      case isFalse => cases hq
      case isTrue ht =>
        injection hq with hq; subst hq
        refine ⟨⟨false, ht, fun _ => rfl, fun A as => by simp [ValOf, hu]⟩, ?_⟩
        intro β h F w xs ys as bs r k A B ha hb he hA hB
        simp only [ValOf, hu] at hA hB
        subst hA; subst hB
        obtain ⟨x, y, rfl, rfl, h1, h2⟩ := hone _ _ _ _ _ _ _ _ ha hb
        cases x <;> cases y <;> simp [eqCells, eqOne] at he
        simp only [Rep] at h1 h2
        subst h1; subst h2
        rw [show d + 1 + k = (d + k) + 1 by omega, run_equalIn_string w _ _ _ _ hu, ← he]
    case h_4 fs hu =>
      cases hf : eqFs (eqTy P d) fs.toList 0 with
      | none => rw [hf] at hq; cases hq
      | some m =>
        rw [hf] at hq
        simp only [Option.bind_some] at hq
        split at hq
        case isFalse => cases hq
        case isTrue ht =>
          injection hq with hq; subst hq
          simp only [Bool.and_eq_true, Bool.not_eq_true'] at ht
          refine ⟨⟨true, ht.2, by simp, fun A as => by simp [ValOf, hu]⟩, ?_⟩
          intro β h F w xs ys as bs r k A B ha hb he hA hB
          simp only [ValOf, hu] at hA hB
          subst hA; subst hB
          have hfo : P.fieldsOf t = fs := by simp [Program.fieldsOf, hu]
          rw [show d + 1 + k = (d + k) + 1 by omega, run_equalIn_struct w (d + k) t _ _ (by rw [hfo]; exact hu) ht.1, hfo]
          exact eqFs_run (fun t n => eqTy_run d t n) k ha hb fs.toList 0 m r hf (by simpa using he)
    case h_5 nn e hu =>
      cases hf : eqTy P d e with
      | none => rw [hf] at hq; cases hq
      | some m =>
        rw [hf] at hq
        simp only [Option.bind_some] at hq
        split at hq
        case isFalse => cases hq
        case isTrue ht =>
          injection hq with hq; subst hq
          have ih := eqTy_run d e m hf
          refine ⟨⟨true, ht, by simp, fun A as => by simp [ValOf, hu]⟩, ?_⟩
          intro β h F w xs ys as bs r k A B ha hb he hA hB
          simp only [ValOf, hu] at hA hB
          subst hA; subst hB
          obtain ⟨ag, hte, _, _⟩ := ih.1
          obtain ⟨i, _, hi, _, hsz, _⟩ := tyIs_spec hte
          have hce : P.cellsOf e = m.length := by simp [Program.cellsOf, hi, hsz]
          rw [show d + 1 + k = (d + k) + 1 by omega, run_equalIn_array w (d + k) _ _ hu hi, hce, List.range_eq_range']
          exact eqAr_run ih k ha hb nn 0 r (by simpa using he)
    case h_6 => cases hq

end
section
variable {P : Program} {Bad : Forb} {β : List Value} {h : Heap} {w : World} {a : Act} {s : Slots} {o : Oper}
variable (hh : HeapRel Bad β h w) (hs : SlotsRep β h (FOf Bad β) w s a)
include hh hs

def isStructTy (P : Program) (t : TypeId) : Bool :=
  match P.underlying t with
  | some (.struct _) => true
  | some (.array _ _) => true
  | _ => false

theorem sound_eqS {x y : X} {x' y' : Operand} {neg : Bool} {ks : List Nat} {t u : TypeId} {op : BinOp} (hop : op = if neg then .neq else .eql) (ho : o.op = .binOp op t x' y' u) (hx : chkX x x' = true) (hy : chkX y y' = true)
    (he : eqTy P 6 t = some ks) (hst : isStructTy P t = true) (hg : P.eqGuardType P.depth t = false) {b : Bool} (hr : eqAgg ks (x.ev s) (y.ev s) = some b) : OpSound P Bad β h w a o (.bool (if neg then !b else b)) h := by
  have h1 := X_rep hs hx
  have h2 := X_rep hs hy
  generalize x.ev s = xv at h1 hr
  generalize y.ev s = yv at h2 hr
  cases xv <;> cases yv <;> simp only [eqAgg, reduceCtorEq] at hr
  rename_i cs ds
  simp only [Rep] at h1 h2
  obtain ⟨as, h1, ha, _⟩ := h1
  obtain ⟨bs, h2, hb, _⟩ := h2
  have hrun := (eqTy_run 6 t ks he).2 β h (FOf Bad β) w cs ds as bs b 9994 (.agg as.toArray) (.agg bs.toArray) ha hb hr
    (by unfold isStructTy at hst; unfold ValOf; split at hst <;> simp_all) (by unfold isStructTy at hst; unfold ValOf; split at hst <;> simp_all)
  subst hop
  cases neg
  · refine sound_pure hh (v := .bool b) ?_ rfl
    simp only [Bool.false_eq_true, if_false] at ho
    simp [execOp, ho, h1, h2, run_eqGuard_agg w .eql t x' y' as.toArray bs.toArray hg, run_eql_struct w t as.toArray bs.toArray, hrun]
  · refine sound_pure hh (v := .bool (!b)) ?_ rfl
    simp only [if_true] at ho
    simp [execOp, ho, h1, h2, run_eqGuard_agg w .neq t x' y' as.toArray bs.toArray hg, run_neq_struct w t as.toArray bs.toArray, hrun]

def isNilC : Operand → Bool
  | .const (.slice none 0 0) => true
  | _ => false

omit hh hs in
theorem isNilC_spec {y : Operand} (h : isNilC y = true) : a.eval y = .slice none 0 0 := by
  unfold isNilC at h
  split at h
  · rfl
  · cases h

def isSliceTy (P : Program) (t : TypeId) : Bool :=
  match P.underlying t with
  | some (.slice _) => true
  | _ => false

theorem sound_eqNil {x : X} {x' y' : Operand} {neg : Bool} {t u : TypeId} {op : BinOp} (hop : op = if neg then .neq else .eql) (ho : o.op = .binOp op t x' y' u) (hx : chkX x x' = true) (hy : isNilC y' = true) (hst : isSliceTy P t = true) {b : Bool}
    (hb : isNilV (x.ev s) = some b) : OpSound P Bad β h w a o (.bool (if neg then !b else b)) h := by
  have h1 := X_rep hs hx
  obtain ⟨e, hu⟩ : ∃ e, P.underlying t = some (.slice e) := by
    unfold isSliceTy at hst
    split at hst
    · exact ⟨_, by assumption⟩
    · cases hst
  have h2 : a.eval y' = .slice none 0 0 := isNilC_spec hy
  obtain ⟨ao, n, c, h3, h4⟩ : ∃ ao n c, a.eval x' = .slice ao n c ∧ ao.isNone = b := by
    generalize x.ev s = xv at h1 hb
    cases xv <;> simp only [isNilV, reduceCtorEq, Option.some.injEq] at hb
    · subst hb
      exact ⟨none, 0, 0, h1, rfl⟩
    · rename_i g sz l
      split at hb
      · cases hb
      rename_i hl
      injection hb with hb
      subst hb
      obtain ⟨y, l, rfl⟩ := List.exists_cons_of_length_pos (Nat.pos_of_ne_zero hl)
      obtain ⟨ao, c, vs, h3, h4, hz, h5, h6⟩ := h1
      obtain ⟨u, us, hvs, hsz, _, _⟩ := h5
      have : ∃ v, vs[0]? = some v := by
        rw [hvs]
        have hlen : 0 < (u.cells.toList ++ us).length := by
          rw [List.length_append, Array.length_toList, hsz]
          omega
        exact ⟨_, List.getElem?_eq_getElem hlen⟩
      obtain ⟨v, hv⟩ := this
      obtain ⟨ad, rfl, _⟩ := h6 0 v hv
      exact ⟨some ad, _, c, h3, rfl⟩
  have heq : (Op.equal t (.slice ao n c) (.slice none 0 0)).run P w = .ok ao.isNone w := run_equal_slice_nil w t e ao n c hu
  have hg : ∀ v, (eqGuard op t x' y' (.slice ao n c) v).run P w = .ok () w := fun v => by
    cases op <;> simp [eqGuard]
  subst hop
  cases neg
  · refine sound_pure hh (v := .bool b) ?_ rfl
    simp only [Bool.false_eq_true, if_false] at ho hg
    simp [execOp, ho, h2, h3, hg, binOp, heq, h4]
  · refine sound_pure hh (v := .bool (!b)) ?_ rfl
    simp only [if_true] at ho hg
    simp [execOp, ho, h2, h3, hg, binOp, heq, h4]

end
end Go.Fw
