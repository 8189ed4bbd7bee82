/-
  Equations by which the evaluation of a function's code is reckoned, one operation at a time. Conditions: stated at each.
-/
import Derived.Test.YtefkoichicalfaaFwQ
set_option linter.unusedVariables false
set_option linter.unusedSimpArgs false
namespace Go.Fw

variable {E : Env}

/-- What comes behind an operation. -/
noncomputable def stepK (E : Env) (d : Option Nat) (l : List IO_) (s : Slots) (r : Option (AV × Heap)) : Option St := r.bind fun r => evOps E (call E) l ⟨put s d r.1, r.2⟩
noncomputable def guardK (E : Env) (d : Option Nat) (op : I) (l : List IO_) (s : Slots) (h : Heap) (b : Option Bool) : Option St :=
  b.bind fun b => if b then stepK E d l s (evI E (call E) s h op) else evOps E (call E) l ⟨put s d (.tup []), h⟩
def opsK (r : Option St) : Out := r.map fun x => (.norm, x)
noncomputable def condK (E : Env) (a b : C) (x : St) (v : AV) : Out := match v with
  | .bool v => if v then ev E a x else ev E b x
  | _ => none
/-- A call's value, taken over. -/
def retK (ro : Bool) (h : Heap) (own : Bool) (r : Option (AV × Heap)) : Option (AV × Heap) := r.bind fun r =>
  if own && !(noG r.1 && r.2.all objNoG) then none
  else if ro then (snap false r.2 depth r.1).map fun v => (v, h)
  else if okRes r.1 then some (shift h.length r.1, h ++ r.2) else none
noncomputable def callK (E : Env) (ro : Bool) (h : Heap) (f : FuncId) (own : Bool) (vs : Option (List AV)) : Option (AV × Heap) := vs.bind fun vs => retK ro h own (pcall E f vs)

theorem evOps_nil (x : St) : evOps E (call E) [] x = some x := (rfl)
theorem evOps_plain (d : Option Nat) (op : I) (l : List IO_) (s : Slots) (h : Heap) : evOps E (call E) (⟨d, none, op⟩ :: l) ⟨s, h⟩ = stepK E d l s (evI E (call E) s h op) := by
  simp only [evOps, evO, guardOk, stepK, Option.bind_some, if_true, Option.bind_map]
  cases evI E (call E) s h op <;> rfl
theorem evOps_guard (d : Option Nat) (t : Nat) (b : Bool) (op : I) (l : List IO_) (s : Slots) (h : Heap) : evOps E (call E) (⟨d, some (t, b), op⟩ :: l) ⟨s, h⟩ = guardK E d op l s h (guardOk s (some (t, b))) := by
  simp only [evOps, evO, guardK, stepK]
  cases guardOk s (some (t, b)) with
  | none => rfl
  | some b =>
    cases b
    · rfl
    · simp only [Option.bind_some, if_true]
      cases evI E (call E) s h op <;> rfl
theorem stepK_some (d : Option Nat) (l : List IO_) (s : Slots) (v : AV) (h : Heap) : stepK E d l s (some (v, h)) = evOps E (call E) l ⟨put s d v, h⟩ := (rfl)
theorem stepK_none (d : Option Nat) (l : List IO_) (s : Slots) : stepK E d l s none = none := (rfl)
theorem stepK_ite (d : Option Nat) (l : List IO_) (s : Slots) (c : Prop) [Decidable c] (a b : Option (AV × Heap)) : stepK E d l s (if c then a else b) = if c then stepK E d l s a else stepK E d l s b := by split <;> rfl
theorem guardK_true (d : Option Nat) (op : I) (l : List IO_) (s : Slots) (h : Heap) : guardK E d op l s h (some true) = stepK E d l s (evI E (call E) s h op) := (rfl)
theorem guardK_false (d : Option Nat) (op : I) (l : List IO_) (s : Slots) (h : Heap) : guardK E d op l s h (some false) = evOps E (call E) l ⟨put s d (.tup []), h⟩ := (rfl)
theorem guardK_if (d : Option Nat) (op : I) (l : List IO_) (s : Slots) (h : Heap) (b : Bool) : guardK E d op l s h (some b) = if b = true then stepK E d l s (evI E (call E) s h op) else evOps E (call E) l ⟨put s d (.tup []), h⟩ := by cases b <;> rfl
theorem opsK_some (x : St) : opsK (some x) = some (.norm, x) := (rfl)
theorem opsK_none : opsK none = none := (rfl)
theorem opsK_ite (c : Prop) [Decidable c] (a b : Option St) : opsK (if c then a else b) = if c then opsK a else opsK b := by split <;> rfl
theorem ev_opsK (l : List IO_) (x : St) : ev E (.ops l) x = opsK (evOps E (call E) l x) := ev_ops l x
theorem ev_condK (c : X) (a b : C) (x : St) : ev E (.cond c a b) x = condK E a b x (c.ev x.s) := by rw [ev_cond]; rfl
theorem condK_bool (a b : C) (x : St) (v : Bool) : condK E a b x (.bool v) = if v = true then ev E a x else ev E b x := by cases v <;> rfl
theorem andThen_norm (x : St) (k : St → Out) : andThen (some (.norm, x)) k = k x := (rfl)
theorem andThen_exit (id : Nat) (x : St) (k : St → Out) : andThen (some (.exit id, x)) k = some (.exit id, x) := (rfl)
theorem andThen_ret (x : St) (k : St → Out) : andThen (some (.ret, x)) k = some (.ret, x) := (rfl)
theorem andThen_none (k : St → Out) : andThen none k = none := (rfl)
theorem andThen_ite (c : Prop) [Decidable c] (a b : Out) (k : St → Out) : andThen (if c then a else b) k = if c then andThen a k else andThen b k := by split <;> rfl
theorem endBlock_norm (id : Nat) (live : Option (List Nat)) (x : St) : endBlock id live (some (.norm, x)) = some (.norm, restr live x) := (rfl)
theorem endBlock_exit (id : Nat) (live : Option (List Nat)) (i : Nat) (x : St) : endBlock id live (some (.exit i, x)) = if i = id then some (.norm, restr live x) else some (.exit i, x) := (rfl)
theorem endBlock_ret (id : Nat) (live : Option (List Nat)) (x : St) : endBlock id live (some (.ret, x)) = some (.ret, x) := (rfl)
theorem endBlock_none (id : Nat) (live : Option (List Nat)) : endBlock id live none = none := (rfl)
theorem endBlock_ite (id : Nat) (live : Option (List Nat)) (c : Prop) [Decidable c] (a b : Out) : endBlock id live (if c then a else b) = if c then endBlock id live a else endBlock id live b := by split <;> rfl
theorem restr_some (l : List Nat) (s : Slots) (h : Heap) : restr (some l) ⟨s, h⟩ = ⟨l.map fun t => (t, get s t), h⟩ := (rfl)
theorem restr_none (x : St) : restr none x = x := (rfl)
theorem outOf_norm (fn : Fn_) (s : Slots) (h : Heap) : outOf fn (some (.norm, ⟨s, h⟩)) = (resOf s h fn.results).map (·, h) := (rfl)
theorem outOf_ret (fn : Fn_) (s : Slots) (h : Heap) : outOf fn (some (.ret, ⟨s, h⟩)) = (resOf s h fn.results).map (·, h) := (rfl)
theorem outOf_none (fn : Fn_) : outOf fn none = none := (rfl)
theorem outOf_ite (fn : Fn_) (c : Prop) [Decidable c] (a b : Out) : outOf fn (if c then a else b) = if c then outOf fn a else outOf fn b := by split <;> rfl
theorem get_nil (t : Nat) : get [] t = .undef := (rfl)
theorem get_cons (d : Nat) (v : AV) (s : Slots) (t : Nat) : get ((d, v) :: s) t = if t = d then v else get s t := (rfl)
theorem put_some (s : Slots) (d : Nat) (v : AV) : put s (some d) v = (d, v) :: s := (rfl)
theorem put_none (s : Slots) (v : AV) : put s none v = s := (rfl)
theorem ev_t (s : Slots) (n : Nat) : X.ev s (.t n) = get s n := (rfl)
theorem ev_c (s : Slots) (v : AV) : X.ev s (.c v) = v := (rfl)
theorem guardOk_bool (s : Slots) (t : Nat) (w b : Bool) (h : get s t = .bool b) : guardOk s (some (t, w)) = some (b == w) := by simp [guardOk, h]

/-- What an operation hands on, apart from memory. -/
def valK (h : Heap) (r : Option AV) : Option (AV × Heap) := r.map fun v => (v, h)
theorem valK_some (h : Heap) (v : AV) : valK h (some v) = some (v, h) := (rfl)
theorem valK_none (h : Heap) : valK h none = none := (rfl)
theorem valK_ite (h : Heap) (c : Prop) [Decidable c] (a b : Option AV) : valK h (if c then a else b) = if c then valK h a else valK h b := by split <;> rfl

theorem evI_mov (c : CallFn) (s : Slots) (h : Heap) (x : X) : evI E c s h (.mov x) = some (x.ev s, h) := (rfl)
theorem evI_nilrow (c : CallFn) (s : Slots) (h : Heap) (sz : Nat) (t : TypeId) : evI E c s h (.nilrow sz t) = some (.sl sz h.length 0 0 0, h ++ [.row 0 sz [] t]) := (rfl)
def pickK (h : Heap) (a b : AV) : AV → Option (AV × Heap)
  | .bool v => some (if v then a else b, h)
  | _ => none
theorem evI_pick (k : CallFn) (s : Slots) (h : Heap) (c a b : X) : evI E k s h (.pick c a b) = pickK h (a.ev s) (b.ev s) (c.ev s) := by simp only [evI]; cases c.ev s <;> rfl
theorem pickK_true (h : Heap) (a b : AV) : pickK h a b (.bool true) = some (a, h) := (rfl)
theorem pickK_false (h : Heap) (a b : AV) : pickK h a b (.bool false) = some (b, h) := (rfl)
theorem pickK_or (h : Heap) (v b : Bool) : pickK h (.bool true) (.bool b) (.bool v) = some (.bool (v || b), h) := by cases v <;> rfl
theorem pickK_and (h : Heap) (v b : Bool) : pickK h (.bool b) (.bool false) (.bool v) = some (.bool (v && b), h) := by cases v <;> rfl
theorem pickK_or' (h : Heap) (v : Bool) (x : AV) : pickK h (.bool true) x (.bool v) = if v = true then some (.bool true, h) else some (x, h) := by cases v <;> rfl
theorem pickK_and' (h : Heap) (v : Bool) (x : AV) : pickK h x (.bool false) (.bool v) = if v = true then some (x, h) else some (.bool false, h) := by cases v <;> rfl
theorem evI_bin (c : CallFn) (s : Slots) (h : Heap) (op : BinOp) (x y : X) : evI E c s h (.bin op x y) = valK h (binop op (x.ev s) (y.ev s)) := (rfl)
theorem evI_eqS (c : CallFn) (s : Slots) (h : Heap) (neg : Bool) (ks : List Nat) (x y : X) : evI E c s h (.eqS neg ks x y) = valK h ((eqAgg ks (x.ev s) (y.ev s)).map fun b => .bool (if neg then !b else b)) := by
  simp only [evI, valK]
  cases eqAgg ks (x.ev s) (y.ev s) <;> rfl
theorem evI_binB (c : CallFn) (s : Slots) (h : Heap) (op : BinOp) (x y : X) : evI E c s h (.binB op x y) = valK h (binopB op (x.ev s) (y.ev s)) := (rfl)
theorem evI_un (c : CallFn) (s : Slots) (h : Heap) (op : UnOp) (x : X) : evI E c s h (.un op x) = valK h (unop op (x.ev s)) := (rfl)
def convK (h : Heap) (k : IntKind) : AV → Option (AV × Heap)
  | .int _ n => some (wrapI k n, h)
  | _ => none
theorem evI_conv (c : CallFn) (s : Slots) (h : Heap) (k : IntKind) (x : X) : evI E c s h (.conv k x) = convK h k (x.ev s) := by simp only [evI]; cases x.ev s <;> rfl
theorem convK_int (h : Heap) (k j : IntKind) (n : Int) : convK h k (.int j n) = some (wrapI k n, h) := (rfl)
theorem evI_alloc (c : CallFn) (s : Slots) (h : Heap) (ag : Bool) (zero : List AV) (t : TypeId) : evI E c s h (.alloc ag zero t) = some (.ref h.length 0 0, h ++ [.cells ag zero t]) := (rfl)
theorem evI_box (c : CallFn) (s : Slots) (h : Heap) (ag : Bool) (t : TypeId) (x : X) : evI E c s h (.box ag t x) = if (cellsOf (x.ev s)).all storable = true then some (.ref h.length 0 0, h ++ [.cells ag (cellsOf (x.ev s)) t]) else none := (rfl)
theorem evI_boxR (c : CallFn) (s : Slots) (h : Heap) (ag : Bool) (sz : Nat) (t : TypeId) (x : X) : evI E c s h (.boxR ag sz t x) = if (shapeOk ag sz (x.ev s) && !hasOwn (x.ev s)) = true then some (.rp false (x.ev s), h) else none := (rfl)
theorem evI_build (c : CallFn) (s : Slots) (h : Heap) (zero : List AV) (ps : List (Nat × Nat × X)) : evI E c s h (.build zero ps) = valK h ((fillA zero (ps.map fun p => (p.1, p.2.1, p.2.2.ev s))).map .agg) := by simp only [evI, valK, Option.map_map]; rfl
theorem evI_buildSl (c : CallFn) (s : Slots) (h : Heap) (sz : Nat) (t : TypeId) (els : List X) : evI E c s h (.buildSl sz t els) = if ((els.map (X.ev s)).all fun v => (cellsOf v).length == sz && (cellsOf v).all storable) = true then
      some (.sl sz h.length 0 0 (els.map (X.ev s)).length, h ++ [.row 0 sz ((els.map (X.ev s)).flatMap cellsOf) t]) else none := (rfl)
theorem evI_buildR (c : CallFn) (s : Slots) (h : Heap) (sz : Nat) (t : TypeId) (els : List X) : evI E c s h (.buildR sz t els) = if ((els.map (X.ev s)).all (shapeOk (sz != 1) sz) && !hasOwn.hasOwnL (els.map (X.ev s))) = true then some (.rs false sz (els.map (X.ev s)), h) else none := (rfl)
def mkSlK (h : Heap) (sz by_ : Nat) (t : TypeId) (zero : List AV) : AV → Option (AV × Heap)
  | .int _ n => if 0 ≤ n ∧ n * by_ ≤ 140737488355328 ∧ n ≤ 140737488355328 then some (.sl sz h.length 0 0 n.toNat, h ++ [.row 0 sz ((List.replicate n.toNat zero).flatten) t]) else none
  | _ => none
theorem evI_mkSl (c : CallFn) (s : Slots) (h : Heap) (sz by_ : Nat) (t : TypeId) (zero : List AV) (x : X) : evI E c s h (.mkSl sz by_ t zero x) = mkSlK h sz by_ t zero (x.ev s) := by simp only [evI]; cases x.ev s <;> rfl
theorem mkSlK_int (h : Heap) (sz by_ : Nat) (t : TypeId) (zero : List AV) (k : IntKind) (n : Int) (h0 : 0 ≤ n) (h1 : n * by_ ≤ 140737488355328) (h2 : n ≤ 140737488355328) : mkSlK h sz by_ t zero (.int k n) = some (.sl sz h.length 0 0 n.toNat, h ++ [.row 0 sz ((List.replicate n.toNat zero).flatten) t]) := by simp [mkSlK, h0, h1, h2]
def loadK (h : Heap) (ag : Bool) (sz : Nat) : AV → Option (AV × Heap)
  | .rp _ x => if shapeOk ag sz x = true then some (x, h) else none
  | .ref l ver o => valK h ((objCells h l ver).bind fun vs => partA ag o sz vs)
  | _ => none
theorem evI_load (c : CallFn) (s : Slots) (h : Heap) (ag : Bool) (sz : Nat) (a : X) : evI E c s h (.load ag sz a) = loadK h ag sz (a.ev s) := by
  simp only [evI]
  cases a.ev s <;> try rfl
  rename_i l ver o
  simp only [loadK, valK]
  cases objCells h l ver <;> rfl
theorem loadK_rp (h : Heap) (ag : Bool) (sz : Nat) (g : Bool) (x : AV) : loadK h ag sz (.rp g x) = if shapeOk ag sz x = true then some (x, h) else none := (rfl)
theorem loadK_ref (h : Heap) (ag : Bool) (sz l ver o : Nat) : loadK h ag sz (.ref l ver o) = valK h ((objCells h l ver).bind fun vs => partA ag o sz vs) := (rfl)
def storeK (h : Heap) (sz : Nat) (v : AV) : AV → Option (AV × Heap)
  | .ref l ver o => (storeAt h l ver o sz v).map fun h' => (.undef, h')
  | _ => none
theorem evI_store (c : CallFn) (s : Slots) (h : Heap) (sz : Nat) (a v : X) : evI E c s h (.store sz a v) = storeK h sz (v.ev s) (a.ev s) := by simp only [evI]; cases a.ev s <;> rfl
theorem storeK_ref (h : Heap) (sz : Nat) (v : AV) (l ver o : Nat) : storeK h sz v (.ref l ver o) = (storeAt h l ver o sz v).map fun h' => (.undef, h') := (rfl)

def sliceK (h : Heap) (sz : Nat) (x : AV) (n : Option Nat) (lo hi : Option AV) : Option (AV × Heap) := n.bind fun n => (bound lo 0).bind fun a => (bound hi n).bind fun b =>
    if 0 ≤ a ∧ a ≤ b ∧ b ≤ n then
      match x with
      | .nils => some (.nils, h)
      | .rs g z l => if z = sz then some (.rs g z ((l.drop a.toNat).take (b.toNat - a.toNat)), h) else none
      | .sl z l ver o _ => if z = sz ∧ (objCells h l ver).isSome = true then some (.sl z l ver (o + a.toNat * sz) (b.toNat - a.toNat), h) else none
      | _ => none
    else none
theorem evI_slice (c : CallFn) (s : Slots) (h : Heap) (sz : Nat) (x : X) (lo hi : Option X) : evI E c s h (.slice sz x lo hi) = sliceK h sz (x.ev s) (lenIn (x.ev s)) (lo.map (X.ev s)) (hi.map (X.ev s)) := (rfl)
theorem sliceK_rs (h : Heap) (sz : Nat) (g : Bool) (l : List AV) (n : Nat) (lo hi : Option AV) (a b : Int) (h1 : bound lo 0 = some a) (h2 : bound hi n = some b) (h3 : 0 ≤ a) (h4 : a ≤ b) (h5 : b ≤ n) :
    sliceK h sz (.rs g sz l) (some n) lo hi = some (.rs g sz ((l.drop a.toNat).take (b.toNat - a.toNat)), h) := by simp [sliceK, h1, h2, h3, h4, h5]
theorem bound_none (n : Nat) : bound none n = some (n : Int) := (rfl)
theorem bound_int (k : IntKind) (i : Int) (n : Nat) : bound (some (.int k i)) n = some i := (rfl)
theorem lenIn_rs (g : Bool) (sz : Nat) (l : List AV) : lenIn (.rs g sz l) = some l.length := (rfl)
theorem lenIn_sl (sz l v o n : Nat) : lenIn (.sl sz l v o n) = some n := (rfl)
theorem lenIn_nils : lenIn .nils = some 0 := (rfl)
theorem evI_ext (c : CallFn) (s : Slots) (h : Heap) (x : X) (i : Nat) : evI E c s h (.ext x i) = (match x.ev s with | .tup vs => if i < vs.length then some (vs.getD i .undef, h) else none | _ => none) := (rfl)
theorem evI_mkIf (c : CallFn) (s : Slots) (h : Heap) (t : TypeId) (x : X) : evI E c s h (.mkIf t x) = some (.iface t (x.ev s), h) := (rfl)
theorem evI_mkFn (c : CallFn) (s : Slots) (h : Heap) (f : FuncId) (caps : List X) : evI E c s h (.mkFn f caps) = some (.fn f (caps.map (X.ev s)), h) := (rfl)
theorem evI_len (c : CallFn) (s : Slots) (h : Heap) (x : X) : evI E c s h (.len x) = if curOk h (x.ev s) = true then (lenIn (x.ev s)).map (fun (n : Nat) => (AV.int .i64 (n : Int), h)) else none := (rfl)
theorem evI_lenA (c : CallFn) (s : Slots) (h : Heap) (n : Nat) : evI E c s h (.lenA n) = some (.int .i64 n, h) := (rfl)
def iaddrK (h : Heap) (sz : Nat) : AV → AV → Option (AV × Heap)
  | .rs g z l, .int _ i => if z = sz ∧ 0 ≤ i ∧ i < l.length then some (.rp g (l.getD i.toNat .undef), h) else none
  | .sl z l ver o n, .int _ i => if z = sz ∧ 0 ≤ i ∧ i < n ∧ (objCells h l ver).isSome = true then some (.ref l ver (o + i.toNat * sz), h) else none
  | _, _ => none
theorem evI_iaddr (c : CallFn) (s : Slots) (h : Heap) (sz : Nat) (x i : X) : evI E c s h (.iaddr sz x i) = iaddrK h sz (x.ev s) (i.ev s) := by
  simp only [evI]
  cases i.ev s <;> cases x.ev s <;> rfl
theorem iaddrK_rs (h : Heap) (sz : Nat) (g : Bool) (l : List AV) (k : IntKind) (i : Int) (h0 : 0 ≤ i) (h1 : i < l.length) : iaddrK h sz (.rs g sz l) (.int k i) = some (.rp g (l.getD i.toNat .undef), h) := by simp [iaddrK, h0, h1]
theorem iaddrK_sl (h : Heap) (sz l ver o n : Nat) (k : IntKind) (i : Int) (h0 : 0 ≤ i) (h1 : i < n) (h2 : (objCells h l ver).isSome = true) : iaddrK h sz (.sl sz l ver o n) (.int k i) = some (.ref l ver (o + i.toNat * sz), h) := by simp [iaddrK, h0, h1, h2]
theorem evI_callF (s : Slots) (h : Heap) (ro : Bool) (f : FuncId) (args : List X) : evI E (call E) s h (.callF ro f args) = callK E ro h f (hasOwn.hasOwnL (args.map (X.ev s))) (snapL true h (args.map (X.ev s))) := by
  simp only [evI, doCall, callK, retK, pcall]
theorem callK_some (ro : Bool) (h : Heap) (f : FuncId) (own : Bool) (vs : List AV) : callK E ro h f own (some vs) = retK ro h own (pcall E f vs) := (rfl)
theorem retK_some (ro : Bool) (h : Heap) (own : Bool) (r : AV) (objs : Heap) : retK ro h own (some (r, objs)) = if (own && !(noG r && objs.all objNoG)) = true then none
  else if ro = true then (snap false objs depth r).map fun v => (v, h)
  else if okRes r = true then some (shift h.length r, h ++ objs) else none := (rfl)
theorem snapL_nil (g : Bool) (h : Heap) : snapL g h [] = some [] := (rfl)
def consK (y : Option AV) (ys : Option (List AV)) : Option (List AV) := y.bind fun y => ys.map fun ys => y :: ys
theorem snapL_cons (g : Bool) (h : Heap) (x : AV) (l : List AV) : snapL g h (x :: l) = consK (snap g h depth x) (snapL g h l) := by
  unfold snapL consK
  rw [List.mapM_cons]
  cases snap g h depth x with
  | none => rfl
  | some y => cases l.mapM (snap g h depth) <;> rfl
theorem consK_some (y : AV) (ys : List AV) : consK (some y) (some ys) = some (y :: ys) := (rfl)
theorem snap_int (g : Bool) (h : Heap) (k : IntKind) (n : Int) : snap g h depth (.int k n) = some (.int k n) := (rfl)
theorem snap_bool (g : Bool) (h : Heap) (b : Bool) : snap g h depth (.bool b) = some (.bool b) := (rfl)
theorem snap_str (g : Bool) (h : Heap) (b : ByteArray) : snap g h depth (.str b) = some (.str b) := (rfl)
theorem snap_nils (g : Bool) (h : Heap) : snap g h depth .nils = some .nils := (rfl)
theorem snap_rs (g : Bool) (h : Heap) (g' : Bool) (sz : Nat) (l : List AV) : snap g h depth (.rs g' sz l) = some (.rs g' sz l) := (rfl)
theorem snap_rp (g : Bool) (h : Heap) (g' : Bool) (x : AV) : snap g h depth (.rp g' x) = some (.rp g' x) := (rfl)
theorem snap_nili (g : Bool) (h : Heap) : snap g h depth .nili = some .nili := (rfl)
theorem finish_eq (r : AV) (h : Heap) : finish false (r, h) = (snap false h depth r).map fun r => (r, []) := by simp [finish]


/-! ### an operation under a condition that is not known -/

def upd : Slots → Nat → AV → Slots
  | [], _, _ => []
  | (d, x) :: s, t, v => if t = d then (d, v) :: s else (d, x) :: upd s t v
theorem upd_cons (d : Nat) (x : AV) (s : Slots) (t : Nat) (v : AV) : upd ((d, x) :: s) t v = if t = d then (d, v) :: s else (d, x) :: upd s t v := (rfl)
theorem upd_self : ∀ (s : Slots) (t : Nat), upd s t (get s t) = s
  | [], _ => rfl
  | (d, x) :: s, t => by
    rw [upd_cons, get_cons]
    split
    · rfl
    · rw [upd_self s t]

noncomputable def gK (E : Env) (t : Nat) (w : Bool) (d : Option Nat) (op : I) (l : List IO_) (s : Slots) (h : Heap) (v : AV) : Option St :=
  match v with
  | .bool b => if b = w then stepK E d l s (evI E (call E) s h op) else evOps E (call E) l ⟨put s d (.tup []), h⟩
  | .tup [] => evOps E (call E) l ⟨put s d (.tup []), h⟩
  | _ => none
theorem evOps_gK (d : Option Nat) (t : Nat) (w : Bool) (op : I) (l : List IO_) (s : Slots) (h : Heap) : evOps E (call E) (⟨d, some (t, w), op⟩ :: l) ⟨s, h⟩ = gK E t w d op l s h (get s t) := by
  rw [evOps_guard]
  unfold gK
  simp only [guardOk]
  cases get s t <;> try rfl
  · rename_i b
    cases b <;> cases w <;> rfl
  · rename_i vs
    cases vs <;> rfl
theorem gK_tup (t : Nat) (w : Bool) (d : Option Nat) (op : I) (l : List IO_) (s : Slots) (h : Heap) : gK E t w d op l s h (.tup []) = evOps E (call E) l ⟨put s d (.tup []), h⟩ := (rfl)
theorem gK_true (t : Nat) (d : Option Nat) (op : I) (l : List IO_) (s : Slots) (h : Heap) (b : Bool) (hg : get s t = .bool b) :
    gK E t true d op l s h (.bool b) = if b = true then stepK E d l (upd s t (.bool true)) (evI E (call E) (upd s t (.bool true)) h op) else evOps E (call E) l ⟨put (upd s t (.bool false)) d (.tup []), h⟩ := by
  have h1 := upd_self s t
  rw [hg] at h1
  cases b <;> simp [gK, h1]
theorem gK_false (t : Nat) (d : Option Nat) (op : I) (l : List IO_) (s : Slots) (h : Heap) (b : Bool) (hg : get s t = .bool b) :
    gK E t false d op l s h (.bool b) = if b = true then evOps E (call E) l ⟨put (upd s t (.bool true)) d (.tup []), h⟩ else stepK E d l (upd s t (.bool false)) (evI E (call E) (upd s t (.bool false)) h op) := by
  have h1 := upd_self s t
  rw [hg] at h1
  cases b <;> simp [gK, h1]
theorem bindO_ite {α γ : Type} (c : Prop) [Decidable c] (a b : Option α) (f : α → Option γ) : (if c then a else b).bind f = if c then a.bind f else b.bind f := by split <;> rfl
theorem mapO_ite {α γ : Type} (c : Prop) [Decidable c] (a b : Option α) (f : α → γ) : (if c then a else b).map f = if c then a.map f else b.map f := by split <;> rfl
theorem retK_ite (ro : Bool) (h : Heap) (own : Bool) (c : Prop) [Decidable c] (a b : Option (AV × Heap)) : retK ro h own (if c then a else b) = if c then retK ro h own a else retK ro h own b := by split <;> rfl
theorem ite_bool (c : Prop) [Decidable c] (a b : AV) (x y : Heap) : (if c then some (a, x) else some (b, y)) = some (if c then (a, x) else (b, y)) := by split <;> rfl
def faddrK (h : Heap) (ag : Bool) (off sz : Nat) : AV → Option (AV × Heap)
  | .ref l ver o => some (.ref l ver (o + off), h)
  | .rp g (.agg cs) => (partA ag off sz cs).map fun v => (.rp g v, h)
  | _ => none
theorem evI_faddr (c : CallFn) (s : Slots) (h : Heap) (ag : Bool) (off sz : Nat) (x : X) : evI E c s h (.faddr ag off sz x) = faddrK h ag off sz (x.ev s) := by
  simp only [evI]
  cases x.ev s <;> try rfl
theorem faddrK_ref (h : Heap) (ag : Bool) (off sz l ver o : Nat) : faddrK h ag off sz (.ref l ver o) = some (.ref l ver (o + off), h) := (rfl)
theorem faddrK_rp (h : Heap) (ag : Bool) (off sz : Nat) (g : Bool) (cs : List AV) : faddrK h ag off sz (.rp g (.agg cs)) = (partA ag off sz cs).map fun v => (.rp g v, h) := (rfl)
def fieldK (h : Heap) (ag : Bool) (off sz : Nat) : AV → Option (AV × Heap)
  | .agg cs => valK h (partA ag off sz cs)
  | _ => none
theorem evI_field (c : CallFn) (s : Slots) (h : Heap) (ag : Bool) (off sz : Nat) (x : X) : evI E c s h (.field ag off sz x) = fieldK h ag off sz (x.ev s) := by
  simp only [evI]
  cases x.ev s <;> try rfl
theorem fieldK_agg (h : Heap) (ag : Bool) (off sz : Nat) (cs : List AV) : fieldK h ag off sz (.agg cs) = valK h (partA ag off sz cs) := (rfl)
theorem snap_agg_nil (g : Bool) (h : Heap) : (snap g h depth (.agg [])) = some (.agg []) := (rfl)
theorem snap_plain (g : Bool) (h : Heap) (d : Nat) {x : AV} (hx : plainB x = true) : snap g h (d + 1) x = some x := by cases x <;> first | rfl | cases hx
theorem snap_agg (g : Bool) (h : Heap) (cs : List AV) (hc : cs.all plainB = true) : snap g h depth (.agg cs) = some (.agg cs) := by
  have h1 : ∀ (d : Nat) (l : List AV), l.all plainB = true → l.mapM (snap g h (d + 1)) = some l := by
    intro d l
    induction l with
    | nil => intro _; rfl
    | cons x l ih =>
      intro hl
      simp only [List.all_cons, Bool.and_eq_true] at hl
      rw [List.mapM_cons, snap_plain g h d hl.1, ih hl.2]
      rfl
  show Option.map AV.agg (cs.mapM (snap g h 8)) = _
  rw [h1 _ cs hc]
  rfl
theorem snap_tup (g : Bool) (h : Heap) (cs : List AV) (hc : cs.all plainB = true) : snap g h depth (.tup cs) = some (.tup cs) := by
  have h1 : ∀ (d : Nat) (l : List AV), l.all plainB = true → l.mapM (snap g h (d + 1)) = some l := by
    intro d l
    induction l with
    | nil => intro _; rfl
    | cons x l ih =>
      intro hl
      simp only [List.all_cons, Bool.and_eq_true] at hl
      rw [List.mapM_cons, snap_plain g h d hl.1, ih hl.2]
      rfl
  show Option.map AV.tup (cs.mapM (snap g h 8)) = _
  rw [h1 _ cs hc]
  rfl

theorem evI_eqNil (c : CallFn) (s : Slots) (h : Heap) (neg : Bool) (x : X) : evI E c s h (.eqNil neg x) = valK h ((isNilV (x.ev s)).map fun b => .bool (if neg then !b else b)) := by
  simp only [evI, valK]
  cases isNilV (x.ev s) <;> rfl
theorem evI_fail (c : CallFn) (s : Slots) (h : Heap) : evI E c s h .fail = none := (rfl)


/-! ### rows that grow -/

def appK (h : Heap) (sz by_ : Nat) (t : TypeId) (ys : List AV) (m : Nat) (x : AV) : Option (AV × Heap) :=
  match x with
  | .nils => if m * by_ ≤ 140737488355328 ∧ m ≤ 140737488355328 ∧ ys.all storable then some (.sl sz h.length 0 0 m, h ++ [.row 0 sz ys t]) else none
  | .sl z l ver 0 n =>
    match h[l]? with
    | some (.row v z' vs t') =>
      if v = ver ∧ z = sz ∧ z' = sz ∧ t' = t ∧ vs.length = n * sz ∧ (n + m) * by_ ≤ 140737488355328 ∧ n + m ≤ 140737488355328 ∧ ys.all storable then
        some (.sl sz l (ver + 1) 0 (n + m), h.set l (.row (ver + 1) sz (vs ++ ys) t))
      else none
    | _ => none
  | _ => none
def app2K (h : Heap) (sz by_ : Nat) (t : TypeId) (ys : Option (List AV)) (m : Option Nat) (x : AV) : Option (AV × Heap) := ys.bind fun ys => m.bind fun m => appK h sz by_ t ys m x
theorem evI_append (c : CallFn) (s : Slots) (h : Heap) (sz by_ : Nat) (t : TypeId) (x y : X) : evI E c s h (.append sz by_ t x y) = app2K h sz by_ t (cellsIn h sz (y.ev s)) (lenIn (y.ev s)) (x.ev s) := (rfl)
theorem app2K_some (h : Heap) (sz by_ : Nat) (t : TypeId) (ys : List AV) (m : Nat) (x : AV) : app2K h sz by_ t (some ys) (some m) x = appK h sz by_ t ys m x := (rfl)
theorem appK_nils (h : Heap) (sz by_ : Nat) (t : TypeId) (ys : List AV) (m : Nat) (h1 : m * by_ ≤ 140737488355328) (h2 : m ≤ 140737488355328) (h3 : ys.all storable = true) : appK h sz by_ t ys m .nils = some (.sl sz h.length 0 0 m, h ++ [.row 0 sz ys t]) := by
  simp [appK, h1, h2, h3]
theorem appK_sl (h : Heap) (sz by_ : Nat) (t : TypeId) (ys : List AV) (m : Nat) (l ver n : Nat) (vs : List AV) (hl : h[l]? = some (.row ver sz vs t)) (hn : vs.length = n * sz) (h1 : (n + m) * by_ ≤ 140737488355328) (h2 : n + m ≤ 140737488355328) (h3 : ys.all storable = true) :
    appK h sz by_ t ys m (.sl sz l ver 0 n) = some (.sl sz l (ver + 1) 0 (n + m), h.set l (.row (ver + 1) sz (vs ++ ys) t)) := by
  simp [appK, hl, hn, h1, h2, h3]
theorem snapL_plain (g : Bool) (h : Heap) : ∀ (l : List AV), l.all plainB = true → snapL g h l = some l
  | [], _ => rfl
  | x :: l, hl => by
    simp only [List.all_cons, Bool.and_eq_true] at hl
    rw [snapL_cons, snapL_plain g h l hl.2]
    show consK (snap g h (8 + 1) x) _ = _
    rw [snap_plain g h 8 hl.1]
    rfl
theorem finish_keep (sz l ver n : Nat) (h : Heap) (vs : List AV) (t : TypeId) (hl : h[l]? = some (.row ver sz vs t)) (hn : vs.length = n * sz) (hp : vs.all plainB = true) : finish true (.sl sz l ver 0 n, h) = some (.sl sz 0 0 0 n, [.row 0 sz vs t]) := by
  simp only [finish, if_true, hl, hn, and_self, snapL_plain false _ vs hp, Option.map_some]

theorem group_one : ∀ (n : Nat) (cs : List AV), n ≤ cs.length → group false 1 n cs = cs.take n
  | 0, cs, _ => by simp [group]
  | n + 1, [], h => by simp at h
  | n + 1, c :: cs, h => by
    simp only [group, Bool.false_eq_true, if_false, List.headD_cons, List.drop_succ_cons, List.drop_zero, List.take_succ_cons]
    rw [group_one n cs (by simpa using h)]
theorem mapM_plain (g : Bool) (h : Heap) (d : Nat) : ∀ (l : List AV), l.all plainB = true → l.mapM (snap g h (d + 1)) = some l
  | [], _ => rfl
  | x :: l, hl => by
    simp only [List.all_cons, Bool.and_eq_true] at hl
    rw [List.mapM_cons, snap_plain g h d hl.1, mapM_plain g h d l hl.2]
    rfl
theorem snap_sl_eq (g : Bool) (h : Heap) (d sz l ver o n : Nat) : snap g h (d + 1) (.sl sz l ver o n) = (match h[l]? with
      | some (.row _ _ _ _) | some (.cells _ _ _) =>
        (objCells h l ver).bind fun vs =>
          if 0 < sz ∧ o + n * sz ≤ vs.length then
            (((vs.drop o).take (n * sz)).mapM (snap g h d)).map fun ws => .rs g sz (group (sz != 1) sz n ws)
          else none
      | _ => none) := (rfl)
/-- A row of one-cell values of the run's own, told by its content. -/
theorem snap_slD (g : Bool) (h : Heap) (d l ver o n : Nat) (vs : List AV) (t : TypeId) (hl : h[l]? = some (.row ver 1 vs t)) (ho : o + n ≤ vs.length) (hp : ((vs.drop o).take n).all plainB = true) : snap g h (d + 2) (.sl 1 l ver o n) = some (.rs g 1 ((vs.drop o).take n)) := by
  have hc : objCells h l ver = some vs := by simp [objCells, hl]
  have hlen : ((vs.drop o).take n).length = n := by rw [List.length_take, List.length_drop]; omega
  rw [snap_sl_eq, hl]
  simp only [hc, Option.bind_some, Nat.mul_one, ho, and_true, Nat.zero_lt_one, if_true]
  rw [mapM_plain g h d _ hp]
  simp only [Option.map_some, Option.some.injEq, AV.rs.injEq, true_and]
  show group false 1 n _ = _
  rw [group_one n _ (by omega), List.take_of_length_le (by omega)]
theorem snap_sl (g : Bool) (h : Heap) (l ver o n : Nat) (vs : List AV) (t : TypeId) (hl : h[l]? = some (.row ver 1 vs t)) (ho : o + n ≤ vs.length) (hp : ((vs.drop o).take n).all plainB = true) : snap g h depth (.sl 1 l ver o n) = some (.rs g 1 ((vs.drop o).take n)) := snap_slD g h 7 l ver o n vs t hl ho hp
theorem snap_tup_eq (g : Bool) (h : Heap) (d : Nat) (vs : List AV) : snap g h (d + 1) (.tup vs) = Option.map AV.tup (vs.mapM (snap g h d)) := (rfl)
/-- A row, and a plain value beside it. -/
theorem snap_tup_sl (g : Bool) (h : Heap) (l ver o n : Nat) (vs : List AV) (t : TypeId) (y : AV) (hy : plainB y = true) (hl : h[l]? = some (.row ver 1 vs t)) (ho : o + n ≤ vs.length) (hp : ((vs.drop o).take n).all plainB = true) :
    snap g h depth (.tup [.sl 1 l ver o n, y]) = some (.tup [.rs g 1 ((vs.drop o).take n), y]) := by
  rw [show depth = 8 + 1 from rfl, snap_tup_eq, List.mapM_cons, List.mapM_cons, List.mapM_nil, show (8 : Nat) = 6 + 2 from rfl, snap_slD g h 6 l ver o n vs t hl ho hp, show (6 + 2 : Nat) = 7 + 1 from rfl, snap_plain g h 7 hy]
  rfl

theorem sliceK_sl (h : Heap) (sz l ver o n : Nat) (lo hi : Option AV) (a b : Int) (h1 : bound lo 0 = some a) (h2 : bound hi n = some b) (h3 : 0 ≤ a) (h4 : a ≤ b) (h5 : b ≤ n) (hc : (objCells h l ver).isSome = true) :
    sliceK h sz (.sl sz l ver o n) (some n) lo hi = some (.sl sz l ver (o + a.toNat * sz) (b.toNat - a.toNat), h) := by simp [sliceK, h1, h2, h3, h4, h5, hc]
def copyK (h : Heap) (sz : Nat) (ys : Option (List AV)) (m : Option Nat) (x : AV) : Option (AV × Heap) := ys.bind fun ys => m.bind fun m =>
    match x with
    | .sl z l ver o n =>
      let k := min m n
      if z = sz ∧ ys.all storable = true ∧ hasCells h l ver (o + n * sz) = true then
        (storeAt h l ver o (k * sz) (.agg (ys.take (k * sz)))).map fun h' => (.int .i64 k, h')
      else none
    | _ => none
theorem evI_copy (c : CallFn) (s : Slots) (h : Heap) (sz : Nat) (x y : X) : evI E c s h (.copy sz x y) = copyK h sz (cellsIn h sz (y.ev s)) (lenIn (y.ev s)) (x.ev s) := (rfl)
/-- One-cell values laid over a part of a row. -/
theorem copyK_row (h : Heap) (l ver o n m : Nat) (vs ys : List AV) (t : TypeId) (hl : h[l]? = some (.row ver 1 vs t)) (ho : o + n ≤ vs.length) (hy : ys.all storable = true) (hm : ys.length = m) (hmn : m ≤ n) :
    copyK h 1 (some ys) (some m) (.sl 1 l ver o n) = some (.int .i64 m, h.set l (.row ver 1 (vs.take o ++ ys ++ vs.drop (o + m)) t)) := by
  have h1 : hasCells h l ver (o + n) = true := by simp [hasCells, objCells, hl, ho]
  have h2 : min m n = m := Nat.min_eq_left hmn
  have h3 : o + m ≤ vs.length := by omega
  simp only [copyK, Option.bind_some, Nat.mul_one, h1, h2, hy, and_self, if_true, storeAt, cellsOf, List.take_of_length_le (Nat.le_of_eq hm), hm, hl, h3, Option.map_some]

end Go.Fw
