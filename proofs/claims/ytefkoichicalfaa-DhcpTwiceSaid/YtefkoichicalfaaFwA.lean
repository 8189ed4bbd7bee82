/-
  An evaluator of a function's code over values without a memory of their own: the values, the code, the evaluation. Conditions: none (definitions).
-/
import Derived.Calls
import Derived.Orders
import Derived.Below
import Derived.Laws.AppendOwn
import Derived.Laws.OwnMore
import Derived.Laws.MakeOwn
import Derived.Laws.CopyRow
import Derived.Laws.CopyOwn
import Derived.Maps.Own
import Derived.Maps.OwnSet
set_option linter.unusedVariables false
set_option linter.unusedSimpArgs false
namespace Go.Fw

/-- What a map's keys and elements are made of; `PE`: an element, of one part or a struct of such. -/
inductive PV where
  | b (x : Bool)
  | i (k : IntKind) (n : Int)
  | s (x : List UInt8)
  deriving Inhabited, DecidableEq
structure PE where
  ag : Bool
  cs : List PV
  deriving Inhabited, DecidableEq
/-- The kind of a map's keys. -/
inductive Kk where
  | str
  | int (q : IntKind)
  deriving Inhabited, DecidableEq

/-- A value as the evaluation sees it. `rs`: a slice that is only read, with its elements; `rp`: a pointer to what is only read; `ref`, `sl`: into memory of the run's own. -/
inductive AV where
  | undef
  | bool (b : Bool)
  | int (k : IntKind) (n : Int)
  | str (s : ByteArray)
  | nils
  | rs (g : Bool) (sz : Nat) (l : List AV)
  | nilp
  | rp (g : Bool) (x : AV)
  | ref (l ver o : Nat)
  | sl (sz l ver o n : Nat)
  | nilf
  | fn (f : FuncId) (cap : List AV)
  | nili
  | iface (t : TypeId) (x : AV)
  | agg (cs : List AV)
  | tup (vs : List AV)
  | nilm
  | mp (l : Nat)
  | rm (g : Bool) (kk : Kk) (es : List (PV × PE))
  deriving Inhabited

/-- What the run owns: a variable in memory (all its cells), a row that may grow, or what is gone. -/
inductive AObj where
  | cells (ag : Bool) (vs : List AV) (t : TypeId)
  | row (ver sz : Nat) (vs : List AV) (t : TypeId)
  | gone
  | hole
  | map (kk : Kk) (es : List (PV × PE))
  deriving Inhabited

def isHole : AObj → Bool
  | .hole => true
  | _ => false
abbrev Slots := List (Nat × AV)
abbrev Heap := List AObj

def get : Slots → Nat → AV
  | [], _ => .undef
  | (d, v) :: s, t => if t = d then v else get s t

structure St where
  s : Slots
  h : Heap

inductive X where
  | t (n : Nat)
  | c (v : AV)
  deriving Inhabited

def X.ev (s : Slots) : X → AV
  | .t n => get s n
  | .c v => v

inductive I where
  | mov (x : X)
  | nilrow (sz : Nat) (t : TypeId)
  | pick (c a b : X)
  | bin (op : BinOp) (x y : X)
  | binB (op : BinOp) (x y : X)
  | eqS (neg : Bool) (ks : List Nat) (x y : X)
  | un (op : UnOp) (x : X)
  | conv (k : IntKind) (x : X)
  | alloc (ag : Bool) (zero : List AV) (t : TypeId)
  | box (ag : Bool) (t : TypeId) (x : X)
  | boxR (ag : Bool) (sz : Nat) (t : TypeId) (x : X)
  | build (zero : List AV) (parts : List (Nat × Nat × X))
  | buildSl (sz : Nat) (t : TypeId) (els : List X)
  | buildR (sz : Nat) (t : TypeId) (els : List X)
  | mkSl (sz by_ : Nat) (t : TypeId) (zero : List AV) (len : X)
  | load (ag : Bool) (sz : Nat) (a : X)
  | store (sz : Nat) (a v : X)
  | slice (sz : Nat) (x : X) (lo hi : Option X)
  | sliceA (n sz : Nat) (x : X) (lo hi : Option X)
  | sliceS (x : X) (lo hi : Option X)
  | faddr (ag : Bool) (off sz : Nat) (x : X)
  | field (ag : Bool) (off sz : Nat) (x : X)
  | iaddr (sz : Nat) (x i : X)
  | iaddrA (n sz : Nat) (ag : Bool) (x i : X)
  | index (n sz : Nat) (ag : Bool) (x i : X)
  | indexS (x i : X)
  | ext (x : X) (i : Nat)
  | mkIf (t : TypeId) (x : X)
  | mkFn (f : FuncId) (caps : List X)
  | callF (ro : Bool) (f : FuncId) (args : List X)
  | callV (ro : Bool) (x : X) (args : List X)
  | len (x : X)
  | lenS (x : X)
  | eqNil (neg : Bool) (x : X)
  | fail
  | lenA (n : Nat)
  | append (sz by_ : Nat) (t : TypeId) (x y : X)
  | copy (sz : Nat) (x y : X)
  | toStr (x : X)
  | mm (mx : Bool) (xs : List X)
  | capNil (x : X)
  | trunc (sz : Nat) (x hi : X)
  | loadR (ag : Bool) (sz : Nat) (a : X)
  | loadC (ag : Bool) (sz : Nat) (a : X)
  | iaddrR (sz : Nat) (x i : X)
  | sliceR (sz : Nat) (x : X) (lo hi : Option X)
  | eqNl (ifc neg : Bool) (x : X)
  | nilChk (x : X)
  | s2a (n sz : Nat) (x : X)
  | frz (x : X)
  | appMk (sz by_ : Nat) (t : TypeId) (zero : List AV) (x n : X)
  | callM (f : FuncId) (args : List X)
  | appF (sz by_ : Nat) (t : TypeId) (x y : X)
  | callP (f : FuncId) (args : List X)
  | buildE
  | loadS (k : Nat) (ag : Bool) (sz : Nat) (a : X)
  | storeS (k : Nat) (sz : Nat) (a v : X)
  | lenR (x : X)
  | sliceAR (n sz : Nat) (x : X) (lo hi : Option X)
  | appE (sz by_ : Nat) (x y : X)
  | mkMap (kk : Kk)
  | mapUpd (kk : Kk) (m k v : X)
  | look (ok : Bool) (kk : Kk) (zero : PE) (m k : X)
  | mdel (kk : Kk) (m k : X)
  | mlen (kk : Kk) (m : X)
  | eqNlm (neg : Bool) (m : X)
  | callQ (f : FuncId) (x : X)
  | callA (f : FuncId) (x : X)
  deriving Inhabited

structure IO_ where
  dst : Option Nat
  guard : Option (Nat × Bool)
  op : I
  deriving Inhabited

inductive C where
  | skip
  | ops (l : List IO_)
  | seq (a b : C)
  | cond (x : X) (a b : C)
  | block (id : Nat) (live : Option (List Nat)) (b : C)
  | loop (live : Option (List Nat)) (b : C)
  | exit (id : Nat)
  | ret
  | rangeF (g : X) (ps : List Nat) (assign body : C)
  | alt (l : List IO_) (pre : List Nat) (a c : Nat) (post : List Nat)

inductive Ex where
  | norm
  | exit (id : Nat)
  | ret

structure Fn_ where
  nparams : Nat
  ntmps : Nat
  results : List (Nat × Option (Bool × Nat))
  body : C

/-- What the evaluation knows of the program: the functions that are evaluated, those whose results are kept as memory of the caller's own, and those that are told by a law of their own. -/
structure Env where
  fns : FuncId → Option Fn_
  keep : FuncId → Bool
  prim : FuncId → Option (List AV → Option (AV × Heap))
  primM : FuncId → Option (List AV → Heap → Option (AV × Heap)) := fun _ => none
  seq : FuncId → Option (List AV → Heap → Option (List (List PE))) := fun _ => none
  rd : FuncId → Option (Bool × Nat × Nat) := fun _ => none
  mkr : FuncId → Option (List AObj → AV → Option (List AObj × Nat)) := fun _ => none

def PV.av : PV → AV
  | .b x => .bool x
  | .i k n => .int k n
  | .s x => .str ⟨x.toArray⟩
def PE.av (e : PE) : AV := if e.ag then .agg (e.cs.map PV.av) else match e.cs with
  | [x] => x.av
  | _ => .undef
def PE.wf (e : PE) : Bool := e.ag || e.cs.length == 1
def avP : AV → Option PV
  | .bool x => some (.b x)
  | .int k n => some (.i k n)
  | .str x => some (.s x.data.toList)
  | _ => none
def avE : AV → Option PE
  | .agg cs => (cs.mapM avP).map (PE.mk true)
  | v => (avP v).map fun x => ⟨false, [x]⟩
def PV.lit : PV → Lit
  | .b x => .bool x
  | .i k n => .int k n
  | .s x => .string x
/-- Is it a key of this kind? -/
def Kk.has : Kk → PV → Bool
  | .str, .s x => decide (x.length ≤ maxLen)
  | .int q, .i k n => decide (k = q) && (Lit.int q n).wf
  | _, _ => false
abbrev Ents := List (PV × PE)
def keq (a b : PV) : Bool := a.lit.sameKey b.lit
def mget (k : PV) (es : Ents) : Option PE := (es.find? fun p => keq p.1 k).map (·.2)
def mdelE (k : PV) (es : Ents) : Ents := es.filter fun p => !keq p.1 k
def minsE (x : PV × PE) : Ents → Ents
  | [] => [x]
  | y :: r => if x.1.lit.before y.1.lit then x :: y :: r else y :: minsE x r
def mputE (k : PV) (v : PE) (es : Ents) : Ents := minsE (k, v) (mdelE k es)
/-- A map's entries. -/
def entsOf (h : List AObj) (kk : Kk) : AV → Option Ents
  | .nilm => some []
  | .rm _ q es => if q = kk then some es else none
  | .mp l => match h[l]? with
    | some (.map q es) => if q = kk then some es else none
    | _ => none
  | _ => none
def nilMapV (h : List AObj) : AV → Option Bool
  | .nilm => some true
  | .rm _ _ _ => some false
  | .mp l => match h[l]? with
    | some (.map _ _) => some false
    | _ => none
  | _ => none
def cellsOf : AV → List AV
  | .agg cs => cs
  | v => [v]

def storable : AV → Bool
  | .undef | .agg _ | .tup _ => false
  | _ => true

/-- Has a value the form of a variable of so many cells? -/
def shapeOk (ag : Bool) (sz : Nat) : AV → Bool
  | .agg cs => ag && cs.length == sz && cs.all storable
  | .undef | .tup _ => false
  | _ => !ag && sz == 1

def ofCells (ag : Bool) (sz : Nat) (cs : List AV) : Option AV :=
  if cs.length = sz then
    if ag then some (.agg cs) else match cs with
      | [v] => some v
      | _ => none
  else none

/-- Elements out of cells. -/
def group (ag : Bool) (sz : Nat) : Nat → List AV → List AV
  | 0, _ => []
  | n + 1, cs => (if ag then AV.agg (cs.take sz) else cs.headD .undef) :: group ag sz n (cs.drop sz)

def objCells (h : Heap) (l ver : Nat) : Option (List AV) :=
  match h[l]? with
  | some (.cells _ vs _) => if ver = 0 then some vs else none
  | some (.row v _ vs _) => if v = ver then some vs else none
  | _ => none

/-- Are there so many cells? -/
def hasCells (h : Heap) (l ver n : Nat) : Bool :=
  match objCells h l ver with
  | some vs => decide (n ≤ vs.length)
  | none => false

def wrapI (k : IntKind) (n : Int) : AV := .int k (k.wrap n)

def bitsI (op : BinOp) (k : IntKind) (x y : Int) : Int :=
  let a := BitVec.ofInt k.bits x
  let b := BitVec.ofInt k.bits y
  match op with
  | .and => k.wrap (a &&& b).toNat
  | .or => k.wrap (a ||| b).toNat
  | .xor => k.wrap (a ^^^ b).toNat
  | _ => k.wrap (a &&& ~~~b).toNat

def binI (op : BinOp) (k : IntKind) (a b : Int) : Option AV :=
  match op with
  | .add => some (wrapI k (a + b))
  | .sub => some (wrapI k (a - b))
  | .mul => some (wrapI k (a * b))
  | .quo => if b = 0 then none else some (wrapI k (a.tdiv b))
  | .rem => if b = 0 then none else some (.int k (a.tmod b))
  | .and => some (.int k (bitsI .and k a b))
  | .or => some (.int k (bitsI .or k a b))
  | .xor => some (.int k (bitsI .xor k a b))
  | .andNot => some (.int k (bitsI .andNot k a b))
  | .eql => some (.bool (decide (a = b)))
  | .neq => some (.bool (!decide (a = b)))
  | .lss => some (.bool (decide (a < b)))
  | .leq => some (.bool (decide (a ≤ b)))
  | .gtr => some (.bool (decide (b < a)))
  | .geq => some (.bool (decide (b ≤ a)))
  | _ => none

def shiftI (op : BinOp) (k : IntKind) (a b : Int) : Option AV :=
  if b < 0 then none else
  match op with
  | .shl => some (wrapI k (a * 2 ^ (min b.toNat k.bits)))
  | .shr => some (.int k (a.fdiv (2 ^ (min b.toNat k.bits))))
  | _ => none

def binop (op : BinOp) (x y : AV) : Option AV :=
  match x, y with
  | .int k a, .int k' b =>
    match op with
    | .shl | .shr => shiftI op k a b
    | _ => if k = k' then binI op k a b else none
  | .str a, .str b =>
    match op with
    | .add => if a.size + b.size ≤ 9223372036854775807 then some (.str (a ++ b)) else none
    | .eql => some (.bool (a.toList == b.toList))
    | .neq => some (.bool (!(a.toList == b.toList)))
    | _ => none
  | _, _ => none

def binopB (op : BinOp) (x y : AV) : Option AV :=
  match x, y with
  | .bool a, .bool b =>
    match op with
    | .eql => some (.bool (a == b))
    | .neq => some (.bool (!(a == b)))
    | _ => none
  | _, _ => none

/-- Are two rows of plain values alike? (0: bools, 1: whole numbers, 2: strings) -/
def eqOne (k : Nat) (x y : AV) : Option Bool :=
  match x, y with
  | .bool a, .bool b => if k = 0 then some (a == b) else none
  | .int k1 a, .int k2 b => if k = 1 ∧ k1 = k2 then some (decide (a = b)) else none
  | .str a, .str b => if k = 2 then some (a.toList == b.toList) else none
  | _, _ => none

def eqCells : List Nat → List AV → List AV → Option Bool
  | [], [], [] => some true
  | k :: ks, x :: l, y :: m => (eqOne k x y).bind fun b => (eqCells ks l m).map (b && ·)
  | _, _, _ => none

def eqAgg (ks : List Nat) (x y : AV) : Option Bool :=
  match x, y with
  | .agg a, .agg b => eqCells ks a b
  | _, _ => none

/-- Is a slice nil? (None: it is not known.) -/
def isNilV : AV → Option Bool
  | .nils => some true
  | .rs _ _ l => if l.length = 0 then none else some false
  | _ => none

/-- Plain cells tell themselves. -/
def plainB : AV → Bool
  | .bool _ | .int _ _ | .str _ | .nils | .rs _ _ _ | .nilp | .rp _ _ | .nilf | .nili | .nilm | .rm _ _ _ => true
  | _ => false

/-- Is a pointer, or an interface's value, nil? -/
def isNl (ifc : Bool) : AV → Option Bool
  | .nilp => if ifc then none else some true
  | .rp _ _ => if ifc then none else some false
  | .ref _ _ _ => if ifc then none else some false
  | .nili => if ifc then some true else none
  | .iface _ _ => if ifc then some false else none
  | _ => none

def unop (op : UnOp) (x : AV) : Option AV :=
  match op, x with
  | .neg, .int k n => some (wrapI k (0 - n))
  | .xor, .int k n => some (.int k (bitsI .xor k (if k.signed then -1 else k.max) n))
  | .not, .bool b => some (.bool (!b))
  | _, _ => none

/-- A slice's elements as cells. -/
def cellsIn (h : Heap) (sz : Nat) : AV → Option (List AV)
  | .nils => some []
  | .rs _ s l => if s = sz then some (l.flatMap cellsOf) else none
  | .sl s l ver o n => if s = sz then (objCells h l ver).bind fun vs => if o + n * sz ≤ vs.length then some ((vs.drop o).take (n * sz)) else none else none
  | _ => none

def lenIn : AV → Option Nat
  | .nils => some 0
  | .rs _ _ l => some l.length
  | .sl _ _ _ _ n => some n
  | _ => none

/-- Is a slice of the run's own up to date? -/
def curOk (h : Heap) : AV → Bool
  | .sl _ l ver _ _ => (objCells h l ver).isSome
  | _ => true

def bound (x : Option AV) (dflt : Nat) : Option Int :=
  match x with
  | none => some dflt
  | some (.int _ n) => some n
  | _ => none

/-- A value as one that is only read: what the run owns is told by its content. -/
def snap (g : Bool) (h : Heap) : Nat → AV → Option AV
  | 0, _ => none
  | d + 1, v =>
    match v with
    | .ref l ver o =>
      match h[l]? with
      | some (.cells ag vs _) =>
        if ver = 0 ∧ o = 0 then
          (vs.mapM (snap g h d)).bind fun ws => (ofCells ag ws.length ws).map (.rp g)
        else none
      | _ => none
    | .sl sz l ver o n =>
      match h[l]? with
      | some (.row _ _ _ _) | some (.cells _ _ _) =>
        (objCells h l ver).bind fun vs =>
          if 0 < sz ∧ o + n * sz ≤ vs.length then
            (((vs.drop o).take (n * sz)).mapM (snap g h d)).map fun ws => .rs g sz (group (sz != 1) sz n ws)
          else none
      | _ => none
    | .fn f cap => (cap.mapM (snap g h d)).map (.fn f)
    | .iface t x => (snap g h d x).map (.iface t)
    | .agg cs => (cs.mapM (snap g h d)).map .agg
    | .tup vs => (vs.mapM (snap g h d)).map .tup
    | .mp l => match h[l]? with
      | some (.map kk es) => some (.rm g kk es)
      | _ => none
    | v => some v

/-- Does a value hold memory of the run's own? -/
def hasOwn : AV → Bool
  | .ref _ _ _ | .sl _ _ _ _ _ | .mp _ => true
  | .fn _ cap => hasOwnL cap
  | .iface _ x => hasOwn x
  | .agg cs => hasOwnL cs
  | .tup vs => hasOwnL vs
  | _ => false
where
  hasOwnL : List AV → Bool
    | [] => false
    | x :: l => hasOwn x || hasOwnL l

/-- Does nothing in a value lead to what was lent? -/
def noG : AV → Bool
  | .rs g _ l => !g && noGL l
  | .rp g x => !g && noG x
  | .rm g _ _ => !g
  | .fn _ cap => noGL cap
  | .iface _ x => noG x
  | .agg cs => noGL cs
  | .tup vs => noGL vs
  | _ => true
where
  noGL : List AV → Bool
    | [] => true
    | x :: l => noG x && noGL l

def objNoG : AObj → Bool
  | .cells _ vs _ | .row _ _ vs _ => noG.noGL vs
  | .gone => true
  | .hole => true
  | .map _ _ => true

def shift (k : Nat) : AV → AV
  | .sl sz l ver o n => .sl sz (l + k) ver o n
  | .mp l => .mp (l + k)
  | .tup (.sl sz l ver o n :: rest) => .tup (.sl sz (l + k) ver o n :: rest)
  | v => v

def depth : Nat := 9

def snapL (g : Bool) (h : Heap) (vs : List AV) : Option (List AV) := vs.mapM (snap g h depth)

/-- What a call hands back: a row of its own, if it is one that keeps it; else all is told by its content. -/
def finish (keep : Bool) (x : AV × Heap) : Option (AV × Heap) :=
  let plain := (snap false x.2 depth x.1).map fun r => (r, ([] : Heap))
  if keep then
    match x.1 with
    | .sl sz l ver 0 n =>
      match x.2[l]? with
      | some (.row v s vs t) =>
        if v = ver ∧ s = sz ∧ vs.length = n * sz then (snapL false (x.2.set l .gone) vs).map fun ws => (.sl sz 0 0 0 n, [.row 0 sz ws t]) else none
      | _ => none
    | .tup (.sl sz l ver 0 n :: rest) =>
      match x.2[l]? with
      | some (.row v s vs t) =>
        if v = ver ∧ s = sz ∧ vs.length = n * sz then
          (snapL false (x.2.set l .gone) vs).bind fun ws => (snapL false (x.2.set l .gone) rest).map fun rs => (.tup (.sl sz 0 0 0 n :: rs), [.row 0 sz ws t])
        else none
      | _ => none
    | _ => plain
  else plain

abbrev CallFn := FuncId → List AV → Heap → Option (AV × Heap)

def pcallOf (E : Env) (call : CallFn) (f : FuncId) (args : List AV) : Option (AV × Heap) :=
  match E.prim f with
  | some p => p args
  | none => (call f args []).bind (finish (E.keep f))

/-- A call's result, as it can be taken over: one row of its own at most, at the head. -/
def okRes : AV → Bool
  | .sl _ _ _ _ _ => true
  | .mp _ => true
  | .tup (.sl _ _ _ _ _ :: rest) => !hasOwn.hasOwnL rest
  | v => !hasOwn v

def doCall (E : Env) (call : CallFn) (ro : Bool) (h : Heap) (f : FuncId) (vals : List AV) : Option (AV × Heap) :=
  (snapL true h vals).bind fun vs =>
  (pcallOf E call f vs).bind fun r =>
  if hasOwn.hasOwnL vals && !(noG r.1 && r.2.all objNoG) then none
  else if ro then (snap false r.2 depth r.1).map fun v => (v, h)
  else if okRes r.1 then some (shift h.length r.1, h ++ r.2) else none

/-- Parts laid into cells. -/
def fillA (cells : List AV) : List (Nat × Nat × AV) → Option (List AV)
  | [] => some cells
  | (off, sz, v) :: rest =>
    if (cellsOf v).length = sz ∧ off + sz ≤ cells.length ∧ (cellsOf v).all storable then fillA (cells.take off ++ cellsOf v ++ cells.drop (off + sz)) rest else none

def setObj (h : Heap) (l : Nat) (f : AObj → AObj) : Heap := h.modify l f

def storeAt (h : Heap) (l ver o sz : Nat) (v : AV) : Option Heap :=
  if (cellsOf v).length = sz ∧ (cellsOf v).all storable then
    match h[l]? with
    | some (.cells ag vs t) => if ver = 0 ∧ o + sz ≤ vs.length then some (h.set l (.cells ag (vs.take o ++ cellsOf v ++ vs.drop (o + sz)) t)) else none
    | some (.row w s vs t) => if ver = w ∧ o + sz ≤ vs.length then some (h.set l (.row w s (vs.take o ++ cellsOf v ++ vs.drop (o + sz)) t)) else none
    | _ => none
  else none

def partA (ag : Bool) (off sz : Nat) (cs : List AV) : Option AV :=
  if off + sz ≤ cs.length then ofCells ag sz ((cs.drop off).take sz) else none

/-- Bytes, out of cells. -/
def u8sV : List AV → Option (List Int)
  | [] => some []
  | .int .u8 n :: l => (u8sV l).map (n :: ·)
  | _ => none
def strOfL (ns : List Int) : ByteArray := ns.foldl (fun r n => r.push (UInt8.ofNat n.toNat)) ByteArray.empty
def intsV : List AV → Option (List Int)
  | [] => some []
  | .int _ n :: l => (intsV l).map (n :: ·)
  | _ => none
def mm2 (mx : Bool) (x y : Int) : Int := if mx then (if y > x then y else x) else (if y < x then y else x)
def mmV (mx : Bool) : List AV → Option AV
  | .int k a :: l => (intsV l).map fun ns => .int k (ns.foldl (mm2 mx) a)
  | _ => none
/-- A row cut short. -/
def truncV (h : Heap) (sz : Nat) (n : Int) : AV → Option (AV × Heap)
  | .nils => if n = 0 then some (.nils, h) else none
  | .sl z l ver o m =>
    match h[l]? with
    | some (.row v z' vs t) => if o = 0 ∧ v = ver ∧ z = sz ∧ z' = sz ∧ vs.length = m * sz ∧ 0 ≤ n ∧ n ≤ m then some (.sl sz l (ver + 1) 0 n.toNat, h.set l (.row (ver + 1) sz (vs.take (n.toNat * sz)) t)) else none
    | _ => none
  | _ => none

/-- A row of one-cell values, from now on only read. -/
def frzV (h : Heap) : AV → Option (AV × Heap)
  | .sl z l ver o n =>
    match h[l]? with
    | some (.row v z' vs t) => if o = 0 ∧ v = ver ∧ z = 1 ∧ z' = 1 ∧ 0 < n ∧ vs.length = n ∧ vs.all plainB then some (.rs false 1 vs, h.set l .gone) else none
    | _ => none
  | _ => none
/-- A row, with noughts behind it. -/
def appMkV (h : Heap) (sz by_ : Nat) (t : TypeId) (zero : List AV) (n : Int) : AV → Option (AV × Heap)
  | .sl z l ver 0 m =>
    match h[l]? with
    | some (.row v z' vs t') =>
      if v = ver ∧ z = sz ∧ z' = sz ∧ t' = t ∧ vs.length = m * sz ∧ 0 ≤ n ∧ (m + n.toNat) * by_ ≤ 140737488355328 ∧ m + n.toNat ≤ 140737488355328 then
        some (.sl sz l (ver + 1) 0 (m + n.toNat), h.set l (.row (ver + 1) sz (vs ++ (List.replicate n.toNat zero).flatten) t))
      else none
    | _ => none
  | _ => none
/-- An append whose row is only read from then on. -/
def appFV (h : Heap) (sz by_ : Nat) (t : TypeId) (ys : List AV) (m : Nat) : AV → Option (AV × Heap)
  | .sl z l ver 0 n =>
    match h[l]? with
    | some (.row v z' vs t') =>
      if v = ver ∧ z = sz ∧ z' = sz ∧ t' = t ∧ vs.length = n * sz ∧ ys.length = m * sz ∧ (n + m) * by_ ≤ 140737488355328 ∧ n + m ≤ 140737488355328 ∧ vs.all plainB ∧ ys.all plainB then
        some (.rs false sz (group (sz != 1) sz (n + m) (vs ++ ys)), h.set l .gone)
      else none
    | _ => none
  | _ => none
/-- What is appended to an empty slice without room (told as a row of elements of no cells). -/
def appE2 (sz by_ : Nat) : AV → Option AV
  | .rs _ z l => if z = sz ∧ l.length * by_ ≤ 140737488355328 ∧ l.length ≤ 140737488355328 ∧ (l.flatMap cellsOf).all storable = true then some (.rs false sz l) else none
  | _ => none
def appEV (sz by_ : Nat) (x y : AV) : Option AV :=
  match x with
  | .rs _ 0 [] => appE2 sz by_ y
  | _ => none
/-- A call that works with the run's own memory. -/
def doCallM (E : Env) (call : CallFn) (h : Heap) (f : FuncId) (vals : List AV) : Option (AV × Heap) :=
  match E.prim f with
  | some _ => none
  | none => match E.primM f with
    | some p => p vals h
    | none => call f vals h

/-- A call that reads a part of what its argument points to. -/
def fldQ (h : Heap) (q : Option (Bool × Nat × Nat)) : AV → Option AV
  | .ref l ver o => match q with
    | some q => (objCells h l ver).bind fun vs => partA q.1 (o + q.2.1) q.2.2 vs
    | none => none
  | _ => none
/-- A call that makes new memory out of what is there, and hands one of its parts back. -/
def mkK (h : Heap) (q : Option (List AObj → AV → Option (List AObj × Nat))) (x : AV) : Option (AV × Heap) :=
  match q with
  | some q => (q h x).map fun r => (.ref (h.length + r.2) 0 0, h ++ r.1)
  | none => none
/-- A call of values that hold nothing of the run's own, whose result is only read. -/
def doCallP (E : Env) (call : CallFn) (f : FuncId) (vals : List AV) : Option AV :=
  if hasOwn.hasOwnL vals then none else (doCall E call true [] f vals).map (·.1)

/-- One operation: its value, and the memory behind it. -/
def evI (E : Env) (call : CallFn) (s : Slots) (h : Heap) : I → Option (AV × Heap)
  | .mov x => some (x.ev s, h)
  | .nilrow sz t => some (.sl sz h.length 0 0 0, h ++ [.row 0 sz [] t])
  | .pick c a b => match c.ev s with
    | .bool v => some (if v then a.ev s else b.ev s, h)
    | _ => none
  | .bin op x y => (binop op (x.ev s) (y.ev s)).map (·, h)
  | .binB op x y => (binopB op (x.ev s) (y.ev s)).map (·, h)
  | .eqS neg ks x y => (eqAgg ks (x.ev s) (y.ev s)).map fun b => (.bool (if neg then !b else b), h)
  | .un op x => (unop op (x.ev s)).map (·, h)
  | .conv k x => match x.ev s with
    | .int _ n => some (wrapI k n, h)
    | _ => none
  | .alloc ag zero t => some (.ref h.length 0 0, h ++ [.cells ag zero t])
  | .box ag t x => if (cellsOf (x.ev s)).all storable then some (.ref h.length 0 0, h ++ [.cells ag (cellsOf (x.ev s)) t]) else none
  | .boxR ag sz t x => if shapeOk ag sz (x.ev s) && !hasOwn (x.ev s) then some (.rp false (x.ev s), h) else none
  | .build zero parts => (fillA zero (parts.map fun p => (p.1, p.2.1, p.2.2.ev s))).map fun cs => (.agg cs, h)
  | .buildSl sz t els => 
    let vs := els.map (X.ev s)
    if vs.all fun v => (cellsOf v).length == sz && (cellsOf v).all storable then
      some (.sl sz h.length 0 0 vs.length, h ++ [.row 0 sz (vs.flatMap cellsOf) t]) else none
  | .buildR sz t els => 
    let vs := els.map (X.ev s)
    if vs.all (shapeOk (sz != 1) sz) && !hasOwn.hasOwnL vs then some (.rs false sz vs, h) else none
  | .mkSl sz by_ t zero len => match len.ev s with
    | .int _ n => if 0 ≤ n ∧ n * by_ ≤ 140737488355328 ∧ n ≤ 140737488355328 then some (.sl sz h.length 0 0 n.toNat, h ++ [.row 0 sz ((List.replicate n.toNat zero).flatten) t]) else none
    | _ => none
  | .load ag sz a => match a.ev s with
    | .rp _ x => if shapeOk ag sz x then some (x, h) else none
    | .ref l ver o => (objCells h l ver).bind fun vs => (partA ag o sz vs).map (·, h)
    | _ => none
  | .store sz a v => match a.ev s with
    | .ref l ver o => (storeAt h l ver o sz (v.ev s)).map (AV.undef, ·)
    | _ => none
  | .slice sz x lo hi => (lenIn (x.ev s)).bind fun n => (bound (lo.map (X.ev s)) 0).bind fun a => (bound (hi.map (X.ev s)) n).bind fun b =>
    if 0 ≤ a ∧ a ≤ b ∧ b ≤ n then
      match x.ev s with
      | .nils => some (.nils, h)
      | .rs g z l => if z = sz then some (.rs g z ((l.drop a.toNat).take (b.toNat - a.toNat)), h) else none
      | .sl z l ver o _ => if z = sz ∧ (objCells h l ver).isSome = true then some (.sl z l ver (o + a.toNat * sz) (b.toNat - a.toNat), h) else none
      | _ => none
    else none
  | .sliceA n sz x lo hi => (bound (lo.map (X.ev s)) 0).bind fun a => (bound (hi.map (X.ev s)) n).bind fun b =>
    if 0 ≤ a ∧ a ≤ b ∧ b ≤ n then
      match x.ev s with
      | .ref l ver o => match h[l]? with
        | some (.cells _ _ _) => some (.sl sz l ver (o + a.toNat * sz) (b.toNat - a.toNat), h)
        | _ => none
      | .rp g (.agg cs) => if cs.length = n * sz then some (.rs g sz (group (sz != 1) sz (b.toNat - a.toNat) (cs.drop (a.toNat * sz))), h) else none
      | _ => none
    else none
  | .sliceS x lo hi => match x.ev s with
    | .str b => (bound (lo.map (X.ev s)) 0).bind fun a => (bound (hi.map (X.ev s)) b.size).bind fun c =>
      if 0 ≤ a ∧ a ≤ c ∧ c ≤ b.size then some (.str (b.extract a.toNat c.toNat), h) else none
    | _ => none
  | .faddr ag off sz x => match x.ev s with
    | .ref l ver o => some (.ref l ver (o + off), h)
    | .rp g (.agg cs) => (partA ag off sz cs).map fun v => (.rp g v, h)
    | _ => none
  | .field ag off sz x => match x.ev s with
    | .agg cs => (partA ag off sz cs).map (·, h)
    | _ => none
  | .iaddr sz x i => match i.ev s with
    | .int _ i => match x.ev s with
      | .rs g z l => if z = sz ∧ 0 ≤ i ∧ i < l.length then some (.rp g (l.getD i.toNat .undef), h) else none
      | .sl z l ver o n => if z = sz ∧ 0 ≤ i ∧ i < n ∧ (objCells h l ver).isSome = true then some (.ref l ver (o + i.toNat * sz), h) else none
      | _ => none
    | _ => none
  | .iaddrA n sz ag x i => match i.ev s with
    | .int _ i => if 0 ≤ i ∧ i < n then match x.ev s with
        | .ref l ver o => some (.ref l ver (o + i.toNat * sz), h)
        | .rp g (.agg cs) => if cs.length = n * sz then (partA ag (i.toNat * sz) sz cs).map fun v => (.rp g v, h) else none
        | _ => none
      else none
    | _ => none
  | .index n sz ag x i => match i.ev s with
    | .int _ i => if 0 ≤ i ∧ i < n then match x.ev s with
        | .agg cs => (partA ag (i.toNat * sz) sz cs).map (·, h)
        | _ => none
      else none
    | _ => none
  | .indexS x i => match x.ev s, i.ev s with
    | .str b, .int _ i => if 0 ≤ i ∧ i < b.size then some (.int .u8 (b.data.toList.getD i.toNat 0).toNat, h) else none
    | _, _ => none
  | .ext x i => match x.ev s with
    | .tup vs => if i < vs.length then some (vs.getD i .undef, h) else none
    | _ => none
  | .mkIf t x => some (.iface t (x.ev s), h)
  | .mkFn f caps => some (.fn f (caps.map (X.ev s)), h)
  | .callF ro f args => doCall E call ro h f (args.map (X.ev s))
  | .callV ro x args => match x.ev s with
    | .fn f cap => doCall E call ro h f (args.map (X.ev s) ++ cap)
    | _ => none
  | .len x => if curOk h (x.ev s) then (lenIn (x.ev s)).map fun (n : Nat) => (AV.int .i64 (n : Int), h) else none
  | .eqNil neg x => (isNilV (x.ev s)).map fun b => (.bool (if neg then !b else b), h)
  | .fail => none
  | .lenS x => match x.ev s with
    | .str b => some (.int .i64 b.size, h)
    | _ => none
  | .lenA n => some (.int .i64 n, h)
  | .append sz by_ t x y => (cellsIn h sz (y.ev s)).bind fun ys => (lenIn (y.ev s)).bind fun m =>
    match x.ev s with
    | .nils => if m * by_ ≤ 140737488355328 ∧ m ≤ 140737488355328 ∧ ys.all storable then some (.sl sz h.length 0 0 m, h ++ [.row 0 sz ys t]) else none
    | .sl z l ver 0 n =>
      match h[l]? with
      | some (.row v z' vs t') =>
        if v = ver ∧ z = sz ∧ z' = sz ∧ t' = t ∧ vs.length = n * sz ∧ (n + m) * by_ ≤ 140737488355328 ∧ n + m ≤ 140737488355328 ∧ ys.all storable then
          some (.sl sz l (ver + 1) 0 (n + m), h.set l (.row (ver + 1) sz (vs ++ ys) t))
        else none
      | _ => none
    | _ => none
  | .copy sz x y => (cellsIn h sz (y.ev s)).bind fun ys => (lenIn (y.ev s)).bind fun m =>
    match x.ev s with
    | .sl z l ver o n =>
      let k := min m n
      if z = sz ∧ ys.all storable = true ∧ hasCells h l ver (o + n * sz) = true then
        (storeAt h l ver o (k * sz) (.agg (ys.take (k * sz)))).map fun h' => (.int .i64 k, h')
      else none
    | _ => none
  | .toStr x => (cellsIn h 1 (x.ev s)).bind fun cs => (lenIn (x.ev s)).bind fun _ => (u8sV cs).map fun ns => (.str (strOfL ns), h)
  | .mm mx xs => (mmV mx (xs.map (X.ev s))).map (·, h)
  | .capNil x => match x.ev s with
    | .nils => some (.int .i64 0, h)
    | _ => none
  | .trunc sz x hi => match hi.ev s with
    | .int _ n => truncV h sz n (x.ev s)
    | _ => none
  | .loadR ag sz a => match a.ev s with
    | .rp _ x => if shapeOk ag sz x then some (x, h) else none
    | _ => none
  | .loadC ag sz a => match a.ev s with
    | .rp _ x => if shapeOk ag sz x then some (x, h) else none
    | .ref l ver o => if ver = 0 then match h[l]? with
      | some (.cells _ vs _) => (partA ag o sz vs).map (·, h)
      | _ => none
      else none
    | _ => none
  | .iaddrR sz x i => match i.ev s with
    | .int _ i => match x.ev s with
      | .rs g z l => if z = sz ∧ 0 ≤ i ∧ i < l.length then some (.rp g (l.getD i.toNat .undef), h) else none
      | _ => none
    | _ => none
  | .sliceR sz x lo hi => match x.ev s with
    | .rs g z l => (bound (lo.map (X.ev s)) 0).bind fun a => (bound (hi.map (X.ev s)) l.length).bind fun b =>
      if 0 ≤ a ∧ a ≤ b ∧ b ≤ l.length then if z = sz then some (.rs g z ((l.drop a.toNat).take (b.toNat - a.toNat)), h) else none else none
    | _ => none
  | .eqNl ifc neg x => (isNl ifc (x.ev s)).map fun b => (.bool (if neg then !b else b), h)
  | .nilChk x => match x.ev s with
    | .rp g y => some (.rp g y, h)
    | .ref l ver o => some (.ref l ver o, h)
    | _ => none
  | .s2a n sz x => match x.ev s with
    | .rs g z l => if z = sz ∧ 0 < n ∧ n ≤ l.length ∧ ((l.take n).flatMap cellsOf).all storable then some (.rp g (.agg ((l.take n).flatMap cellsOf)), h) else none
    | _ => none
  | .frz x => frzV h (x.ev s)
  | .appMk sz by_ t zero x n => match n.ev s with
    | .int _ n => appMkV h sz by_ t zero n (x.ev s)
    | _ => none
  | .callM f args => doCallM E call h f (args.map (X.ev s))
  | .callP f args => (doCallP E call f (args.map (X.ev s))).map (·, h)
  | .buildE => some (.rs false 0 [], h)
  | .loadS k ag sz a => match a.ev s with
    | .ref l ver o => if l = k then (objCells h l ver).bind fun vs => (partA ag o sz vs).map (·, h) else none
    | _ => none
  | .storeS k sz a v => match a.ev s with
    | .ref l ver o => if l = k then (storeAt h l ver o sz (v.ev s)).map (AV.undef, ·) else none
    | _ => none
  | .lenR x => match x.ev s with
    | .rs _ _ l => some (.int .i64 (l.length : Int), h)
    | _ => none
  | .sliceAR n sz x lo hi => match x.ev s with
    | .rp g (.agg cs) => (bound (lo.map (X.ev s)) 0).bind fun a => (bound (hi.map (X.ev s)) n).bind fun b =>
      if 0 ≤ a ∧ a ≤ b ∧ b ≤ n then if cs.length = n * sz then some (.rs g sz (group (sz != 1) sz (b.toNat - a.toNat) (cs.drop (a.toNat * sz))), h) else none else none
    | _ => none
  | .appE sz by_ x y => (appEV sz by_ (x.ev s) (y.ev s)).map (·, h)
  | .mkMap kk => some (.mp h.length, h ++ [.map kk []])
  | .mapUpd kk m k v => match m.ev s, avP (k.ev s), avE (v.ev s) with
    | .mp l, some k', some v' => match h[l]? with
      | some (.map q es) => if q = kk ∧ kk.has k' = true ∧ es.length ≤ 1048576 then some (.undef, h.set l (.map kk (mputE k' v' es))) else none
      | _ => none
    | _, _, _ => none
  | .look ok kk zero m k => (entsOf h kk (m.ev s)).bind fun es => (avP (k.ev s)).bind fun k' =>
    if kk.has k' = true then some (if ok then .tup [((mget k' es).getD zero).av, .bool (mget k' es).isSome] else ((mget k' es).getD zero).av, h) else none
  | .mdel kk m k => match m.ev s, avP (k.ev s) with
    | .nilm, some k' => if kk.has k' = true then some (.tup [], h) else none
    | .mp l, some k' => match h[l]? with
      | some (.map q es) => if q = kk ∧ kk.has k' = true then some (.tup [], h.set l (.map kk (mdelE k' es))) else none
      | _ => none
    | _, _ => none
  | .mlen kk m => (entsOf h kk (m.ev s)).map fun es => (AV.int .i64 (es.length : Int), h)
  | .eqNlm neg m => (nilMapV h (m.ev s)).map fun b => (.bool (if neg then !b else b), h)
  | .callQ f x => (fldQ h (E.rd f) (x.ev s)).map (·, h)
  | .callA f x => mkK h (E.mkr f) (x.ev s)
  | .appF sz by_ t x y => (cellsIn h sz (y.ev s)).bind fun ys => (lenIn (y.ev s)).bind fun m => appFV h sz by_ t ys m (x.ev s)

def guardOk (s : Slots) : Option (Nat × Bool) → Option Bool
  | none => some true
  | some (t, want) => match get s t with
    | .bool b => some (b == want)
    | .tup [] => some false
    | _ => none

def put (s : Slots) : Option Nat → AV → Slots
  | some d, v => (d, v) :: s
  | none, _ => s

def evO (E : Env) (call : CallFn) (x : St) (o : IO_) : Option St :=
  (guardOk x.s o.guard).bind fun b =>
    if b then (evI E call x.s x.h o.op).map fun r => ⟨put x.s o.dst r.1, r.2⟩ else some ⟨put x.s o.dst (.tup []), x.h⟩

def evOps (E : Env) (call : CallFn) : List IO_ → St → Option St
  | [], x => some x
  | o :: l, x => (evO E call x o).bind (evOps E call l)

/-- Are two values alike? -/
def eqAV : AV → AV → Bool
  | .undef, y => match y with | .undef => true | _ => false
  | .bool b, y => match y with | .bool c => b == c | _ => false
  | .int k n, y => match y with | .int k' n' => decide (k = k') && decide (n = n') | _ => false
  | .str s, y => match y with | .str t => decide (s.data.toList = t.data.toList) | _ => false
  | .nils, y => match y with | .nils => true | _ => false
  | .rs g z l, y => match y with | .rs g' z' l' => g == g' && decide (z = z') && eqL l l' | _ => false
  | .nilp, y => match y with | .nilp => true | _ => false
  | .rp g x, y => match y with | .rp g' x' => g == g' && eqAV x x' | _ => false
  | .ref l v o, y => match y with | .ref l' v' o' => decide (l = l') && decide (v = v') && decide (o = o') | _ => false
  | .sl z l v o n, y => match y with | .sl z' l' v' o' n' => decide (z = z') && decide (l = l') && decide (v = v') && decide (o = o') && decide (n = n') | _ => false
  | .nilf, y => match y with | .nilf => true | _ => false
  | .fn f c, y => match y with | .fn f' c' => decide (f = f') && eqL c c' | _ => false
  | .nili, y => match y with | .nili => true | _ => false
  | .iface t x, y => match y with | .iface t' x' => decide (t = t') && eqAV x x' | _ => false
  | .agg c, y => match y with | .agg c' => eqL c c' | _ => false
  | .tup c, y => match y with | .tup c' => eqL c c' | _ => false
  | .nilm, y => match y with | .nilm => true | _ => false
  | .mp l, y => match y with | .mp l' => decide (l = l') | _ => false
  | .rm g k e, y => match y with | .rm g' k' e' => g == g' && decide (k = k') && decide (e = e') | _ => false
where
  eqL : List AV → List AV → Bool
    | [], m => match m with | [] => true | _ => false
    | x :: l, m => match m with | y :: m => eqAV x y && eqL l m | _ => false
def eqObj : AObj → AObj → Bool
  | .cells a vs t, .cells a' vs' t' => a == a' && eqAV.eqL vs vs' && decide (t = t')
  | .row v z vs t, .row v' z' vs' t' => decide (v = v') && decide (z = z') && eqAV.eqL vs vs' && decide (t = t')
  | .gone, .gone => true
  | .hole, .hole => true
  | .map k e, .map k' e' => decide (k = k') && decide (e = e')
  | _, _ => false
def eqH : Heap → Heap → Bool
  | [], [] => true
  | a :: l, b :: m => eqObj a b && eqH l m
  | _, _ => false
def evIx (E : Env) (call : CallFn) (ios : List IO_) : List Nat → St → Option St
  | [], x => some x
  | i :: l, x => (evO E call x (ios.getD i default)).bind (evIx E call ios l)
/-- A place is kept for a variable that comes later. -/
def pushH (x : St) : St := ⟨x.s, x.h ++ [.hole]⟩
def holeAt : Heap → Option Nat
  | [] => none
  | o :: h => if isHole o then some 0 else (holeAt h).map (· + 1)
/-- The variable comes, at the place that was kept. -/
def fillO (x : St) (o : IO_) : Option St :=
  match o.guard, o.op with
  | none, .alloc ag zero t => (holeAt x.h).map fun p => ⟨put x.s o.dst (.ref p 0 0), x.h.set p (.cells ag zero t)⟩
  | _, _ => none
def eqSlots (ks : List Nat) (s s' : Slots) : Bool := ks.all fun k => eqAV (get s k) (get s' k)
def eqSt (x y : St) : Bool := eqH x.h y.h && eqSlots (x.s.map (·.1)) x.s y.s && eqSlots (y.s.map (·.1)) x.s y.s
/-- A region in two orders: behind the operations pre the variable a ahead of the call c, or behind it; then post. -/
def evAlt (E : Env) (call : CallFn) (ios : List IO_) (pre : List Nat) (a c : Nat) (post : List Nat) (x : St) : Option St :=
  (evIx E call ios pre x).bind fun x0 => (evIx E call ios [a, c] x0).bind fun y =>
    ((evO E call (pushH x0) (ios.getD c default)).bind fun z => fillO z (ios.getD a default)).bind fun z => if eqSt y z = true then evIx E call ios post y else none

def restr (live : Option (List Nat)) (x : St) : St :=
  match live with
  | none => x
  | some l => ⟨l.map fun t => (t, get x.s t), x.h⟩

abbrev Out := Option (Ex × St)

def andThen (r : Out) (k : St → Out) : Out :=
  match r with
  | some (.norm, x) => k x
  | r => r

def endBlock (id : Nat) (live : Option (List Nat)) (r : Out) : Out :=
  match r with
  | some (.norm, x) => some (.norm, restr live x)
  | some (.exit i, x) => if i = id then some (.norm, restr live x) else some (.exit i, x)
  | r => r

def evLoop (f : St → Out) : Nat → St → Out
  | 0, _ => none
  | n + 1, x => andThen (f x) (evLoop f n)

/-- Is it an object of the same kind, laid as it was? -/
def sameK : AObj → AObj → Bool
  | .cells _ _ _, .cells _ _ _ => true
  | .row v _ _ _, .row v' _ _ _ => v == v'
  | .map _ _, .map _ _ => true
  | _, _ => false
def sameHL : Heap → Heap → Bool
  | [], [] => true
  | a :: l, b :: m => sameK a b && sameHL l m
  | _, _ => false
/-- What an iterator hands on, into the loop's variables. -/
def putAll : List Nat → List PE → Slots → Slots
  | p :: ps, e :: es, s => putAll ps es ((p, e.av) :: s)
  | _, _, s => s
/-- Does a value hold nothing of the run's own at or behind a place? -/
def refOk (n : Nat) : AV → Bool
  | .ref l _ _ => decide (l < n)
  | .sl _ l _ _ _ => decide (l < n)
  | .mp l => decide (l < n)
  | .fn _ cap => refOkL n cap
  | .iface _ x => refOk n x
  | .agg cs => refOkL n cs
  | .tup vs => refOkL n vs
  | _ => true
where
  refOkL (n : Nat) : List AV → Bool
    | [] => true
    | x :: l => refOk n x && refOkL n l
def objRefOk (n : Nat) : AObj → Bool
  | .cells _ vs _ => refOk.refOkL n vs
  | .row _ _ vs _ => refOk.refOkL n vs
  | _ => true
/-- What a round has left of the memory that was there ahead of it. -/
def backTo (h h' : Heap) : Option Heap := if (sameHL h (h'.take h.length) && (h'.take h.length).all (objRefOk h.length)) = true then some (h'.take h.length) else none
/-- Behind the last round all is kept. -/
def backE (last : Bool) (h h' : Heap) : Option Heap := if last = true then some h' else backTo h h'
/-- The rounds of a range over a function: each begins with the slots as they were ahead of the loop. -/
def roundEnd (last : Bool) (s0 : Slots) (h : Heap) (k : Heap → Out) : Out → Out
  | some (.norm, y) => (backE last h y.h).bind k
  | some (e, y) => (backTo h y.h).map fun h' => (e, ⟨s0, h'⟩)
  | none => none
def evRange (f : St → Out) (s0 : Slots) (ps : List Nat) : List (List PE) → Heap → Out
  | [], h => some (.norm, ⟨s0, h⟩)
  | it :: its, h => if it.length = ps.length ∧ it.all PE.wf = true then roundEnd its.isEmpty s0 h (evRange f s0 ps its) (f ⟨putAll ps it s0, h⟩) else none
def andThenN (r : Out) (k : St → Out) : Out :=
  match r with
  | some (.norm, x) => k x
  | _ => none

/-- The code, with so many rounds for each loop. -/
def evC (E : Env) (call : CallFn) (n : Nat) : C → St → Out
  | .skip, x => some (.norm, x)
  | .ops l, x => (evOps E call l x).map fun x => (.norm, x)
  | .seq a b, x => andThen (evC E call n a x) (evC E call n b)
  | .cond c a b, x => match c.ev x.s with
    | .bool v => if v then evC E call n a x else evC E call n b x
    | _ => none
  | .block id live b, x => endBlock id live (evC E call n b (restr live x))
  | .loop live b, x => evLoop (fun x => evC E call n b (restr live x)) n x
  | .exit id, x => some (.exit id, x)
  | .ret, x => some (.ret, x)
  | .alt l pre a c post, x => (evAlt E call l pre a c post x).map fun x => (.norm, x)
  | .rangeF g ps assign body, x => match g.ev x.s with
    | .fn f cap => match E.seq f with
      | some q => (q cap x.h).bind fun items => evRange (fun y => andThenN (evC E call n assign y) (evC E call n body)) x.s ps items x.h
      | none => none
    | _ => none

/-- What stands in a variable. -/
def loadV (h : Heap) (ag : Bool) (sz : Nat) : AV → Option AV
  | .rp _ x => if shapeOk ag sz x then some x else none
  | .ref l ver o => (objCells h l ver).bind fun vs => partA ag o sz vs
  | _ => none

def resOne (s : Slots) (h : Heap) : Nat × Option (Bool × Nat) → Option AV
  | (t, none) => some (get s t)
  | (t, some (ag, sz)) => loadV h ag sz (get s t)

def resL (s : Slots) (h : Heap) : List (Nat × Option (Bool × Nat)) → Option (List AV)
  | [] => some []
  | r :: l => (resOne s h r).bind fun v => (resL s h l).map (v :: ·)

def resOf (s : Slots) (h : Heap) : List (Nat × Option (Bool × Nat)) → Option AV
  | [r] => resOne s h r
  | l => (resL s h l).map .tup

def enumFrom : Nat → List AV → Slots
  | _, [] => []
  | i, x :: l => (i, x) :: enumFrom (i + 1) l

def evFn (E : Env) (call : CallFn) (n : Nat) (fn : Fn_) (args : List AV) (h : Heap) : Option (AV × Heap) :=
  if args.length = fn.nparams then
    match evC E call n fn.body ⟨enumFrom 0 args, h⟩ with
    | some (.norm, x) | some (.ret, x) => (resOf x.s x.h fn.results).map (·, x.h)
    | _ => none
  else none

def callN (E : Env) : Nat → CallFn
  | 0, _, _, _ => none
  | n + 1, f, args, h => match E.fns f with
    | some fn => evFn E (callN E n) n fn args h
    | none => none

end Go.Fw
