/-
  Rows of bytes and of numbers as values of the evaluation. Conditions: stated at each.
-/
import Derived.Test.YtefkoichicalfaaFwU
set_option linter.unusedVariables false
set_option linter.unusedSimpArgs false
namespace Go.Fw.Wd

/-- A byte. -/
def by8 (b : UInt8) : AV := .int .u8 (b.toNat : Int)
theorem by8_eq (b : UInt8) : by8 b = .int .u8 (b.toNat : Int) := rfl
theorem fby : Flat by8 := ⟨fun _ => rfl, fun _ => rfl, fun _ => rfl, fun _ => rfl⟩
/-- A row of bytes that is only read. -/
abbrev bs (g : Bool) (l : List UInt8) : AV := .rs g 1 (l.map by8)
/-- A row of bytes of the run's own. -/
abbrev rowB (ver : Nat) (l : List UInt8) (t : TypeId) : AObj := .row ver 1 (l.map by8) t
/-- A signed number of 64 bits. -/
def S64 (n : Int) : Prop := -9223372036854775808 ≤ n ∧ n ≤ 9223372036854775807

theorem iaddr_by8 (h : Heap) (g : Bool) (l : List UInt8) (k : IntKind) (i : Int) (h0 : 0 ≤ i) (h1 : i < l.length) : iaddrK h 1 (.rs g 1 (l.map by8)) (.int k i) = some (.rp g (.int .u8 ((nth l i.toNat).toNat : Int)), h) := iaddr_map by8 h 1 g l k i h0 h1
theorem load_by8 (h : Heap) (g : Bool) (b : UInt8) : loadK h false 1 (.rp g (by8 b)) = some (.int .u8 (b.toNat : Int), h) := by simp [loadK_rp, shapeOk, by8]
theorem noGL_by8 (l : List UInt8) : noG.noGL (l.map by8) = true := fby.noGL l
theorem cells_by8 (h : Heap) (g : Bool) (l : List UInt8) : cellsIn h 1 (.rs g 1 (l.map by8)) = some (l.map by8) := fby.cellsIn h g l
theorem store_by8 (l : List UInt8) : (l.map by8).all storable = true := fby.all_st l
theorem plain_by8 (l : List UInt8) : (l.map by8).all plainB = true := fby.all_pl l
theorem shape_by8 (b : UInt8) : shapeOk false 1 (by8 b) = true := rfl

theorem slice_by_ii (h : Heap) (g : Bool) (l : List UInt8) (k k' : IntKind) (a b : Int) (h3 : 0 ≤ a) (h4 : a ≤ b) (h5 : b ≤ l.length) : sliceK h 1 (.rs g 1 (l.map by8)) (some l.length) (some (.int k a)) (some (.int k' b)) = some (.rs g 1 (((l.drop a.toNat).take (b.toNat - a.toNat)).map by8), h) := slice_ii by8 h 1 g l k k' a b h3 h4 h5
theorem slice_by_in (h : Heap) (g : Bool) (l : List UInt8) (k : IntKind) (a : Int) (h3 : 0 ≤ a) (h4 : a ≤ l.length) : sliceK h 1 (.rs g 1 (l.map by8)) (some l.length) (some (.int k a)) none = some (.rs g 1 ((l.drop a.toNat).map by8), h) := slice_in by8 h 1 g l k a h3 h4
theorem slice_by_ni (h : Heap) (g : Bool) (l : List UInt8) (k : IntKind) (b : Int) (h3 : 0 ≤ b) (h4 : b ≤ l.length) : sliceK h 1 (.rs g 1 (l.map by8)) (some l.length) none (some (.int k b)) = some (.rs g 1 ((l.take b.toNat).map by8), h) := slice_ni by8 h 1 g l k b h3 h4
theorem slice_by_nn (h : Heap) (g : Bool) (l : List UInt8) : sliceK h 1 (.rs g 1 (l.map by8)) (some l.length) none none = some (.rs g 1 (l.map by8), h) := slice_nn by8 h 1 g l
theorem snR_by8 (g : Bool) (h : Heap) (d l ver n : Nat) (vs : List UInt8) (t : TypeId) (hn : vs.length = n) : snR g h d l ver n (some (.row ver 1 (vs.map by8) t)) = some (.rs g 1 (vs.map by8)) := fby.snR g h d l ver n vs t hn
theorem finR_by8 (h : Heap) (l ver n : Nat) (vs : List UInt8) (t : TypeId) (hn : vs.length = n) : finR h 1 l ver n (some (.row ver 1 (vs.map by8) t)) = some (.sl 1 0 0 0 n, [.row 0 1 (vs.map by8) t]) := fby.finR h l ver n vs t hn
theorem finT_by8 (h : Heap) (l ver n : Nat) (vs : List UInt8) (t : TypeId) (k : IntKind) (y : Int) (hn : vs.length = n) : finT h 1 l ver n (.int k y) (some (.row ver 1 (vs.map by8) t)) = some (.tup [.sl 1 0 0 0 n, .int k y], [.row 0 1 (vs.map by8) t]) := fby.finT h l ver n vs t _ hn rfl
theorem finT_by8b (h : Heap) (l ver n : Nat) (vs : List UInt8) (t : TypeId) (y : Bool) (hn : vs.length = n) : finT h 1 l ver n (.bool y) (some (.row ver 1 (vs.map by8) t)) = some (.tup [.sl 1 0 0 0 n, .bool y], [.row 0 1 (vs.map by8) t]) := fby.finT h l ver n vs t _ hn rfl
theorem appR_by8 (h : Heap) (by_ : Nat) (t : TypeId) (l ver n m : Nat) (vs ys : List UInt8) (hn : vs.length = n) (h1 : (n + m) * by_ ≤ 140737488355328) (h2 : n + m ≤ 140737488355328) :
    appR h 1 by_ t (ys.map by8) m l ver n (some (.row ver 1 (vs.map by8) t)) = some (.sl 1 l (ver + 1) 0 (n + m), h.set l (.row (ver + 1) 1 ((vs ++ ys).map by8) t)) := fby.appR h by_ t l ver n m vs ys hn h1 h2
theorem appR_nil8 (h : Heap) (by_ : Nat) (t : TypeId) (l ver m : Nat) (ys : List UInt8) (h1 : m * by_ ≤ 140737488355328) (h2 : m ≤ 140737488355328) :
    appR h 1 by_ t (ys.map by8) m l ver 0 (some (.row ver 1 [] t)) = some (.sl 1 l (ver + 1) 0 m, h.set l (.row (ver + 1) 1 (ys.map by8) t)) := by
  have := fby.appR h by_ t l ver 0 m [] ys rfl (by rw [Nat.zero_add]; exact h1) (by omega)
  simpa using this
theorem cpR_by8 (h : Heap) (l ver o n m : Nat) (vs ys : List UInt8) (t : TypeId) (h1 : o + n ≤ vs.length) (h3 : ys.length = m) (h4 : m ≤ n) :
    cpR h (ys.map by8) m l ver o n (some (.row ver 1 (vs.map by8) t)) = some (.int .i64 m, h.set l (.row ver 1 ((vs.take o ++ ys ++ vs.drop (o + m)).map by8) t)) := fby.cpR h l ver o n m vs ys t h1 h3 h4
theorem ldR_by8 (h : Heap) (l ver o : Nat) (vs : List UInt8) (t : TypeId) (ho : o < vs.length) : ldR h l ver o (some (.row ver 1 (vs.map by8) t)) = some (.int .u8 ((nth vs o).toNat : Int), h) := fby.ldR h l ver o vs t ho
theorem clR_by8 (h : Heap) (l ver n : Nat) (vs : List UInt8) (t : TypeId) (hn : vs.length = n) : clR h l ver n (some (.row ver 1 (vs.map by8) t)) = some (vs.map by8) := by simp [clR, hn]
theorem stR_by8 (h : Heap) (l ver o : Nat) (vs : List UInt8) (v : UInt8) (t : TypeId) (ho : o < vs.length) : stR h l ver o (.int .u8 (v.toNat : Int)) (some (.row ver 1 (vs.map by8) t)) = some (h.set l (.row ver 1 ((vs.set o v).map by8) t)) := fby.stR h l ver o vs v t ho

theorem u8s_by8 : ∀ l : List UInt8, u8sV (l.map by8) = some (l.map fun b => (b.toNat : Int))
  | [] => rfl
  | b :: l => by
    show (u8sV (l.map by8)).map _ = _
    rw [u8s_by8 l]
    rfl
theorem strOf_by8 (l : List UInt8) : strOfL (l.map fun b => (b.toNat : Int)) = ⟨⟨l⟩⟩ := by
  have key : ∀ (l m : List UInt8), (l.map fun b => (b.toNat : Int)).foldl (fun r n => r.push (UInt8.ofNat n.toNat)) (⟨⟨m⟩⟩ : ByteArray) = ⟨⟨m ++ l⟩⟩ := by
    intro l
    induction l with
    | nil => intro m; simp
    | cons b l ih =>
      intro m
      simp only [List.map_cons, List.foldl_cons]
      have e : (⟨⟨m⟩⟩ : ByteArray).push (UInt8.ofNat (b.toNat : Int).toNat) = ⟨⟨m ++ [b]⟩⟩ := by
        simp [ByteArray.push]
      rw [e, ih (m ++ [b])]
      simp
  exact key l []
theorem toStr_by8 (h : Heap) (l : List UInt8) (n : Nat) : toStrK h (some (l.map by8)) (some n) = some (.str ⟨⟨l⟩⟩, h) := by
  simp only [toStrK, Option.bind_some, u8s_by8, Option.map_some, strOf_by8]
theorem list_loop (l : List UInt8) : ∀ (k i : Nat) (r : List UInt8), i + k = l.length → ByteArray.toList.loop ⟨⟨l⟩⟩ i r = r.reverse ++ l.drop i
  | 0, i, r, h => by
    have e : i = l.length := by omega
    subst e
    rw [ByteArray.toList.loop]
    have : ¬ l.length < (⟨⟨l⟩⟩ : ByteArray).size := by show ¬ l.length < l.length; omega
    simp [this]
  | k + 1, i, r, h => by
    have hi : i < l.length := by omega
    rw [ByteArray.toList.loop]
    have h1 : i < (⟨⟨l⟩⟩ : ByteArray).size := hi
    rw [if_pos h1, list_loop l k (i + 1) _ (by omega), List.drop_eq_getElem_cons hi]
    have e : (⟨⟨l⟩⟩ : ByteArray).get! i = l[i] := by
      simp [ByteArray.get!, hi]
    rw [e]
    simp
theorem str_list (l : List UInt8) : (⟨⟨l⟩⟩ : ByteArray).toList = l := by
  have := list_loop l l.length 0 [] (by omega)
  simpa [ByteArray.toList] using this
theorem str_beq (l m : List UInt8) : ((⟨⟨l⟩⟩ : ByteArray).toList == (⟨⟨m⟩⟩ : ByteArray).toList) = decide (l = m) := by
  rw [str_list, str_list]
  by_cases h : l = m
  · subst h; simp
  · simp [h]
/-- What a function hands back that makes bytes: memory of the caller's own, if it keeps it. -/
def kres (k ok : Bool) (t : TypeId) (L : List UInt8) (y : AV) : AV × Heap := if (k && ok) = true then (.tup [.sl 1 0 0 0 L.length, y], [.row 0 1 (L.map by8) t]) else (.tup [bs false L, y], [])
theorem kres_f (ok : Bool) (t : TypeId) (L : List UInt8) (y : AV) : kres false ok t L y = (.tup [bs false L, y], []) := rfl
theorem kres_n (k : Bool) (t : TypeId) (L : List UInt8) (y : AV) : kres k false t L y = (.tup [bs false L, y], []) := by cases k <;> rfl
theorem kres_t (t : TypeId) (L : List UInt8) (y : AV) : kres true true t L y = (.tup [.sl 1 0 0 0 L.length, y], [.row 0 1 (L.map by8) t]) := rfl

theorem wb64 (b : UInt8) : IntKind.u64.wrap (b.toNat : Int) = b.toNat := wu64 (by omega) (by have := b.toNat_lt; omega)
theorem wb32 (b : UInt8) : IntKind.u32.wrap (b.toNat : Int) = b.toNat := wu32 (by omega) (by have := b.toNat_lt; omega)
theorem wb16 (b : UInt8) : IntKind.u16.wrap (b.toNat : Int) = b.toNat := wu16 (by omega) (by have := b.toNat_lt; omega)
theorem wb8 (b : UInt8) : IntKind.u8.wrap (b.toNat : Int) = b.toNat := wu8 (by omega) (by have := b.toNat_lt; omega)
theorem wbi (b : UInt8) : IntKind.i64.wrap (b.toNat : Int) = b.toNat := w64 (by omega) (by have := b.toNat_lt; omega)
theorem by8_neq (a b : UInt8) : (((a.toNat : Nat) : Int) = (b.toNat : Int)) ↔ a = b := by
  rw [← UInt8.toNat_inj]
  omega

/-- Out of a row of cells that are bytes: the bytes. -/
theorem bytes_of {l : List AV} (h : ∀ y ∈ l, ∃ n : Int, y = .int .u8 n ∧ 0 ≤ n ∧ n ≤ 255) : ∃ m : List UInt8, l = m.map by8 := by
  induction l with
  | nil => exact ⟨[], rfl⟩
  | cons y l ih =>
    obtain ⟨n, rfl, h0, h1⟩ := h y (by simp)
    obtain ⟨m, rfl⟩ := ih fun z hz => h z (by simp [hz])
    refine ⟨UInt8.ofNat n.toNat :: m, ?_⟩
    simp only [List.map_cons, by8, List.cons.injEq, and_true, AV.int.injEq, true_and]
    rw [UInt8.toNat_ofNat_of_lt' (by show n.toNat < 256; omega)]
    omega

/-- A number of 64 bits. -/
def u64v (n : UInt64) : AV := .int .u64 (n.toNat : Int)
theorem fu64 : Flat u64v := ⟨fun _ => rfl, fun _ => rfl, fun _ => rfl, fun _ => rfl⟩
theorem iaddr_u64v (h : Heap) (g : Bool) (l : List UInt64) (k : IntKind) (i : Int) (h0 : 0 ≤ i) (h1 : i < l.length) : iaddrK h 1 (.rs g 1 (l.map u64v)) (.int k i) = some (.rp g (.int .u64 ((nth l i.toNat).toNat : Int)), h) := iaddr_map u64v h 1 g l k i h0 h1
theorem load_u64v (h : Heap) (g : Bool) (b : UInt64) : loadK h false 1 (.rp g (u64v b)) = some (.int .u64 (b.toNat : Int), h) := by simp [loadK_rp, shapeOk, u64v]
theorem nums_of {l : List AV} (h : ∀ y ∈ l, ∃ n : Int, y = .int .u64 n ∧ 0 ≤ n ∧ n < 18446744073709551616) : ∃ m : List UInt64, l = m.map u64v := by
  induction l with
  | nil => exact ⟨[], rfl⟩
  | cons y l ih =>
    obtain ⟨n, rfl, h0, h1⟩ := h y (by simp)
    obtain ⟨m, rfl⟩ := ih fun z hz => h z (by simp [hz])
    refine ⟨UInt64.ofNat n.toNat :: m, ?_⟩
    simp only [List.map_cons, u64v, List.cons.injEq, and_true, AV.int.injEq, true_and]
    rw [UInt64.toNat_ofNat_of_lt' (by show n.toNat < 18446744073709551616; omega)]
    omega

/-- Bytes as a number, the highest first. -/
def num (l : List UInt8) : Nat := l.foldl (fun n b => n * 256 + b.toNat) 0

theorem num_nil : num [] = 0 := rfl
theorem num_snoc (l : List UInt8) (b : UInt8) : num (l ++ [b]) = num l * 256 + b.toNat := by simp [num]
theorem num_lt : ∀ (n : Nat) (l : List UInt8), l.length = n → num l < 256 ^ n
  | 0, l, h => by
    have : l = [] := List.eq_nil_of_length_eq_zero h
    subst this
    decide
  | n + 1, l, h => by
    have hne : l ≠ [] := by intro h0; subst h0; simp at h
    obtain ⟨m, b, rfl⟩ : ∃ m b, l = m ++ [b] := ⟨l.dropLast, l.getLast hne, (List.dropLast_concat_getLast hne).symm⟩
    have := num_lt n m (by simpa using h)
    have hb := b.toNat_lt
    rw [num_snoc, Nat.pow_succ]
    omega
theorem num_lt_of {l : List UInt8} {n : Nat} (h : l.length ≤ n) : num l < 256 ^ n := Nat.lt_of_lt_of_le (num_lt _ l rfl) (Nat.pow_le_pow_right (by omega) h)
theorem num_take_succ (l : List UInt8) (i : Nat) (hi : i < l.length) : num (l.take (i + 1)) = num (l.take i) * 256 + (nth l i).toNat := by
  rw [nth_get l i hi, List.take_succ_eq_append_getElem hi, num_snoc]

theorem or_byte {n x : Int} (h0 : 0 ≤ n) (h1 : n < 72057594037927936) (x0 : 0 ≤ x) (x1 : x < 256) : bitsI .or .u64 (n * 256) x = n * 256 + x := by
  show IntKind.u64.wrap ((BitVec.ofInt 64 (n * 256) ||| BitVec.ofInt 64 x).toNat : Int) = _
  have e1 : (BitVec.ofInt 64 (n * 256)).toNat = n.toNat <<< 8 := by
    rw [BitVec.toNat_ofInt, Nat.shiftLeft_eq]
    omega
  have e2 : (BitVec.ofInt 64 x).toNat = x.toNat := by
    rw [BitVec.toNat_ofInt]
    omega
  rw [BitVec.toNat_or, e1, e2, ← Nat.shiftLeft_add_eq_or_of_lt (by omega), Nat.shiftLeft_eq]
  rw [wu64 (by omega) (by omega)]
  omega
theorem shl_byte {n : Int} (h0 : 0 ≤ n) (h1 : n < 72057594037927936) : shiftI .shl .u64 n 8 = some (.int .u64 (n * 256)) := by
  have : ¬ (8 : Int) < 0 := by omega
  have e : IntKind.u64.wrap (n * 2 ^ (min (8 : Int).toNat IntKind.u64.bits)) = n * 256 := by
    show IntKind.u64.wrap (n * 256) = _
    exact wu64 (by omega) (by omega)
  simp only [shiftI, this, if_false, wrapI, e]

/-- The last bytes of a number. -/
def encb : Nat → Nat → List UInt8
  | 0, _ => []
  | n + 1, v => UInt8.ofNat (v / 256 ^ n) :: encb n v
theorem encb_length : ∀ (n v : Nat), (encb n v).length = n
  | 0, _ => rfl
  | n + 1, v => by simp [encb, encb_length n v]
theorem wrapU8 (n : Nat) : IntKind.u8.wrap (n : Int) = ((UInt8.ofNat n).toNat : Int) := by
  simp [IntKind.wrap, IntKind.signed, IntKind.bits]
theorem shr_byte (v k : Nat) (hk : k ≤ 7) : shiftI .shr .u64 (v : Int) (8 * (k : Int)) = some (.int .u64 ((v / 256 ^ k : Nat) : Int)) := by
  have h0 : ¬ (8 * (k : Int)) < 0 := by omega
  have h1 : min (8 * (k : Int)).toNat IntKind.u64.bits = 8 * k := by show min _ 64 = _; omega
  have h2 : (256 : Nat) ^ k = 2 ^ (8 * k) := by rw [Nat.pow_mul]
  simp only [shiftI, h0, if_false, h1, Option.some.injEq, AV.int.injEq, true_and]
  rw [h2, Int.fdiv_eq_ediv_of_nonneg _ (by exact Int.le_of_lt (Int.pow_pos (by omega))), Int.natCast_ediv]
  simp
theorem num_from (l : List UInt8) : ∀ n : Nat, l.foldl (fun n b => n * 256 + b.toNat) n = n * 256 ^ l.length + num l := by
  induction l with
  | nil => intro n; simp [num]
  | cons b l ih =>
    intro n
    simp only [List.foldl_cons, num, List.length_cons, Nat.zero_mul, Nat.zero_add]
    rw [ih, ih b.toNat, Nat.pow_succ, Nat.add_mul, Nat.mul_assoc, Nat.mul_comm 256 (256 ^ l.length), Nat.add_assoc]
theorem num_cons (b : UInt8) (l : List UInt8) : num (b :: l) = b.toNat * 256 ^ l.length + num l := by
  have := num_from l b.toNat
  simpa [num] using this
theorem num_encb (k v : Nat) : num (encb k v) = v % 256 ^ k := by
  induction k with
  | zero => simp [encb, num, Nat.mod_one]
  | succ k ih =>
    rw [encb, num_cons, encb_length, ih, Nat.mod_pow_succ, UInt8.toNat_ofNat']
    rw [Nat.mul_comm, Nat.add_comm]
theorem num_encb_of {k v : Nat} (h : v < 256 ^ k) : num (encb k v) = v := by rw [num_encb, Nat.mod_eq_of_lt h]
theorem wrap8_add (a : UInt8) (n : Nat) : IntKind.u8.wrap ((a.toNat : Int) + (n : Int)) = ((a + UInt8.ofNat n).toNat : Int) := by
  rw [UInt8.toNat_add, UInt8.toNat_ofNat']
  simp [IntKind.wrap, IntKind.signed, IntKind.bits]
theorem appR_1 (h : Heap) (by_ : Nat) (t : TypeId) (l ver n : Nat) (vs : List UInt8) (a : UInt8) (hn : vs.length = n) (h1 : (n + 1) * by_ ≤ 140737488355328) (h2 : n + 1 ≤ 140737488355328) :
    appR h 1 by_ t [.int .u8 (a.toNat : Int)] 1 l ver n (some (.row ver 1 (vs.map by8) t)) = some (.sl 1 l (ver + 1) 0 (n + 1), h.set l (.row (ver + 1) 1 ((vs ++ [a]).map by8) t)) := appR_by8 h by_ t l ver n 1 vs [a] hn h1 h2
theorem appR_2 (h : Heap) (by_ : Nat) (t : TypeId) (l ver n : Nat) (vs : List UInt8) (a b : UInt8) (hn : vs.length = n) (h1 : (n + 2) * by_ ≤ 140737488355328) (h2 : n + 2 ≤ 140737488355328) :
    appR h 1 by_ t [.int .u8 (a.toNat : Int), .int .u8 (b.toNat : Int)] 2 l ver n (some (.row ver 1 (vs.map by8) t)) = some (.sl 1 l (ver + 1) 0 (n + 2), h.set l (.row (ver + 1) 1 ((vs ++ [a, b]).map by8) t)) := appR_by8 h by_ t l ver n 2 vs [a, b] hn h1 h2
theorem rep_by8 (b : UInt8) : ∀ n : Nat, (List.replicate n [AV.int .u8 (b.toNat : Int)]).flatten = (List.replicate n b).map by8
  | 0 => rfl
  | n + 1 => by
    rw [List.replicate_succ, List.flatten_cons, rep_by8 b n, List.replicate_succ, List.map_cons]
    rfl
theorem mkSl_by8 (h : Heap) (t : TypeId) (k : IntKind) (n : Int) (h0 : 0 ≤ n) (h1 : n ≤ 140737488355328) : mkSlK h 1 1 t [.int .u8 0] (.int k n) = some (.sl 1 h.length 0 0 n.toNat, h ++ [.row 0 1 ((List.replicate n.toNat (0 : UInt8)).map by8) t]) := by
  rw [mkSlK_int h 1 1 t _ k n h0 (by omega) h1, ← rep_by8]
  rfl
theorem appE2_by8 (g : Bool) (l : List UInt8) (h1 : l.length ≤ 140737488355328) : appE2 1 1 (.rs g 1 (l.map by8)) = some (.rs false 1 (l.map by8)) :=
  appE2_of 1 1 g _ (by rw [List.length_map]; omega) (by rw [List.length_map]; exact h1) (by rw [fby.cells]; exact fby.all_st l)
theorem afR_nil8 (h : Heap) (by_ : Nat) (t : TypeId) (l ver m : Nat) (ys : List UInt8) (hm : ys.length = m) (h1 : m * by_ ≤ 140737488355328) (h2 : m ≤ 140737488355328) :
    afR h 1 by_ t (ys.map by8) m l ver 0 (some (.row ver 1 [] t)) = some (.rs false 1 (ys.map by8), h.set l .gone) := by
  have h1' : (0 + m) * by_ ≤ 140737488355328 := by rw [Nat.zero_add]; exact h1
  have h2' : 0 + m ≤ 140737488355328 := by omega
  simp only [afR, List.length_nil, Nat.zero_mul, List.length_map, hm, Nat.mul_one, h1', h2', plain_by8, List.all_nil, and_self, if_true, List.nil_append]
  show some (AV.rs false 1 (group false 1 _ _), _) = _
  rw [group_one _ _ (by simp; omega), List.take_of_length_le (by simp; omega)]
attribute [go_sem] appE2_by8 afR_nil8 appR_1 appR_2 toStr_by8 str_beq ldR_by8 noGL_by8 snR_by8 finR_by8 finT_by8 appR_by8 iaddr_by8 cells_by8 slice_by_ii slice_by_in slice_by_ni slice_by_nn appR_nil8 cpR_by8 stR_by8 finT_by8b bs rowB kres_f kres_n kres_t clR_by8
end Go.Fw.Wd
