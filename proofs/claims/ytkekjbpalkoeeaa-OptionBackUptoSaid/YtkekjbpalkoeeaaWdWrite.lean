/-
  What Ip, One, Bytes answer of options, the program's and the document's; options as the references have them. Conditions: stated at each.
-/
import Derived.Test.YtkekjbpalkoeeaaWdNumber
set_option linter.unusedVariables false
set_option linter.unusedSimpArgs false
namespace Go.Fw.Wd
open Go.Proofs Code_

/-! ### an Ip's bytes, one byte -/

theorem four_eq (n : Nat) (hn : n < 4294967296) : encb 4 n = [UInt8.ofNat (n / 16777216), UInt8.ofNat (n / 65536), UInt8.ofNat (n / 256), UInt8.ofNat n] := by
  simp [encb]
theorem qu32 (n k : Nat) (hn : n < 4294967296) : IntKind.u32.wrap (Int.tdiv (n : Int) (k : Int)) = ((n / k : Nat) : Int) := by
  have h1 : Int.tdiv (n : Int) (k : Int) = ((n / k : Nat) : Int) := by rw [Int.tdiv_eq_ediv_of_nonneg (by omega), Int.natCast_ediv]
  have h2 : n / k ≤ n := Nat.div_le_self n k
  rw [h1]
  generalize n / k = q at *
  rw [wu32 (by omega) (by omega)]
theorem rm (n k : Nat) : Int.tmod (n : Int) (k : Int) = ((n % k : Nat) : Int) := by rw [Int.tmod_eq_emod_of_nonneg (by omega), Int.natCast_emod]
theorem wrapU8_mod (n : Nat) : UInt8.ofNat (n % 256) = UInt8.ofNat n := by
  apply UInt8.toNat_inj.1
  simp
theorem s87 (n : Nat) (hn : n < 4294967296) : pcall E 87 [.int .u32 (n : Int)] = some (bs false (encb 4 n), []) := by
  rw [pcall_go (fn := I87) rfl rfl rfl, four_eq n hn]
  have hk : E.keep 87 = false := rfl
  have e1 := qu32 n 16777216 hn
  have e2 := qu32 n 65536 hn
  have e3 := qu32 n 256 hn
  have e4 := rm (n / 65536) 256
  have e5 := rm (n / 256) 256
  have e6 := rm n 256
  have w1 := wrapU8 (n / 16777216)
  have w2 := wrapU8 (n / 65536 % 256)
  have w3 := wrapU8 (n / 256 % 256)
  have w4 := wrapU8 (n % 256)
  rw [wrapU8_mod] at w2 w3 w4
  simp only [Int.cast_ofNat_Int] at e1 e2 e3 e4 e5 e6
  generalize n / 16777216 = a at *
  generalize n / 65536 = b at *
  generalize n / 256 = c at *
  simp (disch := first | omega | (simp only [List.length_cons, List.length_nil, List.length_append, List.length_map, List.length_set]; omega) | rfl | (simp only [List.length_cons, List.length_nil, List.length_append, List.length_map, List.length_set, List.length_replicate, List.all_cons, List.all_nil, List.all_append, storable, plainB, Bool.and_self]; done)) only [go_sem, reduceCtorEq, ↓reduceIte, Nat.reduceEqDiff, Nat.reduceAdd, Nat.reduceSub, Nat.reduceMul, Nat.reduceLeDiff, Nat.reduceLT, Nat.reduceBEq, Nat.reduceBNe, Int.reduceAdd, Int.reduceSub, Int.reduceMul, Int.reduceNeg, Int.reduceEq, Int.reduceNe, Int.reduceLT, Int.reduceLE, Int.reduceToNat, reduceDIte, Nat.reduceSucc, evI_callP, callPK_some, I87, hk, e1, e2, e3, e4, e5, e6, w1, w2, w3, w4, by8_eq]
def ipO (c : UInt8) (ip : Nat) : Opt := (c, encb 4 ip)
def oneO (c n : UInt8) : Opt := (c, [n])
theorem s35 (c : UInt8) (ip : Nat) (hi : ip < 4294967296) : pcall E 35 [.int .u8 (c.toNat : Int), .int .u32 (ip : Int)] = some (.agg (encO (ipO c ip)), []) := by
  rw [pcall_go (fn := I35) rfl rfl rfl]
  have hk : E.keep 35 = false := rfl
  have hu : (UInt64.ofNat ip).toNat = ip := by simp; omega
  have q := fun g => s86 g [UInt64.ofNat ip] (by simp) 4
  have e1 : rowE 4 [UInt64.ofNat ip] = 0 := by
    simp only [rowE, fits, List.all_cons, List.all_nil, hu]
    rw [if_pos (by simp; omega)]
  have e2 : rowB_ 4 [UInt64.ofNat ip] = encb 4 ip := by
    simp only [rowE] at e1
    simp only [rowB_, fits, List.all_cons, List.all_nil, hu]
    rw [if_pos (by simp; omega)]
    simp [rowb, hu]
  have k2 : E.keep 86 = false := rfl
  rw [e1, e2, k2] at q
  simp only [us, List.map_cons, List.map_nil, u64v, hu, kres_f] at q
  simp (disch := first | omega | (simp only [List.length_cons, List.length_nil, List.length_append, List.length_map, List.length_set]; omega) | rfl | (simp only [List.length_cons, List.length_nil, List.length_append, List.length_map, List.length_set, List.length_replicate, List.all_cons, List.all_nil, List.all_append, storable, plainB, Bool.and_self]; done)) only [go_sem, reduceCtorEq, ↓reduceIte, Nat.reduceEqDiff, Nat.reduceAdd, Nat.reduceSub, Nat.reduceMul, Nat.reduceLeDiff, Nat.reduceLT, Nat.reduceBEq, Nat.reduceBNe, Int.reduceAdd, Int.reduceSub, Int.reduceMul, Int.reduceNeg, Int.reduceEq, Int.reduceNe, Int.reduceLT, Int.reduceLE, Int.reduceToNat, reduceDIte, Nat.reduceSucc, evI_callP, callPK_some, I35, hk, q, encO_mk, ipO]
theorem s37 (c : UInt8) (ip : Nat) (hi : ip < 4294967296) : pcall E 37 [.int .u8 (c.toNat : Int), .int .u32 (ip : Int)] = some (.agg (encO (ipO c ip)), []) := by
  rw [pcall_go (fn := I37) rfl rfl rfl]
  have hk : E.keep 37 = false := rfl
  have q := s87 ip hi
  simp (disch := first | omega | (simp only [List.length_cons, List.length_nil, List.length_append, List.length_map, List.length_set]; omega) | rfl | (simp only [List.length_cons, List.length_nil, List.length_append, List.length_map, List.length_set, List.length_replicate, List.all_cons, List.all_nil, List.all_append, storable, plainB, Bool.and_self]; done)) only [go_sem, reduceCtorEq, ↓reduceIte, Nat.reduceEqDiff, Nat.reduceAdd, Nat.reduceSub, Nat.reduceMul, Nat.reduceLeDiff, Nat.reduceLT, Nat.reduceBEq, Nat.reduceBNe, Int.reduceAdd, Int.reduceSub, Int.reduceMul, Int.reduceNeg, Int.reduceEq, Int.reduceNe, Int.reduceLT, Int.reduceLE, Int.reduceToNat, reduceDIte, Nat.reduceSucc, evI_callP, callPK_some, I37, hk, q, encO_mk, ipO]
theorem s36 (c n : UInt8) : pcall E 36 [.int .u8 (c.toNat : Int), .int .u8 (n.toNat : Int)] = some (.agg (encO (oneO c n)), []) := by
  rw [pcall_go (fn := I36) rfl rfl rfl]
  have hk : E.keep 36 = false := rfl
  simp (disch := first | omega | (simp only [List.length_cons, List.length_nil, List.length_append, List.length_map, List.length_set]; omega) | rfl | (simp only [List.length_cons, List.length_nil, List.length_append, List.length_map, List.length_set, List.length_replicate, List.all_cons, List.all_nil, List.all_append, storable, plainB, Bool.and_self]; done)) only [go_sem, reduceCtorEq, ↓reduceIte, Nat.reduceEqDiff, Nat.reduceAdd, Nat.reduceSub, Nat.reduceMul, Nat.reduceLeDiff, Nat.reduceLT, Nat.reduceBEq, Nat.reduceBNe, Int.reduceAdd, Int.reduceSub, Int.reduceMul, Int.reduceNeg, Int.reduceEq, Int.reduceNe, Int.reduceLT, Int.reduceLE, Int.reduceToNat, reduceDIte, Nat.reduceSucc, evI_callP, callPK_some, I36, hk, encO_mk, oneO, by8_eq]
theorem s38 (c n : UInt8) : pcall E 38 [.int .u8 (c.toNat : Int), .int .u8 (n.toNat : Int)] = some (.agg (encO (oneO c n)), []) := by
  rw [pcall_go (fn := I38) rfl rfl rfl]
  have hk : E.keep 38 = false := rfl
  simp (disch := first | omega | (simp only [List.length_cons, List.length_nil, List.length_append, List.length_map, List.length_set]; omega) | rfl | (simp only [List.length_cons, List.length_nil, List.length_append, List.length_map, List.length_set, List.length_replicate, List.all_cons, List.all_nil, List.all_append, storable, plainB, Bool.and_self]; done)) only [go_sem, reduceCtorEq, ↓reduceIte, Nat.reduceEqDiff, Nat.reduceAdd, Nat.reduceSub, Nat.reduceMul, Nat.reduceLeDiff, Nat.reduceLT, Nat.reduceBEq, Nat.reduceBNe, Int.reduceAdd, Int.reduceSub, Int.reduceMul, Int.reduceNeg, Int.reduceEq, Int.reduceNe, Int.reduceLT, Int.reduceLE, Int.reduceToNat, reduceDIte, Nat.reduceSucc, evI_callP, callPK_some, I38, hk, encO_mk, oneO, by8_eq]

/-! ### options' bytes -/

def optB (o : Opt) : List UInt8 := o.1 :: UInt8.ofNat o.2.length :: o.2
def optsB (l : List Opt) : List UInt8 := l.flatMap optB
def bytesE : List Opt → Int
  | [] => 0
  | o :: l => if o.1 = 0 ∨ o.1 = 255 then 10 else if 255 < o.2.length then 11 else bytesE l
def bytesB (l : List Opt) : List UInt8 := if bytesE l = 0 then optsB l ++ [255] else []
def bytesV (l : List Opt) : AV := .tup [bs false (bytesB l), .int .i64 (bytesE l)]
theorem optsB_cons (o : Opt) (l : List Opt) : optsB (o :: l) = o.1 :: UInt8.ofNat o.2.length :: (o.2 ++ optsB l) := rfl
theorem optsB_len (l : List Opt) (n : Nat) (h : ∀ o ∈ l, o.2.length ≤ n) : (optsB l).length ≤ l.length * (n + 2) := by
  induction l with
  | nil => simp [optsB]
  | cons o l ih =>
    have h1 := h o (by simp)
    have h2 := ih fun p hp => h p (by simp [hp])
    rw [optsB_cons]
    simp only [List.length_cons, List.length_append]
    rw [Nat.succ_mul]
    omega
/-- What the loop of Bytes comes to. -/
def accV (acc : List UInt8) (v : Nat) (l : List Opt) : AV := if bytesE l = 0 then .tup [.sl 1 0 v 0 (acc ++ optsB l ++ [255]).length, .int .i64 0] else .tup [bs false [], .int .i64 (bytesE l)]

theorem lp28 (g : Bool) (l : List Opt) (hl : small l) : ∀ (n i : Nat), i + n = l.length → ∀ (acc : List UInt8) (v : Nat) (junk : Heap), acc.length + (optsB (l.drop i)).length ≤ 4000000000 →
    ∃ h' v', (T28_0 E (lp E L28_0 [(4, .sl 1 0 v 0 acc.length), (7, opts g l), (8, .int .i64 l.length), (9, .int .i64 i)] (rowB v acc 5 :: junk))) = some (accV acc v' (l.drop i), h') ∧ (bytesE (l.drop i) = 0 → h'[0]? = some (rowB v' (acc ++ optsB (l.drop i) ++ [255]) 5))
  | 0, i, hi, acc, v, junk, hb => by
    have e : l.drop i = [] := List.drop_of_length_le (by omega)
    have g1 : ¬ (i : Int) < l.length := by omega
    rw [e] at hb ⊢
    rw [L28_0_go]
    simp only [optsB, List.flatMap_nil, List.length_nil] at hb
    have h255 := fun h => appR_1 h 1 5 0 v acc.length acc 255 rfl (by omega) (by omega)
    simp only [show ((255 : UInt8).toNat : Int) = 255 from rfl] at h255
    refine ⟨rowB (v + 1) (acc ++ [255]) 5 :: junk, v + 1, ?_, fun _ => by simp [optsB]⟩
    simp (disch := first | omega | (simp only [List.length_cons, List.length_nil, List.length_append, List.length_map, List.length_set]; omega) | rfl | (simp only [List.length_cons, List.length_nil, List.length_append, List.length_map, List.length_set, List.length_replicate, List.all_cons, List.all_nil, List.all_append, storable, plainB, Bool.and_self]; done)) only [go_sem, reduceCtorEq, ↓reduceIte, Nat.reduceEqDiff, Nat.reduceAdd, Nat.reduceSub, Nat.reduceMul, Nat.reduceLeDiff, Nat.reduceLT, Nat.reduceBEq, Nat.reduceBNe, Int.reduceAdd, Int.reduceSub, Int.reduceMul, Int.reduceNeg, Int.reduceEq, Int.reduceNe, Int.reduceLT, Int.reduceLE, Int.reduceToNat, reduceDIte, Nat.reduceSucc, evI_callP, callPK_some, B28_0, T28_0, g1, accV, bytesE, optsB, h255]
  | n + 1, i, hi, acc, v, junk, hb => by
    have g1 : (i : Int) < l.length := by omega
    have hd := drop_nth l i (by omega)
    have hl1 := hl.1
    have hle := hl.2 _ (nth_mem (show i < l.length by omega))
    have ia := fun h => fopt.iaddr h g l .i64 (i : Int) (by omega) (by omega)
    rw [hd] at hb ⊢
    rw [optsB_cons] at hb
    simp only [List.length_cons, List.length_append] at hb
    rw [L28_0_go]
    simp only [Int.toNat_natCast, encO_eq] at ia
    by_cases h0 : (nth l i).1 = 0
    · have h0' := (zz_eq (nth l i).1).2 h0
      have e : bytesE (nth l i :: l.drop (i + 1)) = 10 := by simp [bytesE, h0]
      refine ⟨rowB v acc 5 :: (junk ++ [.cells true (encO (nth l i)) 35]), v, ?_, fun h => by rw [e] at h; omega⟩
      simp (disch := first | omega | (simp only [List.length_cons, List.length_nil, List.length_append, List.length_map, List.length_set]; omega) | rfl | (simp only [List.length_cons, List.length_nil, List.length_append, List.length_map, List.length_set, List.length_replicate, List.all_cons, List.all_nil, List.all_append, storable, plainB, Bool.and_self]; done)) only [go_sem, reduceCtorEq, ↓reduceIte, Nat.reduceEqDiff, Nat.reduceAdd, Nat.reduceSub, Nat.reduceMul, Nat.reduceLeDiff, Nat.reduceLT, Nat.reduceBEq, Nat.reduceBNe, Int.reduceAdd, Int.reduceSub, Int.reduceMul, Int.reduceNeg, Int.reduceEq, Int.reduceNe, Int.reduceLT, Int.reduceLE, Int.reduceToNat, reduceDIte, Nat.reduceSucc, evI_callP, callPK_some, B28_0, T28_0, g1, accV, e, ia, h0', Int.reduceEq, encO_eq]
    have h0' : ¬ ((nth l i).1.toNat : Int) = 0 := fun h => h0 ((zz_eq _).1 h)
    by_cases h1 : (nth l i).1 = 255
    · have h1' := (ff_eq (nth l i).1).2 h1
      have e : bytesE (nth l i :: l.drop (i + 1)) = 10 := by simp [bytesE, h1]
      refine ⟨rowB v acc 5 :: (junk ++ [.cells true (encO (nth l i)) 35]), v, ?_, fun h => by rw [e] at h; omega⟩
      simp (disch := first | omega | (simp only [List.length_cons, List.length_nil, List.length_append, List.length_map, List.length_set]; omega) | rfl | (simp only [List.length_cons, List.length_nil, List.length_append, List.length_map, List.length_set, List.length_replicate, List.all_cons, List.all_nil, List.all_append, storable, plainB, Bool.and_self]; done)) only [go_sem, reduceCtorEq, ↓reduceIte, Nat.reduceEqDiff, Nat.reduceAdd, Nat.reduceSub, Nat.reduceMul, Nat.reduceLeDiff, Nat.reduceLT, Nat.reduceBEq, Nat.reduceBNe, Int.reduceAdd, Int.reduceSub, Int.reduceMul, Int.reduceNeg, Int.reduceEq, Int.reduceNe, Int.reduceLT, Int.reduceLE, Int.reduceToNat, reduceDIte, Nat.reduceSucc, evI_callP, callPK_some, B28_0, T28_0, g1, accV, e, ia, h0', h1', Int.reduceEq, encO_eq]
    have h1' : ¬ ((nth l i).1.toNat : Int) = 255 := fun h => h1 ((ff_eq _).1 h)
    by_cases h2 : 255 < (nth l i).2.length
    · have h2' : (255 : Int) < (nth l i).2.length := by omega
      have e : bytesE (nth l i :: l.drop (i + 1)) = 11 := by simp [bytesE, h0, h1, h2]
      refine ⟨rowB v acc 5 :: (junk ++ [.cells true (encO (nth l i)) 35]), v, ?_, fun h => by rw [e] at h; omega⟩
      simp (disch := first | omega | (simp only [List.length_cons, List.length_nil, List.length_append, List.length_map, List.length_set]; omega) | rfl | (simp only [List.length_cons, List.length_nil, List.length_append, List.length_map, List.length_set, List.length_replicate, List.all_cons, List.all_nil, List.all_append, storable, plainB, Bool.and_self]; done)) only [go_sem, reduceCtorEq, ↓reduceIte, Nat.reduceEqDiff, Nat.reduceAdd, Nat.reduceSub, Nat.reduceMul, Nat.reduceLeDiff, Nat.reduceLT, Nat.reduceBEq, Nat.reduceBNe, Int.reduceAdd, Int.reduceSub, Int.reduceMul, Int.reduceNeg, Int.reduceEq, Int.reduceNe, Int.reduceLT, Int.reduceLE, Int.reduceToNat, reduceDIte, Nat.reduceSucc, evI_callP, callPK_some, B28_0, T28_0, g1, accV, e, ia, h0', h1', h2', Int.reduceEq, encO_eq]
    have h2' : ¬ (255 : Int) < (nth l i).2.length := by omega
    have e : bytesE (nth l i :: l.drop (i + 1)) = bytesE (l.drop (i + 1)) := by simp [bytesE, h0, h1, h2]
    obtain ⟨x, hx⟩ : ∃ x, x = acc ++ [(nth l i).1, UInt8.ofNat (nth l i).2.length] := ⟨_, rfl⟩
    have hxl : x.length = acc.length + 2 := by rw [hx]; simp
    have ea : x ++ (nth l i).2 ++ optsB (l.drop (i + 1)) = acc ++ optsB (nth l i :: l.drop (i + 1)) := by rw [hx]; simp [optsB_cons]
    obtain ⟨h', v', i1, i2⟩ := lp28 g l hl n (i + 1) (by omega) (x ++ (nth l i).2) (v + 2) (junk ++ [.cells true (encO (nth l i)) 35]) (by simp only [List.length_append]; omega)
    rw [ea] at i2
    refine ⟨h', v', ?_, fun h => i2 (by rw [← e]; exact h)⟩
    have ev : accV acc v' (nth l i :: l.drop (i + 1)) = accV (x ++ (nth l i).2) v' (l.drop (i + 1)) := by
      simp only [accV, e, ea]
    rw [ev, ← i1]
    have w := wrapU8 (nth l i).2.length
    have ha1 := fun h => appR_2 h 1 5 0 v acc.length acc (nth l i).1 (UInt8.ofNat (nth l i).2.length) rfl (by omega) (by omega)
    rw [← hx] at ha1
    simp (disch := first | omega | (simp only [List.length_cons, List.length_nil, List.length_append, List.length_map, List.length_set]; omega) | rfl | (simp only [List.length_cons, List.length_nil, List.length_append, List.length_map, List.length_set, List.length_replicate, List.all_cons, List.all_nil, List.all_append, storable, plainB, Bool.and_self]; done)) only [go_sem, reduceCtorEq, ↓reduceIte, Nat.reduceEqDiff, Nat.reduceAdd, Nat.reduceSub, Nat.reduceMul, Nat.reduceLeDiff, Nat.reduceLT, Nat.reduceBEq, Nat.reduceBNe, Int.reduceAdd, Int.reduceSub, Int.reduceMul, Int.reduceNeg, Int.reduceEq, Int.reduceNe, Int.reduceLT, Int.reduceLE, Int.reduceToNat, reduceDIte, Nat.reduceSucc, evI_callP, callPK_some, B28_0, L28_0_lp, g1, ia, h0', h1', h2', Int.reduceEq, encO_eq, w, ha1, hxl]
theorem s28 (g : Bool) (l : List Opt) (hl : small l) (hb : (optsB l).length ≤ 4000000000) : pcall E 28 [opts g l] = some (bytesV l, []) := by
  rw [pcall_go (fn := I28) rfl rfl rfl]
  have hk : E.keep 28 = false := rfl
  obtain ⟨h', v', i1, i2⟩ := lp28 g l hl l.length 0 (by omega) [] 0 [] (by simpa using hb)
  rw [List.drop_zero] at i1 i2
  simp (disch := first | omega | (simp only [List.length_cons, List.length_nil, List.length_append, List.length_map, List.length_set]; omega) | rfl | (simp only [List.length_cons, List.length_nil, List.length_append, List.length_map, List.length_set, List.length_replicate, List.all_cons, List.all_nil, List.all_append, storable, plainB, Bool.and_self]; done)) only [go_sem, reduceCtorEq, ↓reduceIte, Nat.reduceEqDiff, Nat.reduceAdd, Nat.reduceSub, Nat.reduceMul, Nat.reduceLeDiff, Nat.reduceLT, Nat.reduceBEq, Nat.reduceBNe, Int.reduceAdd, Int.reduceSub, Int.reduceMul, Int.reduceNeg, Int.reduceEq, Int.reduceNe, Int.reduceLT, Int.reduceLE, Int.reduceToNat, reduceDIte, Nat.reduceSucc, evI_callP, callPK_some, I28, hk, L28_0_lp, olen]
  refine (congrArg (Option.bind · (finish false)) i1).trans ?_
  by_cases h : bytesE l = 0
  · have := i2 h
    simp only [accV, h, if_true, bytesV, bytesB]
    rw [List.nil_append] at this ⊢
    generalize optsB l ++ [255] = x at *
    simp (disch := first | omega | (simp only [List.length_cons, List.length_nil, List.length_append, List.length_map, List.length_set]; omega) | rfl | (simp only [List.length_cons, List.length_nil, List.length_append, List.length_map, List.length_set, List.length_replicate, List.all_cons, List.all_nil, List.all_append, storable, plainB, Bool.and_self]; done)) only [go_sem, reduceCtorEq, ↓reduceIte, Nat.reduceEqDiff, Nat.reduceAdd, Nat.reduceSub, Nat.reduceMul, Nat.reduceLeDiff, Nat.reduceLT, Nat.reduceBEq, Nat.reduceBNe, Int.reduceAdd, Int.reduceSub, Int.reduceMul, Int.reduceNeg, Int.reduceEq, Int.reduceNe, Int.reduceLT, Int.reduceLE, Int.reduceToNat, reduceDIte, Nat.reduceSucc, evI_callP, callPK_some, this]
  · simp only [accV, h, if_false, bytesV, bytesB]
    simp (disch := first | omega | (simp only [List.length_cons, List.length_nil, List.length_append, List.length_map, List.length_set]; omega) | rfl | (simp only [List.length_cons, List.length_nil, List.length_append, List.length_map, List.length_set, List.length_replicate, List.all_cons, List.all_nil, List.all_append, storable, plainB, Bool.and_self]; done)) only [go_sem, reduceCtorEq, ↓reduceIte, Nat.reduceEqDiff, Nat.reduceAdd, Nat.reduceSub, Nat.reduceMul, Nat.reduceLeDiff, Nat.reduceLT, Nat.reduceBEq, Nat.reduceBNe, Int.reduceAdd, Int.reduceSub, Int.reduceMul, Int.reduceNeg, Int.reduceEq, Int.reduceNe, Int.reduceLT, Int.reduceLE, Int.reduceToNat, reduceDIte, Nat.reduceSucc, evI_callP, callPK_some]
theorem lp29 (g : Bool) (l : List Opt) (hl : small l) : ∀ (n i : Nat), i + n = l.length → ∀ (acc : List UInt8) (v : Nat) (junk : Heap), acc.length + (optsB (l.drop i)).length ≤ 4000000000 →
    ∃ h' v', (T29_0 E (lp E L29_0 [(0, opts g l), (4, .sl 1 0 v 0 acc.length), (5, .int .i64 i)] (rowB v acc 5 :: junk))) = some (accV acc v' (l.drop i), h') ∧ (bytesE (l.drop i) = 0 → h'[0]? = some (rowB v' (acc ++ optsB (l.drop i) ++ [255]) 5))
  | 0, i, hi, acc, v, junk, hb => by
    have e : l.drop i = [] := List.drop_of_length_le (by omega)
    have g1 : ¬ (i : Int) < l.length := by omega
    rw [e] at hb ⊢
    rw [L29_0_go]
    simp only [optsB, List.flatMap_nil, List.length_nil] at hb
    have h255 := fun h => appR_1 h 1 5 0 v acc.length acc 255 rfl (by omega) (by omega)
    simp only [show ((255 : UInt8).toNat : Int) = 255 from rfl] at h255
    refine ⟨rowB (v + 1) (acc ++ [255]) 5 :: junk, v + 1, ?_, fun _ => by simp [optsB]⟩
    simp (disch := first | omega | (simp only [List.length_cons, List.length_nil, List.length_append, List.length_map, List.length_set]; omega) | rfl | (simp only [List.length_cons, List.length_nil, List.length_append, List.length_map, List.length_set, List.length_replicate, List.all_cons, List.all_nil, List.all_append, storable, plainB, Bool.and_self]; done)) only [go_sem, reduceCtorEq, ↓reduceIte, Nat.reduceEqDiff, Nat.reduceAdd, Nat.reduceSub, Nat.reduceMul, Nat.reduceLeDiff, Nat.reduceLT, Nat.reduceBEq, Nat.reduceBNe, Int.reduceAdd, Int.reduceSub, Int.reduceMul, Int.reduceNeg, Int.reduceEq, Int.reduceNe, Int.reduceLT, Int.reduceLE, Int.reduceToNat, reduceDIte, Nat.reduceSucc, evI_callP, callPK_some, B29_0, T29_0, g1, olen, accV, bytesE, optsB, h255]
  | n + 1, i, hi, acc, v, junk, hb => by
    have g1 : (i : Int) < l.length := by omega
    have hd := drop_nth l i (by omega)
    have hl1 := hl.1
    have hle := hl.2 _ (nth_mem (show i < l.length by omega))
    have ia := fun h => fopt.iaddr h g l .i64 (i : Int) (by omega) (by omega)
    rw [hd] at hb ⊢
    rw [optsB_cons] at hb
    simp only [List.length_cons, List.length_append] at hb
    rw [L29_0_go]
    simp only [Int.toNat_natCast, encO_eq] at ia
    by_cases h0 : (nth l i).1 = 0
    · have h0' := (zz_eq (nth l i).1).2 h0
      have e : bytesE (nth l i :: l.drop (i + 1)) = 10 := by simp [bytesE, h0]
      refine ⟨rowB v acc 5 :: (junk ++ [.cells true (encO (nth l i)) 52]), v, ?_, fun h => by rw [e] at h; omega⟩
      simp (disch := first | omega | (simp only [List.length_cons, List.length_nil, List.length_append, List.length_map, List.length_set]; omega) | rfl | (simp only [List.length_cons, List.length_nil, List.length_append, List.length_map, List.length_set, List.length_replicate, List.all_cons, List.all_nil, List.all_append, storable, plainB, Bool.and_self]; done)) only [go_sem, reduceCtorEq, ↓reduceIte, Nat.reduceEqDiff, Nat.reduceAdd, Nat.reduceSub, Nat.reduceMul, Nat.reduceLeDiff, Nat.reduceLT, Nat.reduceBEq, Nat.reduceBNe, Int.reduceAdd, Int.reduceSub, Int.reduceMul, Int.reduceNeg, Int.reduceEq, Int.reduceNe, Int.reduceLT, Int.reduceLE, Int.reduceToNat, reduceDIte, Nat.reduceSucc, evI_callP, callPK_some, B29_0, T29_0, g1, olen, accV, e, ia, h0', Int.reduceEq, encO_eq]
    have h0' : ¬ ((nth l i).1.toNat : Int) = 0 := fun h => h0 ((zz_eq _).1 h)
    by_cases h1 : (nth l i).1 = 255
    · have h1' := (ff_eq (nth l i).1).2 h1
      have e : bytesE (nth l i :: l.drop (i + 1)) = 10 := by simp [bytesE, h1]
      refine ⟨rowB v acc 5 :: (junk ++ [.cells true (encO (nth l i)) 52]), v, ?_, fun h => by rw [e] at h; omega⟩
      simp (disch := first | omega | (simp only [List.length_cons, List.length_nil, List.length_append, List.length_map, List.length_set]; omega) | rfl | (simp only [List.length_cons, List.length_nil, List.length_append, List.length_map, List.length_set, List.length_replicate, List.all_cons, List.all_nil, List.all_append, storable, plainB, Bool.and_self]; done)) only [go_sem, reduceCtorEq, ↓reduceIte, Nat.reduceEqDiff, Nat.reduceAdd, Nat.reduceSub, Nat.reduceMul, Nat.reduceLeDiff, Nat.reduceLT, Nat.reduceBEq, Nat.reduceBNe, Int.reduceAdd, Int.reduceSub, Int.reduceMul, Int.reduceNeg, Int.reduceEq, Int.reduceNe, Int.reduceLT, Int.reduceLE, Int.reduceToNat, reduceDIte, Nat.reduceSucc, evI_callP, callPK_some, B29_0, T29_0, g1, olen, accV, e, ia, h0', h1', Int.reduceEq, encO_eq]
    have h1' : ¬ ((nth l i).1.toNat : Int) = 255 := fun h => h1 ((ff_eq _).1 h)
    by_cases h2 : 255 < (nth l i).2.length
    · have h2' : (255 : Int) < (nth l i).2.length := by omega
      have e : bytesE (nth l i :: l.drop (i + 1)) = 11 := by simp [bytesE, h0, h1, h2]
      refine ⟨rowB v acc 5 :: (junk ++ [.cells true (encO (nth l i)) 52]), v, ?_, fun h => by rw [e] at h; omega⟩
      simp (disch := first | omega | (simp only [List.length_cons, List.length_nil, List.length_append, List.length_map, List.length_set]; omega) | rfl | (simp only [List.length_cons, List.length_nil, List.length_append, List.length_map, List.length_set, List.length_replicate, List.all_cons, List.all_nil, List.all_append, storable, plainB, Bool.and_self]; done)) only [go_sem, reduceCtorEq, ↓reduceIte, Nat.reduceEqDiff, Nat.reduceAdd, Nat.reduceSub, Nat.reduceMul, Nat.reduceLeDiff, Nat.reduceLT, Nat.reduceBEq, Nat.reduceBNe, Int.reduceAdd, Int.reduceSub, Int.reduceMul, Int.reduceNeg, Int.reduceEq, Int.reduceNe, Int.reduceLT, Int.reduceLE, Int.reduceToNat, reduceDIte, Nat.reduceSucc, evI_callP, callPK_some, B29_0, T29_0, g1, olen, accV, e, ia, h0', h1', h2', Int.reduceEq, encO_eq]
    have h2' : ¬ (255 : Int) < (nth l i).2.length := by omega
    have e : bytesE (nth l i :: l.drop (i + 1)) = bytesE (l.drop (i + 1)) := by simp [bytesE, h0, h1, h2]
    obtain ⟨x, hx⟩ : ∃ x, x = acc ++ [(nth l i).1, UInt8.ofNat (nth l i).2.length] := ⟨_, rfl⟩
    have hxl : x.length = acc.length + 2 := by rw [hx]; simp
    have ea : x ++ (nth l i).2 ++ optsB (l.drop (i + 1)) = acc ++ optsB (nth l i :: l.drop (i + 1)) := by rw [hx]; simp [optsB_cons]
    obtain ⟨h', v', i1, i2⟩ := lp29 g l hl n (i + 1) (by omega) (x ++ (nth l i).2) (v + 2) (junk ++ [.cells true (encO (nth l i)) 52]) (by simp only [List.length_append]; omega)
    rw [ea] at i2
    refine ⟨h', v', ?_, fun h => i2 (by rw [← e]; exact h)⟩
    have ev : accV acc v' (nth l i :: l.drop (i + 1)) = accV (x ++ (nth l i).2) v' (l.drop (i + 1)) := by
      simp only [accV, e, ea]
    rw [ev, ← i1]
    have w := wrapU8 (nth l i).2.length
    have ha1 := fun h => appR_2 h 1 5 0 v acc.length acc (nth l i).1 (UInt8.ofNat (nth l i).2.length) rfl (by omega) (by omega)
    rw [← hx] at ha1
    simp (disch := first | omega | (simp only [List.length_cons, List.length_nil, List.length_append, List.length_map, List.length_set]; omega) | rfl | (simp only [List.length_cons, List.length_nil, List.length_append, List.length_map, List.length_set, List.length_replicate, List.all_cons, List.all_nil, List.all_append, storable, plainB, Bool.and_self]; done)) only [go_sem, reduceCtorEq, ↓reduceIte, Nat.reduceEqDiff, Nat.reduceAdd, Nat.reduceSub, Nat.reduceMul, Nat.reduceLeDiff, Nat.reduceLT, Nat.reduceBEq, Nat.reduceBNe, Int.reduceAdd, Int.reduceSub, Int.reduceMul, Int.reduceNeg, Int.reduceEq, Int.reduceNe, Int.reduceLT, Int.reduceLE, Int.reduceToNat, reduceDIte, Nat.reduceSucc, evI_callP, callPK_some, B29_0, L29_0_lp, g1, olen, ia, h0', h1', h2', Int.reduceEq, encO_eq, w, ha1, hxl]
theorem s29 (g : Bool) (l : List Opt) (hl : small l) (hb : (optsB l).length ≤ 4000000000) : pcall E 29 [opts g l] = some (bytesV l, []) := by
  rw [pcall_go (fn := I29) rfl rfl rfl]
  have hk : E.keep 29 = false := rfl
  obtain ⟨h', v', i1, i2⟩ := lp29 g l hl l.length 0 (by omega) [] 0 [] (by simpa using hb)
  rw [List.drop_zero] at i1 i2
  simp (disch := first | omega | (simp only [List.length_cons, List.length_nil, List.length_append, List.length_map, List.length_set]; omega) | rfl | (simp only [List.length_cons, List.length_nil, List.length_append, List.length_map, List.length_set, List.length_replicate, List.all_cons, List.all_nil, List.all_append, storable, plainB, Bool.and_self]; done)) only [go_sem, reduceCtorEq, ↓reduceIte, Nat.reduceEqDiff, Nat.reduceAdd, Nat.reduceSub, Nat.reduceMul, Nat.reduceLeDiff, Nat.reduceLT, Nat.reduceBEq, Nat.reduceBNe, Int.reduceAdd, Int.reduceSub, Int.reduceMul, Int.reduceNeg, Int.reduceEq, Int.reduceNe, Int.reduceLT, Int.reduceLE, Int.reduceToNat, reduceDIte, Nat.reduceSucc, evI_callP, callPK_some, I29, hk, L29_0_lp, olen]
  refine (congrArg (Option.bind · (finish false)) i1).trans ?_
  by_cases h : bytesE l = 0
  · have := i2 h
    simp only [accV, h, if_true, bytesV, bytesB]
    rw [List.nil_append] at this ⊢
    generalize optsB l ++ [255] = x at *
    simp (disch := first | omega | (simp only [List.length_cons, List.length_nil, List.length_append, List.length_map, List.length_set]; omega) | rfl | (simp only [List.length_cons, List.length_nil, List.length_append, List.length_map, List.length_set, List.length_replicate, List.all_cons, List.all_nil, List.all_append, storable, plainB, Bool.and_self]; done)) only [go_sem, reduceCtorEq, ↓reduceIte, Nat.reduceEqDiff, Nat.reduceAdd, Nat.reduceSub, Nat.reduceMul, Nat.reduceLeDiff, Nat.reduceLT, Nat.reduceBEq, Nat.reduceBNe, Int.reduceAdd, Int.reduceSub, Int.reduceMul, Int.reduceNeg, Int.reduceEq, Int.reduceNe, Int.reduceLT, Int.reduceLE, Int.reduceToNat, reduceDIte, Nat.reduceSucc, evI_callP, callPK_some, this]
  · simp only [accV, h, if_false, bytesV, bytesB]
    simp (disch := first | omega | (simp only [List.length_cons, List.length_nil, List.length_append, List.length_map, List.length_set]; omega) | rfl | (simp only [List.length_cons, List.length_nil, List.length_append, List.length_map, List.length_set, List.length_replicate, List.all_cons, List.all_nil, List.all_append, storable, plainB, Bool.and_self]; done)) only [go_sem, reduceCtorEq, ↓reduceIte, Nat.reduceEqDiff, Nat.reduceAdd, Nat.reduceSub, Nat.reduceMul, Nat.reduceLeDiff, Nat.reduceLT, Nat.reduceBEq, Nat.reduceBNe, Int.reduceAdd, Int.reduceSub, Int.reduceMul, Int.reduceNeg, Int.reduceEq, Int.reduceNe, Int.reduceLT, Int.reduceLE, Int.reduceToNat, reduceDIte, Nat.reduceSucc, evI_callP, callPK_some]

/-! ### options as the references have them -/

theorem lp25 (g : Bool) (l : List Opt) (hl : small l) : ∀ (n i : Nat), i + n = l.length → (T25_0 E (lp E L25_0 [(0, opts g l), (3, .sl 2 0 i 0 i), (4, .int .i64 i)] [rowO i (l.take i) 52])) = some (.sl 2 0 l.length 0 l.length, [rowO l.length l 52])
  | 0, i, hi => by
    have e : i = l.length := by omega
    subst e
    rw [List.take_length, L25_0_go]
    simp (disch := first | omega | (simp only [List.length_cons, List.length_nil, List.length_append, List.length_map, List.length_set]; omega) | rfl | (simp only [List.length_cons, List.length_nil, List.length_append, List.length_map, List.length_set, List.length_replicate, List.all_cons, List.all_nil, List.all_append, storable, plainB, Bool.and_self]; done)) only [go_sem, reduceCtorEq, ↓reduceIte, Nat.reduceEqDiff, Nat.reduceAdd, Nat.reduceSub, Nat.reduceMul, Nat.reduceLeDiff, Nat.reduceLT, Nat.reduceBEq, Nat.reduceBNe, Int.reduceAdd, Int.reduceSub, Int.reduceMul, Int.reduceNeg, Int.reduceEq, Int.reduceNe, Int.reduceLT, Int.reduceLE, Int.reduceToNat, reduceDIte, Nat.reduceSucc, evI_callP, callPK_some, B25_0, T25_0, olen, Int.lt_irrefl]
  | n + 1, i, hi => by
    have g1 : (i : Int) < l.length := by omega
    have hl1 := hl.1
    have hle := hl.2 _ (nth_mem (show i < l.length by omega))
    have ia := fun h => fopt.iaddr h g l .i64 (i : Int) (by omega) (by omega)
    have ih := lp25 g l hl n (i + 1) (by omega)
    have q := fun g => s21 g (nth l i).2 (by omega)
    have ht : l.take i ++ [nth l i] = l.take (i + 1) := by rw [List.take_succ_eq_append_getElem (by omega), nth_get l i (by omega)]
    have htl : (l.take i).length = i := by rw [List.length_take]; omega
    have hap := fun h => fopt.app1 h 32 52 0 i i (l.take i) (nth l i) htl (by omega) (by omega)
    rw [ht] at hap
    rw [L25_0_go, ← ih]
    simp only [Int.toNat_natCast, encO_eq] at ia hap
    simp (disch := first | omega | (simp only [List.length_cons, List.length_nil, List.length_append, List.length_map, List.length_set]; omega) | rfl | (simp only [List.length_cons, List.length_nil, List.length_append, List.length_map, List.length_set, List.length_replicate, List.all_cons, List.all_nil, List.all_append, storable, plainB, Bool.and_self]; done)) only [go_sem, reduceCtorEq, ↓reduceIte, Nat.reduceEqDiff, Nat.reduceAdd, Nat.reduceSub, Nat.reduceMul, Nat.reduceLeDiff, Nat.reduceLT, Nat.reduceBEq, Nat.reduceBNe, Int.reduceAdd, Int.reduceSub, Int.reduceMul, Int.reduceNeg, Int.reduceEq, Int.reduceNe, Int.reduceLT, Int.reduceLE, Int.reduceToNat, reduceDIte, Nat.reduceSucc, evI_callP, callPK_some, B25_0, L25_0_lp, g1, ia, q, hap, olen]
theorem s25 (g : Bool) (l : List Opt) (hl : small l) : pcall E 25 [opts g l] = some (opts false l, []) := by
  rw [pcall_go (fn := I25) rfl rfl rfl]
  have hk : E.keep 25 = false := rfl
  have i1 := lp25 g l hl l.length 0 (by omega)
  simp (disch := first | omega | (simp only [List.length_cons, List.length_nil, List.length_append, List.length_map, List.length_set]; omega) | rfl | (simp only [List.length_cons, List.length_nil, List.length_append, List.length_map, List.length_set, List.length_replicate, List.all_cons, List.all_nil, List.all_append, storable, plainB, Bool.and_self]; done)) only [go_sem, reduceCtorEq, ↓reduceIte, Nat.reduceEqDiff, Nat.reduceAdd, Nat.reduceSub, Nat.reduceMul, Nat.reduceLeDiff, Nat.reduceLT, Nat.reduceBEq, Nat.reduceBNe, Int.reduceAdd, Int.reduceSub, Int.reduceMul, Int.reduceNeg, Int.reduceEq, Int.reduceNe, Int.reduceLT, Int.reduceLE, Int.reduceToNat, reduceDIte, Nat.reduceSucc, evI_callP, callPK_some, I25, hk, L25_0_lp]
  have hs := fopt.sn false [rowO l.length l 52] 7 0 l.length l.length l 52 rfl rfl
  exact (congrArg (Option.bind · (finish false)) i1).trans (by simp only [go_sem, reduceCtorEq, ↓reduceIte, Nat.reduceEqDiff, Nat.reduceAdd, Nat.reduceSub, Nat.reduceMul, Nat.reduceLeDiff, Nat.reduceLT, Nat.reduceBEq, Nat.reduceBNe, Int.reduceAdd, Int.reduceSub, Int.reduceMul, Int.reduceNeg, Int.reduceEq, Int.reduceNe, Int.reduceLT, Int.reduceLE, Int.reduceToNat, reduceDIte, Nat.reduceSucc, evI_callP, callPK_some, hs])

/-- Are options more than are looked at? -/
def bigO (l : List Opt) : Bool := l.any fun o => decide (300 < o.2.length)
theorem lp27 (g : Bool) (l : List Opt) (hl : l.length ≤ 60) : ∀ (n i : Nat), i + n = l.length → (T27_0 E (lp E L27_0 [(0, opts g l), (3, .int .i64 i)] [])) = some (.bool (bigO (l.drop i)), [])
  | 0, i, hi => by
    have e : i = l.length := by omega
    subst e
    rw [List.drop_length, L27_0_go]
    simp (disch := first | omega | (simp only [List.length_cons, List.length_nil, List.length_append, List.length_map, List.length_set]; omega) | rfl | (simp only [List.length_cons, List.length_nil, List.length_append, List.length_map, List.length_set, List.length_replicate, List.all_cons, List.all_nil, List.all_append, storable, plainB, Bool.and_self]; done)) only [go_sem, reduceCtorEq, ↓reduceIte, Nat.reduceEqDiff, Nat.reduceAdd, Nat.reduceSub, Nat.reduceMul, Nat.reduceLeDiff, Nat.reduceLT, Nat.reduceBEq, Nat.reduceBNe, Int.reduceAdd, Int.reduceSub, Int.reduceMul, Int.reduceNeg, Int.reduceEq, Int.reduceNe, Int.reduceLT, Int.reduceLE, Int.reduceToNat, reduceDIte, Nat.reduceSucc, evI_callP, callPK_some, B27_0, T27_0, olen, Int.lt_irrefl]
    rfl
  | n + 1, i, hi => by
    have g1 : (i : Int) < l.length := by omega
    have hd := drop_nth l i (by omega)
    have ia := fun h => fopt.iaddr h g l .i64 (i : Int) (by omega) (by omega)
    have ih := lp27 g l hl n (i + 1) (by omega)
    rw [hd, L27_0_go]
    simp only [Int.toNat_natCast, encO_eq] at ia
    by_cases h : 300 < (nth l i).2.length
    · have h' : (300 : Int) < (nth l i).2.length := by omega
      have e : bigO (nth l i :: l.drop (i + 1)) = true := by simp [bigO, h]
      rw [e]
      simp (disch := first | omega | (simp only [List.length_cons, List.length_nil, List.length_append, List.length_map, List.length_set]; omega) | rfl | (simp only [List.length_cons, List.length_nil, List.length_append, List.length_map, List.length_set, List.length_replicate, List.all_cons, List.all_nil, List.all_append, storable, plainB, Bool.and_self]; done)) only [go_sem, reduceCtorEq, ↓reduceIte, Nat.reduceEqDiff, Nat.reduceAdd, Nat.reduceSub, Nat.reduceMul, Nat.reduceLeDiff, Nat.reduceLT, Nat.reduceBEq, Nat.reduceBNe, Int.reduceAdd, Int.reduceSub, Int.reduceMul, Int.reduceNeg, Int.reduceEq, Int.reduceNe, Int.reduceLT, Int.reduceLE, Int.reduceToNat, reduceDIte, Nat.reduceSucc, evI_callP, callPK_some, B27_0, T27_0, g1, ia, h', olen]
    · have h' : ¬ (300 : Int) < (nth l i).2.length := by omega
      have e : bigO (nth l i :: l.drop (i + 1)) = bigO (l.drop (i + 1)) := by simp [bigO, h]
      rw [e, ← ih]
      simp (disch := first | omega | (simp only [List.length_cons, List.length_nil, List.length_append, List.length_map, List.length_set]; omega) | rfl | (simp only [List.length_cons, List.length_nil, List.length_append, List.length_map, List.length_set, List.length_replicate, List.all_cons, List.all_nil, List.all_append, storable, plainB, Bool.and_self]; done)) only [go_sem, reduceCtorEq, ↓reduceIte, Nat.reduceEqDiff, Nat.reduceAdd, Nat.reduceSub, Nat.reduceMul, Nat.reduceLeDiff, Nat.reduceLT, Nat.reduceBEq, Nat.reduceBNe, Int.reduceAdd, Int.reduceSub, Int.reduceMul, Int.reduceNeg, Int.reduceEq, Int.reduceNe, Int.reduceLT, Int.reduceLE, Int.reduceToNat, reduceDIte, Nat.reduceSucc, evI_callP, callPK_some, B27_0, L27_0_lp, g1, ia, h', olen]
def greatO (l : List Opt) : Bool := decide (60 < l.length) || bigO l
theorem s27 (g : Bool) (l : List Opt) : pcall E 27 [opts g l] = some (.bool (greatO l), []) := by
  rw [pcall_go (fn := I27) rfl rfl rfl]
  have hk : E.keep 27 = false := rfl
  unfold greatO
  by_cases h : 60 < l.length
  · have h' : (60 : Int) < l.length := by omega
    simp (disch := first | omega | (simp only [List.length_cons, List.length_nil, List.length_append, List.length_map, List.length_set]; omega) | rfl | (simp only [List.length_cons, List.length_nil, List.length_append, List.length_map, List.length_set, List.length_replicate, List.all_cons, List.all_nil, List.all_append, storable, plainB, Bool.and_self]; done)) only [go_sem, reduceCtorEq, ↓reduceIte, Nat.reduceEqDiff, Nat.reduceAdd, Nat.reduceSub, Nat.reduceMul, Nat.reduceLeDiff, Nat.reduceLT, Nat.reduceBEq, Nat.reduceBNe, Int.reduceAdd, Int.reduceSub, Int.reduceMul, Int.reduceNeg, Int.reduceEq, Int.reduceNe, Int.reduceLT, Int.reduceLE, Int.reduceToNat, reduceDIte, Nat.reduceSucc, evI_callP, callPK_some, I27, hk, olen, h, h']
  · have h' : ¬ (60 : Int) < l.length := by omega
    have i1 := lp27 g l (by omega) l.length 0 (by omega)
    rw [List.drop_zero] at i1
    simp (disch := first | omega | (simp only [List.length_cons, List.length_nil, List.length_append, List.length_map, List.length_set]; omega) | rfl | (simp only [List.length_cons, List.length_nil, List.length_append, List.length_map, List.length_set, List.length_replicate, List.all_cons, List.all_nil, List.all_append, storable, plainB, Bool.and_self]; done)) only [go_sem, reduceCtorEq, ↓reduceIte, Nat.reduceEqDiff, Nat.reduceAdd, Nat.reduceSub, Nat.reduceMul, Nat.reduceLeDiff, Nat.reduceLT, Nat.reduceBEq, Nat.reduceBNe, Int.reduceAdd, Int.reduceSub, Int.reduceMul, Int.reduceNeg, Int.reduceEq, Int.reduceNe, Int.reduceLT, Int.reduceLE, Int.reduceToNat, reduceDIte, Nat.reduceSucc, evI_callP, callPK_some, I27, hk, L27_0_lp, olen, h', h]
    exact (congrArg (Option.bind · (finish false)) i1).trans (by simp only [go_sem, reduceCtorEq, ↓reduceIte, Nat.reduceEqDiff, Nat.reduceAdd, Nat.reduceSub, Nat.reduceMul, Nat.reduceLeDiff, Nat.reduceLT, Nat.reduceBEq, Nat.reduceBNe, Int.reduceAdd, Int.reduceSub, Int.reduceMul, Int.reduceNeg, Int.reduceEq, Int.reduceNe, Int.reduceLT, Int.reduceLE, Int.reduceToNat, reduceDIte, Nat.reduceSucc, evI_callP, callPK_some])
theorem great_small {l : List Opt} (h : greatO l = false) : small l ∧ l.length ≤ 60 ∧ ∀ o ∈ l, o.2.length ≤ 300 := by
  simp only [greatO, bigO, Bool.or_eq_false_iff, decide_eq_false_iff_not, List.any_eq_false, decide_eq_true_eq, Nat.not_lt] at h
  obtain ⟨h1, h2⟩ := h
  exact ⟨⟨by omega, fun o ho => by have := h2 o ho; omega⟩, h1, h2⟩
end Go.Fw.Wd
