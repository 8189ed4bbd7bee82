/-
  What Ip, One, Bytes answer of options, the program's and the document's; options as the references have them. Conditions: stated at each.
-/
import Derived.Test.YtefkoichicalfaaWdNumber
set_option linter.unusedVariables false
set_option linter.unusedSimpArgs false
namespace Go.Fw.Wd
open Go.Proofs Code_

/-! ### an Ip's bytes, one byte -/

theorem four_eq (n : Nat) (hn : n < 4294967296) : encb 4 n = [UInt8.ofNat (n / 16777216), UInt8.ofNat (n / 65536), UInt8.ofNat (n / 256), UInt8.ofNat n] := by
  simp [encb]
theorem qu32 (n k : Nat) (hn : n < 4294967296) : IntKind.u32.wrap (Int.tdiv (n : Int) (k : Int)) = ((n / k : Nat) : Int) := by
  have h1 : Int.tdiv (n : Int) (k : Int) = ((n / k : Nat) : Int) := by rw [Int.tdiv_eq_ediv_of_nonneg (by omega), Int.natCast_ediv]
  have h2 : n / k ≤ n := Nat.div_le_self n k
  rw [h1]
  generalize n / k = q at *
  rw [wu32 (by omega) (by omega)]
theorem rm (n k : Nat) : Int.tmod (n : Int) (k : Int) = ((n % k : Nat) : Int) := by rw [Int.tmod_eq_emod_of_nonneg (by omega), Int.natCast_emod]
theorem wrapU8_mod (n : Nat) : UInt8.ofNat (n % 256) = UInt8.ofNat n := by
  apply UInt8.toNat_inj.1
  simp
def ipO (c : UInt8) (ip : Nat) : Opt := (c, encb 4 ip)
def oneO (c n : UInt8) : Opt := (c, [n])
theorem s15 (c : UInt8) (ip : Nat) (hi : ip < 4294967296) : pcall E 15 [.int .u8 (c.toNat : Int), .int .u32 (ip : Int)] = some (.agg (encO (ipO c ip)), []) := by
  rw [pcall_go (fn := I15) rfl rfl rfl]
  have hk : E.keep 15 = false := rfl
  have hu : (UInt64.ofNat ip).toNat = ip := by simp; omega
  have q := fun g => s38 g [UInt64.ofNat ip] (by simp) 4
  have e1 : rowE 4 [UInt64.ofNat ip] = 0 := by
    simp only [rowE, fits, List.all_cons, List.all_nil, hu]
    rw [if_pos (by simp; omega)]
  have e2 : rowB_ 4 [UInt64.ofNat ip] = encb 4 ip := by
    simp only [rowE] at e1
    simp only [rowB_, fits, List.all_cons, List.all_nil, hu]
    rw [if_pos (by simp; omega)]
    simp [rowb, hu]
  have k2 : E.keep 38 = false := rfl
  rw [e1, e2, k2] at q
  simp only [us, List.map_cons, List.map_nil, u64v, hu, kres_f] at q
  simp (disch := first | omega | (simp only [List.length_cons, List.length_nil, List.length_append, List.length_map, List.length_set]; omega) | rfl | (simp only [List.length_cons, List.length_nil, List.length_append, List.length_map, List.length_set, List.length_replicate, List.all_cons, List.all_nil, List.all_append, storable, plainB, Bool.and_self]; done)) only [go_sem, reduceCtorEq, ↓reduceIte, reduceDIte, evI_callP, callPK_some, I15, hk, q, encO_mk, ipO]
theorem s14 (c n : UInt8) : pcall E 14 [.int .u8 (c.toNat : Int), .int .u8 (n.toNat : Int)] = some (.agg (encO (oneO c n)), []) := by
  rw [pcall_go (fn := I14) rfl rfl rfl]
  have hk : E.keep 14 = false := rfl
  simp (disch := first | omega | (simp only [List.length_cons, List.length_nil, List.length_append, List.length_map, List.length_set]; omega) | rfl | (simp only [List.length_cons, List.length_nil, List.length_append, List.length_map, List.length_set, List.length_replicate, List.all_cons, List.all_nil, List.all_append, storable, plainB, Bool.and_self]; done)) only [go_sem, reduceCtorEq, ↓reduceIte, reduceDIte, evI_callP, callPK_some, I14, hk, encO_mk, oneO, by8_eq]
def optB (o : Opt) : List UInt8 := o.1 :: UInt8.ofNat o.2.length :: o.2
def optsB (l : List Opt) : List UInt8 := l.flatMap optB
def bytesE : List Opt → Int
  | [] => 0
  | o :: l => if o.1 = 0 ∨ o.1 = 255 then 10 else if 255 < o.2.length then 11 else bytesE l
def bytesB (l : List Opt) : List UInt8 := if bytesE l = 0 then optsB l ++ [255] else []
def bytesV (l : List Opt) : AV := .tup [bs false (bytesB l), .int .i64 (bytesE l)]
theorem optsB_cons (o : Opt) (l : List Opt) : optsB (o :: l) = o.1 :: UInt8.ofNat o.2.length :: (o.2 ++ optsB l) := rfl
theorem optsB_len (l : List Opt) (n : Nat) (h : ∀ o ∈ l, o.2.length ≤ n) : (optsB l).length ≤ l.length * (n + 2) := by
  induction l with
  | nil => simp [optsB]
  | cons o l ih =>
    have h1 := h o (by simp)
    have h2 := ih fun p hp => h p (by simp [hp])
    rw [optsB_cons]
    simp only [List.length_cons, List.length_append]
    rw [Nat.succ_mul]
    omega
/-- What the loop of Bytes comes to. -/
def accV (acc : List UInt8) (v : Nat) (l : List Opt) : AV := if bytesE l = 0 then .tup [.sl 1 0 v 0 (acc ++ optsB l ++ [255]).length, .int .i64 0] else .tup [bs false [], .int .i64 (bytesE l)]

/-- Are options more than are looked at? -/
def bigO (l : List Opt) : Bool := l.any fun o => decide (300 < o.2.length)
def greatO (l : List Opt) : Bool := decide (60 < l.length) || bigO l
theorem great_small {l : List Opt} (h : greatO l = false) : small l ∧ l.length ≤ 60 ∧ ∀ o ∈ l, o.2.length ≤ 300 := by
  simp only [greatO, bigO, Bool.or_eq_false_iff, decide_eq_false_iff_not, List.any_eq_false, decide_eq_true_eq, Nat.not_lt] at h
  obtain ⟨h1, h2⟩ := h
  exact ⟨⟨by omega, fun o ho => by have := h2 o ho; omega⟩, h1, h2⟩
end Go.Fw.Wd
