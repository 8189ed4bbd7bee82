/-
  The book's reading functions: bound, over, Free, Of, find, Len. Conditions: stated at each.
-/
import Derived.Test.YtefkoichicalfaaWdLmod
import Derived.Test.YtefkoichicalfaaWdLal
set_option linter.unusedVariables false
set_option linter.unusedSimpArgs false
namespace Go.Fw.Wd
open Go.Proofs Code_

/-- A book that is only read. -/
abbrev Bk.av (g : Bool) (B : Bk) : AV := .rp g (.agg [.int .u32 (B.fst.toNat : Int), .int .u32 (B.lst.toNat : Int), .rm g (.int .u32) (encB B.bar), .rm g .str (encL B.ln), .rm g (.int .u32) (encR B.rs)])
abbrev Ln.av (l : Ln) : AV := .agg [.int .u32 (l.ip.toNat : Int), .bool l.firm, .int .u64 (l.til.toNat : Int)]
def zLn : Ln := ⟨0, false, 0⟩
abbrev w32 (a : UInt32) : AV := .int .u32 (a.toNat : Int)
abbrev i64u (a : UInt64) : AV := .int .u64 (a.toNat : Int)
abbrev sv (c : List UInt8) : AV := .str ⟨c.toArray⟩

theorem s40 (n : UInt64) : pcall E 40 [i64u n] = some (i64u (bU n), []) := by
  rw [pcall_go (fn := I40) rfl rfl rfl]
  have hk : E.keep 40 = false := rfl
  simp (disch := first | omega | (simp only [List.length_cons, List.length_nil, List.length_append, List.length_map, List.length_set]; omega) | rfl | (simp only [List.length_cons, List.length_nil, List.length_append, List.length_map, List.length_set, List.length_replicate, List.all_cons, List.all_nil, List.all_append, storable, plainB, Bool.and_self]; done)) only [go_sem, reduceCtorEq, ↓reduceIte, reduceDIte, evI_callP, callPK_some, I40, hk]
  have := bU_nat n
  simp only [i64u, Option.some.injEq, Prod.mk.injEq, AV.int.injEq, true_and, and_true]
  omega
theorem s39 (l : Ln) (n : UInt64) : pcall E 39 [l.av, i64u n] = some (.bool (decide (l.til.toNat ≤ n.toNat)), []) := by
  rw [pcall_go (fn := I39) rfl rfl rfl]
  have hk : E.keep 39 = false := rfl
  simp (disch := first | omega | (simp only [List.length_cons, List.length_nil, List.length_append, List.length_map, List.length_set]; omega) | rfl | (simp only [List.length_cons, List.length_nil, List.length_append, List.length_map, List.length_set, List.length_replicate, List.all_cons, List.all_nil, List.all_append, storable, plainB, Bool.and_self]; done)) only [go_sem, reduceCtorEq, ↓reduceIte, reduceDIte, evI_callP, callPK_some, I39, hk, Int.ofNat_le]
theorem eLn_some (l : Ln) : lnV (eLn l) = some ((l.ip.toNat : Int), l.firm, (l.til.toNat : Int)) := rfl
theorem hit_eLn (ip : UInt32) (t : UInt64) (l : Ln) : hit (ip.toNat : Int) (t.toNat : Int) (eLn l) = l.hit ip t := by
  unfold hit Ln.hit
  rw [eLn_some]
  have h1 : ((l.ip.toNat : Int) = (ip.toNat : Int)) ↔ l.ip = ip := ⟨fun h => UInt32.toNat_inj.1 (by omega), fun h => by rw [h]⟩
  simp only [h1, Int.ofNat_le]
theorem wf32 (a : UInt32) : (Lit.int .u32 (a.toNat : Int)).wf = true := by
  have := a.toNat_lt
  simp [Lit.wf, IntKind.min, IntKind.max, IntKind.signed, IntKind.bits]
  omega
theorem s22 (g : Bool) (B : Bk) (ip : UInt32) (now : UInt64) : pcall E 22 [B.av g, w32 ip, i64u now] = some (.bool (B.free ip now), []) := by
  rw [pcall_prim (p := freeP) rfl]
  have e1 : (mget (.i .u32 (ip.toNat : Int)) (encB B.bar)).getD ⟨false, [.b false]⟩ = ⟨false, [.b (decide (ip ∈ B.bar))]⟩ := by
    rw [mget_B]
    by_cases h : ip ∈ B.bar <;> simp [h]
  have e2 : (mget (.i .u32 (ip.toNat : Int)) (encR B.rs)).getD ⟨false, [.i .u64 0]⟩ = ⟨false, [.i .u64 (((aget ip B.rs).getD 0).toNat : Int)]⟩ := by
    rw [mget_R]
    cases aget ip B.rs <;> rfl
  simp only [freeP, e1, e2, freeQ]
  have h3 : ((encL B.ln).all fun p => (lnV p.2).isSome) = true := by
    unfold encL
    rw [List.all_map, List.all_eq_true]
    intro p _
    rfl
  rw [if_pos ⟨wf32 ip, h3⟩]
  congr 3
  unfold freeB Bk.free
  rw [bnd_bU]
  have e4 : ((encL B.ln).all fun p => !hit (ip.toNat : Int) ((bU now).toNat : Int) p.2) = B.ln.all fun p => !p.2.hit ip (bU now) := by
    unfold encL
    rw [List.all_map]
    congr 1
    funext p
    simp only [Function.comp, hit_eLn]
  rw [e4]
  simp only [Int.ofNat_lt]
theorem s17 (g : Bool) (B : Bk) : pcall E 17 [B.av g] = some (.int .i64 (B.ln.length : Int), []) := by
  rw [pcall_go (fn := I17) rfl rfl rfl]
  have hk : E.keep 17 = false := rfl
  simp (disch := first | omega | (simp only [List.length_cons, List.length_nil, List.length_append, List.length_map, List.length_set]; omega) | rfl | (simp only [List.length_cons, List.length_nil, List.length_append, List.length_map, List.length_set, List.length_replicate, List.all_cons, List.all_nil, List.all_append, storable, plainB, Bool.and_self]; done)) only [go_sem, reduceCtorEq, ↓reduceIte, reduceDIte, evI_callP, callPK_some, I17, hk, len_encL]
theorem getD_eLn (o : Option Ln) : ((o.map eLn).getD (⟨true, [.i .u32 0, .b false, .i .u64 0]⟩ : PE)).av = (o.getD zLn).av := by
  cases o <;> rfl
theorem s16 (g : Bool) (B : Bk) (c : List UInt8) (hc : c.length ≤ 1048576) (now : UInt64) : pcall E 16 [B.av g, sv c, i64u now] = some (.tup [((B.of c now).getD zLn).av, .bool (B.of c now).isSome], []) := by
  rw [pcall_go (fn := I16) rfl rfl rfl]
  have hk : E.keep 16 = false := rfl
  have q35 := fun n => s40 n
  have q36 := fun l n => s39 l n
  have hm := mget_L c B.ln
  have hl : c.length ≤ maxLen := by unfold maxLen; omega
  have hz : (zLn.av : AV) = .agg [.int .u32 0, .bool false, .int .u64 0] := rfl
  unfold Bk.of
  cases ho : aget c B.ln with
  | none =>
    rw [ho] at hm
    simp (disch := first | omega | (simp only [List.length_cons, List.length_nil, List.length_append, List.length_map, List.length_set]; omega) | rfl | (simp only [List.length_cons, List.length_nil, List.length_append, List.length_map, List.length_set, List.length_replicate, List.all_cons, List.all_nil, List.all_append, storable, plainB, Bool.and_self]; done)) only [go_sem, reduceCtorEq, ↓reduceIte, reduceDIte, evI_callP, callPK_some, I16, hk, q35, q36, hm, hl]
    rfl
  | some l =>
    rw [ho] at hm
    by_cases h : l.til.toNat ≤ (bU now).toNat
    · simp (disch := first | omega | (simp only [List.length_cons, List.length_nil, List.length_append, List.length_map, List.length_set]; omega) | rfl | (simp only [List.length_cons, List.length_nil, List.length_append, List.length_map, List.length_set, List.length_replicate, List.all_cons, List.all_nil, List.all_append, storable, plainB, Bool.and_self]; done)) only [go_sem, reduceCtorEq, ↓reduceIte, reduceDIte, evI_callP, callPK_some, I16, hk, q35, q36, hm, hl, eLn, h]
      rfl
    · simp (disch := first | omega | (simp only [List.length_cons, List.length_nil, List.length_append, List.length_map, List.length_set]; omega) | rfl | (simp only [List.length_cons, List.length_nil, List.length_append, List.length_map, List.length_set, List.length_replicate, List.all_cons, List.all_nil, List.all_append, storable, plainB, Bool.and_self]; done)) only [go_sem, reduceCtorEq, ↓reduceIte, reduceDIte, evI_callP, callPK_some, I16, hk, q35, q36, hm, hl, eLn, h]
/-- A free address, from so many on. -/
def Bk.scan (B : Bk) (now : UInt64) : Nat → Nat → Option UInt32
  | 0, _ => none
  | n + 1, k => if B.free (UInt32.ofNat (B.fst.toNat + k)) now then some (UInt32.ofNat (B.fst.toNat + k)) else B.scan now n (k + 1)
def Bk.find (B : Bk) (wish : UInt32) (now : UInt64) : Option UInt32 := if B.free wish now then some wish else B.scan now (B.lst.toNat - B.fst.toNat + 1) 0
structure Bk.Ok (B : Bk) : Prop where
  le : B.fst.toNat ≤ B.lst.toNat
  few : B.lst.toNat - B.fst.toNat < 256
theorem of32 {n : Nat} (h : n < 4294967296) : (UInt32.ofNat n).toNat = n := by
  rw [UInt32.toNat_ofNat']
  exact Nat.mod_eq_of_lt h
theorem bfind_loop (g : Bool) (B : Bk) (hB : B.Ok) (now : UInt64) (junk : Heap) : ∀ (n k : Nat), k + n = B.lst.toNat - B.fst.toNat + 1 →
    T73_0 E (lp E L73_0 [(0, B.av g), (2, i64u now), (24, .int .u32 ((B.lst.toNat : Int) - B.fst.toNat + 1)), (25, .int .u32 (k : Int))] junk) = some (.tup [w32 ((B.scan now n k).getD 0), .bool (B.scan now n k).isSome], junk) := by
  have h1 := hB.le
  have h2 := hB.few
  have h3 := B.lst.toNat_lt
  have q14 := fun g ip => s22 g B ip now
  intro n
  induction n with
  | zero =>
    intro k hk
    have hlt : ¬ ((k : Int) < (B.lst.toNat : Int) - B.fst.toNat + 1) := by omega
    rw [L73_0_go]
    simp (disch := first | omega | (simp only [List.length_cons, List.length_nil, List.length_append, List.length_map, List.length_set]; omega) | rfl | (simp only [List.length_cons, List.length_nil, List.length_append, List.length_map, List.length_set, List.length_replicate, List.all_cons, List.all_nil, List.all_append, storable, plainB, Bool.and_self]; done)) only [go_sem, reduceCtorEq, ↓reduceIte, reduceDIte, evI_callP, callPK_some, B73_0, T73_0, hlt, Bk.scan]
    rfl
  | succ n ih =>
    intro k hk
    have hlt : ((k : Int) < (B.lst.toNat : Int) - B.fst.toNat + 1) := by omega
    have hw : IntKind.u32.wrap ((B.fst.toNat : Int) + k) = ((UInt32.ofNat (B.fst.toNat + k)).toNat : Int) := by
      rw [wu32 (by omega) (by omega), of32 (by omega)]
      omega
    have hw2 : IntKind.u32.wrap ((k : Int) + 1) = ((k + 1 : Nat) : Int) := by
      rw [wu32 (by omega) (by omega)]
      omega
    rw [L73_0_go]
    cases hf : B.free (UInt32.ofNat (B.fst.toNat + k)) now with
    | true =>
      simp (disch := first | omega | (simp only [List.length_cons, List.length_nil, List.length_append, List.length_map, List.length_set]; omega) | rfl | (simp only [List.length_cons, List.length_nil, List.length_append, List.length_map, List.length_set, List.length_replicate, List.all_cons, List.all_nil, List.all_append, storable, plainB, Bool.and_self]; done)) only [go_sem, reduceCtorEq, ↓reduceIte, reduceDIte, evI_callP, callPK_some, B73_0, T73_0, hlt, Bk.scan, hw, q14, hf]
    | false =>
      have ih := ih (k + 1) (by omega)
      simp (disch := first | omega | (simp only [List.length_cons, List.length_nil, List.length_append, List.length_map, List.length_set]; omega) | rfl | (simp only [List.length_cons, List.length_nil, List.length_append, List.length_map, List.length_set, List.length_replicate, List.all_cons, List.all_nil, List.all_append, storable, plainB, Bool.and_self]; done)) only [go_sem, reduceCtorEq, ↓reduceIte, reduceDIte, evI_callP, callPK_some, B73_0, T73_0, hlt, Bk.scan, hw, hw2, q14, hf, L73_0_lp] at ih ⊢
      exact ih
theorem s73 (g : Bool) (B : Bk) (hB : B.Ok) (wish : UInt32) (now : UInt64) : pcall E 73 [B.av g, w32 wish, i64u now] = some (.tup [w32 ((B.find wish now).getD 0), .bool (B.find wish now).isSome], []) := by
  have h1 := hB.le
  have h2 := hB.few
  have h3 := B.lst.toNat_lt
  have q14 := fun g ip => s22 g B ip now
  rw [pcall_go (fn := I73) rfl rfl rfl]
  have hk : E.keep 73 = false := rfl
  have hw : IntKind.u32.wrap ((B.lst.toNat : Int) - B.fst.toNat) = (B.lst.toNat : Int) - B.fst.toNat := wu32 (by omega) (by omega)
  have hw2 : IntKind.u32.wrap ((B.lst.toNat : Int) - B.fst.toNat + 1) = (B.lst.toNat : Int) - B.fst.toNat + 1 := wu32 (by omega) (by omega)
  unfold Bk.find
  cases hf : B.free wish now with
  | true => simp (disch := first | omega | (simp only [List.length_cons, List.length_nil, List.length_append, List.length_map, List.length_set]; omega) | rfl | (simp only [List.length_cons, List.length_nil, List.length_append, List.length_map, List.length_set, List.length_replicate, List.all_cons, List.all_nil, List.all_append, storable, plainB, Bool.and_self]; done)) only [go_sem, reduceCtorEq, ↓reduceIte, reduceDIte, evI_callP, callPK_some, I73, hk, q14, hf]
  | false =>
    have i1 := bfind_loop g B hB now [] (B.lst.toNat - B.fst.toNat + 1) 0 (by omega)
    simp (disch := first | omega | (simp only [List.length_cons, List.length_nil, List.length_append, List.length_map, List.length_set]; omega) | rfl | (simp only [List.length_cons, List.length_nil, List.length_append, List.length_map, List.length_set, List.length_replicate, List.all_cons, List.all_nil, List.all_append, storable, plainB, Bool.and_self]; done)) only [go_sem, reduceCtorEq, ↓reduceIte, reduceDIte, evI_callP, callPK_some, I73, hk, q14, hf, hw, hw2, L73_0_lp]
    exact (congrArg (Option.bind · (finish false)) i1).trans (by simp only [go_sem, reduceCtorEq, ↓reduceIte, reduceDIte, evI_callP, callPK_some])
end Go.Fw.Wd
