/-
  Two bytes as a number, and a great total folded. Conditions: stated at each.
  sum.Total: the bytes of all rows in pairs, added and folded. Conditions: stated at each.
-/
import Derived.Test.YtigiopahmiaedaaGreatDoorWdConc
import Derived.Test.YtigiopahmiaedaaGreatDoorWdChunks
import Derived.Shelf.RegionOpen
set_option linter.unusedVariables false
set_option linter.unusedSimpArgs false
namespace Go.Fw.Wd
open Go.Proofs Code_

/-- Two bytes, or one and a nought, as a number. -/
def pairN : List UInt8 → Nat
  | [] => 0
  | [a] => a.toNat * 256
  | a :: b :: _ => a.toNat * 256 + b.toNat
theorem pairN_lt (l : List UInt8) : pairN l < 65536 := by
  match l with
  | [] => decide
  | [a] => have := a.toNat_lt; simp only [pairN]; omega
  | a :: b :: _ => have := a.toNat_lt; have := b.toNat_lt; simp only [pairN]; omega
/-- A great total as a number of 16 bits. -/
def foldN (n : Nat) : Nat := if n = 0 then 0 else (n - 1) % 65535 + 1
theorem foldN_lt (n : Nat) : foldN n < 65536 := by unfold foldN; split <;> omega
theorem foldN_small {n : Nat} (h : n ≤ 65535) : foldN n = n := by unfold foldN; split <;> omega

theorem or16 {a x : Int} (h0 : 0 ≤ a) (h1 : a < 256) (x0 : 0 ≤ x) (x1 : x < 256) : bitsI .or .u16 (a * 256) x = a * 256 + x := by
  show IntKind.u16.wrap ((BitVec.ofInt 16 (a * 256) ||| BitVec.ofInt 16 x).toNat : Int) = _
  have e1 : (BitVec.ofInt 16 (a * 256)).toNat = a.toNat <<< 8 := by
    rw [BitVec.toNat_ofInt, Nat.shiftLeft_eq]
    omega
  have e2 : (BitVec.ofInt 16 x).toNat = x.toNat := by
    rw [BitVec.toNat_ofInt]
    omega
  rw [BitVec.toNat_or, e1, e2, ← Nat.shiftLeft_add_eq_or_of_lt (by omega), Nat.shiftLeft_eq]
  rw [wu16 (by omega) (by omega)]
  omega
theorem shl16 {a : Int} (h0 : 0 ≤ a) (h1 : a < 256) : shiftI .shl .u16 a 8 = some (.int .u16 (a * 256)) := by
  have : ¬ (8 : Int) < 0 := by omega
  have e : IntKind.u16.wrap (a * 2 ^ (min (8 : Int).toNat IntKind.u16.bits)) = a * 256 := by
    show IntKind.u16.wrap (a * 256) = _
    exact wu16 (by omega) (by omega)
  simp only [shiftI, this, if_false, wrapI, e]

section
variable {E : Env}
theorem number_call (hp : E.prim 102 = none) (hf : E.fns 102 = some I102) (hk : E.keep 102 = false) (g : Bool) (l : List UInt8) (hl : l.length ≤ 2) : pcall E 102 [bs g l] = some (.int .u16 (pairN l : Nat), []) := by
  rw [pcall_go (fn := I102) hp hf rfl]
  match l, hl with
  | [], _ =>
    have e1 : shiftI .shl .u16 0 8 = some (.int .u16 0) := rfl
    have e2 : bitsI .or .u16 0 0 = 0 := rfl
    have e3 : cpR [.cells true [.int .u8 0, .int .u8 0] 207] [] 0 0 0 0 2 (some (.cells true [.int .u8 0, .int .u8 0] 207)) = some (.int .i64 0, [.cells true [.int .u8 0, .int .u8 0] 207]) := rfl
    simp (disch := first | omega | (simp only [List.length_cons, List.length_nil, List.length_append, List.length_map, List.length_set]; omega) | rfl | (simp only [List.length_cons, List.length_nil, List.length_append, List.length_map, List.length_set, List.length_replicate, List.all_cons, List.all_nil, List.all_append, storable, plainB, Bool.and_self]; done)) only [go_sem, reduceCtorEq, ↓reduceIte, reduceDIte, evI_callP, callPK_some, Fw.cellsIn, I102, hk, e1, e2, e3, by8_eq, pairN, Nat.zero_le, Int.le_refl]
  | [a], _ =>
    have ha := a.toNat_lt
    have e1 := shl16 (a := a.toNat) (by omega) (by omega)
    have e2 := or16 (a := a.toNat) (x := 0) (by omega) (by omega) (by omega) (by omega)
    simp only [go_sem, reduceCtorEq, ↓reduceIte, reduceDIte, evI_callP, callPK_some, Fw.cellsIn, I102, hk, e1, e2, by8_eq, wb16, pairN, Int.add_zero]
  | [a, b], _ =>
    have ha := a.toNat_lt
    have hb := b.toNat_lt
    have e1 := shl16 (a := a.toNat) (by omega) (by omega)
    have e2 := or16 (a := a.toNat) (x := b.toNat) (by omega) (by omega) (by omega) (by omega)
    simp only [go_sem, reduceCtorEq, ↓reduceIte, reduceDIte, evI_callP, callPK_some, Fw.cellsIn, I102, hk, e1, e2, by8_eq, wb16, pairN]

theorem and_full {n : Int} (h0 : 0 ≤ n) (h1 : n < 18446744073709551616) : bitsI .and .u64 n 65535 = n % 65536 := by
  show IntKind.u64.wrap ((BitVec.ofInt 64 n &&& BitVec.ofInt 64 65535).toNat : Int) = _
  have e1 : (BitVec.ofInt 64 n).toNat = n.toNat := by rw [BitVec.toNat_ofInt]; omega
  have e2 : (BitVec.ofInt 64 65535).toNat = 2 ^ 16 - 1 := rfl
  rw [BitVec.toNat_and, e1, e2, Nat.and_two_pow_sub_one_eq_mod, wu64 (by omega) (by omega)]
  omega
theorem shr_16 {n : Int} (h0 : 0 ≤ n) : shiftI .shr .u64 n 16 = some (.int .u64 (n / 65536)) := by
  have : ¬ (16 : Int) < 0 := by omega
  have e : n.fdiv (2 ^ (min (16 : Int).toNat IntKind.u64.bits)) = n / 65536 := by
    show n.fdiv 65536 = _
    rw [Int.fdiv_eq_ediv_of_nonneg _ (by omega)]
  simp only [shiftI, this, if_false, e]
theorem fold_step {n : Nat} (h : 65535 < n) : foldN (n % 65536 + n / 65536) = foldN n ∧ n % 65536 + n / 65536 < n := by
  refine ⟨?_, by omega⟩
  unfold foldN
  rw [if_neg (by omega), if_neg (by omega)]
  congr 1
  omega

theorem fold_loop : ∀ (n : Nat), n < 18446744073709551616 → ev E L103_0 ⟨[(0, .int .u64 (n : Nat))], []⟩ = some (.exit 0, ⟨[(4, .bool false), (3, .int .u64 (foldN n : Nat)), (0, .int .u64 (foldN n : Nat))], []⟩) := by
  intro n
  induction n using Nat.strongRecOn with
  | _ n ih =>
    intro hn
    rw [L103_0_eq]
    by_cases h : 65535 < n
    · obtain ⟨h1, h2⟩ := fold_step h
      have h3 : (65535 : Int) < n := by omega
      have ih' := ih (n % 65536 + n / 65536) h2 (by omega)
      have e1 := and_full (n := n) (by omega) (by omega)
      have e2 := shr_16 (n := n) (by omega)
      have e3 : ((n % 65536 + n / 65536 : Nat) : Int) = (n : Int) % 65536 + (n : Int) / 65536 := by omega
      rw [e3, h1] at ih'
      have e4 : IntKind.u64.wrap ((n : Int) % 65536 + (n : Int) / 65536) = (n : Int) % 65536 + (n : Int) / 65536 := wu64 (by omega) (by omega)
      rw [L103_0_eq] at ih'
      simp only [go_sem, reduceCtorEq, ↓reduceIte, reduceDIte, evI_callP, callPK_some] at ih'
      simp only [go_sem, reduceCtorEq, ↓reduceIte, reduceDIte, evI_callP, callPK_some, B103_0, h3, e1, e2, e4]
      rw [L103_0_eq]
      simp only [go_sem, reduceCtorEq, ↓reduceIte, reduceDIte, evI_callP, callPK_some]
      simp only [B103_0] at ih'
      simp only [B103_0]
      exact ih'
    · have h3 : ¬ (65535 : Int) < n := by omega
      rw [foldN_small (by omega)]
      simp only [go_sem, reduceCtorEq, ↓reduceIte, reduceDIte, evI_callP, callPK_some, B103_0, h3]

theorem fold_call (hp : E.prim 103 = none) (hf : E.fns 103 = some I103) (hk : E.keep 103 = false) (n : Nat) (hn : n < 18446744073709551616) : pcall E 103 [.int .u64 n] = some (.int .u16 (foldN n : Nat), []) := by
  rw [pcall_go (fn := I103) hp hf rfl]
  have h := fold_loop (E := E) n hn
  have hl := foldN_lt n
  simp (disch := first | omega | (simp only [List.length_cons, List.length_nil, List.length_append, List.length_map, List.length_set]; omega) | rfl | (simp only [List.length_cons, List.length_nil, List.length_append, List.length_map, List.length_set, List.length_replicate, List.all_cons, List.all_nil, List.all_append, storable, plainB, Bool.and_self]; done)) only [go_sem, reduceCtorEq, ↓reduceIte, reduceDIte, evI_callP, callPK_some, I103, hk, h]
end
end Go.Fw.Wd
set_option linter.unusedVariables false
set_option linter.unusedSimpArgs false
namespace Go.Fw.Wd
open Go.Proofs Go.RowKit Go.Shelf Code_

attribute [local go_sem] Oper.semAt_some

/-- All pairs, added. -/
def sumW : List UInt8 → Nat
  | [] => 0
  | [a] => a.toNat * 256
  | a :: b :: l => a.toNat * 256 + b.toNat + sumW l
def chunkB (l : List UInt8) (k : Nat) : List UInt8 := (l.drop (2 * k)).take 2
def accN (l : List UInt8) (ks : List Nat) : Nat := (ks.map fun k => pairN (chunkB l k)).sum
theorem accN_snoc (l : List UInt8) (ks : List Nat) (k : Nat) : accN l (ks ++ [k]) = accN l ks + pairN (chunkB l k) := by simp [accN]
theorem accN_le (l : List UInt8) (ks : List Nat) : accN l ks ≤ 65535 * ks.length := by
  induction ks with
  | nil => simp [accN]
  | cons k ks ih =>
    have := pairN_lt (chunkB l k)
    simp only [accN, List.map_cons, List.sum_cons, List.length_cons] at ih ⊢
    omega
theorem chunkB_cons (a b : UInt8) (l : List UInt8) (k : Nat) : chunkB (a :: b :: l) (k + 1) = chunkB l k := by
  unfold chunkB
  rw [show 2 * (k + 1) = 2 * k + 1 + 1 by omega]
  rfl
theorem range_from (f : Nat → Nat) (n : Nat) : ((List.range (n + 1)).map f).sum = f 0 + ((List.range n).map fun k => f (k + 1)).sum := by
  rw [List.range_succ_eq_map]
  simp [List.map_map, Function.comp_def]
theorem accN_all : ∀ l : List UInt8, accN l (List.range ((l.length + 1) / 2)) = sumW l
  | [] => rfl
  | [a] => by simp [accN, chunkB, pairN, sumW, List.range_succ]
  | a :: b :: l => by
    have e : ((a :: b :: l).length + 1) / 2 = (l.length + 1) / 2 + 1 := by simp only [List.length_cons]; omega
    have ih := accN_all l
    unfold accN at ih ⊢
    rw [e, range_from]
    simp only [chunkB_cons]
    rw [ih]
    simp [chunkB, pairN, sumW]

abbrev noF : Forb := F0

theorem rep_len {β : List Value} {h : Heap} {F : Forb} {w : World} {y : AV} {v : Value} {m : Nat} (hr : Rep y β h F w v) (hm : lenIn y = some m) (hc : curOk h y = true) : ∀ sa n c, v = .slice sa n c → n = m ∧ m ≤ c := by
  intro sa n c hv
  subst hv
  cases y <;> simp only [lenIn, reduceCtorEq, Option.some.injEq] at hm <;> subst hm <;> simp only [Rep] at hr
  case nils => injection hr with h1 h2 h3; subst h2; exact ⟨rfl, Nat.zero_le _⟩
  case rs g z l =>
    obtain ⟨a, c', vs, h1, h2, _⟩ := hr
    injection h1 with h3 h4 h5
    subst h4; subst h5
    exact ⟨rfl, h2⟩
  case sl z l ver o n' =>
    obtain ⟨_, _, h1⟩ := hr
    have h1 := h1 hc
    cases hbv : β.getD l default <;> rw [hbv] at h1 <;> simp only [SlRep] at h1
    case slice ad mm cc =>
      cases ad with
      | none =>
        simp only at h1
        obtain ⟨h2, h3⟩ := h1
        injection h3 with h4 h5 h6
        omega
      | some ad =>
        simp only at h1
        obtain ⟨o', c', h3, h4, _⟩ := h1
        injection h3 with h5 h6 h7
        omega
    case pointer ad =>
      cases ad with
      | none => simp only at h1
      | some ad =>
        simp only at h1
        obtain ⟨o', c', h3, h4, _⟩ := h1
        injection h3 with h5 h6 h7
        omega

theorem by8_rep {β : List Value} {h : Heap} {F : Forb} {w : World} : ∀ {l : List UInt8} {us : List Value}, RepL (l.map by8) β h F w us → us = l.map fun b => Value.int .u8 (b.toNat : Int)
  | [], us, h => h
  | b :: l, us, h => by
    obtain ⟨u, us', rfl, h1, h2⟩ := h
    have : u = .int .u8 (b.toNat : Int) := h1
    subst this
    rw [by8_rep h2]
    rfl

/-- slices.Concat, called: a slice with the bytes; none of what may not be relied on. -/
theorem concat_calls (g : Bool) (ps : List Part) (h1 : ps.length ≤ 140737488355328) (h2 : (cat ps).length ≤ 140737488355328) (b0 : Nat) (w : World) (hb0 : b0 < w.heap.size) (hw : LaidW w) (u : Value) (hr : RepL [.rs g 1 (ps.map encP)] [] [] (FB b0) w [u]) :
    Calls Tryz.prog 56 #[u] w fun e w' => ∃ sa c, e = .returned (.slice sa (cat ps).length c) ∧ (cat ps).length ≤ c ∧ Below w.heap.size w w' ∧ (sa = none → (cat ps).length = 0) ∧
      (∀ ad, sa = some ad → ∀ j, j < (cat ps).length → ad.block ≠ b0 ∧ ad.block < w'.heap.size ∧ w'.cell? (ad.add j) = some (.int .u8 ((nth (cat ps) j).toNat : Int))) := by
  have hspec := pcall_sound E1_ok (concat_call (E := E1) rfl rfl rfl g ps h1 h2)
  refine (hspec.2.2 (FB b0) w [u] (FB_ok hw hb0) hr).mono ?_
  rintro e w' ⟨v, βr, rfl, hbel, hrel, hown, hrep⟩
  have key : ∀ (r : AV) (objs : Heap), (kone (E1.keep 56) 5 (cat ps)) = (r, objs) → cellsIn objs 1 r = some ((cat ps).map by8) ∧ lenIn r = some (cat ps).length ∧ curOk objs r = true ∧
      ∀ (β : List Value) (w : World) (v : Value), HeapRel (FB b0) β objs w → (∀ l k, Owns β l k → b0 < k) → Rep r β objs (FOf (FB b0) β) w v → ∀ ad n c, v = .slice (some ad) n c → 0 < (cat ps).length → ad.block ≠ b0 := by
    intro r objs hko
    generalize E1.keep 56 = kk at hko
    cases kk
    · rw [kone_f] at hko
      injection hko with hk1 hk2
      subst hk1; subst hk2
      refine ⟨cells_by8 _ _ _, by simp [lenIn], rfl, fun β w v _ _ hrp ad n c hv hpos => ?_⟩
      subst hv
      simp only [Rep] at hrp
      obtain ⟨a, c', vs, e1, _, _, e2, e3⟩ := hrp
      injection e1 with e4 e5 e6
      subst e4
      have hl := e2.len
      simp at hl
      have hv0 : 0 < vs.length := by omega
      obtain ⟨ad', e7, e8, _⟩ := e3 0 vs[0] (List.getElem?_eq_getElem hv0)
      injection e7 with e7
      subst e7
      exact fun hb => e8 (.inl (.inr hb))
    · rw [kone_t] at hko
      injection hko with hk1 hk2
      subst hk1; subst hk2
      refine ⟨by simp only [cellsIn, if_true, objCells, List.getElem?_cons_zero, Option.bind_some, Nat.zero_add, Nat.mul_one, List.length_map, Nat.le_refl, List.drop_zero]; rw [List.take_of_length_le (by simp)], rfl, rfl, fun β w v hrl how hrp ad n c hv hpos => ?_⟩
      subst hv
      simp only [Rep] at hrp
      obtain ⟨hl, _, e1⟩ := hrp
      have e1 := e1 rfl
      have hβ : β[0]? = some (β.getD 0 default) := by rw [List.getD_eq_getElem?_getD, List.getElem?_eq_getElem hl.1]; rfl
      cases hbv : β.getD 0 default <;> rw [hbv] at e1 hβ <;> simp only [SlRep] at e1
      case slice a' mm cc =>
        cases a' with
        | none => simp only at e1; obtain ⟨_, e2⟩ := e1; injection e2 with e3; cases e3
        | some a' =>
          simp only at e1
          obtain ⟨o', c', e3, _⟩ := e1
          injection e3 with e4
          injection e4 with e4
          have := how 0 a'.block ⟨_, hβ, rfl⟩
          rw [e4]
          exact Nat.ne_of_gt this
      case pointer a' =>
        cases a' with
        | none => simp only at e1
        | some a' =>
          simp only at e1
          obtain ⟨o', c', e3, _⟩ := e1
          injection e3 with e4
          injection e4 with e4
          have := how 0 a'.block ⟨_, hβ, rfl⟩
          rw [e4]
          exact Nat.ne_of_gt this
  obtain ⟨k1, k2, k3, k4⟩ := key _ _ rfl
  obtain ⟨sa, c, us, rfl, e2, e3, e4, e5⟩ := src_cells hrel hrep k1 k2 (store_by8 _) (by omega)
  have e6 := by8_rep e2
  subst e6
  obtain ⟨_, hlc⟩ := rep_len hrep k2 k3 _ _ _ rfl
  refine ⟨sa, c, rfl, hlc, hbel, fun hn => ?_, fun ad had j hj => ?_⟩
  · rcases e5 with ⟨_, h3, _⟩ | ⟨_, h3⟩ | ⟨ad, h3, _⟩
    · exact h3
    · exact h3
    · rw [hn] at h3; cases h3
  · subst had
    have hcell : ∀ j, j < (cat ps).length → w'.cell? (ad.add j) = some (.int .u8 ((nth (cat ps) j).toNat : Int)) := by
      intro j hj
      rcases e5 with ⟨h3, _⟩ | ⟨h3, _⟩ | ⟨ad', h3, h4⟩
      · cases h3
      · cases h3
      · injection h3 with h3
        subst h3
        refine h4 j _ ?_
        rw [List.getElem?_map, List.getElem?_eq_getElem hj, nth_get _ _ hj]
        rfl
    have hc := hcell j hj
    have hlt := World.block_lt_of_cell? w' _ hc
    rw [Addr.add_block] at hlt
    exact ⟨k4 βr w' _ hrel (fun l k ho => Nat.lt_of_lt_of_le hb0 (hown l k ho)) hrep ad _ _ rfl (by omega), hlt, hc⟩

/-- What a round of the sum keeps: all that lay ahead of it but one block. -/
def KeepBut (b0 n₀ : Nat) (A B : World) : Prop := A.heap.size ≤ B.heap.size ∧ ∀ k, k < n₀ → k ≠ b0 → B.heap[k]? = A.heap[k]?
theorem KeepBut.refl (b0 n₀ : Nat) (A : World) : KeepBut b0 n₀ A A := ⟨Nat.le_refl _, fun _ _ _ => rfl⟩
theorem KeepBut.trans {b0 n₀ : Nat} {A B C : World} (h : KeepBut b0 n₀ A B) (k : KeepBut b0 n₀ B C) : KeepBut b0 n₀ A C := ⟨Nat.le_trans h.1 k.1, fun i h1 h2 => (k.2 i h1 h2).trans (h.2 i h1 h2)⟩
theorem KeepBut.cell {b0 n₀ : Nat} {A B : World} (h : KeepBut b0 n₀ A B) {p : Addr} (h1 : p.block < n₀) (h2 : p.block ≠ b0) : B.cell? p = A.cell? p := World.cell?_of_block (h.2 _ h1 h2)
theorem KeepBut.below {b0 n₀ : Nat} {A B : World} (h : Below A.heap.size A B) (hn : n₀ ≤ A.heap.size) : KeepBut b0 n₀ A B := ⟨h.size, fun k h1 _ => h.block k (Nat.lt_of_lt_of_le h1 hn)⟩
theorem KeepBut.setCell {b0 n₀ : Nat} (A : World) (v : Value) : KeepBut b0 n₀ A (A.setCell ⟨b0, 0, none⟩ v) := by
  refine ⟨by simp, fun k _ hk => ?_⟩
  exact Below.heap_setCell A ⟨b0, 0, none⟩ v k hk

theorem number_calls (g : Bool) (l : List UInt8) (hl : l.length ≤ 2) (w : World) (hw : LaidW w) (u : Value) (hr : RepL [bs g l] [] [] noF w [u]) : Calls Tryz.prog 102 #[u] w fun e w' => e = .returned (.int .u16 (pairN l : Nat)) ∧ Below w.heap.size w w' := by
  have hspec := pcall_sound E1_ok (number_call (E := E1) rfl rfl rfl g l hl)
  refine (hspec.2.2 noF w [u] (F0_ok hw) hr).mono ?_
  rintro e w' ⟨v, βr, rfl, hbel, _, _, hrep⟩
  exact ⟨congrArg _ hrep, hbel⟩
theorem fold_calls (n : Nat) (hn : n < 18446744073709551616) (w : World) (hw : LaidW w) : Calls Tryz.prog 103 #[.int .u64 n] w fun e w' => e = .returned (.int .u16 (foldN n : Nat)) ∧ Below w.heap.size w w' := by
  have hspec := pcall_sound E1_ok (fold_call (E := E1) rfl rfl rfl n hn)
  refine (hspec.2.2 noF w [.int .u64 n] (F0_ok hw) ⟨_, _, rfl, rfl, rfl⟩).mono ?_
  rintro e w' ⟨v, βr, rfl, hbel, _, _, hrep⟩
  exact ⟨congrArg _ hrep, hbel⟩

/-- The slice of a round, as bytes. -/
theorem chunk_rep (W : World) (l : List UInt8) (ad : Addr) (k : Nat) (hc : ∀ j, j < l.length → W.cell? (ad.add j) = some (.int .u8 ((nth l j).toNat : Int))) : RepL [bs false (chunkB l k)] [] [] noF W [chunkV ad l.length k] := by
  have hlen : (chunkB l k).length = min 2 (l.length - 2 * k) := by simp [chunkB]
  have hat : ∀ j, j < (chunkB l k).length → W.cell? ((ad.add (2 * k)).add j) = some (.int .u8 ((nth (chunkB l k) j).toNat : Int)) := by
    intro j hj
    rw [Addr.add_add, hc (2 * k + j) (by omega), nth_get _ _ (by omega), nth_get _ _ hj]
    simp [chunkB]
  refine ⟨_, [], rfl, ⟨some (ad.add (2 * k)), min 2 (l.length - 2 * k), (chunkB l k).map fun b => Value.int .u8 (b.toNat : Int), ?_, ?_, by omega, ?_, ?_⟩, rfl⟩
  · simp [chunkV, hlen]
  · simp [hlen]
  · have : ∀ m : List UInt8, RepF (m.map by8) 1 noF W (m.map fun b => Value.int .u8 (b.toNat : Int)) := by
      intro m
      induction m with
      | nil => rfl
      | cons b m ih => exact ⟨.int .u8 (b.toNat : Int), _, rfl, rfl, rfl, ih⟩
    exact this _
  · intro i u hu
    have hi : i < (chunkB l k).length := by simpa using (List.getElem?_eq_some_iff.1 hu).1
    refine ⟨_, rfl, F0_f _, ?_, ?_⟩
    · rw [hat i hi]
      rw [List.getElem?_map, List.getElem?_eq_getElem hi] at hu
      rw [nth_get _ _ hi]
      exact hu
    · rw [List.getElem?_map, List.getElem?_eq_getElem hi] at hu
      injection hu with hu
      subst hu
      rfl

set_option maxRecDepth 100000 in
set_option maxHeartbeats 4000000 in
theorem total_walk (g : Bool) (ps : List Part) (h1 : ps.length ≤ 140737488355328) (h2 : (cat ps).length ≤ 140737488355328) (w : World) (hw : LaidW w) (u : Value) (hr : RepL [.rs g 1 (ps.map encP)] [] [] noF w [u]) :
    Calls Tryz.prog 77 #[u] w fun e w' => e = .returned (.int .u16 (foldN (sumW (cat ps)) : Nat)) ∧ Below w.heap.size w w' := by
  refine (callsIn_wide (n := 5)).1 ?_
  refine callsIn_of_wp_marks Tryz.func77 rfl trivial ?_ rfl
  simp only [Tryz.ntmps77, List.size_toArray, List.length_cons, List.length_nil, Nat.reduceAdd, Nat.reduceSub, Array.replicate_succ, Array.replicate_zero, List.push_toArray, List.append_toArray, List.nil_append, List.cons_append]
  have bN := Boxed.new w 108 (.int .u64 0)
  have hr1 : RepL [.rs g 1 (ps.map encP)] [] [] (FB w.heap.size) (w.alloc (.cells #[.int .u64 0] 108)) [u] := by
    refine RepL.step (fun g k hk hf => ⟨fun h => ?_, ?_⟩) _ Keep.nil hr
    · rcases h with h | h
      · exact hf h
      · omega
    · exact (below_alloc w _).block k hk
  have hcc := concat_calls g ps h1 h2 w.heap.size (w.alloc (.cells #[.int .u64 0] 108)) (by simp) (hw.below (below_alloc w _)) u hr1
  gi_wp2_with (first
    | (refine ⟨trivial, ?_⟩; gi_at_call 56; refine (callsIn_wide.2 hcc).mono ?_; rintro e w2 ⟨sa, c, rfl, hlc, hbel, hnil, hcells⟩)
    | (refine ⟨trivial, ?_⟩; gi_at_call 101; refine (chunk_in Fence.wide _ trivial rfl _ _ _ _).mono ?_; rintro e w3 ⟨rfl, hw3⟩))
  subst hw3
  have hsz1 : w.heap.size + 1 ≤ w2.heap.size := by have := hbel.size; simpa using this
  have bS := (Boxed.new w2 24 (.slice sa (cat ps).length c)).alloc (.cells #[.int .i64 2] 3)
  have bT := Boxed.new (w2.alloc (.cells #[.slice sa (cat ps).length c] 24)) 3 (.int .i64 2)
  rw [World.size_alloc] at bT
  generalize hl : cat ps = l at *
  have hB2 : Below w.heap.size w w2 := (below_alloc w (.cells #[.int .u64 0] 108)).trans (hbel.mono (by simp))
  have hB3 : Below w2.heap.size w2 ((w2.alloc (.cells #[.slice sa l.length c] 24)).alloc (.cells #[.int .i64 2] 3)) := ((Below.refl _ w2).alloc (Nat.le_refl _) _).alloc (by simp) _
  have hcN : ((w2.alloc (.cells #[.slice sa l.length c] 24)).alloc (.cells #[.int .i64 2] 3)).cell? ⟨w.heap.size, 0, none⟩ = some (.int .u64 0) := (hB3.cell (p := ⟨w.heap.size, 0, none⟩) hsz1).trans ((hbel.cell (p := ⟨w.heap.size, 0, none⟩) (by simp)).trans bN.cell)
  have hfN : ((w2.alloc (.cells #[.slice sa l.length c] 24)).alloc (.cells #[.int .i64 2] 3)).frozen? ⟨w.heap.size, 0, none⟩ = false := (hB3.frozen (p := ⟨w.heap.size, 0, none⟩) hsz1).trans ((hbel.frozen (p := ⟨w.heap.size, 0, none⟩) (by simp)).trans bN.frozen)
  have hcB : ∀ ad, sa = some ad → ∀ j, j < l.length → ad.block ≠ w.heap.size ∧ ad.block < w2.heap.size ∧ ((w2.alloc (.cells #[.slice sa l.length c] 24)).alloc (.cells #[.int .i64 2] 3)).cell? (ad.add j) = some (.int .u8 ((nth l j).toNat : Int)) := fun ad had j hj => by
    obtain ⟨g1, g2, g3⟩ := hcells ad had j hj
    exact ⟨g1, g2, (hB3.cell (p := ad.add j) (by rw [Addr.add_block]; exact g2)).trans g3⟩
  have hs3 : ((w2.alloc (.cells #[.slice sa l.length c] 24)).alloc (.cells #[.int .i64 2] 3)).heap.size = w2.heap.size + 2 := by simp
  generalize (w2.alloc (.cells #[.slice sa l.length c] 24)).alloc (.cells #[.int .i64 2] 3) = w3 at *
  have hB0 : Below w.heap.size w w3 := hB2.trans (hB3.mono (by omega))
  refine wpIn_rangeFunc_ownG rfl (by omega) (gf := 112) (lb := #[.pointer (some ⟨w2.heap.size, 0, none⟩), .pointer (some ⟨w2.heap.size + 1, 0, none⟩)]) rfl trivial (enters_of Tryz.func112 (by kernel_rfl) rfl)
    (chunk_stops Fence.wide _ trivial rfl (by omega) w2.heap.size (w2.heap.size + 1) (KeepBut w.heap.size (w2.heap.size + 2)) (fun A B h => h.cell (by simp) (by simp; omega)) (fun A B h => h.cell (by simp) (by simp; omega)) sa l.length c hlc h2 hnil w3 (by omega) (by omega) bS.cell bT.cell)
    KeepBut.trans (fun W k o o' h3 _ _ _ => ⟨by simp [World.putObj], fun i h4 h5 => World.putObj_heap_other (by omega)⟩) (Below.refl _ _) (fun _ => rfl)
    (fun pre W => (((W.cell? ⟨w.heap.size, 0, none⟩ = some (.int .u64 (accN l pre : Nat)) ∧ W.frozen? ⟨w.heap.size, 0, none⟩ = false) ∧ ∀ ad, sa = some ad → ∀ j, j < l.length → W.cell? (ad.add j) = some (.int .u8 ((nth l j).toNat : Int))) ∧ w3.heap.size ≤ W.heap.size) ∧ Below w.heap.size w W)
    (fun _ _ _ => False)
    (OwnFrom.and (Own.from (fun s A B row hs hg hr => ⟨⟨⟨cell_kept hs.1.1.1 hg hr, (frozen_kept hs.1.1.1 hg hr).trans hs.1.1.2⟩, fun ad had j hj => cell_kept (hs.1.2 ad had j hj) hg hr⟩, Nat.le_trans hs.2 hg.size⟩) _) (ownFrom_below (Nat.le_refl _) (by omega)))
    (fun _ _ _ _ _ hs _ _ => hs)
    ⟨⟨⟨⟨hcN, hfN⟩, fun ad had j hj => (hcB ad had j hj).2.2⟩, Nat.le_refl _⟩, hB0⟩
    (fun k => { tmps := #[u, undef, .int .u16 0, .pointer (some ⟨w.heap.size, 0, none⟩), chunkV (sa.getD default) l.length k, u, .slice sa l.length c, .func (.func 112) #[] #[.pointer (some ⟨w2.heap.size, 0, none⟩), .pointer (some ⟨w2.heap.size + 1, 0, none⟩)], chunkV (sa.getD default) l.length k, undef, undef, undef, undef, undef, undef, undef], defers := [] }) ?assign ?body ?done ?stop
  case assign =>
    intro l' x W K hK
    gi_wp2
    exact hK
  case body =>
    rintro l' pre k W ⟨⟨⟨⟨hc, hf⟩, hb⟩, hws⟩, hB⟩ hpl
    cases hsa : sa with
    | none =>
      have := hnil hsa
      omega
    | some ad =>
      have hbd := hb ad hsa
      have hbs : w.heap.size < W.heap.size := by have := hB.size; have := World.block_lt_of_cell? W _ hc; simpa using this
      have hrep := chunk_rep W.drew l ad k hbd
      have hnc := number_calls false (chunkB l k) (by simp only [chunkB, List.length_take]; omega) W.drew (hw.below (hB.drew)) _ hrep
      have hacc : accN l (pre ++ [k]) < 18446744073709551616 := by
        have := accN_le l (pre ++ [k])
        simp only [List.length_append, List.length_cons, List.length_nil] at this
        omega
      rw [accN_snoc] at hacc
      have hwr : IntKind.u64.wrap ((accN l pre : Nat) + (pairN (chunkB l k) : Nat) : Int) = ((accN l pre + pairN (chunkB l k) : Nat) : Int) := by rw [wu64 (by omega) (by omega)]; omega
      have hpn := pairN_lt (chunkB l k)
      have hwp : IntKind.u64.wrap ((pairN (chunkB l k) : Nat) : Int) = (pairN (chunkB l k) : Nat) := wu64 (by omega) (by omega)
      have hmix : Tryz.prog.follows .mixedOrders = true := by kernel_rfl
      gi_wp2
      gi_region_with_o (refine ⟨trivial, ?_⟩; gi_at_call 102; refine (CallsIn.inRound l' (callsIn_wide.2 hnc)).mono ?_; rintro e W2 ⟨rfl, hbel2⟩; have hc2 := (hbel2.cell (p := ⟨w.heap.size, 0, none⟩) hbs).trans hc; have hf2 := (hbel2.frozen (p := ⟨w.heap.size, 0, none⟩) hbs).trans hf)
      all_goals
        gi_wp2
        have hW2 : Below W.heap.size W W2 := ((Below.refl W.heap.size W).drew).trans hbel2
        have hkf : KeepsOthers W W2 := ⟨hW2.size, fun i o hi _ => (hW2.block i (Array.getElem?_eq_some_iff.1 hi).1).trans hi⟩
        refine ⟨(hkf.trans (KeepsOthers.setCell W2 _ _)).from _, (KeepBut.below hW2 (by omega)).trans (KeepBut.setCell W2 _), ⟨⟨⟨⟨?_, ?_⟩, ?_⟩, ?_⟩, ?_⟩⟩
        · rw [accN_snoc, Int.natCast_add]
          exact World.cell?_setCell_same' _ _ _ (by rw [hc2]; rfl)
        · rw [World.frozen?_setCell]
          exact hf2
        · intro ad' had j hj
          obtain ⟨g1, g2, g3⟩ := hcB ad' (hsa.trans had) j hj
          have e1 := hb ad' (hsa.trans had) j hj
          have e2 : W2.cell? (ad'.add j) = some (.int .u8 ((nth l j).toNat : Int)) := (hW2.cell (p := ad'.add j) (by rw [Addr.add_block]; omega)).trans e1
          exact (World.cell?_of_block (Below.heap_setCell W2 ⟨w.heap.size, 0, none⟩ _ _ (by rw [Addr.add_block]; exact g1))).trans e2
        · have := hW2.size
          simp only [World.size_setCell]
          omega
        · exact (hB.trans (hW2.mono hB.size)).setCell (p := ⟨w.heap.size, 0, none⟩) (Nat.le_refl _) _
  case done =>
    rintro D ys W hD rfl ⟨⟨⟨⟨hc, hf⟩, _⟩, hws⟩, hB⟩ hK
    rw [accN_all] at hc
    have hsw : sumW l < 18446744073709551616 := by
      have h5 := accN_le l (List.range ((l.length + 1) / 2))
      rw [accN_all, List.length_range] at h5
      omega
    have hfc := fold_calls (sumW l) hsw W (hw.below hB)
    gi_wp2_with (refine ⟨trivial, ?_⟩; gi_at_call 103; refine (callsIn_wide.2 hfc).mono ?_; rintro e W2 ⟨rfl, hbel2⟩)
    have hDl := (Array.getElem?_eq_some_iff.1 hK).1
    have hK2 : W2.heap[D]? = some (.deferred (some [])) := (hbel2.block D hDl).trans hK
    refine ⟨by simp, .inl ⟨_, _, rfl, run_takeDeferred hK2, ?_⟩⟩
    have hB2' : Below w.heap.size w W2 := hB.trans (hbel2.mono hB.size)
    refine ⟨_, results_tmp rfl _ _ _, ?_, hB2'.trans (belowK_b (w := w) (Nat.le_refl _) W2 D _ _ (by have := hB0.size; omega) hK2 rfl rfl)⟩
    rw [hl]
    rfl
  case stop =>
    rintro D c pre W _ _ h _
    exact h.elim

def u8B : AV → Option UInt8
  | .int k n => if k = .u8 ∧ 0 ≤ n ∧ n < 256 then some (UInt8.ofNat n.toNat) else none
  | _ => none
def u8sB : List AV → Option (List UInt8)
  | [] => some []
  | x :: l => (u8B x).bind fun b => (u8sB l).map (b :: ·)
theorem u8B_spec {x : AV} {b : UInt8} (h : u8B x = some b) : x = by8 b := by
  cases x <;> simp only [u8B, reduceCtorEq] at h
  split at h
  case isFalse => cases h
  rename_i k n hc
  obtain ⟨rfl, h0, h1⟩ := hc
  injection h with h
  subst h
  unfold by8
  rw [UInt8.toNat_ofNat_of_lt' (by show n.toNat < 256; omega)]
  congr 1
  omega
theorem u8B_by8 (b : UInt8) : u8B (by8 b) = some b := by
  have := b.toNat_lt
  simp only [by8, u8B]
  rw [if_pos ⟨trivial, by omega, by omega⟩]
  simp
theorem u8sB_spec : ∀ {l : List AV} {m : List UInt8}, u8sB l = some m → l = m.map by8
  | [], m, h => by
    simp only [u8sB, Option.some.injEq] at h
    subst h
    rfl
  | x :: l, m, h => by
    simp only [u8sB] at h
    cases hb : u8B x with
    | none => rw [hb] at h; cases h
    | some b =>
      rw [hb] at h
      cases hm : u8sB l with
      | none => rw [hm] at h; cases h
      | some m' =>
        rw [hm] at h
        simp only [Option.bind_some, Option.map_some, Option.some.injEq] at h
        subst h
        rw [u8B_spec hb, u8sB_spec hm]
        rfl
theorem u8sB_by8 : ∀ l : List UInt8, u8sB (l.map by8) = some l
  | [] => rfl
  | b :: l => by simp only [List.map_cons, u8sB, u8B_by8, u8sB_by8 l, Option.bind_some, Option.map_some]
def partB : AV → Option Part
  | .rs g z l => if z = 1 then (u8sB l).map (g, ·) else none
  | _ => none
def partsB : List AV → Option (List Part)
  | [] => some []
  | x :: l => (partB x).bind fun b => (partsB l).map (b :: ·)
theorem partB_spec {x : AV} {p : Part} (h : partB x = some p) : x = encP p := by
  cases x <;> simp only [partB, reduceCtorEq] at h
  split at h
  case isFalse => cases h
  rename_i g z l hz
  subst hz
  cases hm : u8sB l with
  | none => rw [hm] at h; cases h
  | some m =>
    rw [hm] at h
    simp only [Option.map_some, Option.some.injEq] at h
    subst h
    rw [u8sB_spec hm]
    rfl
theorem partsB_spec : ∀ {l : List AV} {m : List Part}, partsB l = some m → l = m.map encP
  | [], m, h => by
    simp only [partsB, Option.some.injEq] at h
    subst h
    rfl
  | x :: l, m, h => by
    simp only [partsB] at h
    cases hb : partB x with
    | none => rw [hb] at h; cases h
    | some b =>
      rw [hb] at h
      cases hm : partsB l with
      | none => rw [hm] at h; cases h
      | some m' =>
        rw [hm] at h
        simp only [Option.bind_some, Option.map_some, Option.some.injEq] at h
        subst h
        rw [partB_spec hb, partsB_spec hm]
        rfl
theorem partsB_encP : ∀ l : List Part, partsB (l.map encP) = some l
  | [] => rfl
  | b :: l => by
    have : partB (encP b) = some b := by simp only [encP, partB, if_true, u8sB_by8, Option.map_some]
    simp only [List.map_cons, partsB, this, partsB_encP l, Option.bind_some, Option.map_some]
/-- What sum.Total answers. -/
def totalOf (ps : List Part) : Option (AV × Heap) := if ps.length ≤ 140737488355328 ∧ (cat ps).length ≤ 140737488355328 then some (.int .u16 (foldN (sumW (cat ps)) : Nat), []) else none
def totalV : AV → Option (AV × Heap)
  | .rs g z l => if z = 1 then (partsB l).bind totalOf else none
  | _ => none
def totalP : List AV → Option (AV × Heap)
  | [x] => totalV x
  | _ => none
theorem totalP_eq (g : Bool) (ps : List Part) (h1 : ps.length ≤ 140737488355328) (h2 : (cat ps).length ≤ 140737488355328) : totalP [.rs g 1 (ps.map encP)] = some (.int .u16 (foldN (sumW (cat ps)) : Nat), []) := by
  simp only [totalP, totalV, if_true, partsB_encP, Option.bind_some, totalOf, h1, h2, and_self]

theorem total_enter : EnterOk Tryz.prog 77 := ⟨Tryz.f77, Tryz.func77, rfl, rfl⟩
theorem total_spec (args : List AV) (r : AV) (objs : Heap) (h : totalP args = some (r, objs)) : CallSpec Tryz.prog 77 args r objs := by
  obtain ⟨g, ps, rfl, h1, h2, rfl, rfl⟩ : ∃ g ps, args = [.rs g 1 (ps.map encP)] ∧ ps.length ≤ 140737488355328 ∧ (cat ps).length ≤ 140737488355328 ∧ r = .int .u16 (foldN (sumW (cat ps)) : Nat) ∧ objs = [] := by
    unfold totalP at h
    split at h
    case h_2 => cases h
    rename_i x
    cases x <;> simp only [totalV, reduceCtorEq] at h
    split at h
    case isFalse => cases h
    rename_i g z l hz
    subst hz
    cases hp : partsB l with
    | none => rw [hp] at h; cases h
    | some ps =>
      rw [hp] at h
      simp only [Option.bind_some, totalOf] at h
      split at h
      case isFalse => cases h
      rename_i hc
      injection h with h
      injection h with h3 h4
      exact ⟨g, ps, by rw [partsB_spec hp], hc.1, hc.2, h3.symm, h4.symm⟩
  refine ⟨total_enter, fun o ho => (by simp at ho), fun Bad w us hbad hr => ?_⟩
  obtain ⟨u, us', rfl, hu, hus⟩ := hr
  have : us' = [] := hus
  subst this
  have hr0 : RepL [.rs g 1 (ps.map encP)] [] [] noF w [u] := RepL.step (F := Bad) (w := w) (fun g k hk hf => ⟨F0_of hbad g k hf, rfl⟩) _ Keep.nil ⟨u, [], rfl, hu, rfl⟩
  refine (total_walk g ps h1 h2 w hbad.laidW u hr0).mono ?_
  rintro e w' ⟨rfl, hbel⟩
  refine ⟨_, [], rfl, hbel, ⟨rfl, ?_, ?_, ?_, hbad.below hbel, ?_⟩, ?_, rfl⟩
  · rintro l l' k ⟨bv, h1, _⟩; simp at h1
  · rintro l k ⟨bv, h1, _⟩; simp at h1
  · rintro l k g ⟨bv, h1, _⟩; simp at h1
  · intro l o bv h1; simp at h1
  · rintro l k ⟨bv, h1, _⟩; simp at h1
end Go.Fw.Wd
