/-
  What the shared functions on bytes answer. Conditions: stated at each.
  What At answers, the program's and the document's. Conditions: stated at each.
  What Cut, Patch, Lay and Row answer, the program's and the document's. Conditions: stated at each.
  What Patch, Lay and Row answer, the program's and the document's. Conditions: stated at each.
  What Row answers, the program's and the document's. Conditions: stated at each.
-/
import Derived.Test.YtigiopahmiaedaaGreatDoorWdFin
set_option linter.unusedVariables false
set_option linter.unusedSimpArgs false
namespace Go.Fw.Wd
open Go.Proofs Code_

theorem s16 (g g' : Bool) (l m : List UInt8) (hb : l.length ≤ 140737488355328) : pcall E 16 [bs g l, bs g' m] = some (.bool (decide (l = m)), []) := by
  rw [pcall_go (fn := I16) rfl rfl rfl]
  have hk : E.keep 16 = false := rfl
  by_cases hl : l.length = m.length
  · have hl2 : (l.length : Int) = m.length := by omega
    have hrun : ∀ n, n ≤ l.length → (∀ i, i < n → nth l i = nth m i) → _ := fun n hn hs =>
      loop_from (E := E) L16_0_eq n (fun i => ⟨[(0, bs g l), (1, bs g' m), (5, .int .i64 i)], []⟩) rfl (fun i hi => by
        have h1 : (i : Int) < l.length := by omega
        have h2 : (i : Int) < m.length := by omega
        simp (disch := first | omega | (simp only [List.length_cons, List.length_nil, List.length_append, List.length_map, List.length_set]; omega) | rfl | (simp only [List.length_cons, List.length_nil, List.length_append, List.length_map, List.length_set, List.length_replicate, List.all_cons, List.all_nil, List.all_append, storable, plainB, Bool.and_self]; done)) only [go_sem, reduceCtorEq, ↓reduceIte, reduceDIte, evI_callP, callPK_some, iaddr_by8, B16_0, h1, h2, hs i hi])
    rcases first_stop (fun i => decide (nth l i = nth m i)) l.length with h | ⟨n, hn, h1, h2⟩
    · have he : l = m := List.ext_getElem hl fun i h1 h2 => by
        have := h i h1
        simp only [decide_eq_true_eq] at this
        rwa [nth_get l i h1, nth_get m i h2] at this
      have h0 := hrun l.length (Nat.le_refl _) fun i hi => by simpa using h i hi
      have hd : decide (l = m) = true := by simp [he]
      simp only [go_sem, reduceCtorEq, ↓reduceIte, reduceDIte, evI_callP, callPK_some] at h0
      simp (disch := first | omega | (simp only [List.length_cons, List.length_nil, List.length_append, List.length_map, List.length_set]; omega) | rfl | (simp only [List.length_cons, List.length_nil, List.length_append, List.length_map, List.length_set, List.length_replicate, List.all_cons, List.all_nil, List.all_append, storable, plainB, Bool.and_self]; done)) only [go_sem, reduceCtorEq, ↓reduceIte, reduceDIte, evI_callP, callPK_some, I16, hk, hl2, h0, B16_0, hd, Int.lt_irrefl]
    · have h3 : ¬ nth l n = nth m n := by simpa using h2
      have hne : ¬ l = m := fun h => h3 (by rw [h])
      have h0 := hrun n (by omega) fun i hi => by simpa using h1 i hi
      simp only [go_sem, reduceCtorEq, ↓reduceIte, reduceDIte, evI_callP, callPK_some] at h0
      have h4 : (n : Int) < m.length := by omega
      simp (disch := first | omega | (simp only [List.length_cons, List.length_nil, List.length_append, List.length_map, List.length_set]; omega) | rfl | (simp only [List.length_cons, List.length_nil, List.length_append, List.length_map, List.length_set, List.length_replicate, List.all_cons, List.all_nil, List.all_append, storable, plainB, Bool.and_self]; done)) only [go_sem, reduceCtorEq, ↓reduceIte, reduceDIte, evI_callP, callPK_some, I16, hk, iaddr_by8, hl2, h0, B16_0, hne, h4, by8_neq, h3]
  · have hl2 : ¬ (l.length : Int) = m.length := by omega
    have hne : ¬ l = m := fun h => hl (by rw [h])
    simp (disch := first | omega | (simp only [List.length_cons, List.length_nil, List.length_append, List.length_map, List.length_set]; omega) | rfl | (simp only [List.length_cons, List.length_nil, List.length_append, List.length_map, List.length_set, List.length_replicate, List.all_cons, List.all_nil, List.all_append, storable, plainB, Bool.and_self]; done)) only [go_sem, reduceCtorEq, ↓reduceIte, reduceDIte, evI_callP, callPK_some, I16, hk, hl2, hne]

theorem s25 (g : Bool) (l : List UInt8) (hl : l.length ≤ 140737488355328) : pcall E 25 [bs g l] = some (.sl 1 0 0 0 l.length, [rowB 0 l 5]) := by
  rw [pcall_go (fn := I25) rfl rfl rfl]
  have hk : E.keep 25 = true := rfl
  have hap := fby.app [.row 0 1 [] 5] 1 5 0 0 0 l.length [] l rfl rfl (by omega) (by omega)
  have hf := fby.finish 0 1 l.length [.row 1 1 (l.map by8) 5] l 5 rfl rfl
  simp only [go_sem, reduceCtorEq, ↓reduceIte, reduceDIte, evI_callP, callPK_some] at hap
  simp only [go_sem, reduceCtorEq, ↓reduceIte, reduceDIte, evI_callP, callPK_some, I25, hk, cells_by8, hap, hf]
end Go.Fw.Wd
set_option linter.unusedVariables false
set_option linter.unusedSimpArgs false
namespace Go.Fw.Wd
open Go.Proofs Code_

def spanE (many at_ size : Int) : Int := if at_ < 0 then 11 else if many < at_ then 12 else if many - at_ < size then 12 else 0

theorem s75 (n : Int) : pcall E 75 [.int .i64 n] = some (.bool (decide (1 ≤ n ∧ n ≤ 8)), []) := by
  rw [pcall_go (fn := I75) rfl rfl rfl]
  have hk : E.keep 75 = false := rfl
  by_cases h : 1 ≤ n
  · simp only [go_sem, reduceCtorEq, ↓reduceIte, reduceDIte, evI_callP, callPK_some, I75, hk, h]
  · simp only [go_sem, reduceCtorEq, ↓reduceIte, reduceDIte, evI_callP, callPK_some, I75, hk, h]
theorem s93 (many at_ size : Int) (h0 : 0 ≤ many) (h1 : many ≤ 140737488355328) (h2 : S64 at_) : pcall E 93 [.int .i64 many, .int .i64 at_, .int .i64 size] = some (.int .i64 (spanE many at_ size), []) := by
  rw [pcall_go (fn := I93) rfl rfl rfl]
  have hk : E.keep 93 = false := rfl
  obtain ⟨h3, h4⟩ := h2
  unfold spanE
  by_cases a : at_ < 0
  · simp only [go_sem, reduceCtorEq, ↓reduceIte, reduceDIte, evI_callP, callPK_some, I93, hk, a]
  · by_cases b : many < at_
    · simp (disch := first | omega | (simp only [List.length_cons, List.length_nil, List.length_append, List.length_map, List.length_set]; omega) | rfl | (simp only [List.length_cons, List.length_nil, List.length_append, List.length_map, List.length_set, List.length_replicate, List.all_cons, List.all_nil, List.all_append, storable, plainB, Bool.and_self]; done)) only [go_sem, reduceCtorEq, ↓reduceIte, reduceDIte, evI_callP, callPK_some, I93, hk, a, b]
    · by_cases c : many - at_ < size
      · simp (disch := first | omega | (simp only [List.length_cons, List.length_nil, List.length_append, List.length_map, List.length_set]; omega) | rfl | (simp only [List.length_cons, List.length_nil, List.length_append, List.length_map, List.length_set, List.length_replicate, List.all_cons, List.all_nil, List.all_append, storable, plainB, Bool.and_self]; done)) only [go_sem, reduceCtorEq, ↓reduceIte, reduceDIte, evI_callP, callPK_some, I93, hk, a, b, c]
      · simp (disch := first | omega | (simp only [List.length_cons, List.length_nil, List.length_append, List.length_map, List.length_set]; omega) | rfl | (simp only [List.length_cons, List.length_nil, List.length_append, List.length_map, List.length_set, List.length_replicate, List.all_cons, List.all_nil, List.all_append, storable, plainB, Bool.and_self]; done)) only [go_sem, reduceCtorEq, ↓reduceIte, reduceDIte, evI_callP, callPK_some, I93, hk, a, b, c]

theorem span0 {many at_ size : Int} (h : spanE many at_ size = 0) : 0 ≤ at_ ∧ at_ ≤ many ∧ size ≤ many - at_ := by
  unfold spanE at h
  split at h
  · omega
  · split at h
    · omega
    · split at h <;> omega

/-- What At answers. -/
def atN (l : List UInt8) (at_ size : Int) : Nat := if (1 ≤ size ∧ size ≤ 8) ∧ spanE l.length at_ size = 0 then num ((l.drop at_.toNat).take size.toNat) else 0
def atE (l : List UInt8) (at_ size : Int) : Int := if 1 ≤ size ∧ size ≤ 8 then spanE l.length at_ size else 11

theorem s64 (g : Bool) (l : List UInt8) (hl : l.length ≤ 140737488355328) (at_ size : Int) (h2 : S64 at_) : pcall E 64 [bs g l, .int .i64 at_, .int .i64 size] = some (.tup [.int .u64 (atN l at_ size), .int .i64 (atE l at_ size)], []) := by
  rw [pcall_go (fn := I64) rfl rfl rfl]
  have hk : E.keep 64 = false := rfl
  have h46 := s93 l.length at_ size (by omega) (by omega) h2
  have h45 := s75 size
  unfold atN atE
  by_cases a : 1 ≤ size ∧ size ≤ 8
  · rw [decide_eq_true a] at h45
    by_cases b : spanE l.length at_ size = 0
    · obtain ⟨c1, c2, c3⟩ := span0 b
      rw [b] at h46
      have hs := slice_map by8 [] 1 g l l.length (some (.int .i64 at_)) (some (.int .i64 (at_ + size))) at_ (at_ + size) rfl rfl c1 (by omega) (by omega)
      rw [show (at_ + size).toNat - at_.toNat = size.toNat by omega] at hs
      have hlen : ((l.drop at_.toNat).take size.toNat).length = size.toNat := by rw [List.length_take, List.length_drop]; omega
      generalize (l.drop at_.toNat).take size.toNat = m at hs hlen
      have hrun := loop_from (E := E) L64_0_eq m.length (fun i => ⟨[(9, .int .u64 (num (m.take i))), (28, bs g m), (29, .int .i64 m.length), (30, .int .i64 i)], []⟩) rfl (fun i hi => by
        have h1 : (i : Int) < m.length := by omega
        have h3 := num_lt_of (l := m.take i) (n := 7) (by rw [List.length_take]; omega)
        have h4 := num_take_succ m i hi
        have h5 := (nth m i).toNat_lt
        have e1 := shl_byte (n := (num (m.take i) : Nat)) (by omega) (by omega)
        have e2 := or_byte (n := (num (m.take i) : Nat)) (x := (nth m i).toNat) (by omega) (by omega) (by omega) (by omega)
        simp (disch := first | omega | (simp only [List.length_cons, List.length_nil, List.length_append, List.length_map, List.length_set]; omega) | rfl | (simp only [List.length_cons, List.length_nil, List.length_append, List.length_map, List.length_set, List.length_replicate, List.all_cons, List.all_nil, List.all_append, storable, plainB, Bool.and_self]; done)) only [go_sem, reduceCtorEq, ↓reduceIte, reduceDIte, evI_callP, callPK_some, iaddr_by8, B64_0, h1, e1, wb64, e2, h4])
      simp only [go_sem, reduceCtorEq, ↓reduceIte, reduceDIte, evI_callP, callPK_some, num_nil, List.take_length] at hrun
      simp (disch := first | omega | (simp only [List.length_cons, List.length_nil, List.length_append, List.length_map, List.length_set]; omega) | rfl | (simp only [List.length_cons, List.length_nil, List.length_append, List.length_map, List.length_set, List.length_replicate, List.all_cons, List.all_nil, List.all_append, storable, plainB, Bool.and_self]; done)) only [go_sem, reduceCtorEq, ↓reduceIte, reduceDIte, evI_callP, callPK_some, I64, hk, h45, h46, hs, a, b, hrun, B64_0, Int.lt_irrefl]
    · have b' : ¬ spanE l.length at_ size = 0 := b
      simp (disch := first | omega | (simp only [List.length_cons, List.length_nil, List.length_append, List.length_map, List.length_set]; omega) | rfl | (simp only [List.length_cons, List.length_nil, List.length_append, List.length_map, List.length_set, List.length_replicate, List.all_cons, List.all_nil, List.all_append, storable, plainB, Bool.and_self]; done)) only [go_sem, reduceCtorEq, ↓reduceIte, reduceDIte, evI_callP, callPK_some, I64, hk, h45, h46, a, b]
  · rw [decide_eq_false a] at h45
    simp (disch := first | omega | (simp only [List.length_cons, List.length_nil, List.length_append, List.length_map, List.length_set]; omega) | rfl | (simp only [List.length_cons, List.length_nil, List.length_append, List.length_map, List.length_set, List.length_replicate, List.all_cons, List.all_nil, List.all_append, storable, plainB, Bool.and_self]; done)) only [go_sem, reduceCtorEq, ↓reduceIte, reduceDIte, evI_callP, callPK_some, I64, hk, h45, a]

end Go.Fw.Wd
set_option linter.unusedVariables false
set_option linter.unusedSimpArgs false
namespace Go.Fw.Wd
open Go.Proofs Code_

/-- What Cut answers. -/
def cutB (l : List UInt8) (fr to : Int) : List UInt8 := if fr < 0 ∨ to < fr ∨ (l.length : Int) < to then [] else (l.drop fr.toNat).take (to.toNat - fr.toNat)
def cutE (l : List UInt8) (fr to : Int) : Int := if fr < 0 ∨ to < fr then 11 else if (l.length : Int) < to then 12 else 0
theorem cutB_len (l : List UInt8) (fr to : Int) : (cutB l fr to).length ≤ l.length := by
  unfold cutB
  split
  · simp
  · rw [List.length_take, List.length_drop]; omega

/-- A number's bytes. -/
def numbB (v : Nat) (size : Int) : List UInt8 := if (1 ≤ size ∧ size ≤ 8) ∧ v < 256 ^ size.toNat then encb size.toNat v else []
def numbE (v : Nat) (size : Int) : Int := if (1 ≤ size ∧ size ≤ 8) ∧ v < 256 ^ size.toNat then 0 else 11

theorem encb_snoc (k v : Nat) : ∀ i : Nat, i ≤ k → (encb k v).take i ++ encb (k - i) v = encb k v := by
  induction k with
  | zero => intro i hi; have : i = 0 := by omega
            subst this; rfl
  | succ k ih =>
    intro i hi
    cases i with
    | zero => rfl
    | succ i =>
      simp only [encb, List.take_succ_cons, List.cons_append, Nat.add_sub_add_right]
      rw [ih i (by omega)]
theorem encb_take_succ (k v i : Nat) (hi : i < k) : (encb k v).take i ++ [UInt8.ofNat (v / 256 ^ (k - 1 - i))] = (encb k v).take (i + 1) := by
  induction k generalizing i with
  | zero => omega
  | succ k ih =>
    cases i with
    | zero => simp [encb]
    | succ i =>
      simp only [encb, List.take_succ_cons, List.cons_append]
      rw [show k + 1 - 1 - (i + 1) = k - 1 - i by omega, ih i (by omega)]

theorem s76 (v : Nat) (hv : v < 18446744073709551616) (size : Int) : pcall E 76 [.int .u64 v, .int .i64 size] = some (.tup [bs false (numbB v size), .int .i64 (numbE v size)], []) := by
  rw [pcall_go (fn := I76) rfl rfl rfl]
  have hk : E.keep 76 = false := rfl
  have h45 := s75 size
  unfold numbB numbE
  by_cases a : 1 ≤ size ∧ size ≤ 8
  · rw [decide_eq_true a] at h45
    obtain ⟨k, rfl⟩ : ∃ k : Nat, size = (k : Int) := ⟨size.toNat, by omega⟩
    have hrun := loop_from (E := E) L76_0_eq k (fun i => ⟨[(0, .int .u64 v), (6, .sl 1 0 i 0 i), (7, .int .i64 (8 * ((k : Int) - 1 - i)))], [.row i 1 (((encb k v).take i).map by8) 5]⟩) rfl (fun i hi => by
      have h1 : (0 : Int) ≤ 8 * ((k : Int) - 1 - i) := by omega
      have hs := shr_byte v (k - 1 - i) (by omega)
      rw [show 8 * ((k - 1 - i : Nat) : Int) = 8 * ((k : Int) - 1 - i) by omega] at hs
      have hl : ((encb k v).take i).length = i := by rw [List.length_take, encb_length]; omega
      have ht := encb_take_succ k v i hi
      have hc := wrapU8 (v / 256 ^ (k - 1 - i))
      have hap := appR_by8 [.row i 1 (((encb k v).take i).map by8) 5] 1 5 0 i i 1 ((encb k v).take i) [UInt8.ofNat (v / 256 ^ (k - 1 - i))] hl (by omega) (by omega)
      rw [ht] at hap
      simp only [List.map_cons, List.map_nil, by8_eq] at hap
      generalize v / 256 ^ (k - 1 - i) = q at hs hc hap
      have e9 : 8 * ((k : Int) - 1 - i) - 8 = 8 * ((k : Int) - 1 - (i + 1)) := by omega
      simp (disch := first | omega | (simp only [List.length_cons, List.length_nil, List.length_append, List.length_map, List.length_set]; omega) | rfl | (simp only [List.length_cons, List.length_nil, List.length_append, List.length_map, List.length_set, List.length_replicate, List.all_cons, List.all_nil, List.all_append, storable, plainB, Bool.and_self]; done)) only [go_sem, reduceCtorEq, ↓reduceIte, reduceDIte, evI_callP, callPK_some, B76_0, h1, hs, hc, hap, Fw.cellsIn, e9])
    have e0 : (8 : Int) * ((k : Int) - 1 - ((0 : Nat) : Int)) = 8 * ((k : Int) - 1) := by omega
    have ek : ¬ (0 : Int) ≤ 8 * ((k : Int) - 1 - (k : Int)) := by omega
    have et : (encb k v).take k = encb k v := List.take_of_length_le (by rw [encb_length]; omega)
    have el : (encb k v).length = k := encb_length k v
    simp only [e0] at hrun
    simp only [go_sem, reduceCtorEq, ↓reduceIte, reduceDIte, evI_callP, callPK_some, et] at hrun
    have hq : (v / 256 ^ k = 0) ↔ v < 256 ^ k := Nat.div_eq_zero_iff_lt (Nat.pow_pos (by omega))
    by_cases b : k = 8
    · have hlt : v < 256 ^ k := by subst b; exact hv
      have b1 : ¬ (k : Int) < 8 := by omega
      simp (disch := first | omega | (simp only [List.length_cons, List.length_nil, List.length_append, List.length_map, List.length_set]; omega) | rfl | (simp only [List.length_cons, List.length_nil, List.length_append, List.length_map, List.length_set, List.length_replicate, List.all_cons, List.all_nil, List.all_append, storable, plainB, Bool.and_self]; done)) only [go_sem, reduceCtorEq, ↓reduceIte, reduceDIte, evI_callP, callPK_some, I76, hk, h45, a, b1, hlt, hrun, B76_0, ek, el, Int.toNat_natCast]
    · have b1 : (k : Int) < 8 := by omega
      have hs := shr_byte v k (by omega)
      by_cases c : v < 256 ^ k
      · rw [hq.2 c] at hs
        simp (disch := first | omega | (simp only [List.length_cons, List.length_nil, List.length_append, List.length_map, List.length_set]; omega) | rfl | (simp only [List.length_cons, List.length_nil, List.length_append, List.length_map, List.length_set, List.length_replicate, List.all_cons, List.all_nil, List.all_append, storable, plainB, Bool.and_self]; done)) only [go_sem, reduceCtorEq, ↓reduceIte, reduceDIte, evI_callP, callPK_some, I76, hk, h45, a, b1, hs, c, hrun, B76_0, ek, el, Int.toNat_natCast]
      · have hq3 : ¬ ((v / 256 ^ k : Nat) : Int) = 0 := by
          have : ¬ v / 256 ^ k = 0 := fun h => c (hq.1 h)
          omega
        simp (disch := first | omega | (simp only [List.length_cons, List.length_nil, List.length_append, List.length_map, List.length_set]; omega) | rfl | (simp only [List.length_cons, List.length_nil, List.length_append, List.length_map, List.length_set, List.length_replicate, List.all_cons, List.all_nil, List.all_append, storable, plainB, Bool.and_self]; done)) only [go_sem, reduceCtorEq, ↓reduceIte, reduceDIte, evI_callP, callPK_some, I76, hk, h45, a, b1, hs, c, hq3, Int.toNat_natCast]
  · rw [decide_eq_false a] at h45
    simp only [go_sem, reduceCtorEq, ↓reduceIte, reduceDIte, evI_callP, callPK_some, I76, hk, h45, a]
end Go.Fw.Wd
set_option linter.unusedVariables false
set_option linter.unusedSimpArgs false
namespace Go.Fw.Wd
open Go.Proofs Code_

/-- Bytes laid over others. -/
def over (l : List UInt8) (a : Nat) (p : List UInt8) : List UInt8 := l.take a ++ p ++ l.drop (a + p.length)
theorem over_len (l : List UInt8) (a : Nat) (p : List UInt8) (h : a + p.length ≤ l.length) : (over l a p).length = l.length := by simp [over]; omega
def patB (l : List UInt8) (at_ : Int) (p : List UInt8) : List UInt8 := if spanE l.length at_ p.length = 0 then over l at_.toNat p else []
def patE (l : List UInt8) (at_ : Int) (p : List UInt8) : Int := spanE l.length at_ p.length

theorem s78 (g g' : Bool) (l p : List UInt8) (hl : l.length ≤ 140737488355328) (hp : p.length ≤ 140737488355328) (at_ : Int) (h2 : S64 at_) : pcall E 78 [bs g l, .int .i64 at_, bs g' p] = some (kres (E.keep 78) (decide (patE l at_ p = 0)) 5 (patB l at_ p) (.int .i64 (patE l at_ p))) := by
  rw [pcall_go (fn := I78) rfl rfl rfl]
  generalize E.keep 78 = kk
  have h46 := s93 l.length at_ p.length (by omega) (by omega) h2
  have h47 := s43 g l hl
  unfold patB patE
  by_cases b : spanE l.length at_ p.length = 0
  · rw [b] at h46
    obtain ⟨c1, c2, c3⟩ := span0 b
    have hsl := sliceK_sl [rowB 0 l 5] 1 0 0 0 l.length (some (.int .i64 at_)) none at_ l.length rfl rfl c1 c2 (by omega) rfl
    have hol := over_len l at_.toNat p (by omega)
    have hcp := cpR_by8 [.row 0 1 (l.map by8) 5] 0 0 at_.toNat (l.length - at_.toNat) p.length l p 5 (by omega) rfl (by omega)
    rw [show List.take at_.toNat l ++ p ++ List.drop (at_.toNat + p.length) l = over l at_.toNat p from rfl] at hcp
    simp only [go_sem, reduceCtorEq, ↓reduceIte, reduceDIte, evI_callP, callPK_some] at hsl hcp
    cases kk <;> simp (disch := first | omega | (simp only [List.length_cons, List.length_nil, List.length_append, List.length_map, List.length_set]; omega) | rfl | (simp only [List.length_cons, List.length_nil, List.length_append, List.length_map, List.length_set, List.length_replicate, List.all_cons, List.all_nil, List.all_append, storable, plainB, Bool.and_self]; done)) only [go_sem, reduceCtorEq, ↓reduceIte, reduceDIte, evI_callP, callPK_some, I78, h46, h47, hsl, hcp, b, hol]
  · cases kk <;> simp (disch := first | omega | (simp only [List.length_cons, List.length_nil, List.length_append, List.length_map, List.length_set]; omega) | rfl | (simp only [List.length_cons, List.length_nil, List.length_append, List.length_map, List.length_set, List.length_replicate, List.all_cons, List.all_nil, List.all_append, storable, plainB, Bool.and_self]; done)) only [go_sem, reduceCtorEq, ↓reduceIte, reduceDIte, evI_callP, callPK_some, I78, h46, b]

theorem over_step (l : List UInt8) (a : Nat) (p : List UInt8) (i : Nat) (hi : i < p.length) (ha : a + p.length ≤ l.length) : (over l a (p.take i)).set (a + i) (nth p i) = over l a (p.take (i + 1)) := by
  have h1 : (p.take i).length = i := by rw [List.length_take]; omega
  have h2 : (p.take (i + 1)).length = i + 1 := by rw [List.length_take]; omega
  have h3 : (l.take a).length = a := by rw [List.length_take]; omega
  unfold over
  rw [nth_get p i hi, h1, h2, List.append_assoc, List.append_assoc, List.set_append_right _ _ (by rw [h3]; omega), h3, Nat.add_sub_cancel_left, List.set_append_right _ _ (by rw [h1]; omega), h1, Nat.sub_self]
  rw [List.drop_eq_getElem_cons (show a + i < l.length by omega), List.set_cons_zero, List.take_succ_eq_append_getElem hi, List.append_assoc]
  rfl

/-- What Lay answers. -/
def layB (l : List UInt8) (at_ size : Int) (v : Nat) : List UInt8 := if numbE v size = 0 then patB l at_ (numbB v size) else []
def layE (l : List UInt8) (at_ size : Int) (v : Nat) : Int := if numbE v size = 0 then patE l at_ (numbB v size) else 11
theorem numbB_len (v : Nat) (size : Int) : (numbB v size).length ≤ 8 := by
  unfold numbB
  split
  · rw [encb_length]; omega
  · simp
theorem numbE_ne {v : Nat} {size : Int} (h : ¬ numbE v size = 0) : numbE v size = 11 := by
  unfold numbE at h ⊢
  split
  · rename_i h1; exact absurd (if_pos h1) h
  · rfl

theorem s51 (g : Bool) (l : List UInt8) (hl : l.length ≤ 140737488355328) (at_ size : Int) (h2 : S64 at_) (v : Nat) (hv : v < 18446744073709551616) : pcall E 51 [bs g l, .int .i64 at_, .int .i64 size, .int .u64 v] = some (kres (E.keep 51) (decide (layE l at_ size v = 0)) 5 (layB l at_ size v) (.int .i64 (layE l at_ size v))) := by
  rw [pcall_go (fn := I51) rfl rfl rfl]
  have hk : E.keep 51 = true → E.keep 78 = true := by decide
  have h48 := s76 v hv size
  unfold layB layE
  by_cases a : numbE v size = 0
  · have h39 := fun g g' => s78 g g' l (numbB v size) hl (by have := numbB_len v size; omega) at_ h2
    by_cases c : patE l at_ (numbB v size) = 0
    · revert h39 hk
      generalize E.keep 51 = k1
      generalize E.keep 78 = k2
      intro hk h39
      cases k1
      · cases k2 <;> (simp only [go_sem, reduceCtorEq, ↓reduceIte, reduceDIte, evI_callP, callPK_some, c] at h39; simp only [go_sem, reduceCtorEq, ↓reduceIte, reduceDIte, evI_callP, callPK_some, I51, h48, a, h39, c])
      · have : k2 = true := hk rfl
        subst this
        simp only [go_sem, reduceCtorEq, ↓reduceIte, reduceDIte, evI_callP, callPK_some, c] at h39
        simp only [go_sem, reduceCtorEq, ↓reduceIte, reduceDIte, evI_callP, callPK_some, I51, h48, a, h39, c]
    · simp only [go_sem, reduceCtorEq, ↓reduceIte, reduceDIte, evI_callP, callPK_some, c] at h39
      generalize E.keep 51 = k1
      have hp : patB l at_ (numbB v size) = [] := if_neg c
      cases k1 <;> simp only [go_sem, reduceCtorEq, ↓reduceIte, reduceDIte, evI_callP, callPK_some, I51, h48, a, h39, c]
  · have a' := numbE_ne a
    generalize E.keep 51 = k1
    cases k1 <;> simp only [go_sem, reduceCtorEq, ↓reduceIte, reduceDIte, evI_callP, callPK_some, I51, h48, a, a']
end Go.Fw.Wd
set_option linter.unusedVariables false
set_option linter.unusedSimpArgs false
namespace Go.Fw.Wd
open Go.Proofs Code_

abbrev us (g : Bool) (l : List UInt64) : AV := .rs g 1 (l.map u64v)
/-- The bytes of numbers of one size. -/
def rowb (k : Nat) (l : List UInt64) : List UInt8 := l.flatMap fun v => encb k v.toNat
theorem rowb_length (k : Nat) : ∀ l : List UInt64, (rowb k l).length = l.length * k
  | [] => by simp [rowb]
  | v :: l => by
    have := rowb_length k l
    simp only [rowb, List.flatMap_cons, List.length_append, encb_length, List.length_cons] at this ⊢
    rw [this, Nat.succ_mul]
    omega
theorem rowb_take_succ (k : Nat) (l : List UInt64) (i : Nat) (hi : i < l.length) : rowb k (l.take i) ++ encb k (nth l i).toNat = rowb k (l.take (i + 1)) := by
  rw [List.take_succ_eq_append_getElem hi, nth_get l i hi]
  simp only [rowb, List.flatMap_append, List.flatMap_cons, List.flatMap_nil, List.append_nil]
def fits (k : Nat) (l : List UInt64) : Bool := l.all fun v => decide (v.toNat < 256 ^ k)
theorem fits_nth {k : Nat} {l : List UInt64} (h : fits k l = true) (i : Nat) (hi : i < l.length) : (nth l i).toNat < 256 ^ k := by
  rw [nth_get l i hi]
  have := List.all_eq_true.1 h l[i] (List.getElem_mem hi)
  simpa using this
theorem fits_of {k : Nat} {l : List UInt64} (h : ∀ i, i < l.length → (nth l i).toNat < 256 ^ k) : fits k l = true := by
  unfold fits
  rw [List.all_eq_true]
  intro v hv
  obtain ⟨i, hi, rfl⟩ := List.getElem_of_mem hv
  have := h i hi
  rw [nth_get l i hi] at this
  simpa using this
/-- What Row answers. -/
def rowB_ (size : Int) (l : List UInt64) : List UInt8 := if (1 ≤ size ∧ size ≤ 8) ∧ fits size.toNat l = true then rowb size.toNat l else []
def rowE (size : Int) (l : List UInt64) : Int := if (1 ≤ size ∧ size ≤ 8) ∧ fits size.toNat l = true then 0 else 11

theorem row_bound {i n m : Nat} (h1 : i ≤ m) (h2 : n ≤ 8) : i * n ≤ 8 * m := by
  have := Nat.mul_le_mul h1 h2
  omega

theorem s48 (g : Bool) (l : List UInt64) (hl : l.length ≤ 1000000) (size : Int) : pcall E 48 [.int .i64 size, us g l] = some (kres (E.keep 48) (decide (rowE size l = 0)) 5 (rowB_ size l) (.int .i64 (rowE size l))) := by
  rw [pcall_go (fn := I48) rfl rfl rfl]
  generalize E.keep 48 = kk
  have h45 := s75 size
  unfold rowB_ rowE
  by_cases a : 1 ≤ size ∧ size ≤ 8
  · rw [decide_eq_true a] at h45
    obtain ⟨n, rfl⟩ : ∃ k : Nat, size = (k : Int) := ⟨size.toNat, by omega⟩
    have hrun : ∀ m, m ≤ l.length → (∀ i, i < m → (nth l i).toNat < 256 ^ n) → _ := fun m hm hs =>
      loop_from (E := E) L48_0_eq m (fun i => ⟨[(0, .int .i64 n), (6, .sl 1 0 i 0 (i * n)), (14, us g l), (15, .int .i64 l.length), (16, .int .i64 i)], [.row i 1 ((rowb n (l.take i)).map by8) 5]⟩) rfl (fun i hi => by
        have h1 : (i : Int) < l.length := by omega
        have h48 := s76 (nth l i).toNat (nth l i).toNat_lt n
        unfold numbB numbE at h48
        rw [if_pos ⟨a, by simpa using hs i hi⟩, if_pos ⟨a, by simpa using hs i hi⟩, Int.toNat_natCast] at h48
        have hrl : (rowb n (l.take i)).length = i * n := by rw [rowb_length, List.length_take]; congr 1; omega
        have hb := row_bound (show i ≤ 1000000 by omega) (show n ≤ 8 by omega)
        have hap := appR_by8 [.row i 1 ((rowb n (l.take i)).map by8) 5] 1 5 0 i (i * n) n (rowb n (l.take i)) (encb n (nth l i).toNat) hrl (by omega) (by omega)
        rw [rowb_take_succ n l i (by omega), show i * n + n = (i + 1) * n by rw [Nat.succ_mul]] at hap
        have hel := encb_length n (nth l i).toNat
        simp (disch := first | omega | (simp only [List.length_cons, List.length_nil, List.length_append, List.length_map, List.length_set]; omega) | rfl | (simp only [List.length_cons, List.length_nil, List.length_append, List.length_map, List.length_set, List.length_replicate, List.all_cons, List.all_nil, List.all_append, storable, plainB, Bool.and_self]; done)) only [go_sem, reduceCtorEq, ↓reduceIte, reduceDIte, evI_callP, callPK_some, iaddr_u64v, us, B48_0, h1, h48, hel, hap])
    rcases first_stop (fun i => decide ((nth l i).toNat < 256 ^ n)) l.length with h | ⟨m, hm, h1, h2⟩
    · have hf : fits n l = true := fits_of fun i hi => by simpa using h i hi
      have h0 := hrun l.length (Nat.le_refl _) fun i hi => by simpa using h i hi
      have hrl := rowb_length n l
      simp only [List.take_length, show rowb n (l.take 0) = [] from rfl, List.map_nil] at h0
      simp only [go_sem, reduceCtorEq, ↓reduceIte, reduceDIte, evI_callP, callPK_some, us] at h0
      cases kk <;> simp (disch := first | omega | (simp only [List.length_cons, List.length_nil, List.length_append, List.length_map, List.length_set]; omega) | rfl | (simp only [List.length_cons, List.length_nil, List.length_append, List.length_map, List.length_set, List.length_replicate, List.all_cons, List.all_nil, List.all_append, storable, plainB, Bool.and_self]; done)) only [go_sem, reduceCtorEq, ↓reduceIte, reduceDIte, evI_callP, callPK_some, us, I48, h45, a, h0, B48_0, hf, hrl, Int.lt_irrefl]
    · have h3 : ¬ (nth l m).toNat < 256 ^ n := by simpa using h2
      have hf : ¬ fits n l = true := fun hf => h3 (fits_nth hf m hm)
      have h0 := hrun m (by omega) fun i hi => by simpa using h1 i hi
      have h4 : (m : Int) < l.length := by omega
      have h48 := s76 (nth l m).toNat (nth l m).toNat_lt n
      unfold numbB numbE at h48
      rw [if_neg (fun h => h3 (by simpa using h.2)), if_neg (fun h => h3 (by simpa using h.2))] at h48
      simp only [show rowb n (l.take 0) = [] from rfl, List.map_nil] at h0
      simp only [go_sem, reduceCtorEq, ↓reduceIte, reduceDIte, evI_callP, callPK_some, us] at h0 h48
      cases kk <;> simp (disch := first | omega | (simp only [List.length_cons, List.length_nil, List.length_append, List.length_map, List.length_set]; omega) | rfl | (simp only [List.length_cons, List.length_nil, List.length_append, List.length_map, List.length_set, List.length_replicate, List.all_cons, List.all_nil, List.all_append, storable, plainB, Bool.and_self]; done)) only [go_sem, reduceCtorEq, ↓reduceIte, reduceDIte, evI_callP, callPK_some, us, I48, h45, a, h0, B48_0, hf, h4, h48, iaddr_u64v]
  · rw [decide_eq_false a] at h45
    cases kk <;> simp only [go_sem, reduceCtorEq, ↓reduceIte, reduceDIte, evI_callP, callPK_some, us, I48, h45, a]

end Go.Fw.Wd
