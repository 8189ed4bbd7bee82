/-
  What Row answers, the program's and the document's. Conditions: stated at each.
-/
import Derived.Test.YtefkoichicalfaaWdPatch
set_option linter.unusedVariables false
set_option linter.unusedSimpArgs false
namespace Go.Fw.Wd
open Go.Proofs Code_

abbrev us (g : Bool) (l : List UInt64) : AV := .rs g 1 (l.map u64v)
/-- The bytes of numbers of one size. -/
def rowb (k : Nat) (l : List UInt64) : List UInt8 := l.flatMap fun v => encb k v.toNat
theorem rowb_length (k : Nat) : ∀ l : List UInt64, (rowb k l).length = l.length * k
  | [] => by simp [rowb]
  | v :: l => by
    have := rowb_length k l
    simp only [rowb, List.flatMap_cons, List.length_append, encb_length, List.length_cons] at this ⊢
    rw [this, Nat.succ_mul]
    omega
theorem rowb_take_succ (k : Nat) (l : List UInt64) (i : Nat) (hi : i < l.length) : rowb k (l.take i) ++ encb k (nth l i).toNat = rowb k (l.take (i + 1)) := by
  rw [List.take_succ_eq_append_getElem hi, nth_get l i hi]
  simp only [rowb, List.flatMap_append, List.flatMap_cons, List.flatMap_nil, List.append_nil]
def fits (k : Nat) (l : List UInt64) : Bool := l.all fun v => decide (v.toNat < 256 ^ k)
theorem fits_nth {k : Nat} {l : List UInt64} (h : fits k l = true) (i : Nat) (hi : i < l.length) : (nth l i).toNat < 256 ^ k := by
  rw [nth_get l i hi]
  have := List.all_eq_true.1 h l[i] (List.getElem_mem hi)
  simpa using this
theorem fits_of {k : Nat} {l : List UInt64} (h : ∀ i, i < l.length → (nth l i).toNat < 256 ^ k) : fits k l = true := by
  unfold fits
  rw [List.all_eq_true]
  intro v hv
  obtain ⟨i, hi, rfl⟩ := List.getElem_of_mem hv
  have := h i hi
  rw [nth_get l i hi] at this
  simpa using this
/-- What Row answers. -/
def rowB_ (size : Int) (l : List UInt64) : List UInt8 := if (1 ≤ size ∧ size ≤ 8) ∧ fits size.toNat l = true then rowb size.toNat l else []
def rowE (size : Int) (l : List UInt64) : Int := if (1 ≤ size ∧ size ≤ 8) ∧ fits size.toNat l = true then 0 else 11

theorem row_bound {i n m : Nat} (h1 : i ≤ m) (h2 : n ≤ 8) : i * n ≤ 8 * m := by
  have := Nat.mul_le_mul h1 h2
  omega

theorem s38 (g : Bool) (l : List UInt64) (hl : l.length ≤ 1000000) (size : Int) : pcall E 38 [.int .i64 size, us g l] = some (kres (E.keep 38) (decide (rowE size l = 0)) 5 (rowB_ size l) (.int .i64 (rowE size l))) := by
  rw [pcall_go (fn := I38) rfl rfl rfl]
  generalize E.keep 38 = kk
  have h45 := s63 size
  unfold rowB_ rowE
  by_cases a : 1 ≤ size ∧ size ≤ 8
  · rw [decide_eq_true a] at h45
    obtain ⟨n, rfl⟩ : ∃ k : Nat, size = (k : Int) := ⟨size.toNat, by omega⟩
    have hrun : ∀ m, m ≤ l.length → (∀ i, i < m → (nth l i).toNat < 256 ^ n) → _ := fun m hm hs =>
      loop_from (E := E) L38_0_eq m (fun i => ⟨[(0, .int .i64 n), (6, .sl 1 0 i 0 (i * n)), (14, us g l), (15, .int .i64 l.length), (16, .int .i64 i)], [.row i 1 ((rowb n (l.take i)).map by8) 5]⟩) rfl (fun i hi => by
        have h1 : (i : Int) < l.length := by omega
        have h48 := s64 (nth l i).toNat (nth l i).toNat_lt n
        unfold numbB numbE at h48
        rw [if_pos ⟨a, by simpa using hs i hi⟩, if_pos ⟨a, by simpa using hs i hi⟩, Int.toNat_natCast] at h48
        have hrl : (rowb n (l.take i)).length = i * n := by rw [rowb_length, List.length_take]; congr 1; omega
        have hb := row_bound (show i ≤ 1000000 by omega) (show n ≤ 8 by omega)
        have hap := appR_by8 [.row i 1 ((rowb n (l.take i)).map by8) 5] 1 5 0 i (i * n) n (rowb n (l.take i)) (encb n (nth l i).toNat) hrl (by omega) (by omega)
        rw [rowb_take_succ n l i (by omega), show i * n + n = (i + 1) * n by rw [Nat.succ_mul]] at hap
        have hel := encb_length n (nth l i).toNat
        simp (disch := first | omega | (simp only [List.length_cons, List.length_nil, List.length_append, List.length_map, List.length_set]; omega) | rfl | (simp only [List.length_cons, List.length_nil, List.length_append, List.length_map, List.length_set, List.length_replicate, List.all_cons, List.all_nil, List.all_append, storable, plainB, Bool.and_self]; done)) only [go_sem, reduceCtorEq, ↓reduceIte, reduceDIte, evI_callP, callPK_some, iaddr_u64v, us, B38_0, h1, h48, hel, hap])
    rcases first_stop (fun i => decide ((nth l i).toNat < 256 ^ n)) l.length with h | ⟨m, hm, h1, h2⟩
    · have hf : fits n l = true := fits_of fun i hi => by simpa using h i hi
      have h0 := hrun l.length (Nat.le_refl _) fun i hi => by simpa using h i hi
      have hrl := rowb_length n l
      simp only [List.take_length, show rowb n (l.take 0) = [] from rfl, List.map_nil] at h0
      simp only [go_sem, reduceCtorEq, ↓reduceIte, reduceDIte, evI_callP, callPK_some, us] at h0
      cases kk <;> simp (disch := first | omega | (simp only [List.length_cons, List.length_nil, List.length_append, List.length_map, List.length_set]; omega) | rfl | (simp only [List.length_cons, List.length_nil, List.length_append, List.length_map, List.length_set, List.length_replicate, List.all_cons, List.all_nil, List.all_append, storable, plainB, Bool.and_self]; done)) only [go_sem, reduceCtorEq, ↓reduceIte, reduceDIte, evI_callP, callPK_some, us, I38, h45, a, h0, B38_0, hf, hrl, Int.lt_irrefl]
    · have h3 : ¬ (nth l m).toNat < 256 ^ n := by simpa using h2
      have hf : ¬ fits n l = true := fun hf => h3 (fits_nth hf m hm)
      have h0 := hrun m (by omega) fun i hi => by simpa using h1 i hi
      have h4 : (m : Int) < l.length := by omega
      have h48 := s64 (nth l m).toNat (nth l m).toNat_lt n
      unfold numbB numbE at h48
      rw [if_neg (fun h => h3 (by simpa using h.2)), if_neg (fun h => h3 (by simpa using h.2))] at h48
      simp only [show rowb n (l.take 0) = [] from rfl, List.map_nil] at h0
      simp only [go_sem, reduceCtorEq, ↓reduceIte, reduceDIte, evI_callP, callPK_some, us] at h0 h48
      cases kk <;> simp (disch := first | omega | (simp only [List.length_cons, List.length_nil, List.length_append, List.length_map, List.length_set]; omega) | rfl | (simp only [List.length_cons, List.length_nil, List.length_append, List.length_map, List.length_set, List.length_replicate, List.all_cons, List.all_nil, List.all_append, storable, plainB, Bool.and_self]; done)) only [go_sem, reduceCtorEq, ↓reduceIte, reduceDIte, evI_callP, callPK_some, us, I38, h45, a, h0, B38_0, hf, h4, h48, iaddr_u64v]
  · rw [decide_eq_false a] at h45
    cases kk <;> simp only [go_sem, reduceCtorEq, ↓reduceIte, reduceDIte, evI_callP, callPK_some, us, I38, h45, a]

end Go.Fw.Wd
