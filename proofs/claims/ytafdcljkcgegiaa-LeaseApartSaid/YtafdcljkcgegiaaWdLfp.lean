/-
  LeaseFull in plain Lean: as many free addresses as are told get lent, unlike ones. Conditions: stated at each.
-/
import Derived.Test.YtafdcljkcgegiaaWdLop
set_option linter.unusedVariables false
set_option linter.unusedSimpArgs false
namespace Go.Fw.Wd
open Go.Proofs Code_

theorem nodup_len {α : Type} [DecidableEq α] : ∀ {l m : List α}, l.Nodup → (∀ x ∈ l, x ∈ m) → l.length ≤ m.length
  | [], _, _, _ => Nat.zero_le _
  | x :: l, m, hl, hs => by
    obtain ⟨h1, h2⟩ := List.nodup_cons.1 hl
    have hx := hs x (by simp)
    have ih := nodup_len (m := m.erase x) h2 fun y hy => (List.mem_erase_of_ne (fun e : y = x => h1 (by rw [← e]; exact hy))).2 (hs y (by simp [hy]))
    rw [List.length_erase_of_mem hx] at ih
    have := List.length_pos_of_mem hx
    rw [List.length_cons]
    omega
theorem free_iff (B : Bk) (ip : UInt32) (now : UInt64) : B.free ip now = true ↔ B.fst.toNat ≤ ip.toNat ∧ ip.toNat ≤ B.lst.toNat ∧ ip ∉ B.bar ∧ ((aget ip B.rs).getD 0).toNat ≤ (bU now).toNat ∧ ∀ p ∈ B.ln, p.2.ip = ip → p.2.til.toNat ≤ (bU now).toNat := by
  unfold Bk.free
  simp only [Bool.and_eq_true, Bool.not_eq_true', Bool.or_eq_false_iff, decide_eq_false_iff_not, List.all_eq_true, Ln.hit, Bool.and_eq_false_iff, Bool.not_eq_false', decide_eq_true_eq, Nat.not_lt]
  constructor
  · rintro ⟨⟨⟨⟨h1, h2⟩, h3⟩, h4⟩, h5⟩
    exact ⟨h1, h2, h3, h4, fun p hp he => (h5 p hp).resolve_left fun h => h he⟩
  · rintro ⟨h1, h2, h3, h4, h5⟩
    exact ⟨⟨⟨⟨h1, h2⟩, h3⟩, h4⟩, fun p hp => by
      by_cases he : p.2.ip = ip
      · exact .inr (h5 p hp he)
      · exact .inl he⟩
theorem scan_some {B : Bk} {now : UInt64} {ip : UInt32} : ∀ {n k : Nat}, B.scan now n k = some ip → B.free ip now = true
  | 0, _, h => by cases h
  | n + 1, k, h => by
    unfold Bk.scan at h
    split at h
    · rename_i hf
      injection h with h
      subst h
      exact hf
    · exact scan_some h
theorem scan_none {B : Bk} {now : UInt64} : ∀ {n k : Nat}, B.scan now n k = none → ∀ j, j < n → B.free (UInt32.ofNat (B.fst.toNat + (k + j))) now = false
  | 0, _, _, j, hj => by omega
  | n + 1, k, h, j, hj => by
    unfold Bk.scan at h
    split at h
    · cases h
    · rename_i hf
      cases j with
      | zero => simpa using hf
      | succ j =>
        have := scan_none h j (by omega)
        rwa [show k + 1 + j = k + (j + 1) by omega] at this
theorem find_some {B : Bk} {w : UInt32} {now : UInt64} {ip : UInt32} (h : B.find w now = some ip) : B.free ip now = true := by
  unfold Bk.find at h
  split at h
  · rename_i hf
    injection h with h
    subst h
    exact hf
  · exact scan_some h
theorem find_none {B : Bk} {w : UInt32} {now : UInt64} (h : B.find w now = none) (ip : UInt32) : B.free ip now = false := by
  cases hf : B.free ip now with
  | false => rfl
  | true =>
    have h' := h
    unfold Bk.find at h
    split at h
    · cases h
    · obtain ⟨h1, h2, _⟩ := (free_iff B ip now).1 hf
      have := scan_none h (ip.toNat - B.fst.toNat) (by omega)
      rw [show B.fst.toNat + (0 + (ip.toNat - B.fst.toNat)) = ip.toNat by omega, UInt32.ofNat_toNat, hf] at this
      exact this
theorem perm_ains {α β : Type} {lt : α → α → Bool} (x : α × β) : ∀ l : List (α × β), (ains lt x l).Perm (x :: l)
  | [] => .refl _
  | y :: r => by
    unfold ains
    split
    · exact .refl _
    · exact ((perm_ains x r).cons y).trans (List.Perm.swap x y r)

/-- The addresses that may be lent. -/
def allow (first : UInt32) (n0 : Nat) (barred : UInt32) : List UInt32 := (((List.range n0).map fun k => UInt32.ofNat (first.toNat + k)).erase barred)
theorem range_nodup (first : UInt32) (n0 : Nat) (h : first.toNat + n0 < 4294967296) : ((List.range n0).map fun k => UInt32.ofNat (first.toNat + k)).Nodup := by
  rw [List.nodup_iff_pairwise_ne, List.pairwise_map]
  refine List.Pairwise.imp_of_mem ?_ (List.nodup_iff_pairwise_ne.1 List.nodup_range)
  intro a b ha hb hab he
  have ha := List.mem_range.1 ha
  have hb := List.mem_range.1 hb
  have := congrArg UInt32.toNat he
  rw [of32 (by omega), of32 (by omega)] at this
  omega
theorem mem_range32 (first : UInt32) (n0 : Nat) (h : first.toNat + n0 < 4294967296) (a : UInt32) : a ∈ ((List.range n0).map fun k => UInt32.ofNat (first.toNat + k)) ↔ first.toNat ≤ a.toNat ∧ a.toNat < first.toNat + n0 := by
  rw [List.mem_map]
  constructor
  · rintro ⟨k, hk, rfl⟩
    have hk := List.mem_range.1 hk
    rw [of32 (by omega)]
    omega
  · rintro ⟨h1, h2⟩
    exact ⟨a.toNat - first.toNat, List.mem_range.2 (by omega), by rw [show first.toNat + (a.toNat - first.toNat) = a.toNat by omega, UInt32.ofNat_toNat]⟩
theorem mem_allow {first : UInt32} {n0 : Nat} {barred : UInt32} (h : first.toNat + n0 < 4294967296) (a : UInt32) : a ∈ allow first n0 barred ↔ first.toNat ≤ a.toNat ∧ a.toNat < first.toNat + n0 ∧ a ≠ barred := by
  unfold allow
  rw [(range_nodup first n0 h).mem_erase_iff, mem_range32 first n0 h]
  constructor
  · rintro ⟨h1, h2, h3⟩
    exact ⟨h2, h3, h1⟩
  · rintro ⟨h1, h2, h3⟩
    exact ⟨h3, h1, h2⟩
theorem allow_nodup {first : UInt32} {n0 : Nat} {barred : UInt32} (h : first.toNat + n0 < 4294967296) : (allow first n0 barred).Nodup := (range_nodup first n0 h).erase _
theorem allow_len {first : UInt32} {n0 : Nat} {barred : UInt32} (h : first.toNat + n0 < 4294967296) : (allow first n0 barred).length = if first.toNat ≤ barred.toNat ∧ barred.toNat < first.toNat + n0 then n0 - 1 else n0 := by
  unfold allow
  rw [List.length_erase]
  simp only [mem_range32 first n0 h, List.length_map, List.length_range]

/-- The book behind so many offers. -/
structure Lent (al : List UInt32) (til : UInt64) (i : Nat) (L : Lns) : Prop where
  len : L.length = i
  once : Once L
  ent : ∀ p ∈ L, p.2.firm = false ∧ p.2.til = til ∧ p.2.ip ∈ al ∧ ∃ j, j < i ∧ p.1 = [UInt8.ofNat (j + 1)]
  nd : (L.map fun p => p.2.ip).Nodup
  has : ∀ j, j < i → ∃ l, aget [UInt8.ofNat (j + 1)] L = some l
theorem of8 {n : Nat} (h : n < 256) : (UInt8.ofNat n).toNat = n := by
  rw [UInt8.toNat_ofNat']
  exact Nat.mod_eq_of_lt h
theorem Lent.fresh {al : List UInt32} {til : UInt64} {i : Nat} {L : Lns} (hL : Lent al til i L) (hi : i < 20) {m : Nat} (hm : i < m) (hm2 : m < 256) : aget [UInt8.ofNat m] L = none := by
  cases hg : aget [UInt8.ofNat m] L with
  | none => rfl
  | some l =>
    obtain ⟨_, _, _, j, hj, he⟩ := hL.ent _ (aget_mem hg)
    simp only [List.cons.injEq, and_true] at he
    have := congrArg UInt8.toNat he
    rw [of8 hm2, of8 (by omega)] at this
    omega
theorem Lent.put {al : List UInt32} {til : UInt64} {i : Nat} {L : Lns} (hL : Lent al til i L) (hi : i < 19) {ip : UInt32} (hip : ip ∈ al) (hnew : ip ∉ L.map fun p => p.2.ip) :
    Lent al til (i + 1) (aput bytesBefore [UInt8.ofNat (i + 1)] ⟨ip, false, til⟩ L) := by
  have hf := hL.fresh (by omega) (m := i + 1) (by omega) (by omega)
  have hp : (aput bytesBefore [UInt8.ofNat (i + 1)] ⟨ip, false, til⟩ L).Perm (([UInt8.ofNat (i + 1)], ⟨ip, false, til⟩) :: L) := by
    unfold aput
    rw [adel_none hf]
    exact perm_ains _ _
  refine ⟨by rw [hp.length_eq, List.length_cons, hL.len], hL.once.put _ _, fun p hp' => ?_, ?_, fun j hj => ?_⟩
  · rcases List.mem_cons.1 (hp.mem_iff.1 hp') with rfl | h
    · exact ⟨rfl, rfl, hip, i, by omega, rfl⟩
    · obtain ⟨h1, h2, h3, j, hj, h4⟩ := hL.ent p h
      exact ⟨h1, h2, h3, j, by omega, h4⟩
  · rw [(hp.map _).nodup_iff]
    exact List.nodup_cons.2 ⟨hnew, hL.nd⟩
  · rw [aget_aput]
    by_cases hji : j = i
    · subst hji
      rw [if_pos rfl]
      exact ⟨_, rfl⟩
    · obtain ⟨l, hl⟩ := hL.has j (by omega)
      rw [if_neg]
      · exact ⟨l, hl⟩
      · intro he
        simp only [List.cons.injEq, and_true] at he
        have := congrArg UInt8.toNat he
        rw [of8 (by omega), of8 (by omega)] at this
        omega
/-- What is free of such a book. -/
theorem lent_free {first last barred : UInt32} {now til : UInt64} {n0 i : Nat} {L : Lns} (hr : first.toNat + n0 < 4294967296) (hlast : last.toNat + 1 = first.toNat + n0) (htil : (bU now).toNat < til.toNat) (hL : Lent (allow first n0 barred) til i L) (ip : UInt32) :
    (⟨first, last, bput barred [], L, []⟩ : Bk).free ip now = true ↔ ip ∈ allow first n0 barred ∧ ip ∉ L.map fun p => p.2.ip := by
  rw [free_iff, mem_allow hr]
  simp only [mem_bput, List.not_mem_nil, or_false, aget_nil, Option.getD_none]
  have h0 : (0 : UInt64).toNat = 0 := rfl
  rw [h0]
  constructor
  · rintro ⟨h1, h2, h3, _, h5⟩
    refine ⟨⟨h1, by omega, h3⟩, fun hm => ?_⟩
    obtain ⟨p, hp, he⟩ := List.mem_map.1 hm
    have h6 := h5 p hp he
    rw [(hL.ent p hp).2.1] at h6
    omega
  · rintro ⟨⟨h1, h2, h3⟩, h4⟩
    exact ⟨h1, by omega, h3, Nat.zero_le _, fun p hp he => absurd (List.mem_map.2 ⟨p, hp, he⟩) h4⟩
theorem lent_room {al : List UInt32} {til : UInt64} {i : Nat} {L : Lns} (ha : al.Nodup) (hL : Lent al til i L) (hi : i < al.length) : ∃ a ∈ al, a ∉ L.map fun p => p.2.ip := by
  refine Classical.byContradiction fun hno => ?_
  have := nodup_len ha (m := L.map fun p => p.2.ip) fun x hx => Classical.byContradiction fun h => hno ⟨x, hx, h⟩
  rw [List.length_map, hL.len] at this
  omega
theorem lent_full {al : List UInt32} {til : UInt64} {L : Lns} (hL : Lent al til al.length L) : ∀ a ∈ al, a ∈ L.map fun p => p.2.ip := by
  intro a ha
  refine Classical.byContradiction fun h => ?_
  have h1 := nodup_len (l := a :: L.map fun p => p.2.ip) (m := al) (List.nodup_cons.2 ⟨h, hL.nd⟩) fun x hx => by
    rcases List.mem_cons.1 hx with rfl | hx
    · exact ha
    · obtain ⟨p, hp, rfl⟩ := List.mem_map.1 hx
      exact (hL.ent p hp).2.2.1
  rw [List.length_cons, List.length_map, hL.len] at h1
  omega
end Go.Fw.Wd
