/-
  The lease package's book as lists, and how a map's entries stand for them. Conditions: none.
-/
import Derived.Test.YtefkoichicalfaaWdMenv
set_option linter.unusedVariables false
set_option linter.unusedSimpArgs false
set_option linter.unusedSectionVars false
namespace Go.Fw.Wd
open Go.Proofs Code_

/-- Rows of keys and what is there. -/
def aget {α β : Type} [DecidableEq α] (k : α) (l : List (α × β)) : Option β := (l.find? fun p => decide (p.1 = k)).map (·.2)
def adel {α β : Type} [DecidableEq α] (k : α) (l : List (α × β)) : List (α × β) := l.filter fun p => !decide (p.1 = k)
def ains {α β : Type} (lt : α → α → Bool) (x : α × β) : List (α × β) → List (α × β)
  | [] => [x]
  | y :: r => if lt x.1 y.1 then x :: y :: r else y :: ains lt x r
def aput {α β : Type} [DecidableEq α] (lt : α → α → Bool) (k : α) (v : β) (l : List (α × β)) : List (α × β) := ains lt (k, v) (adel k l)

section
variable {α β : Type} [DecidableEq α] {lt : α → α → Bool}
theorem aget_nil (k : α) : aget k ([] : List (α × β)) = none := rfl
theorem aget_cons (k : α) (p : α × β) (l : List (α × β)) : aget k (p :: l) = if p.1 = k then some p.2 else aget k l := by
  unfold aget
  rw [List.find?_cons]
  by_cases h : p.1 = k <;> simp [h]
theorem adel_cons (k : α) (p : α × β) (l : List (α × β)) : adel k (p :: l) = if p.1 = k then adel k l else p :: adel k l := by
  unfold adel
  rw [List.filter_cons]
  by_cases h : p.1 = k <;> simp [h]
theorem aget_ains (k : α) (x : α × β) : ∀ l : List (α × β), (∀ p ∈ l, p.1 ≠ x.1) → aget k (ains lt x l) = if x.1 = k then some x.2 else aget k l
  | [], _ => by simp [ains, aget_cons, aget_nil]
  | y :: r, h => by
    have hy := h y (by simp)
    have ih := aget_ains k x r fun p hp => h p (by simp [hp])
    unfold ains
    split
    · simp only [aget_cons]
    · simp only [aget_cons, ih]
      by_cases h1 : y.1 = k
      · have h2 : ¬ x.1 = k := fun e => hy (by rw [h1, e])
        simp [h1, h2]
      · simp [h1]
theorem adel_ne (k : α) (l : List (α × β)) : ∀ p ∈ adel k l, p.1 ≠ k := by
  intro p hp
  unfold adel at hp
  simpa using (List.mem_filter.1 hp).2
theorem aget_adel (j k : α) : ∀ l : List (α × β), aget j (adel k l) = if k = j then none else aget j l
  | [] => by simp [adel, aget_nil]
  | p :: l => by
    have ih := aget_adel j k l
    rw [adel_cons]
    by_cases h : p.1 = k
    · rw [if_pos h, ih, aget_cons]
      by_cases h2 : k = j
      · simp [h2]
      · have : ¬ p.1 = j := fun e => h2 (by rw [← h, e])
        simp [h2, this]
    · rw [if_neg h, aget_cons, ih, aget_cons]
      by_cases h2 : k = j
      · subst h2
        simp [h]
      · simp [h2]
theorem aget_aput (j k : α) (v : β) (l : List (α × β)) : aget j (aput lt k v l) = if k = j then some v else aget j l := by
  unfold aput
  rw [aget_ains _ _ _ (adel_ne k l), aget_adel]
  by_cases h : k = j <;> simp [h]
theorem mem_ains (x y : α × β) : ∀ l : List (α × β), y ∈ ains lt x l ↔ y = x ∨ y ∈ l
  | [] => by simp [ains]
  | z :: r => by
    unfold ains
    split
    · simp
    · simp only [List.mem_cons, mem_ains x y r]
      constructor
      · rintro (h | h | h)
        · exact .inr (.inl h)
        · exact .inl h
        · exact .inr (.inr h)
      · rintro (h | h | h)
        · exact .inr (.inl h)
        · exact .inl h
        · exact .inr (.inr h)
theorem mem_aput (k : α) (v : β) (l : List (α × β)) (y : α × β) : y ∈ aput lt k v l ↔ y = (k, v) ∨ (y ∈ l ∧ y.1 ≠ k) := by
  unfold aput
  rw [mem_ains]
  unfold adel
  simp [List.mem_filter]
theorem mem_adel (k : α) (l : List (α × β)) (y : α × β) : y ∈ adel k l ↔ y ∈ l ∧ y.1 ≠ k := by
  unfold adel
  simp [List.mem_filter]
theorem len_ains (x : α × β) : ∀ l : List (α × β), (ains lt x l).length = l.length + 1
  | [] => rfl
  | z :: r => by
    unfold ains
    split
    · rfl
    · simp [len_ains x r]
theorem len_adel (k : α) (l : List (α × β)) : (adel k l).length ≤ l.length := List.length_filter_le _ _
theorem aget_mem {k : α} {l : List (α × β)} {v : β} (h : aget k l = some v) : (k, v) ∈ l := by
  induction l with
  | nil => cases h
  | cons p l ih =>
    rw [aget_cons] at h
    split at h
    · rename_i hk
      injection h with h
      subst h
      rw [← hk]
      simp
    · exact List.mem_cons_of_mem _ (ih h)
theorem aget_none {k : α} {l : List (α × β)} (h : aget k l = none) : ∀ p ∈ l, p.1 ≠ k := by
  induction l with
  | nil => intro p hp; cases hp
  | cons q l ih =>
    rw [aget_cons] at h
    split at h
    · cases h
    · rename_i hk
      intro p hp
      rcases List.mem_cons.1 hp with rfl | hp
      · exact hk
      · exact ih h p hp
theorem adel_none {k : α} {l : List (α × β)} (h : aget k l = none) : adel k l = l := by
  unfold adel
  rw [List.filter_eq_self]
  intro p hp
  simpa using aget_none h p hp
/-- Keys that are there once. -/
def Once (l : List (α × β)) : Prop := l.Pairwise fun p q => p.1 ≠ q.1
theorem Once.del {l : List (α × β)} (h : Once l) (k : α) : Once (adel k l) := List.Pairwise.filter _ h
theorem once_ains (x : α × β) : ∀ l : List (α × β), Once l → (∀ p ∈ l, p.1 ≠ x.1) → Once (ains lt x l)
  | [], _, _ => by simp [ains, Once]
  | y :: r, h, hx => by
    obtain ⟨h1, h2⟩ := List.pairwise_cons.1 h
    unfold ains
    split
    · exact List.pairwise_cons.2 ⟨fun p hp => (hx p hp).symm, h⟩
    · refine List.pairwise_cons.2 ⟨fun p hp => ?_, once_ains x r h2 fun p hp => hx p (by simp [hp])⟩
      rcases (mem_ains x p r).1 hp with rfl | hp
      · exact hx y (by simp)
      · exact h1 p hp
theorem Once.put {l : List (α × β)} (h : Once l) (k : α) (v : β) : Once (aput lt k v l) := once_ains _ _ (h.del k) (adel_ne k l)
theorem Once.get {l : List (α × β)} (h : Once l) {k : α} {v : β} (hm : (k, v) ∈ l) : aget k l = some v := by
  induction l with
  | nil => cases hm
  | cons p l ih =>
    obtain ⟨h1, h2⟩ := List.pairwise_cons.1 h
    rw [aget_cons]
    rcases List.mem_cons.1 hm with rfl | hm
    · simp
    · rw [if_neg (h1 _ hm)]
      exact ih h2 hm
theorem Once.len_del {l : List (α × β)} (h : Once l) (k : α) : (adel k l).length = l.length - if (aget k l).isSome then 1 else 0 := by
  induction l with
  | nil => rfl
  | cons p l ih =>
    obtain ⟨h1, h2⟩ := List.pairwise_cons.1 h
    rw [adel_cons, aget_cons]
    by_cases hk : p.1 = k
    · subst hk
      have : aget p.1 l = none := by
        cases hg : aget p.1 l with
        | none => rfl
        | some v => exact (h1 (p.1, v) (aget_mem hg) rfl).elim
      rw [if_pos rfl, if_pos rfl, adel_none this]
      simp
    · rw [if_neg hk, if_neg hk, List.length_cons, ih h2, List.length_cons]
      cases hg : aget k l with
      | none => simp
      | some v =>
        have : 0 < l.length := List.length_pos_of_mem (aget_mem hg)
        simp
        omega
end

/-- A loan. -/
structure Ln where
  ip : UInt32
  firm : Bool
  til : UInt64
  deriving DecidableEq
def eLn (l : Ln) : PE := ⟨true, [.i .u32 (l.ip.toNat : Int), .b l.firm, .i .u64 (l.til.toNat : Int)]⟩
abbrev Lns := List (List UInt8 × Ln)
abbrev Rss := List (UInt32 × UInt64)
def encL (l : Lns) : Ents := l.map fun p => (.s p.1, eLn p.2)
def encR (l : Rss) : Ents := l.map fun p => (.i .u32 (p.1.toNat : Int), ⟨false, [.i .u64 (p.2.toNat : Int)]⟩)
def encB (l : List UInt32) : Ents := l.map fun a => (.i .u32 (a.toNat : Int), ⟨false, [.b true]⟩)
theorem keq_s (a b : List UInt8) : keq (.s a) (.s b) = decide (a = b) := by
  simp only [keq, PV.lit, Lit.sameKey]
  by_cases h : a = b <;> simp [h]
theorem keq_i (a b : UInt32) : keq (.i .u32 (a.toNat : Int)) (.i .u32 (b.toNat : Int)) = decide (a = b) := by
  simp only [keq, PV.lit, Lit.sameKey]
  by_cases h : a = b
  · simp [h]
  · have : ¬ (a.toNat : Int) = b.toNat := fun e => h (UInt32.toNat_inj.1 (by omega))
    simp [h, this]
theorem mget_L (k : List UInt8) : ∀ l : Lns, mget (.s k) (encL l) = (aget k l).map eLn
  | [] => rfl
  | p :: l => by
    have ih := mget_L k l
    rw [aget_cons]
    unfold mget encL at ih ⊢
    rw [List.map_cons, List.find?_cons, keq_s]
    by_cases h : p.1 = k
    · simp [h]
    · simp only [h, decide_false, if_false]
      exact ih
theorem mget_R (k : UInt32) : ∀ l : Rss, mget (.i .u32 (k.toNat : Int)) (encR l) = (aget k l).map fun u => ⟨false, [.i .u64 (u.toNat : Int)]⟩
  | [] => rfl
  | p :: l => by
    have ih := mget_R k l
    rw [aget_cons]
    unfold mget encR at ih ⊢
    rw [List.map_cons, List.find?_cons, keq_i]
    by_cases h : p.1 = k
    · simp [h]
    · simp only [h, decide_false, if_false]
      exact ih
theorem mget_B (k : UInt32) : ∀ l : List UInt32, mget (.i .u32 (k.toNat : Int)) (encB l) = if k ∈ l then some ⟨false, [.b true]⟩ else none
  | [] => rfl
  | p :: l => by
    have ih := mget_B k l
    unfold mget encB at ih ⊢
    rw [List.map_cons, List.find?_cons, keq_i]
    by_cases h : p = k
    · simp [h]
    · have h2 : ¬ k = p := fun e => h e.symm
      simp only [h, h2, List.mem_cons, false_or, decide_false]
      exact ih
theorem mdel_L (k : List UInt8) (l : Lns) : mdelE (.s k) (encL l) = encL (adel k l) := by
  unfold mdelE encL adel
  rw [List.filter_map]
  congr 1
  refine List.filter_congr fun p _ => ?_
  simp only [Function.comp, keq_s]
theorem mdel_R (k : UInt32) (l : Rss) : mdelE (.i .u32 (k.toNat : Int)) (encR l) = encR (adel k l) := by
  unfold mdelE encR adel
  rw [List.filter_map]
  congr 1
  refine List.filter_congr fun p _ => ?_
  simp only [Function.comp, keq_i]
def ltB (a b : UInt32) : Bool := decide (a < b)
theorem mins_gen {α β : Type} (f : α → PV) (g : β → PE) {lt : α → α → Bool} (hlt : ∀ a b, (f a).lit.before (f b).lit = lt a b) (x : α × β) : ∀ l : List (α × β), minsE (f x.1, g x.2) (l.map fun p => (f p.1, g p.2)) = (ains lt x l).map fun p => (f p.1, g p.2)
  | [] => rfl
  | p :: l => by
    have ih := mins_gen f g hlt x l
    by_cases h : lt x.1 p.1 = true
    · have h' : (f x.1).lit.before (f p.1).lit = true := (hlt _ _).trans h
      have e1 : minsE (f x.1, g x.2) ((p :: l).map fun p => (f p.1, g p.2)) = (f x.1, g x.2) :: (p :: l).map fun p => (f p.1, g p.2) := if_pos h'
      have e2 : ains lt x (p :: l) = x :: p :: l := if_pos h
      rw [e1, e2]
      rfl
    · have h' : ¬ (f x.1).lit.before (f p.1).lit = true := by rw [hlt]; exact h
      have e1 : minsE (f x.1, g x.2) ((p :: l).map fun p => (f p.1, g p.2)) = (f p.1, g p.2) :: minsE (f x.1, g x.2) (l.map fun p => (f p.1, g p.2)) := if_neg h'
      have e2 : ains lt x (p :: l) = p :: ains lt x l := if_neg h
      rw [e1, e2, ih]
      rfl
theorem ltB_before (a b : UInt32) : (PV.i .u32 (a.toNat : Int)).lit.before (PV.i .u32 (b.toNat : Int)).lit = ltB a b := by
  show decide ((a.toNat : Int) < b.toNat) = decide (a < b)
  rw [decide_eq_decide, UInt32.lt_iff_toNat_lt]
  omega
theorem mins_L (k : List UInt8) (v : Ln) (l : Lns) : minsE (.s k, eLn v) (encL l) = encL (ains bytesBefore (k, v) l) := mins_gen PV.s eLn (fun _ _ => rfl) (k, v) l
theorem mins_R (k : UInt32) (v : UInt64) (l : Rss) : minsE (.i .u32 (k.toNat : Int), ⟨false, [.i .u64 (v.toNat : Int)]⟩) (encR l) = encR (ains ltB (k, v) l) :=
  mins_gen (fun a : UInt32 => PV.i .u32 (a.toNat : Int)) (fun u : UInt64 => ⟨false, [.i .u64 (u.toNat : Int)]⟩) ltB_before (k, v) l
theorem mput_L (k : List UInt8) (v : Ln) (l : Lns) : mputE (.s k) (eLn v) (encL l) = encL (aput bytesBefore k v l) := by
  unfold mputE aput
  rw [mdel_L, mins_L]
theorem mput_R (k : UInt32) (v : UInt64) (l : Rss) : mputE (.i .u32 (k.toNat : Int)) ⟨false, [.i .u64 (v.toNat : Int)]⟩ (encR l) = encR (aput ltB k v l) := by
  unfold mputE aput
  rw [mdel_R, mins_R]
/-- A set of numbers, with one more. -/
def bput (k : UInt32) : List UInt32 → List UInt32 := fun l => ((aput ltB k () (l.map fun a => (a, ()))).map (·.1))
theorem mput_B (k : UInt32) (l : List UInt32) : mputE (.i .u32 (k.toNat : Int)) ⟨false, [.b true]⟩ (encB l) = encB (bput k l) := by
  have hdel : mdelE (.i .u32 (k.toNat : Int)) (encB l) = (adel k (l.map fun a => (a, ()))).map fun p => (.i .u32 (p.1.toNat : Int), ⟨false, [.b true]⟩) := by
    unfold mdelE encB adel
    rw [List.filter_map, List.filter_map, List.map_map]
    congr 1
    refine List.filter_congr fun p _ => ?_
    simp only [Function.comp, keq_i]
  have hins : ∀ m : List (UInt32 × Unit), minsE (.i .u32 (k.toNat : Int), ⟨false, [.b true]⟩) (m.map fun p => (.i .u32 (p.1.toNat : Int), ⟨false, [.b true]⟩)) = (ains ltB (k, ()) m).map fun p => (.i .u32 (p.1.toNat : Int), ⟨false, [.b true]⟩) := fun m =>
    mins_gen (fun a : UInt32 => PV.i .u32 (a.toNat : Int)) (fun _ : Unit => ⟨false, [.b true]⟩) ltB_before (k, ()) m
  unfold mputE bput aput
  rw [hdel, hins]
  unfold encB
  rw [List.map_map]
  rfl
theorem mem_bput (k a : UInt32) (l : List UInt32) : a ∈ bput k l ↔ a = k ∨ a ∈ l := by
  unfold bput
  rw [List.mem_map]
  constructor
  · rintro ⟨p, hp, rfl⟩
    rcases (mem_aput _ _ _ _).1 hp with rfl | ⟨hp, _⟩
    · exact .inl rfl
    · obtain ⟨x, hx, rfl⟩ := List.mem_map.1 hp
      exact .inr hx
  · rintro (rfl | h)
    · exact ⟨(a, ()), (mem_aput _ _ _ _).2 (.inl rfl), rfl⟩
    · by_cases hk : a = k
      · subst hk
        exact ⟨(a, ()), (mem_aput _ _ _ _).2 (.inl rfl), rfl⟩
      · exact ⟨(a, ()), (mem_aput _ _ _ _).2 (.inr ⟨List.mem_map.2 ⟨a, h, rfl⟩, hk⟩), rfl⟩
theorem len_encL (l : Lns) : (encL l).length = l.length := List.length_map _
theorem len_encR (l : Rss) : (encR l).length = l.length := List.length_map _
theorem len_encB (l : List UInt32) : (encB l).length = l.length := List.length_map _

/-- A book. -/
structure Bk where
  fst : UInt32
  lst : UInt32
  bar : List UInt32
  ln : Lns
  rs : Rss
/-- A time within its bounds. -/
def bU (n : UInt64) : UInt64 := if n.toNat ≤ 2305843009213693952 then n else 2305843009213693952
theorem bU_nat (n : UInt64) : (bU n).toNat = min n.toNat 2305843009213693952 := by
  unfold bU
  split
  · omega
  · rw [show (2305843009213693952 : UInt64).toNat = 2305843009213693952 from rfl]
    omega
theorem bnd_bU (n : UInt64) : bnd (n.toNat : Int) = ((bU n).toNat : Int) := by
  rw [bU_nat]
  unfold bnd
  split <;> omega
def Ln.hit (l : Ln) (ip : UInt32) (t : UInt64) : Bool := decide (l.ip = ip) && !decide (l.til.toNat ≤ t.toNat)
def Bk.free (B : Bk) (ip : UInt32) (now : UInt64) : Bool :=
  !(decide (ip.toNat < B.fst.toNat) || decide (B.lst.toNat < ip.toNat) || decide (ip ∈ B.bar) || decide ((bU now).toNat < ((aget ip B.rs).getD 0).toNat)) && B.ln.all fun p => !p.2.hit ip (bU now)
/-- A client's loan, if it is not over. -/
def Bk.of (B : Bk) (c : List UInt8) (now : UInt64) : Option Ln := (aget c B.ln).bind fun l => if l.til.toNat ≤ (bU now).toNat then none else some l
end Go.Fw.Wd
