/-
  The law LeaseFull at the evaluation. Conditions: none of the law.
-/
import Derived.Test.YtafdcljkcgegiaaWdLfp
set_option linter.unusedVariables false
set_option linter.unusedSimpArgs false
namespace Go.Fw.Wd
open Go.Proofs Code_

theorem bU_small {n : UInt64} (h : n.toNat ≤ 1152921504606846985) : bU n = n := if_pos (Nat.le_trans h (by decide))
/-- The memory in the loop. -/
def fh (bar : List UInt32) (L : Lns) (first last : UInt32) (seen : List UInt32) (J : Heap) : Heap := brO bar :: lnO L :: rsO [] :: (⟨first, last, bar, L, []⟩ : Bk).obj 0 1 2 :: brO seen :: J
theorem fh_at (bar : List UInt32) (L : Lns) (first last : UInt32) (seen : List UInt32) (J : Heap) : BAt (fh bar L first last seen J) 3 0 1 2 ⟨first, last, bar, L, []⟩ := ⟨rfl, rfl, rfl, rfl⟩
theorem ful_loop (g : Bool) (first last barred : UInt32) (wishes : List UInt32) (now : UInt64) (n0 : Nat) (hn0 : 1 ≤ n0 ∧ n0 ≤ 12) (hr : first.toNat + n0 < 4294967296) (hlast : last.toNat + 1 = first.toNat + n0) (hnow : now.toNat ≤ 1152921504606846976) (hw : wishes.length ≤ 300)
    (n : Nat) (hn : n = (allow first n0 barred).length) : ∀ (m i : Nat) (L : Lns) (seen : List UInt32) (J : Heap), i + m = n → Lent (allow first n0 barred) (bU (now + 9)) i L → (∀ a, a ∈ seen ↔ a ∈ L.map fun p => p.2.ip) → seen.length ≤ i →
    ∃ (L' : Lns) (seen' : List UInt32) (J' : Heap), Lent (allow first n0 barred) (bU (now + 9)) n L' ∧
    T6_0 E (lp E L6_0 [(2, i32 barred), (3, .rs g 1 (i32s wishes)), (4, i64u now), (11, .int .i64 (n : Int)), (12, .ref 3 0 0), (14, .mp 4), (15, .int .i64 (i : Int))] (fh (bput barred []) L first last seen J)) =
    T6_0 E (some (.exit 0, ⟨[(2, i32 barred), (3, .rs g 1 (i32s wishes)), (4, i64u now), (11, .int .i64 (n : Int)), (12, .ref 3 0 0), (14, .mp 4), (15, .int .i64 (n : Int))], fh (bput barred []) L' first last seen' J'⟩)) := by
  intro m
  induction m with
  | zero =>
    intro i L seen J hi hL hs hsl
    obtain rfl : i = n := by omega
    refine ⟨L, seen, J, hL, ?_⟩
    have hlt : ¬ ((i : Int) < (i : Int)) := by omega
    rw [L6_0_go]
    simp (disch := first | omega | (simp only [List.length_cons, List.length_nil, List.length_append, List.length_map, List.length_set]; omega) | rfl | (simp only [List.length_cons, List.length_nil, List.length_append, List.length_map, List.length_set, List.length_replicate, List.all_cons, List.all_nil, List.all_append, storable, plainB, Bool.and_self]; done)) only [go_sem, reduceCtorEq, ↓reduceIte, reduceDIte, evI_callP, callPK_some, B6_0, hlt]
    rfl
  | succ m ih =>
    intro i L seen J hi hL hs hsl
    have hal := allow_len (barred := barred) hr
    have hi12 : i < 12 := by
      have : (allow first n0 barred).length ≤ n0 := by rw [hal]; split <;> omega
      omega
    obtain ⟨b, hb⟩ : ∃ b, UInt8.ofNat (i + 1) = b := ⟨_, rfl⟩
    have hbn : b.toNat = i + 1 := by rw [← hb, of8 (by omega)]
    obtain ⟨wish, hwish⟩ : ∃ w, (if i < wishes.length then wishes.getD i 0 else 0) = w := ⟨_, rfl⟩
    obtain ⟨til, htil⟩ : ∃ t, now + 9 = t := ⟨_, rfl⟩
    have htn : til.toNat = now.toNat + 9 := by
      rw [← htil, UInt64.toNat_add, show (9 : UInt64).toNat = 9 from rfl]
      omega
    have hbu : (bU now).toNat < (bU til).toNat := by rw [bU_small (by omega), bU_small (by omega), htn]; omega
    rw [htil] at ih hL ⊢
    have hfree := fun ip => lent_free hr hlast hbu hL ip
    have hnone := hL.fresh (by omega) (m := i + 1) (by omega) (by omega)
    rw [hb] at hnone
    obtain ⟨B, hB⟩ : ∃ B : Bk, ⟨first, last, bput barred [], L, []⟩ = B := ⟨_, rfl⟩
    rw [hB] at hfree
    have hBok : B.Ok := by rw [← hB]; exact ⟨by show first.toNat ≤ last.toNat; omega, by show last.toNat - first.toNat < 256; omega⟩
    have hof : B.of [b] now = none := by
      unfold Bk.of
      rw [← hB]
      show (aget [b] L).bind _ = none
      rw [hnone]
      rfl
    obtain ⟨ip, hip⟩ : ∃ ip, B.find wish now = some ip := by
      cases hf : B.find wish now with
      | some ip => exact ⟨ip, rfl⟩
      | none =>
        obtain ⟨a, ha1, ha2⟩ := lent_room (allow_nodup hr) hL (by omega)
        have := find_none hf a
        rw [(hfree a).2 ⟨ha1, ha2⟩] at this
        cases this
    obtain ⟨hia, hin⟩ := (hfree ip).1 (find_some hip)
    have hput := hL.put (by omega) hia hin
    rw [hb] at hput
    have hoff : B.offer [b] wish now til = (B.put [b] ⟨ip, false, bU til⟩, ip, 0) := by
      unfold Bk.offer
      rw [if_neg (by simp), hof, hip]
    have hBl : B.ln = L := by rw [← hB]
    obtain ⟨J1, q19⟩ := m19 (B := B) (by rw [← hB]; exact fh_at (bput barred []) L first last seen J) hBok (by rw [hBl, hL.len]; omega) [b] (by simp) wish now til
    rw [hoff] at q19
    have hset : (fh (bput barred []) L first last seen J).set 1 (lnO (B.put [b] ⟨ip, false, bU til⟩).ln) ++ J1 = fh (bput barred []) (aput bytesBefore [b] ⟨ip, false, bU til⟩ L) first last seen (J ++ J1) := by
      rw [← hB]
      rfl
    simp only [hset] at q19
    have hseen : ip ∉ seen := fun h => hin ((hs ip).1 h)
    have hnb : ip ≠ barred := ((mem_allow hr ip).1 hia).2.2
    obtain ⟨L', seen', J', r1, r2⟩ := ih (i + 1) _ (bput ip seen) (J ++ J1) (by omega) hput (fun a => by
      have hp : (aput bytesBefore [b] ⟨ip, false, bU til⟩ L).Perm (([b], ⟨ip, false, bU til⟩) :: L) := by
        unfold aput
        rw [adel_none hnone]
        exact perm_ains _ _
      rw [mem_bput, hs a, (hp.map _).mem_iff]
      simp) (by have := len_bput ip seen; omega)
    refine ⟨L', seen', J', r1, ?_⟩
    rw [← r2]
    have hlt : (i : Int) < (n : Int) := by omega
    have w3 : IntKind.u64.wrap ((now.toNat : Int) + 9) = (til.toNat : Int) := by
      rw [wu64 (by omega) (by omega), htn]
      omega
    have hstr : ∀ H : Heap, toStrK H (some [.int .u8 (b.toNat : Int)]) (some 1) = some (sv [b], H) := fun H => toStr_by8 H [b] 1
    have hib : (b.toNat : Int) = (i : Int) + 1 := by omega
    rw [hib] at hstr
    rw [show ((i + 1 : Nat) : Int) = (i : Int) + 1 by omega] at r2
    have a4 : ∀ (L : Lns) (S : List UInt32) (J : Heap), (fh (bput barred []) L first last S J)[4]? = some (brO S) := fun _ _ _ => rfl
    have s4 : ∀ (L : Lns) (S S' : List UInt32) (J : Heap), (fh (bput barred []) L first last S J).set 4 (.map (.int .u32) (encB S')) = fh (bput barred []) L first last S' J := fun _ _ _ _ => rfl
    have hmg := mget_B ip seen
    rw [if_neg hseen] at hmg
    have hmp := mput_B ip seen
    have hwf := wf32 ip
    have hS' : (encB seen).length ≤ 1048576 := by rw [len_encB]; omega
    have hll := len_i32s wishes
    have hnb' : ¬ ((ip.toNat : Int) = (barred.toNat : Int)) := fun h => hnb (UInt32.toNat_inj.1 (by omega))
    rw [L6_0_go]
    by_cases hiw : i < wishes.length
    · have hiw' : (i : Int) < (wishes.length : Int) := by omega
      rw [if_pos hiw] at hwish
      have hia : ∀ H : Heap, iaddrK H 1 (.rs g 1 (i32s wishes)) (.int .i64 (i : Int)) = some (.rp g (i32 wish), H) := fun H => by
        rw [iaddrK_rs H 1 g _ _ _ (by omega) (by rw [len_i32s]; omega), Int.toNat_natCast, List.getD_eq_getElem?_getD, List.getElem?_map, List.getElem?_eq_getElem (by omega), ← hwish, List.getD_eq_getElem?_getD, List.getElem?_eq_getElem (by omega)]
        rfl
      simp (disch := first | omega | (simp only [List.length_cons, List.length_nil, List.length_append, List.length_map, List.length_set]; omega) | rfl | (simp only [List.length_cons, List.length_nil, List.length_append, List.length_map, List.length_set, List.length_replicate, List.all_cons, List.all_nil, List.all_append, storable, plainB, Bool.and_self]; done)) only [go_sem, reduceCtorEq, ↓reduceIte, reduceDIte, evI_callP, callPK_some, B6_0, hlt, hiw', hll, hia, w3, hstr, q19, a4, s4, hmg, hmp, hwf, hS', hnb', L6_0_lp]
    · have hiw' : ¬ (i : Int) < (wishes.length : Int) := by omega
      rw [if_neg hiw] at hwish
      subst hwish
      rw [show i32 0 = .int .u32 0 from rfl] at q19
      simp (disch := first | omega | (simp only [List.length_cons, List.length_nil, List.length_append, List.length_map, List.length_set]; omega) | rfl | (simp only [List.length_cons, List.length_nil, List.length_append, List.length_map, List.length_set, List.length_replicate, List.all_cons, List.all_nil, List.all_append, storable, plainB, Bool.and_self]; done)) only [go_sem, reduceCtorEq, ↓reduceIte, reduceDIte, evI_callP, callPK_some, B6_0, hlt, hiw', hll, w3, hstr, q19, a4, s4, hmg, hmp, hwf, hS', hnb', L6_0_lp]
theorem once_perm {α β : Type} [DecidableEq α] {k : α} {v : β} : ∀ {l : List (α × β)}, Once l → aget k l = some v → l.Perm ((k, v) :: adel k l)
  | [], _, h => by cases h
  | p :: l, ho, h => by
    obtain ⟨h1, h2⟩ := List.pairwise_cons.1 ho
    rw [aget_cons] at h
    rw [adel_cons]
    by_cases hk : p.1 = k
    · rw [if_pos hk] at h ⊢
      injection h with h
      have hn : aget k l = none := by
        cases hg : aget k l with
        | none => rfl
        | some w => exact absurd hk (h1 _ (aget_mem hg))
      rw [adel_none hn, ← h, ← hk]
    · rw [if_neg hk] at h ⊢
      exact ((once_perm h2 h).cons p).trans (List.Perm.swap _ _ _)
/-- Behind the loop. -/
theorem ful_rest (g : Bool) (first last barred : UInt32) (wishes : List UInt32) (now : UInt64) (n0 : Nat) (hn0 : 1 ≤ n0 ∧ n0 ≤ 12) (hr : first.toNat + n0 < 4294967296) (hlast : last.toNat + 1 = first.toNat + n0) (hnow : now.toNat ≤ 1152921504606846976)
    (n : Nat) (hn : n = (allow first n0 barred).length) (L : Lns) (seen : List UInt32) (J : Heap) (hL : Lent (allow first n0 barred) (bU (now + 9)) n L) :
    ∃ H, T6_0 E (some (.exit 0, ⟨[(2, i32 barred), (3, .rs g 1 (i32s wishes)), (4, i64u now), (11, .int .i64 (n : Int)), (12, .ref 3 0 0), (14, .mp 4), (15, .int .i64 (n : Int))], fh (bput barred []) L first last seen J⟩)) = some (.bool true, H) := by
  have hal := allow_len (barred := barred) hr
  have hn12 : n ≤ 12 := by rw [hn, hal]; split <;> omega
  obtain ⟨til, htil⟩ : ∃ t, now + 9 = t := ⟨_, rfl⟩
  have htn : til.toNat = now.toNat + 9 := by
    rw [← htil, UInt64.toNat_add, show (9 : UInt64).toNat = 9 from rfl]
    omega
  have hbu : (bU now).toNat < (bU til).toNat := by rw [bU_small (by omega), bU_small (by omega), htn]; omega
  rw [htil] at hL
  have hfree := fun ip => lent_free hr hlast hbu hL ip
  have hz := hL.fresh (by omega) (m := 122) (by omega) (by omega)
  have hfull := lent_full (hn ▸ hL)
  obtain ⟨B, hB⟩ : ∃ B : Bk, ⟨first, last, bput barred [], L, []⟩ = B := ⟨_, rfl⟩
  rw [hB] at hfree
  have hBok : B.Ok := by rw [← hB]; exact ⟨by show first.toNat ≤ last.toNat; omega, by show last.toNat - first.toNat < 256; omega⟩
  have hBl : B.ln = L := by rw [← hB]
  have hofz : B.of [122] now = none := by
    unfold Bk.of
    rw [hBl, show ([122] : List UInt8) = [UInt8.ofNat 122] from rfl, hz]
    rfl
  have hfn : B.find 0 now = none := by
    cases hf : B.find 0 now with
    | none => rfl
    | some ip =>
      obtain ⟨h1, h2⟩ := (hfree ip).1 (find_some hf)
      exact absurd (hfull ip h1) h2
  have hoff : B.offer [122] 0 now til = (B, 0, 18) := by
    unfold Bk.offer
    rw [if_neg (by simp), hofz, hfn]
  have hat : ∀ L seen J, BAt (fh (bput barred []) L first last seen J) 3 0 1 2 ⟨first, last, bput barred [], L, []⟩ := fun L seen J => fh_at _ _ _ _ _ _
  obtain ⟨J1, q19⟩ := m19 (B := B) (by rw [← hB]; exact hat L seen J) hBok (by rw [hBl, hL.len]; omega) [122] (by simp) 0 now til
  rw [hoff] at q19
  have hset : (fh (bput barred []) L first last seen J).set 1 (lnO B.ln) ++ J1 = fh (bput barred []) L first last seen (J ++ J1) := by
    rw [← hB]
    rfl
  simp only [hset] at q19
  obtain ⟨K1, hK1⟩ : ∃ K, J ++ J1 = K := ⟨_, rfl⟩
  rw [hK1] at q19
  have w3 : IntKind.u64.wrap ((now.toNat : Int) + 9) = (til.toNat : Int) := by
    rw [wu64 (by omega) (by omega), htn]
    omega
  rw [show i32 0 = .int .u32 0 from rfl, show sv [122] = .str ⟨#[122]⟩ from rfl] at q19
  have a3 : ∀ (L : Lns) (S : List UInt32) (J : Heap), (fh (bput barred []) L first last S J)[3]? = some ((⟨first, last, bput barred [], L, []⟩ : Bk).obj 0 1 2) := fun _ _ _ => rfl
  have a0 : ∀ (L : Lns) (S : List UInt32) (J : Heap), (fh (bput barred []) L first last S J)[0]? = some (brO (bput barred [])) := fun _ _ _ => rfl
  have a1 : ∀ (L : Lns) (S : List UInt32) (J : Heap), (fh (bput barred []) L first last S J)[1]? = some (lnO L) := fun _ _ _ => rfl
  have a2 : ∀ (L : Lns) (S : List UInt32) (J : Heap), (fh (bput barred []) L first last S J)[2]? = some (rsO []) := fun _ _ _ => rfl
  have q22 := fun g => s22 g ⟨first, last, bput barred [], L, []⟩
  simp only [hL.len] at q22
  by_cases hn00 : n = 0
  · subst hn00
    simp (disch := first | omega | (simp only [List.length_cons, List.length_nil, List.length_append, List.length_map, List.length_set]; omega) | rfl | (simp only [List.length_cons, List.length_nil, List.length_append, List.length_map, List.length_set, List.length_replicate, List.all_cons, List.all_nil, List.all_append, storable, plainB, Bool.and_self]; done)) only [go_sem, reduceCtorEq, ↓reduceIte, reduceDIte, evI_callP, callPK_some, T6_0, w3, q19, a0, a1, a2, a3, q22]
    exact ⟨_, rfl⟩
  · have hn1 : ¬ ((n : Int) = 0) := by omega
    obtain ⟨l, hl⟩ := hL.has 0 (by omega)
    have hl : aget [1] L = some l := hl
    obtain ⟨e1, e2, e3, _⟩ := hL.ent _ (aget_mem hl)
    have e1 : l.firm = false := e1
    have e3 : l.ip ∈ allow first n0 barred := e3
    have e2 : l.til = bU til := e2
    have q18 := fun g => s18 g ⟨first, last, bput barred [], L, []⟩ [1] (by simp) now
    have hof1 : (⟨first, last, bput barred [], L, []⟩ : Bk).of [1] now = some l := by
      unfold Bk.of
      show (aget [1] L).bind _ = _
      rw [hl]
      show (if l.til.toNat ≤ _ then none else some l) = some l
      rw [if_neg (by rw [e2]; omega)]
    simp only [hof1] at q18
    rw [show sv [1] = .str ⟨#[1]⟩ from rfl] at q18
    obtain ⟨J2, q23⟩ := m23 (hat L seen (K1 ++ [.cells true [i32 l.ip, .bool l.firm, i64u l.til] 49])) (by show L.length ≤ _; rw [hL.len]; omega) [1] (by simp) false
    have hdr : (⟨first, last, bput barred [], L, []⟩ : Bk).drop [1] false = (⟨first, last, bput barred [], adel [1] L, []⟩, true) := by
      unfold Bk.drop
      show (match aget [1] L with | some l => _ | none => _) = _
      rw [hl]
      show (if l.firm = false then _ else _) = _
      rw [if_pos e1]
      rfl
    rw [hdr] at q23
    obtain ⟨B2, hB2⟩ : ∃ B : Bk, ⟨first, last, bput barred [], adel [1] L, []⟩ = B := ⟨_, rfl⟩
    have hB2ok : B2.Ok := by rw [← hB2]; exact ⟨by show first.toNat ≤ last.toNat; omega, by show last.toNat - first.toNat < 256; omega⟩
    have hB2l : B2.ln = adel [1] L := by rw [← hB2]
    have hof2 : B2.of [122] now = none := by
      unfold Bk.of
      rw [hB2l, aget_adel, if_neg (by decide), show ([122] : List UInt8) = [UInt8.ofNat 122] from rfl, hz]
      rfl
    have hfr2 : ∀ ip, B2.free ip now = true ↔ ip = l.ip := by
      intro ip
      have hmem : ∀ p ∈ adel [1] L, p ∈ L ∧ p.1 ≠ [1] := fun p hp => (mem_adel _ _ _).1 hp
      have hperm : L.Perm (([1], l) :: adel [1] L) := once_perm hL.once hl
      have hnd := hL.nd
      rw [(hperm.map fun p => p.2.ip).nodup_iff, List.map_cons, List.nodup_cons] at hnd
      rw [free_iff, ← hB2]
      simp only [mem_bput, List.not_mem_nil, or_false, aget_nil, Option.getD_none]
      constructor
      · rintro ⟨h1, h2, h3, _, h5⟩
        have h2 : ip.toNat ≤ last.toNat := h2
        have hm := hfull ip ((mem_allow hr ip).2 ⟨h1, by omega, h3⟩)
        rw [(hperm.map fun p => p.2.ip).mem_iff, List.map_cons, List.mem_cons] at hm
        rcases hm with rfl | hm
        · rfl
        · obtain ⟨p, hp, he⟩ := List.mem_map.1 hm
          have h6 := h5 p hp he
          rw [(hL.ent p (hmem p hp).1).2.1] at h6
          omega
      · rintro rfl
        obtain ⟨h1, h2, h3⟩ := (mem_allow hr _).1 e3
        exact ⟨h1, by show l.ip.toNat ≤ last.toNat; omega, h3, Nat.zero_le _, fun p hp he => absurd (List.mem_map.2 ⟨p, hp, he⟩) hnd.1⟩
    have hfi2 : B2.find 0 now = some l.ip := by
      cases hf : B2.find 0 now with
      | some ip => rw [(hfr2 ip).1 (find_some hf)]
      | none =>
        have := find_none hf l.ip
        rw [(hfr2 l.ip).2 rfl] at this
        cases this
    have hoff2 : B2.offer [122] 0 now til = (B2.put [122] ⟨l.ip, false, bU til⟩, l.ip, 0) := by
      unfold Bk.offer
      rw [if_neg (by simp), hof2, hfi2]
    obtain ⟨K2, hK2⟩ : ∃ K, K1 ++ [.cells true [i32 l.ip, .bool l.firm, i64u l.til] 49] ++ J2 = K := ⟨_, rfl⟩
    have hset2 : (fh (bput barred []) L first last seen (K1 ++ [.cells true [i32 l.ip, .bool l.firm, i64u l.til] 49])).set 1 (lnO (adel [1] L)) ++ J2 = fh (bput barred []) (adel [1] L) first last seen K2 := by rw [← hK2]; rfl
    simp only [hset2] at q23
    obtain ⟨J3, q19b⟩ := m19 (B := B2) (by rw [← hB2]; exact hat (adel [1] L) seen K2) hB2ok (by rw [hB2l]; have := len_adel [1] L; rw [hL.len] at this; omega) [122] (by simp) 0 now til
    rw [hoff2] at q19b
    rw [show i32 0 = .int .u32 0 from rfl, show sv [122] = .str ⟨#[122]⟩ from rfl] at q19b
    rw [show sv [1] = .str ⟨#[1]⟩ from rfl] at q23
    have fha : ∀ (L : Lns) (S : List UInt32) (J X : Heap), fh (bput barred []) L first last S J ++ X = fh (bput barred []) L first last S (J ++ X) := fun _ _ _ _ => rfl
    have fhl : ∀ (L : Lns) (S : List UInt32) (J : Heap), (fh (bput barred []) L first last S J).length = J.length + 5 := fun _ _ _ => rfl
    have fht : ∀ (L : Lns) (S : List UInt32) (J : Heap) (c : AObj) (X : Heap), (fh (bput barred []) L first last S (J ++ c :: X))[J.length + 5]? = some c := fun _ _ J c X => gtop J c X
    have fhs : ∀ (L : Lns) (S : List UInt32) (J : Heap) (c d : AObj) (X : Heap), (fh (bput barred []) L first last S (J ++ c :: X)).set (J.length + 5) d = fh (bput barred []) L first last S (J ++ d :: X) := fun L S J c d X => by
      show _ :: _ :: _ :: _ :: _ :: (J ++ c :: X).set J.length d = _
      rw [stop]
      rfl
    have htop : ((fh (bput barred []) (adel [1] L) first last seen K2).set 1 (lnO (B2.put [122] ⟨l.ip, false, bU til⟩).ln) ++ J3)[K1.length + 5]? = some (.cells true [i32 l.ip, .bool l.firm, i64u l.til] 49) := by
      rw [← hK2, List.append_assoc]
      show ((K1 ++ _ :: J2) ++ J3)[K1.length]? = _
      rw [List.append_assoc]
      exact gtop K1 _ _
    simp (disch := first | omega | (simp only [List.length_cons, List.length_nil, List.length_append, List.length_map, List.length_set]; omega) | rfl | (simp only [List.length_cons, List.length_nil, List.length_append, List.length_map, List.length_set, List.length_replicate, List.all_cons, List.all_nil, List.all_append, storable, plainB, Bool.and_self]; done)) only [go_sem, reduceCtorEq, ↓reduceIte, reduceDIte, evI_callP, callPK_some, T6_0, w3, q19, a0, a1, a2, a3, q22, hn1, q18, q23, q19b, fha, fhl, fht, fhs, htop]
    exact ⟨_, rfl⟩
theorem s6 (g : Bool) (first : UInt32) (many : UInt8) (barred : UInt32) (wishes : List UInt32) (now : UInt64) :
    pcall E 6 [i32 first, .int .u8 (many.toNat : Int), i32 barred, .rs g 1 (i32s wishes), i64u now] = some (.bool true, []) := by
  have q7 := s7
  have hk : E.keep 6 = false := rfl
  have hll := len_i32s wishes
  rw [pcall_go (fn := I6) rfl rfl rfl]
  by_cases c1 : (2147483648 : Int) < (first.toNat : Int)
  · simp (disch := first | omega | (simp only [List.length_cons, List.length_nil, List.length_append, List.length_map, List.length_set]; omega) | rfl | (simp only [List.length_cons, List.length_nil, List.length_append, List.length_map, List.length_set, List.length_replicate, List.all_cons, List.all_nil, List.all_append, storable, plainB, Bool.and_self]; done)) only [go_sem, reduceCtorEq, ↓reduceIte, reduceDIte, evI_callP, callPK_some, I6, hk, q7, c1]
  by_cases c2 : (300 : Int) < (wishes.length : Int)
  · simp (disch := first | omega | (simp only [List.length_cons, List.length_nil, List.length_append, List.length_map, List.length_set]; omega) | rfl | (simp only [List.length_cons, List.length_nil, List.length_append, List.length_map, List.length_set, List.length_replicate, List.all_cons, List.all_nil, List.all_append, storable, plainB, Bool.and_self]; done)) only [go_sem, reduceCtorEq, ↓reduceIte, reduceDIte, evI_callP, callPK_some, I6, hk, q7, c1, c2, hll]
  by_cases c3 : (1152921504606846976 : Int) < (now.toNat : Int)
  · simp (disch := first | omega | (simp only [List.length_cons, List.length_nil, List.length_append, List.length_map, List.length_set]; omega) | rfl | (simp only [List.length_cons, List.length_nil, List.length_append, List.length_map, List.length_set, List.length_replicate, List.all_cons, List.all_nil, List.all_append, storable, plainB, Bool.and_self]; done)) only [go_sem, reduceCtorEq, ↓reduceIte, reduceDIte, evI_callP, callPK_some, I6, hk, q7, c1, c2, hll, c3]
  obtain ⟨k, hk0⟩ : ∃ k, many.toNat % 12 = k := ⟨_, rfl⟩
  have hk12 : k < 12 := by omega
  have hm1 : ((many.toNat : Int).tmod 12) = (k : Int) := by
    rw [Int.tmod_eq_emod_of_nonneg (by omega)]
    omega
  have hr : first.toNat + (k + 1) < 4294967296 := by omega
  obtain ⟨last, hlast⟩ : ∃ last : UInt32, UInt32.ofNat (first.toNat + k) = last := ⟨_, rfl⟩
  have hlastn : last.toNat = first.toNat + k := by rw [← hlast, of32 (by omega)]
  have hle : (first.toNat : Int) + ((k : Int) + 1) - 1 = (last.toNat : Int) := by omega
  have q9 := m9 false first last [barred] [] (by simp) ⟨by omega, by omega⟩
  have hal := allow_len (first := first) (n0 := k + 1) (barred := barred) hr
  obtain ⟨n, hn⟩ : ∃ n, n = (allow first (k + 1) barred).length := ⟨_, rfl⟩
  rw [← hn] at hal
  obtain ⟨L', seen', J', r1, r2⟩ := ful_loop g first last barred wishes now (k + 1) (by omega) hr (by omega) (by omega) (by omega) n hn n 0 [] [] [] (by omega) ⟨rfl, List.Pairwise.nil, by simp, List.nodup_nil, by omega⟩ (by simp) (by simp)
  obtain ⟨H, r3⟩ := ful_rest g first last barred wishes now (k + 1) (by omega) hr (by omega) (by omega) n hn L' seen' J' r1
  rw [r3] at r2
  simp only [i32s, List.map_cons, List.map_nil, List.length_nil, Nat.zero_add, List.nil_append] at q9
  have hh : [brO (bars [] [barred]), lnO [], rsO [], Bk.obj 0 1 2 ⟨first, last, bars [] [barred], [], []⟩] ++ [.map (.int .u32) []] = fh (bput barred []) [] first last [] [] := rfl
  by_cases hb : first.toNat ≤ barred.toNat ∧ barred.toNat < first.toNat + (k + 1)
  · have hb1 : (first.toNat : Int) ≤ (barred.toNat : Int) := by omega
    have hb2 : (barred.toNat : Int) < (first.toNat : Int) + ((k : Int) + 1) := by omega
    rw [if_pos hb] at hal
    have hkn : (k : Int) + 1 - 1 = (n : Int) := by omega
    simp (disch := first | omega | (simp only [List.length_cons, List.length_nil, List.length_append, List.length_map, List.length_set]; omega) | rfl | (simp only [List.length_cons, List.length_nil, List.length_append, List.length_map, List.length_set, List.length_replicate, List.all_cons, List.all_nil, List.all_append, storable, plainB, Bool.and_self]; done)) only [go_sem, reduceCtorEq, ↓reduceIte, reduceDIte, evI_callP, callPK_some, I6, hk, q7, c1, c2, hll, c3, hm1, hle, hb1, hb2, q9, L6_0_lp, hkn]
    exact (congrArg (Option.bind · (finish false)) r2).trans (by simp only [go_sem, reduceCtorEq, ↓reduceIte, reduceDIte, evI_callP, callPK_some])
  · rw [if_neg hb] at hal
    have hkn : (k : Int) + 1 = (n : Int) := by omega
    by_cases hb1 : (first.toNat : Int) ≤ (barred.toNat : Int)
    · have hb2 : ¬ (barred.toNat : Int) < (first.toNat : Int) + ((k : Int) + 1) := by omega
      simp (disch := first | omega | (simp only [List.length_cons, List.length_nil, List.length_append, List.length_map, List.length_set]; omega) | rfl | (simp only [List.length_cons, List.length_nil, List.length_append, List.length_map, List.length_set, List.length_replicate, List.all_cons, List.all_nil, List.all_append, storable, plainB, Bool.and_self]; done)) only [go_sem, reduceCtorEq, ↓reduceIte, reduceDIte, evI_callP, callPK_some, I6, hk, q7, c1, c2, hll, c3, hm1, hle, hb1, hb2, q9, L6_0_lp]
      rw [hkn]
      exact (congrArg (Option.bind · (finish false)) r2).trans (by simp only [go_sem, reduceCtorEq, ↓reduceIte, reduceDIte, evI_callP, callPK_some])
    · simp (disch := first | omega | (simp only [List.length_cons, List.length_nil, List.length_append, List.length_map, List.length_set]; omega) | rfl | (simp only [List.length_cons, List.length_nil, List.length_append, List.length_map, List.length_set, List.length_replicate, List.all_cons, List.all_nil, List.all_append, storable, plainB, Bool.and_self]; done)) only [go_sem, reduceCtorEq, ↓reduceIte, reduceDIte, evI_callP, callPK_some, I6, hk, q7, c1, c2, hll, c3, hm1, hle, hb1, q9, L6_0_lp]
      rw [hkn]
      exact (congrArg (Option.bind · (finish false)) r2).trans (by simp only [go_sem, reduceCtorEq, ↓reduceIte, reduceDIte, evI_callP, callPK_some])
end Go.Fw.Wd
