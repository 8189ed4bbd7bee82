/-
  The laws UdpSwaps and UdpSpoilt at the evaluation. Conditions: stated at each.
-/
import Derived.Test.YtmmfimpphhebfaaDoorWdUlaw
import Derived.Test.YtmmfimpphhebfaaDoorWdTspoilt
import Derived.Test.YtmmfimpphhebfaaDoorWdUpar
set_option linter.unusedVariables false
set_option linter.unusedSimpArgs false
namespace Go.Fw.Wd
open Go.Proofs Code_

theorem sumW_udpH (p q n : Nat) (hp : p < 65536) (hq : q < 65536) (l : List UInt8) : sumW (udpH p q n ++ l) = p + (q + sumW (encb 2 n ++ l)) := by
  have l2 : ∀ v, (encb 2 v).length % 2 = 0 := fun v => by rw [encb_length]
  unfold udpH
  simp only [List.append_assoc]
  rw [sumW_enc2 p hp, sumW_enc2 q hq]
/-- Another order of ports, or of Ips: the same sum. -/
theorem udpN_ports (p q : Nat) (hp : p < 65536) (hq : q < 65536) (r : Bool) (body : List UInt8) (x y : UInt32) : udpN q p r body x y = udpN p q r body x y := by
  have h : udpS q p body x y = udpS p q body x y := by
    have l12 : (endsP x y 17 (8 + body.length)).length % 2 = 0 := by rw [endsP_len]
    unfold udpS
    rw [sumW_append _ _ l12, sumW_append _ _ l12, sumW_udpH q p _ hq hp, sumW_udpH p q _ hp hq]
    congr 2
    omega
  unfold udpN
  rw [h]
theorem udpN_ips (p q : Nat) (r : Bool) (body : List UInt8) (x y : UInt32) : udpN p q r body y x = udpN p q r body x y := by
  have h : udpS p q body y x = udpS p q body x y := by
    unfold udpS
    rw [endsP_swap]
  unfold udpN
  rw [h]
theorem udpB_head (p q : Nat) (r : Bool) (body : List UInt8) (x y : UInt32) : (udpB p q r body x y).take 6 = udpH p q (8 + body.length) := by
  unfold udpB
  exact List.take_left' (udpH_len _ _ _)
theorem udpB_tail (p q : Nat) (r : Bool) (body : List UInt8) (x y : UInt32) : (udpB p q r body x y).drop 6 = encb 2 (udpN p q r body x y) ++ body := by
  unfold udpB
  exact List.drop_left' (udpH_len _ _ _)
theorem udpB_body (p q : Nat) (r : Bool) (body : List UInt8) (x y : UInt32) : (udpB p q r body x y).drop 8 = body := by
  rw [show (8 : Nat) = 6 + 2 from rfl, ← List.drop_drop, udpB_tail]
  exact List.drop_left' (encb_length _ _)

theorem law8 (p q : Nat) (hp : p < 65536) (hq : q < 65536) (r : Bool) (body : List UInt8) (x y : UInt32) : pcall E 8 [.agg (dgC p q r body), .int .u32 (x.toNat : Int), .int .u32 (y.toNat : Int)] = some (.bool true, []) := by
  rw [pcall_go (fn := I8) rfl rfl rfl]
  have hk : E.keep 8 = false := rfl
  by_cases h1 : (1472 : Int) < body.length
  · simp only [dgC_eq]
    simp (disch := first | omega | (simp only [List.length_cons, List.length_nil, List.length_append, List.length_map, List.length_set]; omega) | rfl | (simp only [List.length_cons, List.length_nil, List.length_append, List.length_map, List.length_set, List.length_replicate, List.all_cons, List.all_nil, List.all_append, storable, plainB, Bool.and_self]; done)) only [go_sem, reduceCtorEq, ↓reduceIte, Nat.reduceEqDiff, Nat.reduceAdd, Nat.reduceSub, Nat.reduceMul, Nat.reduceLeDiff, Nat.reduceLT, Nat.reduceBEq, Nat.reduceBNe, Int.reduceAdd, Int.reduceSub, Int.reduceMul, Int.reduceNeg, Int.reduceEq, Int.reduceNe, Int.reduceLT, Int.reduceLE, Int.reduceToNat, reduceDIte, Nat.reduceSucc, evI_callP, callPK_some, I8, hk, s38, h1]
  have h8' : ¬ (8 + (body.length : Int) < 8) := by omega
  have q1 := s43 p q hp hq r body (by omega) x y
  have q2 := s43 q p hq hp r body (by omega) x y
  have q3 := s43 p q hp hq r body (by omega) y x
  have q4 := s43 p q hp hq true body (by omega) x y
  have q5 := s43 p q hp hq true body (by omega) 7 9
  have a1 := udpB_len p q r body x y
  have a2 := udpB_len q p r body x y
  have a4 := udpB_len p q true body x y
  have c1 : udpB p q r body y x = udpB p q r body x y := by unfold udpB; rw [udpN_ips]
  have c2 : udpB p q true body 7 9 = udpB p q true body x y := by unfold udpB udpN; rw [if_pos rfl, if_pos rfl]
  have c3 : (udpB q p r body x y).drop 6 = (udpB p q r body x y).drop 6 := by rw [udpB_tail, udpB_tail, udpN_ports p q hp hq]
  have c4 : (udpB p q true body x y).take 6 = (udpB p q r body x y).take 6 := by rw [udpB_head, udpB_head]
  have c5 : (udpB p q true body x y).drop 8 = (udpB p q r body x y).drop 8 := by rw [udpB_body, udpB_body]
  rw [c1] at q3
  rw [c2] at q5
  generalize udpB p q r body x y = A at *
  generalize udpB q p r body x y = B at *
  generalize udpB p q true body x y = C at *
  have s1 : ∀ h g, sliceK h 1 (.rs g 1 (A.map by8)) (some A.length) (some (.int .i64 6)) none = some (.rs g 1 ((A.drop 6).map by8), h) := fun h g => slice_by_in h g A .i64 6 (by omega) (by omega)
  have s2 : ∀ h g, sliceK h 1 (.rs g 1 (B.map by8)) (some B.length) (some (.int .i64 6)) none = some (.rs g 1 ((A.drop 6).map by8), h) := fun h g => by
    have := slice_by_in h g B .i64 6 (by omega) (by omega)
    rw [show Int.toNat 6 = 6 from rfl, c3] at this
    exact this
  have s3 : ∀ h g, sliceK h 1 (.rs g 1 (A.map by8)) (some A.length) (some (.int .i64 8)) none = some (.rs g 1 ((A.drop 8).map by8), h) := fun h g => slice_by_in h g A .i64 8 (by omega) (by omega)
  have s4 : ∀ h g, sliceK h 1 (.rs g 1 (C.map by8)) (some C.length) (some (.int .i64 8)) none = some (.rs g 1 ((A.drop 8).map by8), h) := fun h g => by
    have := slice_by_in h g C .i64 8 (by omega) (by omega)
    rw [show Int.toNat 8 = 8 from rfl, c5] at this
    exact this
  have s5 : ∀ h g, sliceK h 1 (.rs g 1 (A.map by8)) (some A.length) none (some (.int .i64 6)) = some (.rs g 1 ((A.take 6).map by8), h) := fun h g => slice_by_ni h g A .i64 6 (by omega) (by omega)
  have s6 : ∀ h g, sliceK h 1 (.rs g 1 (C.map by8)) (some C.length) none (some (.int .i64 6)) = some (.rs g 1 ((A.take 6).map by8), h) := fun h g => by
    have := slice_by_ni h g C .i64 6 (by omega) (by omega)
    rw [show Int.toNat 6 = 6 from rfl, c4] at this
    exact this
  have m1 := fun g g' => s31 g g' (A.drop 6) (A.drop 6) (by rw [List.length_drop]; omega)
  have m2 := fun g g' => s31 g g' A A (by omega)
  have m3 := fun g g' => s31 g g' C C (by omega)
  have m4 := fun g g' => s31 g g' (A.take 6) (A.take 6) (by rw [List.length_take]; omega)
  have m5 := fun g g' => s31 g g' (A.drop 8) (A.drop 8) (by rw [List.length_drop]; omega)
  have t7 : ((UInt32.toNat 7 : Nat) : Int) = 7 := rfl
  have t9 : ((UInt32.toNat 9 : Nat) : Int) = 9 := rfl
  have b1 : ¬ (A.length : Int) < 8 := by omega
  have b2 : ¬ (B.length : Int) < 8 := by omega
  have b4 : ¬ (C.length : Int) < 8 := by omega
  simp only [dgC_eq, t7, t9] at q1 q2 q3 q4 q5 ⊢
  clear c1 c2 c3 c4 c5
  simp only [a1, a2, a4] at s1 s2 s3 s4 s5 s6
  simp (disch := first | omega | (simp only [List.length_cons, List.length_nil, List.length_append, List.length_map, List.length_set]; omega) | rfl | (simp only [List.length_cons, List.length_nil, List.length_append, List.length_map, List.length_set, List.length_replicate, List.all_cons, List.all_nil, List.all_append, storable, plainB, Bool.and_self]; done)) only [go_sem, reduceCtorEq, ↓reduceIte, Nat.reduceEqDiff, Nat.reduceAdd, Nat.reduceSub, Nat.reduceMul, Nat.reduceLeDiff, Nat.reduceLT, Nat.reduceBEq, Nat.reduceBNe, Int.reduceAdd, Int.reduceSub, Int.reduceMul, Int.reduceNeg, Int.reduceEq, Int.reduceNe, Int.reduceLT, Int.reduceLE, Int.reduceToNat, reduceDIte, Nat.reduceSucc, evI_callP, callPK_some, I8, hk, s38, h1, q1, q2, q3, q4, q5, a1, a2, a4, s1, s2, s3, s4, s5, s6, m1, m2, m3, m4, m5, b1, b2, b4, h8']

/-! ### one byte changed -/

theorem n2_set_ne (l : List UInt8) (i j : Nat) (c : UInt8) (hj : j + 2 ≤ l.length) (h1 : i ≠ j) (h2 : i ≠ j + 1) : n2 (l.set i c) j = n2 l j := by
  rw [n2_nth _ _ (by rw [List.length_set]; exact hj), n2_nth _ _ hj, nth_set_ne _ _ _ _ (by omega) h1, nth_set_ne _ _ _ _ (by omega) h2]
theorem udp_spoilt (p q : Nat) (hp : p < 65536) (hq : q < 65536) (r : Bool) (body : List UInt8) (hb : body.length ≤ 1472) (x y : UInt32) (i : Nat) (hi : i < (udpB p q r body x y).length) (h48 : ¬ (3 < i ∧ i < 8)) (d : UInt8) (hd : ¬ d = 0) (c : List UInt8)
    (hc : c = (udpB p q r body x y).set i (UInt8.ofNat ((nth (udpB p q r body x y) i).toNat + d.toNat))) :
    c.length = 8 + body.length ∧ (r = false → udpD c x y = dgC 0 0 false [] ∧ udpR c = 2 ∧ udpF c x y = 13) ∧ (r = true → udpD c x y = dgC (n2 c 0) (n2 c 2) true (c.drop 8) ∧ udpF c x y = 0) := by
  obtain ⟨h0, h2, h4, h6, h8⟩ := udpB_parts p q hp hq r body [] hb x y
  have hl := udpB_len p q r body x y
  have hz := udpN_zero p q r body x y
  rw [List.append_nil] at h0 h2 h4 h6
  have lc : c.length = 8 + body.length := by rw [hc, List.length_set, hl]
  have c4 : n2 c 4 = 8 + body.length := by rw [hc, n2_set_ne _ _ _ _ (by omega) (by omega) (by omega), h4]
  have c6 : n2 c 6 = udpN p q r body x y := by rw [hc, n2_set_ne _ _ _ _ (by omega) (by omega) (by omega), h6]
  have hE : udpE c = 0 := by
    unfold udpE
    rw [c4, if_neg (by omega), if_neg (by omega), if_neg (by omega), if_neg (by omega)]
  have ht : c.take (8 + body.length) = c := List.take_of_length_le (by omega)
  refine ⟨lc, fun hr => ?_, fun hr => ?_⟩
  · subst hr
    have hs := udpB_sum p q body x y
    have hns : ¬ foldN (sumW (endsP x y 17 (8 + body.length) ++ c)) = 65535 := by rw [hc]; exact spoilt _ _ i hi d hd hs
    have hok : ¬ udpOk c x y = true := by
      unfold udpOk
      rw [c6, c4, ht, hz, decide_eq_false hns]
      simp
    unfold udpD udpR udpF
    rw [if_neg (fun h => hok h.2), if_pos hE, if_pos hE, if_neg hok]
    exact ⟨rfl, rfl, rfl⟩
  · subst hr
    have hok : udpOk c x y = true := by
      unfold udpOk
      rw [c6, hz]
      rfl
    unfold udpD udpF
    rw [if_pos ⟨hE, hok⟩, if_pos hE, if_pos hok, c4, ht, c6, hz]
    exact ⟨rfl, rfl⟩
theorem udp_spoilt_law (p q : Nat) (r : Bool) (body : List UInt8) (x y : UInt32) (i : Nat) (d : UInt8) (B : List UInt8) (hl : B.length = 8 + body.length) (hi : i < 8 + body.length) (hd : ¬ d = 0)
    (hsp : ∀ c, c = B.set i (UInt8.ofNat ((nth B i).toNat + d.toNat)) → c.length = 8 + body.length ∧ (r = false → udpD c x y = dgC 0 0 false [] ∧ udpR c = 2 ∧ udpF c x y = 13) ∧ (r = true → udpD c x y = dgC (n2 c 0) (n2 c 2) true (c.drop 8) ∧ udpF c x y = 0))
    (q1 : pcall E 43 [.agg [.int .u16 (p : Int), .int .u16 (q : Int), .bool r, bs false body], .int .u32 (x.toNat : Int), .int .u32 (y.toNat : Int)] = some (.tup [.sl 1 0 0 0 (8 + body.length), .nili], [.row 0 1 (B.map by8) 5]))
    (h2 : ¬ (i : Int) < 0) (h3 : ¬ (8 + body.length : Int) ≤ (i : Int)) (h4 : ¬ (d.toNat : Int) = 0) (h5 : ¬ (3 : Int) < (i : Int) ∨ ((3 : Int) < (i : Int) ∧ ¬ (i : Int) < 8)) (hb : body.length ≤ 1472) :
    ((outR I7.results (ev E I7.body ⟨enumFrom 0 [.agg [.int .u16 (p : Int), .int .u16 (q : Int), .bool r, bs false body], .int .u32 (x.toNat : Int), .int .u32 (y.toNat : Int), .int .i64 (i : Int), .int .u8 (d.toNat : Int)], []⟩)).bind (finish (E.keep 7))) = some (.bool true, []) := by
  have hk : E.keep 7 = false := rfl
  obtain ⟨c, hc⟩ : ∃ c, c = B.set i (UInt8.ofNat ((nth B i).toNat + d.toNat)) := ⟨_, rfl⟩
  obtain ⟨lc, s0, s1⟩ := hsp c hc
  have qP := fun g => s39 g c (by omega) x y
  have w : IntKind.u8.wrap (((nth B i).toNat : Int) + (d.toNat : Int)) = ((UInt8.ofNat ((nth B i).toNat + d.toNat)).toNat : Int) := by
    have := wrapU8 ((nth B i).toNat + d.toNat)
    rwa [Int.natCast_add] at this
  have ia : ∀ (v : List UInt8) (t : TypeId) (l : Heap) (k : Nat), k < 8 + body.length → iaddrK (.row 0 1 (v.map by8) t :: l) 1 (.sl 1 0 0 0 (8 + body.length)) (.int .i64 (k : Int)) = some (.ref 0 0 k, .row 0 1 (v.map by8) t :: l) := fun v t l k hk => by
    have := iaddrK_sl (.row 0 1 (v.map by8) t :: l) 1 0 0 0 (8 + body.length) .i64 (k : Int) (by omega) (by omega) rfl
    simpa using this
  have iai := fun v t l => ia v t l i hi
  have ia0 := fun v t l => ia v t l 0 (by omega)
  have ia1 := fun v t l => ia v t l 1 (by omega)
  have ia2 := fun v t l => ia v t l 2 (by omega)
  have ia3 := fun v t l => ia v t l 3 (by omega)
  have hst : ∀ h t, stR h 0 0 i (.int .u8 ((UInt8.ofNat ((nth B i).toNat + d.toNat)).toNat : Int)) (some (.row 0 1 (B.map by8) t)) = some (h.set 0 (.row 0 1 (c.map by8) t)) := fun h t => by rw [hc]; exact stR_by8 h 0 0 i B _ t (by omega)
  have sl8 : ∀ (v : List UInt8) (t : TypeId) (l : Heap), sliceK (.row 0 1 (v.map by8) t :: l) 1 (.sl 1 0 0 0 (8 + body.length)) (some (8 + body.length)) (some (.int .i64 8)) none = some (.sl 1 0 0 8 body.length, .row 0 1 (v.map by8) t :: l) := fun v t l => by
    have := sliceK_sl (.row 0 1 (v.map by8) t :: l) 1 0 0 0 (8 + body.length) (some (.int .i64 8)) none 8 ((8 + body.length : Nat) : Int) rfl rfl (by omega) (by omega) (by omega) rfl
    rw [show ((8 + body.length : Nat) : Int).toNat - Int.toNat 8 = body.length by omega] at this
    exact this
  have sn8 : ∀ (g : Bool) (t : TypeId) (l : Heap), sn g (.row 0 1 (c.map by8) t :: l) 8 (.sl 1 0 0 8 body.length) = some (.rs g 1 ((c.drop 8).map by8)) := fun g t l => by
    have h := snap_slD g (.row 0 1 (c.map by8) t :: l) 7 0 0 8 body.length (c.map by8) t rfl (by rw [List.length_map]; omega) (by
      rw [← List.map_drop, ← List.map_take]; exact plain_by8 _)
    rw [← List.map_drop, ← List.map_take, List.take_of_length_le (by rw [List.length_drop]; omega)] at h
    exact h
  have z0 : ((UInt8.toNat 0 : Nat) : Int) = 0 := rfl
  simp only [Int.natCast_zero, Int.cast_ofNat_Int, Int.natCast_one] at ia0 ia1 ia2 ia3
  cases r
  · obtain ⟨d1, d2, d3⟩ := s0 rfl
    rw [d1, d2, d3] at qP
    have qI := fun g => s46 g 2 13 13
    have qS := s45 0 0 false [] 0 0 false []
    rw [dgSame_self] at qS
    unfold errV at qP
    rw [if_neg (by omega)] at qP
    simp only [faultV, dgC_eq, List.map_nil, bs, Int.natCast_zero] at qP qS
    clear hc hsp s0 s1
    rcases h5 with h5 | ⟨h5, h6⟩
    · simp (disch := first | omega | (simp only [List.length_cons, List.length_nil, List.length_append, List.length_map, List.length_set]; omega) | rfl | (simp only [List.length_cons, List.length_nil, List.length_append, List.length_map, List.length_set, List.length_replicate, List.all_cons, List.all_nil, List.all_append, storable, plainB, Bool.and_self]; done)) only [go_sem, reduceCtorEq, ↓reduceIte, Nat.reduceEqDiff, Nat.reduceAdd, Nat.reduceSub, Nat.reduceMul, Nat.reduceLeDiff, Nat.reduceLT, Nat.reduceBEq, Nat.reduceBNe, Int.reduceAdd, Int.reduceSub, Int.reduceMul, Int.reduceNeg, Int.reduceEq, Int.reduceNe, Int.reduceLT, Int.reduceLE, Int.reduceToNat, reduceDIte, Nat.reduceSucc, evI_callP, callPK_some, I7, hk, s38, q1, h2, h3, h4, h5, iai, w, hst, hl, lc, qP, qI, qS]
    · simp (disch := first | omega | (simp only [List.length_cons, List.length_nil, List.length_append, List.length_map, List.length_set]; omega) | rfl | (simp only [List.length_cons, List.length_nil, List.length_append, List.length_map, List.length_set, List.length_replicate, List.all_cons, List.all_nil, List.all_append, storable, plainB, Bool.and_self]; done)) only [go_sem, reduceCtorEq, ↓reduceIte, Nat.reduceEqDiff, Nat.reduceAdd, Nat.reduceSub, Nat.reduceMul, Nat.reduceLeDiff, Nat.reduceLT, Nat.reduceBEq, Nat.reduceBNe, Int.reduceAdd, Int.reduceSub, Int.reduceMul, Int.reduceNeg, Int.reduceEq, Int.reduceNe, Int.reduceLT, Int.reduceLE, Int.reduceToNat, reduceDIte, Nat.reduceSucc, evI_callP, callPK_some, I7, hk, s38, q1, h2, h3, h4, h5, h6, iai, w, hst, hl, lc, qP, qI, qS]
  · obtain ⟨d1, d3⟩ := s1 rfl
    rw [d1, d3] at qP
    have qS := fun g g' => s31 g g' (c.drop 8) (c.drop 8) (by rw [List.length_drop]; omega)
    have n0 := n2_nth c 0 (by omega)
    have n22 := n2_nth c 2 (by omega)
    have l0 := n2_lt c 0
    have l2 := n2_lt c 2
    simp only [Nat.zero_add, Nat.reduceAdd] at n0 n22
    have b0 := (nth c 0).toNat_lt
    have b1 := (nth c 1).toNat_lt
    have b2 := (nth c 2).toNat_lt
    have b3 := (nth c 3).toNat_lt
    have w0 : IntKind.i64.wrap ((n2 c 0 : Nat) : Int) = ((n2 c 0 : Nat) : Int) := w64 (by omega) (by omega)
    have w2 : IntKind.i64.wrap ((n2 c 2 : Nat) : Int) = ((n2 c 2 : Nat) : Int) := w64 (by omega) (by omega)
    have v0 : IntKind.i64.wrap (((nth c 0).toNat : Int) * 256) = ((nth c 0).toNat : Int) * 256 := w64 (by omega) (by omega)
    have v1 : IntKind.i64.wrap (((nth c 0).toNat : Int) * 256 + ((nth c 1).toNat : Int)) = ((n2 c 0 : Nat) : Int) := by rw [w64 (by omega) (by omega)]; omega
    have v2 : IntKind.i64.wrap (((nth c 2).toNat : Int) * 256) = ((nth c 2).toNat : Int) * 256 := w64 (by omega) (by omega)
    have v3 : IntKind.i64.wrap (((nth c 2).toNat : Int) * 256 + ((nth c 3).toNat : Int)) = ((n2 c 2 : Nat) : Int) := by rw [w64 (by omega) (by omega)]; omega
    have dl : (c.drop 8).length = body.length := by rw [List.length_drop]; omega
    rw [errV_zero] at qP
    simp only [dgC_eq] at qP
    generalize n2 c 0 = p0 at *
    generalize n2 c 2 = q0 at *
    clear hc hsp s0 s1 n0 n22
    rcases h5 with h5 | ⟨h5, h6⟩
    · simp (disch := first | omega | (simp only [List.length_cons, List.length_nil, List.length_append, List.length_map, List.length_set]; omega) | rfl | (simp only [List.length_cons, List.length_nil, List.length_append, List.length_map, List.length_set, List.length_replicate, List.all_cons, List.all_nil, List.all_append, storable, plainB, Bool.and_self]; done)) only [go_sem, reduceCtorEq, ↓reduceIte, Nat.reduceEqDiff, Nat.reduceAdd, Nat.reduceSub, Nat.reduceMul, Nat.reduceLeDiff, Nat.reduceLT, Nat.reduceBEq, Nat.reduceBNe, Int.reduceAdd, Int.reduceSub, Int.reduceMul, Int.reduceNeg, Int.reduceEq, Int.reduceNe, Int.reduceLT, Int.reduceLE, Int.reduceToNat, reduceDIte, Nat.reduceSucc, evI_callP, callPK_some, I7, hk, s38, q1, h2, h3, h4, h5, iai, ia0, ia1, ia2, ia3, w, hst, hl, lc, qP, qS, sl8, sn8, w0, w2, v0, v1, v2, v3, wbi, dl]
    · simp (disch := first | omega | (simp only [List.length_cons, List.length_nil, List.length_append, List.length_map, List.length_set]; omega) | rfl | (simp only [List.length_cons, List.length_nil, List.length_append, List.length_map, List.length_set, List.length_replicate, List.all_cons, List.all_nil, List.all_append, storable, plainB, Bool.and_self]; done)) only [go_sem, reduceCtorEq, ↓reduceIte, Nat.reduceEqDiff, Nat.reduceAdd, Nat.reduceSub, Nat.reduceMul, Nat.reduceLeDiff, Nat.reduceLT, Nat.reduceBEq, Nat.reduceBNe, Int.reduceAdd, Int.reduceSub, Int.reduceMul, Int.reduceNeg, Int.reduceEq, Int.reduceNe, Int.reduceLT, Int.reduceLE, Int.reduceToNat, reduceDIte, Nat.reduceSucc, evI_callP, callPK_some, I7, hk, s38, q1, h2, h3, h4, h5, h6, iai, ia0, ia1, ia2, ia3, w, hst, hl, lc, qP, qS, sl8, sn8, w0, w2, v0, v1, v2, v3, wbi, dl]
theorem law7 (p q : Nat) (hp : p < 65536) (hq : q < 65536) (r : Bool) (body : List UInt8) (x y : UInt32) (at_ : Int) (d : UInt8) : pcall E 7 [.agg (dgC p q r body), .int .u32 (x.toNat : Int), .int .u32 (y.toNat : Int), .int .i64 at_, .int .u8 (d.toNat : Int)] = some (.bool true, []) := by
  rw [pcall_go (fn := I7) rfl rfl rfl]
  have hk : E.keep 7 = false := rfl
  by_cases h1 : 1472 < body.length
  · have q1 := bytes_err p q r body h1 x y
    unfold errV at q1
    rw [if_neg (by omega)] at q1
    simp only [faultV, dgC_eq, List.map_nil, bs] at q1 ⊢
    simp (disch := first | omega | (simp only [List.length_cons, List.length_nil, List.length_append, List.length_map, List.length_set]; omega) | rfl | (simp only [List.length_cons, List.length_nil, List.length_append, List.length_map, List.length_set, List.length_replicate, List.all_cons, List.all_nil, List.all_append, storable, plainB, Bool.and_self]; done)) only [go_sem, reduceCtorEq, ↓reduceIte, Nat.reduceEqDiff, Nat.reduceAdd, Nat.reduceSub, Nat.reduceMul, Nat.reduceLeDiff, Nat.reduceLT, Nat.reduceBEq, Nat.reduceBNe, Int.reduceAdd, Int.reduceSub, Int.reduceMul, Int.reduceNeg, Int.reduceEq, Int.reduceNe, Int.reduceLT, Int.reduceLE, Int.reduceToNat, reduceDIte, Nat.reduceSucc, evI_callP, callPK_some, I7, hk, s38, q1]
  have q1 := s43 p q hp hq r body (by omega) x y
  have hl := udpB_len p q r body x y
  have hsp := udp_spoilt p q hp hq r body (by omega) x y
  generalize udpB p q r body x y = B at *
  simp only [dgC_eq] at q1 ⊢
  by_cases h2 : at_ < 0
  · simp (disch := first | omega | (simp only [List.length_cons, List.length_nil, List.length_append, List.length_map, List.length_set]; omega) | rfl | (simp only [List.length_cons, List.length_nil, List.length_append, List.length_map, List.length_set, List.length_replicate, List.all_cons, List.all_nil, List.all_append, storable, plainB, Bool.and_self]; done)) only [go_sem, reduceCtorEq, ↓reduceIte, Nat.reduceEqDiff, Nat.reduceAdd, Nat.reduceSub, Nat.reduceMul, Nat.reduceLeDiff, Nat.reduceLT, Nat.reduceBEq, Nat.reduceBNe, Int.reduceAdd, Int.reduceSub, Int.reduceMul, Int.reduceNeg, Int.reduceEq, Int.reduceNe, Int.reduceLT, Int.reduceLE, Int.reduceToNat, reduceDIte, Nat.reduceSucc, evI_callP, callPK_some, I7, hk, s38, q1, h2]
  by_cases h3 : (8 + body.length : Int) ≤ at_
  · simp (disch := first | omega | (simp only [List.length_cons, List.length_nil, List.length_append, List.length_map, List.length_set]; omega) | rfl | (simp only [List.length_cons, List.length_nil, List.length_append, List.length_map, List.length_set, List.length_replicate, List.all_cons, List.all_nil, List.all_append, storable, plainB, Bool.and_self]; done)) only [go_sem, reduceCtorEq, ↓reduceIte, Nat.reduceEqDiff, Nat.reduceAdd, Nat.reduceSub, Nat.reduceMul, Nat.reduceLeDiff, Nat.reduceLT, Nat.reduceBEq, Nat.reduceBNe, Int.reduceAdd, Int.reduceSub, Int.reduceMul, Int.reduceNeg, Int.reduceEq, Int.reduceNe, Int.reduceLT, Int.reduceLE, Int.reduceToNat, reduceDIte, Nat.reduceSucc, evI_callP, callPK_some, I7, hk, s38, q1, h2, h3]
  by_cases h4 : (d.toNat : Int) = 0
  · simp (disch := first | omega | (simp only [List.length_cons, List.length_nil, List.length_append, List.length_map, List.length_set]; omega) | rfl | (simp only [List.length_cons, List.length_nil, List.length_append, List.length_map, List.length_set, List.length_replicate, List.all_cons, List.all_nil, List.all_append, storable, plainB, Bool.and_self]; done)) only [go_sem, reduceCtorEq, ↓reduceIte, Nat.reduceEqDiff, Nat.reduceAdd, Nat.reduceSub, Nat.reduceMul, Nat.reduceLeDiff, Nat.reduceLT, Nat.reduceBEq, Nat.reduceBNe, Int.reduceAdd, Int.reduceSub, Int.reduceMul, Int.reduceNeg, Int.reduceEq, Int.reduceNe, Int.reduceLT, Int.reduceLE, Int.reduceToNat, reduceDIte, Nat.reduceSucc, evI_callP, callPK_some, I7, hk, s38, q1, h2, h3, h4]
  by_cases h5 : (3 : Int) < at_
  · by_cases h6 : at_ < (8 : Int)
    · simp (disch := first | omega | (simp only [List.length_cons, List.length_nil, List.length_append, List.length_map, List.length_set]; omega) | rfl | (simp only [List.length_cons, List.length_nil, List.length_append, List.length_map, List.length_set, List.length_replicate, List.all_cons, List.all_nil, List.all_append, storable, plainB, Bool.and_self]; done)) only [go_sem, reduceCtorEq, ↓reduceIte, Nat.reduceEqDiff, Nat.reduceAdd, Nat.reduceSub, Nat.reduceMul, Nat.reduceLeDiff, Nat.reduceLT, Nat.reduceBEq, Nat.reduceBNe, Int.reduceAdd, Int.reduceSub, Int.reduceMul, Int.reduceNeg, Int.reduceEq, Int.reduceNe, Int.reduceLT, Int.reduceLE, Int.reduceToNat, reduceDIte, Nat.reduceSucc, evI_callP, callPK_some, I7, hk, s38, q1, h2, h3, h4, h5, h6]
    · obtain ⟨i, rfl⟩ : ∃ i : Nat, at_ = (i : Int) := ⟨at_.toNat, by omega⟩
      exact udp_spoilt_law p q r body x y i d B hl (by omega) (fun h => h4 (by rw [h]; rfl)) (fun c hc => hsp i (by omega) (by omega) d (fun h => h4 (by rw [h]; rfl)) c hc) q1 h2 h3 h4 (.inr ⟨h5, h6⟩) (by omega)
  · obtain ⟨i, rfl⟩ : ∃ i : Nat, at_ = (i : Int) := ⟨at_.toNat, by omega⟩
    exact udp_spoilt_law p q r body x y i d B hl (by omega) (fun h => h4 (by rw [h]; rfl)) (fun c hc => hsp i (by omega) (by omega) d (fun h => h4 (by rw [h]; rfl)) c hc) q1 h2 h3 h4 (.inl h5) (by omega)
end Go.Fw.Wd
