/-
  The law TurnInner at the evaluation: it answers true. Conditions: none of the law.
-/
import Derived.Test.YtigiopahmiaedaaDoorWdTurn5
set_option linter.unusedVariables false
set_option linter.unusedSimpArgs false
namespace Go.Fw.Wd
open Go.Proofs Code_

set_option maxHeartbeats 2000000 in
theorem law8 (p : Pk) (hb : p.body.length ≤ 140737488355328) (ip : UInt32) (pt : Nat) (hpt : pt < 65536) (snd : Bool) :
    pcall E 8 [.agg (pkC p), .agg [.int .u32 (ip.toNat : Int), .int .u16 (pt : Int)], .bool snd] = some (.bool true, []) := by
  rw [pcall_go (fn := I8) rfl rfl rfl]
  have hk : E.keep 8 = false := rfl
  have q1 := s27 p hb
  by_cases h : (trE p).2 = 0
  case neg =>
    rw [errV_pos _ h] at q1
    generalize (trE p).1 = r at *
    generalize (trE p).2 = n at *
    generalize tnN p = e at *
    simp only [pkC_eq, enC_eq] at q1 ⊢
    by_cases h6 : 1600 < p.body.length
    · have h6' : (1600 : Int) < (p.body.length : Int) := by omega
      simp (disch := first | omega | (simp only [List.length_cons, List.length_nil, List.length_append, List.length_map, List.length_set]; omega) | rfl | (simp only [List.length_cons, List.length_nil, List.length_append, List.length_map, List.length_set, List.length_replicate, List.all_cons, List.all_nil, List.all_append, storable, plainB, Bool.and_self]; done)) only [go_sem, reduceCtorEq, ↓reduceIte, reduceDIte, evI_callP, callPK_some, I8, hk, s26, q1, h6']
    · have h6' : ¬ (1600 : Int) < (p.body.length : Int) := by omega
      simp (disch := first | omega | (simp only [List.length_cons, List.length_nil, List.length_append, List.length_map, List.length_set]; omega) | rfl | (simp only [List.length_cons, List.length_nil, List.length_append, List.length_map, List.length_set, List.length_replicate, List.all_cons, List.all_nil, List.all_append, storable, plainB, Bool.and_self]; done)) only [go_sem, reduceCtorEq, ↓reduceIte, reduceDIte, evI_callP, callPK_some, I8, hk, s26, q1, h6']
  have qS := s29 p hb ip pt hpt
  have qR := s28 p hb ip pt hpt
  rw [h, errV_zero] at q1 qS qR
  obtain ⟨S1, S2, S3, S4, S5, et, _, e8, c2, _, _, S6, e2⟩ := tr_facts 12 20 8 p ip pt hpt (by omega) (by omega) (by omega) (by omega) (by omega) h
  obtain ⟨R1, R2, R3, R4, R5, _, _, _, _, _, _, R6, _⟩ := tr_facts 16 22 0 p ip pt hpt (by omega) (by omega) (by omega) (by omega) (by omega) h
  obtain ⟨s, S7, S8⟩ := tr_snd p ip pt hpt h
  obtain ⟨r, R7, R8⟩ := tr_rcv p ip pt hpt h
  have qs1 := s27 (trP 12 20 8 p ip pt) (by omega)
  have qr1 := s27 (trP 16 22 0 p ip pt) (by omega)
  rw [S5, errV_zero, S7] at qs1
  rw [R5, errV_zero, R7] at qr1
  generalize trP 12 20 8 p ip pt = x at *
  generalize trP 16 22 0 p ip pt = y at *
  rw [List.length_drop] at e8
  have ec : ∀ (g : Bool) (l : List UInt8), cat [(g, l)] = l := fun g l => by simp [cat]
  have qx := fun g g1 => s30 g1 [(g, x.body)] (by simp) (by rw [ec]; omega)
  have qy := fun g g1 => s30 g1 [(g, y.body)] (by simp) (by rw [ec]; omega)
  simp only [ec, S4, R4, decide_true, List.map_cons, List.map_nil, encP_eq] at qx qy
  have q8 := fun g g1 => s30 g1 [(g, (p.body.drop 8).take 20)] (by simp) (by rw [ec, List.length_take]; omega)
  have qx8 := fun g g1 => s30 g1 [(g, (x.body.drop 8).take 20)] (by simp) (by rw [ec, List.length_take]; omega)
  have qy8 := fun g g1 => s30 g1 [(g, (y.body.drop 8).take 20)] (by simp) (by rw [ec, List.length_take]; omega)
  simp only [ec, List.map_cons, List.map_nil, encP_eq] at q8 qx8 qy8
  have sl : ∀ h g (l : List UInt8), 28 ≤ l.length → sliceK h 1 (.rs g 1 (l.map by8)) (some l.length) (some (.int .i64 8)) (some (.int .i64 28)) = some (.rs g 1 (((l.drop 8).take 20).map by8), h) := fun h g l hl => slice_by_ii h g l .i64 .i64 8 28 (by omega) (by omega) (by omega)
  have sp := fun h g => sl h g p.body (by omega)
  have sx := fun h g => sl h g x.body (by omega)
  have sy := fun h g => sl h g y.body (by omega)
  rw [S3] at sx
  rw [R3] at sy
  have h6' : ¬ (1600 : Int) < (p.body.length : Int) := by omega
  generalize (p.body.drop 8).take 20 = P8 at *
  generalize (x.body.drop 8).take 20 = X8 at *
  generalize (y.body.drop 8).take 20 = Y8 at *
  obtain ⟨e, he⟩ : ∃ e, e = tnN p := ⟨_, rfl⟩
  rw [← he] at q1 S8 R8 qs1 qr1
  simp only [pkC_eq, enC_eq] at q1 qS qR qs1 qr1 ⊢
  rw [S1, S2] at qS
  rw [R1, R2] at qR
  rw [S1, S2] at qs1
  rw [R1, R2] at qr1
  generalize x.body = xb at *
  generalize y.body = yb at *
  cases snd
  · clear qS qs1 qx qx8 sx S6 S7 S8
    by_cases hP : foldN (sumW P8) = 65535
    · rw [decide_eq_true hP] at q8
      rw [decide_eq_true (R6 hP)] at qy8
      by_cases c1 : e.pr.toNat = 1
      · have c1' : (e.pr.toNat : Int) = 1 := by omega
        by_cases c8 : e.kd.toNat = 8
        · have c8' : (e.kd.toNat : Int) = 8 := by omega
          simp (disch := first | omega | (simp only [List.length_cons, List.length_nil, List.length_append, List.length_map, List.length_set]; omega) | rfl | (simp only [List.length_cons, List.length_nil, List.length_append, List.length_map, List.length_set, List.length_replicate, List.all_cons, List.all_nil, List.all_append, storable, plainB, Bool.and_self]; done)) only [go_sem, reduceCtorEq, ↓reduceIte, reduceDIte, evI_callP, callPK_some, I8, hk, s26, h6', q1, qR, qr1, qy, q8, qy8, sp, sy, R3, c1', c8', bb]
        · have c8' : ¬ (e.kd.toNat : Int) = 8 := by omega
          obtain rfl := R8 (by omega)
          simp (disch := first | omega | (simp only [List.length_cons, List.length_nil, List.length_append, List.length_map, List.length_set]; omega) | rfl | (simp only [List.length_cons, List.length_nil, List.length_append, List.length_map, List.length_set, List.length_replicate, List.all_cons, List.all_nil, List.all_append, storable, plainB, Bool.and_self]; done)) only [go_sem, reduceCtorEq, ↓reduceIte, reduceDIte, evI_callP, callPK_some, I8, hk, s26, h6', q1, qR, qr1, qy, q8, qy8, sp, sy, R3, c1', c8', bb]
      · have c1' : ¬ (e.pr.toNat : Int) = 1 := by omega
        by_cases c8 : e.kd.toNat = 8
        · have c8' : (e.kd.toNat : Int) = 8 := by omega
          obtain rfl := R8 (by omega)
          simp (disch := first | omega | (simp only [List.length_cons, List.length_nil, List.length_append, List.length_map, List.length_set]; omega) | rfl | (simp only [List.length_cons, List.length_nil, List.length_append, List.length_map, List.length_set, List.length_replicate, List.all_cons, List.all_nil, List.all_append, storable, plainB, Bool.and_self]; done)) only [go_sem, reduceCtorEq, ↓reduceIte, reduceDIte, evI_callP, callPK_some, I8, hk, s26, h6', q1, qR, qr1, qy, q8, qy8, sp, sy, R3, c1', c8', bb]
        · have c8' : ¬ (e.kd.toNat : Int) = 8 := by omega
          obtain rfl := R8 (by omega)
          simp (disch := first | omega | (simp only [List.length_cons, List.length_nil, List.length_append, List.length_map, List.length_set]; omega) | rfl | (simp only [List.length_cons, List.length_nil, List.length_append, List.length_map, List.length_set, List.length_replicate, List.all_cons, List.all_nil, List.all_append, storable, plainB, Bool.and_self]; done)) only [go_sem, reduceCtorEq, ↓reduceIte, reduceDIte, evI_callP, callPK_some, I8, hk, s26, h6', q1, qR, qr1, qy, q8, qy8, sp, sy, R3, c1', c8', bb]
    · rw [decide_eq_false hP] at q8
      by_cases c1 : e.pr.toNat = 1
      · have c1' : (e.pr.toNat : Int) = 1 := by omega
        by_cases c8 : e.kd.toNat = 8
        · have c8' : (e.kd.toNat : Int) = 8 := by omega
          simp (disch := first | omega | (simp only [List.length_cons, List.length_nil, List.length_append, List.length_map, List.length_set]; omega) | rfl | (simp only [List.length_cons, List.length_nil, List.length_append, List.length_map, List.length_set, List.length_replicate, List.all_cons, List.all_nil, List.all_append, storable, plainB, Bool.and_self]; done)) only [go_sem, reduceCtorEq, ↓reduceIte, reduceDIte, evI_callP, callPK_some, I8, hk, s26, h6', q1, qR, qr1, qy, q8, qy8, sp, sy, R3, c1', c8', bb]
        · have c8' : ¬ (e.kd.toNat : Int) = 8 := by omega
          obtain rfl := R8 (by omega)
          simp (disch := first | omega | (simp only [List.length_cons, List.length_nil, List.length_append, List.length_map, List.length_set]; omega) | rfl | (simp only [List.length_cons, List.length_nil, List.length_append, List.length_map, List.length_set, List.length_replicate, List.all_cons, List.all_nil, List.all_append, storable, plainB, Bool.and_self]; done)) only [go_sem, reduceCtorEq, ↓reduceIte, reduceDIte, evI_callP, callPK_some, I8, hk, s26, h6', q1, qR, qr1, qy, q8, qy8, sp, sy, R3, c1', c8', bb]
      · have c1' : ¬ (e.pr.toNat : Int) = 1 := by omega
        by_cases c8 : e.kd.toNat = 8
        · have c8' : (e.kd.toNat : Int) = 8 := by omega
          obtain rfl := R8 (by omega)
          simp (disch := first | omega | (simp only [List.length_cons, List.length_nil, List.length_append, List.length_map, List.length_set]; omega) | rfl | (simp only [List.length_cons, List.length_nil, List.length_append, List.length_map, List.length_set, List.length_replicate, List.all_cons, List.all_nil, List.all_append, storable, plainB, Bool.and_self]; done)) only [go_sem, reduceCtorEq, ↓reduceIte, reduceDIte, evI_callP, callPK_some, I8, hk, s26, h6', q1, qR, qr1, qy, q8, qy8, sp, sy, R3, c1', c8', bb]
        · have c8' : ¬ (e.kd.toNat : Int) = 8 := by omega
          obtain rfl := R8 (by omega)
          simp (disch := first | omega | (simp only [List.length_cons, List.length_nil, List.length_append, List.length_map, List.length_set]; omega) | rfl | (simp only [List.length_cons, List.length_nil, List.length_append, List.length_map, List.length_set, List.length_replicate, List.all_cons, List.all_nil, List.all_append, storable, plainB, Bool.and_self]; done)) only [go_sem, reduceCtorEq, ↓reduceIte, reduceDIte, evI_callP, callPK_some, I8, hk, s26, h6', q1, qR, qr1, qy, q8, qy8, sp, sy, R3, c1', c8', bb]
  · clear qr1 qy qy8 sy R6 R7 R8
    by_cases hP : foldN (sumW P8) = 65535
    · rw [decide_eq_true hP] at q8
      rw [decide_eq_true (S6 hP)] at qx8
      by_cases c1 : e.pr.toNat = 1
      · have c1' : (e.pr.toNat : Int) = 1 := by omega
        by_cases c8 : e.kd.toNat = 8
        · have c8' : (e.kd.toNat : Int) = 8 := by omega
          obtain rfl := S8 (by omega)
          simp (disch := first | omega | (simp only [List.length_cons, List.length_nil, List.length_append, List.length_map, List.length_set]; omega) | rfl | (simp only [List.length_cons, List.length_nil, List.length_append, List.length_map, List.length_set, List.length_replicate, List.all_cons, List.all_nil, List.all_append, storable, plainB, Bool.and_self]; done)) only [go_sem, reduceCtorEq, ↓reduceIte, reduceDIte, evI_callP, callPK_some, I8, hk, s26, h6', q1, qR, qS, qs1, qx, q8, qx8, sp, sx, S3, c1', c8', bb]
        · have c8' : ¬ (e.kd.toNat : Int) = 8 := by omega
          simp (disch := first | omega | (simp only [List.length_cons, List.length_nil, List.length_append, List.length_map, List.length_set]; omega) | rfl | (simp only [List.length_cons, List.length_nil, List.length_append, List.length_map, List.length_set, List.length_replicate, List.all_cons, List.all_nil, List.all_append, storable, plainB, Bool.and_self]; done)) only [go_sem, reduceCtorEq, ↓reduceIte, reduceDIte, evI_callP, callPK_some, I8, hk, s26, h6', q1, qR, qS, qs1, qx, q8, qx8, sp, sx, S3, c1', c8', bb]
      · have c1' : ¬ (e.pr.toNat : Int) = 1 := by omega
        by_cases c8 : e.kd.toNat = 8
        · have c8' : (e.kd.toNat : Int) = 8 := by omega
          obtain rfl := S8 (by omega)
          simp (disch := first | omega | (simp only [List.length_cons, List.length_nil, List.length_append, List.length_map, List.length_set]; omega) | rfl | (simp only [List.length_cons, List.length_nil, List.length_append, List.length_map, List.length_set, List.length_replicate, List.all_cons, List.all_nil, List.all_append, storable, plainB, Bool.and_self]; done)) only [go_sem, reduceCtorEq, ↓reduceIte, reduceDIte, evI_callP, callPK_some, I8, hk, s26, h6', q1, qR, qS, qs1, qx, q8, qx8, sp, sx, S3, c1', c8', bb]
        · have c8' : ¬ (e.kd.toNat : Int) = 8 := by omega
          obtain rfl := S8 (by omega)
          simp (disch := first | omega | (simp only [List.length_cons, List.length_nil, List.length_append, List.length_map, List.length_set]; omega) | rfl | (simp only [List.length_cons, List.length_nil, List.length_append, List.length_map, List.length_set, List.length_replicate, List.all_cons, List.all_nil, List.all_append, storable, plainB, Bool.and_self]; done)) only [go_sem, reduceCtorEq, ↓reduceIte, reduceDIte, evI_callP, callPK_some, I8, hk, s26, h6', q1, qR, qS, qs1, qx, q8, qx8, sp, sx, S3, c1', c8', bb]
    · rw [decide_eq_false hP] at q8
      by_cases c1 : e.pr.toNat = 1
      · have c1' : (e.pr.toNat : Int) = 1 := by omega
        by_cases c8 : e.kd.toNat = 8
        · have c8' : (e.kd.toNat : Int) = 8 := by omega
          obtain rfl := S8 (by omega)
          simp (disch := first | omega | (simp only [List.length_cons, List.length_nil, List.length_append, List.length_map, List.length_set]; omega) | rfl | (simp only [List.length_cons, List.length_nil, List.length_append, List.length_map, List.length_set, List.length_replicate, List.all_cons, List.all_nil, List.all_append, storable, plainB, Bool.and_self]; done)) only [go_sem, reduceCtorEq, ↓reduceIte, reduceDIte, evI_callP, callPK_some, I8, hk, s26, h6', q1, qR, qS, qs1, qx, q8, qx8, sp, sx, S3, c1', c8', bb]
        · have c8' : ¬ (e.kd.toNat : Int) = 8 := by omega
          simp (disch := first | omega | (simp only [List.length_cons, List.length_nil, List.length_append, List.length_map, List.length_set]; omega) | rfl | (simp only [List.length_cons, List.length_nil, List.length_append, List.length_map, List.length_set, List.length_replicate, List.all_cons, List.all_nil, List.all_append, storable, plainB, Bool.and_self]; done)) only [go_sem, reduceCtorEq, ↓reduceIte, reduceDIte, evI_callP, callPK_some, I8, hk, s26, h6', q1, qR, qS, qs1, qx, q8, qx8, sp, sx, S3, c1', c8', bb]
      · have c1' : ¬ (e.pr.toNat : Int) = 1 := by omega
        by_cases c8 : e.kd.toNat = 8
        · have c8' : (e.kd.toNat : Int) = 8 := by omega
          obtain rfl := S8 (by omega)
          simp (disch := first | omega | (simp only [List.length_cons, List.length_nil, List.length_append, List.length_map, List.length_set]; omega) | rfl | (simp only [List.length_cons, List.length_nil, List.length_append, List.length_map, List.length_set, List.length_replicate, List.all_cons, List.all_nil, List.all_append, storable, plainB, Bool.and_self]; done)) only [go_sem, reduceCtorEq, ↓reduceIte, reduceDIte, evI_callP, callPK_some, I8, hk, s26, h6', q1, qR, qS, qs1, qx, q8, qx8, sp, sx, S3, c1', c8', bb]
        · have c8' : ¬ (e.kd.toNat : Int) = 8 := by omega
          obtain rfl := S8 (by omega)
          simp (disch := first | omega | (simp only [List.length_cons, List.length_nil, List.length_append, List.length_map, List.length_set]; omega) | rfl | (simp only [List.length_cons, List.length_nil, List.length_append, List.length_map, List.length_set, List.length_replicate, List.all_cons, List.all_nil, List.all_append, storable, plainB, Bool.and_self]; done)) only [go_sem, reduceCtorEq, ↓reduceIte, reduceDIte, evI_callP, callPK_some, I8, hk, s26, h6', q1, qR, qS, qs1, qx, q8, qx8, sp, sx, S3, c1', c8', bb]
theorem pkT_arg {x : AV} (h : Arg Tryd.prog 26 x) : ∃ p : Pk, x = .agg (pkC p) ∧ p.body.length ≤ 140737488355328 := by
  obtain ⟨ys, hl, hy, rfl⟩ := h.struct_inv Tryd.underlying26
  match ys, hl with
  | [y0, y1, y2, y3, y4, y5, y6, y7], _ =>
    obtain ⟨a, rfl⟩ := u8_arg (hy 0 _ y0 rfl rfl)
    obtain ⟨b, rfl⟩ := U16_arg (hy 1 _ y1 rfl rfl)
    obtain ⟨c, rfl⟩ := bool_arg (hy 2 _ y2 rfl rfl)
    obtain ⟨d, rfl⟩ := u8_arg (hy 3 _ y3 rfl rfl)
    obtain ⟨e, rfl⟩ := u8_arg (hy 4 _ y4 rfl rfl)
    obtain ⟨f, rfl⟩ := U32_arg (hy 5 _ y5 rfl rfl)
    obtain ⟨g, rfl⟩ := U32_arg (hy 6 _ y6 rfl rfl)
    obtain ⟨l, rfl, hl⟩ := bytes_arg (hy 7 _ y7 rfl rfl)
    exact ⟨⟨a, b, c, d, e, f, g, l⟩, rfl, by show l.length ≤ 140737488355328; unfold reachBytes at hl; omega⟩
theorem endE_arg {x : AV} (h : Arg Tryd.prog 67 x) : ∃ (ip : UInt32) (pt : Nat), x = .agg [.int .u32 (ip.toNat : Int), .int .u16 (pt : Int)] ∧ pt < 65536 := by
  obtain ⟨ys, hl, hy, rfl⟩ := h.struct_inv Tryd.underlying67
  match ys, hl with
  | [y0, y1], _ =>
    obtain ⟨f, rfl⟩ := U32_arg (hy 0 _ y0 rfl rfl)
    obtain ⟨b, rfl, hb⟩ := u16_arg (hy 1 _ y1 rfl rfl)
    exact ⟨f, b, rfl, hb⟩
theorem end8 (xs : List AV) (hl : xs.length = [26, 67, 4].length) (h : ∀ (j : Nat) t x, ([26, 67, 4] : List TypeId)[j]? = some t → xs[j]? = some x → Arg Tryd.prog t x) : pcall E 8 xs = some (.bool true, []) := by
  match xs, hl with
  | [x0, x1, x2], _ =>
    obtain ⟨p, rfl, hp⟩ := pkT_arg (h 0 _ x0 rfl rfl)
    obtain ⟨ip, pt, rfl, hpt⟩ := endE_arg (h 1 _ x1 rfl rfl)
    obtain ⟨b, rfl⟩ := bool_arg (h 2 _ x2 rfl rfl)
    exact law8 p hp ip pt hpt b
end Go.Fw.Wd
