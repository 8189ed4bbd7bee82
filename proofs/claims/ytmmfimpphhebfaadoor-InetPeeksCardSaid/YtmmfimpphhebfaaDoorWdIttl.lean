/-
  The law InetTtl at the evaluation; the laws on packets at arguments as they are read. Conditions: stated at each.
-/
import Derived.Test.YtmmfimpphhebfaaDoorWdIlaw
set_option linter.unusedVariables false
set_option linter.unusedSimpArgs false
namespace Go.Fw.Wd
open Go.Proofs Code_

theorem encb4_ex (n : Nat) : ∃ x y z w, encb 4 n = [x, y, z, w] := by
  have := encb_length 4 n
  match encb 4 n, this with
  | [x, y, z, w], _ => exact ⟨x, y, z, w, rfl⟩
/-- A packet with another Ttl. -/
def Pk.ttl' (p : Pk) (t : UInt8) : Pk := ⟨p.tos, p.id, p.kp, t, p.proto, p.fr, p.to, p.body⟩
theorem ttl_bytes (p : Pk) (t : UInt8) (n : Nat) : (∀ i, i < 20 → nth (hdB p n) i = nth (hdB (p.ttl' t) n) i ∨ i = 8 ∨ i = 10 ∨ i = 11) ∧ nth (hdB (p.ttl' t) n) 8 = t ∧ nth (hdB p n) 8 = p.ttl := by
  have e1 := hdB_eq p n []
  have e2 := hdB_eq (p.ttl' t) n []
  rw [List.append_nil] at e1 e2
  obtain ⟨x1, x2, ex⟩ := encb2 (20 + n)
  obtain ⟨y1, y2, ey⟩ := encb2 p.id.toNat
  obtain ⟨f1, f2, ef⟩ := encb2 (flagN p.kp)
  obtain ⟨s1, s2, es⟩ := encb2 (hdS p n)
  obtain ⟨s3, s4, es'⟩ := encb2 (hdS (p.ttl' t) n)
  obtain ⟨a1, a2, a3, a4, ea⟩ := encb4_ex p.fr.toNat
  obtain ⟨b1, b2, b3, b4, eb⟩ := encb4_ex p.to.toNat
  have e1' : hdB p n = [69, p.tos, x1, x2, y1, y2, f1, f2, p.ttl, p.proto, s1, s2, a1, a2, a3, a4, b1, b2, b3, b4] := by rw [e1, ex, ey, ef, es, ea, eb]; rfl
  have e2' : hdB (p.ttl' t) n = [69, p.tos, x1, x2, y1, y2, f1, f2, t, p.proto, s3, s4, a1, a2, a3, a4, b1, b2, b3, b4] := by
    rw [e2]
    show [69, p.tos] ++ (encb 2 (20 + n) ++ (encb 2 p.id.toNat ++ (encb 2 (flagN p.kp) ++ ([t, p.proto] ++ (encb 2 (hdS (p.ttl' t) n) ++ (encb 4 p.fr.toNat ++ (encb 4 p.to.toNat ++ []))))))) = _
    rw [ex, ey, ef, es', ea, eb]
    rfl
  rw [e1', e2']
  refine ⟨fun i hi => ?_, rfl, rfl⟩
  obtain rfl | rfl | rfl | rfl | rfl | rfl | rfl | rfl | rfl | rfl | rfl | rfl | rfl | rfl | rfl | rfl | rfl | rfl | rfl | rfl : i = 0 ∨ i = 1 ∨ i = 2 ∨ i = 3 ∨ i = 4 ∨ i = 5 ∨ i = 6 ∨ i = 7 ∨ i = 8 ∨ i = 9 ∨ i = 10 ∨ i = 11 ∨ i = 12 ∨ i = 13 ∨ i = 14 ∨ i = 15 ∨ i = 16 ∨ i = 17 ∨ i = 18 ∨ i = 19 := by omega
  all_goals first | exact .inl rfl | exact .inr (.inl rfl) | exact .inr (.inr (.inl rfl)) | exact .inr (.inr (.inr rfl))
theorem ttl_same (p : Pk) (t : UInt8) (n : Nat) : decide (hdB p n = hdB (p.ttl' t) n) = decide (t = p.ttl) := by
  obtain ⟨_, h1, h2⟩ := ttl_bytes p t n
  apply decide_eq_decide.2
  constructor
  · intro h
    rw [h, h1] at h2
    exact h2
  · intro h
    subst h
    rfl
theorem len_same (p : Pk) (n m : Nat) (hn : n ≤ 65515) (hm : m ≤ 65515) : decide (hdB p n = hdB p m) = decide (m = n) := by
  apply decide_eq_decide.2
  constructor
  · intro h
    obtain ⟨_, _, h2, _⟩ := hd_parts p n hn []
    obtain ⟨_, _, h3, _⟩ := hd_parts p m hm []
    rw [h, h3] at h2
    omega
  · intro h
    rw [h]
theorem ttl_loop (p : Pk) (t : UInt8) (body : List UInt8) (hb : p.body.length ≤ 1480) (hb2 : body.length ≤ 1480) (c0 : AObj) : ∀ (k i : Nat), i + k = 20 →
    (T12_0 E (lp E L12_0 [(1, .int .u8 (t.toNat : Int)), (2, bs false body), (3, .rp false (.agg (pkC p))), (8, bs false (hdB p p.body.length)), (9, bs false (hdB (p.ttl' t) p.body.length)), (10, .int .i64 (i : Int))] [c0])).bind (finish false) = some (.bool true, [])
  | 0, i, hi => by
    have hi' : i = 20 := by omega
    subst hi'
    have q1 := s51 (p.with body) (by show body.length ≤ 65515; omega)
    have hk1 : E.keep 51 = true := rfl
    have e1 : hdB (p.with body) (p.with body).body.length = hdB p body.length := rfl
    rw [hk1, kone_t, e1] at q1
    have l1 := hdB_len p p.body.length
    have l2 := hdB_len (p.ttl' t) p.body.length
    have l3 := hdB_len p body.length
    have q2 := fun g g' => s31 g g' (hdB p p.body.length) (hdB (p.ttl' t) p.body.length) (by omega)
    have q3 := fun g g' => s31 g g' (hdB p p.body.length) (hdB p body.length) (by omega)
    rw [ttl_same] at q2
    rw [len_same p _ _ (by omega) (by omega)] at q3
    obtain ⟨_, n8, _⟩ := ttl_bytes p t p.body.length
    have pw : pkC (p.with body) = [.int .u8 (p.tos.toNat : Int), .int .u16 (p.id.toNat : Int), .bool p.kp, .int .u8 (p.ttl.toNat : Int), .int .u8 (p.proto.toNat : Int), .int .u32 (p.fr.toNat : Int), .int .u32 (p.to.toNat : Int), bs false body] := rfl
    rw [pw] at q1
    have u1 := nu8e t p.ttl
    have u2 : decide (((body.length : Nat) : Int) = (p.body.length : Int)) = decide (body.length = p.body.length) := decide_eq_decide.2 (by omega)
    have b8 : (8 : Int) < ((hdB (p.ttl' t) p.body.length).length : Int) := by omega
    rw [L12_0_go]
    generalize hdB p p.body.length = A at *
    generalize hdB (p.ttl' t) p.body.length = B at *
    generalize hdB p body.length = C at *
    simp only [pkC_eq]
    generalize decide (t = p.ttl) = d1 at *
    generalize decide (body.length = p.body.length) = d2 at *
    have e8 : (((nth B 8).toNat : Nat) : Int) = (t.toNat : Int) := by rw [n8]
    cases d1 <;> cases d2 <;> simp (disch := first | omega | (simp only [List.length_cons, List.length_nil, List.length_append, List.length_map, List.length_set]; omega) | rfl | (simp only [List.length_cons, List.length_nil, List.length_append, List.length_map, List.length_set, List.length_replicate, List.all_cons, List.all_nil, List.all_append, storable, plainB, Bool.and_self]; done)) only [go_sem, reduceCtorEq, ↓reduceIte, Nat.reduceEqDiff, Nat.reduceAdd, Nat.reduceSub, Nat.reduceMul, Nat.reduceLeDiff, Nat.reduceLT, Nat.reduceBEq, Nat.reduceBNe, Int.reduceAdd, Int.reduceSub, Int.reduceMul, Int.reduceNeg, Int.reduceEq, Int.reduceNe, Int.reduceLT, Int.reduceLE, Int.reduceToNat, reduceDIte, Nat.reduceSucc, evI_callP, callPK_some, B12_0, T12_0, q1, q2, q3, l1, l2, l3, b8, e8, u1, u2, bb.1, bb.2.1, bb.2.2.1, bb.2.2.2, store_rs, stR_cells]
  | k + 1, i, hi => by
    have ih := ttl_loop p t body hb hb2 c0 k (i + 1) (by omega)
    have g1 : (i : Int) < 20 := by omega
    have l1 := hdB_len p p.body.length
    have l2 := hdB_len (p.ttl' t) p.body.length
    have g2 : (i : Int) < ((hdB p p.body.length).length : Int) := by omega
    have g3 : (i : Int) < ((hdB (p.ttl' t) p.body.length).length : Int) := by omega
    obtain ⟨hab, _, _⟩ := ttl_bytes p t p.body.length
    have hi2 := hab i (by omega)
    have w1 : IntKind.i64.wrap ((i : Int) + 1) = (((i + 1 : Nat)) : Int) := by rw [w64 (by omega) (by omega)]; omega
    rw [L12_0_go, ← ih]
    generalize hdB p p.body.length = A at *
    generalize hdB (p.ttl' t) p.body.length = B at *
    clear ih hab
    by_cases he : (((nth A i).toNat : Nat) : Int) = ((nth B i).toNat : Int)
    · simp (disch := first | omega | (simp only [List.length_cons, List.length_nil, List.length_append, List.length_map, List.length_set]; omega) | rfl | (simp only [List.length_cons, List.length_nil, List.length_append, List.length_map, List.length_set, List.length_replicate, List.all_cons, List.all_nil, List.all_append, storable, plainB, Bool.and_self]; done)) only [go_sem, reduceCtorEq, ↓reduceIte, Nat.reduceEqDiff, Nat.reduceAdd, Nat.reduceSub, Nat.reduceMul, Nat.reduceLeDiff, Nat.reduceLT, Nat.reduceBEq, Nat.reduceBNe, Int.reduceAdd, Int.reduceSub, Int.reduceMul, Int.reduceNeg, Int.reduceEq, Int.reduceNe, Int.reduceLT, Int.reduceLE, Int.reduceToNat, reduceDIte, Nat.reduceSucc, evI_callP, callPK_some, B12_0, L12_0_lp, g1, g2, g3, he, w1]
    · rcases hi2 with h | h | h | h
      · exact absurd (by rw [h]) he
      · subst h
        simp (disch := first | omega | (simp only [List.length_cons, List.length_nil, List.length_append, List.length_map, List.length_set]; omega) | rfl | (simp only [List.length_cons, List.length_nil, List.length_append, List.length_map, List.length_set, List.length_replicate, List.all_cons, List.all_nil, List.all_append, storable, plainB, Bool.and_self]; done)) only [go_sem, reduceCtorEq, ↓reduceIte, Nat.reduceEqDiff, Nat.reduceAdd, Nat.reduceSub, Nat.reduceMul, Nat.reduceLeDiff, Nat.reduceLT, Nat.reduceBEq, Nat.reduceBNe, Int.reduceAdd, Int.reduceSub, Int.reduceMul, Int.reduceNeg, Int.reduceEq, Int.reduceNe, Int.reduceLT, Int.reduceLE, Int.reduceToNat, reduceDIte, Nat.reduceSucc, evI_callP, callPK_some, B12_0, L12_0_lp, g1, g2, g3, he, w1, show ((8 : Nat) : Int) = 8 from rfl]
      · subst h
        simp (disch := first | omega | (simp only [List.length_cons, List.length_nil, List.length_append, List.length_map, List.length_set]; omega) | rfl | (simp only [List.length_cons, List.length_nil, List.length_append, List.length_map, List.length_set, List.length_replicate, List.all_cons, List.all_nil, List.all_append, storable, plainB, Bool.and_self]; done)) only [go_sem, reduceCtorEq, ↓reduceIte, Nat.reduceEqDiff, Nat.reduceAdd, Nat.reduceSub, Nat.reduceMul, Nat.reduceLeDiff, Nat.reduceLT, Nat.reduceBEq, Nat.reduceBNe, Int.reduceAdd, Int.reduceSub, Int.reduceMul, Int.reduceNeg, Int.reduceEq, Int.reduceNe, Int.reduceLT, Int.reduceLE, Int.reduceToNat, reduceDIte, Nat.reduceSucc, evI_callP, callPK_some, B12_0, L12_0_lp, g1, g2, g3, he, w1, show ((10 : Nat) : Int) = 10 from rfl]
      · subst h
        simp (disch := first | omega | (simp only [List.length_cons, List.length_nil, List.length_append, List.length_map, List.length_set]; omega) | rfl | (simp only [List.length_cons, List.length_nil, List.length_append, List.length_map, List.length_set, List.length_replicate, List.all_cons, List.all_nil, List.all_append, storable, plainB, Bool.and_self]; done)) only [go_sem, reduceCtorEq, ↓reduceIte, Nat.reduceEqDiff, Nat.reduceAdd, Nat.reduceSub, Nat.reduceMul, Nat.reduceLeDiff, Nat.reduceLT, Nat.reduceBEq, Nat.reduceBNe, Int.reduceAdd, Int.reduceSub, Int.reduceMul, Int.reduceNeg, Int.reduceEq, Int.reduceNe, Int.reduceLT, Int.reduceLE, Int.reduceToNat, reduceDIte, Nat.reduceSucc, evI_callP, callPK_some, B12_0, L12_0_lp, g1, g2, g3, he, w1, show ((11 : Nat) : Int) = 11 from rfl]
theorem law12 (p : Pk) (t : UInt8) (body : List UInt8) : pcall E 12 [.agg (pkC p), .int .u8 (t.toNat : Int), bs false body] = some (.bool true, []) := by
  rw [pcall_go (fn := I12) rfl rfl rfl]
  have hk : E.keep 12 = false := rfl
  by_cases h1 : (1480 : Int) < p.body.length
  · simp only [pkC_eq]
    simp (disch := first | omega | (simp only [List.length_cons, List.length_nil, List.length_append, List.length_map, List.length_set]; omega) | rfl | (simp only [List.length_cons, List.length_nil, List.length_append, List.length_map, List.length_set, List.length_replicate, List.all_cons, List.all_nil, List.all_append, storable, plainB, Bool.and_self]; done)) only [go_sem, reduceCtorEq, ↓reduceIte, Nat.reduceEqDiff, Nat.reduceAdd, Nat.reduceSub, Nat.reduceMul, Nat.reduceLeDiff, Nat.reduceLT, Nat.reduceBEq, Nat.reduceBNe, Int.reduceAdd, Int.reduceSub, Int.reduceMul, Int.reduceNeg, Int.reduceEq, Int.reduceNe, Int.reduceLT, Int.reduceLE, Int.reduceToNat, reduceDIte, Nat.reduceSucc, evI_callP, callPK_some, I12, hk, s47, h1]
  by_cases h2 : (1480 : Int) < body.length
  · simp only [pkC_eq]
    simp (disch := first | omega | (simp only [List.length_cons, List.length_nil, List.length_append, List.length_map, List.length_set]; omega) | rfl | (simp only [List.length_cons, List.length_nil, List.length_append, List.length_map, List.length_set, List.length_replicate, List.all_cons, List.all_nil, List.all_append, storable, plainB, Bool.and_self]; done)) only [go_sem, reduceCtorEq, ↓reduceIte, Nat.reduceEqDiff, Nat.reduceAdd, Nat.reduceSub, Nat.reduceMul, Nat.reduceLeDiff, Nat.reduceLT, Nat.reduceBEq, Nat.reduceBNe, Int.reduceAdd, Int.reduceSub, Int.reduceMul, Int.reduceNeg, Int.reduceEq, Int.reduceNe, Int.reduceLT, Int.reduceLE, Int.reduceToNat, reduceDIte, Nat.reduceSucc, evI_callP, callPK_some, I12, hk, s47, h1, h2]
  have k1 := s51 p (by omega)
  have k2 := s51 (p.ttl' t) (by show p.body.length ≤ 65515; omega)
  have hk1 : E.keep 51 = true := rfl
  have l1 := hdB_len p p.body.length
  have l2 := hdB_len (p.ttl' t) p.body.length
  have lpf := fun c0 => ttl_loop p t body (by omega) (by omega) c0 20 0 rfl
  rw [hk1, kone_t] at k1 k2
  have e2 : (p.ttl' t).body.length = p.body.length := rfl
  have pw : pkC (p.ttl' t) = [.int .u8 (p.tos.toNat : Int), .int .u16 (p.id.toNat : Int), .bool p.kp, .int .u8 (t.toNat : Int), .int .u8 (p.proto.toNat : Int), .int .u32 (p.fr.toNat : Int), .int .u32 (p.to.toNat : Int), bs false p.body] := rfl
  rw [pw, e2] at k2
  generalize hdB p p.body.length = A at *
  generalize hdB (p.ttl' t) p.body.length = B at *
  simp only [pkC_eq, Int.natCast_zero] at k1 lpf ⊢
  simp (disch := first | omega | (simp only [List.length_cons, List.length_nil, List.length_append, List.length_map, List.length_set]; omega) | rfl | (simp only [List.length_cons, List.length_nil, List.length_append, List.length_map, List.length_set, List.length_replicate, List.all_cons, List.all_nil, List.all_append, storable, plainB, Bool.and_self]; done)) only [go_sem, reduceCtorEq, ↓reduceIte, Nat.reduceEqDiff, Nat.reduceAdd, Nat.reduceSub, Nat.reduceMul, Nat.reduceLeDiff, Nat.reduceLT, Nat.reduceBEq, Nat.reduceBNe, Int.reduceAdd, Int.reduceSub, Int.reduceMul, Int.reduceNeg, Int.reduceEq, Int.reduceNe, Int.reduceLT, Int.reduceLE, Int.reduceToNat, reduceDIte, Nat.reduceSucc, evI_callP, callPK_some, I12, hk, s47, h1, h2, k1, k2, l1, l2, L12_0_lp]
  exact lpf _

/-! ### at arguments as they are read -/

theorem pk_arg {x : AV} (h : Arg Tryd.prog 69 x) : ∃ p : Pk, x = .agg (pkC p) := by
  obtain ⟨ys, hl, hy, rfl⟩ := h.struct_inv Tryd.underlying69
  match ys, hl with
  | [y0, y1, y2, y3, y4, y5, y6, y7], _ =>
    obtain ⟨a, rfl⟩ := u8_arg (hy 0 _ y0 rfl rfl)
    obtain ⟨b, rfl⟩ := U16_arg (hy 1 _ y1 rfl rfl)
    obtain ⟨c, rfl⟩ := bool_arg (hy 2 _ y2 rfl rfl)
    obtain ⟨d, rfl⟩ := u8_arg (hy 3 _ y3 rfl rfl)
    obtain ⟨e, rfl⟩ := u8_arg (hy 4 _ y4 rfl rfl)
    obtain ⟨f, rfl⟩ := U32_arg (hy 5 _ y5 rfl rfl)
    obtain ⟨g, rfl⟩ := U32_arg (hy 6 _ y6 rfl rfl)
    obtain ⟨l, rfl, _⟩ := bytes_arg (hy 7 _ y7 rfl rfl)
    exact ⟨⟨a, b, c, d, e, f, g, l⟩, rfl⟩
theorem end9 (xs : List AV) (hl : xs.length = [69, 69, 22].length) (h : ∀ (j : Nat) t x, ([69, 69, 22] : List TypeId)[j]? = some t → xs[j]? = some x → Arg Tryd.prog t x) : pcall E 9 xs = some (.bool true, []) := by
  match xs, hl with
  | [x0, x1, x2], _ =>
    obtain ⟨p, rfl⟩ := pk_arg (h 0 _ x0 rfl rfl)
    obtain ⟨o, rfl⟩ := pk_arg (h 1 _ x1 rfl rfl)
    obtain ⟨z, rfl, _⟩ := bytes_arg (h 2 _ x2 rfl rfl)
    exact law9 p o z
theorem end10 (xs : List AV) (hl : xs.length = [69, 3, 5].length) (h : ∀ (j : Nat) t x, ([69, 3, 5] : List TypeId)[j]? = some t → xs[j]? = some x → Arg Tryd.prog t x) : pcall E 10 xs = some (.bool true, []) := by
  match xs, hl with
  | [x0, x1, x2], _ =>
    obtain ⟨p, rfl⟩ := pk_arg (h 0 _ x0 rfl rfl)
    obtain ⟨i, rfl, _⟩ := int_arg (h 1 _ x1 rfl rfl)
    obtain ⟨d, rfl⟩ := u8_arg (h 2 _ x2 rfl rfl)
    exact law10 p i d
theorem end11 (xs : List AV) (hl : xs.length = [69, 3].length) (h : ∀ (j : Nat) t x, ([69, 3] : List TypeId)[j]? = some t → xs[j]? = some x → Arg Tryd.prog t x) : pcall E 11 xs = some (.bool true, []) := by
  match xs, hl with
  | [x0, x1], _ =>
    obtain ⟨p, rfl⟩ := pk_arg (h 0 _ x0 rfl rfl)
    obtain ⟨i, rfl, _⟩ := int_arg (h 1 _ x1 rfl rfl)
    exact law11 p i
theorem end12 (xs : List AV) (hl : xs.length = [69, 5, 22].length) (h : ∀ (j : Nat) t x, ([69, 5, 22] : List TypeId)[j]? = some t → xs[j]? = some x → Arg Tryd.prog t x) : pcall E 12 xs = some (.bool true, []) := by
  match xs, hl with
  | [x0, x1, x2], _ =>
    obtain ⟨p, rfl⟩ := pk_arg (h 0 _ x0 rfl rfl)
    obtain ⟨d, rfl⟩ := u8_arg (h 1 _ x1 rfl rfl)
    obtain ⟨z, rfl, _⟩ := bytes_arg (h 2 _ x2 rfl rfl)
    exact law12 p d z
theorem end13 (xs : List AV) (hl : xs.length = [22].length) (h : ∀ (j : Nat) t x, ([22] : List TypeId)[j]? = some t → xs[j]? = some x → Arg Tryd.prog t x) : pcall E 13 xs = some (.bool true, []) := by
  match xs, hl with
  | [x0], _ =>
    obtain ⟨b, rfl, _⟩ := bytes_arg (h 0 _ x0 rfl rfl)
    exact law13 b
end Go.Fw.Wd
