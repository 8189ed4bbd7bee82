/-
  Bytes that are patched with their sums, and an error whose inner end is turned: what the program's functions answer. Conditions: stated at each.
-/
import Derived.Test.YtigiopahmiaedaaDoorWdTurn
import Derived.Test.YtigiopahmiaedaaDoorWdSump
set_option linter.unusedVariables false
set_option linter.unusedSimpArgs false
namespace Go.Fw.Wd
open Go.Proofs Code_

theorem row1 (a size : Nat) (h1 : 1 ≤ size) (h2 : size ≤ 7) (ha : a < 256 ^ size) :
    pcall E 51 [.int .i64 (size : Int), .rs false 1 [.int .u64 (a : Int)]] = some (.tup [.sl 1 0 0 0 (encb size a).length, .int .i64 0], [.row 0 1 ((encb size a).map by8) 5]) := by
  have hb : 256 ^ size ≤ 256 ^ 7 := Nat.pow_le_pow_right (by omega) h2
  have e : ∀ x, x < 256 ^ size → (UInt64.ofNat x).toNat = x := fun x hx => UInt64.toNat_ofNat_of_lt' (by
    have : (256 : Nat) ^ 7 = 72057594037927936 := rfl
    show x < 18446744073709551616
    omega)
  have e1 := e a ha
  have q := s51 false [UInt64.ofNat a] (by simp) (size : Int)
  have hf : fits size [UInt64.ofNat a] = true := by simp only [fits, List.all_cons, List.all_nil, e1, ha, decide_true, Bool.and_true]
  have h1' : rowE (size : Int) [UInt64.ofNat a] = 0 := by
    unfold rowE
    rw [if_pos ⟨by omega, by simpa using hf⟩]
  have h2' : rowB_ (size : Int) [UInt64.ofNat a] = encb size a := by
    unfold rowB_
    rw [if_pos ⟨by omega, by simpa using hf⟩]
    simp [rowb, e1]
  have hk : E.keep 51 = true := rfl
  simp only [us, List.map_cons, List.map_nil, u64v, e1, h1', h2', hk, decide_true, kres_t] at q
  exact q
/-- An Ip's bytes, and a port's. -/
def rowN (ip : UInt32) (pt : Nat) : List UInt8 := encb 4 ip.toNat ++ encb 2 pt
theorem rowN_len (ip : UInt32) (pt : Nat) : (rowN ip pt).length = 6 := by simp only [rowN, List.length_append, encb_length]
theorem s94 (ip : UInt32) (pt : Nat) (hp : pt < 65536) : pcall E 94 [.agg [.int .u32 (ip.toNat : Int), .int .u16 (pt : Int)]] = some (bs false (rowN ip pt), []) := by
  rw [pcall_go (fn := I94) rfl rfl rfl]
  have hk : E.keep 94 = false := rfl
  have hi := ip.toNat_lt
  have q4 := row1 ip.toNat 4 (by omega) (by omega) (by show _ < 4294967296; exact hi)
  have q2 := row1 pt 2 (by omega) (by omega) (by show _ < 65536; exact hp)
  have w4 : IntKind.u64.wrap ((ip.toNat : Nat) : Int) = ((ip.toNat : Nat) : Int) := wu64 (by omega) (by omega)
  have w2 : IntKind.u64.wrap ((pt : Nat) : Int) = ((pt : Nat) : Int) := wu64 (by omega) (by omega)
  have l4 := encb_length 4 ip.toNat
  have l2 := encb_length 2 pt
  unfold rowN
  generalize encb 4 ip.toNat = x at *
  generalize encb 2 pt = y at *
  rw [l4] at q4
  rw [l2] at q2
  simp only [Int.cast_ofNat_Int] at q4 q2
  obtain ⟨z, hz⟩ : ∃ z, z = x ++ y := ⟨_, rfl⟩
  have lz : z.length = 6 := by rw [hz, List.length_append]; omega
  have hap := appR_by8 [.row 0 1 (x.map by8) 5] 1 5 0 0 4 2 x y l4 (by omega) (by omega)
  rw [← hz] at hap ⊢
  clear hz
  simp only [go_sem, reduceCtorEq, ↓reduceIte, reduceDIte, evI_callP, callPK_some] at hap
  simp (disch := first | omega | (simp only [List.length_cons, List.length_nil, List.length_append, List.length_map, List.length_set]; omega) | rfl | (simp only [List.length_cons, List.length_nil, List.length_append, List.length_map, List.length_set, List.length_replicate, List.all_cons, List.all_nil, List.all_append, storable, plainB, Bool.and_self]; done)) only [go_sem, reduceCtorEq, ↓reduceIte, reduceDIte, evI_callP, callPK_some, I94, hk, q4, q2, w4, w2, l4, l2, hap, lz]
theorem s97 (g : Bool) (b : List UInt8) (hb : b.length ≤ 1048576) (i n : Nat) (hi : i + 2 ≤ b.length) (hn : n < 65536) : pcall E 97 [bs g b, .int .i64 (i : Int), .int .u16 (n : Int)] = some (bs false (over b i (encb 2 n)), []) := by
  rw [pcall_go (fn := I97) rfl rfl rfl]
  have hk : E.keep 97 = false := rfl
  have q := fun g => lay2 g b (by omega) i n hi hn
  have hkl : E.keep 46 = true := rfl
  rw [hkl, kres_t] at q
  have w : IntKind.u64.wrap ((n : Nat) : Int) = ((n : Nat) : Int) := wu64 (by omega) (by omega)
  have hl := over_len b i (encb 2 n) (by rw [encb_length]; exact hi)
  generalize over b i (encb 2 n) = x at *
  rw [hl] at q
  simp (disch := first | omega | (simp only [List.length_cons, List.length_nil, List.length_append, List.length_map, List.length_set]; omega) | rfl | (simp only [List.length_cons, List.length_nil, List.length_append, List.length_map, List.length_set, List.length_replicate, List.all_cons, List.all_nil, List.all_append, storable, plainB, Bool.and_self]; done)) only [go_sem, reduceCtorEq, ↓reduceIte, reduceDIte, evI_callP, callPK_some, I97, hk, q, w, hl]
def i64s (l : List Nat) : List AV := l.map fun n : Nat => .int .i64 (n : Int)
/-- Where the sums stand that hang on the ends. -/
def tsums (pr : Nat) (b : List UInt8) : List Nat := if pr = 6 then [36] else if pr = 17 then (if n2 b 26 = 0 then [] else [26]) else []
theorem s95 (g g1 : Bool) (b : List UInt8) (h28 : 28 ≤ b.length) (hb : b.length ≤ 140737488355328) (pr : UInt8) : pcall E 95 [.rp g (.agg [bs g1 b]), .int .u8 (pr.toNat : Int)] = some (.rs false 1 (i64s (tsums pr.toNat b)), []) := by
  rw [pcall_go (fn := I95) rfl rfl rfl]
  have hk : E.keep 95 = false := rfl
  have qa := fun g => at2 g b hb 26 (by omega)
  simp only [Int.cast_ofNat_Int] at qa
  unfold tsums
  by_cases h6 : pr.toNat = 6
  · have h6' : (pr.toNat : Int) = 6 := by omega
    simp only [h6, if_true, i64s, List.map_cons, List.map_nil, Int.cast_ofNat_Int]
    simp (disch := first | omega | (simp only [List.length_cons, List.length_nil, List.length_append, List.length_map, List.length_set]; omega) | rfl | (simp only [List.length_cons, List.length_nil, List.length_append, List.length_map, List.length_set, List.length_replicate, List.all_cons, List.all_nil, List.all_append, storable, plainB, Bool.and_self]; done)) only [go_sem, reduceCtorEq, ↓reduceIte, reduceDIte, evI_callP, callPK_some, I95, hk, h6']
  have h6' : ¬ (pr.toNat : Int) = 6 := by omega
  by_cases h17 : pr.toNat = 17
  · have h17' : (pr.toNat : Int) = 17 := by omega
    generalize n2 b 26 = n at *
    by_cases hn : n = 0
    · have hn' : (n : Int) = 0 := by omega
      simp only [h17, hn, Nat.reduceEqDiff, if_true, if_false, i64s, List.map_cons, List.map_nil, Int.cast_ofNat_Int]
      simp only [hn'] at qa
      simp (disch := first | omega | (simp only [List.length_cons, List.length_nil, List.length_append, List.length_map, List.length_set]; omega) | rfl | (simp only [List.length_cons, List.length_nil, List.length_append, List.length_map, List.length_set, List.length_replicate, List.all_cons, List.all_nil, List.all_append, storable, plainB, Bool.and_self]; done)) only [go_sem, reduceCtorEq, ↓reduceIte, reduceDIte, evI_callP, callPK_some, I95, hk, h17', qa]
    · have hn' : ¬ (n : Int) = 0 := by omega
      simp only [h17, hn, Nat.reduceEqDiff, if_true, if_false, i64s, List.map_cons, List.map_nil, Int.cast_ofNat_Int]
      simp (disch := first | omega | (simp only [List.length_cons, List.length_nil, List.length_append, List.length_map, List.length_set]; omega) | rfl | (simp only [List.length_cons, List.length_nil, List.length_append, List.length_map, List.length_set, List.length_replicate, List.all_cons, List.all_nil, List.all_append, storable, plainB, Bool.and_self]; done)) only [go_sem, reduceCtorEq, ↓reduceIte, reduceDIte, evI_callP, callPK_some, I95, hk, h17', qa, hn']
  have h17' : ¬ (pr.toNat : Int) = 17 := by omega
  simp only [h6, h17, if_false, i64s, List.map_nil]
  simp (disch := first | omega | (simp only [List.length_cons, List.length_nil, List.length_append, List.length_map, List.length_set]; omega) | rfl | (simp only [List.length_cons, List.length_nil, List.length_append, List.length_map, List.length_set, List.length_replicate, List.all_cons, List.all_nil, List.all_append, storable, plainB, Bool.and_self]; done)) only [go_sem, reduceCtorEq, ↓reduceIte, reduceDIte, evI_callP, callPK_some, I95, hk, h6', h17']
/-- Bytes laid at a place; the sums at some places go with them, if they are there. -/
def sumAt (was now : List UInt8) (b : List UInt8) (s : Nat) : List UInt8 := if s + 2 ≤ b.length then over b s (encb 2 (patN (n2 b s) was now)) else b
def atB (b : List UInt8) (pl : Nat) (now : List UInt8) (ss : List Nat) : List UInt8 := ss.foldl (sumAt ((b.drop pl).take now.length) now) (over b pl now)
theorem sumAt_len (was now b : List UInt8) (s : Nat) : (sumAt was now b s).length = b.length := by
  unfold sumAt
  split
  · exact over_len _ _ _ (by rw [encb_length]; assumption)
  · rfl
theorem foldl_len (was now : List UInt8) : ∀ (ss : List Nat) (b : List UInt8), (ss.foldl (sumAt was now) b).length = b.length
  | [], b => rfl
  | s :: ss, b => by rw [List.foldl_cons, foldl_len was now ss, sumAt_len]
theorem atB_len (b : List UInt8) (pl : Nat) (now : List UInt8) (ss : List Nat) (h : pl + now.length ≤ b.length) : (atB b pl now ss).length = b.length := by
  unfold atB
  rw [foldl_len, over_len _ _ _ h]
theorem at2_end (b : List UInt8) (hb : b.length ≤ 140737488355328) (i : Nat) (hi : i ≤ 1048576) (h : b.length < i + 2) : ∃ e : Int, ¬ e = 0 ∧ ∀ g, pcall E 93 [bs g b, .int .i64 (i : Int), .int .i64 2] = some (.tup [.int .u64 0, .int .i64 e], []) := by
  have hs : ¬ spanE b.length i 2 = 0 := fun h0 => by have := span0 h0; omega
  refine ⟨spanE b.length i 2, hs, fun g => ?_⟩
  have q := s93 g b hb i 2 (by constructor <;> omega)
  have e1 : atN b i 2 = 0 := by unfold atN; rw [if_neg (fun h => hs h.2)]
  have e2 : atE b i 2 = spanE b.length i 2 := by unfold atE; rw [if_pos (by omega)]
  rw [e1, e2] at q
  exact q
theorem iaddr_i64s (h : Heap) (g : Bool) (l : List Nat) (i : Nat) (h1 : i < l.length) : iaddrK h 1 (.rs g 1 (i64s l)) (.int .i64 (i : Int)) = some (.rp g (.int .i64 ((nth l i : Nat) : Int)), h) := by
  have := iaddr_map (fun n : Nat => AV.int .i64 (n : Int)) h 1 g l .i64 (i : Int) (by omega) (by omega)
  rw [Int.toNat_natCast] at this
  exact this
theorem i64s_len (l : List Nat) : (i64s l).length = l.length := by simp [i64s]
theorem drop_nth2 (l : List Nat) (i : Nat) (h : i < l.length) : l.drop i = nth l i :: l.drop (i + 1) := by
  rw [List.drop_eq_getElem_cons h, nth_get l i h]
theorem m96 (hp : Heap) (k : Nat) (hk : k < hp.length) (g g2 g3 : Bool) (t : TypeId) (b now : List UInt8) (pl : Nat) (ss : List Nat) (hb : b.length ≤ 1048576) (hpl : pl + now.length ≤ b.length) (hss : ∀ s ∈ ss, s ≤ 1048576)
    (hl : hp[k]? = some (.cells true [bs g b] t)) (hsl : ss.length ≤ 1048576) :
    hcall E 96 [.ref k 0 0, .int .i64 (pl : Int), bs g2 now, .rs g3 1 (i64s ss)] hp = some (.tup [], hp.set k (.cells true [bs false (atB b pl now ss)] t)) := by
  rw [hcall_go (fn := I96) rfl rfl rfl]
  obtain ⟨was, hwas⟩ : ∃ w, w = (b.drop pl).take now.length := ⟨_, rfl⟩
  have lwas : was.length = now.length := by rw [hwas, List.length_take, List.length_drop]; omega
  have hself : ∀ x : AObj, (hp.set k x)[k]? = some x := fun x => by simp [hk]
  have hloop : ∀ n i : Nat, i + n = ss.length → ∀ c : List UInt8, c.length = b.length →
      T96_0 E (lp E L96_0 [(0, .ref k 0 0), (2, bs g2 now), (8, bs false was), (39, .rs g3 1 (i64s ss)), (40, .int .i64 (ss.length : Int)), (41, .int .i64 (i : Int))] (hp.set k (.cells true [bs false c] t)))
        = some (.tup [], hp.set k (.cells true [bs false ((ss.drop i).foldl (sumAt was now) c)] t)) := by
    intro n
    induction n with
    | zero =>
      intro i hi c hc
      have h1 : ¬ (i : Int) < (ss.length : Int) := by omega
      rw [List.drop_eq_nil_of_le (by omega), List.foldl_nil, L96_0_go]
      simp (disch := first | omega | (simp only [List.length_cons, List.length_nil, List.length_append, List.length_map, List.length_set]; omega) | rfl | (simp only [List.length_cons, List.length_nil, List.length_append, List.length_map, List.length_set, List.length_replicate, List.all_cons, List.all_nil, List.all_append, storable, plainB, Bool.and_self]; done)) only [go_sem, reduceCtorEq, ↓reduceIte, reduceDIte, evI_callP, callPK_some, B96_0, T96_0, h1]
    | succ n ih =>
      intro i hi c hc
      have h1 : (i : Int) < (ss.length : Int) := by omega
      have hia := fun h => iaddr_i64s h g3 ss i (by omega)
      have ih' := ih (i + 1) (by omega)
      have hs := hss (nth ss i) (by rw [nth_get ss i (by omega)]; exact List.getElem_mem _)
      rw [drop_nth2 ss i (by omega), List.foldl_cons]
      have wi : IntKind.i64.wrap ((i : Int) + 1) = ((i + 1 : Nat) : Int) := by rw [w64 (by omega) (by omega)]; omega
      generalize nth ss i = s at *
      by_cases hfit : s + 2 ≤ c.length
      · have qa := fun g => at2 g c (by omega) s hfit
        have hlt := n2_lt c s
        have w16 : IntKind.u16.wrap ((n2 c s : Nat) : Int) = ((n2 c s : Nat) : Int) := wu16 (by omega) (by omega)
        have qs := fun g g' => s119 g g' (n2 c s) hlt was now (by omega) (by omega)
        have hpn := patN_lt hlt was now
        have ql := fun g => s97 g c (by omega) s (patN (n2 c s) was now) hfit hpn
        have hd := over_len c s (encb 2 (patN (n2 c s) was now)) (by rw [encb_length]; exact hfit)
        have ih2 := ih' (over c s (encb 2 (patN (n2 c s) was now))) (by omega)
        rw [← show sumAt was now c s = over c s (encb 2 (patN (n2 c s) was now)) by unfold sumAt; rw [if_pos hfit]] at ih2 ql
        rw [← ih2, L96_0_go]
        generalize sumAt was now c s = d at *
        generalize patN (n2 c s) was now = m at *
        generalize patF was now = f at *
        generalize n2 c s = v at *
        generalize i64s ss = sl at *
        simp (disch := first | omega | (simp only [List.length_cons, List.length_nil, List.length_append, List.length_map, List.length_set]; omega) | rfl | (simp only [List.length_cons, List.length_nil, List.length_append, List.length_map, List.length_set, List.length_replicate, List.all_cons, List.all_nil, List.all_append, storable, plainB, Bool.and_self]; done)) only [go_sem, reduceCtorEq, ↓reduceIte, reduceDIte, evI_callP, callPK_some, B96_0, T96_0, L96_0_lp, h1, hia, qa, w16, qs, ql, wi, hself, List.set_set]
      · obtain ⟨e, he, qa⟩ := at2_end c (by omega) s hs (by omega)
        have ih2 := ih' c hc
        rw [show sumAt was now c s = c by unfold sumAt; rw [if_neg hfit]]
        rw [← ih2, L96_0_go]
        generalize i64s ss = sl at *
        simp (disch := first | omega | (simp only [List.length_cons, List.length_nil, List.length_append, List.length_map, List.length_set]; omega) | rfl | (simp only [List.length_cons, List.length_nil, List.length_append, List.length_map, List.length_set, List.length_replicate, List.all_cons, List.all_nil, List.all_append, storable, plainB, Bool.and_self]; done)) only [go_sem, reduceCtorEq, ↓reduceIte, reduceDIte, evI_callP, callPK_some, B96_0, T96_0, L96_0_lp, h1, hia, qa, he, wi, hself]
  obtain ⟨m, hm⟩ : ∃ m, m = pl + now.length := ⟨_, rfl⟩
  have wpl : IntKind.i64.wrap ((pl : Int) + (now.length : Int)) = (m : Int) := by rw [w64 (by omega) (by omega)]; omega
  have hsl1 : ∀ h g, sliceK h 1 (.rs g 1 (b.map by8)) (some b.length) (some (.int .i64 (pl : Int))) (some (.int .i64 (m : Int))) = some (.rs g 1 (was.map by8), h) := fun h g => by
    have := slice_by_ii h g b .i64 .i64 (pl : Int) (m : Int) (by omega) (by omega) (by omega)
    rw [Int.toNat_natCast, Int.toNat_natCast, show m - pl = now.length by omega, ← hwas] at this
    exact this
  have qc := fun g => s48 g was (by omega)
  have qp := fun g g' => s75 g g' b now (by omega) (by omega) (pl : Int) (by constructor <;> omega)
  have hsp : spanE b.length (pl : Int) now.length = 0 := by unfold spanE; rw [if_neg (by omega), if_neg (by omega), if_neg (by omega)]
  have ho : patB b (pl : Int) now = over b pl now := by unfold patB; rw [if_pos hsp, Int.toNat_natCast]
  have he : patE b (pl : Int) now = 0 := by unfold patE; exact hsp
  have hkp : E.keep 75 = true := rfl
  have lo := over_len b pl now hpl
  rw [ho, he] at qp
  simp only [hkp, decide_true, kres_t] at qp
  have hz := hloop ss.length 0 (by omega) (over b pl now) lo
  rw [show atB b pl now ss = ss.foldl (sumAt was now) (over b pl now) by unfold atB; rw [← hwas]]
  simp only [List.drop_zero, Int.natCast_zero] at hz
  generalize ss.foldl (sumAt was now) (over b pl now) = r at *
  generalize over b pl now = c at *
  rw [lo] at qp
  have il := i64s_len ss
  generalize i64s ss = sl at *
  clear hloop hwas
  simp only [T96_0] at hz
  simp (disch := first | omega | (simp only [List.length_cons, List.length_nil, List.length_append, List.length_map, List.length_set]; omega) | rfl | (simp only [List.length_cons, List.length_nil, List.length_append, List.length_map, List.length_set, List.length_replicate, List.all_cons, List.all_nil, List.all_append, storable, plainB, Bool.and_self]; done)) only [go_sem, reduceCtorEq, ↓reduceIte, reduceDIte, evI_callP, callPK_some, I96, L96_0_lp, hl, hself, wpl, hsl1, qc, lwas, qp, lo, il, hz]
end Go.Fw.Wd
