/-
  Options that lie in memory of the run's own: what Parse answers on the caller's memory. Conditions: stated at each.
-/
import Derived.Test.YtijjehobflgalaaWdO7
set_option linter.unusedVariables false
set_option linter.unusedSimpArgs false
namespace Go.Fw.Wd
open Go.Proofs Code_

/-- What Cut answers. -/
def cutB (l : List UInt8) (fr to : Int) : List UInt8 := if fr < 0 ∨ to < fr ∨ (l.length : Int) < to then [] else (l.drop fr.toNat).take (to.toNat - fr.toNat)
def cutE (l : List UInt8) (fr to : Int) : Int := if fr < 0 ∨ to < fr then 11 else if (l.length : Int) < to then 12 else 0
theorem s26 (g : Bool) (l : List UInt8) (hl : l.length ≤ 140737488355328) (fr to : Int) : pcall E 26 [bs g l, .int .i64 fr, .int .i64 to] = some (kres true (decide (cutE l fr to = 0)) 5 (cutB l fr to) (.int .i64 (cutE l fr to))) := by
  rw [pcall_go (fn := I26) rfl rfl rfl]
  have hk : E.keep 26 = true := rfl
  unfold cutB cutE
  by_cases a1 : fr < 0
  · simp only [go_sem, reduceCtorEq, ↓reduceIte, reduceDIte, evI_callP, callPK_some, I26, hk, a1]
  by_cases a2 : to < fr
  · simp only [go_sem, reduceCtorEq, ↓reduceIte, reduceDIte, evI_callP, callPK_some, I26, hk, a1, a2]
  by_cases a3 : (l.length : Int) < to
  · simp only [go_sem, reduceCtorEq, ↓reduceIte, reduceDIte, evI_callP, callPK_some, I26, hk, a1, a2, a3]
  · have hc := fun g => s20 g ((l.drop fr.toNat).take (to.toNat - fr.toNat)) (by rw [List.length_take, List.length_drop]; omega)
    simp (disch := first | omega | (simp only [List.length_cons, List.length_nil, List.length_append, List.length_map, List.length_set]; omega) | rfl | (simp only [List.length_cons, List.length_nil, List.length_append, List.length_map, List.length_set, List.length_replicate, List.all_cons, List.all_nil, List.all_append, storable, plainB, Bool.and_self]; done)) only [go_sem, reduceCtorEq, ↓reduceIte, reduceDIte, evI_callP, callPK_some, I26, hk, a1, a2, a3, hc]
/-- An option whose data is the row at a place. -/
abbrev Opl := UInt8 × Nat × List UInt8
def encP_ (x : Opl) : List AV := [.int .u8 (x.1.toNat : Int), .sl 1 x.2.1 0 0 x.2.2.length]
theorem encPl_eq (x : Opl) : encP_ x = [.int .u8 (x.1.toNat : Int), .sl 1 x.2.1 0 0 x.2.2.length] := rfl
abbrev rowP (ver : Nat) (l : List Opl) (t : TypeId) : AObj := .row ver 2 (l.flatMap encP_) t
def ofP (x : Opl) : Opt := (x.1, x.2.2)
/-- The rows are there. -/
def Good (h : Heap) (l : List Opl) : Prop := ∀ x ∈ l, 0 < x.2.1 ∧ h[x.2.1]? = some (.row 0 1 (x.2.2.map by8) 5)
theorem m17 (g : Bool) (l : List UInt8) (hl : l.length ≤ 1048576) (hp : Heap) (o : Opt) (r : List UInt8) (ht : takeO l = some (o, r)) :
    hcall E 17 [bs g l] hp = some (.tup [.agg [.int .u8 (o.1.toNat : Int), .sl 1 (hp.length + 1) 0 0 o.2.length], bs g r, .int .i64 0],
      hp ++ [.cells true [.int .u8 (o.1.toNat : Int), .sl 1 (hp.length + 1) 0 0 o.2.length] 35, .row 0 1 (o.2.map by8) 5]) := by
  rw [hcall_go (fn := I17) rfl rfl rfl]
  have q1 := fun g => s21 g l (by omega) 1 1 s64_1
  obtain ⟨c, n, r0, hx⟩ : ∃ c n r, l = c :: n :: r := by
    match l, ht with
    | [], h => cases h
    | [c], h => cases h
    | c :: n :: r, _ => exact ⟨c, n, r, rfl⟩
  have hlen : l.length = r0.length + 2 := by rw [hx]; rfl
  rw [hx, takeO_long] at ht
  split at ht
  case isFalse => cases ht
  rename_i h
  injection ht with ht
  injection ht with ho hr
  subst ho; subst hr
  have e1 : atE l 1 1 = 0 := by
    simp only [atE, spanE]
    rw [if_pos (by omega), if_neg (by omega), if_neg (by omega), if_neg (by omega)]
  have e2 : atN l 1 1 = n.toNat := by
    simp only [atE] at e1
    rw [if_pos (by omega)] at e1
    simp only [atN, e1]
    rw [hx]
    simp [num]
  rw [e1, e2] at q1
  have hn := n.toNat_lt
  have n0 : nth l 0 = c := by rw [hx]; rfl
  have q2 := fun g => s26 g l (by omega) 2 (2 + n.toNat)
  have e3 : cutE l 2 (2 + n.toNat) = 0 := by
    simp only [cutE]
    rw [if_neg (by omega), if_neg (by omega)]
  have e4 : cutB l 2 (2 + n.toNat) = r0.take n.toNat := by
    simp only [cutB]
    rw [if_neg (by omega)]
    rw [show ((2 : Int) + (n.toNat : Int)).toNat = 2 + n.toNat by omega, hx]
    simp
  have e5 : l.drop ((2 : Int) + (n.toNat : Int)).toNat = r0.drop n.toNat := by
    rw [show ((2 : Int) + (n.toNat : Int)).toNat = n.toNat + 2 by omega, hx]
    rfl
  rw [e3, e4, decide_eq_true rfl, kres_t] at q2
  clear hx
  have hlt : (r0.take n.toNat).length = n.toNat := by rw [List.length_take]; omega
  generalize r0.take n.toNat = d at *
  generalize r0.drop n.toNat = r at *
  simp (disch := first | omega | (simp only [List.length_cons, List.length_nil, List.length_append, List.length_map, List.length_set]; omega) | rfl | (simp only [List.length_cons, List.length_nil, List.length_append, List.length_map, List.length_set, List.length_replicate, List.all_cons, List.all_nil, List.all_append, storable, plainB, Bool.and_self]; done)) only [go_sem, reduceCtorEq, ↓reduceIte, reduceDIte, evI_callP, callPK_some, I17, q1, q2, wbi, n0, e5, List.append_assoc]
theorem me17 (g : Bool) (l : List UInt8) (hl : l.length ≤ 1048576) (hp : Heap) (ht : takeO l = none) :
    ∃ h', hcall E 17 [bs g l] hp = some (.tup [.agg [.int .u8 0, .rs false 1 []], .rs false 1 [], .int .i64 12], hp ++ [h']) := by
  rw [hcall_go (fn := I17) rfl rfl rfl]
  have q1 := fun g => s21 g l (by omega) 1 1 s64_1
  refine ⟨.cells true [.int .u8 0, .rs false 1 []] 35, ?_⟩
  by_cases h2 : l.length < 2
  · have e1 : atE l 1 1 = 12 := by
      simp only [atE, spanE]
      rw [if_pos (by omega), if_neg (by omega)]
      split
      · rfl
      · rw [if_pos (by omega)]
    rw [e1] at q1
    simp (disch := first | omega | (simp only [List.length_cons, List.length_nil, List.length_append, List.length_map, List.length_set]; omega) | rfl | (simp only [List.length_cons, List.length_nil, List.length_append, List.length_map, List.length_set, List.length_replicate, List.all_cons, List.all_nil, List.all_append, storable, plainB, Bool.and_self]; done)) only [go_sem, reduceCtorEq, ↓reduceIte, reduceDIte, evI_callP, callPK_some, I17, q1]
  · obtain ⟨c, n, r0, hx⟩ : ∃ c n r, l = c :: n :: r := by
      match l, h2 with
      | [], h => simp at h
      | [c], h => simp at h
      | c :: n :: r, _ => exact ⟨c, n, r, rfl⟩
    have hlen : l.length = r0.length + 2 := by rw [hx]; rfl
    rw [hx, takeO_long] at ht
    split at ht
    case isTrue => cases ht
    rename_i h
    have e1 : atE l 1 1 = 0 := by
      simp only [atE, spanE]
      rw [if_pos (by omega), if_neg (by omega), if_neg (by omega), if_neg (by omega)]
    have e2 : atN l 1 1 = n.toNat := by
      simp only [atE] at e1
      rw [if_pos (by omega)] at e1
      simp only [atN, e1]
      rw [hx]
      simp [num]
    rw [e1, e2] at q1
    have hn := n.toNat_lt
    have q2 := fun g => s26 g l (by omega) 2 (2 + n.toNat)
    have e3 : cutE l 2 (2 + n.toNat) = 12 := by
      simp only [cutE]
      rw [if_neg (by omega), if_pos (by omega)]
    have e4 : cutB l 2 (2 + n.toNat) = [] := by
      simp only [cutB]
      rw [if_pos (by omega)]
    rw [e3, e4, decide_eq_false (by omega), kres_n] at q2
    clear hx
    simp (disch := first | omega | (simp only [List.length_cons, List.length_nil, List.length_append, List.length_map, List.length_set]; omega) | rfl | (simp only [List.length_cons, List.length_nil, List.length_append, List.length_map, List.length_set, List.length_replicate, List.all_cons, List.all_nil, List.all_append, storable, plainB, Bool.and_self]; done)) only [go_sem, reduceCtorEq, ↓reduceIte, reduceDIte, evI_callP, callPK_some, I17, q1, q2, wbi]
theorem gc2 (l : Heap) (a b c : AObj) (m : Heap) : (l ++ a :: b :: c :: m)[l.length + 2]? = some c := by
  rw [List.getElem?_append_right (by omega), Nat.add_sub_cancel_left]
  rfl
theorem sc2 (l : Heap) (a b c d : AObj) (m : Heap) : (l ++ a :: b :: c :: m).set (l.length + 2) d = l ++ a :: b :: d :: m := by
  rw [List.set_append_right _ _ (by omega), Nat.add_sub_cancel_left]
  rfl
theorem gc3 (l : Heap) (a b c d : AObj) (m : Heap) : (l ++ a :: b :: c :: d :: m)[l.length + 3]? = some d := by
  rw [List.getElem?_append_right (by omega), Nat.add_sub_cancel_left]
  rfl
theorem ci_last (o a b c : AObj) (junk : Heap) (x y : AV) (t : TypeId) (hx : storable x = true) (hy : storable y = true) : cellsIn (o :: (junk ++ [a, b, c, .row 0 2 [x, y] t])) 2 (.sl 2 (junk.length + 4) 0 0 1) = some [x, y] := by
  have h : (o :: (junk ++ [a, b, c, .row 0 2 [x, y] t]))[junk.length + 4]? = some (.row 0 2 [x, y] t) := by
    rw [show junk.length + 4 = junk.length + 3 + 1 from rfl, List.getElem?_cons_succ]
    exact gc3 _ _ _ _ _ _
  simp only [cellsIn, objCells, h, if_true, Option.bind_some, List.length_cons, List.length_nil]
  rfl
theorem app_two (h : Heap) (t : TypeId) (n : Nat) (cs : List AV) (x y : AV) (hn : cs.length = n * 2) (hb : n ≤ 1048576) (hx : storable x = true) (hy : storable y = true) :
    appR h 2 32 t [x, y] 1 0 n n (some (.row n 2 cs t)) = some (.sl 2 0 (n + 1) 0 (n + 1), h.set 0 (.row (n + 1) 2 (cs ++ [x, y]) t)) := by
  have h1 : (n + 1) * 32 ≤ 140737488355328 := by omega
  have h2 : n + 1 ≤ 140737488355328 := by omega
  simp [appR, hn, h1, h2, hx, hy]
theorem Good.grow {o o' : AObj} {junk m : Heap} {l : List Opl} (h : Good (o :: junk) l) : Good (o' :: (junk ++ m)) l := by
  intro x hx
  obtain ⟨h1, h2⟩ := h x hx
  refine ⟨h1, ?_⟩
  obtain ⟨k, hk⟩ : ∃ k, x.2.1 = k + 1 := ⟨x.2.1 - 1, by omega⟩
  rw [hk, List.getElem?_cons_succ] at h2 ⊢
  have hlt := (List.getElem?_eq_some_iff.1 h2).1
  rw [List.getElem?_append_left hlt]
  exact h2
theorem parse_loopM (g : Bool) : ∀ (n : Nat) (b : List UInt8), b.length ≤ n → ∀ (acc : List Opl) (junk : Heap), acc.length + b.length ≤ 1048576 → Good (rowP acc.length acc 35 :: junk) acc →
    ∃ V h', T6_0 E (lp E L6_0 [(0, bs g b), (4, .sl 2 0 acc.length 0 acc.length)] (rowP acc.length acc 35 :: junk)) = some (V, h') ∧
      (parseO b = none → V = .tup [.rs false 2 [], .int .i64 12]) ∧
      ∀ l, parseO b = some l → ∃ L : List Opl, V = .tup [.sl 2 0 L.length 0 L.length, .int .i64 0] ∧ h'[0]? = some (rowP L.length L 35) ∧ Good h' L ∧ L.map ofP = acc.map ofP ++ l
  | n, [], hn, acc, junk, hb, hG => by
    refine ⟨_, rowP acc.length acc 35 :: junk, ?_, fun _ => rfl, fun l hl => by simp [parseO] at hl⟩
    rw [L6_0_go]
    simp (disch := first | omega | (simp only [List.length_cons, List.length_nil, List.length_append, List.length_map, List.length_set]; omega) | rfl | (simp only [List.length_cons, List.length_nil, List.length_append, List.length_map, List.length_set, List.length_replicate, List.all_cons, List.all_nil, List.all_append, storable, plainB, Bool.and_self]; done)) only [go_sem, reduceCtorEq, ↓reduceIte, reduceDIte, evI_callP, callPK_some, B6_0, T6_0, rowP]
  | 0, c :: r, hn, acc, junk, hb, hG => by simp at hn
  | n + 1, c :: r, hn, acc, junk, hb, hG => by
    obtain ⟨b, hx⟩ : ∃ b, b = c :: r := ⟨_, rfl⟩
    have hlen : b.length = r.length + 1 := by rw [hx]; rfl
    have n0 : nth b 0 = c := by rw [hx]; rfl
    have d1 : b.drop 1 = r := by rw [hx]; rfl
    rw [← hx] at hn hb ⊢
    have g1 : (0 : Int) < b.length := by omega
    by_cases h1 : c = 255
    · have e : parseO b = some [] := by rw [hx, h1]; exact parseO_end r
      refine ⟨.tup [.sl 2 0 acc.length 0 acc.length, .int .i64 0], rowP acc.length acc 35 :: junk, ?_, (fun hh => by rw [e] at hh; cases hh), fun l hl => ?_⟩
      · rw [L6_0_go]
        clear hx
        have h1' := (ff_eq c).2 h1
        simp (disch := first | omega | (simp only [List.length_cons, List.length_nil, List.length_append, List.length_map, List.length_set]; omega) | rfl | (simp only [List.length_cons, List.length_nil, List.length_append, List.length_map, List.length_set, List.length_replicate, List.all_cons, List.all_nil, List.all_append, storable, plainB, Bool.and_self]; done)) only [go_sem, reduceCtorEq, ↓reduceIte, reduceDIte, evI_callP, callPK_some, B6_0, T6_0, rowP, g1, n0, h1']
      · rw [e] at hl
        injection hl with hl
        subst hl
        exact ⟨acc, rfl, rfl, hG, by simp⟩
    · have h1' : ¬ (c.toNat : Int) = 255 := fun h => h1 ((ff_eq c).1 h)
      by_cases h0 : c = 0
      · have e : parseO b = parseO r := by rw [hx, h0]; exact parseO_pad r
        obtain ⟨V, h', i1, i2, i3⟩ := parse_loopM g n r (by omega) acc junk (by omega) hG
        refine ⟨V, h', ?_, fun hh => i2 (by rw [← e]; exact hh), fun l hl => i3 l (by rw [← e]; exact hl)⟩
        rw [L6_0_go]
        clear hx
        have h0' := (zz_eq c).2 h0
        rw [← i1]
        simp (disch := first | omega | (simp only [List.length_cons, List.length_nil, List.length_append, List.length_map, List.length_set]; omega) | rfl | (simp only [List.length_cons, List.length_nil, List.length_append, List.length_map, List.length_set, List.length_replicate, List.all_cons, List.all_nil, List.all_append, storable, plainB, Bool.and_self]; done)) only [go_sem, reduceCtorEq, ↓reduceIte, reduceDIte, evI_callP, callPK_some, B6_0, L6_0_lp, rowP, g1, n0, h1', h0', d1, Int.reduceEq]
      · have h0' : ¬ (c.toNat : Int) = 0 := fun h => h0 ((zz_eq c).1 h)
        have e := parseO_take b c r hx h1 h0
        clear hx
        cases ht : takeO b with
        | none =>
          rw [ht] at e
          obtain ⟨c1, q⟩ := me17 g b (by omega) (rowP acc.length acc 35 :: junk) ht
          refine ⟨.tup [.rs false 2 [], .int .i64 12], rowP acc.length acc 35 :: (junk ++ [c1, .cells true [.int .u8 0, bs false []] 35]), ?_, fun _ => rfl, fun l hl => by rw [e] at hl; cases hl⟩
          rw [L6_0_go]
          simp (disch := first | omega | (simp only [List.length_cons, List.length_nil, List.length_append, List.length_map, List.length_set]; omega) | rfl | (simp only [List.length_cons, List.length_nil, List.length_append, List.length_map, List.length_set, List.length_replicate, List.all_cons, List.all_nil, List.all_append, storable, plainB, Bool.and_self]; done)) only [go_sem, reduceCtorEq, ↓reduceIte, reduceDIte, evI_callP, callPK_some, B6_0, T6_0, rowP, g1, n0, h1', h0', q, List.append_assoc]
        | some p =>
          obtain ⟨o, r'⟩ := p
          rw [ht] at e
          have q := m17 g b (by omega) (rowP acc.length acc 35 :: junk) o r' ht
          have hl' := takeO_len ht
          obtain ⟨new, hnew⟩ : ∃ x : Opl, x = (o.1, junk.length + 1 + 1, o.2) := ⟨_, rfl⟩
          obtain ⟨j1, hj1⟩ : ∃ j : AObj, j = .cells true [.int .u8 (o.1.toNat : Int), .sl 1 (junk.length + 1 + 1) 0 0 o.2.length] 35 := ⟨_, rfl⟩
          obtain ⟨j3, hj3⟩ : ∃ j : AObj, j = .row 0 2 [.int .u8 (o.1.toNat : Int), .sl 1 (junk.length + 1 + 1) 0 0 o.2.length] 35 := ⟨_, rfl⟩
          have hgn : Good (rowP (acc ++ [new]).length (acc ++ [new]) 35 :: (junk ++ [j1, .row 0 1 (o.2.map by8) 5, j1, j3])) (acc ++ [new]) := by
            intro x hx
            rcases List.mem_append.1 hx with hx | hx
            · exact hG.grow x hx
            · rw [List.mem_singleton.1 hx, hnew]
              refine ⟨by show 0 < junk.length + 1 + 1; omega, ?_⟩
              show (_ :: (junk ++ _))[junk.length + 1 + 1]? = _
              rw [List.getElem?_cons_succ]
              exact gcn1 _ _ _ _
          obtain ⟨V, h', i1, i2, i3⟩ := parse_loopM g n r' (by omega) (acc ++ [new]) (junk ++ [j1, .row 0 1 (o.2.map by8) 5, j1, j3]) (by simp; omega) hgn
          simp only at e
          refine ⟨V, h', ?_, (fun hh => i2 (by
            rw [e] at hh
            cases hr : parseO r' with
            | none => rfl
            | some l => rw [hr] at hh; cases hh)), fun l hl => ?_⟩
          · rw [L6_0_go, ← i1, hj1, hj3]
            have hen : (acc ++ [new]).flatMap encP_ = acc.flatMap encP_ ++ [.int .u8 (o.1.toNat : Int), .sl 1 (junk.length + 1 + 1) 0 0 o.2.length] := by
              rw [List.flatMap_append, hnew]
              rfl
            have hcl : (acc.flatMap encP_).length = acc.length * 2 := by
              clear hG hgn i1 i2 i3 hen hb q
              induction acc with
              | nil => rfl
              | cons a l ih => rw [List.flatMap_cons, List.length_append, ih, List.length_cons]; show 2 + _ = _; omega
            have hln : (acc ++ [new]).length = acc.length + 1 := by simp
            simp only [rowP, hen, hln] at *
            generalize acc.flatMap encP_ = cs at *
            have hci := fun o' a b c k t => ci_last o' a b c junk (.int .u8 (o.1.toNat : Int)) (.sl 1 k 0 0 o.2.length) t rfl rfl
            have hap := fun h k => app_two h 35 acc.length cs (.int .u8 (o.1.toNat : Int)) (.sl 1 k 0 0 o.2.length) hcl (by omega) rfl rfl
            simp (disch := first | omega | (simp only [List.length_cons, List.length_nil, List.length_append, List.length_map, List.length_set]; omega) | rfl | (simp only [List.length_cons, List.length_nil, List.length_append, List.length_map, List.length_set, List.length_replicate, List.all_cons, List.all_nil, List.all_append, storable, plainB, Bool.and_self]; done)) only [go_sem, reduceCtorEq, ↓reduceIte, reduceDIte, evI_callP, callPK_some, B6_0, L6_0_lp, g1, n0, h1', h0', q, hci, hap, hcl, List.append_assoc, gc2, sc2, gc3, Nat.add_assoc]
          · rw [e] at hl
            cases hr : parseO r' with
            | none => rw [hr] at hl; cases hl
            | some l' =>
              rw [hr] at hl
              injection hl with hl
              subst hl
              obtain ⟨L, k1, k2, k3, k4⟩ := i3 l' hr
              refine ⟨L, k1, k2, k3, ?_⟩
              rw [k4, hnew]
              simp [ofP]
end Go.Fw.Wd
