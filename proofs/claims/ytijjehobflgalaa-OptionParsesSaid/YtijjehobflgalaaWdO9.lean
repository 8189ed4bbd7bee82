/-
  The law OptionParses at the evaluation. Conditions: stated at each.
-/
import Derived.Test.YtijjehobflgalaaWdO8
import Derived.Test.YtijjehobflgalaaWdArgs
set_option linter.unusedVariables false
set_option linter.unusedSimpArgs false
namespace Go.Fw.Wd
open Go.Proofs Code_

theorem encP_len (L : List Opl) : (L.flatMap encP_).length = L.length * 2 := by
  induction L with
  | nil => rfl
  | cons a l ih => rw [List.flatMap_cons, List.length_append, ih, List.length_cons]; show 2 + _ = _; omega
theorem m6 (g : Bool) (b : List UInt8) (hb : b.length ≤ 1048576) : ∃ V h', hcall E 6 [bs g b] [] = some (V, h') ∧
      (parseO b = none → V = .tup [.rs false 2 [], .int .i64 12]) ∧
      ∀ l, parseO b = some l → ∃ L : List Opl, V = .tup [.sl 2 0 L.length 0 L.length, .int .i64 0] ∧ h'[0]? = some (rowP L.length L 35) ∧ Good h' L ∧ L.map ofP = l := by
  obtain ⟨V, h', i1, i2, i3⟩ := parse_loopM g b.length b (Nat.le_refl _) [] [] (by simp; omega) (fun x hx => by cases hx)
  refine ⟨V, h', ?_, i2, fun l hl => ?_⟩
  · rw [hcall_go (fn := I6) rfl rfl rfl, ← i1]
    simp (disch := first | omega | (simp only [List.length_cons, List.length_nil, List.length_append, List.length_map, List.length_set]; omega) | rfl | (simp only [List.length_cons, List.length_nil, List.length_append, List.length_map, List.length_set, List.length_replicate, List.all_cons, List.all_nil, List.all_append, storable, plainB, Bool.and_self]; done)) only [go_sem, reduceCtorEq, ↓reduceIte, reduceDIte, evI_callP, callPK_some, I6, L6_0_lp, rowP]
    rfl
  · obtain ⟨L, k1, k2, k3, k4⟩ := i3 l hl
    exact ⟨L, k1, k2, k3, by simpa using k4⟩
/-- An option whose data bears a mark. -/
def encG (g : Bool) (o : Opt) : List AV := [.int .u8 (o.1.toNat : Int), bs g o.2]
theorem encG_eq (g : Bool) (o : Opt) : encG g o = [.int .u8 (o.1.toNat : Int), bs g o.2] := rfl
theorem sn_P (g : Bool) (h : Heap) (d ver n : Nat) (L : List Opl) (t : TypeId) (hl : h[0]? = some (.row ver 2 (L.flatMap encP_) t)) (hn : L.length = n) (hG : Good h L) :
    sn g h (d + 2) (.sl 2 0 ver 0 n) = some (.rs g 2 ((L.map ofP).map fun o => AV.agg (encG g o))) := by
  subst hn
  rw [sn_sl, hl]
  have h1 := encP_len L
  have hle : L.length * 2 ≤ (L.flatMap encP_).length := by omega
  simp only [hle, and_true, if_true, Nat.zero_lt_succ, show (0 : Nat) < 2 from by omega]
  rw [List.take_of_length_le (by omega)]
  have hsn : snL g h (d + 1) (L.flatMap encP_) = some ((L.map ofP).flatMap (encG g)) := by
    clear hl hle h1
    induction L with
    | nil => rfl
    | cons x l ih =>
      have hx := hG x List.mem_cons_self
      have hs : sn g h (d + 1) (.sl 1 x.2.1 0 0 x.2.2.length) = some (.rs g 1 (x.2.2.map by8)) := by
        rw [sn_row, hx.2]
        exact snR_by8 g h (d + 1) x.2.1 0 x.2.2.length x.2.2 5 rfl
      rw [List.flatMap_cons, encPl_eq, List.cons_append, List.cons_append, List.nil_append, snL_cons, snL_cons, ih (fun y hy => hG y (List.mem_cons_of_mem _ hy)), sn_int, hs]
      rfl
  have hg : ∀ l : List Opt, group (2 != 1) 2 l.length (l.flatMap (encG g)) = l.map fun o => AV.agg (encG g o) := by
    intro l
    induction l with
    | nil => rfl
    | cons o l ih =>
      rw [List.flatMap_cons, List.length_cons, List.map_cons, ← ih]
      rfl
  have hg' := hg (L.map ofP)
  rw [List.length_map] at hg'
  rw [hsn, Option.map_some, hg']
theorem lg9 (g g1 : Bool) (l : List Opt) (hl : small l) : ∀ (n i : Nat), i + n = l.length → (T9_0 E (lp E L9_0 [(0, .rs g 2 (l.map fun o => AV.agg (encG g1 o))), (3, .sl 2 0 i 0 i), (4, .int .i64 i)] [rowO i (l.take i) 50])) = some (.sl 2 0 l.length 0 l.length, [rowO l.length l 50])
  | 0, i, hi => by
    have e : i = l.length := by omega
    subst e
    rw [List.take_length, L9_0_go]
    simp (disch := first | omega | (simp only [List.length_cons, List.length_nil, List.length_append, List.length_map, List.length_set]; omega) | rfl | (simp only [List.length_cons, List.length_nil, List.length_append, List.length_map, List.length_set, List.length_replicate, List.all_cons, List.all_nil, List.all_append, storable, plainB, Bool.and_self]; done)) only [go_sem, reduceCtorEq, ↓reduceIte, reduceDIte, evI_callP, callPK_some, B9_0, T9_0, List.length_map, Int.lt_irrefl]
  | n + 1, i, hi => by
    have g2 : (i : Int) < l.length := by omega
    have hl1 := hl.1
    have hle := hl.2 _ (nth_mem (show i < l.length by omega))
    have ia := fun h => iaddr_map (fun o => AV.agg (encG g1 o)) h 2 g l .i64 (i : Int) (by omega) (by omega)
    have ih := lg9 g g1 l hl n (i + 1) (by omega)
    have q := fun g => s5 g (nth l i).2 (by omega)
    have ht : l.take i ++ [nth l i] = l.take (i + 1) := by rw [List.take_succ_eq_append_getElem (by omega), nth_get l i (by omega)]
    have htl : (l.take i).length = i := by rw [List.length_take]; omega
    have hap := fun h => fopt.app1 h 32 50 0 i i (l.take i) (nth l i) htl (by omega) (by omega)
    rw [ht] at hap
    rw [L9_0_go, ← ih]
    simp only [Int.toNat_natCast, encO_eq, encG_eq] at ia hap
    simp only [encG_eq]
    simp (disch := first | omega | (simp only [List.length_cons, List.length_nil, List.length_append, List.length_map, List.length_set]; omega) | rfl | (simp only [List.length_cons, List.length_nil, List.length_append, List.length_map, List.length_set, List.length_replicate, List.all_cons, List.all_nil, List.all_append, storable, plainB, Bool.and_self]; done)) only [go_sem, reduceCtorEq, ↓reduceIte, reduceDIte, evI_callP, callPK_some, B9_0, L9_0_lp, g2, ia, q, hap, List.length_map]
theorem sg9 (g g1 : Bool) (l : List Opt) (hl : small l) : pcall E 9 [.rs g 2 (l.map fun o => AV.agg (encG g1 o))] = some (opts false l, []) := by
  rw [pcall_go (fn := I9) rfl rfl rfl]
  have hk : E.keep 9 = false := rfl
  have i1 := lg9 g g1 l hl l.length 0 (by omega)
  simp (disch := first | omega | (simp only [List.length_cons, List.length_nil, List.length_append, List.length_map, List.length_set]; omega) | rfl | (simp only [List.length_cons, List.length_nil, List.length_append, List.length_map, List.length_set, List.length_replicate, List.all_cons, List.all_nil, List.all_append, storable, plainB, Bool.and_self]; done)) only [go_sem, reduceCtorEq, ↓reduceIte, reduceDIte, evI_callP, callPK_some, I9, hk, L9_0_lp]
  have hs := fopt.sn false [rowO l.length l 50] 7 0 l.length l.length l 50 rfl rfl
  exact (congrArg (Option.bind · (finish false)) i1).trans (by simp only [go_sem, reduceCtorEq, ↓reduceIte, reduceDIte, evI_callP, callPK_some, hs])
/-- The options' rows, each of its length. -/
def Inv (h : Heap) (L : List Opl) : Prop := h[0]? = some (rowP L.length L 35) ∧ ∀ x ∈ L, 0 < x.2.1 ∧ ∃ d : List UInt8, d.length = x.2.2.length ∧ h[x.2.1]? = some (.row 0 1 (d.map by8) 5)
theorem Good.inv {h : Heap} {L : List Opl} (h0 : h[0]? = some (rowP L.length L 35)) (hG : Good h L) : Inv h L := ⟨h0, fun x hx => ⟨(hG x hx).1, x.2.2, rfl, (hG x hx).2⟩⟩
theorem Inv.set {h : Heap} {L : List Opl} (hI : Inv h L) (k : Nat) (hk : 0 < k) (d d' : List UInt8) (hd : h[k]? = some (.row 0 1 (d.map by8) 5)) (hl : d'.length = d.length) : Inv (h.set k (.row 0 1 (d'.map by8) 5)) L := by
  refine ⟨by rw [List.getElem?_set_ne (by omega)]; exact hI.1, fun x hx => ?_⟩
  obtain ⟨h1, e, h2, h3⟩ := hI.2 x hx
  refine ⟨h1, ?_⟩
  by_cases hxk : x.2.1 = k
  · refine ⟨d', ?_, ?_⟩
    · rw [hxk, hd] at h3
      injection h3 with h3
      injection h3 with _ _ h3 _
      have := congrArg List.length h3
      simp only [List.length_map] at this
      omega
    · rw [hxk, List.getElem?_set_self (List.getElem?_eq_some_iff.1 hd).1]
  · exact ⟨e, h2, by rw [List.getElem?_set_ne (by omega)]; exact h3⟩
theorem nth_encP (L : List Opl) : ∀ i, i < L.length → (L.flatMap encP_).getD (i * 2 + 1) .undef = .sl 1 (nth L i).2.1 0 0 (nth L i).2.2.length := by
  induction L with
  | nil => intro i hi; simp at hi
  | cons x l ih =>
    intro i hi
    rw [List.flatMap_cons, encPl_eq]
    cases i with
    | zero => rfl
    | succ i =>
      have := ih i (by simpa using hi)
      rw [show (i + 1) * 2 + 1 = (i * 2 + 1) + 1 + 1 by omega]
      exact this
theorem mut_in (b : List UInt8) (L : List Opl) (hL : L.length ≤ 1048576) (i : Nat) (hi : i < L.length) (hlen : (nth L i).2.2.length ≤ 1048576)
    (hout : ∀ H, Inv H L → ∃ H', T3_1 E (lp E L3_1 [(0, bs false b), (3, bs false b), (4, .sl 2 0 L.length 0 L.length), (8, .int .i64 ((i + 1 : Nat) : Int))] H) = some (.bool true, H')) :
    ∀ (n k : Nat), k + n = (nth L i).2.2.length → ∀ H, Inv H L → ∃ H', T3_0 E (lp E L3_0 [(0, bs false b), (3, bs false b), (4, .sl 2 0 L.length 0 L.length), (8, .int .i64 (i : Int)), (9, .int .i64 (k : Int))] H) = some (.bool true, H') := by
  intro n
  induction n with
  | zero =>
    intro k hk H hI
    obtain ⟨H', hH'⟩ := hout H hI
    refine ⟨H', ?_⟩
    obtain ⟨h0, hx⟩ := hI
    obtain ⟨h1, d, h2, h3⟩ := hx (nth L i) (nth_mem hi)
    have hob : (objCells H 0 L.length).isSome = true := by simp [objCells, h0]
    have hia : iaddrK H 2 (.sl 2 0 L.length 0 L.length) (.int .i64 (i : Int)) = some (.ref 0 L.length (0 + i * 2), H) := by
      have := iaddrK_sl H 2 0 L.length 0 L.length .i64 (i : Int) (by omega) (by omega) hob
      rw [Int.toNat_natCast] at this
      exact this
    have hld : ∀ t, ldR H 0 L.length (i * 2 + 1) (some (.row L.length 2 (L.flatMap encP_) t)) = some (.sl 1 (nth L i).2.1 0 0 (nth L i).2.2.length, H) := fun t => by
      have hlt : i * 2 + 1 < (L.flatMap encP_).length := by rw [encP_len]; omega
      simp only [ldR, hlt, and_self, if_true, nth_encP L i hi]
    have hob2 : (objCells H (nth L i).2.1 0).isSome = true := by simp [objCells, h3]
    have wi : IntKind.i64.wrap ((i : Int) + 1) = ((i + 1 : Nat) : Int) := by rw [w64 (by omega) (by omega)]; omega
    have g1 : ¬ (k : Int) < ((nth L i).2.2.length : Int) := by omega
    rw [← hH', L3_0_go]
    clear hH' hout
    generalize (nth L i).2.1 = kk at *
    generalize (nth L i).2.2.length = m at *
    simp only [rowP] at h0
    simp (disch := first | omega | (simp only [List.length_cons, List.length_nil, List.length_append, List.length_map, List.length_set]; omega) | rfl | (simp only [List.length_cons, List.length_nil, List.length_append, List.length_map, List.length_set, List.length_replicate, List.all_cons, List.all_nil, List.all_append, storable, plainB, Bool.and_self]; done)) only [go_sem, reduceCtorEq, ↓reduceIte, reduceDIte, evI_callP, callPK_some, B3_0, T3_0, L3_1_lp, h0, h3, hia, hld, wi, g1]
  | succ n ih =>
    intro k hk H hI
    obtain ⟨h0, hx⟩ := hI
    obtain ⟨h1, d, h2, h3⟩ := hx (nth L i) (nth_mem hi)
    have hob : (objCells H 0 L.length).isSome = true := by simp [objCells, h0]
    have hia : iaddrK H 2 (.sl 2 0 L.length 0 L.length) (.int .i64 (i : Int)) = some (.ref 0 L.length (0 + i * 2), H) := by
      have := iaddrK_sl H 2 0 L.length 0 L.length .i64 (i : Int) (by omega) (by omega) hob
      rw [Int.toNat_natCast] at this
      exact this
    have hld : ∀ t, ldR H 0 L.length (i * 2 + 1) (some (.row L.length 2 (L.flatMap encP_) t)) = some (.sl 1 (nth L i).2.1 0 0 (nth L i).2.2.length, H) := fun t => by
      have hlt : i * 2 + 1 < (L.flatMap encP_).length := by rw [encP_len]; omega
      simp only [ldR, hlt, and_self, if_true, nth_encP L i hi]
    have hob2 : (objCells H (nth L i).2.1 0).isSome = true := by simp [objCells, h3]
    have g1 : (k : Int) < ((nth L i).2.2.length : Int) := by omega
    have hia2 : iaddrK H 1 (.sl 1 (nth L i).2.1 0 0 (nth L i).2.2.length) (.int .i64 (k : Int)) = some (.ref (nth L i).2.1 0 (0 + k * 1), H) := by
      have := iaddrK_sl H 1 (nth L i).2.1 0 0 (nth L i).2.2.length .i64 (k : Int) (by omega) (by omega) hob2
      rw [Int.toNat_natCast] at this
      exact this
    obtain ⟨v, hv⟩ : ∃ v : UInt8, v = nth d k + 1 := ⟨_, rfl⟩
    have wv : IntKind.u8.wrap (((nth d k).toNat : Int) + 1) = (v.toNat : Int) := by
      have := (nth d k).toNat_lt
      rw [hv, UInt8.toNat_add]
      show IntKind.u8.wrap _ = (((nth d k).toNat + 1) % 256 : Nat)
      by_cases c : (nth d k).toNat = 255
      · rw [c]; rfl
      · rw [wu8 (by omega) (by omega)]; omega
    have hkd : k < d.length := by omega
    have wk : IntKind.i64.wrap ((k : Int) + 1) = ((k + 1 : Nat) : Int) := by rw [w64 (by omega) (by omega)]; omega
    obtain ⟨H', hH'⟩ := ih (k + 1) (by omega) (H.set (nth L i).2.1 (.row 0 1 ((d.set k v).map by8) 5)) (Inv.set ⟨h0, hx⟩ _ h1 d _ h3 (by simp))
    refine ⟨H', ?_⟩
    have hldd := fun h l t => ldR_by8 h l 0 k d t hkd
    have hst := fun h l t => stR_by8 h l 0 k d v t hkd
    rw [← hH', L3_0_go]
    clear hH' hout ih
    generalize (nth L i).2.1 = kk at *
    generalize (nth L i).2.2.length = m at *
    simp only [rowP] at h0
    simp (disch := first | omega | (simp only [List.length_cons, List.length_nil, List.length_append, List.length_map, List.length_set]; omega) | rfl | (simp only [List.length_cons, List.length_nil, List.length_append, List.length_map, List.length_set, List.length_replicate, List.all_cons, List.all_nil, List.all_append, storable, plainB, Bool.and_self]; done)) only [go_sem, reduceCtorEq, ↓reduceIte, reduceDIte, evI_callP, callPK_some, B3_0, T3_0, L3_0_lp, h0, h3, hia, hld, hob2, hia2, hldd, hst, wv, wk, g1]
theorem mut_out (b : List UInt8) (hb : b.length ≤ 1048576) (L : List Opl) (hL : L.length ≤ 1048576) (hlen : ∀ x ∈ L, x.2.2.length ≤ 1048576) :
    ∀ (n i : Nat), i + n = L.length → ∀ H, Inv H L → ∃ H', T3_1 E (lp E L3_1 [(0, bs false b), (3, bs false b), (4, .sl 2 0 L.length 0 L.length), (8, .int .i64 (i : Int))] H) = some (.bool true, H') := by
  intro n
  induction n with
  | zero =>
    intro i hi H hI
    refine ⟨H, ?_⟩
    have hob : (objCells H 0 L.length).isSome = true := by simp [objCells, hI.1]
    have g1 : ¬ (i : Int) < (L.length : Int) := by omega
    have q := fun g g' => s10 g g' b b (by omega)
    simp only [decide_true] at q
    rw [L3_1_go]
    have h0 := hI.1
    simp only [rowP] at h0
    simp (disch := first | omega | (simp only [List.length_cons, List.length_nil, List.length_append, List.length_map, List.length_set]; omega) | rfl | (simp only [List.length_cons, List.length_nil, List.length_append, List.length_map, List.length_set, List.length_replicate, List.all_cons, List.all_nil, List.all_append, storable, plainB, Bool.and_self]; done)) only [go_sem, reduceCtorEq, ↓reduceIte, reduceDIte, evI_callP, callPK_some, B3_1, T3_1, h0, g1, q]
  | succ n ih =>
    intro i hi H hI
    have hin : i < L.length := by omega
    obtain ⟨H', hH'⟩ := mut_in b L hL i hin (hlen _ (nth_mem hin)) (fun H hI => ih (i + 1) (by omega) H hI) (nth L i).2.2.length 0 (by omega) H hI
    refine ⟨H', ?_⟩
    have hob : (objCells H 0 L.length).isSome = true := by simp [objCells, hI.1]
    have g1 : (i : Int) < (L.length : Int) := by omega
    rw [← hH', L3_1_go]
    have h0 := hI.1
    simp only [rowP] at h0
    simp (disch := first | omega | (simp only [List.length_cons, List.length_nil, List.length_append, List.length_map, List.length_set]; omega) | rfl | (simp only [List.length_cons, List.length_nil, List.length_append, List.length_map, List.length_set, List.length_replicate, List.all_cons, List.all_nil, List.all_append, storable, plainB, Bool.and_self]; done)) only [go_sem, reduceCtorEq, ↓reduceIte, reduceDIte, evI_callP, callPK_some, B3_1, T3_0, L3_0_lp, h0, g1]
theorem parseO_small : ∀ (n : Nat) (b : List UInt8), b.length ≤ n → ∀ l, parseO b = some l → l.length ≤ b.length ∧ ∀ o ∈ l, o.2.length ≤ 255
  | n, [], hn, l, h => by simp [parseO] at h
  | 0, c :: r, hn, l, h => by simp at hn
  | n + 1, c :: r, hn, l, h => by
    have hr : r.length ≤ n := by simpa using hn
    by_cases h1 : c = 255
    · rw [h1, parseO_end] at h
      injection h with h
      subst h
      exact ⟨Nat.zero_le _, fun o ho => by cases ho⟩
    by_cases h0 : c = 0
    · rw [h0, parseO_pad] at h
      obtain ⟨k1, k2⟩ := parseO_small n r hr l h
      exact ⟨by rw [List.length_cons]; omega, k2⟩
    rw [parseO_take (c :: r) c r rfl h1 h0] at h
    cases ht : takeO (c :: r) with
    | none => rw [ht] at h; cases h
    | some p =>
      obtain ⟨o, r'⟩ := p
      rw [ht] at h
      have hl := takeO_len ht
      rw [List.length_cons] at hl
      cases hp : parseO r' with
      | none => simp only [hp] at h; cases h
      | some l' =>
        simp only [hp, Option.map_some] at h
        injection h with h
        subst h
        obtain ⟨k1, k2⟩ := parseO_small n r' (by omega) l' hp
        refine ⟨by rw [List.length_cons, List.length_cons]; omega, fun x hx => ?_⟩
        rcases List.mem_cons.1 hx with hx | hx
        · rw [hx]; exact hl.2
        · exact k2 x hx
theorem law3 (b : List UInt8) : pcall E 3 [bs false b] = some (.bool true, []) := by
  rw [pcall_go (fn := I3) rfl rfl rfl]
  have hk : E.keep 3 = false := rfl
  by_cases hb : 3000 < b.length
  · have hb' : (3000 : Int) < (b.length : Int) := by omega
    simp (disch := first | omega | (simp only [List.length_cons, List.length_nil, List.length_append, List.length_map, List.length_set]; omega) | rfl | (simp only [List.length_cons, List.length_nil, List.length_append, List.length_map, List.length_set, List.length_replicate, List.all_cons, List.all_nil, List.all_append, storable, plainB, Bool.and_self]; done)) only [go_sem, reduceCtorEq, ↓reduceIte, reduceDIte, evI_callP, callPK_some, I3, hk, s4, hb']
  have hb' : ¬ (3000 : Int) < (b.length : Int) := by omega
  have q1 := fun g => s5 g b (by omega)
  have q2 := fun g => s7 g b (by omega)
  have qs := fun g g' => s10 g g' b b (by omega)
  simp only [decide_true] at qs
  obtain ⟨V, h', m1, m2, m3⟩ := m6 false b (by omega)
  cases hp : parseO b with
  | none =>
    rw [m2 hp] at m1
    rw [hp] at q2
    simp only [parseR] at q2
    have q3 := fun g => s9 g [] ⟨Nat.zero_le _, fun o ho => by cases ho⟩
    have q4 := fun g g' => s8 g g' [] [] (Nat.zero_le _)
    simp only [decide_true, opts, recs, List.map_nil] at q3 q4
    simp (disch := first | omega | (simp only [List.length_cons, List.length_nil, List.length_append, List.length_map, List.length_set]; omega) | rfl | (simp only [List.length_cons, List.length_nil, List.length_append, List.length_map, List.length_set, List.length_replicate, List.all_cons, List.all_nil, List.all_append, storable, plainB, Bool.and_self]; done)) only [go_sem, reduceCtorEq, ↓reduceIte, reduceDIte, evI_callP, callPK_some, I3, hk, s4, hb', q1, q2, q3, q4, qs, m1, L3_1_lp, L3_1_go, B3_1]
  | some l =>
    obtain ⟨L, k1, k2, k3, k4⟩ := m3 l hp
    obtain ⟨p1, p2⟩ := parseO_small b.length b (Nat.le_refl _) l hp
    have hLl : L.length = l.length := by rw [← k4, List.length_map]
    rw [k1] at m1
    rw [hp] at q2
    simp only [parseR] at q2
    have hsm : small l := ⟨by omega, fun o ho => by have := p2 o ho; omega⟩
    have q3 := fun g g1 => sg9 g g1 l hsm
    have q4 := fun g g' => s8 g g' l l (by omega)
    simp only [decide_true] at q4
    have hsn := fun g => sn_P g h' 6 L.length L.length L 35 k2 rfl k3
    rw [k4] at hsn
    have hlen : ∀ x ∈ L, x.2.2.length ≤ 1048576 := fun x hx => by
      have : ofP x ∈ l := by rw [← k4]; exact List.mem_map_of_mem hx
      have := p2 _ this
      show (ofP x).2.length ≤ _
      omega
    obtain ⟨H', hH'⟩ := mut_out b (by omega) L (by omega) hlen L.length 0 (by omega) h' (Good.inv k2 k3)
    simp only [Int.natCast_zero] at hH'
    obtain ⟨z, hz⟩ : ∃ z, z = lp E L3_1 [(0, bs false b), (3, bs false b), (4, .sl 2 0 L.length 0 L.length), (8, .int .i64 0)] h' := ⟨_, rfl⟩
    rw [← hz] at hH'
    simp only [T3_1] at hH'
    simp (disch := first | omega | (simp only [List.length_cons, List.length_nil, List.length_append, List.length_map, List.length_set]; omega) | rfl | (simp only [List.length_cons, List.length_nil, List.length_append, List.length_map, List.length_set, List.length_replicate, List.all_cons, List.all_nil, List.all_append, storable, plainB, Bool.and_self]; done)) only [go_sem, reduceCtorEq, ↓reduceIte, reduceDIte, evI_callP, callPK_some, I3, hk, s4, hb', q1, q2, q3, q4, hsn, m1, onoG, L3_1_lp, ← hz]
    exact (congrArg (Option.bind · (finish false)) hH').trans (by simp only [go_sem, reduceCtorEq, ↓reduceIte, reduceDIte, evI_callP, callPK_some])
theorem end3 (xs : List AV) (hl : xs.length = [22].length) (h : ∀ (j : Nat) t x, ([22] : List TypeId)[j]? = some t → xs[j]? = some x → Arg Try.prog t x) : pcall E 3 xs = some (.bool true, []) := by
  match xs, hl with
  | [x0], _ =>
    obtain ⟨l, rfl, _⟩ := bytes_arg (h 0 _ x0 rfl rfl)
    exact law3 l
end Go.Fw.Wd
