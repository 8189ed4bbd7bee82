/-
  Options and what the document's functions answer of them. Conditions: stated at each.
-/
import Derived.Test.YtijjehobflgalaaWdAt
set_option linter.unusedVariables false
set_option linter.unusedSimpArgs false
namespace Go.Fw.Wd
open Go.Proofs Code_

/-- An option: its code, its data. -/
abbrev Opt := UInt8 × List UInt8
def encO (o : Opt) : List AV := [.int .u8 (o.1.toNat : Int), bs false o.2]
theorem encO_eq (o : Opt) : encO o = [.int .u8 (o.1.toNat : Int), bs false o.2] := rfl
theorem encO_mk (c : UInt8) (d : List UInt8) : encO (c, d) = [.int .u8 (c.toNat : Int), bs false d] := rfl
theorem fopt : FlatN 2 encO := ⟨fun _ => rfl, fun _ => rfl, fun _ => rfl, fun o => by simp [encO, noG.noGL, noG, noGL_by8], by omega⟩
abbrev opts (g : Bool) (l : List Opt) : AV := recs g 2 encO l
theorem onoG (l : List Opt) : noG.noGL (l.map fun a => AV.agg (encO a)) = true := fopt.noGL l
abbrev rowO (ver : Nat) (l : List Opt) (t : TypeId) : AObj := .row ver 2 (rcs encO l) t
/-- The option at the beginning of bytes, and what is behind it. -/
def takeO : List UInt8 → Option (Opt × List UInt8)
  | c :: n :: r => if n.toNat ≤ r.length then some ((c, r.take n.toNat), r.drop n.toNat) else none
  | _ => none
theorem s64_1 : S64 1 := by constructor <;> omega
theorem s64_0 : S64 0 := by constructor <;> omega
theorem takeO_short {l : List UInt8} (h : l.length < 2) : takeO l = none := by
  match l, h with
  | [], _ => rfl
  | [c], _ => rfl
  | c :: n :: r, h => simp at h; omega
theorem takeO_long (c n : UInt8) (r : List UInt8) : takeO (c :: n :: r) = if n.toNat ≤ r.length then some ((c, r.take n.toNat), r.drop n.toNat) else none := rfl
/-- The options of bytes. -/
def parseO : List UInt8 → Option (List Opt)
  | [] => none
  | c :: r => if c = 255 then some [] else if c = 0 then parseO r else
      match r with
      | [] => none
      | n :: r' => if n.toNat ≤ r'.length then (parseO (r'.drop n.toNat)).map ((c, r'.take n.toNat) :: ·) else none
termination_by l => l.length
decreasing_by
  · simp
  · simp; omega
theorem parseO_end (r : List UInt8) : parseO (255 :: r) = some [] := by rw [parseO.eq_def]; simp
theorem parseO_pad (r : List UInt8) : parseO (0 :: r) = parseO r := by rw [parseO.eq_def]; simp
theorem parseO_take (l : List UInt8) (c : UInt8) (r : List UInt8) (hl : l = c :: r) (h1 : c ≠ 255) (h0 : c ≠ 0) : parseO l = match takeO l with
    | some (o, r') => (parseO r').map (o :: ·)
    | none => none := by
  subst hl
  rw [parseO.eq_def]
  simp only [h1, h0, if_false]
  cases r with
  | nil => rfl
  | cons n r' =>
    simp only [takeO]
    by_cases h : n.toNat ≤ r'.length
    · simp only [h, if_true]
    · simp only [h, if_false]
theorem takeO_len {l : List UInt8} {o : Opt} {r : List UInt8} (h : takeO l = some (o, r)) : r.length + o.2.length + 2 = l.length ∧ o.2.length ≤ 255 := by
  match l, h with
  | [], h => cases h
  | [c], h => cases h
  | c :: n :: r', h =>
    simp only [takeO] at h
    split at h
    · rename_i hn
      injection h with h
      injection h with h1 h2
      subst h1; subst h2
      have := n.toNat_lt
      simp only [List.length_drop, List.length_take, List.length_cons]
      omega
    · cases h
/-- What Parse answers, with what was read before. -/
def parseV (acc : List Opt) : Option (List Opt) → AV
  | some l => .tup [.sl 2 0 (acc ++ l).length 0 (acc ++ l).length, .int .i64 0]
  | none => .tup [.rs false 2 [], .int .i64 12]
theorem nu8 (a b : UInt8) : (((a.toNat : Nat) : Int) = (b.toNat : Int)) = (a = b) := propext (by8_neq a b)
theorem ff_eq (c : UInt8) : ((c.toNat : Int) = 255) ↔ c = 255 := by
  rw [← UInt8.toNat_inj]
  show _ ↔ c.toNat = 255
  omega
theorem zz_eq (c : UInt8) : ((c.toNat : Int) = 0) ↔ c = 0 := by
  rw [← UInt8.toNat_inj]
  show _ ↔ c.toNat = 0
  omega
/-- What Parse hands back. -/
def parseR : Option (List Opt) → AV
  | some l => .tup [opts false l, .int .i64 0]
  | none => .tup [.rs false 2 [], .int .i64 12]
theorem parse_loop2 (g : Bool) (b : List UInt8) (hbb : b.length ≤ 1048576) : ∀ (n i : Nat), i ≤ b.length → b.length - i ≤ n → ∀ (acc : List Opt) (junk : Heap), acc.length + (b.length - i) ≤ 1048576 →
    ∃ h', T7_0 E (lp E L7_0 [(0, bs g b), (4, .sl 2 0 acc.length 0 acc.length), (5, .int .i64 i)] (rowO acc.length acc 50 :: junk)) = some (parseV acc (parseO (b.drop i)), h') ∧ ∀ l, parseO (b.drop i) = some l → h'[0]? = some (rowO (acc ++ l).length (acc ++ l) 50)
  | n, i, hi, hn, acc, junk, ha => by
    by_cases hii : i = b.length
    · subst hii
      refine ⟨rowO acc.length acc 50 :: junk, ?_, fun l hl => by simp [parseO] at hl⟩
      have e : parseO (b.drop b.length) = none := by rw [List.drop_length, parseO]
      rw [L7_0_go, e]
      simp (disch := first | omega | (simp only [List.length_cons, List.length_nil, List.length_append, List.length_map, List.length_set]; omega) | rfl | (simp only [List.length_cons, List.length_nil, List.length_append, List.length_map, List.length_set, List.length_replicate, List.all_cons, List.all_nil, List.all_append, storable, plainB, Bool.and_self]; done)) only [go_sem, reduceCtorEq, ↓reduceIte, reduceDIte, evI_callP, callPK_some, B7_0, T7_0, parseV, rowO, Int.lt_irrefl]
    match n, hn with
    | 0, hn => omega
    | n + 1, hn =>
    have hlt : i < b.length := by omega
    have g1 : (i : Int) < b.length := by omega
    have hd := drop_nth b i hlt
    have tn : (i : Int).toNat = i := by omega
    obtain ⟨c, hc⟩ : ∃ c, c = nth b i := ⟨_, rfl⟩
    rw [← hc] at hd
    by_cases h1 : c = 255
    · have e : parseO (b.drop i) = some [] := by rw [hd, h1]; exact parseO_end _
      refine ⟨rowO acc.length acc 50 :: junk, ?_, fun l hl => ?_⟩
      · rw [L7_0_go, e]
        have h1' := (ff_eq c).2 h1
        simp (disch := first | omega | (simp only [List.length_cons, List.length_nil, List.length_append, List.length_map, List.length_set]; omega) | rfl | (simp only [List.length_cons, List.length_nil, List.length_append, List.length_map, List.length_set, List.length_replicate, List.all_cons, List.all_nil, List.all_append, storable, plainB, Bool.and_self]; done)) only [go_sem, reduceCtorEq, ↓reduceIte, reduceDIte, evI_callP, callPK_some, B7_0, T7_0, parseV, rowO, g1, tn, ← hc, h1']
      · rw [e] at hl
        injection hl with hl
        subst hl
        simp
    have h1' : ¬ (c.toNat : Int) = 255 := fun h => h1 ((ff_eq c).1 h)
    by_cases h0 : c = 0
    · have e : parseO (b.drop i) = parseO (b.drop (i + 1)) := by rw [hd, h0]; exact parseO_pad _
      obtain ⟨h', i1, i2⟩ := parse_loop2 g b hbb n (i + 1) (by omega) (by omega) acc junk (by omega)
      refine ⟨h', ?_, fun l hl => i2 l (by rw [← e]; exact hl)⟩
      rw [L7_0_go, e]
      have h0' := (zz_eq c).2 h0
      rw [← i1]
      simp (disch := first | omega | (simp only [List.length_cons, List.length_nil, List.length_append, List.length_map, List.length_set]; omega) | rfl | (simp only [List.length_cons, List.length_nil, List.length_append, List.length_map, List.length_set, List.length_replicate, List.all_cons, List.all_nil, List.all_append, storable, plainB, Bool.and_self]; done)) only [go_sem, reduceCtorEq, ↓reduceIte, reduceDIte, evI_callP, callPK_some, B7_0, L7_0_lp, rowO, g1, tn, ← hc, h1', h0', Int.reduceEq]
    have h0' : ¬ (c.toNat : Int) = 0 := fun h => h0 ((zz_eq c).1 h)
    have e := parseO_take (b.drop i) c _ hd h1 h0
    by_cases h2 : i + 1 < b.length
    · have hd2 := drop_nth b (i + 1) h2
      rw [hd2] at hd
      have tn2 : ((i : Int) + 1).toNat = i + 1 := by omega
      have g2 : ¬ (b.length : Int) ≤ (i : Int) + 1 := by omega
      obtain ⟨m, hm⟩ : ∃ m, m = nth b (i + 1) := ⟨_, rfl⟩
      rw [← hm] at hd
      have et := takeO_long c m (b.drop (i + 2))
      rw [← hd] at et
      have hml := m.toNat_lt
      by_cases h3 : m.toNat ≤ (b.drop (i + 2)).length
      · rw [if_pos h3] at et
        rw [et] at e
        simp only at e
        rw [List.length_drop] at h3
        have g3 : ¬ (b.length : Int) < (i : Int) + 2 + m.toNat := by omega
        rw [List.drop_drop] at e
        obtain ⟨h', i1, i2⟩ := parse_loop2 g b hbb n (i + 2 + m.toNat) (by omega) (by omega) (acc ++ [(c, (b.drop (i + 2)).take m.toNat)]) (junk ++ [.gone]) (by simp; omega)
        have hsl : (((i : Int) + 2 + m.toNat).toNat - (i + 2)) = m.toNat := by omega
        have hsl2 : ((i : Int) + 2).toNat = i + 2 := by omega
        have hsum : (i : Int) + (2 + (m.toNat : Int)) = (i : Int) + 2 + m.toNat := by omega
        have hln : ((b.drop (i + 2)).take m.toNat).length = m.toNat := by rw [List.length_take, List.length_drop]; omega
        have hap := fun h => fopt.app1 h 32 50 0 acc.length acc.length acc (c, (b.drop (i + 2)).take m.toNat) rfl (by omega) (by omega)
        simp only [encO_mk] at hap
        refine ⟨h', ?_, fun l hl => ?_⟩
        · rw [L7_0_go]
          have ev : parseV acc (parseO (b.drop i)) = parseV (acc ++ [(c, (b.drop (i + 2)).take m.toNat)]) (parseO (b.drop (i + 2 + m.toNat))) := by
            rw [e]
            cases parseO (b.drop (i + 2 + m.toNat)) with
            | none => rfl
            | some l => simp [parseV]
          rw [ev, ← i1]
          simp (disch := first | omega | (simp only [List.length_cons, List.length_nil, List.length_append, List.length_map, List.length_set]; omega) | rfl | (simp only [List.length_cons, List.length_nil, List.length_append, List.length_map, List.length_set, List.length_replicate, List.all_cons, List.all_nil, List.all_append, storable, plainB, Bool.and_self]; done)) only [go_sem, reduceCtorEq, ↓reduceIte, reduceDIte, evI_callP, callPK_some, B7_0, L7_0_lp, rowO, g1, g2, g3, tn, tn2, ← hc, ← hm, h1', h0', wbi, hsl, hsl2, hln, hap, hsum]
        · rw [e] at hl
          cases hr : parseO (b.drop (i + 2 + m.toNat)) with
          | none => rw [hr] at hl; cases hl
          | some l' =>
            rw [hr] at hl
            injection hl with hl
            subst hl
            have := i2 l' hr
            simpa using this
      · rw [if_neg h3] at et
        rw [et] at e
        simp only at e
        rw [List.length_drop] at h3
        have g3 : (b.length : Int) < (i : Int) + 2 + m.toNat := by omega
        refine ⟨rowO acc.length acc 50 :: junk, ?_, fun l hl => by rw [e] at hl; cases hl⟩
        rw [L7_0_go, e]
        simp (disch := first | omega | (simp only [List.length_cons, List.length_nil, List.length_append, List.length_map, List.length_set]; omega) | rfl | (simp only [List.length_cons, List.length_nil, List.length_append, List.length_map, List.length_set, List.length_replicate, List.all_cons, List.all_nil, List.all_append, storable, plainB, Bool.and_self]; done)) only [go_sem, reduceCtorEq, ↓reduceIte, reduceDIte, evI_callP, callPK_some, B7_0, T7_0, parseV, rowO, g1, g2, g3, tn, tn2, ← hc, ← hm, h1', h0', wbi]
    · have hd2 : b.drop (i + 1) = [] := List.drop_of_length_le (by omega)
      rw [hd2] at hd
      have et : takeO (b.drop i) = none := by rw [hd]; rfl
      rw [et] at e
      simp only at e
      have g2 : (b.length : Int) ≤ (i : Int) + 1 := by omega
      refine ⟨rowO acc.length acc 50 :: junk, ?_, fun l hl => by rw [e] at hl; cases hl⟩
      rw [L7_0_go, e]
      simp (disch := first | omega | (simp only [List.length_cons, List.length_nil, List.length_append, List.length_map, List.length_set]; omega) | rfl | (simp only [List.length_cons, List.length_nil, List.length_append, List.length_map, List.length_set, List.length_replicate, List.all_cons, List.all_nil, List.all_append, storable, plainB, Bool.and_self]; done)) only [go_sem, reduceCtorEq, ↓reduceIte, reduceDIte, evI_callP, callPK_some, B7_0, T7_0, parseV, rowO, g1, g2, tn, ← hc, h1', h0', wbi]
theorem s7 (g : Bool) (b : List UInt8) (hb : b.length ≤ 1048576) : pcall E 7 [bs g b] = some (parseR (parseO b), []) := by
  rw [pcall_go (fn := I7) rfl rfl rfl]
  have hk : E.keep 7 = false := rfl
  obtain ⟨h', i1, i2⟩ := parse_loop2 g b hb b.length 0 (Nat.zero_le _) (by omega) [] [] (by simp; omega)
  rw [List.drop_zero] at i1 i2
  have key : (T7_0 E (lp E L7_0 [(0, bs g b), (4, .sl 2 0 0 0 0), (5, .int .i64 0)] [.row 0 2 [] 50])).bind (finish false) = some (parseR (parseO b), []) := by
    rw [show T7_0 E (lp E L7_0 [(0, bs g b), (4, .sl 2 0 0 0 0), (5, .int .i64 0)] [.row 0 2 [] 50]) = _ from i1]
    cases hp : parseO b with
    | none => simp only [go_sem, reduceCtorEq, ↓reduceIte, reduceDIte, evI_callP, callPK_some, parseV, parseR]
    | some l =>
      have h0 := i2 l hp
      have hs := fopt.sn false h' 6 0 l.length l.length l 50 h0 rfl
      simp only [go_sem, reduceCtorEq, ↓reduceIte, reduceDIte, evI_callP, callPK_some, parseV, parseR, hs]
  rw [← key]
  simp (disch := first | omega | (simp only [List.length_cons, List.length_nil, List.length_append, List.length_map, List.length_set]; omega) | rfl | (simp only [List.length_cons, List.length_nil, List.length_append, List.length_map, List.length_set, List.length_replicate, List.all_cons, List.all_nil, List.all_append, storable, plainB, Bool.and_self]; done)) only [go_sem, reduceCtorEq, ↓reduceIte, reduceDIte, evI_callP, callPK_some, I7, hk, L7_0_lp]
  rfl
theorem olen (l : List Opt) : (l.map fun a => AV.agg (encO a)).length = l.length := List.length_map _
def small (l : List Opt) : Prop := l.length ≤ 1048576 ∧ ∀ o ∈ l, o.2.length ≤ 1048576
theorem nth_mem {α : Type} [Inhabited α] {l : List α} {i : Nat} (h : i < l.length) : nth l i ∈ l := by rw [nth_get l i h]; exact List.getElem_mem h
theorem lp9 (g : Bool) (l : List Opt) (hl : small l) : ∀ (n i : Nat), i + n = l.length → (T9_0 E (lp E L9_0 [(0, opts g l), (3, .sl 2 0 i 0 i), (4, .int .i64 i)] [rowO i (l.take i) 50])) = some (.sl 2 0 l.length 0 l.length, [rowO l.length l 50])
  | 0, i, hi => by
    have e : i = l.length := by omega
    subst e
    rw [List.take_length, L9_0_go]
    simp (disch := first | omega | (simp only [List.length_cons, List.length_nil, List.length_append, List.length_map, List.length_set]; omega) | rfl | (simp only [List.length_cons, List.length_nil, List.length_append, List.length_map, List.length_set, List.length_replicate, List.all_cons, List.all_nil, List.all_append, storable, plainB, Bool.and_self]; done)) only [go_sem, reduceCtorEq, ↓reduceIte, reduceDIte, evI_callP, callPK_some, B9_0, T9_0, olen, Int.lt_irrefl]
  | n + 1, i, hi => by
    have g1 : (i : Int) < l.length := by omega
    have hl1 := hl.1
    have hle := hl.2 _ (nth_mem (show i < l.length by omega))
    have ia := fun h => fopt.iaddr h g l .i64 (i : Int) (by omega) (by omega)
    have ih := lp9 g l hl n (i + 1) (by omega)
    have q := fun g => s5 g (nth l i).2 (by omega)
    have ht : l.take i ++ [nth l i] = l.take (i + 1) := by rw [List.take_succ_eq_append_getElem (by omega), nth_get l i (by omega)]
    have htl : (l.take i).length = i := by rw [List.length_take]; omega
    have hap := fun h => fopt.app1 h 32 50 0 i i (l.take i) (nth l i) htl (by omega) (by omega)
    rw [ht] at hap
    rw [L9_0_go, ← ih]
    simp only [Int.toNat_natCast, encO_eq] at ia hap
    simp (disch := first | omega | (simp only [List.length_cons, List.length_nil, List.length_append, List.length_map, List.length_set]; omega) | rfl | (simp only [List.length_cons, List.length_nil, List.length_append, List.length_map, List.length_set, List.length_replicate, List.all_cons, List.all_nil, List.all_append, storable, plainB, Bool.and_self]; done)) only [go_sem, reduceCtorEq, ↓reduceIte, reduceDIte, evI_callP, callPK_some, B9_0, L9_0_lp, g1, ia, q, hap, olen]
theorem s9 (g : Bool) (l : List Opt) (hl : small l) : pcall E 9 [opts g l] = some (opts false l, []) := by
  rw [pcall_go (fn := I9) rfl rfl rfl]
  have hk : E.keep 9 = false := rfl
  have i1 := lp9 g l hl l.length 0 (by omega)
  simp (disch := first | omega | (simp only [List.length_cons, List.length_nil, List.length_append, List.length_map, List.length_set]; omega) | rfl | (simp only [List.length_cons, List.length_nil, List.length_append, List.length_map, List.length_set, List.length_replicate, List.all_cons, List.all_nil, List.all_append, storable, plainB, Bool.and_self]; done)) only [go_sem, reduceCtorEq, ↓reduceIte, reduceDIte, evI_callP, callPK_some, I9, hk, L9_0_lp]
  have hs := fopt.sn false [rowO l.length l 50] 7 0 l.length l.length l 50 rfl rfl
  exact (congrArg (Option.bind · (finish false)) i1).trans (by simp only [go_sem, reduceCtorEq, ↓reduceIte, reduceDIte, evI_callP, callPK_some, hs])
def sameO : List Opt → List Opt → Bool
  | o :: l, p :: m => decide (o = p) && sameO l m
  | _, _ => true
theorem opt_eq (o p : Opt) : (o = p) ↔ o.1 = p.1 ∧ o.2 = p.2 := Prod.ext_iff
theorem sameO_eq : ∀ (l m : List Opt), l.length = m.length → (sameO l m = true ↔ l = m)
  | [], [], _ => by simp [sameO]
  | o :: l, p :: m, h => by
    have := sameO_eq l m (by simpa using h)
    simp [sameO, this]
  | [], _ :: _, h => by simp at h
  | _ :: _, [], h => by simp at h
theorem same_loop2 (g g' : Bool) (l m : List Opt) (hl : l.length ≤ 1048576) (hm : l.length = m.length) : ∀ (n i : Nat), i + n = l.length → (T8_0 E (lp E L8_0 [(0, opts g l), (1, opts g' m), (5, .int .i64 i)] [])) = some (.bool (sameO (l.drop i) (m.drop i)), [])
  | 0, i, hi => by
    have e : l.drop i = [] := List.drop_of_length_le (by omega)
    have g1 : ¬ (i : Int) < l.length := by omega
    rw [e, L8_0_go]
    simp (disch := first | omega | (simp only [List.length_cons, List.length_nil, List.length_append, List.length_map, List.length_set]; omega) | rfl | (simp only [List.length_cons, List.length_nil, List.length_append, List.length_map, List.length_set, List.length_replicate, List.all_cons, List.all_nil, List.all_append, storable, plainB, Bool.and_self]; done)) only [go_sem, reduceCtorEq, ↓reduceIte, reduceDIte, evI_callP, callPK_some, B8_0, T8_0, g1, sameO, olen]
  | n + 1, i, hi => by
    have g1 : (i : Int) < l.length := by omega
    have hd := drop_nth l i (by omega)
    have hd2 := drop_nth m i (by omega)
    have ia := fun h => fopt.iaddr h g l .i64 (i : Int) (by omega) (by omega)
    have ib := fun h => fopt.iaddr h g' m .i64 (i : Int) (by omega) (by omega)
    have ih := same_loop2 g g' l m hl hm n (i + 1) (by omega)
    rw [hd, hd2, sameO, L8_0_go]
    simp only [Int.toNat_natCast, encO_eq] at ia ib
    have e := nu8 (nth l i).1 (nth m i).1
    by_cases h : (nth l i).1 = (nth m i).1
    · have h' : (((nth l i).1.toNat : Int) = (nth m i).1.toNat) := by rw [h]
      by_cases h2 : (nth l i).2 = (nth m i).2
      · have e2 : decide (nth l i = nth m i) = true := by simp [opt_eq, h, h2]
        rw [e2, Bool.true_and, ← ih]
        simp (disch := first | omega | (simp only [List.length_cons, List.length_nil, List.length_append, List.length_map, List.length_set]; omega) | rfl | (simp only [List.length_cons, List.length_nil, List.length_append, List.length_map, List.length_set, List.length_replicate, List.all_cons, List.all_nil, List.all_append, storable, plainB, Bool.and_self]; done)) only [go_sem, reduceCtorEq, ↓reduceIte, reduceDIte, evI_callP, callPK_some, B8_0, L8_0_lp, g1, ia, ib, h', h2, olen]
      · have e2 : decide (nth l i = nth m i) = false := by simp [opt_eq, h, h2]
        rw [e2, Bool.false_and]
        simp (disch := first | omega | (simp only [List.length_cons, List.length_nil, List.length_append, List.length_map, List.length_set]; omega) | rfl | (simp only [List.length_cons, List.length_nil, List.length_append, List.length_map, List.length_set, List.length_replicate, List.all_cons, List.all_nil, List.all_append, storable, plainB, Bool.and_self]; done)) only [go_sem, reduceCtorEq, ↓reduceIte, reduceDIte, evI_callP, callPK_some, B8_0, T8_0, g1, ia, ib, h', h2, olen]
    · have h' : ¬ (((nth l i).1.toNat : Int) = (nth m i).1.toNat) := by rw [e]; exact h
      have e2 : decide (nth l i = nth m i) = false := by simp [opt_eq, h]
      rw [e2, Bool.false_and]
      simp (disch := first | omega | (simp only [List.length_cons, List.length_nil, List.length_append, List.length_map, List.length_set]; omega) | rfl | (simp only [List.length_cons, List.length_nil, List.length_append, List.length_map, List.length_set, List.length_replicate, List.all_cons, List.all_nil, List.all_append, storable, plainB, Bool.and_self]; done)) only [go_sem, reduceCtorEq, ↓reduceIte, reduceDIte, evI_callP, callPK_some, B8_0, T8_0, g1, ia, ib, h', olen]
theorem s8 (g g' : Bool) (l m : List Opt) (hl : l.length ≤ 1048576) : pcall E 8 [opts g l, opts g' m] = some (.bool (decide (l = m)), []) := by
  rw [pcall_go (fn := I8) rfl rfl rfl]
  have hk : E.keep 8 = false := rfl
  by_cases hm : l.length = m.length
  · have ih := same_loop2 g g' l m hl hm l.length 0 (by omega)
    rw [List.drop_zero, List.drop_zero, show sameO l m = decide (l = m) from by rw [Bool.eq_iff_iff, sameO_eq l m hm, decide_eq_true_eq]] at ih
    have hm2 : (l.length : Int) = m.length := by omega
    simp (disch := first | omega | (simp only [List.length_cons, List.length_nil, List.length_append, List.length_map, List.length_set]; omega) | rfl | (simp only [List.length_cons, List.length_nil, List.length_append, List.length_map, List.length_set, List.length_replicate, List.all_cons, List.all_nil, List.all_append, storable, plainB, Bool.and_self]; done)) only [go_sem, reduceCtorEq, ↓reduceIte, reduceDIte, evI_callP, callPK_some, I8, hk, L8_0_lp, olen, hm2]
    exact (congrArg (Option.bind · (finish false)) ih).trans (by simp only [go_sem, reduceCtorEq, ↓reduceIte, reduceDIte, evI_callP, callPK_some])
  · have hm2 : ¬ (l.length : Int) = m.length := by omega
    have e : decide (l = m) = false := by
      rw [decide_eq_false_iff_not]
      intro h
      exact hm (by rw [h])
    simp (disch := first | omega | (simp only [List.length_cons, List.length_nil, List.length_append, List.length_map, List.length_set]; omega) | rfl | (simp only [List.length_cons, List.length_nil, List.length_append, List.length_map, List.length_set, List.length_replicate, List.all_cons, List.all_nil, List.all_append, storable, plainB, Bool.and_self]; done)) only [go_sem, reduceCtorEq, ↓reduceIte, reduceDIte, evI_callP, callPK_some, I8, hk, olen, hm2, e]
theorem s4 : pcall E 4 [] = some (.bool true, []) := pcall_run 60 (by kernel_rfl)
end Go.Fw.Wd
