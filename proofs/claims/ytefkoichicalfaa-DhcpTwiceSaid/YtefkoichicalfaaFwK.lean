/-
  One operation at a time: slice literals, make, append, copy. Conditions: stated at each.
-/
import Derived.Test.YtefkoichicalfaaFwJ
import Derived.Test.YtefkoichicalfaaFwE
set_option linter.unusedVariables false
set_option linter.unusedSimpArgs false
set_option linter.unusedSectionVars false
namespace Go.Fw
open Go.RowKit (Below)

theorem RepF_flat {F : Forb} {w : World} {sz : Nat} : ∀ {l : List AV} {vs : List Value}, RepF l sz F w vs → (l.flatMap cellsOf).all storable = true → RepL (l.flatMap cellsOf) [] [] F w vs
  | [], vs, hr, _ => hr
  | x :: l, vs, hr, hall => by
    simp only [RepF] at hr
    obtain ⟨u, us, rfl, hz, hx, hl⟩ := hr
    simp only [List.flatMap_cons, List.all_append, Bool.and_eq_true] at hall ⊢
    exact (Rep.cells hall.1 hx).1.append (RepF_flat hl hall.2)

theorem RepF_of {F : Forb} {w : World} {sz : Nat} : ∀ {l : List AV} {vs : List Value}, (∀ x ∈ l, shapeOk (sz != 1) sz x = true ∧ hasOwn x = false) → ∀ {β : List Value} {h : Heap}, RepL (l.flatMap cellsOf) β h F w vs → (∀ u ∈ vs, u.oneCell' = true) → RepF l sz F w vs
  | [], vs, _, _, _, hr, _ => hr
  | x :: l, vs, hx, β, h, hr, h1 => by
    obtain ⟨hsh, hn⟩ := hx x (by simp)
    have hlen : (cellsOf x).length = sz := by cases x <;> simp_all [shapeOk, cellsOf]
    have hall : (cellsOf x).all storable = true := by cases x <;> simp_all [shapeOk, cellsOf, storable]
    rw [List.flatMap_cons] at hr
    have ht := hr.take (cellsOf x).length
    have hd := hr.drop (cellsOf x).length
    rw [List.take_left] at ht
    rw [List.drop_left] at hd
    rw [hlen] at ht hd
    have ih := RepF_of (fun y hy => hx y (by simp [hy])) hd (fun u hu => h1 u (List.mem_of_mem_drop hu))
    have hvl : (vs.take sz).length = sz := by rw [← ht.length, hlen]
    by_cases hag : ∃ cs, x = .agg cs
    · obtain ⟨cs, rfl⟩ := hag
      refine ⟨.agg (vs.take sz).toArray, vs.drop sz, by simp [Value.cells], by simpa [Value.cells] using hvl, ?_, ih⟩
      have : Rep (.agg cs) β h F w (.agg (vs.take sz).toArray) := ⟨_, rfl, ht, fun u hu => h1 u (List.mem_of_mem_take hu)⟩
      exact Rep.noOwn _ hn this
    · have hc : cellsOf x = [x] := by cases x <;> first | rfl | exact absurd ⟨_, rfl⟩ hag
      rw [hc] at ht hlen
      simp at hlen
      subst hlen
      simp only [RepL] at ht
      obtain ⟨u, us, hu, hxu, hus⟩ := ht
      subst hus
      have hu1 : u.oneCell' = true := h1 u (List.mem_of_mem_take (by rw [hu]; simp))
      refine ⟨u, vs.drop 1, ?_, by rw [cells_of_one hu1]; rfl, Rep.noOwn x hn hxu, ih⟩
      rw [cells_of_one hu1, ← hu, List.take_append_drop]

section
variable {P : Program} {Bad : Forb} {β : List Value} {h : Heap} {w : World} {a : Act} {s : Slots} {o : Oper}

/-- A slice from which cells are taken. -/
theorem src_cells (hh : HeapRel Bad β h w) {y : AV} {v : Value} (hr : Rep y β h (FOf Bad β) w v) {sz m : Nat} {ys : List AV} (hc : cellsIn h sz y = some ys) (hm : lenIn y = some m) (hall : ys.all storable = true) (hz : 0 < sz) :
    ∃ sa c us, v = .slice sa m c ∧ RepL ys β h (FOf Bad β) w us ∧ us.length = m * sz ∧ (∀ u ∈ us, u.oneCell' = true) ∧ ((sa = none ∧ m = 0 ∧ c = 0) ∨ (sa = none ∧ m = 0) ∨ ∃ ad, sa = some ad ∧ ∀ (j : Nat) (u : Value), us[j]? = some u → w.cell? (ad.add j) = some u) := by
  cases y <;> simp only [cellsIn, reduceCtorEq] at hc
  case nils =>
    injection hc with hc
    subst hc
    simp [lenIn] at hm
    subst hm
    simp only [Rep] at hr
    exact ⟨none, 0, [], hr, rfl, by simp, by simp, .inl ⟨rfl, rfl, rfl⟩⟩
  case rs g z l =>
    split at hc
    · rename_i hzz
      subst hzz
      injection hc with hc
      subst hc
      simp [lenIn] at hm
      subst hm
      simp only [Rep] at hr
      obtain ⟨sa, c, vs, rfl, hcap, _, hf, hro⟩ := hr
      have hl := hf.len
      refine ⟨sa, c, vs, rfl, RepL.ofNil _ (RepF_flat hf hall), hl, fun u hu => ?_, ?_⟩
      · obtain ⟨i, hi⟩ := List.mem_iff_getElem?.1 hu
        obtain ⟨_, _, _, _, h1⟩ := hro i u hi
        exact h1
      · cases sa with
        | none =>
          right; left
          refine ⟨rfl, ?_⟩
          cases vs with
          | nil =>
            have : l.length * z = 0 := by simpa using hl.symm
            rcases Nat.mul_eq_zero.1 this with h3 | h3
            · exact h3
            · omega
          | cons u us =>
            obtain ⟨_, h3, _⟩ := hro 0 u rfl
            cases h3
        | some ad =>
          right; right
          refine ⟨ad, rfl, fun j u hu => ?_⟩
          obtain ⟨ad', h3, _, h4, _⟩ := hro j u hu
          injection h3 with h3
          subst h3
          exact h4
    · cases hc
  case sl z l ver off n =>
    split at hc
    · rename_i hzz
      subst hzz
      simp [lenIn] at hm
      subst hm
      cases hv : objCells h l ver with
      | none => rw [hv] at hc; cases hc
      | some vs =>
        rw [hv] at hc
        simp only [Option.bind_some] at hc
        split at hc
        · rename_i hle
          injection hc with hc
          subst hc
          simp only [Rep] at hr
          obtain ⟨hl, _, hr⟩ := hr
          have hr := hr (by rw [hv]; rfl)
          obtain ⟨_, hor⟩ := own_cells hh hv
          have key : ∀ (b o' c : Nat), v = .slice (some ⟨b, o', none⟩) n c → n ≤ c → (o' = off ∨ c = 0) → blkOf (β.getD l default) = some b →
              ∃ sa c us, v = .slice sa n c ∧ RepL ((vs.drop off).take (n * z)) β h (FOf Bad β) w us ∧ us.length = n * z ∧ (∀ u ∈ us, u.oneCell' = true) ∧ ((sa = none ∧ n = 0 ∧ c = 0) ∨ (sa = none ∧ n = 0) ∨ ∃ ad, sa = some ad ∧ ∀ (j : Nat) (u : Value), us[j]? = some u → w.cell? (ad.add j) = some u) := by
            intro b o' c hveq hnc hoff hb
            rcases hor with ⟨h3, h4⟩ | ⟨b', arr, t', h3, h4, h5, h6, h7⟩
            · rw [h4] at hb; cases hb
            · rw [hb] at h3
              injection h3 with h3
              subst h3
              refine ⟨_, c, ((arr.toList.take vs.length).drop off).take (n * z), hveq, (h6.drop off).take _, ?_, fun u hu => h7 u (List.mem_of_mem_drop (List.mem_of_mem_take hu)), .inr (.inr ⟨_, rfl, fun j u hu => ?_⟩)⟩
              · have e5 : min vs.length arr.toList.length = vs.length := by rw [show arr.toList.length = arr.size from Array.length_toList]; omega
                rw [List.length_take, List.length_drop, List.length_take, e5]; omega
              · rcases hoff with hoff | hoff
                · subst hoff
                  rw [Addr.add_lit', cell_of_row w b (o' + j) arr t' (0, 0) h4]
                  simp only [List.getElem?_take, List.getElem?_drop] at hu
                  split at hu
                  · split at hu
                    · simpa using hu
                    · cases hu
                  · cases hu
                · subst hoff
                  have : n = 0 := by omega
                  subst this
                  simp at hu
          cases hbv : β.getD l default <;> rw [hbv] at hr key <;> simp only [SlRep] at hr
          case slice ad mm cc =>
            cases ad with
            | none =>
              simp only at hr
              obtain ⟨h3, h4⟩ := hr
              subst h3
              refine ⟨none, 0, [], h4, ?_, by simp, by simp, .inl ⟨rfl, rfl, rfl⟩⟩
              rw [Nat.zero_mul, List.take_zero]
              rfl
            | some ad =>
              simp only at hr
              obtain ⟨o', c, h3, h4, _, h5, _⟩ := hr
              exact key ad.block o' c h3 h4 h5 rfl
          case pointer ad =>
            cases ad with
            | none => simp only at hr
            | some ad =>
              simp only at hr
              obtain ⟨o', c, h3, h4, h5⟩ := hr
              exact key ad.block o' c h3 h4 h5 rfl
        · cases hc
    · cases hc

variable (hh : HeapRel Bad β h w) (hs : SlotsRep β h (FOf Bad β) w s a)
include hh hs

theorem sound_nilrow {y : Operand} (ho : o.op = .move y ∨ o.op = .assign y) (hc : isNilC y = true) {sz : Nat} (hz : 0 < sz) (t : TypeId) :
    OpSound P Bad β h w a o (.sl sz h.length 0 0 0) (h ++ [.row 0 sz [] t]) := by
  have hy : a.eval y = .slice none 0 0 := by
    unfold isNilC at hc
    split at hc
    · rfl
    · cases hc
  refine sound_value (v := .slice none 0 0) (w' := w) ?_ (Step.newRow hh (Below.refl _ w) hz (World.ownsRow_nil w w.heap.size t sz) rfl (by simp)) ?_
  · rcases ho with ho | ho <;> simp [execOp, ho, hy]
  · simp only [Rep]
    refine ⟨⟨by simp [hh.len], fut_new h _⟩, ⟨_, _, _, rfl⟩, fun _ => ?_⟩
    rw [← hh.len]
    simp [List.getD_eq_getElem?_getD, SlRep]

theorem sound_buildSl {t e : TypeId} {len : Nat} {parts : Array (Nat × Operand)} {sz : Nat} {els : List X} (ho : o.op = .buildSlice t len parts) (hu : P.underlying t = some (.slice e))
    {ie : TypeInfo} {z : Value} (hi : P.info? e = some ie) (hsz : ie.size = sz) (hzz : ie.zero = some z) (hz : 0 < sz) (hsmall : len * sz ≤ 16777216) (hidx : parts.toList.map (·.1) = List.range len) (hc : chkXs els (parts.toList.map (·.2)) = true)
    (hall : ∀ v ∈ els.map (X.ev s), (cellsOf v).length = sz ∧ (cellsOf v).all storable = true) :
    OpSound P Bad β h w a o (.sl sz h.length 0 0 els.length) (h ++ [.row 0 sz ((els.map (X.ev s)).flatMap cellsOf) e]) := by
  obtain ⟨arr, e1, rfl, e2, e3⟩ := buildSlice_run (P := P) hh hs ho hu hi hsz hzz hz hsmall hidx hc hall
  have hlen : arr.size = els.length * sz := by
    have h1 : ((els.map (X.ev s)).flatMap cellsOf).length = arr.size := by simpa using e2.length
    rw [← h1]
    clear e1 e2 e3 h1 hidx hc ho
    induction els with
    | nil => simp
    | cons x l ih =>
      simp only [List.map_cons, List.flatMap_cons, List.length_append, List.length_cons, Nat.succ_mul]
      rw [ih (fun v hv => hall v (by simp only [List.map_cons, List.mem_cons]; exact .inr hv)) (by simp only [List.length_cons, Nat.succ_mul] at hsmall; omega), (hall (x.ev s) (by simp)).1]
      omega
  have hown := World.ownsRow_lit (base := w.heap.size) (e := e) (size := sz) w arr els.length (Nat.le_refl _) (by
    have := Nat.le_trans (Nat.le_mul_of_pos_right els.length hz) hsmall
    simp only [maxLen]; omega) hlen
  exact sound_value e1 (Step.newRow hh (below_alloc w _) hz hown e2 e3) (rep_newRow hh _ _ rfl (Nat.le_refl _))

theorem sound_buildR {t e : TypeId} {len : Nat} {parts : Array (Nat × Operand)} {sz : Nat} {els : List X} (ho : o.op = .buildSlice t len parts) (hu : P.underlying t = some (.slice e))
    {ie : TypeInfo} {z : Value} (hi : P.info? e = some ie) (hsz : ie.size = sz) (hzz : ie.zero = some z) (hz : 0 < sz) (hsmall : len * sz ≤ 16777216) (hidx : parts.toList.map (·.1) = List.range len) (hc : chkXs els (parts.toList.map (·.2)) = true)
    (hall : ∀ v ∈ els.map (X.ev s), shapeOk (sz != 1) sz v = true ∧ hasOwn v = false) :
    OpSound P Bad β h w a o (.rs false sz (els.map (X.ev s))) h := by
  obtain ⟨arr, e1, rfl, e2, e3⟩ := buildSlice_run (P := P) hh hs ho hu hi hsz hzz hz hsmall hidx hc (fun v hv => by
    obtain ⟨h1, _⟩ := hall v hv
    constructor
    · cases v <;> simp_all [shapeOk, cellsOf]
    · cases v <;> simp_all [shapeOk, cellsOf, storable])
  have hbel := below_alloc w (.cells arr e)
  refine sound_value e1 (Step.quiet hh hbel) ?_
  have hf := RepF_of hall e2 e3
  have hok : Ok (FOf Bad β) w (FOf Bad β) (w.alloc (.cells arr e)) := fun g k hk hf _ => ⟨hf, hbel.block k hk⟩
  exact ⟨_, _, _, by rw [List.length_map], by simp, .inl hz, RepF.step hok _ hf, roAt_new hh e3 false⟩

theorem sound_mkSl {x y : Operand} {lx : X} {t e : TypeId} (ho : o.op = .makeSlice t x y) (hc : chkX lx x = true) (hc2 : chkX lx y = true) (hu : P.underlying t = some (.slice e)) {sz by_ : Nat}
    {ie : TypeInfo} {z : Value} (hi : P.info? e = some ie) (hsz : ie.size = sz) (hby : ie.bytes = by_) (hzz : ie.zero = some z) (hz : 0 < sz) {zero : List AV} (hzero : constOkL zero z.cells.toList = true) (hzl : zero.length = sz)
    {k : IntKind} {n : Int} (hn : lx.ev s = .int k n) (h0 : 0 ≤ n) (hb : n * by_ ≤ 140737488355328) (hm : n ≤ 140737488355328) :
    OpSound P Bad β h w a o (.sl sz h.length 0 0 n.toNat) (h ++ [.row 0 sz ((List.replicate n.toNat zero).flatten) e]) := by
  have h1 := X_rep hs hc
  have h2 := X_rep hs hc2
  rw [hn] at h1 h2
  simp only [Rep] at h1 h2
  have en : n = (n.toNat : Int) := by omega
  have hbn : ie.bytes * n.toNat ≤ 281474976710656 := by
    rw [hby]
    have : ((by_ * n.toNat : Nat) : Int) ≤ 281474976710656 := by rw [Int.natCast_mul, ← en, Int.mul_comm]; omega
    omega
  obtain ⟨w', e1, e2, e3⟩ := run_make_full (P := P) w w.heap.size t e ie z sz hu hi hzz hsz k k n.toNat hbn (by simp only [maxLen]; omega) (Nat.le_refl _)
  rw [← en] at e1
  have hbel : Below w.heap.size w w' := (Below.refl _ w).grown e3 (Nat.le_refl _) (fun k hk => by cases hk)
  obtain ⟨hzr, hz1⟩ := constL_rep (β := β) (h := h) (F := FOf Bad β) (w := w) zero hzero
  have hzs : z.cells.size = sz := by have := hzr.length; simp at this; omega
  have hmade : ∀ m : Nat, (madeCells z.cells (m * sz)).toList = (List.replicate m z.cells.toList).flatten := by
    intro m
    have hl : ((List.replicate m z.cells.toList).flatten).length = m * sz := by
      simp [List.length_flatten, hzs]
    apply List.ext_getElem?
    intro j
    by_cases hj : j < m * sz
    · have hjs : j % sz < z.cells.size := by rw [hzs]; exact Nat.mod_lt _ hz
      have e4 : (madeCells z.cells (m * sz)).toList[j]? = some z.cells[j % sz] := by
        simp [madeCells, hj, hzs]
        exact getElem!_pos z.cells (j % sz) hjs
      rw [e4]
      clear e4
      induction m generalizing j with
      | zero => simp at hj
      | succ m ih =>
        rw [List.replicate_succ, List.flatten_cons]
        by_cases hj2 : j < sz
        · rw [List.getElem?_append_left (by simpa [hzs] using hj2)]
          simp [Nat.mod_eq_of_lt hj2, hzs, hj2]
        · rw [List.getElem?_append_right (by simpa [hzs] using Nat.le_of_not_lt hj2)]
          have hlt : j - sz < m * sz := by rw [Nat.succ_mul] at hj; omega
          have := ih (by simp [List.length_flatten, hzs]) (j - sz) hlt (by rw [Nat.mod_eq_sub_mod (Nat.le_of_not_lt hj2)] at hjs; exact hjs)
          simp only [Array.length_toList, hzs]
          rw [← this]
          congr 1
          simp only [Nat.mod_eq_sub_mod (Nat.le_of_not_lt hj2)]
    · rw [List.getElem?_eq_none (by simp [madeCells]; omega), List.getElem?_eq_none (by omega)]
  have hrep : ∀ m : Nat, RepL ((List.replicate m zero).flatten) β h (FOf Bad β) w ((List.replicate m z.cells.toList).flatten) := by
    intro m
    induction m with
    | zero => rfl
    | succ m ih => rw [List.replicate_succ, List.flatten_cons, List.replicate_succ, List.flatten_cons]; exact hzr.append ih
  rw [hmade] at e2
  refine sound_value (v := .slice (some ⟨w.heap.size, 0, none⟩) n.toNat n.toNat) ?_ (Step.newRow hh hbel hz e2 (hrep _) ?_) (rep_newRow hh _ _ rfl (Nat.le_refl _))
  · simp only [execOp, ho, h1, h2, Sem.run_bind, e1, Result.andThen_ok, Sem.run_pure]
  · intro u hu
    obtain ⟨l, hl, hu⟩ := List.mem_flatten.1 hu
    rw [List.eq_of_mem_replicate hl] at hu
    exact hz1 u hu

/-- An append: the row behind it, and where it lies: where it lay, or in a new block. -/
theorem run_append_src {t ty e : TypeId} {i : TypeInfo} {z : Value} {sz : Nat} (ht : P.underlying t = some (.slice e)) (hi : P.info? e = some i) (hzz : i.zero = some z)
    (hsize : i.size = sz) (hzs : z.cells.size = sz) (hsz : 0 < sz) {base : Nat} {v : Value} {n : Nat} {xs : List Value} (hown : w.ownsRow base e sz v n xs)
    {sa : Option Addr} {m c : Nat} {us : List Value} (hl : us.length = m * sz) (h1 : ∀ u ∈ us, u.oneCell' = true)
    (hsrc : (sa = none ∧ m = 0 ∧ c = 0) ∨ (sa = none ∧ m = 0) ∨ ∃ ad, sa = some ad ∧ ∀ (j : Nat) (u : Value), us[j]? = some u → w.cell? (ad.add j) = some u)
    (h63 : n + m ≤ 140737488355328) (hbytes : (n + m) * i.bytes ≤ 140737488355328) (hbase : base ≤ w.heap.size) :
    ∃ v' w', (Builtin.append_ #[t, t] ty #[v, .slice sa m c]).run P w = .ok v' w' ∧ w'.ownsRow base e sz v' (n + m) (xs ++ us) ∧ w.grownBy w' v.ownBlock ∧ ∀ k, blkOf v' = some k → blkOf v = some k ∨ w.heap.size ≤ k := by
  have hnone : m = 0 → us = [] := fun hm => by subst hm; simpa using hl
  have key : sa = none → m = 0 → ∃ v' w', (Builtin.append_ #[t, t] ty #[v, .slice sa m c]).run P w = .ok v' w' ∧ w'.ownsRow base e sz v' (n + m) (xs ++ us) ∧ w.grownBy w' v.ownBlock ∧ ∀ k, blkOf v' = some k → blkOf v = some k ∨ w.heap.size ≤ k := by
    intro hsa hm
    subst hsa
    have hu0 := hnone hm
    subst hm
    subst hu0
    refine ⟨v, w, ?_, by simpa using hown, ⟨rfl, rfl, rfl, Nat.le_refl _, fun _ _ _ => rfl⟩, fun k hk => .inl hk⟩
    rcases hown.2 with ⟨rfl, rfl⟩ | ⟨g, cap, cur, rfl, _, _, hnc, _⟩
    · simp [Builtin.append_, run_underlying ht, sizeOf, typeInfo, hi, Builtin.lenOf, Builtin.firstCells]
    · simp [Builtin.append_, run_underlying ht, sizeOf, typeInfo, hi, Builtin.lenOf, Builtin.firstCells, hnc, storeCells]
  rcases hsrc with ⟨h2, h3, _⟩ | ⟨h2, h3⟩ | ⟨ad, rfl, hc⟩
  · exact key h2 h3
  · exact key h2 h3
  · obtain ⟨v', w', e1, e2, e3, e4⟩ := run_append_own (P := P) w base t ty e i z sz i.bytes ht hi hzz hsize rfl hzs hsz v n xs hown ad m c us hl hc h1 (by simp only [maxLen]; omega) hbytes hbase
    refine ⟨v', w', e1, e2, e3, ?_⟩
    have hown' := hown
    rcases hown.2 with ⟨hv, hn⟩ | ⟨g, cap, cur, hv, hbg, hg, hnc, hcm, hcs, htake⟩
    · subst hv; subst hn
      by_cases hm : m = 0
      · intro k hk
        rw [(e4.2 ⟨rfl, hm⟩)] at hk
        cases hk
      · have hr := run_append_nil (P := P) w t ty e i z ht hi hzz ad m c us (by rw [hsize]; exact hl) hc (by omega) (by omega) (by simp only [Nat.zero_add] at hbytes; omega)
        rw [e1] at hr
        injection hr with hr _
        intro k hk
        rw [hr] at hk
        simp only [blkOf, Option.some.injEq] at hk
        exact .inr (by omega)
    · subst hv
      by_cases hroom : n + m ≤ cap
      · obtain ⟨w2, hr, _⟩ := run_append_fits (P := P) w base t ty e i sz ht hi hsize g n cap xs hown' ad m c us hl hc h1 hroom
        rw [e1] at hr
        injection hr with hr _
        intro k hk
        rw [hr] at hk
        exact .inl hk
      · have holds : ∀ (j : Nat) (u : Value), xs[j]? = some u → w.cell? ((⟨g, 0, none⟩ : Addr).add j) = some u := hown'.cells (g := g) rfl
        have hr := run_append_grow (P := P) w t ty e i z ht hi hzz ⟨g, 0, none⟩ n cap xs (by rw [hsize]; exact hown'.1) holds ad m c us (by rw [hsize]; exact hl) hc (by omega) (by omega) (growslice_fits (by omega) hbytes)
        rw [e1] at hr
        injection hr with hr _
        intro k hk
        rw [hr] at hk
        simp only [blkOf, Option.some.injEq] at hk
        exact .inr (by omega)

theorem sound_appendNil {x' y' : Operand} {x y : X} {t e : TypeId} {sz by_ : Nat} (ho : o.op = .call { callee := .builtin .append, args := #[x', y'], argTypes := #[t, t] }) (hc : chkX x x' = true) (hc2 : chkX y y' = true)
    (ht : P.underlying t = some (.slice e)) {i : TypeInfo} {z : Value} (hi : P.info? e = some i) (hzz : i.zero = some z) (hsize : i.size = sz) (hby : i.bytes = by_) (hzs : z.cells.size = sz) (hsz : 0 < sz)
    {ys : List AV} {m : Nat} (hys : cellsIn h sz (y.ev s) = some ys) (hm : lenIn (y.ev s) = some m) (hx : x.ev s = .nils) (hb : m * by_ ≤ 140737488355328) (hm2 : m ≤ 140737488355328) (hall : ys.all storable = true) :
    OpSound P Bad β h w a o (.sl sz h.length 0 0 m) (h ++ [.row 0 sz ys e]) := by
  have h1 := X_rep hs hc
  have h2 := X_rep hs hc2
  rw [hx] at h1
  simp only [Rep] at h1
  obtain ⟨sa, c, us, e1, e2, e3, e4, e5⟩ := src_cells hh h2 hys hm hall hsz
  obtain ⟨v', w', r1, r2, r3, _⟩ := run_append_src (P := P) (ty := o.type) hh hs ht hi hzz hsize hzs hsz (World.ownsRow_nil w w.heap.size e sz) e3 e4 e5 (by omega) (by rw [hby]; simpa using hb) (Nat.le_refl _)
  simp only [Nat.zero_add, List.nil_append] at r2
  have hbel : Below w.heap.size w w' := (Below.refl _ w).grown r3 (Nat.le_refl _) (fun k hk => by cases hk)
  refine sound_value (v := v') ?_ (Step.newRow hh hbel hsz r2 e2 e4) ?_
  · simp [execOp, ho, h1, e1, resolve, invoke, builtin, r1]
  · simp only [Rep]
    rcases r2.2 with ⟨rfl, h3⟩ | ⟨g, cap, cur, rfl, _, _, h4, _⟩
    · refine ⟨⟨by simp [hh.len], fut_new h _⟩, ⟨_, _, _, rfl⟩, fun _ => ?_⟩
      rw [← hh.len]
      simp [List.getD_eq_getElem?_getD, SlRep, h3]
    · refine ⟨⟨by simp [hh.len], fut_new h _⟩, ⟨_, _, _, rfl⟩, fun _ => ?_⟩
      rw [← hh.len]
      simp only [List.getD_eq_getElem?_getD, List.getElem?_append_right (Nat.le_refl _), Nat.sub_self]
      exact ⟨0, cap, rfl, h4, by simp, .inl rfl, fun _ => rfl⟩

theorem sound_append {x' y' : Operand} {x y : X} {t e : TypeId} {sz by_ : Nat} (ho : o.op = .call { callee := .builtin .append, args := #[x', y'], argTypes := #[t, t] }) (hc : chkX x x' = true) (hc2 : chkX y y' = true)
    (ht : P.underlying t = some (.slice e)) {i : TypeInfo} {z : Value} (hi : P.info? e = some i) (hzz : i.zero = some z) (hsize : i.size = sz) (hby : i.bytes = by_) (hzs : z.cells.size = sz) (hsz : 0 < sz)
    {ys : List AV} {m : Nat} (hys : cellsIn h sz (y.ev s) = some ys) (hm : lenIn (y.ev s) = some m) {l ver n : Nat} (hx : x.ev s = .sl sz l ver 0 n) {vs : List AV} (hobj : h[l]? = some (.row ver sz vs e)) (hvl : vs.length = n * sz)
    (hb : (n + m) * by_ ≤ 140737488355328) (hm2 : n + m ≤ 140737488355328) (hall : ys.all storable = true) :
    OpSound P Bad β h w a o (.sl sz l (ver + 1) 0 (n + m)) (h.set l (.row (ver + 1) sz (vs ++ ys) e)) := by
  have h1 := X_rep hs hc
  have h2 := X_rep hs hc2
  rw [hx] at h1
  simp only [Rep] at h1
  obtain ⟨hl, _, h1⟩ := h1
  have hcur : objCells h l ver = some vs := by simp [objCells, hobj]
  have h1 := h1 (by rw [hcur]; rfl)
  have hβ : β[l]? = some (β.getD l default) := by rw [List.getD_eq_getElem?_getD, List.getElem?_eq_getElem hl.1]; rfl
  obtain ⟨hz', n', xs, hown, hrx, hx1⟩ := hh.obj l _ _ hobj hβ
  have hnn : n' = n := by
    have e1 := hown.1
    have e2 := hrx.length
    have : n' * sz = n * sz := by omega
    exact Nat.eq_of_mul_eq_mul_right hsz this
  subst hnn
  generalize hbv : β.getD l default = bv at *
  have hval : a.eval x' = bv := by
    rcases hown.2 with ⟨h3, h4⟩ | ⟨g, cap, cur, h3, _, _, h4, _⟩
    · rw [h3] at h1 ⊢
      simp only [SlRep] at h1
      exact h1.2
    · rw [h3] at h1 ⊢
      simp only [SlRep] at h1
      obtain ⟨o', c, h5, h6, h7, h8, h9⟩ := h1
      have ho' := h9 trivial
      subst ho'
      have : c = cap := Nat.eq_of_mul_eq_mul_right hsz (by simpa using h7)
      subst this
      exact h5
  obtain ⟨sa, c, us, e1, e2, e3, e4, e5⟩ := src_cells hh h2 hys hm hall hsz
  obtain ⟨v', w', r1, r2, r3, r4⟩ := run_append_src (P := P) (ty := o.type) hh hs ht hi hzz hsize hzs hsz hown e3 e4 e5 hm2 (by rw [hby]; exact hb) (Nat.zero_le _)
  have hblk : ∀ k, blkOf bv = some k ↔ bv.ownBlock = some k := by
    intro k
    rcases hown.2 with ⟨h3, _⟩ | ⟨g, cap, cur, h3, _⟩ <;> rw [h3] <;> simp [blkOf, Value.ownBlock]
  have hlt : ∀ k, blkOf v' = some k → k < w'.heap.size := by
    intro k hk
    rcases r2.2 with ⟨h3, _⟩ | ⟨g, cap, cur, h3, _, hg, _⟩
    · rw [h3] at hk; cases hk
    · rw [h3] at hk
      simp only [blkOf, Option.some.injEq] at hk
      subst hk
      exact (Array.getElem?_eq_some_iff.1 hg).1
  have hst := Step.turn (Bad := Bad) (w' := w') hh (l := l) (bv := bv) (bv' := v') (o' := .row (ver + 1) sz (vs ++ ys) e) hβ r3.os r3.tape r3.output r3.size
    (fun k hk hne => r3.block k hk (fun e => hne ((hblk k).2 e.symm)))
    (fun k hk => ⟨r4 k hk, hlt k hk⟩)
    (fun u hf => by
      have hs1 : (h.set l (.row (ver + 1) sz (vs ++ ys) e))[l]? = some (.row (ver + 1) sz (vs ++ ys) e) := List.getElem?_set_self (by rw [← hh.len]; exact hl.1)
      unfold fut at hf ⊢
      rw [hobj] at hf
      rw [hs1]
      simp only [decide_eq_false_iff_not, Nat.not_lt] at hf ⊢
      refine ⟨by omega, fun hs => ?_⟩
      unfold objCells at hs
      rw [hs1] at hs
      simp only at hs
      split at hs
      · omega
      · cases hs)
    (fun hok hkeep => ⟨hsz, n' + m, xs ++ us, r2, RepL.step hok _ hkeep (hrx.append e2), fun u hu => by
      rcases List.mem_append.1 hu with hu | hu
      · exact hx1 u hu
      · exact e4 u hu⟩)
  refine sound_value (v := v') ?_ hst ?_
  · simp [execOp, ho, hval, e1, resolve, invoke, builtin, r1]
  · have hself : (β.set l v')[l]? = some v' := by simp [List.getElem?_set_self, hl.1]
    have hfut : fut (h.set l (.row (ver + 1) sz (vs ++ ys) e)) l (ver + 1) = false := by
      unfold fut
      rw [List.getElem?_set_self (by rw [← hh.len]; exact hl.1)]
      simp
    simp only [Rep]
    rcases r2.2 with ⟨h3, h4⟩ | ⟨g, cap, cur, h3, _, _, h4, _⟩
    · refine ⟨⟨by simpa using hl.1, hfut⟩, ⟨_, _, _, h3⟩, fun _ => ?_⟩
      rw [List.getD_eq_getElem?_getD, hself, h3]
      simp [SlRep, h4]
    · refine ⟨⟨by simpa using hl.1, hfut⟩, ⟨_, _, _, h3⟩, fun _ => ?_⟩
      rw [List.getD_eq_getElem?_getD, hself, h3]
      exact ⟨0, cap, rfl, h4, by simp, .inl rfl, fun _ => rfl⟩

end
end Go.Fw
