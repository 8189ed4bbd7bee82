/-
  One operation at a time: addresses, reading, writing. Conditions: stated at each.
-/
import Derived.Test.YtefkoichicalfaaFwD
set_option linter.unusedVariables false
set_option linter.unusedSimpArgs false
set_option linter.unusedSectionVars false
namespace Go.Fw
open Go.RowKit (Below)

def isAggD : TypeDesc → Bool
  | .struct _ | .array _ _ => true
  | _ => false

/-- A type whose variables have so many cells. -/
def tyIs (P : Program) (t : TypeId) (ag : Bool) (sz : Nat) : Bool :=
  match P.info? t, P.underlying t with
  | some i, some d => i.size == sz && isAggD d == ag
  | _, _ => false

theorem tyIs_spec {P : Program} {t : TypeId} {ag : Bool} {sz : Nat} (h : tyIs P t ag sz = true) : ∃ i d, P.info? t = some i ∧ P.underlying t = some d ∧ i.size = sz ∧ isAggD d = ag := by
  unfold tyIs at h
  split at h
  · rename_i i d hi hd
    simp at h
    exact ⟨i, d, hi, hd, h.1, h.2⟩
  · cases h

theorem run_isAgg {P : Program} {t : TypeId} {d : TypeDesc} (hd : P.underlying t = some d) (w : World) : (isAgg t).run P w = .ok (isAggD d) w := by
  cases d <;> simp [isAgg, run_underlying hd, isAggD]

theorem run_sizeOf {P : Program} {t : TypeId} {i : TypeInfo} (hi : P.info? t = some i) (w : World) : (sizeOf t).run P w = .ok i.size w := by
  simp [sizeOf, typeInfo, hi]

/-! ### what is only read, wherever it is used -/

mutual
theorem Rep.ofNil {F : Forb} {w : World} : ∀ (x : AV) {β : List Value} {h : Heap} {v : Value}, Rep x [] [] F w v → Rep x β h F w v
  | .undef, _, _, _, _ => trivial
  | .bool b, _, _, _, hr => hr
  | .int k n, _, _, _, hr => hr
  | .str s, _, _, _, hr => hr
  | .nils, _, _, _, hr => hr
  | .rs g sz l, _, _, _, hr => hr
  | .nilp, _, _, _, hr => hr
  | .rp g x, _, _, _, hr => hr
  | .ref l ver o, _, _, _, hr => by simp [Rep, Live] at hr
  | .sl sz l ver o n, _, _, _, hr => by simp [Rep, Live] at hr
  | .nilf, _, _, _, hr => hr
  | .fn f cap, _, _, _, hr => by
    simp only [Rep] at hr ⊢
    obtain ⟨vs, rfl, hl⟩ := hr
    exact ⟨vs, rfl, RepL.ofNil cap hl⟩
  | .nili, _, _, _, hr => hr
  | .iface t x, _, _, _, hr => by
    simp only [Rep] at hr ⊢
    obtain ⟨y, rfl, h⟩ := hr
    exact ⟨y, rfl, Rep.ofNil x h⟩
  | .agg cs, _, _, _, hr => by
    simp only [Rep] at hr ⊢
    obtain ⟨vs, rfl, hl, h1⟩ := hr
    exact ⟨vs, rfl, RepL.ofNil cs hl, h1⟩
  | .tup cs, _, _, _, hr => by
    simp only [Rep] at hr ⊢
    obtain ⟨vs, rfl, hl⟩ := hr
    exact ⟨vs, rfl, RepL.ofNil cs hl⟩
  | .nilm, _, _, _, hr => hr
  | .mp l, _, _, _, hr => by simp [Rep, Live] at hr
  | .rm g kk es, _, _, _, hr => hr
theorem RepL.ofNil {F : Forb} {w : World} : ∀ (l : List AV) {β : List Value} {h : Heap} {vs : List Value}, RepL l [] [] F w vs → RepL l β h F w vs
  | [], _, _, _, hr => hr
  | x :: l, _, _, _, hr => by
    simp only [RepL] at hr ⊢
    obtain ⟨u, us, rfl, h1, h2⟩ := hr
    exact ⟨u, us, rfl, Rep.ofNil x h1, RepL.ofNil l h2⟩
end

/-- A slice's element, in memory that is only read. -/
theorem RepF.at {F : Forb} {w : World} : ∀ {l : List AV} {sz : Nat} {vs : List Value} (hr : RepF l sz F w vs) {i : Nat} {x : AV} (hx : l[i]? = some x),
    ∃ u, Rep x [] [] F w u ∧ u.cells.size = sz ∧ (∀ (j : Nat) (v : Value), u.cells.toList[j]? = some v → vs[i * sz + j]? = some v) := by
  intro l
  induction l with
  | nil => intro sz vs hr i x hx; simp at hx
  | cons y l ih =>
    intro sz vs hr i x hx
    simp only [RepF] at hr
    obtain ⟨u, us, rfl, hz, hy, hl⟩ := hr
    cases i with
    | zero =>
      simp at hx
      subst hx
      refine ⟨u, hy, hz, fun j v hv => ?_⟩
      have hj : j < u.cells.toList.length := (List.getElem?_eq_some_iff.1 hv).1
      rw [Nat.zero_mul, Nat.zero_add, List.getElem?_append_left hj]
      exact hv
    | succ i =>
      obtain ⟨u', h1, h2, h3⟩ := ih hl (by simpa using hx)
      refine ⟨u', h1, h2, fun j v hv => ?_⟩
      rw [List.getElem?_append_right (by rw [Array.length_toList, hz, Nat.succ_mul]; omega)]
      rw [Array.length_toList, hz, show (i + 1) * sz + j - sz = i * sz + j by rw [Nat.succ_mul]; omega]
      exact h3 j v hv

theorem RepF.len {F : Forb} {w : World} : ∀ {l : List AV} {sz : Nat} {vs : List Value} (hr : RepF l sz F w vs), vs.length = l.length * sz := by
  intro l
  induction l with
  | nil => intro sz vs hr; simp only [RepF] at hr; subst hr; simp
  | cons y l ih =>
    intro sz vs hr
    simp only [RepF] at hr
    obtain ⟨u, us, rfl, hz, hy, hl⟩ := hr
    rw [List.length_append, Array.length_toList, hz, ih hl, List.length_cons, Nat.succ_mul]
    omega

/-! ### cells in memory -/

theorem Addr.add_block (a : Addr) (n : Nat) : (a.add n).block = a.block := by unfold Addr.add; split <;> rfl

theorem Addr.add_add (a : Addr) (n m : Nat) : (a.add n).add m = a.add (n + m) := by
  unfold Addr.add
  by_cases hn : n = 0
  · subst hn; simp
  · by_cases hm : m = 0
    · subst hm; simp
    · have : ¬ n + m = 0 := by omega
      simp [hn, hm, this, Nat.add_assoc]

theorem Addr.add_lit' (b o n : Nat) : (⟨b, o, none⟩ : Addr).add n = ⟨b, o + n, none⟩ := by unfold Addr.add; split <;> simp_all

/-- Reading a variable whose cells are known. -/
theorem run_loadVar {P : Program} {w : World} {t : TypeId} {ag : Bool} {sz : Nat} (ht : tyIs P t ag sz = true) {ad : Addr} {cs : List Value} (hl : cs.length = sz)
    (hc : ∀ (j : Nat) (v : Value), cs[j]? = some v → w.cell? (ad.add j) = some v) :
    (ag = true → (loadVar t ad).run P w = .ok (.agg cs.toArray) w) ∧ (ag = false → ∀ v, cs = [v] → (loadVar t ad).run P w = .ok v w) := by
  obtain ⟨i, d, hi, hd, hsz, hag⟩ := tyIs_spec ht
  constructor
  · intro hA
    rw [hA] at hag
    have h1 := run_loadCells_list (P := P) w ad cs hc
    rw [hl] at h1
    simp [loadVar, run_isAgg hd, hag, run_sizeOf hi, hsz, h1]
  · intro hA v hv
    rw [hA] at hag
    subst hv
    have h0 := hc 0 v rfl
    have : ad.add 0 = ad := by simp [Addr.add]
    rw [this] at h0
    simp [loadVar, run_isAgg hd, hag, h0]

theorem run_part {P : Program} {w : World} {t : TypeId} {ag : Bool} {sz : Nat} (ht : tyIs P t ag sz = true) (off : Nat) (vs : List Value) (hle : off + sz ≤ vs.length) :
    (ag = true → (part t vs.toArray off).run P w = .ok (.agg ((vs.drop off).take sz).toArray) w) ∧ (ag = false → ∀ v, vs[off]? = some v → (part t vs.toArray off).run P w = .ok v w) := by
  obtain ⟨i, d, hi, hd, hsz, hag⟩ := tyIs_spec ht
  constructor
  · intro hA
    rw [hA] at hag
    have : vs.toArray.extract off (off + sz) = ((vs.drop off).take sz).toArray := by
      apply Array.ext'
      simp [List.take_drop]
    simp [part, run_isAgg hd, hag, run_sizeOf hi, hsz, this]
  · intro hA v hv
    rw [hA] at hag
    simp [part, run_isAgg hd, hag, hv]

section
variable {P : Program} {Bad : Forb} {β : List Value} {h : Heap} {w : World} {a : Act} {s : Slots} {o : Oper}

/-- What a known entry of the run's own memory is in the machine. -/
theorem own_cells (hh : HeapRel Bad β h w) {l ver : Nat} {vs : List AV} (hv : objCells h l ver = some vs) :
    l < β.length ∧ ((vs = [] ∧ β.getD l default = .slice none 0 0) ∨ ∃ b arr t, blkOf (β.getD l default) = some b ∧ w.heap[b]? = some (.cells arr t (0, 0)) ∧ vs.length ≤ arr.size ∧ RepL vs β h (FOf Bad β) w (arr.toList.take vs.length) ∧ ∀ u ∈ arr.toList.take vs.length, u.oneCell' = true) := by
  unfold objCells at hv
  have hl : l < h.length := by
    cases hq : h[l]? with
    | none => rw [hq] at hv; cases hv
    | some o => exact (List.getElem?_eq_some_iff.1 hq).1
  have hlβ : l < β.length := by rw [hh.len]; exact hl
  have hβ : β[l]? = some (β.getD l default) := by rw [List.getD_eq_getElem?_getD, List.getElem?_eq_getElem hlβ]; rfl
  refine ⟨hlβ, ?_⟩
  split at hv
  · rename_i ag vs' t hq
    split at hv
    · injection hv with hv
      subst hv
      obtain ⟨b, arr, h1, h2, h3, h4⟩ := hh.obj l _ _ hq hβ
      have hlen : vs'.length = arr.size := by simpa using h3.length
      have htake : arr.toList.take vs'.length = arr.toList := List.take_of_length_le (by simp [hlen])
      exact .inr ⟨b, arr, t, by rw [h1]; rfl, h2, by omega, by rw [htake]; exact h3, by rw [htake]; exact h4⟩
    · cases hv
  · rename_i v z vs' t hq
    split at hv
    · injection hv with hv
      subst hv
      obtain ⟨hz, n, xs, ho, h3, h4⟩ := hh.obj l _ _ hq hβ
      have hlen := h3.length
      rcases ho.2 with ⟨h5, h6⟩ | ⟨g, cap, cur, h5, _, h6, h7, _, h8, h9⟩
      · left
        have := ho.1
        rw [h6] at this
        simp at this
        subst this
        simp at hlen
        exact ⟨hlen, h5⟩
      · right
        have hxl := ho.1
        have hle : n * z ≤ cur.size := by rw [h8]; exact Nat.mul_le_mul_right z h7
        refine ⟨g, cur, t, by rw [h5]; rfl, h6, by omega, ?_, ?_⟩
        · rw [hlen, hxl, h9]; exact h3
        · rw [hlen, hxl, h9]; exact h4
    · cases hv
  · cases hv

theorem partA_rep {F : Forb} {ag : Bool} {off sz : Nat} {cs : List AV} {x : AV} {vs : List Value} (hp : partA ag off sz cs = some x) (hr : RepL cs β h F w vs) (h1 : ∀ u ∈ vs, u.oneCell' = true) :
    off + sz ≤ vs.length ∧ ((ag = true ∧ Rep x β h F w (.agg ((vs.drop off).take sz).toArray)) ∨ (ag = false ∧ sz = 1 ∧ ∃ v, (vs.drop off).take sz = [v] ∧ vs[off]? = some v ∧ Rep x β h F w v)) := by
  unfold partA at hp
  split at hp
  · rename_i hle
    rw [hr.length] at hle
    refine ⟨hle, ?_⟩
    have h2 := (hr.drop off).take sz
    unfold ofCells at hp
    split at hp
    · rename_i hlen
      cases ag
      · right
        simp only [Bool.false_eq_true, if_false] at hp
        split at hp
        · rename_i y hy
          injection hp with hp
          subst hp
          rw [hy] at h2 hlen
          simp at hlen
          subst hlen
          simp only [RepL] at h2
          obtain ⟨u, us, h3, h4, h5⟩ := h2
          subst h5
          refine ⟨rfl, rfl, u, h3, ?_, h4⟩
          have : ((vs.drop off).take 1)[0]? = some u := by rw [h3]; rfl
          simpa using this
        · cases hp
      · left
        simp only [if_true] at hp
        injection hp with hp
        subst hp
        refine ⟨rfl, _, rfl, h2, fun u hu => h1 u ?_⟩
        exact List.mem_of_mem_drop (List.mem_of_mem_take hu)
    · cases hp
  · cases hp

variable (hh : HeapRel Bad β h w) (hs : SlotsRep β h (FOf Bad β) w s a)
include hh hs

omit hs in
theorem load_rep {z : AV} {v : Value} (h1 : Rep z β h (FOf Bad β) w v) {t : TypeId} {ag : Bool} {sz : Nat} (ht : tyIs P t ag sz = true) {r : AV} (hr : loadV h ag sz z = some r) :
    ∃ ad u, v = .pointer (some ad) ∧ (loadVar t ad).run P w = .ok u w ∧ Rep r β h (FOf Bad β) w u := by
  unfold loadV at hr
  split at hr
  · rename_i g x'
    simp only [Rep] at h1
    obtain ⟨ad, u, h1, hxr, hro⟩ := h1
    split at hr
    · rename_i hsh
      injection hr with hr
      subst hr
      have hxr' := Rep.ofNil (β := β) (h := h) x' hxr
      have hcell : ∀ (j : Nat) (v : Value), u.cells.toList[j]? = some v → w.cell? (ad.add j) = some v := fun j v hv => by
        obtain ⟨ad', h3, _, h4, _⟩ := hro j v hv
        injection h3 with h3
        subst h3
        exact h4
      cases ag
      · have hu1 : u.oneCell' = true := by
          refine Rep.oneCell ?_ hxr
          cases x' <;> simp_all [shapeOk, storable]
        have hcs := cells_of_one hu1
        have hsz : sz = 1 := by cases x' <;> simp_all [shapeOk]
        subst hsz
        have hlv := (run_loadVar (P := P) (w := w) ht (ad := ad) (cs := u.cells.toList) (by rw [hcs]; rfl) hcell).2 rfl u (by rw [hcs])
        exact ⟨ad, u, h1, hlv, hxr'⟩
      · obtain ⟨cs, rfl, hlen⟩ : ∃ cs, x' = .agg cs ∧ cs.length = sz := by
          cases x' <;> simp_all [shapeOk]
        have hxr2 := hxr
        simp only [Rep] at hxr2
        obtain ⟨vs, hu, hl, _⟩ := hxr2
        have hcs : u.cells.toList = vs := by rw [hu]; simp [Value.cells]
        have hlv := (run_loadVar (P := P) (w := w) ht (ad := ad) (cs := u.cells.toList) (by rw [hcs, ← hl.length]; exact hlen) hcell).1 rfl
        rw [hcs, ← hu] at hlv
        exact ⟨ad, u, h1, hlv, hxr'⟩
    · cases hr
  · rename_i l ver off
    simp only [Rep] at h1
    obtain ⟨hl, _, h1⟩ := h1
    cases hv : objCells h l ver with
    | none => rw [hv] at hr; cases hr
    | some vs =>
      rw [hv] at hr h1
      simp only [Option.bind_some] at hr
      obtain ⟨b, hb, h1⟩ := h1 rfl
      obtain ⟨_, hnil | ⟨b', arr, t', hb', harr, hle, hrl, h1c⟩⟩ := own_cells hh hv
      · rw [hnil.2] at hb
        cases hb
      · rw [hb] at hb'
        injection hb' with hb'
        subst hb'
        obtain ⟨hoff, hp⟩ := partA_rep hr hrl h1c
        have hcell : ∀ (j : Nat) (v : Value), (((arr.toList.take vs.length).drop off).take sz)[j]? = some v → w.cell? ((⟨b, off, none⟩ : Addr).add j) = some v := fun j v hv => by
          rw [Addr.add_lit']
          simp only [List.getElem?_take, List.getElem?_drop] at hv
          split at hv
          · split at hv
            · simpa [World.cell?, harr] using hv
            · cases hv
          · cases hv
        have hlen : (((arr.toList.take vs.length).drop off).take sz).length = sz := by
          rw [List.length_take, List.length_drop]; omega
        have hlv := run_loadVar (P := P) (w := w) ht (ad := ⟨b, off, none⟩) hlen hcell
        rcases hp with ⟨hag, hp⟩ | ⟨hag, _, v, hv1, _, hp⟩
        · exact ⟨_, _, h1, hlv.1 hag, hp⟩
        · exact ⟨_, _, h1, hlv.2 hag v hv1, hp⟩
  · cases hr

theorem sound_load {x : X} {y : Operand} {t : TypeId} {ag : Bool} {sz : Nat} (ho : o.op = .load t y) (hc : chkX x y = true) (ht : tyIs P t ag sz = true) {r : AV}
    (hr : (match x.ev s with
      | .rp _ x => if shapeOk ag sz x then some x else none
      | .ref l ver o => (objCells h l ver).bind fun vs => partA ag o sz vs
      | _ => none) = some r) : OpSound P Bad β h w a o r h := by
  obtain ⟨ad, u, h1, h2, h3⟩ := load_rep hh (X_rep hs hc) ht (r := r) (by
    unfold loadV
    exact hr)
  exact sound_pure hh (v := u) (by simp [execOp, ho, h1, Instr.loadAt, Instr.sureAddr, h2]) h3

/-! ### addresses -/

theorem sound_faddr {x : X} {y : Operand} {t : TypeId} {fd : Nat} {ag : Bool} {off sz : Nat} (ho : o.op = .fieldAddr t y fd) (hc : chkX x y = true)
    {fs : Array Field} {f : Field} (hu : P.underlying t = some (.struct fs)) (hf : fs[fd]? = some f) (hoff : f.offset = off) (ht : tyIs P f.type ag sz = true) (hz : sz ≠ 0) {r : AV}
    (hr : (match x.ev s with
      | .ref l ver o => some (AV.ref l ver (o + off))
      | .rp g (.agg cs) => (partA ag off sz cs).map fun v => .rp g v
      | _ => none) = some r) : OpSound P Bad β h w a o r h := by
  have h1 := X_rep hs hc
  obtain ⟨i, d, hi, hd, hsz, hag⟩ := tyIs_spec ht
  have hrun : ∀ ad : Addr, a.eval y = .pointer (some ad) → (execOp a.eval o).run P w = .ok (.value (.pointer (some (ad.add off)))) w := fun ad hy => by
    simp [execOp, ho, hy, Instr.fieldAt, run_underlying hu, hf, Instr.sureAddr, fieldPlace, run_sizeOf hi, hsz, hz, hoff]
  split at hr
  · rename_i l ver off' hx
    injection hr with hr
    subst hr
    rw [hx] at h1
    simp only [Rep] at h1
    obtain ⟨hl, ⟨ad, had⟩, h1⟩ := h1
    refine sound_pure hh (hrun ad had) ?_
    simp only [Rep]
    refine ⟨hl, ⟨_, rfl⟩, fun hv => ?_⟩
    obtain ⟨b, hb, h2⟩ := h1 hv
    rw [had] at h2
    injection h2 with h2
    injection h2 with h2
    subst h2
    exact ⟨b, hb, by rw [Addr.add_lit']⟩
  · rename_i g cs hx
    rw [hx] at h1
    simp only [Rep] at h1
    obtain ⟨ad, u, h1, ⟨vs, hu', hl, hvc⟩, hro⟩ := h1
    cases hp : partA ag off sz cs with
    | none => rw [hp] at hr; cases hr
    | some v =>
      rw [hp] at hr
      injection hr with hr
      subst hr
      obtain ⟨hle, hp⟩ := partA_rep hp hl hvc
      have hcl : u.cells.toList = vs := by rw [hu']; simp [Value.cells]
      rw [hcl] at hro
      refine sound_pure hh (hrun ad h1) ?_
      have hro' : RoAt (FOf Bad β) w g (some (ad.add off)) ((vs.drop off).take sz) := by
        intro j u hu
        have hu2 : vs[off + j]? = some u := by
          simp only [List.getElem?_take, List.getElem?_drop] at hu
          split at hu
          · exact hu
          · cases hu
        obtain ⟨ad', h3, h4, h5, h6⟩ := hro (off + j) u hu2
        injection h3 with h3
        subst h3
        exact ⟨_, rfl, by rw [Addr.add_block]; exact h4, by rw [Addr.add_add]; exact h5, h6⟩
      simp only [Rep]
      rcases hp with ⟨_, hp⟩ | ⟨_, _, v', hv1, _, hp⟩
      · exact ⟨_, _, rfl, hp, by simpa [Value.cells] using hro'⟩
      · refine ⟨_, v', rfl, hp, ?_⟩
        have h1' : v'.oneCell' = true := hvc v' (List.mem_of_mem_drop (List.mem_of_mem_take (by rw [hv1]; simp)))
        rw [cells_of_one h1', ← hv1]
        exact hro'
  · cases hr

theorem sound_field {x : X} {y : Operand} {t : TypeId} {fd : Nat} {ag : Bool} {off sz : Nat} (ho : o.op = .field t y fd) (hc : chkX x y = true)
    {fs : Array Field} {f : Field} (hu : P.underlying t = some (.struct fs)) (hf : fs[fd]? = some f) (hoff : f.offset = off) (ht : tyIs P f.type ag sz = true)
    {cs : List AV} (hx : x.ev s = .agg cs) {r : AV} (hr : partA ag off sz cs = some r) : OpSound P Bad β h w a o r h := by
  have h1 := X_rep hs hc
  rw [hx] at h1
  simp only [Rep] at h1
  obtain ⟨vs, h1, hl, hvc⟩ := h1
  obtain ⟨hle, hp⟩ := partA_rep hr hl hvc
  have hrp := run_part (P := P) (w := w) ht off vs hle
  rcases hp with ⟨hag, hp⟩ | ⟨hag, _, v', hv1, hv2, hp⟩
  · refine sound_pure hh ?_ hp
    have := hrp.1 hag
    simp [execOp, ho, h1, Instr.field, run_underlying hu, hf, asAgg, hoff, this]
  · refine sound_pure hh ?_ hp
    have := hrp.2 hag v' hv2
    simp [execOp, ho, h1, Instr.field, run_underlying hu, hf, asAgg, hoff, this]

theorem sound_iaddr {x i : X} {x' i' : Operand} {t e : TypeId} {sz : Nat} (ho : o.op = .indexAddr t x' i') (hc : chkX x x' = true) (hci : chkX i i' = true)
    (hu : P.underlying t = some (.slice e)) {ti : TypeInfo} (hi : P.info? e = some ti) (hsz : ti.size = sz) (hz : 0 < sz) {k : IntKind} {n : Int} (hn : i.ev s = .int k n) {r : AV}
    (hr : (match x.ev s with
      | .rs g z l => if z = sz ∧ 0 ≤ n ∧ n < l.length then some (AV.rp g (l.getD n.toNat .undef)) else none
      | .sl z l ver o m => if z = sz ∧ 0 ≤ n ∧ n < m ∧ (objCells h l ver).isSome = true then some (.ref l ver (o + n.toNat * sz)) else none
      | _ => none) = some r) : OpSound P Bad β h w a o r h := by
  have h1 := X_rep hs hc
  have h2 := X_rep hs hci
  rw [hn] at h2
  simp only [Rep] at h2
  split at hr
  · rename_i g z l hx
    rw [hx] at h1
    simp only [Rep] at h1
    obtain ⟨ba, c, vs, h1, hcap, _, hf, hro⟩ := h1
    split at hr
    · rename_i hcond
      obtain ⟨rfl, hn0, hnl⟩ := hcond
      injection hr with hr
      subst hr
      have hlt : n.toNat < l.length := by omega
      have hget : l[n.toNat]? = some (l.getD n.toNat .undef) := by rw [List.getD_eq_getElem?_getD, List.getElem?_eq_getElem hlt]; rfl
      obtain ⟨u, hxr, hus, hcells⟩ := RepF.at hf hget
      obtain ⟨ad, hba⟩ : ∃ ad, ba = some ad := by
        have h0 : u.cells.toList[0]? = some (u.cells[0]'(by omega)) := by simp [Array.getElem?_eq_getElem (show 0 < u.cells.size by omega)]
        obtain ⟨ad, h3, _⟩ := hro _ _ (hcells 0 _ h0)
        exact ⟨ad, h3⟩
      subst hba
      refine sound_pure hh (v := .pointer (some (ad.add (n.toNat * z)))) ?_ ?_
      · simp [execOp, ho, h1, h2, Instr.indexAt, asIntOf, run_underlying hu, run_sizeOf hi, hsz, hn0, hnl]
      · simp only [Rep]
        refine ⟨_, u, rfl, hxr, fun j v hv => ?_⟩
        obtain ⟨ad', h3, h4, h5, h6⟩ := hro _ _ (hcells j v hv)
        injection h3 with h3
        subst h3
        exact ⟨_, rfl, by rw [Addr.add_block]; exact h4, by rw [Addr.add_add]; exact h5, h6⟩
    · cases hr
  · rename_i z l ver off m hx
    rw [hx] at h1
    simp only [Rep] at h1
    obtain ⟨hl, ⟨ba, m', c', h0⟩, h1⟩ := h1
    split at hr
    · rename_i hcond
      obtain ⟨rfl, hn0, hnl, hcur⟩ := hcond
      injection hr with hr
      subst hr
      · have h1 := h1 hcur
        have key : ∀ (bk : Nat) (o' c : Nat), a.eval x' = .slice (some ⟨bk, o', none⟩) m c → blkOf (β.getD l default) = some bk → o' = off → OpSound P Bad β h w a o (.ref l ver (off + n.toNat * z)) h := by
          intro bk o' c hv hb ho'
          subst ho'
          refine sound_pure hh (v := .pointer (some ((⟨bk, o', none⟩ : Addr).add (n.toNat * z)))) ?_ ?_
          · simp [execOp, ho, hv, h2, Instr.indexAt, asIntOf, run_underlying hu, run_sizeOf hi, hsz, hn0, hnl]
          · simp only [Rep]
            exact ⟨hl, ⟨_, rfl⟩, fun _ => ⟨bk, hb, by rw [Addr.add_lit']⟩⟩
        cases hbv : β.getD l default <;> rw [hbv] at h1 <;> simp only [SlRep] at h1
        case slice ad mm cc =>
          cases ad with
          | none => simp only at h1; omega
          | some ad =>
            simp only at h1
            obtain ⟨o', c, h3, h4, _, h5, _⟩ := h1
            have : c ≠ 0 := by omega
            exact key ad.block o' c h3 (by rw [hbv]; rfl) (h5.resolve_right this)
        case pointer ad =>
          cases ad with
          | none => simp only at h1
          | some ad =>
            simp only at h1
            obtain ⟨o', c, h3, h4, h5⟩ := h1
            have : c ≠ 0 := by omega
            exact key ad.block o' c h3 (by rw [hbv]; rfl) (h5.resolve_right this)
    · cases hr
  · cases hr

end
end Go.Fw
