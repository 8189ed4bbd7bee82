/-
  One operation at a time: slices, indexes, writing. Conditions: stated at each.
-/
import Derived.Test.YtefkoichicalfaaFwG
import Derived.Laws.Slices
set_option linter.unusedVariables false
set_option linter.unusedSimpArgs false
set_option linter.unusedSectionVars false
namespace Go.Fw
open Go.RowKit (Below)

/-! ### elements out of cells -/

theorem group_rep {F : Forb} {w : World} {sz : Nat} (hz : 0 < sz) : ∀ (n : Nat) {cs : List AV} {vs : List Value}, RepL cs [] [] F w vs → (∀ u ∈ vs, u.oneCell' = true) → n * sz ≤ cs.length →
    RepF (group (sz != 1) sz n cs) sz F w (vs.take (n * sz))
  | 0, cs, vs, _, _, _ => by simp [group, RepF]
  | n + 1, cs, vs, hr, h1, hl => by
    simp only [group, RepF]
    have hlen := hr.length
    have hle : sz ≤ vs.length := by rw [← hlen]; rw [Nat.succ_mul] at hl; omega
    have ih := group_rep hz n (hr.drop sz) (fun u hu => h1 u (List.mem_of_mem_drop hu)) (by rw [List.length_drop]; rw [Nat.succ_mul] at hl; omega)
    have hsplit : vs.take ((n + 1) * sz) = vs.take sz ++ (vs.drop sz).take (n * sz) := by
      rw [Nat.succ_mul, Nat.add_comm, List.take_add]
    by_cases hone : sz = 1
    · subst hone
      cases cs with
      | nil => simp at hl
      | cons x cs =>
        simp only [RepL] at hr
        obtain ⟨u, us, rfl, hx, hr'⟩ := hr
        have hu := h1 u (by simp)
        refine ⟨u, ((u :: us).drop 1).take (n * 1), ?_, by rw [cells_of_one hu]; rfl, by simpa using hx, by simpa using ih⟩
        rw [hsplit, cells_of_one hu]
        rfl
    · refine ⟨.agg (vs.take sz).toArray, (vs.drop sz).take (n * sz), ?_, ?_, ?_, ih⟩
      · rw [hsplit]; simp [Value.cells]
      · simp [Value.cells]; omega
      · have : (sz != 1) = true := by simpa using hone
        simp only [this, if_true]
        exact ⟨_, rfl, hr.take sz, fun u hu => h1 u (List.mem_of_mem_take hu)⟩

theorem group_length (ag : Bool) (sz : Nat) : ∀ (n : Nat) (cs : List AV), (group ag sz n cs).length = n
  | 0, _ => rfl
  | n + 1, cs => by simp [group, group_length ag sz n]

theorem RepF.drop {F : Forb} {w : World} {sz : Nat} : ∀ {l : List AV} {vs : List Value} (n : Nat), RepF l sz F w vs → RepF (l.drop n) sz F w (vs.drop (n * sz))
  | l, vs, 0, hr => by simpa using hr
  | [], vs, n + 1, hr => by simp only [RepF] at hr; subst hr; simp [RepF]
  | x :: l, vs, n + 1, hr => by
    simp only [RepF] at hr
    obtain ⟨u, us, rfl, hz, hx, hl⟩ := hr
    have := RepF.drop n hl
    rw [List.drop_succ_cons]
    rwa [Nat.succ_mul, Nat.add_comm, ← List.drop_drop, List.drop_left' (by rw [Array.length_toList, hz])]

theorem RepF.take {F : Forb} {w : World} {sz : Nat} : ∀ {l : List AV} {vs : List Value} (n : Nat), RepF l sz F w vs → RepF (l.take n) sz F w (vs.take (n * sz))
  | l, vs, 0, hr => by simp [RepF]
  | [], vs, n + 1, hr => by simp only [RepF] at hr; subst hr; simp [RepF]
  | x :: l, vs, n + 1, hr => by
    simp only [RepF] at hr
    obtain ⟨u, us, rfl, hz, hx, hl⟩ := hr
    rw [List.take_succ_cons]
    refine ⟨u, us.take (n * sz), ?_, hz, hx, RepF.take n hl⟩
    rw [Nat.succ_mul, Nat.add_comm, List.take_append, List.take_of_length_le (by rw [Array.length_toList, hz]; omega), Array.length_toList, hz]
    simp

section
variable {P : Program} {Bad : Forb} {β : List Value} {h : Heap} {w : World} {a : Act} {s : Slots} {o : Oper}

theorem bound_spec {xo : Option X} {oo : Option Operand} (hs : SlotsRep β h (FOf Bad β) w s a) (hc : chkXo xo oo = true) {d : Nat} {n : Int} (hb : bound (xo.map (X.ev s)) d = some n) :
    (xo = none ∧ oo = none ∧ n = d) ∨ ∃ x y k, xo = some x ∧ oo = some y ∧ a.eval y = .int k n := by
  cases xo with
  | none => cases oo with
    | none => simp [bound] at hb; exact .inl ⟨rfl, rfl, hb.symm⟩
    | some y => simp [chkXo] at hc
  | some x => cases oo with
    | none => simp [chkXo] at hc
    | some y =>
      have h1 := X_rep hs (show chkX x y = true from hc)
      simp only [Option.map_some] at hb
      generalize x.ev s = xv at hb h1
      cases xv <;> simp [bound] at hb
      subst hb
      simp only [Rep] at h1
      exact .inr ⟨x, y, _, rfl, rfl, h1⟩

theorem run_sliceBounds {isSlice : Bool} {len cap : Nat} {lo hi : Option X} {lo' hi' : Option Operand} (hs : SlotsRep β h (FOf Bad β) w s a) (h1 : chkXo lo lo' = true) (h2 : chkXo hi hi' = true)
    {x y : Int} (hx : bound (lo.map (X.ev s)) 0 = some x) (hy : bound (hi.map (X.ev s)) len = some y) (h0 : 0 ≤ x) (hxy : x ≤ y) (hyl : y ≤ len) (hlc : len ≤ cap) :
    (Instr.sliceBounds isSlice len cap (lo'.map a.eval) (hi'.map a.eval) none).run P w = .ok (x.toNat, y.toNat, cap) w := by
  have ey : y = (y.toNat : Int) := by omega
  rcases bound_spec hs h1 hx with ⟨rfl, rfl, hxd⟩ | ⟨x1, x2, k1, rfl, rfl, e1⟩ <;> rcases bound_spec hs h2 hy with ⟨rfl, rfl, hyd⟩ | ⟨y1, y2, k2, rfl, rfl, e2⟩
  · subst hxd; subst hyd
    simp [Instr.sliceBounds]
  · subst hxd
    simp [Instr.sliceBounds, e2, run_sliceBound w k2 y cap _ (by omega) (by omega)]
  · subst hyd
    simp [Instr.sliceBounds, e1, run_sliceBound w k1 x len _ (by omega) (by omega)]
  · have e3 := run_sliceBound (P := P) w k1 x y.toNat .sliceB (by omega) (by omega)
    simp [Instr.sliceBounds, e1, e2, run_sliceBound w k2 y cap _ (by omega) (by omega), e3]

variable (hh : HeapRel Bad β h w) (hs : SlotsRep β h (FOf Bad β) w s a)
include hh hs

theorem sound_slice {x : X} {x' : Operand} {lo hi : Option X} {lo' hi' : Option Operand} {t e : TypeId} {sz : Nat} (ho : o.op = .slice t x' lo' hi' none) (hc : chkX x x' = true) (hl : chkXo lo lo' = true) (hhi : chkXo hi hi' = true)
    (hu : P.underlying t = some (.slice e)) {ti : TypeInfo} (hti : P.info? e = some ti) (hsz : ti.size = sz) {n : Nat} (hn : lenIn (x.ev s) = some n) {l m : Int}
    (hx : bound (lo.map (X.ev s)) 0 = some l) (hy : bound (hi.map (X.ev s)) n = some m) (h0 : 0 ≤ l) (hlm : l ≤ m) (hmn : m ≤ n) {r : AV}
    (hr : (match x.ev s with
      | .nils => some AV.nils
      | .rs g z ll => if z = sz then some (.rs g z ((ll.drop l.toNat).take (m.toNat - l.toNat))) else none
      | .sl z j ver o _ => if z = sz ∧ (objCells h j ver).isSome = true then some (.sl z j ver (o + l.toNat * sz) (m.toNat - l.toNat)) else none
      | _ => none) = some r) : OpSound P Bad β h w a o r h := by
  have h1 := X_rep hs hc
  have hrun : ∀ (ba : Option Addr) (c : Nat), a.eval x' = .slice ba n c → n ≤ c → (execOp a.eval o).run P w = .ok (.value (.slice (if c = l.toNat then ba else ba.map (·.add (l.toNat * sz))) (m.toNat - l.toNat) (c - l.toNat))) w := by
    intro ba c hv hnc
    have hb := run_sliceBounds (P := P) (isSlice := true) (len := n) (cap := c) hs hl hhi hx hy h0 hlm hmn hnc
    simp [execOp, ho, hv, Instr.sliceAt, Instr.slice, run_underlying hu, hb, run_sizeOf hti, hsz]
  split at hr
  · rename_i hxv
    injection hr with hr
    subst hr
    rw [hxv] at h1 hn
    simp only [Rep] at h1
    simp [lenIn] at hn
    subst hn
    have hl0 : l = 0 := by omega
    have hm0 : m = 0 := by omega
    subst hl0; subst hm0
    refine sound_pure hh (hrun none 0 h1 (Nat.le_refl _)) ?_
    simp [Rep]
  · rename_i g z ll hxv
    rw [hxv] at h1 hn
    simp only [Rep] at h1
    simp [lenIn] at hn
    subst hn
    obtain ⟨ba, c, vs, h1, hcap, hz, hf, hro⟩ := h1
    split at hr
    · rename_i hzz
      subst hzz
      injection hr with hr
      subst hr
      refine sound_pure hh (hrun ba c h1 hcap) ?_
      have hlen : ((ll.drop l.toNat).take (m.toNat - l.toNat)).length = m.toNat - l.toNat := by rw [List.length_take, List.length_drop]; omega
      simp only [Rep]
      refine ⟨_, c - l.toNat, ((vs.drop (l.toNat * z)).take ((m.toNat - l.toNat) * z)), by rw [hlen], by rw [hlen]; omega, hz.imp id (fun hc0 => by omega), (hf.drop l.toNat).take _, ?_⟩
      intro j u hu
      have hu2 : vs[l.toNat * z + j]? = some u := by
        simp only [List.getElem?_take, List.getElem?_drop] at hu
        split at hu
        · exact hu
        · cases hu
      obtain ⟨ad, h3, h4, h5, h6⟩ := hro _ u hu2
      subst h3
      have hne : ¬ c = l.toNat := by
        intro hcl
        have hj : j < (m.toNat - l.toNat) * z := by
          simp only [List.getElem?_take] at hu
          split at hu
          · assumption
          · cases hu
        have : m.toNat - l.toNat = 0 := by omega
        rw [this] at hj
        omega
      rw [if_neg hne]
      exact ⟨_, rfl, by rw [Addr.add_block]; exact h4, by rw [Addr.add_add]; exact h5, h6⟩
    · cases hr
  · rename_i z j ver off nn hxv
    rw [hxv] at h1 hn
    simp only [Rep] at h1
    simp [lenIn] at hn
    subst hn
    obtain ⟨hj, ⟨ba, m', c', h01⟩, h1⟩ := h1
    split at hr
    · rename_i hcond
      obtain ⟨rfl, hcur⟩ := hcond
      injection hr with hr
      subst hr
      have h1 := h1 hcur
      cases hbv : β.getD j default <;> rw [hbv] at h1 <;> simp only [SlRep] at h1
      case slice ad mm cc =>
        cases ad with
        | none =>
          simp only at h1
          obtain ⟨h2, h3⟩ := h1
          subst h2
          have hl0 : l = 0 := by omega
          have hm0 : m = 0 := by omega
          subst hl0; subst hm0
          refine sound_pure hh (hrun none 0 h3 (Nat.le_refl _)) ?_
          simp only [Rep]
          refine ⟨hj, ⟨_, _, _, rfl⟩, fun _ => ?_⟩
          rw [hbv]
          simp [SlRep]
        | some ad =>
          simp only at h1
          obtain ⟨o', c, h3, h4, h5, h6, h7⟩ := h1
          refine sound_pure hh (hrun _ c h3 h4) ?_
          simp only [Rep]
          refine ⟨hj, ⟨_, _, _, rfl⟩, fun _ => ?_⟩
          rw [hbv]
          simp only [SlRep]
          by_cases hcl : c = l.toNat
          · refine ⟨o', c - l.toNat, by rw [if_pos hcl], by omega, ?_, .inr (by omega), fun hz0 => ?_⟩
            · rw [← hcl] at *
              rw [Nat.sub_self, Nat.zero_mul, Nat.zero_add, Nat.add_comm]; exact h5
            · exact h7 (by omega)
          · refine ⟨o' + l.toNat * z, c - l.toNat, by rw [if_neg hcl]; simp [Addr.add_lit'], by omega, ?_, ?_, fun hz0 => ?_⟩
            · have : (c - l.toNat) * z + l.toNat * z = c * z := by rw [← Nat.add_mul]; congr 1; omega
              omega
            · rcases h6 with h6 | h6
              · exact .inl (by rw [h6])
              · exact .inr (by omega)
            · have := h7 (by omega)
              omega
      case pointer ad =>
        cases ad with
        | none => simp only at h1
        | some ad =>
          simp only at h1
          obtain ⟨o', c, h3, h4, h6⟩ := h1
          refine sound_pure hh (hrun _ c h3 h4) ?_
          simp only [Rep]
          refine ⟨hj, ⟨_, _, _, rfl⟩, fun _ => ?_⟩
          rw [hbv]
          simp only [SlRep]
          by_cases hcl : c = l.toNat
          · exact ⟨o', c - l.toNat, by rw [if_pos hcl], by omega, .inr (by omega)⟩
          · refine ⟨o' + l.toNat * z, c - l.toNat, by rw [if_neg hcl]; simp [Addr.add_lit'], by omega, ?_⟩
            rcases h6 with h6 | h6
            · exact .inl (by rw [h6])
            · exact .inr (by omega)
    · cases hr
  · cases hr

theorem sound_sliceA {x : X} {x' : Operand} {lo hi : Option X} {lo' hi' : Option Operand} {t e : TypeId} {n sz : Nat} (ho : o.op = .slice t x' lo' hi' none) (hc : chkX x x' = true) (hl : chkXo lo lo' = true) (hhi : chkXo hi hi' = true)
    (hu : P.underlying t = some (.array n e)) {ti : TypeInfo} (hti : P.info? e = some ti) (hsz : ti.size = sz) (hz : 0 < sz) {l m : Int}
    (hx : bound (lo.map (X.ev s)) 0 = some l) (hy : bound (hi.map (X.ev s)) n = some m) (h0 : 0 ≤ l) (hlm : l ≤ m) (hmn : m ≤ n) {r : AV}
    (hr : (match x.ev s with
      | .ref j ver o => match h[j]? with
        | some (.cells _ _ _) => some (AV.sl sz j ver (o + l.toNat * sz) (m.toNat - l.toNat))
        | _ => none
      | .rp g (.agg cs) => if cs.length = n * sz then some (.rs g sz (group (sz != 1) sz (m.toNat - l.toNat) (cs.drop (l.toNat * sz)))) else none
      | _ => none) = some r) : OpSound P Bad β h w a o r h := by
  have h1 := X_rep hs hc
  have hrun : ∀ (ad : Addr), a.eval x' = .pointer (some ad) → (execOp a.eval o).run P w = .ok (.value (.slice (some (if n = l.toNat then ad else ad.add (l.toNat * sz))) (m.toNat - l.toNat) (n - l.toNat))) w := by
    intro ad hv
    have hb := run_sliceBounds (P := P) (isSlice := false) (len := n) (cap := n) hs hl hhi hx hy h0 hlm hmn (Nat.le_refl _)
    simp [execOp, ho, hv, Instr.sliceAt, Instr.sureAddr, run_underlying hu, hb, run_sizeOf hti, hsz]
  split at hr
  · rename_i j ver off hxv
    split at hr
    case h_2 => cases hr
    rename_i ag' vs' t' hobj
    injection hr with hr
    subst hr
    rw [hxv] at h1
    simp only [Rep] at h1
    obtain ⟨hj, ⟨ad, had⟩, h1⟩ := h1
    refine sound_pure hh (hrun ad had) ?_
    simp only [Rep]
    refine ⟨hj, ⟨_, _, _, rfl⟩, fun hcur => ?_⟩
    obtain ⟨b, hb, h2⟩ := h1 hcur
    rw [had] at h2
    injection h2 with h2
    injection h2 with h2
    subst h2
    have hβ : β[j]? = some (β.getD j default) := by rw [List.getD_eq_getElem?_getD, List.getElem?_eq_getElem hj.1]; rfl
    obtain ⟨b', arr', had', _⟩ := hh.obj j _ _ hobj hβ
    rw [had'] at hb ⊢
    simp only [blkOf, Option.some.injEq] at hb
    subst hb
    simp only [SlRep]
    by_cases hcl : n = l.toNat
    · exact ⟨off, n - l.toNat, by rw [if_pos hcl], by omega, .inr (by omega)⟩
    · exact ⟨off + l.toNat * sz, n - l.toNat, by rw [if_neg hcl]; simp [Addr.add_lit'], by omega, .inl rfl⟩
  · rename_i g cs hxv
    rw [hxv] at h1
    simp only [Rep] at h1
    obtain ⟨ad, u, h1, ⟨vs, hu', hlr, hvc⟩, hro⟩ := h1
    split at hr
    · rename_i hlen
      injection hr with hr
      subst hr
      have hcl : u.cells.toList = vs := by rw [hu']; simp [Value.cells]
      rw [hcl] at hro
      refine sound_pure hh (hrun ad h1) ?_
      have hle : (m.toNat - l.toNat) * sz ≤ (cs.drop (l.toNat * sz)).length := by
        rw [List.length_drop, hlen, ← Nat.sub_mul]
        exact Nat.mul_le_mul_right sz (by omega)
      have hg := group_rep hz (m.toNat - l.toNat) (hlr.drop (l.toNat * sz)) (fun u hu => hvc u (List.mem_of_mem_drop hu)) hle
      simp only [Rep]
      refine ⟨_, n - l.toNat, _, by rw [group_length], by rw [group_length]; omega, .inl hz, hg, ?_⟩
      intro j u hu
      have hu2 : vs[l.toNat * sz + j]? = some u := by
        simp only [List.getElem?_take, List.getElem?_drop] at hu
        split at hu
        · exact hu
        · cases hu
      obtain ⟨ad', h3, h4, h5, h6⟩ := hro _ u hu2
      injection h3 with h3
      subst h3
      have hne : ¬ n = l.toNat := by
        intro hcl
        have hj : j < (m.toNat - l.toNat) * sz := by
          simp only [List.getElem?_take] at hu
          split at hu
          · assumption
          · cases hu
        have : m.toNat - l.toNat = 0 := by omega
        rw [this] at hj
        omega
      rw [if_neg hne]
      exact ⟨_, rfl, by rw [Addr.add_block]; exact h4, by rw [Addr.add_add]; exact h5, h6⟩
    · cases hr
  · cases hr

theorem sound_sliceS {x : X} {x' : Operand} {lo hi : Option X} {lo' hi' : Option Operand} {t : TypeId} (ho : o.op = .slice t x' lo' hi' none) (hc : chkX x x' = true) (hl : chkXo lo lo' = true) (hhi : chkXo hi hi' = true)
    (hu : P.underlying t = some .string) {b : ByteArray} (hb : x.ev s = .str b) {l m : Int}
    (hx : bound (lo.map (X.ev s)) 0 = some l) (hy : bound (hi.map (X.ev s)) b.size = some m) (h0 : 0 ≤ l) (hlm : l ≤ m) (hmn : m ≤ b.size) : OpSound P Bad β h w a o (.str (b.extract l.toNat m.toNat)) h := by
  have h1 := X_rep hs hc
  rw [hb] at h1
  simp only [Rep] at h1
  have hbo := run_sliceBounds (P := P) (isSlice := false) (len := b.size) (cap := b.size) hs hl hhi hx hy h0 hlm hmn (Nat.le_refl _)
  exact sound_pure hh (v := .string (b.extract l.toNat m.toNat)) (by simp [execOp, ho, h1, Instr.sliceAt, Instr.slice, run_underlying hu, hbo]) rfl

theorem sound_iaddrA {x i : X} {x' i' : Operand} {t e : TypeId} {n sz : Nat} {ag : Bool} (ho : o.op = .indexAddr t x' i') (hc : chkX x x' = true) (hci : chkX i i' = true)
    (hu : P.underlying t = some (.array n e)) (ht : tyIs P e ag sz = true) {k : IntKind} {m : Int} (hn : i.ev s = .int k m) (h0 : 0 ≤ m) (hlt : m < n) {r : AV}
    (hr : (match x.ev s with
        | .ref l ver o => some (AV.ref l ver (o + m.toNat * sz))
        | .rp g (.agg cs) => if cs.length = n * sz then (partA ag (m.toNat * sz) sz cs).map fun v => (.rp g v) else none
        | _ => none) = some r) : OpSound P Bad β h w a o r h := by
  have h1 := X_rep hs hc
  have h2 := X_rep hs hci
  rw [hn] at h2
  simp only [Rep] at h2
  obtain ⟨ti, d, hti, hd, hsz, hag⟩ := tyIs_spec ht
  have hrun : ∀ ad : Addr, a.eval x' = .pointer (some ad) → (execOp a.eval o).run P w = .ok (.value (.pointer (some (ad.add (m.toNat * sz))))) w := fun ad hy => by
    simp [execOp, ho, hy, h2, Instr.indexAt, asIntOf, run_underlying hu, Instr.sureAddr, run_sizeOf hti, hsz, h0, hlt]
  split at hr
  · rename_i l ver off hx
    injection hr with hr
    subst hr
    rw [hx] at h1
    simp only [Rep] at h1
    obtain ⟨hl, ⟨ad, had⟩, h1⟩ := h1
    refine sound_pure hh (hrun ad had) ?_
    simp only [Rep]
    refine ⟨hl, ⟨_, rfl⟩, fun hv => ?_⟩
    obtain ⟨b, hb, h2⟩ := h1 hv
    rw [had] at h2
    injection h2 with h2
    injection h2 with h2
    subst h2
    exact ⟨b, hb, by rw [Addr.add_lit']⟩
  · rename_i g cs hx
    rw [hx] at h1
    simp only [Rep] at h1
    obtain ⟨ad, u, h1, ⟨vs, hu', hl, hvc⟩, hro⟩ := h1
    split at hr
    case isFalse => cases hr
    case isTrue =>
      cases hp : partA ag (m.toNat * sz) sz cs with
      | none => rw [hp] at hr; cases hr
      | some v =>
        rw [hp] at hr
        injection hr with hr
        subst hr
        obtain ⟨hle, hp⟩ := partA_rep hp hl hvc
        have hcl : u.cells.toList = vs := by rw [hu']; simp [Value.cells]
        rw [hcl] at hro
        refine sound_pure hh (hrun ad h1) ?_
        have hro' : RoAt (FOf Bad β) w g (some (ad.add (m.toNat * sz))) ((vs.drop (m.toNat * sz)).take sz) := by
          intro j u hu
          have hu2 : vs[m.toNat * sz + j]? = some u := by
            simp only [List.getElem?_take, List.getElem?_drop] at hu
            split at hu
            · exact hu
            · cases hu
          obtain ⟨ad', h3, h4, h5, h6⟩ := hro (m.toNat * sz + j) u hu2
          injection h3 with h3
          subst h3
          exact ⟨_, rfl, by rw [Addr.add_block]; exact h4, by rw [Addr.add_add]; exact h5, h6⟩
        simp only [Rep]
        rcases hp with ⟨_, hp⟩ | ⟨_, _, v', hv1, _, hp⟩
        · exact ⟨_, _, rfl, hp, by simpa [Value.cells] using hro'⟩
        · refine ⟨_, v', rfl, hp, ?_⟩
          have h1' : v'.oneCell' = true := hvc v' (List.mem_of_mem_drop (List.mem_of_mem_take (by rw [hv1]; simp)))
          rw [cells_of_one h1', ← hv1]
          exact hro'
  · cases hr

theorem sound_index {x i : X} {x' i' : Operand} {t e : TypeId} {n sz : Nat} {ag : Bool} (ho : o.op = .index t x' i') (hc : chkX x x' = true) (hci : chkX i i' = true)
    (hu : P.underlying t = some (.array n e)) (ht : tyIs P e ag sz = true) {k : IntKind} {m : Int} (hn : i.ev s = .int k m) (h0 : 0 ≤ m) (hlt : m < n) {cs : List AV} (hx : x.ev s = .agg cs) {r : AV}
    (hr : partA ag (m.toNat * sz) sz cs = some r) : OpSound P Bad β h w a o r h := by
  have h1 := X_rep hs hc
  have h2 := X_rep hs hci
  rw [hn] at h2
  rw [hx] at h1
  simp only [Rep] at h2 h1
  obtain ⟨vs, h1, hl, hvc⟩ := h1
  obtain ⟨hle, hp⟩ := partA_rep hr hl hvc
  have hrp := run_part (P := P) (w := w) ht (m.toNat * sz) vs hle
  obtain ⟨ti, d, hti, hd, hsz, hag'⟩ := tyIs_spec ht
  rcases hp with ⟨hag, hp⟩ | ⟨hag, _, v', hv1, hv2, hp⟩
  · refine sound_pure hh ?_ hp
    have := hrp.1 hag
    simp [execOp, ho, h1, h2, Instr.index, asIntOf, run_underlying hu, h0, hlt, run_sizeOf hti, hsz, this]
  · refine sound_pure hh ?_ hp
    have := hrp.2 hag v' hv2
    simp [execOp, ho, h1, h2, Instr.index, asIntOf, run_underlying hu, h0, hlt, run_sizeOf hti, hsz, this]

theorem sound_indexS {x i : X} {x' i' : Operand} {t : TypeId} (ho : o.op = .index t x' i') (hc : chkX x x' = true) (hci : chkX i i' = true)
    (hu : P.underlying t = some .string) {k : IntKind} {m : Int} (hn : i.ev s = .int k m) {b : ByteArray} (hx : x.ev s = .str b) (h0 : 0 ≤ m) (hlt : m < b.size) : OpSound P Bad β h w a o (.int .u8 (b.data.toList.getD m.toNat 0).toNat) h := by
  have h1 := X_rep hs hc
  have h2 := X_rep hs hci
  rw [hn] at h2
  rw [hx] at h1
  simp only [Rep] at h2 h1
  have hlt' : m.toNat < b.size := by omega
  have hg : b[m.toNat]? = some (b.data.toList.getD m.toNat 0) := by
    rw [getElem?_pos b m.toNat hlt']
    congr 1
    have hd : m.toNat < b.data.toList.length := by simpa using hlt'
    rw [List.getD_eq_getElem?_getD, List.getElem?_eq_getElem hd]
    simp
    rfl
  refine sound_pure hh (v := .int .u8 (b.data.toList.getD m.toNat 0).toNat) ?_ rfl
  simp [execOp, ho, h1, h2, Instr.index, asIntOf, run_underlying hu, h0, hg]

theorem sound_lenS {x : X} {x' : Operand} {t : TypeId} (ho : o.op = .call { callee := .builtin .len, args := #[x'], argTypes := #[t] }) (hc : chkX x x' = true)
    (hk : P.underlying t = some .string) {b : ByteArray} (hb : x.ev s = .str b) : OpSound P Bad β h w a o (.int .i64 b.size) h := by
  have h1 := X_rep hs hc
  rw [hb] at h1
  simp only [Rep] at h1
  exact sound_pure hh (v := .int .i64 b.size) (by simp [execOp, ho, h1, resolve, invoke, builtin, Builtin.len_, run_underlying hk, goInt]) rfl

theorem sound_len {x : X} {x' : Operand} {t e : TypeId} (ho : o.op = .call { callee := .builtin .len, args := #[x'], argTypes := #[t] }) (hc : chkX x x' = true)
    (hk : P.underlying t = some (.slice e)) {n : Nat} (hn : lenIn (x.ev s) = some n) (hcu : curOk h (x.ev s) = true) : OpSound P Bad β h w a o (.int .i64 n) h := by
  have h1 := X_rep hs hc
  refine sound_pure hh (v := .int .i64 n) ?_ rfl
  generalize hxv : x.ev s = xv at h1 hn hcu
  cases xv <;> simp only [lenIn, reduceCtorEq, Option.some.injEq] at hn <;> subst hn <;> simp only [Rep] at h1
  case nils => simp [execOp, ho, h1, resolve, invoke, builtin, Builtin.len_, run_underlying hk, goInt]
  case rs g sz l => obtain ⟨ba, c, vs, h1, _⟩ := h1; simp [execOp, ho, h1, resolve, invoke, builtin, Builtin.len_, run_underlying hk, goInt]
  case sl z l ver o n =>
    obtain ⟨_, _, h1⟩ := h1
    have h1 := h1 hcu
    have key : ∃ ba c, a.eval x' = .slice ba n c := by
      cases hbv : β.getD l default <;> rw [hbv] at h1 <;> simp only [SlRep] at h1
      case slice ad mm cc =>
        cases ad with
        | none => simp only at h1; exact ⟨_, _, by rw [h1.1]; exact h1.2⟩
        | some ad => simp only at h1; obtain ⟨o', c, h3, _⟩ := h1; exact ⟨_, _, h3⟩
      case pointer ad =>
        cases ad with
        | none => simp only at h1
        | some ad => simp only at h1; obtain ⟨o', c, h3, _⟩ := h1; exact ⟨_, _, h3⟩
    obtain ⟨ba, c, h2⟩ := key
    simp [execOp, ho, h2, resolve, invoke, builtin, Builtin.len_, run_underlying hk, goInt]

theorem sound_lenA {x' : Operand} {t : TypeId} {n : Nat} (ho : o.op = .call { callee := .builtin .len, args := #[x'], argTypes := #[t] })
    (hu : (∃ e, P.underlying t = some (.array n e)) ∨ ∃ r e, P.underlying t = some (.pointer r) ∧ P.underlying r = some (.array n e)) : OpSound P Bad β h w a o (.int .i64 n) h := by
  refine sound_pure hh (v := .int .i64 n) ?_ rfl
  rcases hu with ⟨e, hu⟩ | ⟨r, e, hu, hr⟩
  · generalize a.eval x' = v
    cases v <;> simp [execOp, ho, resolve, invoke, builtin, Builtin.len_, run_underlying hu, goInt]
  · generalize a.eval x' = v
    cases v <;> simp [execOp, ho, resolve, invoke, builtin, Builtin.len_, run_underlying hu, run_underlying hr, goInt]

end
end Go.Fw
