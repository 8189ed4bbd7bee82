/-
  Copy; a value told by its content; a call. Conditions: stated at each.
-/
import Derived.Test.YtefkoichicalfaaFwK
set_option linter.unusedVariables false
set_option linter.unusedSimpArgs false
set_option linter.unusedSectionVars false
namespace Go.Fw
open Go.RowKit (Below)

section
variable {P : Program} {Bad : Forb} {β : List Value} {h : Heap} {w : World} {a : Act} {s : Slots} {o : Oper}

/-- A slice of the run's own: where its cells lie. -/
theorem sl_cells (hh : HeapRel Bad β h w) {sz l ver off n : Nat} {v : Value} (hr : Rep (.sl sz l ver off n) β h (FOf Bad β) w v) {vs : List AV} (hv : objCells h l ver = some vs) (hle : off + n * sz ≤ vs.length) :
    ∃ sa c us, v = .slice sa n c ∧ n ≤ c ∧ RepL ((vs.drop off).take (n * sz)) β h (FOf Bad β) w us ∧ us.length = n * sz ∧ (∀ u ∈ us, u.oneCell' = true) ∧
      ((sa = none ∧ n = 0 ∧ us = []) ∨ ∃ b o' arr t, sa = some ⟨b, o', none⟩ ∧ Owns β l b ∧ w.heap[b]? = some (.cells arr t (0, 0)) ∧ blkOf (β.getD l default) = some b ∧ (o' = off ∨ c = 0) ∧ ∀ (j : Nat) (u : Value), us[j]? = some u → w.cell? ((⟨b, o', none⟩ : Addr).add j) = some u) := by
  simp only [Rep] at hr
  obtain ⟨hl, _, hr⟩ := hr
  have hr := hr (by rw [hv]; rfl)
  have hβ : β[l]? = some (β.getD l default) := by rw [List.getD_eq_getElem?_getD, List.getElem?_eq_getElem hl.1]; rfl
  obtain ⟨_, hor⟩ := own_cells hh hv
  have key : ∀ (b o' c : Nat), v = .slice (some ⟨b, o', none⟩) n c → n ≤ c → (o' = off ∨ c = 0) → blkOf (β.getD l default) = some b →
      ∃ sa c us, v = .slice sa n c ∧ n ≤ c ∧ RepL ((vs.drop off).take (n * sz)) β h (FOf Bad β) w us ∧ us.length = n * sz ∧ (∀ u ∈ us, u.oneCell' = true) ∧
      ((sa = none ∧ n = 0 ∧ us = []) ∨ ∃ b o' arr t, sa = some ⟨b, o', none⟩ ∧ Owns β l b ∧ w.heap[b]? = some (.cells arr t (0, 0)) ∧ blkOf (β.getD l default) = some b ∧ (o' = off ∨ c = 0) ∧ ∀ (j : Nat) (u : Value), us[j]? = some u → w.cell? ((⟨b, o', none⟩ : Addr).add j) = some u) := by
    intro b o' c hveq hnc hoff hb
    rcases hor with ⟨h3, h4⟩ | ⟨b', arr, t', h3, h4, h5, h6, h7⟩
    · rw [h4] at hb; cases hb
    · rw [hb] at h3
      injection h3 with h3
      subst h3
      refine ⟨_, c, ((arr.toList.take vs.length).drop off).take (n * sz), hveq, hnc, (h6.drop off).take _, ?_, fun u hu => h7 u (List.mem_of_mem_drop (List.mem_of_mem_take hu)), .inr ⟨b, o', arr, t', rfl, ⟨_, hβ, hb⟩, h4, hb, hoff, fun j u hu => ?_⟩⟩
      · have e5 : min vs.length arr.toList.length = vs.length := by rw [show arr.toList.length = arr.size from Array.length_toList]; omega
        rw [List.length_take, List.length_drop, List.length_take, e5]; omega
      · rcases hoff with hoff | hoff
        · subst hoff
          rw [Addr.add_lit', cell_of_row w b (o' + j) arr t' (0, 0) h4]
          simp only [List.getElem?_take, List.getElem?_drop] at hu
          split at hu
          · split at hu
            · simpa using hu
            · cases hu
          · cases hu
        · subst hoff
          have : n = 0 := by omega
          subst this
          simp at hu
  cases hbv : β.getD l default <;> rw [hbv] at hr key <;> simp only [SlRep] at hr
  case slice ad mm cc =>
    cases ad with
    | none =>
      simp only at hr
      obtain ⟨h3, h4⟩ := hr
      subst h3
      refine ⟨none, 0, [], h4, Nat.le_refl _, ?_, by simp, by simp, .inl ⟨rfl, rfl, rfl⟩⟩
      rw [Nat.zero_mul, List.take_zero]
      rfl
    | some ad =>
      simp only at hr
      obtain ⟨o', c, h3, h4, _, h5, _⟩ := hr
      exact key ad.block o' c h3 h4 h5 rfl
  case pointer ad =>
    cases ad with
    | none => simp only at hr
    | some ad =>
      simp only at hr
      obtain ⟨o', c, h3, h4, h5⟩ := hr
      exact key ad.block o' c h3 h4 h5 rfl

theorem sound_copy (hh : HeapRel Bad β h w) (hs : SlotsRep β h (FOf Bad β) w s a) {x' y' : Operand} {x y : X} {t t2 e : TypeId} {sz : Nat} (ho : o.op = .call { callee := .builtin .copy, args := #[x', y'], argTypes := #[t, t2] }) (hc : chkX x x' = true) (hc2 : chkX y y' = true)
    (ht : P.underlying t = some (.slice e)) {i : TypeInfo} (hi : P.info? e = some i) (hsize : i.size = sz) (hsz : 0 < sz)
    {ys : List AV} {m : Nat} (hys : cellsIn h sz (y.ev s) = some ys) (hm : lenIn (y.ev s) = some m) (hall : ys.all storable = true) {l ver off n : Nat} (hx : x.ev s = .sl sz l ver off n) {h' : Heap}
    (hst : storeAt h l ver off (min m n * sz) (.agg (ys.take (min m n * sz))) = some h') (hcu : ∃ vs, objCells h l ver = some vs ∧ off + n * sz ≤ vs.length) :
    OpSound P Bad β h w a o (.int .i64 (min m n : Nat)) h' := by
  have h1 := X_rep hs hc
  have h2 := X_rep hs hc2
  rw [hx] at h1
  obtain ⟨sa, c, us, e1, e2, e3, e4, e5⟩ := src_cells hh h2 hys hm hall hsz
  obtain ⟨vs, hv, hle⟩ := hcu
  obtain ⟨da, dc, ds, d1, d2, _, _, _, d3⟩ := sl_cells hh h1 hv hle
  obtain ⟨s1, s2, vs', obj, s3, s4, s5, s6⟩ := storeAt_spec hst
  rw [hv] at s3
  injection s3 with s3
  subst s3
  simp only [cellsOf] at s1 s6
  have hlen : ys.length = m * sz := by rw [e2.length]; exact e3
  have hkm : min m n * sz ≤ m * sz := Nat.mul_le_mul_right _ (Nat.min_le_left _ _)
  have hfc : ∀ w : World, (∃ ad, sa = some ad ∧ ∀ (j : Nat) (u : Value), us[j]? = some u → w.cell? (ad.add j) = some u) → (Builtin.firstCells sz (Nat.min m n) (.slice sa m c)).run P w = .ok (us.take (min m n * sz)).toArray w := by
    rintro w ⟨ad, rfl, hc⟩
    exact run_firstCells_some (P := P) w sz (Nat.min m n) ad m c _ (by rw [List.length_take, e3]; exact Nat.min_eq_left hkm) (fun j u hu => hc j u (by
      rw [List.getElem?_take] at hu
      split at hu
      · exact hu
      · cases hu))
  have hzero : min m n = 0 → OpSound P Bad β h w a o (.int .i64 (min m n : Nat)) h' := by
    intro hk
    have hh' : h' = h := by
      rw [s6, hk]
      simp only [Nat.zero_mul, List.take_zero, List.append_nil, List.length_nil, Nat.add_zero, List.take_append_drop]
      have : withCells obj vs = obj := by
        unfold objCells at hv
        rw [s4] at hv
        cases obj <;> simp only [withCells] at hv ⊢
        · split at hv
          · injection hv with hv; rw [hv]
          · cases hv
        · split at hv
          · injection hv with hv; rw [hv]
          · cases hv
      rw [this]
      exact list_set_self s4
    rw [hh', hk]
    refine sound_pure hh (v := goInt 0) ?_ rfl
    have hk' : Nat.min m n = 0 := hk
    have hf0 : (Builtin.firstCells sz 0 (.slice sa m c)).run P w = .ok #[] w := by
      cases sa <;> simp [Builtin.firstCells, loadCells, loadCellsFrom]
    cases da <;> simp [execOp, ho, d1, e1, resolve, invoke, builtin, Builtin.copy_, run_underlying ht, Builtin.lenOf, hk', run_sizeOf hi, hsize, hf0, storeCells]
  by_cases hk : min m n = 0
  · exact hzero hk
  · have hm0 : m ≠ 0 := by omega
    have hn0 : n ≠ 0 := by omega
    have hsrc : ∃ ad, sa = some ad ∧ ∀ (j : Nat) (u : Value), us[j]? = some u → w.cell? (ad.add j) = some u := by
      rcases e5 with ⟨_, h3, _⟩ | ⟨_, h3⟩ | h3
      · exact absurd h3 hm0
      · exact absurd h3 hm0
      · exact h3
    rcases d3 with ⟨_, h3, _⟩ | ⟨b, o', arr, t', d4, d5, d6, d7, d8, _⟩
    · exact absurd h3 hn0
    · have : o' = off := d8.resolve_right (by omega)
      subst this
      subst d4
      have hul : (us.take (min m n * sz)).length = min m n * sz := by rw [List.length_take, e3]; exact Nat.min_eq_left hkm
      have hu1 : ∀ u ∈ us.take (min m n * sz), u.oneCell' = true := fun u hu => e4 u (List.mem_of_mem_take hu)
      obtain ⟨_, ⟨_, g3⟩ | ⟨b', arr', t'', g3, g4, g5, g6, g7⟩⟩ := own_cells hh hv
      · rw [g3] at d7; cases d7
      · rw [d7] at g3
        injection g3 with g3
        subst g3
        rw [d6] at g4
        injection g4 with g4
        injection g4 with g4 _ _
        subst g4
        have hstep := Step.write hh hv d7 d6 (o := o') (e2.take (min m n * sz)) hu1 (by rw [s1]; exact s5) s4
        rw [← s6] at hstep
        have hrs := run_storeCells_at P b o' t' (us.take (min m n * sz)) 0 arr w d6 (by rw [hul]; omega) hu1
        simp only [Nat.add_zero] at hrs
        refine sound_value (v := goInt (min m n : Nat)) ?_ hstep rfl
        have hf := hfc w hsrc
        simp [execOp, ho, d1, e1, resolve, invoke, builtin, Builtin.copy_, run_underlying ht, Builtin.lenOf, run_sizeOf hi, hsize, hf, hrs]

/-! ### a value told by its content -/

/-- Not gone. -/
def objLive (h : Heap) (l : Nat) : Bool :=
  match h[l]? with
  | some .gone => false
  | _ => true

theorem snapL_rep {g : Bool} {d : Nat} {F F2 : Forb} (ih : ∀ x y v, snap g h d x = some y → Rep x β h F w v → (hasOwn x = true → ∀ l k, Owns β l k → objLive h l = true → ¬ F2 g k) → Rep y [] [] F2 w v) :
    ∀ (l ws : List AV) (vs : List Value), l.mapM (snap g h d) = some ws → RepL l β h F w vs → (hasOwn.hasOwnL l = true → ∀ l k, Owns β l k → objLive h l = true → ¬ F2 g k) → RepL ws [] [] F2 w vs
  | [], ws, vs, hm, hr, _ => by simp at hm; subst hm; exact hr
  | x :: l, ws, vs, hm, hr, ho => by
    simp only [List.mapM_cons, Option.bind_eq_bind, Option.pure_def] at hm
    cases hx : snap g h d x with
    | none => rw [hx] at hm; cases hm
    | some y =>
      cases hl : l.mapM (snap g h d) with
      | none => rw [hx, hl] at hm; cases hm
      | some ys =>
        rw [hx, hl] at hm
        simp only [Option.bind_some, Option.some.injEq] at hm
        subst hm
        simp only [RepL] at hr
        obtain ⟨u, us, rfl, hxr, hlr⟩ := hr
        exact ⟨u, us, rfl, ih x y u hx hxr (fun h1 => ho (by simp [hasOwn.hasOwnL, h1])), snapL_rep ih l ys us hl hlr (fun h1 => ho (by simp [hasOwn.hasOwnL, h1]))⟩

theorem mapM_length {α γ : Type} {f : α → Option γ} : ∀ {l : List α} {ws : List γ}, l.mapM f = some ws → ws.length = l.length
  | [], ws, hm => by simp at hm; subst hm; rfl
  | x :: l, ws, hm => by
    simp only [List.mapM_cons, Option.bind_eq_bind, Option.pure_def] at hm
    cases hx : f x with
    | none => rw [hx] at hm; cases hm
    | some y =>
      cases hl : l.mapM f with
      | none => rw [hx, hl] at hm; cases hm
      | some ys =>
        rw [hx, hl] at hm
        simp only [Option.bind_some, Option.some.injEq] at hm
        subst hm
        simp [mapM_length hl]

theorem snap_rep (hh : HeapRel Bad β h w) (g : Bool) {F2 : Forb} (hF : ∀ g' k, ¬ FOf Bad β g' k → ¬ F2 g' k) :
    ∀ (d : Nat) (x y : AV) (v : Value), snap g h d x = some y → Rep x β h (FOf Bad β) w v → (hasOwn x = true → ∀ l k, Owns β l k → objLive h l = true → ¬ F2 g k) → Rep y [] [] F2 w v
  | 0, x, y, v, hx, _, _ => by simp [snap] at hx
  | d + 1, x, y, v, hx, hr, ho => by
    have ih := snap_rep hh g hF d
    have hok : Ok (FOf Bad β) w F2 w := fun g' k _ hf _ => ⟨hF g' k hf, rfl⟩
    cases x <;> simp only [snap, Option.some.injEq] at hx
    case undef => subst hx; trivial
    case bool => subst hx; exact hr
    case int => subst hx; exact hr
    case str => subst hx; exact hr
    case nils => subst hx; exact hr
    case rs g' sz l => subst hx; exact Rep.step hok (.rs g' sz l) Keep.nil hr
    case nilp => subst hx; exact hr
    case rp g' x => subst hx; exact Rep.step hok (.rp g' x) Keep.nil hr
    case nilf => subst hx; exact hr
    case nili => subst hx; exact hr
    case nilm => subst hx; exact hr
    case rm g' kk es => subst hx; exact Rep.step hok (.rm g' kk es) Keep.nil hr
    case mp l =>
      have hown := ho (by simp [hasOwn])
      split at hx
      · rename_i kk es hobj
        injection hx with hx
        subst hx
        simp only [Rep] at hr ⊢
        obtain ⟨hl, _, hc⟩ := hr
        have hβ : β[l]? = some (β.getD l default) := by rw [List.getD_eq_getElem?_getD, List.getElem?_eq_getElem hl.1]; rfl
        obtain ⟨b, hb, hm⟩ := hh.obj l _ _ hobj hβ
        refine ⟨b, by rw [hc (by simp [isMapO, hobj]), hb], hown l b ⟨_, hβ, by rw [hb]; rfl⟩ (by simp [objLive, hobj]), hm⟩
      · cases hx
    case fn f cap =>
      cases hm : cap.mapM (snap g h d) with
      | none => rw [hm] at hx; cases hx
      | some ws =>
        rw [hm] at hx
        injection hx with hx
        subst hx
        simp only [Rep] at hr ⊢
        obtain ⟨vs, rfl, hl⟩ := hr
        exact ⟨vs, rfl, snapL_rep ih cap ws vs hm hl (fun h1 => ho (by simpa [hasOwn] using h1))⟩
    case iface t x =>
      cases hm : snap g h d x with
      | none => rw [hm] at hx; cases hx
      | some z =>
        rw [hm] at hx
        injection hx with hx
        subst hx
        simp only [Rep] at hr ⊢
        obtain ⟨u, rfl, hl⟩ := hr
        exact ⟨u, rfl, ih x z u hm hl (fun h1 => ho (by simpa [hasOwn] using h1))⟩
    case agg cs =>
      cases hm : cs.mapM (snap g h d) with
      | none => rw [hm] at hx; cases hx
      | some ws =>
        rw [hm] at hx
        injection hx with hx
        subst hx
        simp only [Rep] at hr ⊢
        obtain ⟨vs, rfl, hl, h1⟩ := hr
        exact ⟨vs, rfl, snapL_rep ih cs ws vs hm hl (fun h1 => ho (by simpa [hasOwn] using h1)), h1⟩
    case tup cs =>
      cases hm : cs.mapM (snap g h d) with
      | none => rw [hm] at hx; cases hx
      | some ws =>
        rw [hm] at hx
        injection hx with hx
        subst hx
        simp only [Rep] at hr ⊢
        obtain ⟨vs, rfl, hl⟩ := hr
        exact ⟨vs, rfl, snapL_rep ih cs ws vs hm hl (fun h1 => ho (by simpa [hasOwn] using h1))⟩
    case ref l ver off =>
      have hown := ho (by simp [hasOwn])
      split at hx
      · rename_i ag vs t hobj
        split at hx
        · rename_i hvo
          obtain ⟨rfl, rfl⟩ := hvo
          cases hm : vs.mapM (snap g h d) with
          | none => rw [hm] at hx; cases hx
          | some ws =>
            rw [hm] at hx
            simp only [Option.bind_some] at hx
            cases hoc : ofCells ag ws.length ws with
            | none => rw [hoc] at hx; cases hx
            | some z =>
              rw [hoc] at hx
              injection hx with hx
              subst hx
              simp only [Rep] at hr
              obtain ⟨hl, _, hr⟩ := hr
              obtain ⟨b, hb, rfl⟩ := hr (by simp [objCells, hobj])
              have hβ : β[l]? = some (β.getD l default) := by rw [List.getD_eq_getElem?_getD, List.getElem?_eq_getElem hl.1]; rfl
              obtain ⟨b', arr, h3, h4, h5, h6⟩ := hh.obj l _ _ hobj hβ
              rw [h3] at hb
              simp only [blkOf, Option.some.injEq] at hb
              subst hb
              have hws := snapL_rep ih vs ws arr.toList hm h5 (fun _ => hown)
              have hnb : ¬ F2 g b' := hown l b' ⟨_, hβ, by rw [h3]; rfl⟩ (by simp [objLive, hobj])
              have hro : RoAt F2 w g (some ⟨b', 0, none⟩) arr.toList := fun i u hu =>
                ⟨_, rfl, hnb, by rw [Addr.add_lit', Nat.zero_add, cell_of_row w b' i arr t (0, 0) h4]; simpa using hu, h6 u (List.mem_of_getElem? hu)⟩
              simp only [Rep]
              unfold ofCells at hoc
              rw [if_pos rfl] at hoc
              cases ag
              · simp only [Bool.false_eq_true, if_false] at hoc
                split at hoc
                · rename_i z'
                  injection hoc with hoc
                  subst hoc
                  simp only [RepL] at hws
                  obtain ⟨u, us, h7, h8, h9⟩ := hws
                  subst h9
                  have hu1 : u.oneCell' = true := h6 u (by rw [h7]; simp)
                  refine ⟨_, u, rfl, h8, ?_⟩
                  rw [cells_of_one hu1]
                  rw [h7] at hro
                  exact hro
                · cases hoc
              · simp only [if_true] at hoc
                injection hoc with hoc
                subst hoc
                exact ⟨_, .agg arr, rfl, ⟨arr.toList, by simp, hws, h6⟩, by simpa [Value.cells] using hro⟩
        · cases hx
      · cases hx
    case sl sz l ver off n =>
      have hown := ho (by simp [hasOwn])
      have key : objLive h l = true → ((objCells h l ver).bind fun vs => if 0 < sz ∧ off + n * sz ≤ vs.length then (((vs.drop off).take (n * sz)).mapM (snap g h d)).map fun ws => AV.rs g sz (group (sz != 1) sz n ws) else none) = some y → Rep y [] [] F2 w v := by
        intro hlive hx
        cases hv : objCells h l ver with
        | none => rw [hv] at hx; cases hx
        | some vs =>
          rw [hv] at hx
          simp only [Option.bind_some] at hx
          split at hx
          · rename_i hcond
            obtain ⟨hz, hle⟩ := hcond
            cases hm : ((vs.drop off).take (n * sz)).mapM (snap g h d) with
            | none => rw [hm] at hx; cases hx
            | some ws =>
              rw [hm] at hx
              injection hx with hx
              subst hx
              obtain ⟨sa, c, us, h1, h2, h3, h4, h5, h6⟩ := sl_cells hh hr hv hle
              have hws := snapL_rep ih _ ws us hm h3 (fun _ => hown)
              have hg := group_rep hz n hws h5 (by rw [hws.length, h4]; exact Nat.le_refl _)
              simp only [Rep]
              refine ⟨sa, c, us.take (n * sz), by rw [group_length]; exact h1, by rw [group_length]; exact h2, .inl hz, hg, ?_⟩
              rw [List.take_of_length_le (by omega)]
              intro i u hu
              rcases h6 with ⟨_, _, h7⟩ | ⟨b, o', arr, t, rfl, h8, _, _, _, h9⟩
              · subst h7; simp at hu
              · exact ⟨_, rfl, hown l b h8 hlive, h9 i u hu, h5 u (List.mem_of_getElem? hu)⟩
          · cases hx
      split at hx
      · rename_i hobj; exact key (by simp [objLive, hobj]) hx
      · rename_i hobj; exact key (by simp [objLive, hobj]) hx
      · cases hx

/-! ### what a call owes -/

mutual
theorem snap_noOwn {g : Bool} {h : Heap} : ∀ (d : Nat) (x y : AV), snap g h d x = some y → hasOwn y = false
  | 0, x, y, hx => by simp [snap] at hx
  | d + 1, x, y, hx => by
    cases x <;> simp only [snap, Option.some.injEq] at hx
    case fn f cap =>
      cases hm : cap.mapM (snap g h d) with
      | none => rw [hm] at hx; cases hx
      | some ws => rw [hm] at hx; injection hx with hx; subst hx; simpa [hasOwn] using snapL_noOwn d cap ws hm
    case iface t x =>
      cases hm : snap g h d x with
      | none => rw [hm] at hx; cases hx
      | some z => rw [hm] at hx; injection hx with hx; subst hx; simpa [hasOwn] using snap_noOwn d x z hm
    case agg cs =>
      cases hm : cs.mapM (snap g h d) with
      | none => rw [hm] at hx; cases hx
      | some ws => rw [hm] at hx; injection hx with hx; subst hx; simpa [hasOwn] using snapL_noOwn d cs ws hm
    case tup cs =>
      cases hm : cs.mapM (snap g h d) with
      | none => rw [hm] at hx; cases hx
      | some ws => rw [hm] at hx; injection hx with hx; subst hx; simpa [hasOwn] using snapL_noOwn d cs ws hm
    case ref l ver off =>
      split at hx
      · split at hx
        · cases hm : (List.mapM (snap g h d) ‹List AV›) with
          | none => rw [hm] at hx; cases hx
          | some ws =>
            rw [hm] at hx
            simp only [Option.bind_some] at hx
            cases hoc : ofCells _ ws.length ws with
            | none => rw [hoc] at hx; cases hx
            | some z => rw [hoc] at hx; injection hx with hx; subst hx; rfl
        · cases hx
      · cases hx
    case sl sz l ver off n =>
      have key : ((objCells h l ver).bind fun vs => if 0 < sz ∧ off + n * sz ≤ vs.length then (((vs.drop off).take (n * sz)).mapM (snap g h d)).map fun ws => AV.rs g sz (group (sz != 1) sz n ws) else none) = some y → hasOwn y = false := by
        intro hx
        cases hv : objCells h l ver with
        | none => rw [hv] at hx; cases hx
        | some vs =>
          rw [hv] at hx
          simp only [Option.bind_some] at hx
          split at hx
          · cases hm : ((vs.drop off).take (n * sz)).mapM (snap g h d) with
            | none => rw [hm] at hx; cases hx
            | some ws => rw [hm] at hx; injection hx with hx; subst hx; rfl
          · cases hx
      split at hx
      · exact key hx
      · exact key hx
      · cases hx
    case mp l =>
      split at hx
      · injection hx with hx; subst hx; rfl
      · cases hx
    all_goals (subst hx; rfl)
theorem snapL_noOwn {g : Bool} {h : Heap} : ∀ (d : Nat) (l ws : List AV), l.mapM (snap g h d) = some ws → hasOwn.hasOwnL ws = false
  | d, [], ws, hm => by simp at hm; subst hm; rfl
  | d, x :: l, ws, hm => by
    simp only [List.mapM_cons, Option.bind_eq_bind, Option.pure_def] at hm
    cases hx : snap g h d x with
    | none => rw [hx] at hm; cases hm
    | some y =>
      cases hl : l.mapM (snap g h d) with
      | none => rw [hx, hl] at hm; cases hm
      | some ys =>
        rw [hx, hl] at hm
        simp only [Option.bind_some, Option.some.injEq] at hm
        subst hm
        simp [hasOwn.hasOwnL, snap_noOwn d x y hx, snapL_noOwn d l ys hl]
end

def objNoOwn : AObj → Prop
  | .cells _ vs _ | .row _ _ vs _ => hasOwn.hasOwnL vs = false
  | .gone => True
  | .hole => True
  | .map _ _ => True

/-- The machine can enter this function. -/
def EnterOk (P : Program) (f : FuncId) : Prop := ∃ fn, P.funcs[f]? = some fn ∧ (fn.name == "runtime.NumGoroutine") = false ∧ fn.body.isNone = false

/-- A call of f on values that are only read hands back r, and rows of the caller's own. -/
def CallSpec (P : Program) (f : FuncId) (args : List AV) (r : AV) (objs : Heap) : Prop :=
  EnterOk P f ∧ (∀ o ∈ objs, objNoOwn o) ∧ ∀ (Bad : Forb) (w : World) (us : List Value), BadOk Bad w → RepL args [] [] Bad w us →
    Calls P f us.toArray w fun e w' => ∃ v βr, e = .returned v ∧ Below w.heap.size w w' ∧ HeapRel Bad βr objs w' ∧ (∀ l k, Owns βr l k → w.heap.size ≤ k) ∧ Rep r βr objs (FOf Bad βr) w' v

mutual
theorem Rep.noG {F F2 : Forb} {w : World} (hF : ∀ k, ¬ F false k → ¬ F2 false k) : ∀ (x : AV) (hx : noG x = true) {β : List Value} {h : Heap} {v : Value}, Rep x β h F w v → Rep x β h F2 w v
  | .undef, _, _, _, _, _ => trivial
  | .bool b, _, _, _, _, hr => hr
  | .int k n, _, _, _, _, hr => hr
  | .str s, _, _, _, _, hr => hr
  | .nils, _, _, _, _, hr => hr
  | .rs g sz l, hx, _, _, _, hr => by
    simp only [noG, Bool.and_eq_true, Bool.not_eq_true'] at hx
    simp only [Rep] at hr ⊢
    obtain ⟨a, c, vs, rfl, hc, hz, hf, hro⟩ := hr
    refine ⟨a, c, vs, rfl, hc, hz, RepF.noG hF l hx.2 hf, fun i u hu => ?_⟩
    obtain ⟨ad, h1, h2, h3, h4⟩ := hro i u hu
    rw [hx.1] at h2 ⊢
    exact ⟨ad, h1, hF _ h2, h3, h4⟩
  | .nilp, _, _, _, _, hr => hr
  | .rp g x, hx, _, _, _, hr => by
    simp only [noG, Bool.and_eq_true, Bool.not_eq_true'] at hx
    simp only [Rep] at hr ⊢
    obtain ⟨a, u, rfl, hxr, hro⟩ := hr
    refine ⟨a, u, rfl, Rep.noG hF x hx.2 hxr, fun i u hu => ?_⟩
    obtain ⟨ad, h1, h2, h3, h4⟩ := hro i u hu
    rw [hx.1] at h2 ⊢
    exact ⟨ad, h1, hF _ h2, h3, h4⟩
  | .ref l ver o, _, _, _, _, hr => hr
  | .sl sz l ver o n, _, _, _, _, hr => hr
  | .nilf, _, _, _, _, hr => hr
  | .fn f cap, hx, _, _, _, hr => by
    simp only [Rep] at hr ⊢
    obtain ⟨vs, rfl, hl⟩ := hr
    exact ⟨vs, rfl, RepL.noG hF cap (by simpa [Fw.noG] using hx) hl⟩
  | .nili, _, _, _, _, hr => hr
  | .iface t x, hx, _, _, _, hr => by
    simp only [Rep] at hr ⊢
    obtain ⟨y, rfl, h⟩ := hr
    exact ⟨y, rfl, Rep.noG hF x (by simpa [Fw.noG] using hx) h⟩
  | .agg cs, hx, _, _, _, hr => by
    simp only [Rep] at hr ⊢
    obtain ⟨vs, rfl, hl, h1⟩ := hr
    exact ⟨vs, rfl, RepL.noG hF cs (by simpa [Fw.noG] using hx) hl, h1⟩
  | .tup cs, hx, _, _, _, hr => by
    simp only [Rep] at hr ⊢
    obtain ⟨vs, rfl, hl⟩ := hr
    exact ⟨vs, rfl, RepL.noG hF cs (by simpa [Fw.noG] using hx) hl⟩
  | .nilm, _, _, _, _, hr => hr
  | .mp l, _, _, _, _, hr => hr
  | .rm g kk es, hx, _, _, _, hr => by
    simp only [Fw.noG, Bool.not_eq_true'] at hx
    simp only [Rep] at hr ⊢
    obtain ⟨b, h1, h2, h3⟩ := hr
    rw [hx] at h2 ⊢
    exact ⟨b, h1, hF _ h2, h3⟩
theorem RepL.noG {F F2 : Forb} {w : World} (hF : ∀ k, ¬ F false k → ¬ F2 false k) : ∀ (l : List AV) (hx : noG.noGL l = true) {β : List Value} {h : Heap} {vs : List Value}, RepL l β h F w vs → RepL l β h F2 w vs
  | [], _, _, _, _, hr => hr
  | x :: l, hx, _, _, _, hr => by
    simp only [noG.noGL, Bool.and_eq_true] at hx
    simp only [RepL] at hr ⊢
    obtain ⟨u, us, rfl, h1, h2⟩ := hr
    exact ⟨u, us, rfl, Rep.noG hF x hx.1 h1, RepL.noG hF l hx.2 h2⟩
theorem RepF.noG {F F2 : Forb} {w : World} (hF : ∀ k, ¬ F false k → ¬ F2 false k) : ∀ (l : List AV) (hx : noG.noGL l = true) {sz : Nat} {vs : List Value}, RepF l sz F w vs → RepF l sz F2 w vs
  | [], _, _, _, hr => hr
  | x :: l, hx, _, _, hr => by
    simp only [noG.noGL, Bool.and_eq_true] at hx
    simp only [RepF] at hr ⊢
    obtain ⟨u, us, rfl, hz, h1, h2⟩ := hr
    exact ⟨u, us, rfl, hz, Rep.noG hF x hx.1 h1, RepF.noG hF l hx.2 h2⟩
end

theorem HeapRel.change {Bad Bad2 : Forb} {βr : List Value} {objs : Heap} {w : World} (hr : HeapRel Bad βr objs w) (hno : ∀ o ∈ objs, objNoOwn o)
    (hbad : BadOk Bad2 w) (hfree : ∀ l k g, Owns βr l k → ¬ Bad2 g k)
    (hrep : ∀ vs us, (∃ o ∈ objs, (match o with | .cells _ vs' _ | .row _ _ vs' _ => vs' = vs | .gone => False | .hole => False | .map _ _ => False)) → RepL vs βr objs (FOf Bad βr) w us → RepL vs βr objs (FOf Bad2 βr) w us) : HeapRel Bad2 βr objs w := by
  refine ⟨hr.len, hr.inj, hr.lt, hfree, hbad, fun l o bv ho hbv => ?_⟩
  have h1 := hr.obj l o bv ho hbv
  have hmem := List.mem_of_getElem? ho
  cases o with
  | gone => trivial
  | hole => trivial
  | map kk es => exact h1
  | cells ag vs t =>
    obtain ⟨b, arr, h2, h3, h4, h5⟩ := h1
    exact ⟨b, arr, h2, h3, hrep vs _ ⟨_, hmem, rfl⟩ h4, h5⟩
  | row ver sz vs t =>
    obtain ⟨hz, n, xs, h2, h4, h5⟩ := h1
    exact ⟨hz, n, xs, h2, hrep vs _ ⟨_, hmem, rfl⟩ h4, h5⟩

end
end Go.Fw
