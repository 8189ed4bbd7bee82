/-
  maps.DeleteFunc over the loans and the rests, as (*Book).Sweep calls it. Conditions: none.
-/
import Derived.Test.YtefkoichicalfaaWdMfree
import Derived.Shelf.Abstract
set_option linter.unusedVariables false
set_option linter.unusedSimpArgs false
namespace Go.Fw.Wd
open Go.Proofs Go.RowKit Code_ Go.Maps

/-! ### what is left while entries are struck -/
def Fl (q : PV × PE → Bool) (el : Ents) (left : Lit → Bool) : Ents := el.filter fun p => !q p || left p.1.lit
theorem Fl_start (q : PV × PE → Bool) (el : Ents) : Fl q el (has (mapD el)) = el := by
  unfold Fl
  refine List.filter_eq_self.2 fun p hp => ?_
  rw [has_self hp]
  simp
theorem Fl_end {q : PV × PE → Bool} {el : Ents} {left : Lit → Bool} (hl : ∀ kl, left kl = false) : Fl q el left = el.filter fun p => !q p := by
  unfold Fl
  exact List.filter_congr fun p _ => by simp [hl]
def OneKey (el : Ents) : Prop := ∀ x ∈ el, ∀ y ∈ el, x.1.lit = y.1.lit → x = y
theorem Fl_at {q : PV × PE → Bool} {el : Ents} {left : Lit → Bool} (ho : OneKey el) {s : PV} (hl : left s.lit = true) {p : PV × PE} (hp : p ∈ el) (hk : p.1.lit = s.lit) : mget s (Fl q el left) = some p.2 := by
  have hpF : p ∈ Fl q el left := List.mem_filter.2 ⟨hp, by rw [hk, hl]; simp⟩
  unfold mget
  cases hf : (Fl q el left).find? (fun x => keq x.1 s) with
  | none =>
    have h1 := List.find?_eq_none.1 hf p hpF
    have : keq p.1 s = true := by unfold keq; rw [hk]; exact keq_self s
    rw [this] at h1
    simp at h1
  | some x =>
    have h1 : keq x.1 s = true := by simpa using List.find?_some (p := fun x : PV × PE => keq x.1 s) hf
    have h2 : x ∈ el := (List.mem_filter.1 (List.mem_of_find?_eq_some hf)).1
    rw [ho x h2 p hp ((keq_lit h1).trans hk.symm)]
    rfl
theorem strike_ne {el : Ents} (ho : OneKey el) {s : PV} {p x : PV × PE} (hp : p ∈ el) (hk : p.1.lit = s.lit) (hx : x ∈ el) (hne : x ≠ p) : x.1.lit.sameKey s.lit = false := by
  cases h : x.1.lit.sameKey s.lit with
  | false => rfl
  | true => exact absurd (ho x hx p hp ((WideAt.sameKey_eq h).trans hk.symm)) hne
theorem Fl_stays {q : PV × PE → Bool} {el : Ents} {left : Lit → Bool} (ho : OneKey el) {s : PV} {p : PV × PE} (hp : p ∈ el) (hk : p.1.lit = s.lit) (hq : q p = false) : Fl q el left = Fl q el (fun z => left z && !z.sameKey s.lit) := by
  unfold Fl
  refine List.filter_congr fun x hx => ?_
  by_cases hxp : x = p
  · subst hxp; simp [hq]
  · have h := strike_ne ho hp hk hx hxp
    simp [h]
theorem Fl_struck {q : PV × PE → Bool} {el : Ents} {left : Lit → Bool} (ho : OneKey el) {s : PV} {p : PV × PE} (hp : p ∈ el) (hk : p.1.lit = s.lit) (hq : q p = true) : mdelE s (Fl q el left) = Fl q el (fun z => left z && !z.sameKey s.lit) := by
  unfold Fl mdelE
  rw [List.filter_filter]
  refine List.filter_congr fun x hx => ?_
  by_cases hxp : x = p
  · subst hxp
    have : keq x.1 s = true := by unfold keq; rw [hk]; exact keq_self s
    have h2 : x.1.lit.sameKey s.lit = true := this
    simp [this, h2, hq]
  · have h2 := strike_ne ho hp hk hx hxp
    have h3 : keq x.1 s = false := h2
    simp [h2, h3]

set_option maxHeartbeats 400000 in
theorem del2_calls (key : Value) (u now : Int) (B : Nat) (w : World) (h : w.cell? ⟨B, 0, none⟩ = some (.int .u64 now)) : Calls Try.prog 44 #[key, .int .u64 u, .pointer (some ⟨B, 0, none⟩)] w fun e w' => e = .returned (.bool (decide (u ≤ now))) ∧ w' = w := by
  go_enter Try.func44, Try.ntmps44
  go_wp2
  go_ret
  exact ⟨rfl, rfl⟩
set_option maxHeartbeats 400000 in
theorem del1_calls (key : Value) (a u now : Int) (f : Bool) (B : Nat) (w : World) (hB : B < w.heap.size) (h : w.cell? ⟨B, 0, none⟩ = some (.int .u64 now)) : Calls Try.prog 42 #[key, .agg #[.int .u32 a, .bool f, .int .u64 u], .pointer (some ⟨B, 0, none⟩)] w fun e w' => e = .returned (.bool (decide (u ≤ now))) ∧ w.grownBy w' none := by
  have ho := over_calls
  have h' : (w.alloc (.cells #[.int .u32 a, .bool f, .int .u64 u] 53)).cell? ⟨B, 0, none⟩ = some (.int .u64 now) := by
    rw [World.cell?_of_block (w := w) (Below.heap_alloc w _ B hB)]; exact h
  go_enter Try.func42, Try.ntmps42
  go_wp2_with (first
    | (go_at_call 39; refine (ho a u now f _).mono ?_; rintro e w2 ⟨rfl, rfl⟩)
    | go_in)
  go_ret
  exact ⟨rfl, (World.grownBy_alloc _ _ none).andThen (World.grownBy_alloc _ _ none) (fun j hj => by cases hj)⟩
theorem key_u32 {key : Value} {kl : Lit} (h : keyOf Try.prog 23 key = some kl) : ∃ n : Int, kl = (PV.i .u32 n).lit := by
  obtain ⟨x, _, h2, _⟩ := keyOf_int_inv Try.underlying23 h
  exact ⟨x, h2⟩
/-- An entry, read. -/
def untV : PE → Option Int
  | ⟨false, [.i .u64 u]⟩ => some u
  | _ => none
def overR (now : Int) (p : PV × PE) : Bool := match untV p.2 with
  | some u => decide (u ≤ now)
  | none => false
def overL (now : Int) (p : PV × PE) : Bool := match lnV p.2 with
  | some (_, _, u) => decide (u ≤ now)
  | none => false
set_option maxRecDepth 100000 in
set_option maxHeartbeats 1000000 in
theorem delR_calls (b B : Nat) (now : Int) (el : Ents) (w : World) (hm : mapIs w b (.int .u32) el) (hB : w.cell? ⟨B, 0, none⟩ = some (.int .u64 now)) (hBb : B ≠ b) (hall : ∀ p ∈ el, (untV p.2).isSome = true) :
    Calls Try.prog 43 #[.map (some b), .func (.func 44) #[] #[.pointer (some ⟨B, 0, none⟩)]] w fun e w' => e = .returned (.tuple #[]) ∧ mapIs w' b (.int .u32) (el.filter fun p => !overR now p) ∧ w.grownBy w' (some b) := by
  have ho : OneKey el := fun x hx y hy e => one_key hm hx hy e
  have HL : Held (mapIs w b (.int .u32) el) := hm
  have hwf := hm.1
  have eg := Go.Proofs.enters_of Try.func44 (by kernel_rfl) rfl
  clear hm
  go_enter Try.func43, Try.ntmps43
  go_wp2_with (first
    | (at_range; have hl' : mapIs _ b (.int .u32) el := HL; refine wpList_range_own _ rfl _ 88 rfl 23 30 (keyed (P := Try.prog) (k := 23) (kk := .int .u32) Try.underlying23) Try.underlying88 rdV b el.length (mapD el) rfl (hl'.own (P := Try.prog) (k := 23) Try.underlying23) ?_; intro w0 hrg0 hg0 hs0)
    | go_in)
  go_frame
  go_loopw [8] (fun _ wr => ∃ (left : Lit → Bool) (cnt : Nat), wr.ranges Try.prog 23 rdV b w.heap.size el.length (mapD (Fl (overR now) el left)) left cnt ∧ w.grownBy wr (some b) ∧ (∀ kl, left kl = true → has (mapD el) kl = true))
    (fun _ wr => wr.rangeLeft b w.heap.size)
  case atStart => exact ⟨_, _, by rw [Fl_start]; exact hrg0, hg0.but _, fun _ h => h⟩
  case round =>
    obtain ⟨left, cnt, hrg, hgw, hle⟩ := hrel
    go_wp2_with (first
      | (at_next; refine wpList_next_ranges _ rfl _ rfl 23 (keyed (P := Try.prog) (k := 23) (kk := .int .u32) Try.underlying23) rdV id id (fun key _ _ => ⟨key, rfl⟩) (fun v _ _ => ⟨v, rfl⟩) b w.heap.size el.length _ _ _ rfl hrg ?_ ?_)
      | go_in)
    · intro _ hl0
      go_wp2
      go_end0
      refine ⟨rfl, ⟨fun p hp => hwf p (List.mem_filter.1 hp).1, Try.prog, 23, Try.underlying23, ?_⟩, hgw⟩
      rw [← Fl_end hl0]
      exact own_tight hrg.owns
    · intro x c kl yd yp w1 cnt1 hkey hlx hv hat hrg1 hlt hg1 hs1 hen
      obtain ⟨n, rfl⟩ := key_u32 hkey
      obtain ⟨p, hp, hks, hget⟩ := entry_at (hle _ hlx)
      have hk : p.1.lit = (PV.i .u32 n).lit := keq_lit hks
      obtain ⟨u, hln⟩ := Option.isSome_iff_exists.1 (hall p hp)
      have hpe : p.2 = ⟨false, [.i .u64 u]⟩ := by
        unfold untV at hln
        split at hln
        · rename_i h; injection hln with hln; rw [h, hln]
        · cases hln
      have hcv : c = .int .u64 u := by
        have h1 := atKey_mapD (Fl (overR now) el left) (.i .u32 n) p.2
        rw [Fl_at ho hlx hp hk] at h1
        rw [hat] at h1
        have h2 := rdV_inv (e := p.2) (by rw [hpe]; rfl) (v := c) (ps := yp) (by rw [hv, h1]; rfl)
        rw [h2, hpe]
        rfl
      subst hcv
      have hq : overR now p = decide (u ≤ now) := by unfold overR; rw [hln]
      have hgw1 := hgw.andThen hg1 (fun j hj => by cases hj; exact Or.inl (Nat.le_refl _))
      have hB1 : w1.cell? ⟨B, 0, none⟩ = some (.int .u64 now) := hgw1.cell hB (by simp [hBb])
      have hc := del2_calls x u now B w1 hB1
      have hle1 : ∀ kl, (left kl && !kl.sameKey (PV.i .u32 n).lit) = true → has (mapD el) kl = true := fun kl h => hle kl (by simp only [Bool.and_eq_true] at h; exact h.1)
      have hrl := hrg1.lt
      clear hv hat
      cases hp' : decide (u ≤ now) with
      | false =>
        rw [hp'] at hc hq
        go_wp2_with (first
          | (go_at_fn 44; refine hc.mono ?_; rintro e w2 ⟨rfl, rfl⟩)
          | go_in)
        go_roundw
        case rel => exact ⟨_, cnt1, by rw [← Fl_stays ho hp hk hq]; exact hrg1, hgw1, hle1⟩
        case measure => rw [hrg1.left_eq, hrg.left_eq]; exact hlt
      | true =>
        rw [hp'] at hc hq
        go_wp2_with (first
          | (go_at_fn 44; refine hc.mono ?_; rintro e w2 ⟨rfl, rfl⟩)
          | (at_delete; refine wpList_delete_ranges _ rfl _ _ 88 23 rfl 30 (keyed (P := Try.prog) (k := 23) (kk := .int .u32) Try.underlying23) Try.underlying88 rdV b w.heap.size el.length _ _ _ rfl hrg1 _ _ rfl hkey ?_; intro w3 cnt3 hrg3 hle3 hturn; go_frame)
          | go_in)
        rw [strike_twice, del_mapD, Fl_struck ho hp hk hq] at hrg3
        go_roundw
        case rel => exact ⟨_, cnt3, hrg3, hgw1.andThen hturn.grown (fun j hj => by cases hj; exact Or.inr rfl), hle1⟩
        case measure => rw [hrg3.left_eq, hrg.left_eq]; omega
set_option maxRecDepth 100000 in
set_option maxHeartbeats 1000000 in
theorem delL_calls (b B : Nat) (now : Int) (el : Ents) (w : World) (hm : mapIs w b Kk.str el) (hB : w.cell? ⟨B, 0, none⟩ = some (.int .u64 now)) (hBb : B ≠ b) (hall : ∀ p ∈ el, (lnV p.2).isSome = true) :
    Calls Try.prog 41 #[.map (some b), .func (.func 42) #[] #[.pointer (some ⟨B, 0, none⟩)]] w fun e w' => e = .returned (.tuple #[]) ∧ mapIs w' b .str (el.filter fun p => !overL now p) ∧ w.grownBy w' (some b) := by
  have ho : OneKey el := fun x hx y hy e => one_key hm hx hy e
  have HL : Held (mapIs w b Kk.str el) := hm
  have hwf := hm.1
  have eg := Go.Proofs.enters_of Try.func42 (by kernel_rfl) rfl
  clear hm
  go_enter Try.func41, Try.ntmps41
  go_wp2_with (first
    | (at_range; have hl' : mapIs _ b Kk.str el := HL; refine wpList_range_own _ rfl _ 87 rfl 9 53 (keyed (P := Try.prog) (k := 9) (kk := .str) Try.underlying9) Try.underlying87 rdV b el.length (mapD el) rfl (hl'.own (P := Try.prog) (k := 9) Try.underlying9) ?_; intro w0 hrg0 hg0 hs0)
    | go_in)
  go_frame
  go_loopw [8] (fun _ wr => ∃ (left : Lit → Bool) (cnt : Nat), wr.ranges Try.prog 9 rdV b w.heap.size el.length (mapD (Fl (overL now) el left)) left cnt ∧ w.grownBy wr (some b) ∧ (∀ kl, left kl = true → has (mapD el) kl = true))
    (fun _ wr => wr.rangeLeft b w.heap.size)
  case atStart => exact ⟨_, _, by rw [Fl_start]; exact hrg0, hg0.but _, fun _ h => h⟩
  case round =>
    obtain ⟨left, cnt, hrg, hgw, hle⟩ := hrel
    go_wp2_with (first
      | (at_next; refine wpList_next_ranges _ rfl _ rfl 9 (keyed (P := Try.prog) (k := 9) (kk := .str) Try.underlying9) rdV id id (fun key _ _ => ⟨key, rfl⟩) (fun v _ _ => ⟨v, rfl⟩) b w.heap.size el.length _ _ _ rfl hrg ?_ ?_)
      | go_in)
    · intro _ hl0
      go_wp2
      go_end0
      refine ⟨rfl, ⟨fun p hp => hwf p (List.mem_filter.1 hp).1, Try.prog, 9, Try.underlying9, ?_⟩, hgw⟩
      rw [← Fl_end hl0]
      exact own_tight hrg.owns
    · intro x c kl yd yp w1 cnt1 hkey hlx hv hat hrg1 hlt hg1 hs1 hen
      obtain ⟨n, rfl⟩ := key_str hkey
      obtain ⟨p, hp, hks, hget⟩ := entry_at (hle _ hlx)
      have hk : p.1.lit = (PV.s n).lit := keq_lit hks
      obtain ⟨⟨a, f, u⟩, hln⟩ := Option.isSome_iff_exists.1 (hall p hp)
      have hpe : p.2 = ⟨true, [.i .u32 a, .b f, .i .u64 u]⟩ := by
        unfold lnV at hln
        split at hln
        · rename_i h; injection hln with hln; injection hln with e1 e2; injection e2 with e2 e3; rw [h, e1, e2, e3]
        · cases hln
      have hcv : c = .agg #[.int .u32 a, .bool f, .int .u64 u] := by
        have h1 := atKey_mapD (Fl (overL now) el left) (.s n) p.2
        rw [Fl_at ho hlx hp hk] at h1
        rw [hat] at h1
        have h2 := rdV_inv (e := p.2) (by rw [hpe]; rfl) (v := c) (ps := yp) (by rw [hv, h1]; rfl)
        rw [h2, hpe]
        rfl
      subst hcv
      have hq : overL now p = decide (u ≤ now) := by unfold overL; rw [hln]
      have hgw1 := hgw.andThen hg1 (fun j hj => by cases hj; exact Or.inl (Nat.le_refl _))
      have hB1 : w1.cell? ⟨B, 0, none⟩ = some (.int .u64 now) := hgw1.cell hB (by simp [hBb])
      have hBs : B < w1.heap.size := World.block_lt_of_cell? w1 _ hB1
      have hB2 : (w1.alloc (.cells #[.int .u32 a, .bool f, .int .u64 u] 53)).cell? ⟨B, 0, none⟩ = some (.int .u64 now) := by
        rw [World.cell?_of_block (w := w1) (Below.heap_alloc w1 _ B hBs)]; exact hB1
      have hc := del1_calls x a u now f B _ (by simp; omega) hB2
      have hrgA := hrg1.alloc (.cells #[.int .u32 a, .bool f, .int .u64 u] 53)
      have hgwA := hgw1.andThen (World.grownBy_alloc w1 (.cells #[.int .u32 a, .bool f, .int .u64 u] 53) none) (fun j hj => by cases hj)
      have hle1 : ∀ kl, (left kl && !kl.sameKey (PV.s n).lit) = true → has (mapD el) kl = true := fun kl h => hle kl (by simp only [Bool.and_eq_true] at h; exact h.1)
      have hrl := hrg1.lt
      clear hv hat
      cases hp' : decide (u ≤ now) with
      | false =>
        rw [hp'] at hc hq
        go_wp2_with (first
          | (go_at_call 42; refine hc.mono ?_; rintro e w2 ⟨rfl, hg2⟩; have hrg2 := hrgA.kept hg2 (by simp) (by simp); have hgw2 := hgwA.andThen hg2 (fun j hj => by cases hj))
          | go_in)
        go_roundw
        case rel => exact ⟨_, cnt1, by rw [← Fl_stays ho hp hk hq]; exact hrg2, hgw2, hle1⟩
        case measure => rw [hrg2.left_eq, hrg.left_eq]; exact hlt
      | true =>
        rw [hp'] at hc hq
        go_wp2_with (first
          | (go_at_call 42; refine hc.mono ?_; rintro e w2 ⟨rfl, hg2⟩; have hrg2 := hrgA.kept hg2 (by simp) (by simp); have hgw2 := hgwA.andThen hg2 (fun j hj => by cases hj))
          | (at_delete; refine wpList_delete_ranges _ rfl _ _ 87 9 rfl 53 (keyed (P := Try.prog) (k := 9) (kk := .str) Try.underlying9) Try.underlying87 rdV b w.heap.size el.length _ _ _ rfl hrg2 _ _ rfl hkey ?_; intro w3 cnt3 hrg3 hle3 hturn; go_frame)
          | go_in)
        rw [strike_twice, del_mapD, Fl_struck ho hp hk hq] at hrg3
        go_roundw
        case rel => exact ⟨_, cnt3, hrg3, hgw2.andThen hturn.grown (fun j hj => by cases hj; exact Or.inr rfl), hle1⟩
        case measure => rw [hrg3.left_eq, hrg.left_eq]; omega
/-! ### as the evaluation may take them -/
def delQ (fS : FuncId) (kk : Kk) (ok : PV × PE → Bool) (q : Int → PV × PE → Bool) (l : Nat) (f : FuncId) (h : Heap) : Option AObj → Option AObj → Option (AV × Heap)
  | some (.map k es), some (.cells false [.int .u64 now] _) => if f = fS ∧ k = kk ∧ es.all ok = true then some (.tup [], h.set l (.map kk (es.filter fun p => !q now p))) else none
  | _, _ => none
def delP (fS : FuncId) (kk : Kk) (ok : PV × PE → Bool) (q : Int → PV × PE → Bool) : List AV → Heap → Option (AV × Heap)
  | [.mp l, .fn f [.ref ln 0 0]], h => delQ fS kk ok q l f h h[l]? h[ln]?
  | _, _ => none
theorem delP_spec {fD fS : FuncId} {kk : Kk} {ok : PV × PE → Bool} {q : Int → PV × PE → Bool} (he : EnterOk Try.prog fD)
    (hD : ∀ (b B : Nat) (now : Int) (el : Ents) (w : World), mapIs w b kk el → w.cell? ⟨B, 0, none⟩ = some (.int .u64 now) → B ≠ b → (∀ p ∈ el, ok p = true) →
      Calls Try.prog fD #[.map (some b), .func (.func fS) #[] #[.pointer (some ⟨B, 0, none⟩)]] w fun e w' => e = .returned (.tuple #[]) ∧ mapIs w' b kk (el.filter fun p => !q now p) ∧ w.grownBy w' (some b)) :
    ∀ vals h r h', delP fS kk ok q vals h = some (r, h') → CallSpecM Try.prog fD vals h r h' := by
  intro vals h r h' hp
  unfold delP at hp
  split at hp
  · rename_i l f ln
    unfold delQ at hp
    split at hp
    · rename_i k es now t hobj hcell
      split at hp
      · rename_i hc
        obtain ⟨rfl, rfl, hall⟩ := hc
        injection hp with hp
        injection hp with h1 h2
        subst h1; subst h2
        refine ⟨he, fun Bad β w us hh hrep => ?_⟩
        obtain ⟨v1, us1, rfl, hv1, v2, us2, rfl, hv2, hr⟩ := hrep
        have hr : us2 = [] := hr
        subst hr
        obtain ⟨b, rfl, hβ, hm⟩ := mp_own hh hobj hv1
        obtain ⟨cs, rfl, hcs⟩ := hv2
        obtain ⟨v3, us3, rfl, hv3, hr⟩ := hcs
        have hr : us3 = [] := hr
        subst hr
        have hv3' := hv3
        obtain ⟨hl3, hp3, hc3⟩ := hv3'
        obtain ⟨b3, hb3, hv3e⟩ := hc3 (by unfold objCells; rw [hcell]; rfl)
        have hβ3 : β[ln]? = some (β.getD ln default) := by rw [List.getD_eq_getElem?_getD, List.getElem?_eq_getElem hl3.1]; rfl
        obtain ⟨b4, arr, hb4, hheap, hvs, _⟩ := hh.obj ln _ _ hcell hβ3
        have e34 : b4 = b3 := by rw [hb4] at hb3; injection hb3
        subst e34
        obtain ⟨v4, us4, he4, hv4, hr4⟩ := hvs
        have hv4 : v4 = .int .u64 now := hv4
        have hr4 : us4 = [] := hr4
        subst hv4; subst hr4
        have hcB : w.cell? ⟨b4, 0, none⟩ = some (.int .u64 now) := by
          have : arr = #[.int .u64 now] := Array.ext' he4
          unfold World.cell?
          rw [hheap, this]
          rfl
        have hne : b4 ≠ b := fun e => by
          have h1 := hh.inj ln l b ⟨_, hβ3, by rw [hb4, e]; rfl⟩ ⟨_, hβ, rfl⟩
          rw [h1, hobj] at hcell
          cases hcell
        subst hv3e
        refine (hD b b4 now es w hm hcB hne (fun p hp => List.all_eq_true.1 hall p hp)).mono ?_
        rintro e w' ⟨rfl, hm', hg⟩
        exact ⟨_, β, rfl, Step.mapTurn hh hobj hβ hg hm', [], rfl, rfl⟩
      · cases hp
    · cases hp
  · cases hp
theorem delR_spec : ∀ vals h r h', delP 44 (.int .u32) (fun p => (untV p.2).isSome) overR vals h = some (r, h') → CallSpecM Try.prog 43 vals h r h' :=
  delP_spec ⟨_, Try.func43, by kernel_rfl, by kernel_rfl⟩ fun b B now el w hm hB hne hall => delR_calls b B now el w hm hB hne hall
theorem delL_spec : ∀ vals h r h', delP 42 .str (fun p => (lnV p.2).isSome) overL vals h = some (r, h') → CallSpecM Try.prog 41 vals h r h' :=
  delP_spec ⟨_, Try.func41, by kernel_rfl, by kernel_rfl⟩ fun b B now el w hm hB hne hall => delL_calls b B now el w hm hB hne hall
end Go.Fw.Wd
