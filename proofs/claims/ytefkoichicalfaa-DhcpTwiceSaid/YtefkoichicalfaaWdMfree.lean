/-
  (*Book).Free, as the evaluation may take it. Conditions: none.
-/
import Derived.Test.YtefkoichicalfaaFwU
import Derived.Test.YtefkoichicalfaaWdCode
import Derived.Test.YtefkoichicalfaaChecked
import Derived.WalkKit
import Derived.WalkSpells
import Derived.WalkLawsBesides
import Derived.ProofKit
import Derived.Maps.RangeWalk
import Derived.Maps.OwnSet
set_option linter.unusedVariables false
set_option linter.unusedSimpArgs false
namespace Go.Fw.Wd
open Go.Proofs Go.RowKit Code_ Go.Maps

/-- A time within its bounds; whether a loan is over. -/
def bnd (now : Int) : Int := if 2305843009213693952 < now then 2305843009213693952 else now
set_option maxHeartbeats 400000 in
theorem bound_calls (n : Int) (w : World) : Calls Try.prog 40 #[.int .u64 n] w fun e w' => e = .returned (.int .u64 (bnd n)) ∧ w' = w := by
  go_enter Try.func40, Try.ntmps40
  go_wp2
  all_goals go_ret
  all_goals refine ⟨?_, rfl⟩
  · simp [bnd, if_pos h]
  · simp [bnd, if_neg (by omega : ¬ 2305843009213693952 < n)]
/-- A look-up in a map that is only read. -/
theorem look_run {w : World} {b : Nat} {kk : Kk} {es : Ents} (hm : mapIs w b kk es) {t kt et : TypeId} (ht : mapTy Try.prog t = some (kt, et)) (hk : kindB Try.prog kt kk = true) {z : PE} (hz : zeroP Try.prog et z = true) {p : PV} (hkp : kk.has p = true) :
    (Instr.lookup t (.map (some b)) p.val false).run Try.prog w = .ok ((mget p es).getD z).val w := by
  have hkd := kindB_spec hk
  obtain ⟨hzr, hzw⟩ := zeroP_spec hz
  obtain ⟨v, ps, hrun, hv⟩ := (hm.own hkd).lookup (keyed hkd) (mapTy_spec ht) (hzr w) (rdV_val hzw) (keyOf_val hkd hkp)
  rw [atKey_mapD] at hv
  have hwf : ((mget p es).getD z).wf = true := by
    unfold mget
    cases hf : es.find? (fun q => keq q.1 p) with
    | none => exact hzw
    | some q => exact hm.1 q (List.mem_of_find?_eq_some hf)
  rw [rdV_inv hwf hv] at hrun
  exact hrun
def Held (p : Prop) : Prop := p
/-- A loan, read. -/
def lnV : PE → Option (Int × Bool × Int)
  | ⟨true, [.i .u32 a, .b f, .i .u64 u]⟩ => some (a, f, u)
  | _ => none
/-- Is a loan not over, and of this address? -/
def hit (ip now : Int) (e : PE) : Bool := match lnV e with
  | some (a, _, u) => decide (a = ip) && !decide (u ≤ now)
  | none => false
theorem key_str {key : Value} {kl : Lit} (h : keyOf Try.prog 9 key = some kl) : ∃ s : List UInt8, kl = (PV.s s).lit := by
  cases key <;> simp only [keyOf, mapKey, Try.underlying9, reduceCtorEq] at h
  split at h
  · injection h with h
    exact ⟨_, h.symm⟩
  · cases h
theorem keq_self (a : PV) : keq a a = true := by cases a <;> simp [keq, PV.lit, Lit.sameKey]
theorem keq_lit {a b : PV} (h : keq a b = true) : a.lit = b.lit := WideAt.sameKey_eq h
/-- What lies in a map at a key that is told to be there. -/
theorem entry_at {el : Ents} {s : PV} (h : has (mapD el) s.lit = true) : ∃ p ∈ el, keq p.1 s = true ∧ mget s el = some p.2 := by
  rw [has_mapD] at h
  unfold mget at h ⊢
  cases hf : el.find? (fun p => keq p.1 s) with
  | none => rw [hf] at h; cases h
  | some p => exact ⟨p, List.mem_of_find?_eq_some hf, by simpa using List.find?_some (p := fun p : PV × PE => keq p.1 s) hf, rfl⟩
theorem has_self {el : Ents} {p : PV × PE} (hp : p ∈ el) : has (mapD el) p.1.lit = true := by
  rw [has_mapD]
  unfold mget
  cases hf : el.find? (fun q => keq q.1 p.1) with
  | none => have := List.find?_eq_none.1 hf p hp; rw [keq_self] at this; simp at this
  | some q => rfl
theorem pw_eq {α β : Type} {f : α → β} : ∀ {l : List α}, (l.map f).Pairwise (fun x y => x ≠ y) → ∀ {x y : α}, x ∈ l → y ∈ l → f x = f y → x = y
  | a :: l, hp, x, y, hx, hy, e => by
    rw [List.map_cons, List.pairwise_cons] at hp
    rcases List.mem_cons.1 hx with hx1 | hx1 <;> rcases List.mem_cons.1 hy with hy1 | hy1
    · rw [hx1, hy1]
    · exact absurd (by rw [← hx1]; exact e) (hp.1 _ (List.mem_map_of_mem hy1))
    · exact absurd (by rw [← hy1]; exact e.symm) (hp.1 _ (List.mem_map_of_mem hx1))
    · exact pw_eq hp.2 hx1 hy1 e
/-- No key twice. -/
theorem one_key {w : World} {b : Nat} {kk : Kk} {el : Ents} (hm : mapIs w b kk el) {x y : PV × PE} (hx : x ∈ el) (hy : y ∈ el) (e : x.1.lit = y.1.lit) : x = y := by
  obtain ⟨_, P, k, hk, ho⟩ := hm
  obtain ⟨es, hes, hp, _⟩ := ho.entries (keyed hk)
  unfold mapD at hes
  injection hes with hes
  have h2 : (el.map fun p => p.1.lit).Pairwise (fun a b => a ≠ b) := by
    rw [← hes, List.pairwise_map] at hp
    rw [List.pairwise_map]
    exact hp
  exact pw_eq h2 hx hy e
set_option maxHeartbeats 400000 in
theorem over_calls (a u n : Int) (f : Bool) (w : World) : Calls Try.prog 39 #[.agg #[.int .u32 a, .bool f, .int .u64 u], .int .u64 n] w fun e w' => e = .returned (.bool (decide (u ≤ n))) ∧ w' = w.alloc (.cells #[.int .u32 a, .bool f, .int .u64 u] 53) := by
  go_enter Try.func39, Try.ntmps39
  go_wp2
  go_ret
  exact ⟨rfl, rfl⟩
set_option maxRecDepth 100000 in
set_option maxHeartbeats 1000000 in
theorem free_calls (B o : Nat) (sp : Option Nat) (first last ip now : Int) (bb bl br : Nat) (eb el er : Ents) (xb : Bool) (ur : Int) (w : World)
    (h0 : w.cell? ⟨B, o, sp⟩ = some (.int .u32 first)) (h1 : w.cell? ⟨B, o + 1, none⟩ = some (.int .u32 last)) (h2 : w.cell? ⟨B, o + 2, none⟩ = some (.map (some bb))) (h3 : w.cell? ⟨B, o + 3, none⟩ = some (.map (some bl))) (h4 : w.cell? ⟨B, o + 4, none⟩ = some (.map (some br)))
    (hb : mapIs w bb (.int .u32) eb) (hl : mapIs w bl .str el) (hr : mapIs w br (.int .u32) er) (hip : (Lit.int .u32 ip).wf = true)
    (hxb : (mget (.i .u32 ip) eb).getD ⟨false, [.b false]⟩ = ⟨false, [.b xb]⟩) (hur : (mget (.i .u32 ip) er).getD ⟨false, [.i .u64 0]⟩ = ⟨false, [.i .u64 ur]⟩) (hall : ∀ p ∈ el, (lnV p.2).isSome = true) :
    Calls Try.prog 22 #[.pointer (some ⟨B, o, sp⟩), .int .u32 ip, .int .u64 now] w fun e w' => Below w.heap.size w w' ∧
      e = .returned (.bool (!(decide (ip < first) || decide (last < ip) || xb || decide (bnd now < ur)) && el.all fun p => !hit ip (bnd now) p.2)) := by
  have hc := bound_calls now
  have hkb : Kk.has (.int .u32) (.i .u32 ip) = true := by simp [Kk.has, hip]
  have l1 := look_run hb (t := 86) (kt := 23) (et := 4) (by kernel_rfl) (by kernel_rfl) (z := ⟨false, [.b false]⟩) (by kernel_rfl) hkb
  have l2 := look_run hr (t := 88) (kt := 23) (et := 30) (by kernel_rfl) (by kernel_rfl) (z := ⟨false, [.i .u64 0]⟩) (by kernel_rfl) hkb
  rw [hxb] at l1
  rw [hur] at l2
  simp only [PV.val, PE.val, Bool.false_eq_true, if_false] at l1 l2
  clear hb hr hxb hur
  have HL : Held (mapIs w bl .str el) := hl
  clear hl
  go_enter Try.func22, Try.ntmps22
  go_wp2_with (first
    | (go_at_call 40; refine (hc _).mono ?_; rintro e w' ⟨rfl, rfl⟩)
    | (at_range; have hl' : mapIs _ bl .str el := HL; refine wpList_range_own _ rfl _ 87 rfl 9 53 (keyed (P := Try.prog) (k := 9) (kk := .str) Try.underlying9) Try.underlying87 rdV bl el.length (mapD el) rfl (hl'.own (P := Try.prog) (k := 9) Try.underlying9) ?_; intro w0 hrg0 hg0 hs0)
    | go_in)
  · go_ret
    exact ⟨Below.refl _ _, by simp_all⟩
  · go_ret
    refine ⟨Below.refl _ _, ?_⟩
    rename_i q4
    rcases q4 with (q | q) | q <;> simp [q]
  · go_frame
    go_loopw [48] (fun _ wr => ∃ (left : Lit → Bool) (cnt : Nat), wr.ranges Try.prog 9 rdV bl w'.heap.size el.length (mapD el) left cnt ∧ w'.grownBy wr none ∧ (∀ kl, left kl = true → has (mapD el) kl = true) ∧ ∀ p ∈ el, left p.1.lit = false → hit ip (bnd now) p.2 = false)
      (fun _ wr => wr.rangeLeft bl w'.heap.size)
    case atStart => exact ⟨_, _, hrg0, hg0, fun _ h => h, fun p hp h => by rw [has_self hp] at h; cases h⟩
    case round =>
      obtain ⟨left, cnt, hrg, hgw, hle, hno⟩ := hrel
      have ho := over_calls
      go_wp2_with (first
        | (at_next; refine wpList_next_ranges _ rfl _ rfl 9 (keyed (P := Try.prog) (k := 9) (kk := .str) Try.underlying9) rdV id id (fun key _ _ => ⟨key, rfl⟩) (fun v _ _ => ⟨v, rfl⟩) bl w'.heap.size el.length _ _ _ rfl hrg ?_ ?_)
        | go_in)
      · intro _ hl0
        go_wp2
        go_ret
        refine ⟨(Below.refl _ w').grown hgw (Nat.le_refl _) (fun j hj => by cases hj), ?_⟩
        have hal : (el.all fun p => !hit ip (bnd now) p.2) = true := List.all_eq_true.2 fun p hp => by simp [hno p hp (hl0 _)]
        rw [hal]
        simp_all
      · intro x c kl yd yp w1 cnt1 hkey hlx hv hat hrg1 hlt hg1 hs1 hen
        obtain ⟨s, rfl⟩ := key_str hkey
        obtain ⟨p, hp, hks, hget⟩ := entry_at (hle _ hlx)
        obtain ⟨⟨a, f, u⟩, hln⟩ := Option.isSome_iff_exists.1 (hall p hp)
        have hpe : p.2 = ⟨true, [.i .u32 a, .b f, .i .u64 u]⟩ := by
          unfold lnV at hln
          split at hln
          · rename_i h; injection hln with hln; injection hln with e1 e2; injection e2 with e2 e3; rw [h, e1, e2, e3]
          · cases hln
        have hcv : c = .agg #[.int .u32 a, .bool f, .int .u64 u] := by
          have h1 := atKey_mapD el (.s s) p.2
          rw [hget] at h1
          rw [hat] at h1
          have h2 := rdV_inv (e := p.2) (by rw [hpe]; rfl) (v := c) (ps := yp) (by rw [hv, h1]; rfl)
          rw [h2, hpe]
          rfl
        subst hcv
        have hm' : mapIs _ bl .str el := HL
        have hit_eq : hit ip (bnd now) p.2 = (decide (a = ip) && !decide (u ≤ bnd now)) := by unfold hit; rw [hln]
        have hgw1 := hgw.andThen hg1 (fun j hj => by cases hj; exact Or.inl (Nat.le_refl _))
        have hle1 : ∀ kl, (left kl && !kl.sameKey (PV.s s).lit) = true → has (mapD el) kl = true := fun kl h => hle kl (by simp only [Bool.and_eq_true] at h; exact h.1)
        have hno1 : hit ip (bnd now) p.2 = false → ∀ p' ∈ el, (left p'.1.lit && !p'.1.lit.sameKey (PV.s s).lit) = false → hit ip (bnd now) p'.2 = false := fun hh p' hp' h => by
          by_cases hlp : left p'.1.lit = true
          · rw [hlp, Bool.true_and, Bool.not_eq_false'] at h
            have e1 : p'.1.lit = p.1.lit := (WideAt.sameKey_eq h).trans (keq_lit hks).symm
            rw [one_key hm' hp' hp e1]
            exact hh
          · exact hno p' hp' (by simpa using hlp)
        clear hv hat hm'
        go_wp2_with (first
          | (go_at_call 39; refine (ho a u (bnd now) f _).mono ?_; rintro e w2 ⟨rfl, rfl⟩)
          | go_in)
        · go_ret
          refine ⟨(((Below.refl _ w').grown hgw1 (Nat.le_refl _) (fun j hj => by cases hj)).alloc hgw1.size _).alloc (by have := hgw1.size; simp; omega) _, ?_⟩
          have hal : (el.all fun p => !hit ip (bnd now) p.2) = false := by
            rw [List.all_eq_false]
            exact ⟨p, hp, by rw [hit_eq]; simp_all⟩
          rw [hal]
          simp
        · refine ⟨⟨_, cnt1, (hrg1.alloc _).alloc _, (hgw1.andThen (World.grownBy_alloc _ _ none) (fun j hj => by cases hj)).andThen (World.grownBy_alloc _ _ none) (fun j hj => by cases hj), hle1, hno1 (by rw [hit_eq]; simp_all)⟩, ?_⟩
          rw [((hrg1.alloc _).alloc _).left_eq, hrg.left_eq]
          exact hlt
        · refine ⟨⟨_, cnt1, hrg1.alloc _, hgw1.andThen (World.grownBy_alloc _ _ none) (fun j hj => by cases hj), hle1, hno1 (by rw [hit_eq]; simp_all)⟩, ?_⟩
          rw [(hrg1.alloc _).left_eq, hrg.left_eq]
          exact hlt
  · go_ret
    exact ⟨Below.refl _ _, by simp_all⟩
  · go_ret
    exact ⟨Below.refl _ _, by simp_all⟩
/-- Is an address free? -/
def freeB (first last ip now : Int) (xb : Bool) (ur : Int) (el : Ents) : Bool := !(decide (ip < first) || decide (last < ip) || xb || decide (bnd now < ur)) && el.all fun p => !hit ip (bnd now) p.2
def freeQ (first last ip now : Int) (el : Ents) : PE → PE → Option (AV × Heap)
  | ⟨false, [.b xb]⟩, ⟨false, [.i .u64 ur]⟩ => if (Lit.int .u32 ip).wf = true ∧ (el.all fun p => (lnV p.2).isSome) = true then some (.bool (freeB first last ip now xb ur el), []) else none
  | _, _ => none
def freeP : List AV → Option (AV × Heap)
  | [.rp _ (.agg [.int .u32 first, .int .u32 last, .rm _ (.int .u32) eb, .rm _ .str el, .rm _ (.int .u32) er]), .int .u32 ip, .int .u64 now] =>
    freeQ first last ip now el ((mget (.i .u32 ip) eb).getD ⟨false, [.b false]⟩) ((mget (.i .u32 ip) er).getD ⟨false, [.i .u64 0]⟩)
  | _ => none
theorem freeP_spec : ∀ args r objs, freeP args = some (r, objs) → CallSpec Try.prog 22 args r objs := by
  intro args r objs h
  unfold freeP at h
  split at h
  · rename_i g first last g1 eb g2 el g3 er ip now
    unfold freeQ at h
    split at h
    · rename_i e1 e2 xb ur hxb hur
      split at h
      · rename_i hc
        obtain ⟨hip, hall⟩ := hc
        injection h with h
        injection h with h1 h2
        subst h1; subst h2
        refine ⟨⟨_, Try.func22, by kernel_rfl, by kernel_rfl⟩, by simp, fun Bad w us hbad hrep => ?_⟩
        obtain ⟨v1, us1, rfl, hv1, v2, us2, rfl, hv2, v3, us3, rfl, hv3, hr⟩ := hrep
        have hr : us3 = [] := hr
        subst hr
        have hv2 : v2 = .int .u32 ip := hv2
        have hv3 : v3 = .int .u64 now := hv3
        subst hv2; subst hv3
        obtain ⟨⟨B, o, sp⟩, u, rfl, hu, hro⟩ := hv1
        obtain ⟨vs, rfl, hvs, _⟩ := hu
        obtain ⟨a0, w1, rfl, ha0, a1, w2, rfl, ha1, a2, w3, rfl, ha2, a3, w4, rfl, ha3, a4, w5, rfl, ha4, hw5⟩ := hvs
        have hw5 : w5 = [] := hw5
        subst hw5
        have ha0 : a0 = .int .u32 first := ha0
        have ha1 : a1 = .int .u32 last := ha1
        subst ha0; subst ha1
        obtain ⟨bb, rfl, _, hb⟩ := ha2
        obtain ⟨bl, rfl, _, hl⟩ := ha3
        obtain ⟨br, rfl, _, hr⟩ := ha4
        have hcell : ∀ (i : Nat) (u : Value), [Value.int .u32 first, .int .u32 last, .map (some bb), .map (some bl), .map (some br)][i]? = some u → w.cell? ((⟨B, o, sp⟩ : Addr).add i) = some u := fun i u hu => by
          obtain ⟨ad, e1, _, e2, _⟩ := hro i u (by simpa [Value.cells] using hu)
          injection e1 with e1
          subst e1
          exact e2
        refine (free_calls B o sp first last ip now bb bl br eb el er xb ur w (hcell 0 _ rfl) (hcell 1 _ rfl) (hcell 2 _ rfl) (hcell 3 _ rfl) (hcell 4 _ rfl) hb hl hr hip hxb hur (fun p hp => List.all_eq_true.1 hall p hp)).mono ?_
        rintro e w' ⟨hB, rfl⟩
        have hh0 : HeapRel Bad [] [] w := ⟨rfl, by rintro l l' k ⟨bv, h1, _⟩; simp at h1, by rintro l k ⟨bv, h1, _⟩; simp at h1, by rintro l k g ⟨bv, h1, _⟩; simp at h1, hbad, by intro l o bv h1; simp at h1⟩
        exact ⟨_, [], rfl, hB, (Step.quiet hh0 hB).rel, by rintro l k ⟨bv, h1, _⟩; simp at h1, rfl⟩
      · cases h
    · cases h
  · cases h
end Go.Fw.Wd
