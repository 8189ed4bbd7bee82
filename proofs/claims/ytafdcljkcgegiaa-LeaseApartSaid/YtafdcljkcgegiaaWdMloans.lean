/-
  (*Book).Loans: what the iterator hands on: the loans in their clients' order. Conditions: the model's bounds.
-/
import Derived.Test.YtafdcljkcgegiaaWdMsrt
import Derived.RangeFuncNested
import Derived.TacticsInMore
import Derived.LoopNIn
import Derived.LoopIn
import Derived.OwnWalkIn
import Derived.Shelf.AbstractIn
set_option linter.unusedVariables false
set_option linter.unusedSimpArgs false
namespace Go.Fw.Wd
open Go.Proofs Go.RowKit Go.Sort Code_ Go.Maps

theorem wrapI {n : Nat} (i : Nat) (h : i < n) (hn : n ≤ 1048576) : wrap64 ((i : Int) + 1) = (i : Int) + 1 := by
  unfold wrap64
  omega
def posOf : Value → Nat
  | .int _ q => q.toNat
  | _ => 0
def zLoan : PE := ⟨true, [.i .u32 0, .b false, .i .u64 0]⟩
def itemOf (el : Ents) (s : List UInt8) : List PE := [⟨false, [.s s]⟩, (mget (.s s) el).getD zLoan]
/-- What the loans' iterator hands on. -/
def loansS (el : Ents) : List (List PE) := ((keysOf el).mergeSort leB).map (itemOf el)
def loansOf (el : Ents) : List (List PE) := el.map fun p => [⟨false, [p.1]⟩, p.2]
theorem loansS_eq {w : World} {b : Nat} {el : Ents} (hm : mapIs w b .str el) : loansS el = loansOf el := by
  have hs := mapIs_strs hm
  have hu := mapIs_up hm
  unfold loansS loansOf
  rw [keysOf_sorted hs hu]
  unfold keysOf
  rw [List.map_map]
  refine List.map_congr_left fun p hp => ?_
  obtain ⟨s, h1⟩ := hs p hp
  have h2 := mget_up hu hp
  simp only [Function.comp, itemOf]
  rw [h1] at h2 ⊢
  simp [h2]
theorem strKeys_mapD {w : World} {b : Nat} {el : Ents} (hm : mapIs w b .str el) : strKeys (mapD el) = keysOf el := by
  unfold strKeys mapD keysOf
  simp only [List.map_map]
  refine List.map_congr_left fun p _ => ?_
  simp only [Function.comp, datE]
  cases p.1 <;> rfl
/-- A look-up into a map of the machine's. -/
theorem run_look_PE {P : Program} {w : World} {t k e : TypeId} {kk : Kk} (hkd : kindOk P k kk) (hty : P.underlying t = some (.map k e)) {z : PE} (hzw : z.wf = true) (hz : (zeroValue e).run P w = .ok z.val w) {b : Nat} {es : Ents} (hmap : mapIs w b kk es) {p : PV} (hkp : kk.has p = true) :
    (Instr.lookup t (.map (some b)) p.val false).run P w = .ok ((mget p es).getD z).val w := by
  have hkey : keyOf P k p.val = some p.lit := keyOf_val hkd hkp
  have hwf : ((mget p es).getD z).wf = true := by
    unfold mget
    cases hf : es.find? (fun q => keq q.1 p) with
    | none => exact hzw
    | some q => exact hmap.1 q (List.mem_of_find?_eq_some hf)
  obtain ⟨v, ps, hrun, hv⟩ := (hmap.own hkd).lookup (keyed hkd) hty hz (rdV_val hzw) hkey
  rw [atKey_mapD] at hv
  have hv' := rdV_inv hwf hv
  subst hv'
  exact hrun
set_option maxRecDepth 100000 in
set_option maxHeartbeats 1000000 in
theorem loans_calls (kB B o n l : Nat) (sp : Option Nat) (hn : 6 ≤ n) (b : Nat) (el : Ents) (w : World) (h1 : w.cell? ⟨kB, 0, none⟩ = some (.pointer (some ⟨B, o, sp⟩))) (h3 : w.cell? ⟨B, o + 3, none⟩ = some (.map (some b))) (hm : mapIs w b .str el) (hmax : el.length ≤ 1048576)
    (J : Nat → World → Prop) (Jx : World → Prop) (hJ0 : ∀ W, Below w.heap.size w W → J 0 W) (hJ : ∀ i W W', J i W → Below W.heap.size W W' → J i W') (hJx : ∀ W W', Jx W → Below W.heap.size W W' → Jx W')
    (hY : ∀ i it W, (loansS el)[i]? = some it → J i W → w.heap.size ≤ W.heap.size → YieldAt Fence.wide (n - 1) Try.prog l (it.map PE.val).toArray W fun e W' => W.heap.size ≤ W'.heap.size ∧ (∀ k, w.heap.size ≤ k → k < W.heap.size → W'.heap[k]? = W.heap[k]?) ∧
        ((e = .returned (.bool true) ∧ J (i + 1) W') ∨ (e = .returned (.bool false) ∧ Jx W'))) :
    CallsIn Fence.wide n Try.prog 43 (#[.func (.yield l) #[] #[]] ++ #[.pointer (some ⟨kB, 0, none⟩)]) w fun e W' => (∃ v, e = .returned v) ∧ (J (loansS el).length W' ∨ Jx W') := by
  have HL : Held (mapIs w b .str el) := hm
  have hbl := hm.lt
  obtain ⟨es', ck, hbk⟩ := mapIs_heap hm
  have cC : ∀ W : World, W.heap[b]? = some (.map es' ck) → CallsIn Fence.wide (n - 1) Try.prog 33 #[.map (some b)] W fun e w' => e = .returned (.map (some W.heap.size)) ∧ w' = W.alloc (.map es' ck) := fun W hW => callsIn_wide.2 (AnyW.maps_Clone Try.cloneL b es' ck W hW)
  have cK : ∀ mb W, CallsIn Fence.wide (n - 1) Try.prog 45 #[.map mb] W fun e w' => e = .returned (.func (.func 54) #[] #[.pointer (some ⟨W.heap.size, 0, none⟩)]) ∧ w' = W.alloc (.cells #[.map mb] 66) := fun mb W => AnyZ.keys_in Try.keysL Fence.wide (n - 1) trivial rfl mb W
  obtain ⟨W1, hW1⟩ : ∃ W1, w.alloc (.map es' ck) = W1 := ⟨_, rfl⟩
  have hs1 : W1.heap.size = w.heap.size + 1 := by rw [← hW1]; simp
  have hm1 : mapIs W1 w.heap.size .str el := mapIs_move hm (by rw [← hW1, World.alloc_heap_new, hbk])
  have hseq : SeqGives Fence.wide (n - 1 - 1 - 1 - 1) Try.prog 54 #[.pointer (some ⟨W1.heap.size, 0, none⟩)] encStr (fun ss => ss.Perm (strKeys (mapD el))) (Maps.size (mapD el)) (W1.alloc (.cells #[.map (some w.heap.size)] 66)) :=
    AnyZ.keys_gives (ρ := Try.keysL_ren) { Try.keysL with } Fence.wide _ trivial rfl (by omega) W1.heap.size w.heap.size el.length (mapD el) _ (by simp) (by simp) (by
      obtain ⟨es, clock, hb, Ft, hs, hD⟩ := hm1.own (P := Try.prog) (k := 9) Try.underlying9
      exact ⟨es, clock, (Below.heap_alloc _ _ _ hm1.lt).trans hb, Ft, hs, hD⟩)
  have cS := AnyZ.sorted_in Try.sortedL Fence.wide (n - 1) trivial trivial trivial trivial rfl (by omega) (Try.sortsL _) (Go.Proofs.enters_of Try.func53 (by kernel_rfl) rfl) 54 #[.pointer (some ⟨W1.heap.size, 0, none⟩)] trivial (Go.Proofs.enters_of Try.func54 (by kernel_rfl) rfl) _ _ (by rw [size_mapD]; unfold maxLen; omega) (by rw [size_mapD]; omega) _ hseq
  change CallsIn _ _ Try.prog 44 _ _ _ at cS
  have hfC : Fence.wide.fn 33 := trivial
  have hfK : Fence.wide.fn 45 := trivial
  have hfS : Fence.wide.fn 44 := trivial
  clear hm hseq
  have HY : Held _ := hY
  have HJ0 : Held _ := hJ0
  have h1n : 1 ≤ n := by omega
  clear hY hJ0 hJ hJx
  refine callsIn_of_wp Try.func43 rfl trivial ?_ rfl
  simp only [Try.ntmps43, List.size_toArray, List.length_cons, List.length_nil, Nat.reduceAdd, Nat.reduceSub, Array.replicate_succ, Array.replicate_zero, List.push_toArray, List.append_toArray, List.nil_append, List.cons_append]
  rw [hs1] at cS
  obtain ⟨CS, hCS⟩ : ∃ p : Prop, p ∧ (p → _) := ⟨_, cS, fun h => h⟩
  obtain ⟨CK, hCK⟩ : ∃ p : Prop, p ∧ (p → _) := ⟨_, cK, fun h => h⟩
  clear cS cK
  gi_wp2_with (gi_at_call 33; refine (cC _ hbk).mono ?_; rintro e w' ⟨rfl, rfl⟩; rw [hW1])
  refine ((hCK.2 hCK.1) _ _).mono ?_
  rintro e w' ⟨rfl, rfl⟩
  gi_wp2_with (gi_at_call 44; refine (hCS.2 hCS.1).mono ?_; rintro e w' ⟨v, ss, rfl, hS, hrow, hnil, hb⟩)
  have hperm : (ss.mergeSort fun x y => decide (x ≤ y)) = (keysOf el).mergeSort leB := by
    have h := mergeSort_of_perm hS
    rw [strKeys_mapD HL] at h
    exact h
  rw [hperm] at hrow
  obtain ⟨L, hL⟩ : ∃ L, (keysOf el).mergeSort leB = L := ⟨_, rfl⟩
  have hlo : loansS el = L.map (itemOf el) := by rw [← hL]; rfl
  rw [hL] at hrow
  have hsl : ss.length = L.length := by rw [← hL, ← hperm, List.length_mergeSort]
  rw [hsl] at hrow
  obtain ⟨W2, hW2⟩ : ∃ W2, W1.alloc (.cells #[.map (some w.heap.size)] 66) = W2 := ⟨_, rfl⟩
  rw [hW2] at hb hrow
  have hs2 : W2.heap.size = w.heap.size + 2 := by rw [← hW2, World.size_alloc, hs1]
  have hsw' : w.heap.size + 2 ≤ w'.heap.size := by have := hb.size; omega
  have hm2 : mapIs w' w.heap.size .str el := mapIs_move hm1 (by rw [hb.block _ (by omega), ← hW2]; exact Below.heap_alloc _ _ _ (by omega))
  have hJw : J 0 w' := HJ0 w' (((((Below.refl _ w).alloc (Nat.le_refl _) (.map es' ck)).trans (by rw [hW1, ← hW2]; exact (Below.refl _ W1).alloc (by omega) _)).trans (hb.mono (by omega))))
  have hLn : L.length ≤ 1048576 := by rw [← hL, List.length_mergeSort]; simpa [keysOf] using hmax
  have hstr : (loansS el).length = L.length := by rw [hlo, List.length_map]
  clear hnil
  rcases hrow.2 with ⟨rfl, hz⟩ | ⟨gb, cap, cur, rfl, hbase, hgb, r1, r2, r3, r4⟩
  · have hL0 : (loansS el).length = 0 := by rw [hstr, hz]
    gi_wp2
    rw [run_len_slice w' 85 3 none 0 0 (by rw [Try.underlying85]; rfl)]
    gi_wp2
    gi_loopw [15] (fun vi wr => vi = .int .i64 0 ∧ wr = w') (fun _ _ => 0)
    case atStart => exact ⟨rfl, rfl⟩
    case round =>
      obtain ⟨rfl, rfl⟩ := hrel
      gi_wp2
      go_end0
      exact ⟨⟨_, rfl⟩, .inl (by rw [hL0]; exact hJw)⟩
  · have hrange : ∀ k (hk : k < L.length), cur.toList[k]? = some (encStr L[k]) := by
      intro k hk
      have h : (cur.toList.take (L.length * 1))[k]? = some (encStr L[k]) := by rw [r4, List.getElem?_map, List.getElem?_eq_getElem hk]; rfl
      rwa [List.getElem?_take, if_pos (by omega)] at h
    gi_wp2
    rw [run_len_slice w' 85 3 _ _ _ (by rw [Try.underlying85]; rfl)]
    gi_wp2
    gi_loopw [15] (fun vi wr => ∃ i : Nat, vi = .int .i64 i ∧ i ≤ L.length ∧ J i wr ∧ (∀ k, w.heap.size ≤ k → k < w'.heap.size → wr.heap[k]? = w'.heap[k]?) ∧ w'.heap.size ≤ wr.heap.size)
      (fun vi _ => L.length - posOf vi)
    case atStart => exact ⟨0, rfl, Nat.zero_le _, hJw, fun _ _ _ => rfl, Nat.le_refl _⟩
    case round =>
      obtain ⟨i, rfl, hiL, hJi, hkeep, hsw⟩ := hrel
      by_cases hlt : i < L.length
      · have hgs : gb < w'.heap.size := (Array.getElem?_eq_some_iff.1 hgb).1
        have hcx : wr.cell? ⟨gb, i, none⟩ = some (encStr L[i]) := by
          have h : w'.cell? ⟨gb, i, none⟩ = some (encStr L[i]) := by simpa [World.cell?, hgb] using hrange i hlt
          unfold World.cell? at h ⊢
          rw [hkeep gb (by omega) hgs]
          exact h
        have hmr : mapIs wr w.heap.size .str el := mapIs_move hm2 (hkeep _ (Nat.le_refl _) (by omega))
        have hit : (loansS el)[i]? = some (itemOf el L[i]) := by rw [hlo, List.getElem?_map, List.getElem?_eq_getElem hlt]; rfl
        obtain ⟨fn, tmps, assign, body, hy, hR⟩ := HY i _ wr hit hJi (by omega)
        have hpv : encStr L[i] = (PV.s L[i]).val := rfl
        simp only [itemOf, List.map_cons, List.map_nil] at hy
        have hpe : PE.val ⟨false, [.s L[i]]⟩ = (PV.s L[i]).val := rfl
        rw [hpe] at hy
        have hkey : Kk.str.has (.s L[i]) = true := by
          have hmem : L[i] ∈ keysOf el := (List.mergeSort_perm _ _).subset (by rw [hL]; exact List.getElem_mem hlt)
          rw [← strKeys_mapD HL] at hmem
          exact decide_eq_true (strKeys_le (hm2.own (P := Try.prog) (k := 9) Try.underlying9) Try.underlying9 _ hmem)
        obtain ⟨E, hE⟩ : ∃ E, (mget (.s L[i]) el).getD zLoan = E := ⟨_, rfl⟩
        rw [hE] at hy
        obtain ⟨V, hV⟩ : ∃ V, E.val = V := ⟨_, rfl⟩
        rw [hV] at hy
        obtain ⟨S, hS⟩ : ∃ S, encStr L[i] = S := ⟨_, rfl⟩
        rw [← hpv, hS] at hy
        rw [hS] at hcx
        have hz0 : (zeroValue 49).run Try.prog wr = .ok zLoan.val wr := Try.zeroValue49 wr
        have hlk : (Instr.lookup 66 (.map (some w.heap.size)) S false).run Try.prog wr = .ok V wr := by
          rw [← hS, ← hV, ← hE]
          exact run_look_PE (P := Try.prog) (k := 9) (e := 49) (kk := .str) Try.underlying9 Try.underlying66 rfl hz0 hmr hkey
        clear hz0 hkey hpe hpv hit hmr
        gi_wp2
        refine hR.mono ?_
        rintro e W3 ⟨hsz3, hk3, ⟨rfl, hJ3⟩ | ⟨rfl, hJx3⟩⟩
        · gi_wp2
          go_roundw
          case rel => exact ⟨i + 1, by simp, by omega, hJ3, fun k hk1 hk2 => (hk3 k hk1 (by omega)).trans (hkeep k hk1 hk2), by omega⟩
          case measure => simp only [posOf]; omega
        · gi_wp2
          refine bodyPost_ret (results_none rfl _ _ _) rfl ?_
          exact ⟨⟨_, rfl⟩, .inr hJx3⟩
      · obtain rfl : i = L.length := by omega
        gi_wp2
        go_end0
        exact ⟨⟨_, rfl⟩, .inl (by rw [hstr]; exact hJi)⟩
/-- The loans of a book, wherever it lies. -/
def bookL (h : Heap) : AV → Option Ents
  | .ref l 0 0 => match h[l]? with
    | some (.cells true [_, _, _, .mp b, _] _) => entsOf h .str (.mp b)
    | some (.cells true [_, _, _, .rm g kk es, _] _) => entsOf h .str (.rm g kk es)
    | _ => none
  | .rp _ (.agg [_, _, _, .rm g kk es, _]) => entsOf h .str (.rm g kk es)
  | _ => none
def loansP : List AV → Heap → Option (List (List PE))
  | [.ref kb 0 0], h => match h[kb]? with
    | some (.cells false [v] _) => (bookL h v).bind fun el => if el.length ≤ 1048576 then some (loansOf el) else none
    | _ => none
  | _, _ => none
theorem ref_own {Bad : Forb} {β : List Value} {h : Heap} {w : World} (hh : HeapRel Bad β h w) {l : Nat} {ag : Bool} {vs : List AV} {t : TypeId} (ho : h[l]? = some (.cells ag vs t)) {v : Value} (hv : Rep (.ref l 0 0) β h (FOf Bad β) w v) :
    ∃ b arr, v = .pointer (some ⟨b, 0, none⟩) ∧ w.heap[b]? = some (.cells arr t (0, 0)) ∧ RepL vs β h (FOf Bad β) w arr.toList := by
  obtain ⟨hl, hp, hc⟩ := hv
  obtain ⟨b3, hb3, hv3e⟩ := hc (by unfold objCells; rw [ho]; rfl)
  have hβ : β[l]? = some (β.getD l default) := by rw [List.getD_eq_getElem?_getD, List.getElem?_eq_getElem hl.1]; rfl
  obtain ⟨b4, arr, hb4, hheap, hvs, _⟩ := hh.obj l _ _ ho hβ
  have e34 : b4 = b3 := by rw [hb4] at hb3; injection hb3
  subst e34
  exact ⟨b4, arr, hv3e, hheap, hvs⟩
theorem cell_at {w : World} {b : Nat} {arr : Array Value} {t : TypeId} (hh : w.heap[b]? = some (.cells arr t (0, 0))) (k : Nat) (v : Value) (hv : arr.toList[k]? = some v) : w.cell? ⟨b, k, none⟩ = some v := by
  unfold World.cell?
  rw [hh]
  simpa using hv
theorem mp_ents {Bad : Forb} {β : List Value} {h : Heap} {w : World} (hh : HeapRel Bad β h w) {v : Value} {b : Nat} {el : Ents} (he : entsOf h .str (.mp b) = some el) (hv : Rep (.mp b) β h (FOf Bad β) w v) : ∃ b, v = .map (some b) ∧ mapIs w b .str el := by
  simp only [entsOf] at he
  cases ho : h[b]? with
  | none => rw [ho] at he; cases he
  | some o =>
    rw [ho] at he
    cases o with
    | map q es =>
      dsimp only at he
      split at he
      · rename_i hk
        injection he with he
        subst he; subst hk
        obtain ⟨b', h2, _, hm⟩ := mp_own hh ho hv
        exact ⟨b', h2, hm⟩
      · cases he
    | _ => cases he
theorem rm_ents {β : List Value} {h h' : Heap} {F : Forb} {w : World} {v : Value} {g : Bool} {kk : Kk} {es : Ents} {el : Ents} (he : entsOf h .str (.rm g kk es) = some el) (hv : Rep (.rm g kk es) β h' F w v) : ∃ b, v = .map (some b) ∧ mapIs w b .str el := by
  obtain ⟨b, rfl, _, hm⟩ := hv
  simp only [entsOf] at he
  split at he
  · rename_i hk
    injection he with he
    subst he; subst hk
    exact ⟨b, rfl, hm⟩
  · cases he
theorem yieldAt_any {m : Nat} (m' : Nat) {P : Program} {l : Nat} {args : Array Value} {W : World} {R : Ending → World → Prop} (h : YieldAt Fence.wide m P l args W R) : YieldAt Fence.wide m' P l args W R := by
  obtain ⟨fn, tmps, assign, body, hy, hR⟩ := h
  exact ⟨fn, tmps, assign, body, hy, hR.1, fun c cs _ => hR.2 c cs (fun d h => by cases h)⟩
theorem loansP_spec : ∀ cap h items, loansP cap h = some items → SeqSpec Try.prog 43 cap h items := by
  intro cap h items hk
  unfold loansP at hk
  split at hk
  case h_2 => cases hk
  rename_i kb
  split at hk
  case h_2 => cases hk
  rename_i v t hkb
  cases hb : bookL h v with
  | none => rw [hb] at hk; cases hk
  | some el =>
    rw [hb] at hk
    simp only [Option.bind_some] at hk
    split at hk
    case isFalse => cases hk
    rename_i hmax
    injection hk with hk
    subst hk
    refine ⟨⟨_, Try.func43, by kernel_rfl, by kernel_rfl⟩, fun Bad β w us hh hrep => ?_⟩
    obtain ⟨v1, us1, rfl, hv1, hr⟩ := hrep
    have hr : us1 = [] := hr
    subst hr
    obtain ⟨kB, arr, rfl, hkB, hvs⟩ := ref_own hh hkb hv1
    obtain ⟨v2, us2, hus2, hv2, hr2⟩ := hvs
    have hr2 : us2 = [] := hr2
    subst hr2
    have hck : w.cell? ⟨kB, 0, none⟩ = some v2 := cell_at hkB 0 v2 (by rw [hus2]; rfl)
    obtain ⟨B, o, sp, b, rfl, h3, hm⟩ : ∃ B o sp b, v2 = .pointer (some ⟨B, o, sp⟩) ∧ w.cell? ⟨B, o + 3, none⟩ = some (.map (some b)) ∧ mapIs w b .str el := by
      unfold bookL at hb
      split at hb
      · rename_i l
        split at hb
        · rename_i a0 a1 a2 b0 a4 t' hl
          obtain ⟨B, arr', rfl, hB, hvs'⟩ := ref_own hh hl hv2
          obtain ⟨u0, s0, e0, _, u1, s1, rfl, _, u2, s2, rfl, _, u3, s3, rfl, hu3, _⟩ := hvs'
          obtain ⟨b, rfl, hm⟩ := mp_ents hh hb hu3
          exact ⟨B, 0, none, b, rfl, cell_at hB 3 _ (by rw [e0]; rfl), hm⟩
        · rename_i a0 a1 a2 g kk es a4 t' hl
          obtain ⟨B, arr', rfl, hB, hvs'⟩ := ref_own hh hl hv2
          obtain ⟨u0, s0, e0, _, u1, s1, rfl, _, u2, s2, rfl, _, u3, s3, rfl, hu3, _⟩ := hvs'
          obtain ⟨b, rfl, hm⟩ := rm_ents hb hu3
          exact ⟨B, 0, none, b, rfl, cell_at hB 3 _ (by rw [e0]; rfl), hm⟩
        · cases hb
      · rename_i g0 a0 a1 a2 g kk es a4
        obtain ⟨⟨B, o, sp⟩, u, rfl, hu, hro⟩ := hv2
        obtain ⟨vs', rfl, hvs', _⟩ := hu
        obtain ⟨u0, s0, rfl, _, u1, s1, rfl, _, u2, s2, rfl, _, u3, s3, rfl, hu3, _⟩ := hvs'
        obtain ⟨b, rfl, hm⟩ := rm_ents hb hu3
        obtain ⟨ad, e1, _, e2, _⟩ := hro 3 (.map (some b)) (by simp [Value.cells])
        injection e1 with e1
        subst e1
        exact ⟨B, o, sp, b, rfl, e2, hm⟩
      · cases hb
    rw [← loansS_eq hm]
    intro m l J Jx hJ0 hJ hJx hY
    exact callsIn_wide.2 (callsIn_wide.1 (loans_calls kB B o (m + 7) l sp (by omega) b el w hck h3 hm hmax J Jx hJ0 hJ hJx (fun i it W h1 h2 h3 => yieldAt_any _ (hY i it W h1 h2 h3))))
end Go.Fw.Wd
