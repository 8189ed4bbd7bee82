/-
  The document's book, new and without anything: what it says to each call. Conditions: stated at each.
-/
import Derived.Test.YtafdcljkcgegiaaWdLop
set_option linter.unusedVariables false
set_option linter.unusedSimpArgs false
namespace Go.Fw.Wd
open Go.Proofs Code_

abbrev zB : List AV := [(.int .u32 0), (.int .u32 0), (.rs false 1 []), (.rs false 4 []), (.rs false 2 [])]
abbrev zObj : AObj := .cells true zB 46
abbrev zRow : AV := .agg [.str ⟨#[]⟩, .int .u32 0, .bool false, .int .u64 0]
theorem s37 (n : UInt64) : pcall E 37 [i64u n] = some (i64u (bU n), []) := by
  rw [pcall_go (fn := I37) rfl rfl rfl]
  have hk : E.keep 37 = false := rfl
  simp (disch := first | omega | (simp only [List.length_cons, List.length_nil, List.length_append, List.length_map, List.length_set]; omega) | rfl | (simp only [List.length_cons, List.length_nil, List.length_append, List.length_map, List.length_set, List.length_replicate, List.all_cons, List.all_nil, List.all_append, storable, plainB, Bool.and_self]; done)) only [go_sem, reduceCtorEq, ↓reduceIte, reduceDIte, evI_callP, callPK_some, I37, hk]
  have := bU_nat n
  simp only [i64u, Option.some.injEq, Prod.mk.injEq, AV.int.injEq, true_and, and_true]
  omega
theorem z49 (g : Bool) (c : List UInt8) : pcall E 49 [.rp g (.agg zB), sv c] = some (.int .i64 (-1), []) := by
  rw [pcall_go (fn := I49) rfl rfl rfl]
  have hk : E.keep 49 = false := rfl
  simp (disch := first | omega | (simp only [List.length_cons, List.length_nil, List.length_append, List.length_map, List.length_set]; omega) | rfl | (simp only [List.length_cons, List.length_nil, List.length_append, List.length_map, List.length_set, List.length_replicate, List.all_cons, List.all_nil, List.all_append, storable, plainB, Bool.and_self]; done)) only [go_sem, reduceCtorEq, ↓reduceIte, reduceDIte, evI_callP, callPK_some, I49, hk, L49_0_lp, L49_0_go, B49_0]
theorem z32 (g : Bool) (c : List UInt8) (now : UInt64) : pcall E 32 [.rp g (.agg zB), sv c, i64u now] = some (.tup [zRow, .bool false], []) := by
  rw [pcall_go (fn := I32) rfl rfl rfl]
  have hk : E.keep 32 = false := rfl
  have q := fun g => z49 g c
  simp (disch := first | omega | (simp only [List.length_cons, List.length_nil, List.length_append, List.length_map, List.length_set]; omega) | rfl | (simp only [List.length_cons, List.length_nil, List.length_append, List.length_map, List.length_set, List.length_replicate, List.all_cons, List.all_nil, List.all_append, storable, plainB, Bool.and_self]; done)) only [go_sem, reduceCtorEq, ↓reduceIte, reduceDIte, evI_callP, callPK_some, I32, hk, q]
theorem z15 (g : Bool) (ip : UInt32) (now : UInt64) : pcall E 15 [.rp g (.agg zB), i32 ip, i64u now] = some (.bool (decide (ip.toNat = 0)), []) := by
  rw [pcall_go (fn := I15) rfl rfl rfl]
  have hk : E.keep 15 = false := rfl
  have h1 : ¬ (ip.toNat : Int) < 0 := by omega
  by_cases h : ip.toNat = 0
  · have h2 : ¬ (0 : Int) < (ip.toNat : Int) := by omega
    simp (disch := first | omega | (simp only [List.length_cons, List.length_nil, List.length_append, List.length_map, List.length_set]; omega) | rfl | (simp only [List.length_cons, List.length_nil, List.length_append, List.length_map, List.length_set, List.length_replicate, List.all_cons, List.all_nil, List.all_append, storable, plainB, Bool.and_self]; done)) only [go_sem, reduceCtorEq, ↓reduceIte, reduceDIte, evI_callP, callPK_some, I15, hk, h1, h2, h, L15_0_lp, L15_0_go, B15_0, L15_1_lp, L15_1_go, B15_1, L15_2_lp, L15_2_go, B15_2]
  · have h2 : (0 : Int) < (ip.toNat : Int) := by omega
    simp (disch := first | omega | (simp only [List.length_cons, List.length_nil, List.length_append, List.length_map, List.length_set]; omega) | rfl | (simp only [List.length_cons, List.length_nil, List.length_append, List.length_map, List.length_set, List.length_replicate, List.all_cons, List.all_nil, List.all_append, storable, plainB, Bool.and_self]; done)) only [go_sem, reduceCtorEq, ↓reduceIte, reduceDIte, evI_callP, callPK_some, I15, hk, h1, h2, h]
theorem zm48 {h : Heap} {r : Nat} (hr : h[r]? = some zObj) (c : List UInt8) (ip : UInt32) (f : Bool) (t : UInt64) : ∃ X J, hcall E 48 [.ref r 0 0, .agg [sv c, i32 ip, .bool f, i64u t]] h = some (.tup [], h.set r X ++ J) := by
  rw [hcall_go (fn := I48) rfl rfl rfl]
  have q := fun g c => z49 g c
  have g1 := gapp hr
  have t1 := gtop h
  have t2 := stop h
  have t3 := sapp hr
  have t5 : ∀ a b X, (h ++ a :: b :: X)[h.length + 1]? = some b := fun a b X => by
    rw [List.getElem?_append_right (by omega), show h.length + 1 - h.length = 1 by omega]
    rfl
  have t6 : ∀ a b d X, (h ++ a :: b :: X).set (h.length + 1) d = h ++ a :: d :: X := fun a b d X => by
    rw [List.set_append_right _ _ (by omega), show h.length + 1 - h.length = 1 by omega]
    rfl
  have hap : ∀ (H : Heap) (l : Nat), appR H 4 32 71 [sv c, i32 ip, .bool f, i64u t] 1 l 0 0 (some (.row 0 4 [] 71)) = some (.sl 4 l 1 0 1, H.set l (.row 1 4 [sv c, i32 ip, .bool f, i64u t] 71)) := fun H l => by
    simp [appR, storable]
  simp (disch := first | omega | (simp only [List.length_cons, List.length_nil, List.length_append, List.length_map, List.length_set]; omega) | rfl | (simp only [List.length_cons, List.length_nil, List.length_append, List.length_map, List.length_set, List.length_replicate, List.all_cons, List.all_nil, List.all_append, storable, plainB, Bool.and_self]; done)) only [go_sem, reduceCtorEq, ↓reduceIte, reduceDIte, evI_callP, callPK_some, I48, q, g1, hr, t1, t2, t3, t5, t6, hap, List.append_assoc, L48_0_lp, L48_0_go, B48_0]
  exact ⟨_, _, rfl⟩
theorem zm27 {h : Heap} {r : Nat} (hr : h[r]? = some zObj) (c : List UInt8) (hc : c.length ≤ 1048576) (ip : UInt32) (now til : UInt64) : ∃ e X J, hcall E 27 [.ref r 0 0, sv c, i32 ip, i64u now, i64u til] h = some (.tup [.int .u32 0, .int .i64 e], h.set r X ++ J) := by
  rw [hcall_go (fn := I27) rfl rfl rfl]
  have q1 := fun g => z32 g c now
  have q2 := fun g ip => z15 g ip now
  have q3 := s37 til
  have g1 := gapp hr
  have t1 := gtop h
  have t2 := stop h
  have t3 := sapp hr
  have hcz : (⟨c.toArray⟩ : ByteArray).size = c.length := rfl
  by_cases c1 : (c.length : Int) < 1
  · simp (disch := first | omega | (simp only [List.length_cons, List.length_nil, List.length_append, List.length_map, List.length_set]; omega) | rfl | (simp only [List.length_cons, List.length_nil, List.length_append, List.length_map, List.length_set, List.length_replicate, List.all_cons, List.all_nil, List.all_append, storable, plainB, Bool.and_self]; done)) only [go_sem, reduceCtorEq, ↓reduceIte, reduceDIte, evI_callP, callPK_some, I27, hcz, c1]
    exact ⟨_, zObj, [], by rw [sself hr, List.append_nil]⟩
  by_cases c2 : (255 : Int) < (c.length : Int)
  · simp (disch := first | omega | (simp only [List.length_cons, List.length_nil, List.length_append, List.length_map, List.length_set]; omega) | rfl | (simp only [List.length_cons, List.length_nil, List.length_append, List.length_map, List.length_set, List.length_replicate, List.all_cons, List.all_nil, List.all_append, storable, plainB, Bool.and_self]; done)) only [go_sem, reduceCtorEq, ↓reduceIte, reduceDIte, evI_callP, callPK_some, I27, hcz, c1, c2]
    exact ⟨_, zObj, [], by rw [sself hr, List.append_nil]⟩
  obtain ⟨X, J, hp⟩ := zm48 (g1 [.cells true [.str ⟨#[]⟩, .int .u32 0, .bool false, .int .u64 0] 71]) c 0 false (bU til)
  rw [show i32 0 = .int .u32 0 from rfl] at hp
  have hw : IntKind.u32.wrap 0 = 0 := rfl
  have h00 : (0 : UInt32).toNat = 0 := rfl
  have q2z := fun g => q2 g 0
  rw [show i32 0 = .int .u32 0 from rfl] at q2z
  by_cases h0 : ip.toNat = 0
  · have e0 : ip = 0 := UInt32.toNat_inj.1 h0
    subst e0
    rw [show i32 0 = .int .u32 0 from rfl]
    simp (disch := first | omega | (simp only [List.length_cons, List.length_nil, List.length_append, List.length_map, List.length_set]; omega) | rfl | (simp only [List.length_cons, List.length_nil, List.length_append, List.length_map, List.length_set, List.length_replicate, List.all_cons, List.all_nil, List.all_append, storable, plainB, Bool.and_self]; done)) only [go_sem, reduceCtorEq, ↓reduceIte, reduceDIte, evI_callP, callPK_some, I27, hcz, c1, c2, q1, q2z, q3, hr, g1, t1, t2, t3, hp, hw, h00, L27_0_lp, L27_0_go, B27_0]
    exact ⟨_, _, _, by rw [List.append_assoc]⟩
  · simp (disch := first | omega | (simp only [List.length_cons, List.length_nil, List.length_append, List.length_map, List.length_set]; omega) | rfl | (simp only [List.length_cons, List.length_nil, List.length_append, List.length_map, List.length_set, List.length_replicate, List.all_cons, List.all_nil, List.all_append, storable, plainB, Bool.and_self]; done)) only [go_sem, reduceCtorEq, ↓reduceIte, reduceDIte, evI_callP, callPK_some, I27, hcz, c1, c2, q1, q2, q2z, q3, hr, g1, t1, t2, t3, hp, hw, h0, h00, L27_0_lp, L27_0_go, B27_0]
    exact ⟨_, _, _, by rw [List.append_assoc]⟩
theorem zm28 {h : Heap} {r : Nat} (hr : h[r]? = some zObj) (c : List UInt8) (ip : UInt32) (now til : UInt64) : ∃ J, hcall E 28 [.ref r 0 0, sv c, i32 ip, i64u now, i64u til] h = some (.int .i64 17, h ++ J) := by
  rw [hcall_go (fn := I28) rfl rfl rfl]
  have q1 := fun g => z32 g c now
  have g1 := gapp hr
  have t1 := gtop h
  have t2 := stop h
  simp (disch := first | omega | (simp only [List.length_cons, List.length_nil, List.length_append, List.length_map, List.length_set]; omega) | rfl | (simp only [List.length_cons, List.length_nil, List.length_append, List.length_map, List.length_set, List.length_replicate, List.all_cons, List.all_nil, List.all_append, storable, plainB, Bool.and_self]; done)) only [go_sem, reduceCtorEq, ↓reduceIte, reduceDIte, evI_callP, callPK_some, I28, q1, hr, g1, t1, t2]
  exact ⟨_, rfl⟩
theorem zm30 {h : Heap} {r : Nat} (hr : h[r]? = some zObj) (c : List UInt8) (ip : UInt32) (now til : UInt64) : ∃ J, hcall E 30 [.ref r 0 0, sv c, i32 ip, i64u now, i64u til] h = some (.int .i64 17, h ++ J) := by
  rw [hcall_go (fn := I30) rfl rfl rfl]
  have q1 := fun g => z32 g c now
  have g1 := gapp hr
  have t1 := gtop h
  have t2 := stop h
  simp (disch := first | omega | (simp only [List.length_cons, List.length_nil, List.length_append, List.length_map, List.length_set]; omega) | rfl | (simp only [List.length_cons, List.length_nil, List.length_append, List.length_map, List.length_set, List.length_replicate, List.all_cons, List.all_nil, List.all_append, storable, plainB, Bool.and_self]; done)) only [go_sem, reduceCtorEq, ↓reduceIte, reduceDIte, evI_callP, callPK_some, I30, q1, hr, g1, t1, t2]
  exact ⟨_, rfl⟩
theorem zm29 {h : Heap} {r : Nat} (hr : h[r]? = some zObj) (c : List UInt8) (f : Bool) : hcall E 29 [.ref r 0 0, sv c, .bool f] h = some (.bool false, h) := by
  rw [hcall_go (fn := I29) rfl rfl rfl]
  have q1 := fun g => z49 g c
  simp (disch := first | omega | (simp only [List.length_cons, List.length_nil, List.length_append, List.length_map, List.length_set]; omega) | rfl | (simp only [List.length_cons, List.length_nil, List.length_append, List.length_map, List.length_set, List.length_replicate, List.all_cons, List.all_nil, List.all_append, storable, plainB, Bool.and_self]; done)) only [go_sem, reduceCtorEq, ↓reduceIte, reduceDIte, evI_callP, callPK_some, I29, q1, hr]
theorem zm31 {h : Heap} {r : Nat} (hr : h[r]? = some zObj) (now : UInt64) : ∃ X J, hcall E 31 [.ref r 0 0, i64u now] h = some (.int .i64 0, h.set r X ++ J) := by
  rw [hcall_go (fn := I31) rfl rfl rfl]
  have g1 := gapp hr
  have t3 := sapp hr
  have hrl := (List.getElem?_eq_some_iff.1 hr).1
  have t4 : ∀ o X, (h.set r o ++ X)[r]? = some o := fun o X => gapp (List.getElem?_set_self hrl) X
  have t5 : ∀ o o' X, (h.set r o ++ X).set r o' = h.set r o' ++ X := fun o o' X => by
    rw [sapp (List.getElem?_set_self hrl), List.set_set]
  simp (disch := first | omega | (simp only [List.length_cons, List.length_nil, List.length_append, List.length_map, List.length_set]; omega) | rfl | (simp only [List.length_cons, List.length_nil, List.length_append, List.length_map, List.length_set, List.length_replicate, List.all_cons, List.all_nil, List.all_append, storable, plainB, Bool.and_self]; done)) only [go_sem, reduceCtorEq, ↓reduceIte, reduceDIte, evI_callP, callPK_some, I31, hr, g1, t3, t4, t5, List.append_assoc, L31_0_lp, L31_0_go, B31_0, L31_1_lp, L31_1_go, B31_1]
  exact ⟨_, _, rfl⟩
end Go.Fw.Wd
