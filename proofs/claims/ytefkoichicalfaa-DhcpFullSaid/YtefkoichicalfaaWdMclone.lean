/-
  maps.Clone of the loans and of the rests, as the evaluation may take them: the same entries, only read from then on. Conditions: none.
-/
import Derived.Test.YtefkoichicalfaaFwU
import Derived.Test.YtefkoichicalfaaWdCode
import Derived.Test.YtefkoichicalfaaChecked
import Derived.WalkKit
import Derived.Shelf.Lay
import Derived.Shelf.SlMaps.Clone
import Derived.Ground.SlmcProg
set_option linter.unusedVariables false
set_option linter.unusedSimpArgs false
namespace Go.Proofs
open Go.Shelf
shelf_lay_g SlLaysW.n5 Slmc 5 at Try 45 as Try.cloneL
shelf_lay_g SlLaysW.n5 Slmc 5 at Try 46 as Try.cloneR
end Go.Proofs
namespace Go.Fw.Wd
open Go.Proofs Go.RowKit Code_
/-- A clone: the same entries, of nobody else's. -/
def mcloneP : List AV → Option (AV × Heap)
  | [.rm _ kk es] => some (.rm false kk es, [])
  | [.nilm] => some (.nilm, [])
  | _ => none
/-- What a map of the machine's is, it is for whoever reads it by its own kind. -/
theorem mapIs_of_own {w : World} {b : Nat} {kk : Kk} {es : Ents} {P : Program} {k : TypeId} (hw : ∀ p ∈ es, p.2.wf = true) (hk : kindOk P k kk) (h : w.ownsMap P k rdV b es.length (mapD es)) : mapIs w b kk es := ⟨hw, P, k, hk, h⟩
theorem mclone_spec {f : FuncId} (he : EnterOk Try.prog f) (hown : ∀ (kk : Kk) (es : Ents) (b : Nat) (w : World), mapIs w b kk es → Calls Try.prog f #[.map (some b)] w fun e w' => e = .returned (.map (some w.heap.size)) ∧ mapIs w' w.heap.size kk es ∧ Below w.heap.size w w')
    (hnil : ∀ w : World, Calls Try.prog f #[.map none] w fun e w' => e = .returned (.map none) ∧ w' = w) : ∀ args r objs, mcloneP args = some (r, objs) → CallSpec Try.prog f args r objs := by
  intro args r objs h
  unfold mcloneP at h
  split at h
  · rename_i g kk es
    injection h with h
    injection h with h1 h2
    subst h1; subst h2
    refine ⟨he, by simp, fun Bad w us hbad hrep => ?_⟩
    obtain ⟨u, us', rfl, hu, hr⟩ := hrep
    have hr : us' = [] := hr
    subst hr
    obtain ⟨b, rfl, hf, hm⟩ := hu
    refine (hown kk es b w hm).mono ?_
    rintro e w' ⟨rfl, hm', hB⟩
    have hh0 : HeapRel Bad [] [] w := ⟨rfl, by rintro l l' k ⟨bv, h1, _⟩; simp at h1, by rintro l k ⟨bv, h1, _⟩; simp at h1, by rintro l k g ⟨bv, h1, _⟩; simp at h1, hbad, by intro l o bv h1; simp at h1⟩
    refine ⟨_, [], rfl, hB, (Step.quiet hh0 hB).rel, by rintro l k ⟨bv, h1, _⟩; simp at h1, w.heap.size, rfl, ?_, hm'⟩
    rintro (h1 | ⟨l, bv, h1, _⟩)
    · have := hbad.1 _ _ h1; omega
    · simp at h1
  · injection h with h
    injection h with h1 h2
    subst h1; subst h2
    refine ⟨he, by simp, fun Bad w us hbad hrep => ?_⟩
    obtain ⟨u, us', rfl, hu, hr⟩ := hrep
    have hr : us' = [] := hr
    subst hr
    have hu : u = .map none := hu
    subst hu
    refine (hnil w).mono ?_
    rintro e w' ⟨rfl, rfl⟩
    have hh0 : HeapRel Bad [] [] w' := ⟨rfl, by rintro l l' k ⟨bv, h1, _⟩; simp at h1, by rintro l k ⟨bv, h1, _⟩; simp at h1, by rintro l k g ⟨bv, h1, _⟩; simp at h1, hbad, by intro l o bv h1; simp at h1⟩
    exact ⟨_, [], rfl, Below.refl _ _, hh0, by rintro l k ⟨bv, h1, _⟩; simp at h1, rfl⟩
  · cases h
theorem mapIs_move {w w' : World} {b b' : Nat} {kk : Kk} {es : Ents} (hm : mapIs w b kk es) (h : w'.heap[b']? = w.heap[b]?) : mapIs w' b' kk es := by
  obtain ⟨hw, P, k, hk, es', c, h2, r⟩ := hm
  exact ⟨hw, P, k, hk, es', c, h.trans h2, r⟩
theorem mapIs_heap {w : World} {b : Nat} {kk : Kk} {es : Ents} (hm : mapIs w b kk es) : ∃ es' c, w.heap[b]? = some (.map es' c) := by
  obtain ⟨hw, P, k, hk, es', c, h2, r⟩ := hm
  exact ⟨es', c, h2⟩
theorem mcloneL_spec : ∀ args r objs, mcloneP args = some (r, objs) → CallSpec Try.prog 45 args r objs := by
  refine mclone_spec ⟨_, Try.func45, by kernel_rfl, by kernel_rfl⟩ (fun kk es b w hm => ?_) (fun w => AnyW.maps_Clone_nil Try.cloneL w)
  obtain ⟨es', c, hb⟩ := mapIs_heap hm
  refine (AnyW.maps_Clone Try.cloneL b es' c w hb).mono ?_
  rintro e w' ⟨he, hw⟩
  subst hw
  exact ⟨he, mapIs_move hm (by rw [World.alloc_heap_new, hb]), (Below.refl _ w).alloc (Nat.le_refl _) _⟩
theorem mcloneR_spec : ∀ args r objs, mcloneP args = some (r, objs) → CallSpec Try.prog 46 args r objs := by
  refine mclone_spec ⟨_, Try.func46, by kernel_rfl, by kernel_rfl⟩ (fun kk es b w hm => ?_) (fun w => AnyW.maps_Clone_nil Try.cloneR w)
  obtain ⟨es', c, hb⟩ := mapIs_heap hm
  refine (AnyW.maps_Clone Try.cloneR b es' c w hb).mono ?_
  rintro e w' ⟨he, hw⟩
  subst hw
  exact ⟨he, mapIs_move hm (by rw [World.alloc_heap_new, hb]), (Below.refl _ w).alloc (Nat.le_refl _) _⟩
end Go.Fw.Wd
