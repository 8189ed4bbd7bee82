/-
  What the evaluation knows of the program. Conditions: none.
-/
import Derived.Test.YtefkoichicalfaaWdMdel
import Derived.Test.YtefkoichicalfaaWdMclone
import Derived.Test.YtefkoichicalfaaWdMkeys
import Derived.Test.YtefkoichicalfaaWdClone
import Derived.Test.YtefkoichicalfaaWdBytes
set_option linter.unusedVariables false
set_option linter.unusedSimpArgs false
namespace Go.Fw.Wd
open Go.Proofs Code_

def primOf (f : FuncId) : Option (List AV → Option (AV × Heap)) :=
  if f = 22 then some freeP
  else if f = 54 then some cloneP
  else if f = 45 ∨ f = 46 then some mcloneP else none
def primMOf (f : FuncId) : Option (List AV → Heap → Option (AV × Heap)) :=
  if f = 41 then some (delP 42 .str (fun p => (lnV p.2).isSome) overL)
  else if f = 43 then some (delP 44 (.int .u32) (fun p => (untV p.2).isSome) overR) else none
def seqOf (f : FuncId) : Option (List AV → Heap → Option (List (List PE))) :=
  if f = 72 then some keysP else none
def Eb : Env := { fns := fun f => if (primOf f).isSome then none else fns f, keep := keep, prim := primOf, primM := primMOf, seq := seqOf }
def rdOf (f : FuncId) : Option (Bool × Nat × Nat) := if f = 12 then some (false, 7, 1) else none
/-- A book's clone: what is lent and what rests in it are only read. -/
def cloneQ (h : Heap) (x : AV) : Option (List AObj × Nat) :=
  match x with
  | .ref k 0 0 => match h[k]? with
    | some (.cells true [.int .u32 a, .int .u32 b, .mp kb, .mp kl, .mp kr] _) => match h[kl]?, h[kr]? with
      | some (.map .str el), some (.map (.int .u32) er) => some ([.cells true [.int .u32 a, .int .u32 b, .mp kb, .rm false .str el, .rm false (.int .u32) er] 90], 0)
      | _, _ => none
    | _ => none
  | _ => none
def mkOf (f : FuncId) : Option (Heap → AV → Option (List AObj × Nat)) := if f = 20 then some cloneQ else none
def E1 : Env := { Eb with rd := rdOf, mkr := mkOf }
theorem prim_ok (f : FuncId) (p : List AV → Option (AV × Heap)) (h : primOf f = some p) (args : List AV) (r : AV) (objs : Heap) (hr : p args = some (r, objs)) : CallSpec Try.prog f args r objs := by
  unfold primOf at h
  split at h
  · rename_i hf
    injection h with h
    subst h; subst hf
    exact freeP_spec args r objs hr
  · split at h
    · rename_i hf
      injection h with h
      subst h; subst hf
      exact clone_spec args r objs hr
    split at h
    · rename_i hf
      injection h with h
      subst h
      rcases hf with rfl | rfl
      · exact mcloneL_spec args r objs hr
      · exact mcloneR_spec args r objs hr
    · cases h
theorem primM_ok (f : FuncId) (p : List AV → Heap → Option (AV × Heap)) (h : primMOf f = some p) (vals : List AV) (hp : Heap) (r : AV) (h' : Heap) (hr : p vals hp = some (r, h')) : CallSpecM Try.prog f vals hp r h' := by
  unfold primMOf at h
  split at h
  · rename_i hf
    injection h with h
    subst h; subst hf
    exact delL_spec vals hp r h' hr
  · split at h
    · rename_i hf
      injection h with h
      subst h; subst hf
      exact delR_spec vals hp r h' hr
    · cases h
theorem seq_ok (E : Env) (hE : E.seq = seqOf) : SeqsOk Try.prog E := by
  intro f q h cap hp items hr
  have h : seqOf f = some q := by rw [← hE]; exact h
  unfold seqOf at h
  split at h
  · rename_i hf
    injection h with h
    subst h; subst hf
    exact keysP_spec cap hp items hr
  · cases h
theorem fns_ok' (f : FuncId) (fn : Fn_) (h : (if (primOf f).isSome then none else fns f) = some fn) : ∃ func, Try.prog.funcs[f]? = some func ∧ chkFn Try.prog func fn = true := by
  split at h
  · cases h
  · exact fns_ok f fn h
theorem Eb_ok : EnvOk Try.prog Eb :=
  ⟨fun f fn h => fns_ok' f fn h, fun f p h args r objs hr => prim_ok f p h args r objs hr, fun f p h vals hp r h' hr => primM_ok f p h vals hp r h' hr, seq_ok Eb rfl, (by intro f x h v hv; cases x <;> cases hv), by intro f x h r h' hv; cases hv⟩
/-- The server's book is read out of it. -/
theorem book_ok (x : AV) (h : Heap) (v : AV) (hv : fldQ h (some (false, 7, 1)) x = some v) : CallSpecM Try.prog 12 [x] h v h := by
  cases x <;> first | (cases hv; done) | skip
  rename_i l ver o
  have e : hcall Eb 12 [.ref l ver o] h = some (v, h) := by
    rw [hcall_go (fn := I12) rfl rfl rfl]
    have hv : (objCells h l ver).bind (fun vs => partA false (o + 7) 1 vs) = some v := hv
    have e3 : ldR h l ver (o + 7) h[l]? = some (v, h) := by
      rw [← loadK_one, loadK_ref, hv]
      rfl
    simp (disch := first | omega | (simp only [List.length_cons, List.length_nil, List.length_append, List.length_map, List.length_set]; omega) | rfl | (simp only [List.length_cons, List.length_nil, List.length_append, List.length_map, List.length_set, List.length_replicate, List.all_cons, List.all_nil, List.all_append, storable, plainB, Bool.and_self]; done)) only [go_sem, reduceCtorEq, ↓reduceIte, reduceDIte, evI_callP, callPK_some, I12, e3]
  have e2 : call Eb 12 [.ref l ver o] h = some (v, h) := e
  obtain ⟨n, hn⟩ := of_sup e2
  exact (callN_ok Eb_ok n).2.1 _ _ _ _ _ hn
theorem tupG_rmQ (kk : Kk) (es : Ents) : tupG (.rm false kk es) = true := (rfl)
theorem clone_ok (x : AV) (h : Heap) (r : AV) (h' : Heap) (hv : mkK h (some cloneQ) x = some (r, h')) : CallSpecM Try.prog 20 [x] h r h' := by
  simp only [mkK, cloneQ] at hv
  split at hv
  case h_2 => cases hv
  rename_i k
  split at hv
  case h_2 => cases hv
  rename_i a b kb kl kr t e1
  split at hv
  case h_2 => cases hv
  rename_i el er e3 e4
  simp only [Option.map_some, Option.some.injEq, Prod.mk.injEq, Nat.add_zero] at hv
  obtain ⟨rfl, rfl⟩ := hv
  have q1 : ∀ (g : Bool) (kk : Kk) (es : Ents), pcall Eb 45 [.rm g kk es] = some (.rm false kk es, []) := fun g kk es => pcall_prim (p := mcloneP) rfl _
  have q2 : ∀ (g : Bool) (kk : Kk) (es : Ents), pcall Eb 46 [.rm g kk es] = some (.rm false kk es, []) := fun g kk es => pcall_prim (p := mcloneP) rfl _
  have e : hcall Eb 20 [.ref k 0 0] h = some (.ref h.length 0 0, h ++ [.cells true [.int .u32 a, .int .u32 b, .mp kb, .rm false .str el, .rm false (.int .u32) er] 90]) := by
    rw [hcall_go (fn := I20) rfl rfl rfl]
    simp (disch := first | omega | (simp only [List.length_cons, List.length_nil, List.length_append, List.length_map, List.length_set]; omega) | rfl | (simp only [List.length_cons, List.length_nil, List.length_append, List.length_map, List.length_set, List.length_replicate, List.all_cons, List.all_nil, List.all_append, storable, plainB, Bool.and_self]; done)) only [go_sem, reduceCtorEq, ↓reduceIte, reduceDIte, evI_callP, callPK_some, I20, e1, e3, e4, q1, q2, tupG_rmQ]
  have e2 : call Eb 20 [.ref k 0 0] h = _ := e
  obtain ⟨n, hn⟩ := of_sup e2
  exact (callN_ok Eb_ok n).2.1 _ _ _ _ _ hn
theorem E1_ok : EnvOk Try.prog E1 := by
  refine ⟨fun f fn h => fns_ok' f fn h, fun f p h args r objs hr => prim_ok f p h args r objs hr, fun f p h vals hp r h' hr => primM_ok f p h vals hp r h' hr, seq_ok E1 rfl, fun f x h v hv => ?_, fun f x h r h' hv => ?_⟩
  rotate_left
  · have hv : mkK h (mkOf f) x = some (r, h') := hv
    unfold mkOf at hv
    split at hv
    · rename_i hf
      subst hf
      exact clone_ok x h r h' hv
    · cases hv
  have hv : fldQ h (rdOf f) x = some v := hv
  unfold rdOf at hv
  split at hv
  · rename_i hf
    subst hf
    exact book_ok x h v hv
  · cases x <;> cases hv
end Go.Fw.Wd
