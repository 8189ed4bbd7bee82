/-
  From the arguments of a row, read as data, to the evaluation's values; and back behind the call. Conditions: stated at each.
-/
import Derived.Test.YtefkoichicalfaaFwQ
import Derived.WalkKit
import Derived.ProofKit
import Derived.OpenShut
import Derived.ShutString
import Derived.ChangeOld
import Derived.SizedLaws
set_option linter.unusedVariables false
set_option linter.unusedSimpArgs false
set_option linter.unusedSectionVars false
namespace Go.Fw
open Go.RowKit (Below)
open Go.ChangeShapes Go.WideShapes Go.ChangeAt

/-- Values that can be arguments of a type. -/
inductive Arg (P : Program) : TypeId → AV → Prop where
  | bool {t : TypeId} {b : Bool} : P.underlying t = some .bool → Arg P t (.bool b)
  | int {t : TypeId} {k : IntKind} {n : Int} : P.underlying t = some (.int k) → (Lit.int k n).wf = true → Arg P t (.int k n)
  | str {t : TypeId} {s : ByteArray} : P.underlying t = some .string → s.size ≤ reachBytes → Arg P t (.str s)
  | slice {t e : TypeId} {l : List AV} : P.underlying t = some (.slice e) → l.length * P.bytesOf e ≤ reachBytes → (∀ y ∈ l, Arg P e y) → Arg P t (.rs false (P.cellsOf e) l)
  | struct {t : TypeId} {fs : Array Field} {ys : List AV} : P.underlying t = some (.struct fs) → ys.length = fs.toList.length → (∀ (i : Nat) f y, fs.toList[i]? = some f → ys[i]? = some y → Arg P f.type y) → Arg P t (.agg (ys.flatMap cellsOf))
  | array {t e : TypeId} {n : Nat} {l : List AV} : P.underlying t = some (.array n e) → l.length = n → (∀ y ∈ l, Arg P e y) → Arg P t (.agg (l.flatMap cellsOf))

/-- A struct's fields lie one behind the other. -/
def contig (P : Program) : Nat → List Field → Option Nat
  | off, [] => some off
  | off, f :: fs => if f.offset = off then contig P (off + P.cellsOf f.type) fs else none

/-- Types whose arguments are served. -/
def argB (P : Program) : Nat → TypeId → Bool
  | 0, _ => false
  | d + 1, t =>
    match P.underlying t with
    | some .bool | some (.int _) | some .string => true
    | some (.slice e) => argB P d e && decide (0 < P.cellsOf e) && ((P.cellsOf e != 1) == (match P.underlying e with | some x => isAggD x | none => false))
    | some (.array n e) => argB P d e && decide (P.cellsOf t = n * P.cellsOf e)
    | some (.struct fs) => (fs.toList.all fun f => argB P d f.type) && contig P 0 fs.toList == some (P.cellsOf t)
    | _ => false

def F0 : Forb := fun g k => g = true ∧ ∃ x ∈ laidVars, x.1 = k
/-- What is laid lies there. -/
def LaidW (w : World) : Prop := ∀ x ∈ laidVars, w.cell? ⟨x.1, 0, none⟩ = some x.2
theorem LaidW.lt {w : World} (h : LaidW w) {x : Nat × Value} (hx : x ∈ laidVars) : x.1 < w.heap.size := by
  have h1 := h x hx
  unfold World.cell? at h1
  rcases Nat.lt_or_ge x.1 w.heap.size with h2 | h2
  · exact h2
  · rw [Array.getElem?_eq_none h2] at h1
    cases h1
theorem LaidW.below {w w' : World} (h : LaidW w) (hb : Below w.heap.size w w') : LaidW w' := fun x hx => by rw [cell_of_heap (hb.block x.1 (h.lt hx))]; exact h x hx
theorem F0_ok {w : World} (h : LaidW w) : BadOk F0 w := by
  refine ⟨fun g k hk => ?_, fun x hx => ⟨⟨rfl, x, hx, rfl⟩, h x hx⟩⟩
  obtain ⟨_, x, hx, rfl⟩ := hk
  exact h.lt hx
theorem BadOk.laidW {Bad : Forb} {w : World} (h : BadOk Bad w) : LaidW w := fun x hx => (h.2 x hx).2
theorem F0_of {Bad : Forb} {w : World} (h : BadOk Bad w) (g : Bool) (k : Nat) (hf : ¬ Bad g k) : ¬ F0 g k := by
  rintro ⟨rfl, x, hx, rfl⟩
  exact hf (h.2 x hx).1
/-- One block more is barred. -/
def FB (b0 : Nat) : Forb := fun g k => F0 g k ∨ k = b0
theorem FB_ok {w : World} (h : LaidW w) {b0 : Nat} (hb : b0 < w.heap.size) : BadOk (FB b0) w :=
  (F0_ok h).wide (fun g k hk => hk.elim (fun h1 => (F0_ok h).1 g k h1) fun h1 => by rw [h1]; exact hb) fun k hk => .inl hk
theorem F0_f (k : Nat) : ¬ F0 false k := fun h => by cases h.1

theorem mapM_range {α : Type} {f : Nat → Option α} {n : Nat} {xs : List α} (h : (List.range n).mapM f = some xs) : xs.length = n ∧ ∀ i, i < n → f i = xs[i]? := by
  have key : ∀ (l : List Nat) (xs : List α), l.mapM f = some xs → xs.length = l.length ∧ ∀ (i : Nat) (k : Nat), l[i]? = some k → f k = xs[i]? := by
    intro l
    induction l with
    | nil => intro xs h; simp at h; subst h; exact ⟨rfl, fun i k h => by simp at h⟩
    | cons a l ih =>
      intro xs h
      simp only [List.mapM_cons, Option.bind_eq_bind, Option.pure_def] at h
      cases ha : f a with
      | none => rw [ha] at h; cases h
      | some y =>
        cases hl : l.mapM f with
        | none => rw [ha, hl] at h; cases h
        | some ys =>
          rw [ha, hl] at h
          simp only [Option.bind_some, Option.some.injEq] at h
          subst h
          obtain ⟨h1, h2⟩ := ih ys hl
          refine ⟨by simp [h1], fun i k hk => ?_⟩
          cases i with
          | zero => simp at hk; subst hk; simpa using ha
          | succ i => simpa using h2 i k (by simpa using hk)
  obtain ⟨h1, h2⟩ := key _ xs h
  exact ⟨by simpa using h1, fun i hi => h2 i i (by simp [hi])⟩

theorem mapM_list {α γ : Type} {f : γ → Option α} : ∀ {l : List γ} {xs : List α}, l.mapM f = some xs → xs.length = l.length ∧ ∀ (i : Nat) k, l[i]? = some k → f k = xs[i]?
  | [], xs, h => by simp at h; subst h; exact ⟨rfl, fun i k h => by simp at h⟩
  | a :: l, xs, h => by
    simp only [List.mapM_cons, Option.bind_eq_bind, Option.pure_def] at h
    cases ha : f a with
    | none => rw [ha] at h; cases h
    | some y =>
      cases hl : l.mapM f with
      | none => rw [ha, hl] at h; cases h
      | some ys =>
        rw [ha, hl] at h
        simp only [Option.bind_some, Option.some.injEq] at h
        subst h
        obtain ⟨h1, h2⟩ := mapM_list hl
        refine ⟨by simp [h1], fun i k hk => ?_⟩
        cases i with
        | zero => simp at hk; subst hk; simpa using ha
        | succ i => simpa using h2 i k (by simpa using hk)

theorem cells_spec {w : World} {a : Addr} {n : Nat} {cs : List Value} (h : w.cells? 0 a n = some cs) : cs.length = n ∧ ∀ (j : Nat) (v : Value), cs[j]? = some v → w.cell? (a.add j) = some v := by
  unfold World.cells? at h
  rw [if_pos (Nat.zero_le _)] at h
  obtain ⟨h1, h2⟩ := mapM_range h
  refine ⟨h1, fun j v hv => ?_⟩
  have hj : j < n := by rw [← h1]; exact (List.getElem?_eq_some_iff.1 hv).1
  rw [h2 j hj, hv]

section
variable {H : Type} {enc : TypeId × Value → H} {P : Program} {w : World}

theorem weightsAll_mem {e : TypeId} : ∀ {l : List (DataW H)} {d : DataW H}, d ∈ l → (DataW.weightsAll P e l).all (· ≤ reachBytes) = true → (d.weights P e).all (· ≤ reachBytes) = true
  | x :: l, d, hd, h => by
    simp only [DataW.weightsAll, List.all_append, Bool.and_eq_true] at h
    rcases List.mem_cons.1 hd with rfl | hd
    · exact h.1
    · exact weightsAll_mem hd h.2

theorem weightsEach_at : ∀ {ts : List TypeId} {ds : List (DataW H)} {i : Nat} {t : TypeId} {d : DataW H}, ts[i]? = some t → ds[i]? = some d → (DataW.weightsEach P ts ds).all (· ≤ reachBytes) = true → (d.weights P t).all (· ≤ reachBytes) = true
  | t' :: ts, d' :: ds, i, t, d, ht, hd, h => by
    simp only [DataW.weightsEach, List.all_append, Bool.and_eq_true] at h
    cases i with
    | zero => simp at ht hd; subst ht; subst hd; exact h.1
    | succ i => exact weightsEach_at (by simpa using ht) (by simpa using hd) h.2
  | [], _, i, t, d, ht, _, _ => by simp at ht
  | _ :: _, [], i, t, d, _, hd, _ => by simp at hd

theorem flat_cells {P : Program} {w : World} {a : Addr} {sz : Nat} : ∀ (css : List (List Value)) (o : Nat), (∀ (i : Nat) c, css[i]? = some c → c.length = sz ∧ ∀ (j : Nat) (v : Value), c[j]? = some v → w.cell? (a.add (o + i * sz + j)) = some v) → ∀ (k : Nat) u, css.flatten[k]? = some u → w.cell? (a.add (o + k)) = some u
  | [], o, _, k, u, h => by simp at h
  | c :: css, o, hc, k, u, h => by
    obtain ⟨h1, h2⟩ := hc 0 c rfl
    rw [List.flatten_cons, List.getElem?_append] at h
    split at h
    · have := h2 k u h
      simpa using this
    · rename_i hk
      have := flat_cells (P := P) css (o + sz) (fun i c' hi => by
        obtain ⟨g1, g2⟩ := hc (i + 1) c' (by simpa using hi)
        refine ⟨g1, fun j v hj => ?_⟩
        have := g2 j v hj
        rw [show o + sz + i * sz + j = o + (i + 1) * sz + j by rw [Nat.succ_mul]; omega]
        exact this) (k - c.length) u h
      rw [show o + sz + (k - c.length) = o + k by omega] at this
      exact this

theorem contig_flat {P : Program} {cs : List Value} : ∀ (fs : List Field) (pcs : List (List Value)) (off n : Nat), contig P off fs = some n → pcs.length = fs.length → (∀ (i : Nat) f, fs[i]? = some f → pcs[i]? = some ((cs.drop f.offset).take (P.cellsOf f.type))) → off ≤ n ∧ pcs.flatten = (cs.drop off).take (n - off)
  | [], pcs, off, n, h, hl, _ => by
    simp [contig] at h
    subst h
    have : pcs = [] := List.eq_nil_of_length_eq_zero (by simpa using hl)
    subst this
    simp
  | f :: fs, [], off, n, h, hl, hp => by simp at hl
  | f :: fs, p :: pcs, off, n, h, hl, hp => by
    unfold contig at h
    split at h
    · rename_i ho
      have h0 := hp 0 f rfl
      simp at h0
      obtain ⟨hle, hf⟩ := contig_flat fs pcs (off + P.cellsOf f.type) n h (by simpa using hl) (fun i g hg => by
        have := hp (i + 1) g (by simpa using hg)
        simpa using this)
      refine ⟨by omega, ?_⟩
      rw [List.flatten_cons, h0, hf, ho]
      rw [show n - off = P.cellsOf f.type + (n - (off + P.cellsOf f.type)) by omega]
      rw [List.take_add, List.drop_drop]
    · cases h

theorem chunk_flat {cs : List Value} {sz : Nat} : ∀ n : Nat, ((List.range n).map fun i => (cs.drop (i * sz)).take sz).flatten = cs.take (n * sz)
  | 0 => by simp
  | n + 1 => by
    rw [List.range_succ, List.map_append, List.flatten_append, chunk_flat n, Nat.succ_mul, List.take_add]
    simp

theorem hasOwnL_of : ∀ {l : List AV}, (∀ z ∈ l, hasOwn z = false) → hasOwn.hasOwnL l = false
  | [], _ => rfl
  | x :: l, h => by simp [hasOwn.hasOwnL, h x (by simp), hasOwnL_of (l := l) fun z hz => h z (by simp [hz])]

theorem hasOwnL_at : ∀ {l : List AV}, hasOwn.hasOwnL l = false → ∀ z ∈ l, hasOwn z = false
  | x :: l, h, z, hz => by
    simp only [hasOwn.hasOwnL, Bool.or_eq_false_iff] at h
    rcases List.mem_cons.1 hz with rfl | hz
    · exact h.1
    · exact hasOwnL_at h.2 z hz

theorem hasOwn_cells {x : AV} (h : hasOwn x = false) : ∀ z ∈ cellsOf x, hasOwn z = false := by
  cases x <;> simp [cellsOf] <;> try (first | rfl | exact h | (simp [hasOwn]; done))
  case agg cs => exact hasOwnL_at h

/-- How many values and letters a value holds; and a reading. -/
def bulkA : AV → Nat
  | .rs _ _ l => bulkAL l + 1
  | .agg cs => bulkAL cs + 1
  | .str s => s.size + 1
  | _ => 1
where
  bulkAL : List AV → Nat
    | [] => 0
    | x :: l => bulkA x + bulkAL l
mutual
def bulkD {H : Type} : DataW H → Nat
  | .lit (.string bytes) => bytes.length + 1
  | .lit _ => 1
  | .nil => 1
  | .ptr d => bulkD d + 1
  | .slice elems spare => bulkDL elems + bulkDL spare + 1
  | .agg parts => bulkDL parts + 1
  | .iface _ d => bulkD d + 1
  | .map entries => bulkDE entries + 1
  | .held _ => 1
def bulkDL {H : Type} : List (DataW H) → Nat
  | [] => 0
  | d :: r => bulkD d + bulkDL r
def bulkDE {H : Type} : List (Lit × DataW H) → Nat
  | [] => 0
  | x :: r => bulkDx x + bulkDE r
def bulkDx {H : Type} : Lit × DataW H → Nat
  | (.string bytes, d) => bytes.length + bulkD d + 1
  | (_, d) => bulkD d + 1
end
theorem bulkD_pos {H : Type} (d : DataW H) : 1 ≤ bulkD d := by
  cases d with
  | lit l => cases l <;> simp [bulkD]
  | nil => simp [bulkD]
  | ptr d => simp [bulkD]
  | slice elems spare => simp [bulkD]
  | agg parts => simp [bulkD]
  | iface t d => simp [bulkD]
  | map entries => simp [bulkD]
  | held h => simp [bulkD]
theorem bulkAL_append : ∀ l m : List AV, bulkA.bulkAL (l ++ m) = bulkA.bulkAL l + bulkA.bulkAL m
  | [], m => by simp [bulkA.bulkAL]
  | x :: l, m => by simp only [List.cons_append, bulkA.bulkAL, bulkAL_append l m]; omega
theorem bulkA_cells (y : AV) : bulkA.bulkAL (cellsOf y) ≤ bulkA y := by
  cases y <;> simp [cellsOf, bulkA.bulkAL, bulkA]
theorem bulkA_flat : ∀ l : List AV, bulkA.bulkAL (l.flatMap cellsOf) ≤ bulkA.bulkAL l
  | [] => Nat.le_refl _
  | y :: l => by
    have h1 := bulkA_cells y
    have h2 := bulkA_flat l
    rw [List.flatMap_cons, bulkAL_append]
    simp only [bulkA.bulkAL]
    omega
theorem bulk_le {H : Type} : ∀ {ys : List AV} {ds : List (DataW H)}, ys.length = ds.length → (∀ (i : Nat) y d, ys[i]? = some y → ds[i]? = some d → bulkA y ≤ bulkD d) → bulkA.bulkAL ys ≤ bulkDL ds
  | [], ds, _, _ => Nat.zero_le _
  | y :: ys, [], hl, _ => by simp at hl
  | y :: ys, d :: ds, hl, h => by
    have h1 := h 0 y d rfl rfl
    have h2 := bulk_le (ys := ys) (ds := ds) (by simpa using hl) (fun i y' d' hy hd => h (i + 1) y' d' (by simpa using hy) (by simpa using hd))
    simp only [bulkA.bulkAL, bulkDL]
    omega

/-- What is read of a variable of such a type. -/
def Good (P : Program) (w : World) (t : TypeId) (cs : List Value) (x : AV) : Prop :=
  Arg P t x ∧ (∀ c ∈ cs, c.oneCell' = true) ∧ (cellsOf x).all storable = true ∧ hasOwn x = false ∧ RepL (cellsOf x) [] [] F0 w cs ∧
    ∃ u : Value, u.cells.toList = cs ∧ Rep x [] [] F0 w u ∧ (match P.underlying t with | some (.struct _) | some (.array _ _) => ∃ arr, u = .agg arr | _ => u.oneCell' = true)

theorem good_list {P : Program} {w : World} {α : Type} {css : List (List Value)} {ts : α → TypeId} : ∀ {l : List α} {bs : Nat → Nat}, css.length = l.length → (∀ (i : Nat) a c, l[i]? = some a → css[i]? = some c → ∃ x, Good P w (ts a) c x ∧ bulkA x ≤ bs i) →
    ∃ ys : List AV, ys.length = l.length ∧ (∀ (i : Nat) a c y, l[i]? = some a → css[i]? = some c → ys[i]? = some y → Good P w (ts a) c y) ∧ ∀ (i : Nat) y, ys[i]? = some y → bulkA y ≤ bs i := by
  induction css with
  | nil => intro l bs hl h; exact ⟨[], by simpa using hl, fun i a c y _ hc => by simp at hc, fun i y hy => by simp at hy⟩
  | cons c css ih =>
    intro l bs hl h
    cases l with
    | nil => simp at hl
    | cons a l =>
      obtain ⟨x, hx, hxb⟩ := h 0 a c rfl rfl
      obtain ⟨ys, h1, h2, h3⟩ := ih (l := l) (bs := fun i => bs (i + 1)) (by simpa using hl) (fun i a' c' ha hc => h (i + 1) a' c' (by simpa using ha) (by simpa using hc))
      refine ⟨x :: ys, by simp [h1], fun i a' c' y ha hc hy => ?_, fun i y hy => ?_⟩
      · cases i with
        | zero => simp at ha hc hy; subst ha; subst hc; subst hy; exact hx
        | succ i => exact h2 i a' c' y (by simpa using ha) (by simpa using hc) (by simpa using hy)
      · cases i with
        | zero => simp at hy; subst hy; exact hxb
        | succ i => exact h3 i y (by simpa using hy)

theorem repL_flat {w : World} : ∀ {ys : List AV} {css : List (List Value)}, ys.length = css.length → (∀ (i : Nat) c y, css[i]? = some c → ys[i]? = some y → RepL (cellsOf y) [] [] F0 w c) → RepL (ys.flatMap cellsOf) [] [] F0 w css.flatten
  | [], css, hl, _ => by
    have : css = [] := List.eq_nil_of_length_eq_zero (by simpa using hl.symm)
    subst this; rfl
  | y :: ys, [], hl, _ => by simp at hl
  | y :: ys, c :: css, hl, h => by
    rw [List.flatMap_cons, List.flatten_cons]
    exact RepL.append (h 0 c y rfl rfl) (repL_flat (by simpa using hl) (fun i c' y' hc hy => h (i + 1) c' y' (by simpa using hc) (by simpa using hy)))

theorem repF_flat {P : Program} {w : World} {e : TypeId} {sz : Nat} : ∀ {ys : List AV} {css : List (List Value)}, ys.length = css.length → (∀ (i : Nat) c y, css[i]? = some c → ys[i]? = some y → Good P w e c y ∧ c.length = sz) → RepF ys sz F0 w css.flatten
  | [], css, hl, _ => by
    have : css = [] := List.eq_nil_of_length_eq_zero (by simpa using hl.symm)
    subst this; rfl
  | y :: ys, [], hl, _ => by simp at hl
  | y :: ys, c :: css, hl, h => by
    obtain ⟨⟨_, _, _, _, _, u, hu, hr, _⟩, hlen⟩ := h 0 c y rfl rfl
    exact ⟨u, css.flatten, by rw [List.flatten_cons, hu], by rw [← hlen, ← hu]; simp, hr, repF_flat (P := P) (e := e) (by simpa using hl) (fun i c' y' hc hy => h (i + 1) c' y' (by simpa using hc) (by simpa using hy))⟩

theorem weightsAll_le {e : TypeId} {l : List (DataW H)} {d : DataW H} (hd : d ∈ l) (h : (DataW.weightsAll P e l).all (· ≤ reachBytes) = true) : (d.weights P e).all (· ≤ reachBytes) = true := weightsAll_mem hd h

set_option maxHeartbeats 800000 in
theorem trod_arg : ∀ (k fuel : Nat) (t : TypeId) (cs : List Value) (d : DataW H) (ps : List MemPlace), argB P k t = true → DataW.trod enc P w 0 (fun _ => true) true fuel t cs = some (d, ps) → (d.weights P t).all (· ≤ reachBytes) = true →
    ∃ x, Good P w t cs x ∧ bulkA x ≤ bulkD d
  | 0, fuel, t, cs, d, ps, hb, _, _ => by simp [argB] at hb
  | k + 1, fuel, t, cs, d, ps, hb, h, hw => by
    simp only [argB] at hb
    cases hu : P.underlying t with
    | none => rw [hu] at hb; cases hb
    | some td =>
      rw [hu] at hb
      cases td <;> simp only at hb <;> try (cases hb; done)
      case bool =>
        obtain ⟨b, rfl, _⟩ := DataW.trod_bool hu h
        exact ⟨.bool b, ⟨.bool hu, by simp [Value.oneCell'], rfl, rfl, ⟨_, [], rfl, rfl, rfl⟩, .bool b, rfl, rfl, by rw [hu]; rfl⟩, bulkD_pos d⟩
      case int kd =>
        obtain ⟨n, rfl, _, hwf⟩ := DataW.trod_int hu h
        exact ⟨.int kd n, ⟨.int hu hwf, by simp [Value.oneCell'], rfl, rfl, ⟨_, [], rfl, rfl, rfl⟩, .int kd n, rfl, rfl, by rw [hu]; rfl⟩, bulkD_pos d⟩
      case string =>
        obtain ⟨s, rfl, hx, _⟩ := DataW.trod_string hu h
        cases hx
        have hsz : s.size ≤ reachBytes := by simpa [DataW.weights] using hw
        exact ⟨.str s, ⟨.str hu hsz, by simp [Value.oneCell'], rfl, rfl, ⟨_, [], rfl, rfl, rfl⟩, .string s, rfl, rfl, by rw [hu]; rfl⟩, by simp [bulkA, bulkD]⟩
      case slice e =>
        simp only [Bool.and_eq_true, decide_eq_true_eq, beq_iff_eq] at hb
        obtain ⟨⟨hb1, hb2⟩, hb3⟩ := hb
        rcases DataW.trod_slice hu h with ⟨rfl, hx⟩ | ⟨a, len, cap, elems, rest, n, rfl, rfl, hx, _, hlc, _, hel, hat, _, _⟩
        · have hr : Rep (.rs false (P.cellsOf e) []) [] [] F0 w (.slice none 0 0) := ⟨none, 0, [], rfl, Nat.le_refl _, .inl hb2, rfl, fun i u h => by simp at h⟩
          exact ⟨.rs false (P.cellsOf e) [], ⟨.slice hu (by simp) (by simp), by simp [Value.oneCell'], rfl, rfl, ⟨_, [], rfl, hr, rfl⟩, .slice none 0 0, rfl, hr, by rw [hu]; rfl⟩, bulkD_pos d⟩
        · cases hx
          simp only [DataW.weights, hu, List.all_append, List.all_cons, Bool.and_eq_true, decide_eq_true_eq, List.length_map] at hw
          obtain ⟨hw1, hw2, _⟩ := hw
          -- the elements' cells
          have hcs : ∀ i, i < len → ∃ c, w.cells? 0 (a.add (i * P.cellsOf e)) (P.cellsOf e) = some c ∧ ∃ x, Good P w e c x ∧ ∀ z, (elems.map (·.1))[i]? = some z → bulkA x ≤ bulkD z := by
            intro i hi
            have h1 := hat i hi
            rw [List.getElem?_eq_getElem (by omega)] at h1
            obtain ⟨c, hc1, hc2⟩ := Option.bind_eq_some_iff.1 h1
            obtain ⟨x, hx1, hx2⟩ := trod_arg k n e c _ _ hb1 hc2 (by exact weightsAll_mem (e := e) (l := elems.map (·.1)) (List.mem_map.2 ⟨_, List.getElem_mem (by omega), rfl⟩) hw2)
            · refine ⟨c, hc1, x, hx1, fun z hz => ?_⟩
              rw [List.getElem?_map, List.getElem?_eq_getElem (by omega)] at hz
              injection hz with hz
              subst hz
              exact hx2
          let css : List (List Value) := (List.range len).map fun i => (w.cells? 0 (a.add (i * P.cellsOf e)) (P.cellsOf e)).getD []
          have hcl : css.length = len := by simp [css]
          have hcg : ∀ (i : Nat) c, css[i]? = some c → w.cells? 0 (a.add (i * P.cellsOf e)) (P.cellsOf e) = some c ∧ ∃ x, Good P w e c x ∧ ∀ z, (elems.map (·.1))[i]? = some z → bulkA x ≤ bulkD z := by
            intro i c hi
            have hil : i < len := by rw [← hcl]; exact (List.getElem?_eq_some_iff.1 hi).1
            obtain ⟨c', h1, h2⟩ := hcs i hil
            have : css[i]? = some c' := by simp [css, hil, h1]
            rw [this] at hi; cases hi
            exact ⟨h1, h2⟩
          obtain ⟨ys, hy1, hy2, hy3⟩ := good_list (P := P) (w := w) (css := css) (ts := fun _ : Nat => e) (l := List.range len) (bs := fun i => ((elems.map (·.1))[i]?.map bulkD).getD 0) (by simp [hcl]) (fun i _ c _ hc => by
            obtain ⟨x, hx1, hx2⟩ := (hcg i c hc).2
            refine ⟨x, hx1, ?_⟩
            have hil : i < len := by rw [← hcl]; exact (List.getElem?_eq_some_iff.1 hc).1
            have hz : i < (elems.map (·.1)).length := by rw [List.length_map]; omega
            rw [List.getElem?_eq_getElem hz]
            exact hx2 _ (List.getElem?_eq_getElem hz))
          have hyl : ys.length = len := by simpa using hy1
          have hgood : ∀ (i : Nat) c y, css[i]? = some c → ys[i]? = some y → Good P w e c y ∧ c.length = P.cellsOf e := by
            intro i c y hc hy
            have hil : i < len := by rw [← hcl]; exact (List.getElem?_eq_some_iff.1 hc).1
            exact ⟨hy2 i i c y (by simp [hil]) hc hy, (cells_spec (hcg i c hc).1).1⟩
          have hr : Rep (.rs false (P.cellsOf e) ys) [] [] F0 w (.slice (some a) len cap) := by
            refine ⟨some a, cap, css.flatten, by rw [hyl], by rw [hyl]; exact hlc, .inl hb2, repF_flat (P := P) (e := e) (by rw [hyl, hcl]) hgood, fun i u hi => ⟨a, rfl, F0_f _, ?_, ?_⟩⟩
            · have := flat_cells (P := P) (w := w) (a := a) (sz := P.cellsOf e) css 0 (fun i c hc => by
                obtain ⟨g1, g2⟩ := cells_spec (hcg i c hc).1
                refine ⟨g1, fun j v hj => ?_⟩
                have := g2 j v hj
                rw [Addr.add_add] at this
                simpa using this) i u hi
              simpa using this
            · obtain ⟨c, hc, huc⟩ := List.mem_flatten.1 (List.mem_of_getElem? hi)
              obtain ⟨j, hj⟩ := List.mem_iff_getElem?.1 hc
              obtain ⟨_, x, hx, _⟩ := hcg j c hj
              exact hx.2.1 u huc
          have hbk : bulkA.bulkAL ys ≤ bulkDL (elems.map (·.1)) := bulk_le (by rw [hyl, List.length_map]; omega) (fun i y z hy hz => by
            have := hy3 i y hy
            rw [hz] at this
            exact this)
          refine ⟨.rs false (P.cellsOf e) ys, ⟨.slice hu ?_ ?_, by simp [Value.oneCell'], rfl, ?_, ⟨_, [], rfl, hr, rfl⟩, .slice (some a) len cap, rfl, hr, by rw [hu]; rfl⟩, by simp only [bulkA, bulkD]; omega⟩
          · rw [hyl]
            refine Nat.le_trans (Nat.mul_le_mul_right _ ?_) hw1
            omega
          · intro y hy
            obtain ⟨j, hj⟩ := List.mem_iff_getElem?.1 hy
            have hjl : j < css.length := by rw [hcl, ← hyl]; exact (List.getElem?_eq_some_iff.1 hj).1
            exact (hgood j _ y (List.getElem?_eq_getElem hjl) hj).1.1
          · rfl
      case array n e =>
        simp only [Bool.and_eq_true, decide_eq_true_eq] at hb
        obtain ⟨xs, m, rfl, hx, hlen, hxl, hat⟩ := DataW.trod_array hu h
        cases hx
        simp only [DataW.weights, hu] at hw
        let css : List (List Value) := (List.range n).map fun i => (cs.drop (i * P.cellsOf e)).take (P.cellsOf e)
        have hcl : css.length = n := by simp [css]
        have hcg : ∀ (i : Nat) c, css[i]? = some c → ∃ x, Good P w e c x ∧ ∀ z, (xs.map (·.1))[i]? = some z → bulkA x ≤ bulkD z := by
          intro i c hc
          have hil : i < n := by rw [← hcl]; exact (List.getElem?_eq_some_iff.1 hc).1
          have h1 := hat i hil
          have hcc : c = (cs.drop (i * P.cellsOf e)).take (P.cellsOf e) := by
            simp only [css, List.getElem?_map, List.getElem?_range hil, Option.map_some, Option.some.injEq] at hc
            exact hc.symm
          rw [hcc]
          rw [List.getElem?_eq_getElem (by omega)] at h1
          obtain ⟨x, hx1, hx2⟩ := trod_arg k m e _ _ _ hb.1 h1 (by exact weightsAll_mem (e := e) (l := xs.map (·.1)) (List.mem_map.2 ⟨_, List.getElem_mem (by omega), rfl⟩) hw)
          · refine ⟨x, hx1, fun z hz => ?_⟩
            rw [List.getElem?_map, List.getElem?_eq_getElem (by omega)] at hz
            injection hz with hz
            subst hz
            exact hx2
        obtain ⟨ys, hy1, hy2, hy3⟩ := good_list (P := P) (w := w) (css := css) (ts := fun _ : Nat => e) (l := List.range n) (bs := fun i => ((xs.map (·.1))[i]?.map bulkD).getD 0) (by simp [hcl]) (fun i _ c _ hc => by
          obtain ⟨x, hx1, hx2⟩ := hcg i c hc
          refine ⟨x, hx1, ?_⟩
          have hil : i < n := by rw [← hcl]; exact (List.getElem?_eq_some_iff.1 hc).1
          have hz : i < (xs.map (·.1)).length := by rw [List.length_map]; omega
          rw [List.getElem?_eq_getElem hz]
          exact hx2 _ (List.getElem?_eq_getElem hz))
        have hyl : ys.length = n := by simpa using hy1
        have hfl : css.flatten = cs := by
          have := chunk_flat (cs := cs) (sz := P.cellsOf e) n
          rw [List.take_of_length_le (by rw [hlen, hb.2]; exact Nat.le_refl _)] at this
          exact this
        have hat' : ∀ (i : Nat) c y, css[i]? = some c → ys[i]? = some y → Good P w e c y := by
          intro i c y hc hy
          have hil : i < n := by rw [← hcl]; exact (List.getElem?_eq_some_iff.1 hc).1
          exact hy2 i i c y (by simp [hil]) hc hy
        have hrl : RepL (ys.flatMap cellsOf) [] [] F0 w cs := by
          rw [← hfl]
          exact repL_flat (by rw [hyl, hcl]) (fun i c y hc hy => (hat' i c y hc hy).2.2.2.2.1)
        have hone : ∀ c ∈ cs, c.oneCell' = true := by
          rw [← hfl]
          intro v hv
          obtain ⟨c, hc, hvc⟩ := List.mem_flatten.1 hv
          obtain ⟨j, hj⟩ := List.mem_iff_getElem?.1 hc
          have hjl : j < ys.length := by rw [hyl, ← hcl]; exact (List.getElem?_eq_some_iff.1 hj).1
          exact (hat' j c _ hj (List.getElem?_eq_getElem hjl)).2.1 v hvc
        have hys : ∀ y ∈ ys, Arg P e y ∧ (cellsOf y).all storable = true ∧ hasOwn y = false := by
          intro y hy
          obtain ⟨j, hj⟩ := List.mem_iff_getElem?.1 hy
          have hjl : j < css.length := by rw [hcl, ← hyl]; exact (List.getElem?_eq_some_iff.1 hj).1
          have hg := hat' j _ y (List.getElem?_eq_getElem hjl) hj
          exact ⟨hg.1, hg.2.2.1, hg.2.2.2.1⟩
        have hbk : bulkA.bulkAL ys ≤ bulkDL (xs.map (·.1)) := bulk_le (by rw [hyl, List.length_map]; omega) (fun i y z hy hz => by
          have := hy3 i y hy
          rw [hz] at this
          exact this)
        have hbf := bulkA_flat ys
        refine ⟨.agg (ys.flatMap cellsOf), ⟨.array hu hyl (fun y hy => (hys y hy).1), hone, ?_, ?_, hrl, .agg cs.toArray, rfl, ⟨cs, rfl, hrl, hone⟩, by rw [hu]; exact ⟨_, rfl⟩⟩, by simp only [bulkA, bulkD]; omega⟩
        · rw [List.all_eq_true]
          intro z hz
          obtain ⟨y, hy, hzy⟩ := List.mem_flatMap.1 hz
          exact List.all_eq_true.1 (hys y hy).2.1 z hzy
        · show hasOwn.hasOwnL (ys.flatMap cellsOf) = false
          exact hasOwnL_of fun z hz => by
            obtain ⟨y, hy, hzy⟩ := List.mem_flatMap.1 hz
            exact hasOwn_cells (hys y hy).2.2 z hzy
      case struct fs =>
        simp only [Bool.and_eq_true, beq_iff_eq, List.all_eq_true] at hb
        obtain ⟨xs, n, rfl, hx, hlen, hxl, hat⟩ := DataW.trod_struct hu h
        cases hx
        simp only [DataW.weights, hu] at hw
        let css : List (List Value) := fs.toList.map fun f => (cs.drop f.offset).take (P.cellsOf f.type)
        have hcl : css.length = fs.toList.length := by simp [css]
        have hcc : ∀ (i : Nat) f c, fs.toList[i]? = some f → css[i]? = some c → c = (cs.drop f.offset).take (P.cellsOf f.type) := by
          intro i f c hf hc
          simp only [css, List.getElem?_map, hf, Option.map_some, Option.some.injEq] at hc
          exact hc.symm
        have hcg : ∀ (i : Nat) f c, fs.toList[i]? = some f → css[i]? = some c → ∃ x, Good P w f.type c x ∧ ∀ z, (xs.map (·.1))[i]? = some z → bulkA x ≤ bulkD z := by
          intro i f c hf hc
          have h1 := hat i f (by simpa using hf)
          rw [hcc i f c hf hc]
          have hil : i < xs.length := by rw [hxl]; have := (List.getElem?_eq_some_iff.1 hf).1; simpa using this
          rw [List.getElem?_eq_getElem hil] at h1
          obtain ⟨x, hx1, hx2⟩ := trod_arg k n f.type _ _ _ (hb.1 f (List.mem_of_getElem? hf)) h1 (by exact weightsEach_at (i := i) (ts := fs.toList.map (·.type)) (ds := xs.map (·.1)) (by simp [hf]) (by simp [List.getElem?_eq_getElem hil]) hw)
          · refine ⟨x, hx1, fun z hz => ?_⟩
            rw [List.getElem?_map, List.getElem?_eq_getElem hil] at hz
            injection hz with hz
            subst hz
            exact hx2
        obtain ⟨ys, hy1, hy2, hy3⟩ := good_list (P := P) (w := w) (css := css) (ts := fun f : Field => f.type) (l := fs.toList) (bs := fun i => ((xs.map (·.1))[i]?.map bulkD).getD 0) hcl (fun i f c hf hc => by
          obtain ⟨x, hx1, hx2⟩ := hcg i f c hf hc
          refine ⟨x, hx1, ?_⟩
          have hil := (List.getElem?_eq_some_iff.1 hf).1
          have hz : i < (xs.map (·.1)).length := by rw [List.length_map, hxl]; simpa using hil
          rw [List.getElem?_eq_getElem hz]
          exact hx2 _ (List.getElem?_eq_getElem hz))
        obtain ⟨_, hfl⟩ := contig_flat (P := P) (cs := cs) fs.toList css 0 (P.cellsOf t) hb.2 hcl (fun i f hf => by simp [css, hf])
        rw [List.drop_zero, Nat.sub_zero, List.take_of_length_le (Nat.le_of_eq hlen)] at hfl
        have hat' : ∀ (i : Nat) c y, css[i]? = some c → ys[i]? = some y → ∃ f, fs.toList[i]? = some f ∧ Good P w f.type c y := by
          intro i c y hc hy
          have hil : i < fs.toList.length := by rw [← hcl]; exact (List.getElem?_eq_some_iff.1 hc).1
          exact ⟨_, List.getElem?_eq_getElem hil, hy2 i _ c y (List.getElem?_eq_getElem hil) hc hy⟩
        have hrl : RepL (ys.flatMap cellsOf) [] [] F0 w cs := by
          rw [← hfl]
          exact repL_flat (by rw [hy1, hcl]) (fun i c y hc hy => (hat' i c y hc hy).choose_spec.2.2.2.2.2.1)
        have hone : ∀ c ∈ cs, c.oneCell' = true := by
          rw [← hfl]
          intro v hv
          obtain ⟨c, hc, hvc⟩ := List.mem_flatten.1 hv
          obtain ⟨j, hj⟩ := List.mem_iff_getElem?.1 hc
          have hjl : j < ys.length := by rw [hy1, ← hcl]; exact (List.getElem?_eq_some_iff.1 hj).1
          obtain ⟨f, _, hg⟩ := hat' j c _ hj (List.getElem?_eq_getElem hjl)
          exact hg.2.1 v hvc
        have hys : ∀ y ∈ ys, (cellsOf y).all storable = true ∧ hasOwn y = false := by
          intro y hy
          obtain ⟨j, hj⟩ := List.mem_iff_getElem?.1 hy
          have hjl : j < css.length := by rw [hcl, ← hy1]; exact (List.getElem?_eq_some_iff.1 hj).1
          obtain ⟨f, _, hg⟩ := hat' j _ y (List.getElem?_eq_getElem hjl) hj
          exact ⟨hg.2.2.1, hg.2.2.2.1⟩
        have hbk : bulkA.bulkAL ys ≤ bulkDL (xs.map (·.1)) := bulk_le (by rw [hy1, List.length_map, hxl]; simp) (fun i y z hy hz => by
          have := hy3 i y hy
          rw [hz] at this
          exact this)
        have hbf := bulkA_flat ys
        refine ⟨.agg (ys.flatMap cellsOf), ⟨.struct hu hy1 ?_, hone, ?_, ?_, hrl, .agg cs.toArray, rfl, ⟨cs, rfl, hrl, hone⟩, by rw [hu]; exact ⟨_, rfl⟩⟩, by simp only [bulkA, bulkD]; omega⟩
        · intro i f y hf hy
          have hil : i < css.length := by rw [hcl]; exact (List.getElem?_eq_some_iff.1 hf).1
          exact (hy2 i f _ y hf (List.getElem?_eq_getElem hil) hy).1
        · rw [List.all_eq_true]
          intro z hz
          obtain ⟨y, hy, hzy⟩ := List.mem_flatMap.1 hz
          exact List.all_eq_true.1 (hys y hy).1 z hzy
        · show hasOwn.hasOwnL (ys.flatMap cellsOf) = false
          exact hasOwnL_of fun z hz => by
            obtain ⟨y, hy, hzy⟩ := List.mem_flatMap.1 hz
            exact hasOwn_cells (hys y hy).2 z hzy

theorem okWide_form {v : Value} {base : Nat} {t : TypeId} {x : AV} (hk : Value.okWide P w .any base t v) {u : Value} (hu : u.cells.toList = v.cells.toList) (hf : match P.underlying t with | some (.struct _) | some (.array _ _) => ∃ arr, u = .agg arr | _ => u.oneCell' = true) (hb : ∃ k, argB P k t = true) : u = v := by
  obtain ⟨k, hb⟩ := hb
  cases k with
  | zero => simp [argB] at hb
  | succ k =>
    unfold argB at hb
    unfold Value.okWide at hk
    cases ht : P.underlying t with
    | none => rw [ht] at hb; cases hb
    | some td =>
      rw [ht] at hb hk hf
      have hone : ∀ v : Value, u.oneCell' = true → v.oneCell' = true → u.cells.toList = v.cells.toList → u = v := by
        intro v h1 h2 h3
        rw [cells_of_one h1, cells_of_one h2] at h3
        simpa using h3
      have hcell : ∀ (h : Cell.okWide P w .any base t v), (∀ cs, v ≠ .agg cs) → (∀ cs, v ≠ .tuple cs) → v.oneCell' = true := by
        intro _ h1 h2
        cases v <;> simp_all [Value.oneCell']
      cases td <;> simp only at hb hk hf <;> try (cases hb; done)
      case struct fs =>
        obtain ⟨cs, rfl, _⟩ := hk
        obtain ⟨arr, rfl⟩ := hf
        simp only [Value.cells] at hu
        rw [Array.toList_inj.1 hu]
      case array n e =>
        obtain ⟨cs, rfl, _⟩ := hk
        obtain ⟨arr, rfl⟩ := hf
        simp only [Value.cells] at hu
        rw [Array.toList_inj.1 hu]
      all_goals
        refine hone v hf ?_ hu
        simp only [Cell.okWide, ht] at hk
        cases v <;> simp_all [Cell.ok, Value.oneCell']

theorem args_rep {base : Nat} : ∀ {ts : List TypeId} {vs : List Value} {ds : List (DataW H)} {ps : List MemPlace}, DataW.TrodAll enc P w 0 (fun _ => true) true ts vs ds ps → (∀ (j : Nat) t v, ts[j]? = some t → vs[j]? = some v → Value.okWide P w .any base t v) → (∀ t ∈ ts, argB P 9 t = true) →
    (∀ (j : Nat) t d, ts[j]? = some t → ds[j]? = some d → (d.weights P t).all (· ≤ reachBytes) = true) → ∃ xs : List AV, xs.length = ts.length ∧ (∀ (j : Nat) t x, ts[j]? = some t → xs[j]? = some x → Arg P t x) ∧ RepL xs [] [] F0 w vs ∧ bulkA.bulkAL xs ≤ bulkDL ds
  | [], vs, ds, ps, h, _, _, _ => by
    obtain ⟨rfl, rfl, rfl⟩ := trodAll_nil h
    exact ⟨[], rfl, fun j t x h => by simp at h, rfl, Nat.le_refl _⟩
  | t :: ts, vs, ds, ps, h, hv, hb, hw => by
    obtain ⟨v, vs', d, ds', p, q, rfl, rfl, rfl, h1, h2⟩ := trodAll_cons h
    obtain ⟨fuel, h1⟩ := h1
    obtain ⟨x, hx, hxb⟩ := trod_arg 9 fuel t v.cells.toList d p (hb t (by simp)) h1 (hw 0 t d rfl rfl)
    obtain ⟨xs, e1, e2, e3, e4⟩ := args_rep h2 (fun j t v ht hv' => hv (j + 1) t v (by simpa using ht) (by simpa using hv')) (fun t ht => hb t (by simp [ht])) (fun j t d ht hd => hw (j + 1) t d (by simpa using ht) (by simpa using hd))
    obtain ⟨hx1, _, _, _, _, u, hu1, hu2, hu3⟩ := hx
    have huv := okWide_form (x := x) (hv 0 t v rfl rfl) hu1 hu3 ⟨9, hb t (by simp)⟩
    subst huv
    refine ⟨x :: xs, by simp [e1], fun j t' x' ht hx' => ?_, ⟨u, vs', rfl, hu2, e3⟩, by simp only [bulkA.bulkAL, bulkDL]; omega⟩
    cases j with
    | zero => simp at ht hx'; subst ht; subst hx'; exact hx1
    | succ j => exact e2 j t' x' (by simpa using ht) (by simpa using hx')

theorem args_below (hl : laidOutB P = true) {w' : World} (hb : Below w.heap.size w w') : ∀ {ts : List TypeId} {vs : List Value} {ds : List (DataW H)} {ps : List MemPlace}, (ts.all fun t => P.readableRec t && decide (t < P.types.size)) = true → DataW.TrodAll enc P w 0 (fun _ => true) true ts vs ds ps →
    DataW.TrodAll enc P w' 0 (fun b => decide (b < w.heap.size)) true ts vs ds ps
  | [], vs, ds, ps, _, h => by
    obtain ⟨rfl, rfl, rfl⟩ := trodAll_nil h
    exact trodAll_mk0
  | t :: ts, vs, ds, ps, hr, h => by
    simp only [List.all_cons, Bool.and_eq_true, decide_eq_true_eq] at hr
    obtain ⟨v, vs', d, ds', p, q, rfl, rfl, rfl, h1, h2⟩ := trodAll_cons h
    have lt : ∀ x ∈ p, x.block < w.heap.size := by obtain ⟨m, hm⟩ := h1; exact DataW.trod_lt m _ _ _ hm
    exact trodAll_cons_mk (Below.trod hl hr.1.1 hr.1.2 h1 hb lt) (args_below hl hb hr.2 h2)

/-- A call that answers for every fitting row of arguments, at arguments that are read as data. -/
theorem row_callsB {E : Env} (hE : EnvOk P E) {f : FuncId} {r : AV} {v : Value} (hv : ∀ (β : List Value) (h : Heap) (F : Forb) (w : World) (u : Value), Rep r β h F w u → u = v) {ts : List TypeId}
    {B : Nat} (hr : ∀ xs : List AV, xs.length = ts.length → (∀ (j : Nat) t x, ts[j]? = some t → xs[j]? = some x → Arg P t x) → bulkA.bulkAL xs ≤ B → pcall E f xs = some (r, [])) {base : Nat} {vs : List Value} {ds : List (DataW H)} {ps : List MemPlace}
    (h : DataW.TrodAll enc P w 0 (fun _ => true) true ts vs ds ps) (hk : ∀ (j : Nat) t v, ts[j]? = some t → vs[j]? = some v → Value.okWide P w .any base t v) (hb : (ts.all fun t => argB P 9 t) = true) (hw : (DataW.weightsEach P ts ds).all (· ≤ reachBytes) = true) (hB : bulkDL ds ≤ B)
    (hlaid : ∀ x ∈ laidVars, w.cell? ⟨x.1, 0, none⟩ = some x.2 := by intro x hx; exact absurd hx (by simp [Go.Fw.laidVars])) :
    Calls P f vs.toArray w fun e w' => e = .returned v ∧ Below w.heap.size w w' := by
  obtain ⟨xs, e1, e2, e3, e4⟩ := args_rep h hk (fun t ht => List.all_eq_true.1 hb t ht) (fun j t d ht hd => weightsEach_at ht hd hw)
  have hbad : BadOk F0 w := by
    refine ⟨fun g k h => ?_, fun x hx => ⟨⟨rfl, x, hx, rfl⟩, hlaid x hx⟩⟩
    obtain ⟨_, x, hx, rfl⟩ := h
    have h1 := hlaid x hx
    unfold World.cell? at h1
    rcases Nat.lt_or_ge x.1 w.heap.size with h2 | h2
    · exact h2
    · rw [Array.getElem?_eq_none h2] at h1
      cases h1
  refine ((pcall_sound hE (hr xs e1 e2 (Nat.le_trans e4 hB))).2.2 F0 w vs hbad e3).mono ?_
  rintro e w' ⟨u, βr, rfl, hbel, _, _, hu⟩
  exact ⟨by rw [hv _ _ _ _ _ hu], hbel⟩
/-- The same, where no bound is asked. -/
theorem row_calls {E : Env} (hE : EnvOk P E) {f : FuncId} {r : AV} {v : Value} (hv : ∀ (β : List Value) (h : Heap) (F : Forb) (w : World) (u : Value), Rep r β h F w u → u = v) {ts : List TypeId}
    (hr : ∀ xs : List AV, xs.length = ts.length → (∀ (j : Nat) t x, ts[j]? = some t → xs[j]? = some x → Arg P t x) → pcall E f xs = some (r, [])) {base : Nat} {vs : List Value} {ds : List (DataW H)} {ps : List MemPlace}
    (h : DataW.TrodAll enc P w 0 (fun _ => true) true ts vs ds ps) (hk : ∀ (j : Nat) t v, ts[j]? = some t → vs[j]? = some v → Value.okWide P w .any base t v) (hb : (ts.all fun t => argB P 9 t) = true) (hw : (DataW.weightsEach P ts ds).all (· ≤ reachBytes) = true)
    (hlaid : ∀ x ∈ laidVars, w.cell? ⟨x.1, 0, none⟩ = some x.2 := by intro x hx; exact absurd hx (by simp [Go.Fw.laidVars])) :
    Calls P f vs.toArray w fun e w' => e = .returned v ∧ Below w.heap.size w w' :=
  row_callsB hE hv (fun xs h1 h2 _ => hr xs h1 h2) h hk hb hw (Nat.le_refl _) hlaid

end

theorem ds_length {H : Type} {enc : TypeId × Value → H} {P : Program} {w : World} {base : Nat} {sp : Nat → Bool} {held : Bool} : ∀ {ts : List TypeId} {vs : List Value} {ds : List (DataW H)} {ps : List MemPlace}, DataW.TrodAll enc P w base sp held ts vs ds ps → ds.length = ts.length
  | [], vs, ds, ps, h => by
    obtain ⟨rfl, rfl, rfl⟩ := trodAll_nil h
    rfl
  | t :: ts, vs, ds, ps, h => by
    obtain ⟨v, vs', d, ds', p, q, rfl, rfl, rfl, h1, h2⟩ := trodAll_cons h
    simp [ds_length h2]

theorem Arg.bool_inv {P : Program} {t : TypeId} {x : AV} (hu : P.underlying t = some .bool) (h : Arg P t x) : ∃ b, x = .bool b := by
  cases h with
  | bool h1 => exact ⟨_, rfl⟩
  | int h1 _ | str h1 _ | slice h1 _ _ | struct h1 _ _ | array h1 _ _ => rw [h1] at hu; cases hu
theorem Arg.int_inv {P : Program} {t : TypeId} {x : AV} {k : IntKind} (hu : P.underlying t = some (.int k)) (h : Arg P t x) : ∃ n, x = .int k n ∧ (Lit.int k n).wf = true := by
  cases h with
  | int h1 h2 => rw [h1] at hu; injection hu with hu; injection hu with hu; subst hu; exact ⟨_, rfl, h2⟩
  | bool h1 | str h1 _ | slice h1 _ _ | struct h1 _ _ | array h1 _ _ => rw [h1] at hu; cases hu
theorem Arg.str_inv {P : Program} {t : TypeId} {x : AV} (hu : P.underlying t = some .string) (h : Arg P t x) : ∃ b, x = .str b ∧ b.size ≤ reachBytes := by
  cases h with
  | str h1 h2 => exact ⟨_, rfl, h2⟩
  | bool h1 | int h1 _ | slice h1 _ _ | struct h1 _ _ | array h1 _ _ => rw [h1] at hu; cases hu
theorem Arg.slice_inv {P : Program} {t e : TypeId} {x : AV} (hu : P.underlying t = some (.slice e)) (h : Arg P t x) : ∃ l, x = .rs false (P.cellsOf e) l ∧ l.length * P.bytesOf e ≤ reachBytes ∧ ∀ y ∈ l, Arg P e y := by
  cases h with
  | slice h1 h2 h3 => rw [h1] at hu; injection hu with hu; injection hu with hu; subst hu; exact ⟨_, rfl, h2, h3⟩
  | bool h1 | int h1 _ | str h1 _ | struct h1 _ _ | array h1 _ _ => rw [h1] at hu; cases hu
theorem Arg.struct_inv {P : Program} {t : TypeId} {x : AV} {fs : Array Field} (hu : P.underlying t = some (.struct fs)) (h : Arg P t x) : ∃ ys : List AV, ys.length = fs.toList.length ∧ (∀ (i : Nat) f y, fs.toList[i]? = some f → ys[i]? = some y → Arg P f.type y) ∧ x = .agg (ys.flatMap cellsOf) := by
  cases h with
  | struct h1 h2 h3 => rw [h1] at hu; injection hu with hu; injection hu with hu; subst hu; exact ⟨_, h2, h3, rfl⟩
  | bool h1 | int h1 _ | str h1 _ | slice h1 _ _ | array h1 _ _ => rw [h1] at hu; cases hu
theorem Arg.array_inv {P : Program} {t e : TypeId} {x : AV} {n : Nat} (hu : P.underlying t = some (.array n e)) (h : Arg P t x) : ∃ l : List AV, l.length = n ∧ (∀ y ∈ l, Arg P e y) ∧ x = .agg (l.flatMap cellsOf) := by
  cases h with
  | array h1 h2 h3 => rw [h1] at hu; injection hu with hu; injection hu with hu1 hu2; subst hu1; subst hu2; exact ⟨_, h2, h3, rfl⟩
  | bool h1 | int h1 _ | str h1 _ | slice h1 _ _ | struct h1 _ _ => rw [h1] at hu; cases hu

end Go.Fw
