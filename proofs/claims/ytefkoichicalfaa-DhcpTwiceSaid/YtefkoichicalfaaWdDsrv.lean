/-
  The dhcp server's reading functions: read, after, held, say, nothing. Conditions: stated at each.
-/
import Derived.Test.YtefkoichicalfaaWdLop
import Derived.Test.YtefkoichicalfaaWdBm
set_option linter.unusedVariables false
set_option linter.unusedSimpArgs false
namespace Go.Fw.Wd
open Go.Proofs Code_

/-- A configuration. -/
structure Cf where
  own : UInt32
  mask : UInt32
  first : UInt32
  last : UInt32
  time : UInt32
  hold : UInt32
  quiet : UInt32
abbrev Cf.cs (C : Cf) : List AV := [w32 C.own, w32 C.mask, w32 C.first, w32 C.last, w32 C.time, w32 C.hold, w32 C.quiet]
/-- A server that is only read. -/
abbrev Sv (g : Bool) (C : Cf) (B : Bk) : AV := .rp g (.agg [w32 C.own, w32 C.mask, w32 C.first, w32 C.last, w32 C.time, w32 C.hold, w32 C.quiet, B.av g])
/-- A message, as a server reads it. -/
structure Rq where
  m : Msg
  client : List UInt8
  wish : UInt32
  server : UInt32
  wished : Bool
  named : Bool
  own : Bool
  now : UInt64
abbrev encQ (r : Rq) : List AV := [.int .u8 (r.m.op.toNat : Int), .int .u32 (r.m.xid.toNat : Int), .int .u16 (r.m.secs.toNat : Int), .bool r.m.wide, .int .u32 (r.m.ci.toNat : Int), .int .u32 (r.m.yi.toNat : Int), .int .u32 (r.m.si.toNat : Int), .int .u32 (r.m.gi.toNat : Int),
  .int .u8 (r.m.a.toNat : Int), .int .u8 (r.m.b.toNat : Int), .int .u8 (r.m.c.toNat : Int), .int .u8 (r.m.d.toNat : Int), .int .u8 (r.m.e.toNat : Int), .int .u8 (r.m.f.toNat : Int), opts false r.m.o,
  sv r.client, w32 r.wish, w32 r.server, .bool r.wished, .bool r.named, .bool r.own, i64u r.now]
def readQ (C : Cf) (m : Msg) (now : UInt64) : Rq :=
  ⟨m, clientL m, UInt32.ofNat (numO m.o 50 4).1, UInt32.ofNat (numO m.o 54 4).1, (numO m.o 50 4).2, (numO m.o 54 4).2, (numO m.o 54 4).2 && decide (UInt32.ofNat (numO m.o 54 4).1 = C.own), bU now⟩
theorem numO_lt (l : List Opt) (c : UInt8) (size : Int) (h : size ≤ 4) : (numO l c size).1 < 4294967296 := by
  unfold numO
  split
  · split
    · rename_i h'; exact num_u32 (by omega)
    · show (0 : Nat) < _; omega
  · show (0 : Nat) < _; omega
theorem s33 (g : Bool) (C : Cf) (B : Bk) (m : Msg) (hl : small m.o) (now : UInt64) : pcall E 33 [Sv g C B, .agg (encG false m), i64u now] = some (.agg (encQ (readQ C m now)), []) := by
  rw [pcall_go (fn := I33) rfl rfl rfl]
  have hk : E.keep 33 = false := rfl
  have q1 := fun g => s10 g m hl
  have q2 := fun g => s21 g m.o 50 4 hl
  have q3 := fun g => s21 g m.o 54 4 hl
  have n1 := numO_lt m.o 50 4 (by omega)
  have n2 := numO_lt m.o 54 4 (by omega)
  have w1 : ((numO m.o 50 4).1 : Int) = ((UInt32.ofNat (numO m.o 50 4).1).toNat : Int) := by rw [of32 n1]
  have w2 : ((numO m.o 54 4).1 : Int) = ((UInt32.ofNat (numO m.o 54 4).1).toNat : Int) := by rw [of32 n2]
  simp only [numV, encG_eq, clientV, show ((UInt8.toNat 50 : Nat) : Int) = 50 from rfl, show ((UInt8.toNat 54 : Nat) : Int) = 54 from rfl] at q1 q2 q3 ⊢
  rw [w1] at q2
  rw [w2] at q3
  unfold readQ
  generalize UInt32.ofNat (numO m.o 50 4).1 = wish at *
  generalize UInt32.ofNat (numO m.o 54 4).1 = server at *
  generalize (numO m.o 50 4).2 = wished at *
  have hb := bU_nat now
  have hmin : min (now.toNat : Int) 2305843009213693952 = ((bU now).toNat : Int) := by omega
  have hi := i32_eq server C.own
  cases hn : (numO m.o 54 4).2 with
  | false =>
    rw [hn] at q3
    simp (disch := first | omega | (simp only [List.length_cons, List.length_nil, List.length_append, List.length_map, List.length_set]; omega) | rfl | (simp only [List.length_cons, List.length_nil, List.length_append, List.length_map, List.length_set, List.length_replicate, List.all_cons, List.all_nil, List.all_append, storable, plainB, Bool.and_self]; done)) only [go_sem, reduceCtorEq, ↓reduceIte, reduceDIte, evI_callP, callPK_some, I33, hk, q1, q2, q3, hmin]
  | true =>
    rw [hn] at q3
    simp (disch := first | omega | (simp only [List.length_cons, List.length_nil, List.length_append, List.length_map, List.length_set]; omega) | rfl | (simp only [List.length_cons, List.length_nil, List.length_append, List.length_map, List.length_set, List.length_replicate, List.all_cons, List.all_nil, List.all_append, storable, plainB, Bool.and_self]; done)) only [go_sem, reduceCtorEq, ↓reduceIte, reduceDIte, evI_callP, callPK_some, I33, hk, q1, q2, q3, hmin, hi]
theorem s57 (r : Rq) (span : UInt32) (til : UInt64) (h : til.toNat = r.now.toNat + span.toNat) : pcall E 57 [.agg (encQ r), w32 span] = some (i64u til, []) := by
  rw [pcall_go (fn := I57) rfl rfl rfl]
  have hk : E.keep 57 = false := rfl
  have h1 := til.toNat_lt
  have h2 := span.toNat_lt
  have w1 : IntKind.u64.wrap (span.toNat : Int) = (span.toNat : Int) := wu64 (by omega) (by omega)
  have w2 : IntKind.u64.wrap ((r.now.toNat : Int) + span.toNat) = (til.toNat : Int) := by rw [wu64 (by omega) (by omega)]; omega
  simp (disch := first | omega | (simp only [List.length_cons, List.length_nil, List.length_append, List.length_map, List.length_set]; omega) | rfl | (simp only [List.length_cons, List.length_nil, List.length_append, List.length_map, List.length_set, List.length_replicate, List.all_cons, List.all_nil, List.all_append, storable, plainB, Bool.and_self]; done)) only [go_sem, reduceCtorEq, ↓reduceIte, reduceDIte, evI_callP, callPK_some, I57, hk, w1, w2]
theorem s34 : pcall E 34 [] = some (.tup [.agg (encG false zeroM), .bool false], []) := by
  rw [pcall_go (fn := I34) rfl rfl rfl]
  have hk : E.keep 34 = false := rfl
  simp (disch := first | omega | (simp only [List.length_cons, List.length_nil, List.length_append, List.length_map, List.length_set]; omega) | rfl | (simp only [List.length_cons, List.length_nil, List.length_append, List.length_map, List.length_set, List.length_replicate, List.all_cons, List.all_nil, List.all_append, storable, plainB, Bool.and_self]; done)) only [go_sem, reduceCtorEq, ↓reduceIte, reduceDIte, evI_callP, callPK_some, I34, hk]
  rfl
theorem s59 (g : Bool) (C : Cf) (B : Bk) (r : Rq) (hc : r.client.length ≤ 1048576) : pcall E 59 [Sv g C B, .agg (encQ r)] = some (.tup [w32 ((B.of r.client r.now).getD zLn).ip, .bool ((B.of r.client r.now).isSome && ((B.of r.client r.now).getD zLn).firm)], []) := by
  rw [pcall_go (fn := I59) rfl rfl rfl]
  have hk : E.keep 59 = false := rfl
  have q := fun g => s16 g B r.client hc r.now
  cases ho : B.of r.client r.now with
  | none =>
    rw [ho] at q
    simp (disch := first | omega | (simp only [List.length_cons, List.length_nil, List.length_append, List.length_map, List.length_set]; omega) | rfl | (simp only [List.length_cons, List.length_nil, List.length_append, List.length_map, List.length_set, List.length_replicate, List.all_cons, List.all_nil, List.all_append, storable, plainB, Bool.and_self]; done)) only [go_sem, reduceCtorEq, ↓reduceIte, reduceDIte, evI_callP, callPK_some, I59, hk, q]
  | some l =>
    rw [ho] at q
    simp (disch := first | omega | (simp only [List.length_cons, List.length_nil, List.length_append, List.length_map, List.length_set]; omega) | rfl | (simp only [List.length_cons, List.length_nil, List.length_append, List.length_map, List.length_set, List.length_replicate, List.all_cons, List.all_nil, List.all_append, storable, plainB, Bool.and_self]; done)) only [go_sem, reduceCtorEq, ↓reduceIte, reduceDIte, evI_callP, callPK_some, I59, hk, q]
/-- What is said. -/
def sayM (C : Cf) (m : Msg) (kind : Int) (ip : UInt32) : Msg := if kind = 6 then answerM m 6 0 C.own [] else answerM m kind ip C.own [ipO 1 C.mask.toNat, ipO 3 C.own.toNat, ipO 51 C.time.toNat]
theorem s58 (g : Bool) (C : Cf) (B : Bk) (r : Rq) (kind : Int) (ip : UInt32) : pcall E 58 [Sv g C B, .agg (encQ r), .int .i64 kind, w32 ip] = some (.tup [.agg (encG false (sayM C r.m kind ip)), .bool true], []) := by
  rw [pcall_go (fn := I58) rfl rfl rfl]
  have hk : E.keep 58 = false := rfl
  have h1 := C.mask.toNat_lt
  have h2 := C.own.toNat_lt
  have h3 := C.time.toNat_lt
  have p1 := s15 1 C.mask.toNat (by omega)
  have p2 := s15 3 C.own.toNat (by omega)
  have p3 := s15 51 C.time.toNat (by omega)
  obtain ⟨d1, hd1⟩ : ∃ d, d = encb 4 C.mask.toNat := ⟨_, rfl⟩
  obtain ⟨d2, hd2⟩ : ∃ d, d = encb 4 C.own.toNat := ⟨_, rfl⟩
  obtain ⟨d3, hd3⟩ : ∃ d, d = encb 4 C.time.toNat := ⟨_, rfl⟩
  have l1 : d1.length = 4 := by rw [hd1]; exact encb_length 4 _
  have l2 : d2.length = 4 := by rw [hd2]; exact encb_length 4 _
  have l3 : d3.length = 4 := by rw [hd3]; exact encb_length 4 _
  have a1 := fun g => s74 g false r.m 6 0 C.own [] ⟨by simp, fun o ho => by cases ho⟩
  have a2 := fun g => s74 g false r.m kind ip C.own [(1, d1), (3, d2), (51, d3)] ⟨by simp, fun o ho => by
    simp only [List.mem_cons, List.not_mem_nil, or_false] at ho
    rcases ho with rfl | rfl | rfl
    · show d1.length ≤ _; omega
    · show d2.length ≤ _; omega
    · show d3.length ≤ _; omega⟩
  simp only [ip_eq, ← hd1, ← hd2, ← hd3, encO_mk, encG_eq, opts, recs, List.map_cons, List.map_nil, show ((UInt8.toNat 1 : Nat) : Int) = 1 from rfl, show ((UInt8.toNat 3 : Nat) : Int) = 3 from rfl, show ((UInt8.toNat 51 : Nat) : Int) = 51 from rfl, show ((0 : UInt32).toNat : Int) = 0 from rfl] at p1 p2 p3 a1 a2
  by_cases c : kind = 6
  · subst c
    unfold sayM
    rw [if_pos rfl]
    simp (disch := first | omega | (simp only [List.length_cons, List.length_nil, List.length_append, List.length_map, List.length_set]; omega) | rfl | (simp only [List.length_cons, List.length_nil, List.length_append, List.length_map, List.length_set, List.length_replicate, List.all_cons, List.all_nil, List.all_append, storable, plainB, Bool.and_self]; done)) only [go_sem, reduceCtorEq, ↓reduceIte, reduceDIte, evI_callP, callPK_some, I58, hk, a1]
    rfl
  · unfold sayM
    rw [if_neg c]
    simp (disch := first | omega | (simp only [List.length_cons, List.length_nil, List.length_append, List.length_map, List.length_set]; omega) | rfl | (simp only [List.length_cons, List.length_nil, List.length_append, List.length_map, List.length_set, List.length_replicate, List.all_cons, List.all_nil, List.all_append, storable, plainB, Bool.and_self]; done)) only [go_sem, reduceCtorEq, ↓reduceIte, reduceDIte, evI_callP, callPK_some, I58, hk, c, p1, p2, p3, a2]
    rw [hd1, hd2, hd3]
    rfl
end Go.Fw.Wd
