/-
  What the program's functions on subnets answer. Conditions: the addresses are of 32 bits.
-/
import Derived.Test.YtbbkmdibmmcjnaaRtNum
import Derived.Test.YtbbkmdibmmcjnaaRtCode
set_option linter.unusedVariables false
set_option linter.unusedSimpArgs false
namespace Go.Fw.Net
open Code_
attribute [local simp] evOps_nil evOps_plain evOps_gK gK_tup gK_true gK_false upd_cons stepK_some stepK_none stepK_ite opsK_some opsK_none opsK_ite ev_opsK ev_condK condK_bool andThen_norm andThen_exit andThen_ret andThen_none andThen_ite endBlock_norm endBlock_exit endBlock_ret endBlock_none endBlock_ite restr_some restr_none outOf_norm outOf_ret outOf_none outOf_ite get_nil get_cons put_some put_none ev_t ev_c valK_some valK_none valK_ite evI_mov evI_nilrow evI_pick pickK_true pickK_false pickK_or' pickK_and' evI_bin evI_binB evI_eqS evI_un evI_conv convK_int evI_alloc evI_box evI_boxR evI_build evI_buildSl evI_buildR evI_mkSl evI_load loadK_rp loadK_ref evI_store storeK_ref evI_slice sliceK_rs bound_none bound_int lenIn_rs lenIn_sl lenIn_nils evI_ext evI_mkIf evI_mkFn evI_len evI_lenA evI_iaddr iaddrK_rs iaddrK_sl evI_callF callK_some retK_some snapL_nil snapL_cons consK_some snap_int snap_bool snap_str snap_nils snap_rs snap_rp snap_nili snap_agg snap_tup finish_eq ev_skip ev_exit ev_ret ev_seq ev_block evI_faddr faddrK_ref faddrK_rp evI_field fieldK_agg bindO_ite mapO_ite retK_ite cellsOf storable plainB objCells partA ofCells fillA storeAt loadV resOf resOne resL wrapI eqAgg eqCells eqOne binop binI binopB unop enumFrom okRes shift noG hasOwn hasOwn.hasOwnL

def E : Env := ⟨fns, keep, fun _ => none⟩
theorem E_keep (k : Nat) : E.keep k = false := rfl
abbrev net (ip b : Int) : AV := .agg [.int .u32 ip, .int .i64 b]
abbrev B (b : Bool) : Option (AV × Heap) := some (.bool b, [])
attribute [local simp] E_keep

theorem wrap64 {n : Int} (h1 : -9223372036854775808 ≤ n) (h2 : n ≤ 9223372036854775807) : IntKind.i64.wrap n = n := by
  simp [IntKind.wrap, IntKind.signed, IntKind.bits]
  omega
theorem wrapU64 {n : Int} (h1 : 0 ≤ n) (h2 : n < 18446744073709551616) : IntKind.u64.wrap n = n := by
  simp [IntKind.wrap, IntKind.signed, IntKind.bits]
  omega
theorem bnd_iff {b : Int} : bnd b = true ↔ 8 ≤ b ∧ b ≤ 30 := by simp [bnd]

theorem s33 (ip b : Int) : pcall E 33 [net ip b] = B (bnd b) := by
  rw [pcall_fn (fn := I33) rfl rfl rfl]
  simp [I33]
  by_cases h1 : 8 ≤ b <;> simp [h1, bnd]
theorem s35 (ip b : Int) : pcall E 35 [net ip b] = B (bnd b) := by
  rw [pcall_fn (fn := I35) rfl rfl rfl]
  simp [I35]
  by_cases h1 : 8 ≤ b <;> simp [h1, bnd]

theorem siz_bound {b : Int} (h1 : 8 ≤ b) (h2 : b ≤ 30) : 4 ≤ siz b ∧ siz b ≤ 16777216 := by
  have := bits (fun b => 4 ≤ siz b ∧ siz b ≤ 16777216) (fun k hk1 hk2 => by
    show 4 ≤ siz _ ∧ siz _ ≤ 16777216
    rw [siz_k]
    have hp : 2 ^ k ≤ 2 ^ 24 := Nat.pow_le_pow_right (by omega) hk2
    have hp2 : 2 ^ 2 ≤ 2 ^ k := Nat.pow_le_pow_right (by omega) hk1
    omega) b h1 h2
  exact this

theorem shl_mask {b : Int} (h1 : 8 ≤ b) (h2 : b ≤ 30) : shiftI .shl .u32 4294967295 (32 - b) = some (.int .u32 (4294967296 - siz b)) := by
  refine bits (fun b => shiftI .shl .u32 4294967295 (32 - b) = some (.int .u32 (4294967296 - siz b))) (fun k hk1 hk2 => ?_) b h1 h2
  show shiftI .shl .u32 4294967295 (32 - (32 - (k : Int))) = some (.int .u32 (4294967296 - siz (32 - (k : Int))))
  rw [siz_k, show (32 : Int) - (32 - (k : Int)) = k by omega]
  have : ¬ (k : Int) < 0 := by omega
  simp only [shiftI, this, if_false, wrapI, Int.toNat_natCast]
  rw [show IntKind.u32.bits = 32 from rfl, mask_wrap k hk1 hk2]
  simp

def mask (b : Int) : Int := if bnd b then 4294967296 - siz b else 0
theorem s34 (ip b : Int) : pcall E 34 [net ip b] = some (.int .u32 (mask b), []) := by
  rw [pcall_fn (fn := I34) rfl rfl rfl]
  simp [I34, s33]
  cases hb : bnd b with
  | false => simp [mask, hb]
  | true =>
    obtain ⟨h1, h2⟩ := bnd_iff.1 hb
    rw [wrap64 (by omega) (by omega), shl_mask h1 h2]
    simp [mask, hb]

theorem and_m {x : Int} (hx : U x) (b : Int) : bitsI .and .u32 x (mask b) = base x b := by
  unfold mask base
  cases hb : bnd b with
  | false =>
    simp only [Bool.false_eq_true, if_false]
    show IntKind.u32.wrap ((BitVec.ofInt 32 x &&& BitVec.ofInt 32 0).toNat : Int) = 0
    simp [IntKind.wrap, IntKind.signed]
  | true =>
    obtain ⟨h1, h2⟩ := bnd_iff.1 hb
    simp only [if_true]
    exact bits_and hx b h1 h2
theorem s31 (ip b : Int) (hx : U ip) : pcall E 31 [net ip b] = some (.int .u32 (base ip b), []) := by
  rw [pcall_fn (fn := I31) rfl rfl rfl]
  simp [I31, s34, and_m hx]
theorem s32 (ip b : Int) (hx : U ip) : pcall E 32 [net ip b] = some (.int .u32 (lst ip b), []) := by
  rw [pcall_fn (fn := I32) rfl rfl rfl]
  simp [I32, s33, s34]
  cases hb : bnd b with
  | false => simp [lst, hb]
  | true =>
    obtain ⟨h1, h2⟩ := bnd_iff.1 hb
    simp [lst, mask, hb, IntKind.signed, IntKind.max]
    rw [show (2 : Int) ^ IntKind.u32.bits - 1 = 4294967295 from rfl, bits_not b h1 h2, bits_or hx b h1 h2]
theorem base_eq {x ip b : Int} (hb : bnd b = true) (hx : U x) : decide (base x b = base ip b) = decide (base ip b ≤ x ∧ x ≤ lst ip b) := by
  obtain ⟨h1, h2⟩ := bnd_iff.1 hb
  have h3 := (siz_bound h1 h2).1
  unfold base lst
  simp only [hb, if_true]
  generalize siz b = s at h3
  have e1 := Int.emod_add_mul_ediv x s
  have e2 := Int.emod_nonneg x (b := s) (by omega)
  have e3 := Int.emod_lt_of_pos x (b := s) (by omega)
  rw [Int.mul_comm] at e1
  refine decide_eq_decide.2 ⟨fun h => ?_, fun h => ?_⟩
  · omega
  · have : x / s = ip / s := by
      apply Int.le_antisymm
      · exact Int.lt_add_one_iff.1 (Int.lt_of_mul_lt_mul_right (a := s) (by rw [Int.add_mul, Int.one_mul]; omega) (by omega))
      · exact Int.lt_add_one_iff.1 (Int.lt_of_mul_lt_mul_right (a := s) (by rw [Int.add_mul, Int.one_mul]; omega) (by omega))
    rw [this]
theorem s17 (ip b x : Int) (hi : U ip) (hx : U x) : pcall E 17 [net ip b, .int .u32 x] = B (has ip b x) := by
  rw [pcall_fn (fn := I17) rfl rfl rfl]
  simp [I17, s33, s34, s31 _ _ hi, and_m hx]
  cases hb : bnd b with
  | false => simp [has, hb]
  | true =>
    simp [has, hb, base_eq hb hx]
theorem s16 (ip b x : Int) (hi : U ip) (hx : U x) : pcall E 16 [net ip b, .int .u32 x] = B (host ip b x) := by
  rw [pcall_fn (fn := I16) rfl rfl rfl]
  simp [I16, s17 _ _ _ hi hx, s31 _ _ hi, s32 _ _ hi]
  cases hb : has ip b x with
  | false => simp [host, hb]
  | true =>
    by_cases h1 : x = base ip b <;> simp [host, hb, h1]
theorem s18 (x : Int) (hx : U x) : pcall E 18 [.int .u32 x] = B (single x) := by
  rw [pcall_fn (fn := I18) rfl rfl rfl]
  simp [I18, shiftI]
  have e : x.fdiv (2 ^ min 24 IntKind.u32.bits) = x / 16777216 := by
    show x.fdiv 16777216 = _
    rw [Int.fdiv_eq_ediv_of_nonneg _ (by omega)]
  rw [e]
  by_cases h1 : 1 ≤ x / 16777216 <;> by_cases h2 : x / 16777216 ≤ 223 <;> simp [single, h1, h2]
theorem s26 (x : Int) (hx : U x) : pcall E 26 [.int .u32 x] = B (single x) := by
  rw [pcall_fn (fn := I26) rfl rfl rfl]
  have e : IntKind.u32.wrap (x.tdiv 16777216) = x / 16777216 := by
    obtain ⟨h1, h2⟩ := hx
    rw [Int.tdiv_eq_ediv_of_nonneg h1]
    exact wrap_id ⟨by omega, by omega⟩
  simp [I26, e]
  by_cases h1 : 1 ≤ x / 16777216 <;> by_cases h2 : x / 16777216 ≤ 223 <;> simp [single, h1, h2]
theorem loop40 (h : Heap) : ∀ (k : Nat), k ≤ 24 → ∀ (p : Int) (s : Slots), get s 3 = .int .u64 p → get s 4 = .int .i64 (32 - (k : Int)) → 0 ≤ p → p * 2 ^ k < 18446744073709551616 →
    endBlock 0 (some [3, 4]) (ev E (.loop (some [3, 4]) (.seq (.seq (.ops [⟨some 7, none, .mov (.t 4)⟩, ⟨some 8, none, .bin .lss (.t 7) (.c (.int .i64 32))⟩])
      (.cond (.t 8) .skip (.exit 0)))
      (.seq (.block 1 (some [3, 4]) (.ops [⟨some 11, none, .mov (.t 3)⟩, ⟨some 12, none, .bin .mul (.t 11) (.c (.int .u64 2))⟩, ⟨some 3, none, .mov (.t 12)⟩]))
      (.ops [⟨some 9, none, .mov (.t 4)⟩, ⟨some 10, none, .bin .add (.t 9) (.c (.int .i64 1))⟩, ⟨some 4, none, .mov (.t 10)⟩])))) ⟨s, h⟩) = some (.norm, ⟨[(3, .int .u64 (p * 2 ^ k)), (4, .int .i64 32)], h⟩)
  | 0, _, p, s, h3, h4, _, _ => by
    rw [ev_loop]
    simp [h3, h4]
  | k + 1, hk, p, s, h3, h4, h0, hp => by
    have e0 : (2 : Int) ^ (k + 1) = 2 * 2 ^ k := by rw [Int.pow_succ]; omega
    have e1 : p * 2 ^ (k + 1) = p * 2 * 2 ^ k := by rw [e0]; exact (Int.mul_assoc p 2 (2 ^ k)).symm
    have e2 : (1 : Int) ≤ 2 ^ k := Int.pow_pos (by omega)
    have e3 : p * 2 < 18446744073709551616 := by
      have : p * 2 * 1 ≤ p * 2 * 2 ^ k := Int.mul_le_mul_of_nonneg_left e2 (by omega)
      rw [e1] at hp
      omega
    have hlt : (32 : Int) - ((k : Int) + 1) < 32 := by omega
    have ih := loop40 h k (by omega) (p * 2)
    rw [ev_loop]
    simp [h3, h4, hlt]
    rw [wrapU64 (by omega) e3, wrap64 (by omega) (by omega), e1]
    refine ih _ ?_ ?_ (by omega) (by rw [← e1]; exact hp)
    · simp
    · simp
      omega

theorem s40 (ip b : Int) (h1 : 8 ≤ b) (h2 : b ≤ 30) : pcall E 40 [net ip b] = some (.int .u64 (siz b), []) := by
  rw [pcall_fn (fn := I40) rfl rfl rfl]
  have hk : b = 32 - (((32 - b).toNat : Nat) : Int) := by omega
  have hl := fun s g3 g4 => loop40 [AObj.cells true [AV.int IntKind.u32 ip, AV.int IntKind.i64 b] 28] (32 - b).toNat (by omega) 1 s g3 g4 (by omega) (by
    have := siz_bound h1 h2
    unfold siz at this
    omega)
  simp [I40]
  rw [hl _ rfl (by rw [← hk]; rfl)]
  simp [siz]
theorem s38 (ip b : Int) (hi : U ip) : pcall E 38 [net ip b] = B (rightN ip b) := by
  rw [pcall_fn (fn := I38) rfl rfl rfl]
  simp [I38, s16 _ _ _ hi hi, s18 _ hi]
  cases h1 : host ip b ip <;> simp [rightN, h1]
end Go.Fw.Net
