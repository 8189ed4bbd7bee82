/-
  What the definitions on subnets, and the maps' functions, answer. Conditions: the addresses are of 32 bits.
-/
import Derived.Test.YtbbkmdibmmcjnaaRtPlace
set_option linter.unusedVariables false
set_option linter.unusedSimpArgs false
namespace Go.Fw.Net
open Code_
attribute [local simp] evOps_nil evOps_plain evOps_gK gK_tup gK_true gK_false upd_cons stepK_some stepK_none stepK_ite opsK_some opsK_none opsK_ite ev_opsK ev_condK condK_bool andThen_norm andThen_exit andThen_ret andThen_none andThen_ite endBlock_norm endBlock_exit endBlock_ret endBlock_none endBlock_ite restr_some restr_none outOf_norm outOf_ret outOf_none outOf_ite get_nil get_cons put_some put_none ev_t ev_c valK_some valK_none valK_ite evI_mov evI_nilrow evI_pick pickK_true pickK_false pickK_or' pickK_and' evI_bin evI_binB evI_eqS evI_un evI_conv convK_int evI_alloc evI_box evI_boxR evI_build evI_buildSl evI_buildR evI_mkSl evI_load loadK_rp loadK_ref evI_store storeK_ref evI_slice sliceK_rs bound_none bound_int lenIn_rs lenIn_sl lenIn_nils evI_ext evI_mkIf evI_mkFn evI_len evI_lenA evI_iaddr iaddrK_rs iaddrK_sl evI_callF callK_some retK_some snapL_nil snapL_cons consK_some snap_int snap_bool snap_str snap_nils snap_rs snap_rp snap_nili snap_agg snap_tup finish_eq ev_skip ev_exit ev_ret ev_seq ev_block evI_faddr faddrK_ref faddrK_rp evI_field fieldK_agg bindO_ite mapO_ite retK_ite cellsOf storable plainB objCells partA ofCells fillA storeAt loadV resOf resOne resL wrapI eqAgg eqCells eqOne binop binI binopB unop enumFrom okRes shift noG hasOwn hasOwn.hasOwnL
attribute [local simp] E_keep

theorem U_base {ip b : Int} (h : U ip) : U (base ip b) := by
  unfold base
  split
  · rename_i hb
    obtain ⟨h1, h2⟩ := bnd_iff.1 hb
    have h3 := (siz_bound h1 h2).1
    obtain ⟨a1, a2⟩ := h
    have e1 := Int.emod_add_mul_ediv ip (siz b)
    have e2 := Int.emod_nonneg ip (b := siz b) (by omega)
    have e3 : 0 ≤ ip / siz b := Int.ediv_nonneg a1 (by omega)
    have e4 : 0 ≤ ip / siz b * siz b := Int.mul_nonneg e3 (by omega)
    rw [Int.mul_comm] at e1
    constructor <;> omega
  · constructor <;> omega
theorem top_siz {b : Int} (h1 : 8 ≤ b) (h2 : b ≤ 30) : ∃ m : Int, 4294967296 = m * siz b := by
  refine bits (fun b => ∃ m : Int, 4294967296 = m * siz b) (fun k hk1 hk2 => ?_) b h1 h2
  refine ⟨((2 ^ (32 - k) : Nat) : Int), ?_⟩
  rw [siz_k, ← Int.natCast_mul, ← Nat.pow_add, show 32 - k + k = 32 by omega]
  rfl
theorem U_lst {ip b : Int} (h : U ip) : U (lst ip b) := by
  unfold lst
  split
  · rename_i hb
    obtain ⟨h1, h2⟩ := bnd_iff.1 hb
    have h3 := (siz_bound h1 h2).1
    obtain ⟨m, hm⟩ := top_siz h1 h2
    obtain ⟨a1, a2⟩ := h
    have e1 := Int.emod_add_mul_ediv ip (siz b)
    have e2 := Int.emod_nonneg ip (b := siz b) (by omega)
    have e3 : 0 ≤ ip / siz b := Int.ediv_nonneg a1 (by omega)
    have e4 : 0 ≤ ip / siz b * siz b := Int.mul_nonneg e3 (by omega)
    rw [Int.mul_comm] at e1
    have e5 : ip / siz b < m := by
      apply Int.ediv_lt_of_lt_mul (by omega)
      omega
    have e6 : (ip / siz b + 1) * siz b ≤ m * siz b := Int.mul_le_mul_of_nonneg_right (by omega) (by omega)
    rw [Int.add_mul, Int.one_mul] at e6
    constructor <;> omega
  · constructor <;> omega

theorem s36 (ip b : Int) (hi : U ip) : pcall E 36 [net ip b] = some (.int .u32 (base ip b), []) := by
  rw [pcall_fn (fn := I36) rfl rfl rfl]
  simp [I36, s35]
  cases hb : bnd b with
  | false => simp [base, hb]
  | true =>
    obtain ⟨h1, h2⟩ := bnd_iff.1 hb
    have h3 := siz_bound h1 h2
    have hn : siz b ≠ 0 := by omega
    have hU := U_base (b := b) hi
    have hbase : base ip b = ip / siz b * siz b := by simp [base, hb]
    rw [hbase] at hU
    have e3 : 0 ≤ ip / siz b := Int.ediv_nonneg hi.1 (by omega)
    have e4 : ip / siz b ≤ ip := Int.ediv_le_self _ hi.1
    have hi2 := hi.2
    have hi1 := hi.1
    have w1 : IntKind.u64.wrap ip = ip := wrapU64 hi1 (by omega)
    have w2 : IntKind.u64.wrap (ip.tdiv (siz b)) = ip / siz b := by
      rw [Int.tdiv_eq_ediv_of_nonneg hi1]
      exact wrapU64 e3 (by omega)
    have w3 : IntKind.u64.wrap (ip / siz b * siz b) = ip / siz b * siz b := wrapU64 hU.1 (by have := hU.2; omega)
    simp [s40 ip b h1 h2, hn, w1, w2, w3, wrap_id hU, hbase]
theorem s37 (ip b : Int) (hi : U ip) : pcall E 37 [net ip b] = some (.int .u32 (lst ip b), []) := by
  rw [pcall_fn (fn := I37) rfl rfl rfl]
  simp [I37, s35, s36 _ _ hi]
  cases hb : bnd b with
  | false => simp [lst, hb]
  | true =>
    obtain ⟨h1, h2⟩ := bnd_iff.1 hb
    have h3 := siz_bound h1 h2
    have hU := U_base (b := b) hi
    have hV := U_lst (b := b) hi
    have hlst : lst ip b = base ip b + siz b - 1 := by simp [base, lst, hb]
    obtain ⟨u1, u2⟩ := hU
    rw [hlst] at hV
    have w1 : IntKind.u64.wrap (base ip b) = base ip b := wrapU64 u1 (by omega)
    have w2 : IntKind.u64.wrap (base ip b + siz b) = base ip b + siz b := wrapU64 (by omega) (by omega)
    have w3 : IntKind.u64.wrap (base ip b + siz b - 1) = base ip b + siz b - 1 := wrapU64 (by omega) (by omega)
    simp [s40 ip b h1 h2, w1, w2, w3, wrap_id hV, hlst]
theorem s27 (ip b x : Int) (hi : U ip) : pcall E 27 [net ip b, .int .u32 x] = B (has ip b x) := by
  rw [pcall_fn (fn := I27) rfl rfl rfl]
  simp [I27, s35, s36 _ _ hi, s37 _ _ hi]
  cases hb : bnd b with
  | false => simp [has, hb]
  | true => by_cases h1 : base ip b ≤ x <;> simp [has, hb, h1]
theorem s28 (ip b x : Int) (hi : U ip) : pcall E 28 [net ip b, .int .u32 x] = B (host ip b x) := by
  rw [pcall_fn (fn := I28) rfl rfl rfl]
  simp [I28, s27 _ _ _ hi, s36 _ _ hi, s37 _ _ hi]
  cases hb : has ip b x with
  | false => simp [host, hb]
  | true => by_cases h1 : x = base ip b <;> simp [host, hb, h1]
theorem has_bnd {ip b x : Int} (h : has ip b x = true) : bnd b = true := by
  simp only [has, Bool.and_eq_true] at h
  exact h.1
theorem host_has {ip b x : Int} (h : host ip b x = true) : has ip b x = true := by
  simp only [host, Bool.and_eq_true] at h
  exact h.1
theorem s39 (ip b : Int) (hi : U ip) : pcall E 39 [net ip b] = B (rightN ip b) := by
  rw [pcall_fn (fn := I39) rfl rfl rfl]
  simp [I39, s35, s28 _ _ _ hi, s26 _ hi]
  cases hb : bnd b with
  | false =>
    have : host ip b ip = false := by
      cases hh : host ip b ip with
      | false => rfl
      | true => rw [has_bnd (host_has hh)] at hb; cases hb
    simp [rightN, this]
  | true => cases h1 : host ip b ip <;> simp [rightN, h1]
theorem right_bnd {ip b : Int} (h : rightN ip b = true) : bnd b = true := by
  simp only [rightN, Bool.and_eq_true] at h
  exact has_bnd (host_has h.1)
theorem base_le_lst {ip b : Int} (hb : bnd b = true) : base ip b ≤ lst ip b := by
  obtain ⟨h1, h2⟩ := bnd_iff.1 hb
  have h3 := siz_bound h1 h2
  simp only [base, lst, hb, if_true]
  omega
theorem s30 (ip b jp c : Int) (hi : U ip) (hj : U jp) : pcall E 30 [net ip b, net jp c] = B (apart ip b jp c) := by
  rw [pcall_fn (fn := I30) rfl rfl rfl]
  simp [I30, s39 _ _ hi, s39 _ _ hj, s36 _ _ hi, s36 _ _ hj, s37 _ _ hi, s37 _ _ hj]
  cases h1 : rightN ip b <;> cases h2 : rightN jp c <;> simp [apart, h1, h2]
  by_cases h3 : lst ip b < base jp c <;> simp [h3]
theorem s29 (ip b jp c : Int) (hi : U ip) (hj : U jp) : pcall E 29 [net ip b, net jp c] = B (apart ip b jp c) := by
  rw [pcall_fn (fn := I29) rfl rfl rfl]
  simp [I29, s38 _ _ hi, s38 _ _ hj, s31 _ _ hi, s31 _ _ hj, s17 _ _ _ hi (U_base hj), s17 _ _ _ hj (U_base hi)]
  cases h1 : rightN ip b <;> cases h2 : rightN jp c <;> simp [apart, h1, h2]
  have hb := right_bnd h1
  have hc := right_bnd h2
  have l1 := base_le_lst (ip := ip) hb
  have l2 := base_le_lst (ip := jp) hc
  simp only [has, hb, hc, Bool.true_and]
  by_cases h3 : base ip b ≤ base jp c ∧ base jp c ≤ lst ip b <;> by_cases h4 : base jp c ≤ base ip b ∧ base ip b ≤ lst jp c <;> simp [h3, h4] <;> omega
end Go.Fw.Net
