/- Contracts of functions: the kinds' checks. -/
import Derived.Test.YtokbcminleemaaaTpA
set_option linter.unusedSimpArgs false
set_option linter.unusedVariables false
set_option linter.unusedSectionVars false
namespace Go.Proofs.Ytokbcminleemaaa.Vc
open Go Go.Vk Go.Tv Go.Proofs
set_option maxRecDepth 100000
set_option maxHeartbeats 4000000
attribute [local go_sem ↓] W_skip W_reg W_draw W_seq W_cond W_block W_exit W_label W_goto W_ret Kseq_norm Kseq_ret Kseq_ex Kseq_go Kseq_pan Kblk_norm Kblk_ret Kblk_self Kblk_ne Kblk_go Kblk_pan Kloop_ret Kloop_ex Kloop_go Kloop_pan KseqS_norm KseqS_ret KseqS_ex KseqS_pan Kend_norm Kend_ret Kend_ex KscS_norm KscS_ret KscS_ex KscS_go Wr_nil Wr_g Wg_11 Wg_00 Wg_10 Wg_01 Wg_skip Wr_call Wr_callv Wr_inv Winv_if Winv2_some Wr_panic Wr_isnil Wr_op Ev_some Wcv_fn Wd_callv Wd_inv Wdcv_fn Wdinv_if Wdinv2_some ifV_agg ifV_int Wnil_some Wpan_if Wcond_t Wcond_f Wd_nil Wd_g Wd_call Wd_op Wdg_11 Wdg_00 Wdg_10 Wdg_01 Wdg_skip Evd_some step_some step_none val_t val_c get_mk obf_mk rdl_nil rdl_cons aget_cons aget_nil
attribute [local go_sem] pl_mv pl_pick pl_box pl_build pl_bsl pl_ld pl_st pl_nilc pl_bin pl_eqb pl_eq pl_eqn pl_un pl_cvi pl_cvs pl_s2b pl_b2s pl_mki pl_mkf pl_mks pl_sl pl_sls pl_fa pl_fld pl_ia pl_iaA pl_ix pl_ixs pl_ta pl_ex pl_len pl_lens pl_mn pl_mx pl_app pl_apps ev aset adel upd Option.getD_some passAll passV List.append_nil reduceIte Nat.reduceEqDiff decide_eq_true_eq Bool.false_eq_true Bool.true_eq_false reduceCtorEq Nat.reduceAdd updf V.sliceOf placeD placeV V.toDs V.toD1 V.cells List.map_cons List.map_nil Nat.mul_one Nat.zero_mul List.length_nil List.length_cons Nat.zero_add List.nil_append true_and and_true and_self Nat.zero_lt_one if_true if_false Nat.reduceLT Nat.reduceLeDiff Nat.reduceMul splice List.take_zero List.drop_zero List.drop_nil Bool.not_true Bool.not_false bne_self_eq_false Bool.bne_true Bool.bne_false Bool.false_bne Bool.true_bne List.cons_append eq_self Option.map_some Option.map_none boundO bound b_and b_or b_add b_sub b_mul b_rem b_eql b_neq b_lss b_leq b_gtr b_geq b_seql b_sneq b_shr8 b_shl8 decide_true decide_false IOp.xs List.flatMap_cons List.flatMap_nil V.ids V.ids1 V.ids0
attribute [local go_sem] Vk.RetB resVs resV outOf Vk.init recvs recvV recv enumFrom
attribute [local go_sem] bs_length NDs_length VLDs_length bs_nil bs_cons bytesOf_bs
attribute [local go_sem] le_1 le_2 le_3 le_4 le_5 le_6 le_7 le_8 le_9 le_10 le_11 le_12 le_o0 ck_bool ck_int ck_str ck_slice ck_ni ck_if ck_nils ck_own nat_nn Int.cast_ofNat_Int datas V.data? eqCells eqD Bool.true_and Bool.false_and List.all_cons List.all_nil Bool.and_true Bool.and_self List.take_succ_cons List.drop_succ_cons List.getElem?_cons_zero List.getElem?_cons_succ Int.toNat_natCast Nat.add_zero Nat.sub_zero
attribute [local go_sem] Int.reduceBEq Int.reduceBNe Int.reduceLT Int.reduceLE Int.reduceGT Int.reduceGE Int.reduceEq Int.reduceNe Int.reduceAdd Int.reduceSub Int.reduceMul Int.reduceToNat beq_self_eq_true bne_self_eq_false Nat.reduceBEq Nat.reduceSub ge_iff_le gt_iff_lt
/-- The codec of a kind. -/
def codF (k : Int) : D := if k = 1 then .iface 114 (.agg []) else if k = 2 then .iface 115 (.agg []) else if k = 3 then .iface 116 (.agg []) else if k = 4 then .iface 117 (.agg []) else if k = 5 then .iface 118 (.agg []) else .nilIface
theorem tcOf (k : Int) : TC Try.prog 66 [iv k] (.tup [.d (codF k), tv (decide (1 ≤ k) && decide (k ≤ 5))]) := by
  refine tcW Try.func66 k66 h66 (by simp [c66]) (by simp) [] ?_
  simp only [go_sem, c66]
  by_cases h1 : k = 1
  · subst h1; simp only [go_sem, placeV]; rfl
  have e1 : (k == 1) = false := by simpa using h1
  by_cases h2 : k = 2
  · subst h2; simp only [go_sem, placeV]; rfl
  have e2 : (k == 2) = false := by simpa using h2
  by_cases h3 : k = 3
  · subst h3; simp only [go_sem, placeV]; rfl
  have e3 : (k == 3) = false := by simpa using h3
  by_cases h4 : k = 4
  · subst h4; simp only [go_sem, placeV]; rfl
  have e4 : (k == 4) = false := by simpa using h4
  by_cases h5 : k = 5
  · subst h5; simp only [go_sem, placeV]; rfl
  have e5 : (k == 5) = false := by simpa using h5
  simp only [go_sem, e1, e2, e3, e4, e5]
  have : ¬ (1 ≤ k ∧ k ≤ 5) := by omega
  have h : (decide (1 ≤ k) && decide (k ≤ 5)) = false := by simp; omega
  simp [codF, h1, h2, h3, h4, h5, h]
theorem tcUnused1 (v : VL) : TC Try.prog 67 [va v, .d (.iface 114 (.agg []))] (va { v with n := 0 }) := by
  refine tcW Try.func67 k67 h67 (by simp [c67]) (by simp) [] ?_
  simp only [go_sem, c67, va]
theorem tcUnused2 (v : VL) : TC Try.prog 67 [va v, .d (.iface 115 (.agg []))] (va { v with n := 0 }) := by
  refine tcW Try.func67 k67 h67 (by simp [c67]) (by simp) [] ?_
  simp only [go_sem, c67, va]
theorem tcUnused3 (v : VL) : TC Try.prog 67 [va v, .d (.iface 116 (.agg []))] (va { v with s := [] }) := by
  refine tcW Try.func67 k67 h67 (by simp [c67]) (by simp) [] ?_
  simp only [go_sem, c67, va]
theorem tcUnused4 (v : VL) : TC Try.prog 67 [va v, .d (.iface 117 (.agg []))] (va { v with s := [] }) := by
  refine tcW Try.func67 k67 h67 (by simp [c67]) (by simp) [] ?_
  simp only [go_sem, c67, va]
theorem tcUnused5 (v : VL) : TC Try.prog 67 [va v, .d (.iface 118 (.agg []))] (va { v with a := 0, b := 0, c := 0 }) := by
  refine tcW Try.func67 k67 h67 (by simp [c67]) (by simp) [] ?_
  simp only [go_sem, c67, va, placeV]
theorem tcCheck1 (v : VL) : TC Try.prog 83 [.agg [], va v] (iv (if v.n = 0 ∨ v.n = 1 then 0 else 2)) := by
  refine tcW Try.func83 k83 h83 (by simp [c83]) (by simp) [] ?_
  simp only [go_sem, c83, va]
  by_cases h0 : v.n = 0
  · simp only [go_sem, h0]; rfl
  have e0 : (v.n != 0) = true := by simpa using h0
  by_cases h1 : v.n = 1
  · simp only [go_sem, h1]; rfl
  have e1 : (v.n != 1) = true := by simpa using h1
  simp only [go_sem, e0, e1]
  simp [h0, h1]
theorem tcCheck2 (v : VL) : TC Try.prog 87 [.agg [], va v] (iv 0) := by
  refine tcW Try.func87 k87 h87 (by simp [c87]) (by simp) [] ?_
  simp only [go_sem, c87, va]
theorem tcCheck4 (v : VL) : TC Try.prog 95 [.agg [], va v] (iv (if 64 < v.s.length then 4 else 0)) := by
  refine tcW Try.func95 k95 h95 (by simp [c95]) (by simp) [] ?_
  simp only [go_sem, c95, va]
  by_cases h : (64 : Int) < v.s.length
  · have : 64 < v.s.length := by omega
    simp only [go_sem, h, this]
  · have : ¬ 64 < v.s.length := by omega
    simp only [go_sem, h, this]
theorem tcTime1 (n b m : Int) (hs : binD .shl (.int .i64 1) (.int .i64 b) = some (.int .i64 m)) : TC Try.prog 124 [iv n, iv b] (tv (inR n m)) := by
  refine tcW Try.func124 k124 h124 (by simp [c124]) (by simp) [] ?_
  simp only [go_sem, c124, hs]
  by_cases h : 0 ≤ n <;> simp only [go_sem, h, hs, inR, decide_true, decide_false, Bool.true_and, Bool.false_and]
theorem tcCheck5 (v : VL) : TC Try.prog 120 [.agg [], va v] (iv (if (inR v.a 4294967296 && inR v.b 16777216 && inR v.c 256) = true then 0 else 2)) := by
  refine tcW Try.func120 k120 h120 (by simp [c120]) (by simp) [] ?_
  simp only [go_sem, c120, va]
  refine ⟨[], ?_⟩
  refine Wcall_at (tcTime1 v.a 32 4294967296 (by rfl)) (by rfl) ?_
  cases ha : inR v.a 4294967296
  · simp only [go_sem, Bool.false_and]
  simp only [go_sem]
  refine ⟨[], ?_⟩
  refine Wcall_at (tcTime1 v.b 24 16777216 (by rfl)) (by rfl) ?_
  cases hb : inR v.b 16777216
  · simp only [go_sem, Bool.false_and, Bool.true_and]
  simp only [go_sem]
  refine ⟨[], ?_⟩
  refine Wcall_at (tcTime1 v.c 8 256 (by rfl)) (by rfl) ?_
  cases hc : inR v.c 256 <;> simp only [go_sem, Bool.true_and]
end Go.Proofs.Ytokbcminleemaaa.Vc
