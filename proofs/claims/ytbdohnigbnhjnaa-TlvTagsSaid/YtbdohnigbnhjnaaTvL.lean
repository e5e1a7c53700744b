/- Contracts of functions. -/
import Derived.Test.YtbdohnigbnhjnaaTvG
import Derived.Test.YtbdohnigbnhjnaaTvDec
set_option linter.unusedSimpArgs false
set_option linter.unusedVariables false
set_option linter.unusedSectionVars false
namespace Go.Proofs.Ytbdohnigbnhjnaa.Vc
open Go Go.Vk Go.Tv Go.Proofs
set_option maxRecDepth 100000
set_option maxHeartbeats 4000000
attribute [local go_sem ↓] W_skip W_reg W_draw W_seq W_cond W_block W_exit W_label W_goto W_ret Kseq_norm Kseq_ret Kseq_ex Kseq_go Kseq_pan Kblk_norm Kblk_ret Kblk_self Kblk_ne Kblk_go Kblk_pan Kloop_ret Kloop_ex Kloop_go Kloop_pan KseqS_norm KseqS_ret KseqS_ex KseqS_pan Kend_norm Kend_ret Kend_ex KscS_norm KscS_ret KscS_ex KscS_go KscB_norm KscB_ret KscB_ex KscB_pan Wr_nil Wr_g Wg_11 Wg_00 Wg_10 Wg_01 Wg_skip Wr_call Wr_callv Wr_inv Winv_if Winv2_some Wr_panic Wr_isnil Wr_op Ev_some Wcv_fn Wd_callv Wd_inv Wdcv_fn Wdinv_if Wdinv2_some ifV_agg ifV_int Wnil_some Wpan_if Wcond_t Wcond_f Wd_nil Wd_g Wd_call Wd_op Wdg_11 Wdg_00 Wdg_10 Wdg_01 Wdg_skip Evd_some step_some step_none val_t val_c get_mk obf_mk rdl_nil rdl_cons aget_cons aget_nil
attribute [local go_sem] pl_mv pl_pick pl_box pl_build pl_bsl pl_ld pl_st pl_nilc pl_bin pl_eqb pl_eq pl_eqn pl_un pl_cvi pl_cvs pl_s2b pl_b2s pl_mki pl_mkf pl_mks pl_sl pl_sls pl_fa pl_fld pl_ia pl_iaA pl_ix pl_ixs pl_ta pl_ex pl_len pl_lens pl_mn pl_mx pl_app pl_apps ev aset adel upd Option.getD_some passAll passV List.append_nil reduceIte Nat.reduceEqDiff decide_eq_true_eq Bool.false_eq_true Bool.true_eq_false reduceCtorEq Nat.reduceAdd updf V.sliceOf placeD placeV V.toDs V.toD1 V.cells List.map_cons List.map_nil Nat.mul_one Nat.zero_mul List.length_nil List.length_cons Nat.zero_add List.nil_append true_and and_true and_self Nat.zero_lt_one if_true if_false Nat.reduceLT Nat.reduceLeDiff Nat.reduceMul splice List.take_zero List.drop_zero List.drop_nil Bool.not_true Bool.not_false bne_self_eq_false Bool.bne_true Bool.bne_false Bool.false_bne Bool.true_bne List.cons_append eq_self Option.map_some Option.map_none boundO bound b_and b_or b_add b_sub b_mul b_rem b_eql b_neq b_lss b_leq b_gtr b_geq b_seql b_sneq b_sadd b_shr8 b_shl8 decide_true decide_false IOp.xs List.flatMap_cons List.flatMap_nil V.ids V.ids1 V.ids0
attribute [local go_sem] Vk.RetB resVs resV outOf Vk.init recvs recvV recv enumFrom
attribute [local go_sem] bs_length NDs_length VLDs_length bs_nil bs_cons bytesOf_bs
attribute [local go_sem] le_1 le_2 le_3 le_4 le_5 le_6 le_7 le_8 le_9 le_10 le_11 le_12 le_o0 ck_bool ck_int ck_str ck_slice ck_ni ck_if ck_nils ck_own nat_nn Int.cast_ofNat_Int datas V.data? eqCells eqD Bool.true_and Bool.false_and List.all_cons List.all_nil Bool.and_true Bool.and_self List.take_succ_cons List.drop_succ_cons List.getElem?_cons_zero List.getElem?_cons_succ Int.toNat_natCast Nat.add_zero Nat.sub_zero
attribute [local go_sem] Int.reduceBEq Int.reduceBNe Int.reduceLT Int.reduceLE Int.reduceGT Int.reduceGE Int.reduceEq Int.reduceNe Int.reduceAdd Int.reduceSub Int.reduceMul Int.reduceToNat beq_self_eq_true bne_self_eq_false Nat.reduceBEq Nat.reduceSub ge_iff_le gt_iff_lt
theorem enc_one (t : Int) (v : List UInt8) (h : v.length ≤ 200) (hn : nestB t = false ∨ v = []) : encode [.mk t v []] = if tagB t = true then (u8 t :: (hdB v.length ++ v), 0) else ([], 15) := by
  have hc : chk [.mk t v []] 0 = if tagB t = true then 0 else 15 := by
    rcases hn with hn | hn <;> cases ht : tagB t <;> simp [chk, chk1, ht, hn]
  unfold encode
  rw [hc]
  by_cases ht : tagB t = true
  · have hs : ¬ szs [.mk t v []] > 1500 := by
      have := headF_le (v.length + 0)
      simp only [szs, bod]; omega
    rw [if_pos ht, if_pos rfl, if_neg hs, if_pos ht]
    simp [encs, enc, szs]
  · rw [if_neg ht, if_neg (by omega), if_neg ht]
theorem tc3 (t : Int) (l : List UInt8) : TC Try.prog 3 [iv t, bv l] (tv true) := by
  refine tcW Try.func3 k3 h3 (by simp [c3]) (by simp) [] ?_
  simp only [go_sem, c3, bv]
  refine Wcall_some tc14 ?_
  by_cases hl : (200 : Int) < l.length
  · simp only [go_sem, hl]
  simp only [go_sem, hl, placeV]
  refine Wcall_some (tc15 t) ?_
  have body : ∀ v : List UInt8, v.length ≤ 200 → (nestB t = false ∨ v = []) → ∀ (st : St), True := fun _ _ _ _ => trivial
  have len2 : tagB t = true → ∀ v : List UInt8, (2 : Int) ≤ ((u8 t :: (hdB v.length ++ v)).length : Nat) := fun h v => by
    have := hdB_length v.length
    have := headF_le v.length
    simp only [List.length_cons, List.length_append]
    omega
  have tg : tagB t = true → (1 : Int) ≤ t ∧ t ≤ 254 ∧ (band t 31 != 31) = true := fun h => by simp only [tagB, Bool.and_eq_true, decide_eq_true_eq] at h; exact ⟨h.1.1, h.1.2, h.2⟩
  have nt : tagB t = false → ¬ (1 : Int) ≤ t ∨ ((1 : Int) ≤ t ∧ ¬ t ≤ 254) ∨ ((1 : Int) ≤ t ∧ t ≤ 254 ∧ (band t 31 != 31) = false) := fun h => by
    by_cases a1 : (1 : Int) ≤ t
    · by_cases a2 : t ≤ 254
      · refine .inr (.inr ⟨a1, a2, ?_⟩)
        simpa [tagB, a1, a2] using h
      · exact .inr (.inl ⟨a1, a2⟩)
    · exact .inl a1
  cases hn : nestB t
  · simp only [go_sem]
    refine Wcall_at (tc16 [.mk t l []] (by simp [wts, wt]; omega)) (by simp [ns, NDs, ND]) ?_
    rw [enc_one t l (by omega) (.inl hn)]
    cases ht : tagB t
    · simp only [Bool.false_eq_true, if_false]
      rcases nt ht with a1 | ⟨a1, a2⟩ | ⟨a1, a2, a3⟩
      · simp only [go_sem, a1]
        refine Wcall_some (tc17 t) ?_
        simp only [go_sem]
        refine Wcall_some (tc15 t) ?_
        simp only [go_sem, hn, bv]
      · simp only [go_sem, a1, a2]
        refine Wcall_some (tc17 t) ?_
        simp only [go_sem]
        refine Wcall_some (tc15 t) ?_
        simp only [go_sem, hn, bv]
      · simp only [go_sem, a1, a2, a3]
        refine Wcall_some (tc17 t) ?_
        simp only [go_sem]
        refine Wcall_some (tc15 t) ?_
        simp only [go_sem, hn, bv]
    · obtain ⟨a1, a2, a3⟩ := tg ht
      have l2 := len2 ht l
      have hu : IntKind.i64.wrap ((u8 t).toNat : Int) = t := by
        have := u8_id (t := t) (by omega)
        rw [this]
        exact w64_of (by omega)
      have l1 : (0 : Int) < ((hdB (l.length : Int) ++ l).length + 1 : Nat) := by omega
      simp only [if_true]
      simp only [go_sem, a1, a2, a3]
      refine Wcall_some (tc17 t) ?_
      simp only [go_sem]
      refine Wcall_some (tc15 t) ?_
      simp only [List.length_cons] at l2
      have l0 : 0 < (hdB (l.length : Int) ++ l).length + 1 := by omega
      simp only [go_sem, hn, bv, l2, l1, l0, hu]
  · simp only [go_sem]
    refine Wcall_at (tc16 [.mk t [] []] (by simp [wts, wt])) (by simp [ns, NDs, ND]) ?_
    rw [enc_one t [] (by simp) (.inr rfl)]
    cases ht : tagB t
    · simp only [Bool.false_eq_true, if_false]
      rcases nt ht with a1 | ⟨a1, a2⟩ | ⟨a1, a2, a3⟩
      · simp only [go_sem, a1]
        refine Wcall_some (tc17 t) ?_
        simp only [go_sem]
        refine Wcall_some (tc15 t) ?_
        simp only [go_sem, hn, bv]
      · simp only [go_sem, a1, a2]
        refine Wcall_some (tc17 t) ?_
        simp only [go_sem]
        refine Wcall_some (tc15 t) ?_
        simp only [go_sem, hn, bv]
      · simp only [go_sem, a1, a2, a3]
        refine Wcall_some (tc17 t) ?_
        simp only [go_sem]
        refine Wcall_some (tc15 t) ?_
        simp only [go_sem, hn, bv]
    · obtain ⟨a1, a2, a3⟩ := tg ht
      have l2 := len2 ht ([] : List UInt8)
      have hu : IntKind.i64.wrap ((u8 t).toNat : Int) = t := by
        have := u8_id (t := t) (by omega)
        rw [this]
        exact w64_of (by omega)
      have l1 : (0 : Int) < ((hdB (([] : List UInt8).length : Int) ++ ([] : List UInt8)).length + 1 : Nat) := by omega
      simp only [if_true]
      simp only [go_sem, a1, a2, a3]
      refine Wcall_some (tc17 t) ?_
      simp only [go_sem]
      refine Wcall_some (tc15 t) ?_
      simp only [List.length_cons] at l2
      have hh : hdB 0 = [0] := by decide
      simp only [go_sem, hn, bv, hh, List.append_nil, hu]
end Go.Proofs.Ytbdohnigbnhjnaa.Vc
