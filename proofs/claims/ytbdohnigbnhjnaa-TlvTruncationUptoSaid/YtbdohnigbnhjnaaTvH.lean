/- Contracts of functions. -/
import Derived.Test.YtbdohnigbnhjnaaTvA
set_option linter.unusedSimpArgs false
set_option linter.unusedVariables false
set_option linter.unusedSectionVars false
namespace Go.Proofs.Ytbdohnigbnhjnaa.Vc
open Go Go.Vk Go.Tv Go.Proofs
set_option maxRecDepth 100000
set_option maxHeartbeats 4000000
attribute [local go_sem ↓] W_skip W_reg W_draw W_seq W_cond W_block W_exit W_label W_goto W_ret Kseq_norm Kseq_ret Kseq_ex Kseq_go Kseq_pan Kblk_norm Kblk_ret Kblk_self Kblk_ne Kblk_go Kblk_pan Kloop_ret Kloop_ex Kloop_go Kloop_pan KseqS_norm KseqS_ret KseqS_ex KseqS_pan Kend_norm Kend_ret Kend_ex KscS_norm KscS_ret KscS_ex KscS_go KscB_norm KscB_ret KscB_ex KscB_pan Wr_nil Wr_g Wg_11 Wg_00 Wg_10 Wg_01 Wg_skip Wr_call Wr_callv Wr_inv Winv_if Winv2_some Wr_panic Wr_isnil Wr_op Ev_some Wcv_fn Wd_callv Wd_inv Wdcv_fn Wdinv_if Wdinv2_some ifV_agg ifV_int Wnil_some Wpan_if Wcond_t Wcond_f Wd_nil Wd_g Wd_call Wd_op Wdg_11 Wdg_00 Wdg_10 Wdg_01 Wdg_skip Evd_some step_some step_none val_t val_c get_mk obf_mk rdl_nil rdl_cons aget_cons aget_nil
attribute [local go_sem] pl_mv pl_pick pl_box pl_build pl_bsl pl_ld pl_st pl_nilc pl_bin pl_eqb pl_eq pl_eqn pl_un pl_cvi pl_cvs pl_s2b pl_b2s pl_mki pl_mkf pl_mks pl_sl pl_sls pl_fa pl_fld pl_ia pl_iaA pl_ix pl_ixs pl_ta pl_ex pl_len pl_lens pl_mn pl_mx pl_app pl_apps ev aset adel upd Option.getD_some passAll passV List.append_nil reduceIte Nat.reduceEqDiff decide_eq_true_eq Bool.false_eq_true Bool.true_eq_false reduceCtorEq Nat.reduceAdd updf V.sliceOf placeD placeV V.toDs V.toD1 V.cells List.map_cons List.map_nil Nat.mul_one Nat.zero_mul List.length_nil List.length_cons Nat.zero_add List.nil_append true_and and_true and_self Nat.zero_lt_one if_true if_false Nat.reduceLT Nat.reduceLeDiff Nat.reduceMul splice List.take_zero List.drop_zero List.drop_nil Bool.not_true Bool.not_false bne_self_eq_false Bool.bne_true Bool.bne_false Bool.false_bne Bool.true_bne List.cons_append eq_self Option.map_some Option.map_none boundO bound b_and b_or b_add b_sub b_mul b_rem b_eql b_neq b_lss b_leq b_gtr b_geq b_seql b_sneq b_shr8 b_shl8 decide_true decide_false IOp.xs List.flatMap_cons List.flatMap_nil V.ids V.ids1 V.ids0
attribute [local go_sem] Vk.RetB resVs resV outOf Vk.init recvs recvV recv enumFrom
attribute [local go_sem] bs_length NDs_length VLDs_length bs_nil bs_cons bytesOf_bs
attribute [local go_sem] le_1 le_2 le_3 le_4 le_5 le_6 le_7 le_8 le_9 le_10 le_11 le_12 le_o0 ck_bool ck_int ck_str ck_slice ck_ni ck_if ck_nils ck_own nat_nn Int.cast_ofNat_Int datas V.data? eqCells eqD Bool.true_and Bool.false_and List.all_cons List.all_nil Bool.and_true Bool.and_self List.take_succ_cons List.drop_succ_cons List.getElem?_cons_zero List.getElem?_cons_succ Int.toNat_natCast Nat.add_zero Nat.sub_zero
attribute [local go_sem] Int.reduceBEq Int.reduceBNe Int.reduceLT Int.reduceLE Int.reduceGT Int.reduceGE Int.reduceEq Int.reduceNe Int.reduceAdd Int.reduceSub Int.reduceMul Int.reduceToNat beq_self_eq_true bne_self_eq_false Nat.reduceBEq Nat.reduceSub ge_iff_le gt_iff_lt
theorem rd_node (x : TN) : ∃ t v p, x = .mk t v p := by cases x; exact ⟨_, _, _, rfl⟩
abbrev nv (t : Int) (v : List UInt8) (p : List TN) : V := .agg [.d (.int .i64 t), .d (.slice v.length (bs v)), .d (.slice p.length (NDs p))]
theorem tcSame : ∀ (N : Nat), N ≤ 1099511627776 → ∀ (L M : List TN), wts L < N → wts M < 1099511627776 →
    TC Try.prog 24 [ns L, ns M] (tv (sameL L M)) := by
  intro N
  induction N with
  | zero => intro hM L M h; omega
  | succ N ih =>
  intro hM
  -- one node
  have one : ∀ (t : Int) (v : List UInt8) (p : List TN) (t' : Int) (v' : List UInt8) (p' : List TN), wts p < N → wts p' < 1099511627776 → TC Try.prog 50 [nv t v p, nv t' v' p'] (tv (same1 (.mk t v p) (.mk t' v' p'))) := by
    intro t v p t' v' p' h1 h2
    refine tcW Try.func50 k50 h50 (by simp [c50]) (by simp) [] ?_
    simp only [go_sem, c50]
    by_cases e1 : t = t'
    · have e1' : (t == t') = true := by simp [e1]
      simp only [go_sem, e1']
      refine Wcall_some (tc51 v v') ?_
      cases e2 : (v == v')
      · simp only [go_sem, same1, e1', e2, Bool.false_and, Bool.and_false]
      · simp only [go_sem]
        refine Wcall_some (ih (by omega) p p' h1 h2) ?_
        simp only [go_sem, same1, e1', e2, Bool.true_and]
    · have e1' : (t == t') = false := by simp [e1]
      simp only [go_sem, e1', same1, Bool.false_and]
  -- lists of nodes
  have all : ∀ (L M : List TN), wts L < N + 1 → wts M < 1099511627776 → TC Try.prog 49 [ns L, ns M, .fn 50 []] (tv (sameL L M)) := by
    intro L M hN hMl
    refine tcW Try.func49 k49 h49 (by simp [c49]) (by simp) [] ?_
    by_cases hlen : L.length = M.length
    · have hlen' : ((L.length : Int) != (M.length : Int)) = false := by simp [hlen]
      simp only [go_sem, c49, ns, hlen']
      refine W_loop 120 [.keep 1, .keep 2, .keep 15, .keep 16, .keep 17] (fun m st => ∃ pre rest pre' rest', L = pre ++ rest ∧ M = pre' ++ rest' ∧ pre.length = pre'.length ∧ sameL L M = sameL rest rest' ∧ m = rest.length ∧
        st = ⟨[(1, ns M), (2, .fn 50 []), (15, ns L), (16, iv L.length), (17, iv pre.length)], [], 2168⟩) (by omega) L.length _ rfl ⟨[], L, [], M, rfl, rfl, rfl, rfl, rfl, rfl⟩ ?_
      rintro m st ⟨pre, rest, pre', rest', hL, hM', hp, hc, rfl, rfl⟩
      cases rest with
      | nil =>
        have : ¬ ((pre.length : Int) < (L.length : Int)) := by subst hL; simp
        have hr : rest' = [] := by
          have h1 := congrArg List.length hL
          have h2 := congrArg List.length hM'
          simp at h1 h2
          exact List.length_eq_zero_iff.1 (by omega)
        have hs : sameL L M = true := by rw [hc, hr]; rfl
        simp only [go_sem, this, hs]
      | cons x rest =>
        obtain ⟨t, v, p, rfl⟩ := rd_node x
        obtain ⟨y, rest', rfl⟩ : ∃ y r, rest' = y :: r := by
          cases rest' with
          | nil =>
            have h1 := congrArg List.length hL
            have h2 := congrArg List.length hM'
            simp at h1 h2
            omega
          | cons y r => exact ⟨y, r, rfl⟩
        obtain ⟨t', v', p', rfl⟩ := rd_node y
        obtain ⟨c2, c3, hdrop, hwt, hwl, hpl⟩ := at_node hL
        obtain ⟨d2, d3, hdrop', hwt', hwl', hpl'⟩ := at_node hM'
        rw [← hp] at d2 d3 hdrop'
        have hs : wts p < N := by omega
        have w5 : w64 ((pre.length : Int) + 1) = pre.length + 1 := w64_of (by omega)
        simp only [go_sem, c2, c3, hdrop, ns, d2, d3, hdrop']
        refine ⟨[], ?_⟩
        refine Wcall_some (one t v p t' v' p' hs (by omega)) ?_
        cases hb : same1 (.mk t v p) (.mk t' v' p')
        · have e2 : sameL L M = false := by rw [hc, sameL, hb]; rfl
          simp only [go_sem, e2]
        · have e2 : sameL L M = sameL rest rest' := by rw [hc, sameL, hb]; rfl
          simp only [go_sem, w5, Kloop_norm]
          exact ⟨rest.length, _, by omega, rfl, pre ++ [.mk t v p], rest, pre' ++ [.mk t' v' p'], rest', by simp [hL], by simp [hM'], by simp [hp], e2, rfl, by simp [ns, St.get, aget]⟩
    · have hlen' : ((L.length : Int) != (M.length : Int)) = true := by simp; omega
      simp only [go_sem, c49, ns, hlen', sameL_len hlen]
  intro L M h1 h2
  refine tcW Try.func24 k24 h24 (by simp [c24]) (by simp) [] ?_
  simp only [go_sem, c24, ns]
  refine Wcall_some (all L M h1 h2) ?_
  simp only [go_sem]
end Go.Proofs.Ytbdohnigbnhjnaa.Vc
