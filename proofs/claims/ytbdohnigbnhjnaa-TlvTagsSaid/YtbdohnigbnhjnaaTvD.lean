/- Contracts of functions. -/
import Derived.Test.YtbdohnigbnhjnaaTvC
set_option linter.unusedSimpArgs false
set_option linter.unusedVariables false
set_option linter.unusedSectionVars false
namespace Go.Proofs.Ytbdohnigbnhjnaa.Vc
open Go Go.Vk Go.Tv Go.Proofs
set_option maxRecDepth 100000
set_option maxHeartbeats 4000000
attribute [local go_sem ↓] W_skip W_reg W_draw W_seq W_cond W_block W_exit W_label W_goto W_ret Kseq_norm Kseq_ret Kseq_ex Kseq_go Kseq_pan Kblk_norm Kblk_ret Kblk_self Kblk_ne Kblk_go Kblk_pan Kloop_ret Kloop_ex Kloop_go Kloop_pan KseqS_norm KseqS_ret KseqS_ex KseqS_pan Kend_norm Kend_ret Kend_ex KscS_norm KscS_ret KscS_ex KscS_go KscB_norm KscB_ret KscB_ex KscB_pan Wr_nil Wr_g Wg_11 Wg_00 Wg_10 Wg_01 Wg_skip Wr_call Wr_callv Wr_inv Winv_if Winv2_some Wr_panic Wr_isnil Wr_op Ev_some Wcv_fn Wd_callv Wd_inv Wdcv_fn Wdinv_if Wdinv2_some ifV_agg ifV_int Wnil_some Wpan_if Wcond_t Wcond_f Wd_nil Wd_g Wd_call Wd_op Wdg_11 Wdg_00 Wdg_10 Wdg_01 Wdg_skip Evd_some step_some step_none val_t val_c get_mk obf_mk rdl_nil rdl_cons aget_cons aget_nil
attribute [local go_sem] pl_mv pl_pick pl_box pl_build pl_bsl pl_ld pl_st pl_nilc pl_bin pl_eqb pl_eq pl_eqn pl_un pl_cvi pl_cvs pl_s2b pl_b2s pl_mki pl_mkf pl_mks pl_sl pl_sls pl_fa pl_fld pl_ia pl_iaA pl_ix pl_ixs pl_ta pl_ex pl_len pl_lens pl_mn pl_mx pl_app pl_apps ev aset adel upd Option.getD_some passAll passV List.append_nil reduceIte Nat.reduceEqDiff decide_eq_true_eq Bool.false_eq_true Bool.true_eq_false reduceCtorEq Nat.reduceAdd updf V.sliceOf placeD placeV V.toDs V.toD1 V.cells List.map_cons List.map_nil Nat.mul_one Nat.zero_mul List.length_nil List.length_cons Nat.zero_add List.nil_append true_and and_true and_self Nat.zero_lt_one if_true if_false Nat.reduceLT Nat.reduceLeDiff Nat.reduceMul splice List.take_zero List.drop_zero List.drop_nil Bool.not_true Bool.not_false bne_self_eq_false Bool.bne_true Bool.bne_false Bool.false_bne Bool.true_bne List.cons_append eq_self Option.map_some Option.map_none boundO bound b_and b_or b_add b_sub b_mul b_rem b_eql b_neq b_lss b_leq b_gtr b_geq b_seql b_sneq b_shr8 b_shl8 decide_true decide_false IOp.xs List.flatMap_cons List.flatMap_nil V.ids V.ids1 V.ids0
attribute [local go_sem] Vk.RetB resVs resV outOf Vk.init recvs recvV recv enumFrom
attribute [local go_sem] bs_length NDs_length VLDs_length bs_nil bs_cons bytesOf_bs
attribute [local go_sem] le_1 le_2 le_3 le_4 le_5 le_6 le_7 le_8 le_9 le_10 le_11 le_12 le_o0 ck_bool ck_int ck_str ck_slice ck_ni ck_if ck_nils ck_own nat_nn Int.cast_ofNat_Int datas V.data? eqCells eqD Bool.true_and Bool.false_and List.all_cons List.all_nil Bool.and_true Bool.and_self List.take_succ_cons List.drop_succ_cons List.getElem?_cons_zero List.getElem?_cons_succ Int.toNat_natCast Nat.add_zero Nat.sub_zero
attribute [local go_sem] Int.reduceBEq Int.reduceBNe Int.reduceLT Int.reduceLE Int.reduceGT Int.reduceGE Int.reduceEq Int.reduceNe Int.reduceAdd Int.reduceSub Int.reduceMul Int.reduceToNat beq_self_eq_true bne_self_eq_false Nat.reduceBEq Nat.reduceSub ge_iff_le gt_iff_lt
theorem tc46 : ∀ (N : Nat) (L : List TN) (acc : List UInt8), wts L < N → N ≤ 1099511627776 → acc.length + (4 * wts L) ≤ 70368744177664 →
    TC Try.prog 46 [.fresh false 5 1 acc.length (bs acc), ns L] (.fresh false 5 1 (acc ++ encs L).length (bs (acc ++ encs L))) := by
  intro N
  induction N with
  | zero => intro L acc h; omega
  | succ N ih =>
  intro L acc hN hM hA
  refine tcW Try.func46 k46 h46 (by simp [c46]) (by simp) [(0, 5, 1)] ?_
  simp only [go_sem, c46, ns]
  refine W_loop 96 [.own 0 false 5 1, .keep 8, .keep 9, .keep 10] (fun m st => ∃ pre rest, L = pre ++ rest ∧ m = rest.length ∧
    st = ⟨[(0, .own 96 (acc ++ encs pre).length), (8, ns L), (9, iv L.length), (10, iv pre.length)], [(96, .vec false 5 1 (acc ++ encs pre).length (bs (acc ++ encs pre)))], 2144⟩) (by omega) L.length _ (by simp [norm, normGo, boxesBelow, ownIds, adelAll, V.under, St.get, St.obf, aget, adel, encs, ns]) ⟨[], L, rfl, rfl, rfl⟩ ?_
  rintro m st ⟨pre, rest, hL, rfl, rfl⟩
  cases rest with
  | nil =>
    have : ¬ ((pre.length : Int) < (L.length : Int)) := by subst hL; simp
    have hL' : encs pre = encs L := by subst hL; simp
    simp only [go_sem, this, hL']
  | cons x rest =>
    obtain ⟨t, v, p⟩ := x
    obtain ⟨c2, c3, hdrop, hwt, hwl, hpl⟩ := at_node hL
    have hs : wts p < N := by omega
    have b1 := szs_le p
    have b2 := szs_le pre
    have b3 := headF_le (v.length + szs p)
    have b4 := encs_length pre
    have w1 : w64 (v.length + szs p) = v.length + szs p := w64_of (by omega)
    have w5 : w64 ((pre.length : Int) + 1) = pre.length + 1 := w64_of (by omega)
    generalize ha : acc ++ encs pre = a
    have hal : a.length = acc.length + (encs pre).length := by rw [← ha]; simp
    have r1 : a.length + 1 ≤ roomB := by unfold roomB; omega
    simp only [go_sem, c2, c3, hdrop, ns]
    refine Wdcall_some (tc45 N p hs (by omega)) ?_
    simp only [go_sem, w1, wr8, r1]
    refine ⟨by decide, Wcall_some (tc63 _) ?_⟩
    have hh : (hdB (v.length + szs p)).length = (headF (v.length + szs p)).toNat := by have := hdB_length (v.length + szs p); omega
    have out : encs (pre ++ [.mk t v p]) = encs pre ++ (u8 t :: (hdB (v.length + szs p) ++ v ++ encs p)) := by rw [encs_append]; simp [encs, enc]
    have r2 : a.length + 1 + 1 ≤ roomB := by unfold roomB; omega
    have r3 : a.length + 1 + 2 ≤ roomB := by unfold roomB; omega
    have r4 : a.length + 1 + 3 ≤ roomB := by unfold roomB; omega
    have r5 : a.length + 1 + 1 + v.length ≤ roomB := by unfold roomB; omega
    have r6 : a.length + 1 + 2 + v.length ≤ roomB := by unfold roomB; omega
    have r7 : a.length + 1 + 3 + v.length ≤ roomB := by unfold roomB; omega
    have fin : ∀ st0, norm 96 [.own 0 false 5 1, .keep 8, .keep 9, .keep 10] st0 = some ⟨[(0, .own 96 (a ++ u8 t :: (hdB (v.length + szs p) ++ v) ++ encs p).length), (8, ns L), (9, iv L.length), (10, iv (pre.length + 1 : Int))], [(96, .vec false 5 1 (a ++ u8 t :: (hdB (v.length + szs p) ++ v) ++ encs p).length (bs (a ++ u8 t :: (hdB (v.length + szs p) ++ v) ++ encs p)))], 2144⟩ →
        ∃ m' st1, m' < rest.length + 1 ∧ norm 96 [.own 0 false 5 1, .keep 8, .keep 9, .keep 10] st0 = some st1 ∧ ∃ pre rest, L = pre ++ rest ∧ m' = rest.length ∧
          st1 = ⟨[(0, .own 96 (acc ++ encs pre).length), (8, ns L), (9, iv L.length), (10, iv pre.length)], [(96, .vec false 5 1 (acc ++ encs pre).length (bs (acc ++ encs pre)))], 2144⟩ := fun st0 h =>
      ⟨rest.length, _, by omega, h, pre ++ [.mk t v p], rest, by simp [hL], rfl, by
        have : acc ++ encs (pre ++ [.mk t v p]) = a ++ u8 t :: (hdB (v.length + szs p) ++ v) ++ encs p := by rw [out, ← ha]; simp
        rw [this]; simp⟩
    rcases (show (v.length + szs p < 128) ∨ (¬ (v.length + szs p < 128) ∧ v.length + szs p < 256) ∨ (¬ (v.length + szs p < 128) ∧ ¬ (v.length + szs p < 256)) by omega) with h | h | h
    · have e1 : headF (v.length + szs p) = 1 := by unfold headF; rw [if_pos h]
      have e2 : hdB (v.length + szs p) = [u8 (v.length + szs p)] := by unfold hdB; rw [if_pos h]
      simp only [go_sem, e1, wr8, r2, r5]
      refine Wdcall_at (ih p (a ++ u8 t :: (hdB (v.length + szs p) ++ v)) hs (by omega) (by simp; omega)) (by simp [e2, ns]; omega) ?_
      simp only [go_sem]
      refine ⟨by decide, ?_⟩
      simp only [go_sem, w5, Kloop_norm]
      exact fin _ (by simp [norm, normGo, boxesBelow, ownIds, adelAll, V.under, St.get, St.obf, aget, adel, ns] <;> omega)
    · have e1 : headF (v.length + szs p) = 2 := by unfold headF; rw [if_neg h.1, if_pos h.2]
      have e2 : hdB (v.length + szs p) = [129, u8 (v.length + szs p)] := by unfold hdB; rw [if_neg h.1, if_pos h.2]
      simp only [go_sem, e1, wr8, r3, r6]
      refine Wdcall_at (ih p (a ++ u8 t :: (hdB (v.length + szs p) ++ v)) hs (by omega) (by simp; omega)) (by simp [e2, ns]; omega) ?_
      simp only [go_sem]
      refine ⟨by decide, ?_⟩
      simp only [go_sem, w5, Kloop_norm]
      exact fin _ (by simp [norm, normGo, boxesBelow, ownIds, adelAll, V.under, St.get, St.obf, aget, adel, ns] <;> omega)
    · have e1 : headF (v.length + szs p) = 3 := by unfold headF; rw [if_neg h.1, if_neg h.2]
      have e2 : hdB (v.length + szs p) = [130, u8 ((v.length + szs p : Int).fdiv 256), u8 (v.length + szs p)] := by unfold hdB; rw [if_neg h.1, if_neg h.2]
      simp only [go_sem, e1, wr8, r4, r7]
      refine Wdcall_at (ih p (a ++ u8 t :: (hdB (v.length + szs p) ++ v)) hs (by omega) (by simp; omega)) (by simp [e2, ns]; omega) ?_
      simp only [go_sem]
      refine ⟨by decide, ?_⟩
      simp only [go_sem, w5, Kloop_norm]
      exact fin _ (by simp [norm, normGo, boxesBelow, ownIds, adelAll, V.under, St.get, St.obf, aget, adel, ns] <;> omega)
end Go.Proofs.Ytbdohnigbnhjnaa.Vc
