/- Contracts of functions. -/
import Derived.Test.YtbdohnigbnhjnaaTvE
set_option linter.unusedSimpArgs false
set_option linter.unusedVariables false
set_option linter.unusedSectionVars false
namespace Go.Proofs.Ytbdohnigbnhjnaa.Vc
open Go Go.Vk Go.Tv Go.Proofs
set_option maxRecDepth 100000
set_option maxHeartbeats 4000000
attribute [local go_sem ↓] W_skip W_reg W_draw W_seq W_cond W_block W_exit W_label W_goto W_ret Kseq_norm Kseq_ret Kseq_ex Kseq_go Kseq_pan Kblk_norm Kblk_ret Kblk_self Kblk_ne Kblk_go Kblk_pan Kloop_ret Kloop_ex Kloop_go Kloop_pan KseqS_norm KseqS_ret KseqS_ex KseqS_pan Kend_norm Kend_ret Kend_ex KscS_norm KscS_ret KscS_ex KscS_go KscB_norm KscB_ret KscB_ex KscB_pan Wr_nil Wr_g Wg_11 Wg_00 Wg_10 Wg_01 Wg_skip Wr_call Wr_callv Wr_inv Winv_if Winv2_some Wr_panic Wr_isnil Wr_op Ev_some Wcv_fn Wd_callv Wd_inv Wdcv_fn Wdinv_if Wdinv2_some ifV_agg ifV_int Wnil_some Wpan_if Wcond_t Wcond_f Wd_nil Wd_g Wd_call Wd_op Wdg_11 Wdg_00 Wdg_10 Wdg_01 Wdg_skip Evd_some step_some step_none val_t val_c get_mk obf_mk rdl_nil rdl_cons aget_cons aget_nil
attribute [local go_sem] pl_mv pl_pick pl_box pl_build pl_bsl pl_ld pl_st pl_nilc pl_bin pl_eqb pl_eq pl_eqn pl_un pl_cvi pl_cvs pl_s2b pl_b2s pl_mki pl_mkf pl_mks pl_sl pl_sls pl_fa pl_fld pl_ia pl_iaA pl_ix pl_ixs pl_ta pl_ex pl_len pl_lens pl_mn pl_mx pl_app pl_apps ev aset adel upd Option.getD_some passAll passV List.append_nil reduceIte Nat.reduceEqDiff decide_eq_true_eq Bool.false_eq_true Bool.true_eq_false reduceCtorEq Nat.reduceAdd updf V.sliceOf placeD placeV V.toDs V.toD1 V.cells List.map_cons List.map_nil Nat.mul_one Nat.zero_mul List.length_nil List.length_cons Nat.zero_add List.nil_append true_and and_true and_self Nat.zero_lt_one if_true if_false Nat.reduceLT Nat.reduceLeDiff Nat.reduceMul splice List.take_zero List.drop_zero List.drop_nil Bool.not_true Bool.not_false bne_self_eq_false Bool.bne_true Bool.bne_false Bool.false_bne Bool.true_bne List.cons_append eq_self Option.map_some Option.map_none boundO bound b_and b_or b_add b_sub b_mul b_rem b_eql b_neq b_lss b_leq b_gtr b_geq b_seql b_sneq b_shr8 b_shl8 decide_true decide_false IOp.xs List.flatMap_cons List.flatMap_nil V.ids V.ids1 V.ids0
attribute [local go_sem] Vk.RetB resVs resV outOf Vk.init recvs recvV recv enumFrom
attribute [local go_sem] bs_length NDs_length VLDs_length bs_nil bs_cons bytesOf_bs
attribute [local go_sem] le_1 le_2 le_3 le_4 le_5 le_6 le_7 le_8 le_9 le_10 le_11 le_12 le_o0 ck_bool ck_int ck_str ck_slice ck_ni ck_if ck_nils ck_own nat_nn Int.cast_ofNat_Int datas V.data? eqCells eqD Bool.true_and Bool.false_and List.all_cons List.all_nil Bool.and_true Bool.and_self List.take_succ_cons List.drop_succ_cons List.getElem?_cons_zero List.getElem?_cons_succ Int.toNat_natCast Nat.add_zero Nat.sub_zero
attribute [local go_sem] Int.reduceBEq Int.reduceBNe Int.reduceLT Int.reduceLE Int.reduceGT Int.reduceGE Int.reduceEq Int.reduceNe Int.reduceAdd Int.reduceSub Int.reduceMul Int.reduceToNat beq_self_eq_true bne_self_eq_false Nat.reduceBEq Nat.reduceSub ge_iff_le gt_iff_lt
theorem tc68 : ∀ (N : Nat) (L : List TN), wts L < N → N ≤ 1099511627776 → TC Try.prog 68 [ns L] (bv (encs L)) := by
  intro N
  induction N with
  | zero => intro L h; omega
  | succ N ih =>
  intro L hN hM
  refine tcW Try.func68 k68 h68 (by simp [c68]) (by simp) [] ?_
  simp only [go_sem, c68, ns]
  refine W_loop 88 [.keep 0, .own 3 false 5 1, .keep 4] (fun m st => ∃ pre rest, L = pre ++ rest ∧ m = rest.length ∧ st = ⟨[(0, ns L), (3, .own 91 (encs pre).length), (4, iv pre.length)], [(91, .vec false 5 1 (encs pre).length (bs (encs pre)))], 2136⟩) (by omega) L.length _ (by simp [norm, normGo, boxesBelow, ownIds, adelAll, V.under, St.get, St.obf, aget, adel, encs, ns]) ⟨[], L, rfl, rfl, rfl⟩ ?_
  rintro m st ⟨pre, rest, hL, rfl, rfl⟩
  cases rest with
  | nil =>
    have : ¬ ((pre.length : Int) < (L.length : Int)) := by subst hL; simp
    have hL' : encs L = encs pre := by subst hL; simp
    simp only [go_sem, this, hL', ns, bv]
  | cons x rest =>
    obtain ⟨t, v, p⟩ := x
    obtain ⟨c2, c3, hdrop, hwt, hwl, hpl⟩ := at_node hL
    have hs : wts p < N := by omega
    have b1 := szs_le p
    have b2 := szs_le pre
    have b3 := headF_le (v.length + szs p)
    have b4 := encs_length pre
    have b5 := encs_length p
    have b6 := hdB_length (v.length + szs p)
    have w5 : w64 ((pre.length : Int) + 1) = pre.length + 1 := w64_of (by omega)
    have hi : ((v.length + (encs p).length : Nat) : Int) = v.length + szs p := by omega
    have r1 : v.length ≤ roomB := by unfold roomB; omega
    have r2 : v.length + (encs p).length ≤ roomB := by unfold roomB; omega
    have r3 : (encs pre).length + 1 ≤ roomB := by unfold roomB; omega
    have r4 : (encs pre).length + 1 + (hdB (v.length + szs p)).length ≤ roomB := by unfold roomB; omega
    have r5 : (encs pre).length + 1 + (hdB (v.length + szs p)).length + (v.length + (encs p).length) ≤ roomB := by unfold roomB; omega
    simp only [go_sem, c2, c3, hdrop, ns, r1]
    refine Wdcall_some (ih p hs (by omega)) ?_
    simp only [go_sem, bv, r2]
    refine ⟨by decide, ?_⟩
    simp only [go_sem, c2, c3, hdrop, wr8, r3, hi]
    refine Wcall_some (tc75 _) ?_
    simp only [go_sem, bv, r4, r5, w5, Kloop_norm, List.length_append]
    refine ⟨rest.length, _, by omega, (by simp [norm, normGo, boxesBelow, ownIds, adelAll, V.under, St.get, St.obf, aget, adel]; rfl), pre ++ [.mk t v p], rest, by simp [hL], rfl, ?_⟩
    have : encs (pre ++ [.mk t v p]) = encs pre ++ (u8 t :: (hdB (v.length + szs p) ++ v ++ encs p)) := by rw [encs_append]; simp [encs, enc]
    rw [this]; simp [ns]; omega
theorem tc66 : ∀ (N : Nat) (L : List TN) (d : Int), wts L < N → N ≤ 1099511627776 → 0 ≤ d → d ≤ 7 → TC Try.prog 66 [ns L, iv d] (iv (chk L d)) := by
  intro N
  induction N with
  | zero => intro L d h; omega
  | succ N ih =>
  intro L d hN hM hd hd7
  refine tcW Try.func66 k66 h66 (by simp [c66]) (by simp) [] ?_
  simp only [go_sem, c66, ns]
  refine W_loop 88 [.keep 0, .keep 1, .keep 5] (fun m st => ∃ pre rest, L = pre ++ rest ∧ chk L d = chk rest d ∧ m = rest.length ∧ st = ⟨[(0, ns L), (1, iv d), (5, iv pre.length)], [], 2136⟩) (by omega) L.length _ rfl ⟨[], L, rfl, rfl, rfl, rfl⟩ ?_
  rintro m st ⟨pre, rest, hL, hc, rfl, rfl⟩
  cases rest with
  | nil =>
    have : ¬ ((pre.length : Int) < (L.length : Int)) := by subst hL; simp
    simp only [go_sem, this, hc, chk, ns]
  | cons x rest =>
    obtain ⟨t, v, p⟩ := x
    obtain ⟨c2, c3, hdrop, hwt, hwl, hpl⟩ := at_node hL
    have hw : w64 (d + 1) = d + 1 := w64_id (by omega) (by omega)
    have hs : wts p < N := by omega
    have hl : w64 ((pre.length : Int) + 1) = pre.length + 1 := w64_id (by omega) (by omega)
    simp only [go_sem, c2, c3, hdrop, ns]
    refine Wcall_some (tc74 t) ?_
    cases ht : tagB t
    · simp only [go_sem, hc, chk, chk1, ht]
    by_cases h6 : 6 < d
    · simp only [go_sem, h6]
      simp [hc, chk, chk1, ht, h6]
    simp only [go_sem, h6, c2, c3, hdrop]
    refine Wcall_some (tc15 t) ?_
    by_cases hb : (nestB t = true ∧ v.length > 0) ∨ (nestB t = false ∧ p.length > 0)
    · have e1 : chk L d = 12 := by simp [hc, chk, chk1, ht, h6, hb]
      rcases hb with ⟨hn, hv⟩ | ⟨hn, hv⟩
      · have hv' : (0 : Int) < v.length := by omega
        simp only [go_sem, hn, c2, c3, hdrop]
        refine Wcall_some (tc15 t) ?_
        simp only [go_sem, hn, hv', e1, c2, c3, hdrop]
      · have hv' : (0 : Int) < p.length := by omega
        simp only [go_sem, hn, hv', c2, c3, hdrop, e1]
    have e1 : chk L d = if chk p (d + 1) = 0 then chk rest d else chk p (d + 1) := by
      simp [hc, chk, chk1, ht, h6, hb]
    have fin : ∀ st0, norm 88 [.keep 0, .keep 1, .keep 5] st0 = some ⟨[(0, ns L), (1, iv d), (5, iv (pre.length + 1 : Int))], [], 2136⟩ → chk p (d + 1) = 0 →
        ∃ m' st1, m' < rest.length + 1 ∧ norm 88 [.keep 0, .keep 1, .keep 5] st0 = some st1 ∧ ∃ pre rest, L = pre ++ rest ∧ chk L d = chk rest d ∧ m' = rest.length ∧ st1 = ⟨[(0, ns L), (1, iv d), (5, iv pre.length)], [], 2136⟩ := fun st0 h hz =>
      ⟨rest.length, _, by omega, h, pre ++ [.mk t v p], rest, by simp [hL], by rw [e1, if_pos hz], rfl, by simp⟩
    cases hn : nestB t
    · have hp : ¬ (0 : Int) < p.length := by simp [hn] at hb; subst hb; simp
      simp only [go_sem, hn, hp, c2, c3, hdrop]
      refine Wcall_some (tc15 t) ?_
      simp only [go_sem, hn, hp, hw, c2, c3, hdrop]
      refine Wcall_some (ih p (d + 1) hs (by omega) (by omega) (by omega)) ?_
      by_cases hz : chk p (d + 1) = 0
      · simp only [go_sem, hz, hl, Kloop_norm]
        exact fin _ rfl hz
      · have hz' : (chk p (d + 1) != 0) = true := by simp [hz]
        simp only [go_sem, hz', e1, if_neg hz]
    · have hp : ¬ (0 : Int) < v.length := by simp [hn] at hb; subst hb; simp
      simp only [go_sem, hn, c2, c3, hdrop]
      refine Wcall_some (tc15 t) ?_
      simp only [go_sem, hn, hp, hw, c2, c3, hdrop]
      refine Wcall_some (ih p (d + 1) hs (by omega) (by omega) (by omega)) ?_
      by_cases hz : chk p (d + 1) = 0
      · simp only [go_sem, hz, hl, Kloop_norm]
        exact fin _ rfl hz
      · have hz' : (chk p (d + 1) != 0) = true := by simp [hz]
        simp only [go_sem, hz', e1, if_neg hz]
end Go.Proofs.Ytbdohnigbnhjnaa.Vc
