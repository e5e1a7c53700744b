/- Contracts of functions. -/
import Derived.Test.YtbdohnigbnhjnaaTvF
set_option linter.unusedSimpArgs false
set_option linter.unusedVariables false
set_option linter.unusedSectionVars false
namespace Go.Proofs.Ytbdohnigbnhjnaa.Vc
open Go Go.Vk Go.Tv Go.Proofs
set_option maxRecDepth 100000
set_option maxHeartbeats 4000000
attribute [local go_sem ↓] W_skip W_reg W_draw W_seq W_cond W_block W_exit W_label W_goto W_ret Kseq_norm Kseq_ret Kseq_ex Kseq_go Kseq_pan Kblk_norm Kblk_ret Kblk_self Kblk_ne Kblk_go Kblk_pan Kloop_ret Kloop_ex Kloop_go Kloop_pan KseqS_norm KseqS_ret KseqS_ex KseqS_pan Kend_norm Kend_ret Kend_ex KscS_norm KscS_ret KscS_ex KscS_go KscB_norm KscB_ret KscB_ex KscB_pan Wr_nil Wr_g Wg_11 Wg_00 Wg_10 Wg_01 Wg_skip Wr_call Wr_callv Wr_inv Winv_if Winv2_some Wr_panic Wr_isnil Wr_op Ev_some Wcv_fn Wd_callv Wd_inv Wdcv_fn Wdinv_if Wdinv2_some ifV_agg ifV_int Wnil_some Wpan_if Wcond_t Wcond_f Wd_nil Wd_g Wd_call Wd_op Wdg_11 Wdg_00 Wdg_10 Wdg_01 Wdg_skip Evd_some step_some step_none val_t val_c get_mk obf_mk rdl_nil rdl_cons aget_cons aget_nil
attribute [local go_sem] pl_mv pl_pick pl_box pl_build pl_bsl pl_ld pl_st pl_nilc pl_bin pl_eqb pl_eq pl_eqn pl_un pl_cvi pl_cvs pl_s2b pl_b2s pl_mki pl_mkf pl_mks pl_sl pl_sls pl_fa pl_fld pl_ia pl_iaA pl_ix pl_ixs pl_ta pl_ex pl_len pl_lens pl_mn pl_mx pl_app pl_apps ev aset adel upd Option.getD_some passAll passV List.append_nil reduceIte Nat.reduceEqDiff decide_eq_true_eq Bool.false_eq_true Bool.true_eq_false reduceCtorEq Nat.reduceAdd updf V.sliceOf placeD placeV V.toDs V.toD1 V.cells List.map_cons List.map_nil Nat.mul_one Nat.zero_mul List.length_nil List.length_cons Nat.zero_add List.nil_append true_and and_true and_self Nat.zero_lt_one if_true if_false Nat.reduceLT Nat.reduceLeDiff Nat.reduceMul splice List.take_zero List.drop_zero List.drop_nil Bool.not_true Bool.not_false bne_self_eq_false Bool.bne_true Bool.bne_false Bool.false_bne Bool.true_bne List.cons_append eq_self Option.map_some Option.map_none boundO bound b_and b_or b_add b_sub b_mul b_rem b_eql b_neq b_lss b_leq b_gtr b_geq b_seql b_sneq b_shr8 b_shl8 decide_true decide_false IOp.xs List.flatMap_cons List.flatMap_nil V.ids V.ids1 V.ids0
attribute [local go_sem] Vk.RetB resVs resV outOf Vk.init recvs recvV recv enumFrom
attribute [local go_sem] bs_length NDs_length VLDs_length bs_nil bs_cons bytesOf_bs
attribute [local go_sem] le_1 le_2 le_3 le_4 le_5 le_6 le_7 le_8 le_9 le_10 le_11 le_12 le_o0 ck_bool ck_int ck_str ck_slice ck_ni ck_if ck_nils ck_own nat_nn Int.cast_ofNat_Int datas V.data? eqCells eqD Bool.true_and Bool.false_and List.all_cons List.all_nil Bool.and_true Bool.and_self List.take_succ_cons List.drop_succ_cons List.getElem?_cons_zero List.getElem?_cons_succ Int.toNat_natCast Nat.add_zero Nat.sub_zero
attribute [local go_sem] Int.reduceBEq Int.reduceBNe Int.reduceLT Int.reduceLE Int.reduceGT Int.reduceGE Int.reduceEq Int.reduceNe Int.reduceAdd Int.reduceSub Int.reduceMul Int.reduceToNat beq_self_eq_true bne_self_eq_false Nat.reduceBEq Nat.reduceSub ge_iff_le gt_iff_lt
theorem tc52 (L : List TN) (h : wts L < 1099511627776) : TC Try.prog 52 [ns L] (.tup [bv (encode L).1, iv (encode L).2]) := by
  refine tcW Try.func52 k52 h52 (by simp [c52]) (by simp) [] ?_
  simp only [go_sem, c52, ns]
  refine Wcall_some (tc66 1099511627776 L 0 h (by omega) (by omega) (by omega)) ?_
  by_cases hz : chk L 0 = 0
  · simp only [go_sem, hz]
    refine Wcall_some (tc67 1099511627776 L h (by omega)) ?_
    by_cases h1 : 1500 < szs L
    · simp only [go_sem, h1, encode, hz]
      rfl
    · simp only [go_sem, h1]
      refine Wcall_some (tc68 1099511627776 L h (by omega)) ?_
      simp only [go_sem, encode, hz, h1, bv]
  · have hz' : (chk L 0 != 0) = true := by simp [hz]
    simp only [go_sem, hz', hz, encode]
    rfl
theorem tc22 : ∀ (N : Nat) (L : List TN), wts L < N → N ≤ 1099511627776 → TC Try.prog 22 [ns L] (ns L) := by
  intro N
  induction N with
  | zero => intro L h; omega
  | succ N ih =>
  intro L hN hM
  refine tcW Try.func22 k22 h22 (by simp [c22]) (by simp) [] ?_
  simp only [go_sem, c22, ns]
  refine W_loop 88 [.keep 0, .own 3 false 82 3, .keep 4] (fun m st => ∃ pre rest, L = pre ++ rest ∧ m = rest.length ∧ st = ⟨[(0, ns L), (3, .own 91 pre.length), (4, iv pre.length)], [(91, .vec false 82 3 pre.length (NDs pre))], 2136⟩) (by omega) L.length _ (by simp [norm, normGo, boxesBelow, ownIds, adelAll, V.under, St.get, St.obf, aget, adel, NDs, ns]) ⟨[], L, rfl, rfl, rfl⟩ ?_
  rintro m st ⟨pre, rest, hL, rfl, rfl⟩
  cases rest with
  | nil =>
    have : ¬ ((pre.length : Int) < (L.length : Int)) := by subst hL; simp
    have hL' : L = pre := by simpa using hL
    have hn : ¬ ((pre.length : Int) < (pre.length : Int)) := by omega
    rw [hL']
    simp only [go_sem, hn, ns]
  | cons x rest =>
    obtain ⟨t, v, p⟩ := x
    obtain ⟨c2, c3, hdrop, hwt, hwl, hpl⟩ := at_node hL
    have hs : wts p < N := by omega
    have w5 : w64 ((pre.length : Int) + 1) = pre.length + 1 := w64_of (by omega)
    simp only [go_sem, c2, c3, hdrop, ns]
    refine Wdcall_some (ih p hs (by omega)) ?_
    have r1 : (pre.length + 1) * 56 ≤ roomB := by unfold roomB; omega
    simp only [go_sem, ns, r1, placeV]
    refine ⟨by decide, ?_⟩
    simp only [go_sem, w5, Kloop_norm]
    exact ⟨rest.length, _, by omega, (by simp [norm, normGo, boxesBelow, ownIds, adelAll, V.under, St.get, St.obf, aget, adel]; rfl), pre ++ [.mk t v p], rest, by simp [hL], rfl, by simp [ns, NDs, ND]⟩
theorem tc47 : ∀ (N : Nat) (L : List TN), wts L < N → N ≤ 1099511627776 → TC Try.prog 47 [ns L] (iv (wts L)) := by
  intro N
  induction N with
  | zero => intro L h; omega
  | succ N ih =>
  intro L hN hM
  refine tcW Try.func47 k47 h47 (by simp [c47]) (by simp) [] ?_
  simp only [go_sem, c47, ns]
  refine W_loop 88 [.keep 0, .keep 3, .keep 4] (fun m st => ∃ pre rest, L = pre ++ rest ∧ m = rest.length ∧ st = ⟨[(0, ns L), (3, iv (wts pre + rest.length : Int)), (4, iv pre.length)], [], 2136⟩) (by omega) L.length _ (by simp [norm, normGo, boxesBelow, ownIds, adelAll, V.under, St.get, St.obf, aget, adel, wts, ns]) ⟨[], L, rfl, rfl, rfl⟩ ?_
  rintro m st ⟨pre, rest, hL, rfl, rfl⟩
  cases rest with
  | nil =>
    have : ¬ ((pre.length : Int) < (L.length : Int)) := by subst hL; simp
    have hL' : wts L = wts pre := by subst hL; simp
    have h0 : ((wts pre : Int) + 0 : Int) = wts pre := by omega
    simp only [go_sem, this, hL', ns, Int.natCast_zero, h0]
  | cons x rest =>
    obtain ⟨t, v, p⟩ := x
    obtain ⟨c2, c3, hdrop, hwt, hwl, hpl⟩ := at_node hL
    have hs : wts p < N := by omega
    have hlr : rest.length + 1 ≤ L.length := by subst hL; simp
    have w5 : w64 ((pre.length : Int) + 1) = pre.length + 1 := w64_of (by omega)
    have w6 : w64 ((wts pre : Int) + (rest.length + 1 : Nat) + v.length) = wts pre + rest.length + 1 + v.length := by rw [w64_of (by omega)]; omega
    have w7 : w64 ((wts pre : Int) + rest.length + 1 + v.length + wts p) = (wts (pre ++ [.mk t v p]) : Nat) + rest.length := by
      rw [w64_of (by omega), wts_append]; simp only [wts, wt]; omega
    simp only [go_sem, c2, c3, hdrop, ns, w6]
    refine Wdcall_some (ih p hs (by omega)) ?_
    simp only [go_sem, w6, w7]
    refine ⟨by decide, ?_⟩
    simp only [go_sem, w5, Kloop_norm]
    exact ⟨rest.length, _, by omega, rfl, pre ++ [.mk t v p], rest, by simp [hL], rfl, by simp [ns, St.get, aget]⟩
theorem tc39 : ∀ (N : Nat) (L : List TN) (d : Int), wts L < N → N ≤ 1099511627776 → -1 ≤ d → d ≤ 100 → TC Try.prog 39 [ns L, iv d] (tv (deeps L d)) := by
  intro N
  induction N with
  | zero => intro L d h; omega
  | succ N ih =>
  intro L d hN hM hd hd7
  refine tcW Try.func39 k39 h39 (by simp [c39]) (by simp) [] ?_
  simp only [go_sem, c39, ns]
  refine W_loop 88 [.keep 0, .keep 1, .keep 5] (fun m st => ∃ pre rest, L = pre ++ rest ∧ deeps L d = deeps rest d ∧ m = rest.length ∧ st = ⟨[(0, ns L), (1, iv d), (5, iv pre.length)], [], 2136⟩) (by omega) L.length _ rfl ⟨[], L, rfl, rfl, rfl, rfl⟩ ?_
  rintro m st ⟨pre, rest, hL, hc, rfl, rfl⟩
  cases rest with
  | nil =>
    have : ¬ ((pre.length : Int) < (L.length : Int)) := by subst hL; simp
    simp only [go_sem, this, hc, deeps, ns]
  | cons x rest =>
    obtain ⟨t, v, p⟩ := x
    obtain ⟨c2, c3, hdrop, hwt, hwl, hpl⟩ := at_node hL
    have hs : wts p < N := by omega
    have hl : w64 ((pre.length : Int) + 1) = pre.length + 1 := w64_id (by omega) (by omega)
    by_cases h0 : d < 0
    · have e1 : deeps L d = true := by rw [hc]; simp [deeps, deep1, h0]
      simp only [go_sem, c2, h0, e1, ns]
    have hw : w64 (d - 1) = d - 1 := w64_id (by omega) (by omega)
    simp only [go_sem, c2, c3, hdrop, ns, h0, hw]
    refine Wcall_some (ih p (d - 1) hs (by omega) (by omega) (by omega)) ?_
    have e1 : deeps L d = (deeps p (d - 1) || deeps rest d) := by rw [hc]; simp [deeps, deep1, h0]
    cases hb : deeps p (d - 1)
    · simp only [go_sem, hl, Kloop_norm]
      exact ⟨rest.length, _, by omega, rfl, pre ++ [.mk t v p], rest, by simp [hL], by rw [e1, hb]; rfl, rfl, by simp [ns, St.get, aget]⟩
    · have e2 : deeps L d = true := by rw [e1, hb]; rfl
      simp only [go_sem, e2]
theorem tc18 (L : List TN) (h : wts L < 1099511627776) : TC Try.prog 18 [ns L] (tv (largeB L)) := by
  refine tcW Try.func18 k18 h18 (by simp [c18]) (by simp) [] ?_
  simp only [go_sem, c18, ns]
  refine Wcall_some (tc39 1099511627776 L 12 h (by omega) (by omega) (by omega)) ?_
  cases hb : deeps L 12
  · simp only [go_sem, hb]
    refine Wcall_some (tc47 1099511627776 L h (by omega)) ?_
    have : decide ((5000 : Int) < (wts L : Int)) = decide (5000 < wts L) := by congr 1; simp; omega
    simp only [go_sem, largeB, hb, this, Bool.false_or]
  · simp only [go_sem, largeB, hb, Bool.true_or]
theorem tc14 : TC Try.prog 14 [] (tv true) := by
  refine tcW Try.func14 k14 h14 (by simp [c14]) (by simp) [] ?_
  simp only [go_sem, c14, placeV]
  obtain ⟨b, hb⟩ : ∃ b : List UInt8, b = [48, 2, 5, 0] := ⟨_, rfl⟩
  have he : encode [.mk 48 [] [.mk 5 [] []]] = (b, 0) := by subst hb; decide
  have h3 : (b == [48, 2, 5, 0]) = true := by subst hb; decide
  refine Wcall_at (tc16 [.mk 48 [] [.mk 5 [] []]] (by decide)) rfl ?_
  simp only [he]
  simp only [go_sem, bv, h3]
  refine Wcall_some (tc17 48) ?_
  have h1 : nestB 48 = true := by decide
  have h2 : nestB 5 = false := by decide
  simp only [go_sem, h1]
  refine Wcall_some (tc17 5) ?_
  simp only [go_sem, h2]
end Go.Proofs.Ytbdohnigbnhjnaa.Vc
