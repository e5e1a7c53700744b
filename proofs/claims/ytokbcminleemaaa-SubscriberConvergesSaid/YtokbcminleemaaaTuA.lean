/- Contracts of functions: publishers. -/
import Derived.Test.YtokbcminleemaaaTsA
import Derived.Test.YtokbcminleemaaaVcPub
set_option linter.unusedSimpArgs false
set_option linter.unusedVariables false
set_option linter.unusedSectionVars false
namespace Go.Proofs.Ytokbcminleemaaa.Vc
open Go Go.Vk Go.Tv Go.Proofs
set_option maxRecDepth 100000
set_option maxHeartbeats 4000000
attribute [local go_sem ↓] W_skip W_reg W_draw W_seq W_cond W_block W_exit W_label W_goto W_ret Kseq_norm Kseq_ret Kseq_ex Kseq_go Kseq_pan Kblk_norm Kblk_ret Kblk_self Kblk_ne Kblk_go Kblk_pan Kloop_ret Kloop_ex Kloop_go Kloop_pan KseqS_norm KseqS_ret KseqS_ex KseqS_pan Kend_norm Kend_ret Kend_ex KscS_norm KscS_ret KscS_ex KscS_go Wr_nil Wr_g Wg_11 Wg_00 Wg_10 Wg_01 Wg_skip Wr_call Wr_callv Wr_inv Winv_if Winv2_some Wr_panic Wr_isnil Wr_op Ev_some Wcv_fn Wd_callv Wd_inv Wdcv_fn Wdinv_if Wdinv2_some ifV_agg ifV_int Wnil_some Wpan_if Wcond_t Wcond_f Wd_nil Wd_g Wd_call Wd_op Wdg_11 Wdg_00 Wdg_10 Wdg_01 Wdg_skip Evd_some step_some step_none val_t val_c get_mk obf_mk rdl_nil rdl_cons aget_cons aget_nil
attribute [local go_sem] pl_mv pl_pick pl_box pl_build pl_bsl pl_ld pl_st pl_nilc pl_bin pl_eqb pl_eq pl_eqn pl_un pl_cvi pl_cvs pl_s2b pl_b2s pl_mki pl_mkf pl_mks pl_sl pl_sls pl_fa pl_fld pl_ia pl_iaA pl_ix pl_ixs pl_ta pl_ex pl_len pl_lens pl_mn pl_mx pl_app pl_apps ev aset adel upd Option.getD_some passAll passV List.append_nil reduceIte Nat.reduceEqDiff decide_eq_true_eq Bool.false_eq_true Bool.true_eq_false reduceCtorEq Nat.reduceAdd updf V.sliceOf placeD placeV V.toDs V.toD1 V.cells List.map_cons List.map_nil Nat.mul_one Nat.zero_mul List.length_nil List.length_cons Nat.zero_add List.nil_append true_and and_true and_self Nat.zero_lt_one if_true if_false Nat.reduceLT Nat.reduceLeDiff Nat.reduceMul splice List.take_zero List.drop_zero List.drop_nil Bool.not_true Bool.not_false bne_self_eq_false Bool.bne_true Bool.bne_false Bool.false_bne Bool.true_bne List.cons_append eq_self Option.map_some Option.map_none boundO bound b_and b_or b_add b_sub b_mul b_rem b_eql b_neq b_lss b_leq b_gtr b_geq b_seql b_sneq b_shr8 b_shl8 decide_true decide_false IOp.xs List.flatMap_cons List.flatMap_nil V.ids V.ids1 V.ids0
attribute [local go_sem] Vk.RetB resVs resV outOf Vk.init recvs recvV recv enumFrom
attribute [local go_sem] bs_length NDs_length VLDs_length bs_nil bs_cons bytesOf_bs
attribute [local go_sem] le_1 le_2 le_3 le_4 le_5 le_6 le_7 le_8 le_9 le_10 le_11 le_12 le_o0 ck_bool ck_int ck_str ck_slice ck_ni ck_if ck_nils ck_own nat_nn Int.cast_ofNat_Int datas V.data? eqCells eqD Bool.true_and Bool.false_and List.all_cons List.all_nil Bool.and_true Bool.and_self List.take_succ_cons List.drop_succ_cons List.getElem?_cons_zero List.getElem?_cons_succ Int.toNat_natCast Nat.add_zero Nat.sub_zero
attribute [local go_sem] Int.reduceBEq Int.reduceBNe Int.reduceLT Int.reduceLE Int.reduceGT Int.reduceGE Int.reduceEq Int.reduceNe Int.reduceAdd Int.reduceSub Int.reduceMul Int.reduceToNat beq_self_eq_true bne_self_eq_false Nat.reduceBEq Nat.reduceSub ge_iff_le gt_iff_lt
def msV (o : Option MS) : V := match o with
  | none => .d (.slice 0 [])
  | some m => .d (.slice 1 (mD m))
def okN (n : Int) : Prop := 0 ≤ n ∧ n ≤ 1099511627776
def okP (p : PS) : Prop := p.vs.length ≤ 1000 ∧ okN p.since ∧ okN p.gap ∧ okN p.st ∧ okN p.sq ∧ okN p.first ∧ okN p.max
theorem tcAfter (n : Int) (h : okN n) : TC Try.prog 59 [iv n] (iv (afterF n)) := by
  refine tcW Try.func59 k59 h59 (by simp [c59]) (by simp) [] ?_
  obtain ⟨h1, h2⟩ := h
  have w1 : w64 (n + 1) = n + 1 := w64_of (by omega)
  simp only [go_sem, c59]
  by_cases h : n = 4294967295
  · subst h; simp only [go_sem]; rfl
  · have e : (n == 4294967295) = false := by simpa using h
    simp only [go_sem, e, w1]
    simp [afterF, mostN, h]
theorem tcAct (p : PS) (vs : List VL) (h : okP p) (hv : vs.length ≤ 1000) : TC Try.prog 58 [pa p, vls vs] (iv (actF p vs)) := by
  refine tcW Try.func58 k58 h58 (by simp [c58]) (by simp) [] ?_
  obtain ⟨h1, h2, h3, _⟩ := h
  have w1 : w64 (p.since + 1) = p.since + 1 := w64_of (by have := h2.1; have := h2.2; omega)
  simp only [go_sem, c58, pa, pcells, vls]
  cases hk : p.on
  · simp only [go_sem]
    simp [actF, hk]
  simp only [go_sem]
  refine Wcall_at (tcSameV vs p.vs (by omega) (by omega)) (by rfl) ?_
  by_cases hs : vs = p.vs
  rotate_left
  · have e : decide (vs = p.vs) = false := by simpa using hs
    simp only [go_sem, e]
    simp [actF, hs]
  have e : decide (vs = p.vs) = true := by simpa using hs
  simp only [go_sem, e, w1]
  by_cases hg : p.since + 1 = p.gap
  · have e2 : (p.since + 1 == p.gap) = true := by simpa using hg
    simp only [go_sem, e2]
    simp [actF, hk, hs, hg]
  · have e2 : (p.since + 1 == p.gap) = false := by simpa using hg
    simp only [go_sem, e2]
    simp [actF, hk, hs, hg]
theorem tcNewP (p f m r : Int) : TC Try.prog 40 [iv p, iv f, iv m, iv r] (.tup [pa (newP p f m r).1, iv (newP p f m r).2]) := by
  refine tcW Try.func40 k40 h40 (by simp [c40]) (by simp) [] ?_
  simp only [go_sem, c40]
  by_cases a1 : p < 0
  · have e : newP p f m r = (⟨0, 0, 0, 0, false, 0, 0, 0, 0, 0, 0, 0, []⟩, 2) := by unfold newP; rw [if_neg (by omega)]
    simp only [go_sem, a1, e]
    rfl
  by_cases a2 : 999 < p
  · have e : newP p f m r = (⟨0, 0, 0, 0, false, 0, 0, 0, 0, 0, 0, 0, []⟩, 2) := by unfold newP; rw [if_neg (by omega)]
    simp only [go_sem, a1, a2, e]
    rfl
  by_cases a3 : f < 1
  · have e : newP p f m r = (⟨0, 0, 0, 0, false, 0, 0, 0, 0, 0, 0, 0, []⟩, 2) := by unfold newP; rw [if_neg (by omega)]
    simp only [go_sem, a1, a2, a3, e]
    rfl
  by_cases a4 : 100 < f
  · have e : newP p f m r = (⟨0, 0, 0, 0, false, 0, 0, 0, 0, 0, 0, 0, []⟩, 2) := by unfold newP; rw [if_neg (by omega)]
    simp only [go_sem, a1, a2, a3, a4, e]
    rfl
  by_cases a5 : m < f
  · have e : newP p f m r = (⟨0, 0, 0, 0, false, 0, 0, 0, 0, 0, 0, 0, []⟩, 2) := by unfold newP; rw [if_neg (by omega)]
    simp only [go_sem, a1, a2, a3, a4, a5, e]
    rfl
  by_cases a6 : 1000 < m
  · have e : newP p f m r = (⟨0, 0, 0, 0, false, 0, 0, 0, 0, 0, 0, 0, []⟩, 2) := by unfold newP; rw [if_neg (by omega)]
    simp only [go_sem, a1, a2, a3, a4, a5, a6, e]
    rfl
  by_cases a7 : r < 0
  · have e : newP p f m r = (⟨0, 0, 0, 0, false, 0, 0, 0, 0, 0, 0, 0, []⟩, 2) := by unfold newP; rw [if_neg (by omega)]
    simp only [go_sem, a1, a2, a3, a4, a5, a6, a7, e]
    rfl
  by_cases a8 : 4294967295 < r
  · have e : newP p f m r = (⟨0, 0, 0, 0, false, 0, 0, 0, 0, 0, 0, 0, []⟩, 2) := by unfold newP mostN; rw [if_neg (by omega)]
    simp only [go_sem, a1, a2, a3, a4, a5, a6, a7, a8, e]
    rfl
  have e : newP p f m r = (⟨p, f, m, r, false, 0, 0, 0, 0, 0, 0, 0, []⟩, 0) := by unfold newP mostN; rw [if_pos (by omega)]
  simp only [go_sem, a1, a2, a3, a4, a5, a6, a7, a8, e]
  rfl
theorem afterF_ok {n : Int} (h : okN n) : 0 ≤ afterF n ∧ afterF n ≤ 1099511627777 := by
  obtain ⟨h1, h2⟩ := h
  unfold afterF mostN
  split <;> omega
theorem tcStep (p : PS) (vs : List VL) (a b c : Int) (h : okP p) (hv : vs.length ≤ 1000) : TC Try.prog 33 [pa p, vls vs, .agg [iv a, iv b, iv c]] (.tup [pa (stepF p vs a b c).1, msV (stepF p vs a b c).2]) := by
  refine tcW Try.func33 k33 h33 (by simp [c33]) (by simp) [] ?_
  have h' := h
  obtain ⟨h1, ⟨i1, i2⟩, ⟨j1, j2⟩, h4, h5, ⟨k1, k2⟩, ⟨l1, l2⟩⟩ := h'
  simp only [go_sem, c33, pa, pcells, vls]
  refine Wcall_at (tcClone p.vs (by omega)) (by rfl) ?_
  simp only [go_sem, vls]
  refine Wcall_at (tcAct p vs h hv) (by rfl) ?_
  have ha : actF p vs = 0 ∨ actF p vs = 1 ∨ actF p vs = 2 := by
    unfold actF
    split
    · exact .inr (.inl rfl)
    split
    · exact .inr (.inr rfl)
    · exact .inl rfl
  rcases ha with ha | ha | ha
  · have et : stepF p vs a b c = ({ p with since := p.since + 1 }, none) := by unfold stepF; rw [if_pos ha]
    have w1 : w64 (p.since + 1) = p.since + 1 := w64_of (by omega)
    simp only [go_sem, ha, w1, et, msV]
  · obtain ⟨q, hq⟩ : ∃ q, q = changeP p vs a b c := ⟨_, rfl⟩
    have et : stepF p vs a b c = if ckM (sentM q) = 0 then (q, some (sentM q)) else (p, none) := by
      unfold stepF; rw [if_neg (by omega)]; simp only [ha, if_true, hq]
    have w1 : w64 (3 * p.first) = 3 * p.first := w64_of (by omega)
    have w2 : w64 (3 * p.first + 1) = 3 * p.first + 1 := w64_of (by omega)
    cases hk : p.on
    · have hst : q = ⟨p.pub, p.first, p.max, p.rev, true, 1, 0, 0, p.first, a, b, c, vs⟩ := by rw [hq]; simp [changeP, hk]
      simp only [go_sem, ha]
      refine Wdcall_at (tcClone vs (by omega)) (by rfl) ?_
      simp only [go_sem, vls]
      refine ⟨by rfl, ?_⟩
      simp only [go_sem, w1, w2]
      refine Wdcall_at (tcClone vs (by omega)) (by rfl) ?_
      simp only [go_sem, vls]
      refine ⟨by rfl, ?_⟩
      refine Wcall_at (tcMCheck (sentM q) (by rw [hst]; simp only [sentM]; omega)) (by rw [hst]; rfl) ?_
      by_cases hc : ckM (sentM q) = 0
      · rw [if_pos hc] at et
        simp only [go_sem, hc]
        refine ⟨by rfl, ?_⟩
        rw [et, hst]; rfl
      · rw [if_neg hc] at et
        have e : (ckM (sentM q) != 0) = true := by simpa using hc
        simp only [go_sem, e, et]
        refine Wcall_at (tcClone p.vs (by omega)) (by rfl) ?_
        simp only [go_sem, vls, msV, hk]
    · have hst : q = ⟨p.pub, p.first, p.max, p.rev, true, afterF p.st, 0, 0, p.first, a, b, c, vs⟩ := by rw [hq]; simp [changeP, hk]
      simp only [go_sem, ha]
      refine Wcall_at (tcAfter p.st h4) (by rfl) ?_
      simp only [go_sem]
      refine Wdcall_at (tcClone vs (by omega)) (by rfl) ?_
      simp only [go_sem, vls]
      refine ⟨by rfl, ?_⟩
      simp only [go_sem, w1, w2]
      refine Wdcall_at (tcClone vs (by omega)) (by rfl) ?_
      simp only [go_sem, vls]
      refine ⟨by rfl, ?_⟩
      refine Wcall_at (tcMCheck (sentM q) (by rw [hst]; simp only [sentM]; omega)) (by rw [hst]; rfl) ?_
      by_cases hc : ckM (sentM q) = 0
      · rw [if_pos hc] at et
        simp only [go_sem, hc]
        refine ⟨by rfl, ?_⟩
        rw [et, hst]; rfl
      · rw [if_neg hc] at et
        have e : (ckM (sentM q) != 0) = true := by simpa using hc
        simp only [go_sem, e, et]
        refine Wcall_at (tcClone p.vs (by omega)) (by rfl) ?_
        simp only [go_sem, vls, msV, hk]
  · obtain ⟨q, hq⟩ : ∃ q, q = repeatP p := ⟨_, rfl⟩
    have et : stepF p vs a b c = if ckM (sentM q) = 0 then (q, some (sentM q)) else (p, none) := by
      unfold stepF; rw [if_neg (by omega)]; simp [ha, hq]
    have w0 : w64 (2 * p.gap) = 2 * p.gap := w64_of (by omega)
    have w1 : w64 (3 * min (2 * p.gap) p.max) = 3 * min (2 * p.gap) p.max := w64_of (by omega)
    have w2 : w64 (3 * min (2 * p.gap) p.max + 1) = 3 * min (2 * p.gap) p.max + 1 := w64_of (by omega)
    have hst : q = ⟨p.pub, p.first, p.max, p.rev, p.on, p.st, afterF p.sq, 0, min (2 * p.gap) p.max, p.ta, p.tb, p.tc, p.vs⟩ := hq
    simp only [go_sem, ha]
    refine Wcall_at (tcAfter p.sq h5) (by rfl) ?_
    simp only [go_sem, mn_rule, w0, w1, w2]
    refine Wdcall_at (tcClone p.vs (by omega)) (by rfl) ?_
    simp only [go_sem, vls]
    refine ⟨by rfl, ?_⟩
    refine Wcall_at (tcMCheck (sentM q) (by rw [hst]; simp only [sentM]; omega)) (by rw [hst]; rfl) ?_
    by_cases hc : ckM (sentM q) = 0
    · rw [if_pos hc] at et
      simp only [go_sem, hc]
      refine ⟨by rfl, ?_⟩
      rw [et, hst]; rfl
    · rw [if_neg hc] at et
      have e : (ckM (sentM q) != 0) = true := by simpa using hc
      simp only [go_sem, e, et]
      refine Wcall_at (tcClone p.vs (by omega)) (by rfl) ?_
      simp only [go_sem, vls, msV]
end Go.Proofs.Ytokbcminleemaaa.Vc
