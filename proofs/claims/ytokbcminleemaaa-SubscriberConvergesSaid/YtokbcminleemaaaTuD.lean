/- Laws of publishers: unsendable; prompt. -/
import Derived.Test.YtokbcminleemaaaTuC
set_option linter.unusedSimpArgs false
set_option linter.unusedVariables false
set_option linter.unusedSectionVars false
namespace Go.Proofs.Ytokbcminleemaaa.Vc
open Go Go.Vk Go.Tv Go.Proofs
set_option maxRecDepth 100000
set_option maxHeartbeats 4000000
attribute [local go_sem ↓] W_skip W_reg W_draw W_seq W_cond W_block W_exit W_label W_goto W_ret Kseq_norm Kseq_ret Kseq_ex Kseq_go Kseq_pan Kblk_norm Kblk_ret Kblk_self Kblk_ne Kblk_go Kblk_pan Kloop_ret Kloop_ex Kloop_go Kloop_pan KseqS_norm KseqS_ret KseqS_ex KseqS_pan Kend_norm Kend_ret Kend_ex KscS_norm KscS_ret KscS_ex KscS_go Wr_nil Wr_g Wg_11 Wg_00 Wg_10 Wg_01 Wg_skip Wr_call Wr_callv Wr_inv Winv_if Winv2_some Wr_panic Wr_isnil Wr_op Ev_some Wcv_fn Wd_callv Wd_inv Wdcv_fn Wdinv_if Wdinv2_some ifV_agg ifV_int Wnil_some Wpan_if Wcond_t Wcond_f Wd_nil Wd_g Wd_call Wd_op Wdg_11 Wdg_00 Wdg_10 Wdg_01 Wdg_skip Evd_some step_some step_none val_t val_c get_mk obf_mk rdl_nil rdl_cons aget_cons aget_nil
attribute [local go_sem] pl_mv pl_pick pl_box pl_build pl_bsl pl_ld pl_st pl_nilc pl_bin pl_eqb pl_eq pl_eqn pl_un pl_cvi pl_cvs pl_s2b pl_b2s pl_mki pl_mkf pl_mks pl_sl pl_sls pl_fa pl_fld pl_ia pl_iaA pl_ix pl_ixs pl_ta pl_ex pl_len pl_lens pl_mn pl_mx pl_app pl_apps ev aset adel upd Option.getD_some passAll passV List.append_nil reduceIte Nat.reduceEqDiff decide_eq_true_eq Bool.false_eq_true Bool.true_eq_false reduceCtorEq Nat.reduceAdd updf V.sliceOf placeD placeV V.toDs V.toD1 V.cells List.map_cons List.map_nil Nat.mul_one Nat.zero_mul List.length_nil List.length_cons Nat.zero_add List.nil_append true_and and_true and_self Nat.zero_lt_one if_true if_false Nat.reduceLT Nat.reduceLeDiff Nat.reduceMul splice List.take_zero List.drop_zero List.drop_nil Bool.not_true Bool.not_false bne_self_eq_false Bool.bne_true Bool.bne_false Bool.false_bne Bool.true_bne List.cons_append eq_self Option.map_some Option.map_none boundO bound b_and b_or b_add b_sub b_mul b_rem b_eql b_neq b_lss b_leq b_gtr b_geq b_seql b_sneq b_shr8 b_shl8 decide_true decide_false IOp.xs List.flatMap_cons List.flatMap_nil V.ids V.ids1 V.ids0
attribute [local go_sem] Vk.RetB resVs resV outOf Vk.init recvs recvV recv enumFrom
attribute [local go_sem] bs_length NDs_length VLDs_length bs_nil bs_cons bytesOf_bs
attribute [local go_sem] le_1 le_2 le_3 le_4 le_5 le_6 le_7 le_8 le_9 le_10 le_11 le_12 le_o0 ck_bool ck_int ck_str ck_slice ck_ni ck_if ck_nils ck_own nat_nn Int.cast_ofNat_Int datas V.data? eqCells eqD Bool.true_and Bool.false_and List.all_cons List.all_nil Bool.and_true Bool.and_self List.take_succ_cons List.drop_succ_cons List.getElem?_cons_zero List.getElem?_cons_succ Int.toNat_natCast Nat.add_zero Nat.sub_zero
attribute [local go_sem] Int.reduceBEq Int.reduceBNe Int.reduceLT Int.reduceLE Int.reduceGT Int.reduceGE Int.reduceEq Int.reduceNe Int.reduceAdd Int.reduceSub Int.reduceMul Int.reduceToNat beq_self_eq_true bne_self_eq_false Nat.reduceBEq Nat.reduceSub ge_iff_le gt_iff_lt
structure IP where
  w : Int
  s : Int
  deriving Inhabited
def IPD (e : IP) : List D := [.int .i64 e.w, .int .i64 e.s]
def IPDs : List IP → List D
  | [] => []
  | e :: r => IPD e ++ IPDs r
def ips (L : List IP) : V := .d (.slice L.length (IPDs L))
theorem IPDs_length (l : List IP) : (IPDs l).length = l.length * 2 := by
  induction l with
  | nil => rfl
  | cons n r ih => simp [IPDs, IPD, ih]; omega
theorem IPDs_append (l m : List IP) : IPDs (l ++ m) = IPDs l ++ IPDs m := by
  induction l with
  | nil => rfl
  | cons n r ih => simp [IPDs, ih]
theorem at_ip {L pre rest : List IP} {x : IP} (h : L = pre ++ x :: rest) :
    ((pre.length : Int) < (L.length : Int)) ∧ pre.length * 2 < L.length * 2 ∧ (IPDs L).drop (pre.length * 2) = .int .i64 x.w :: .int .i64 x.s :: IPDs rest ∧ pre.length < L.length := by
  subst h
  refine ⟨by simp; omega, by simp, ?_, by simp⟩
  rw [IPDs_append, List.drop_append_of_le_length (by rw [IPDs_length]; omega), List.drop_of_length_le (by rw [IPDs_length]; omega)]
  rfl
theorem bad_refused {p : PS} {vs : List VL} {n : Int} (hG : GP 7 9 n p) (hn : 0 ≤ n ∧ n ≤ 1000) (hc : p.on = false ∨ vs ≠ p.vs) (hv : ckVs vs ≠ 0) (hl : vs.length ≤ 24) : stepF p vs 0 0 0 = (p, none) := by
  have ha : actF p vs = 1 := by unfold actF; rw [if_pos hc]
  have h1 := hG.first
  have h2 := hG.max
  have q1 := hG.pub
  have q2 := hG.rev
  unfold stepF
  rw [if_neg (by omega)]
  simp only [ha, if_true]
  rw [if_neg]
  rw [ckM_eq]
  have hst : 1 ≤ (changeP p vs 0 0 0).st ∧ (changeP p vs 0 0 0).st ≤ 4294967295 := by
    simp only [changeP]
    cases hk : p.on
    · simp
    · obtain ⟨_, _, c, _⟩ := hG.on hk
      simp only [if_true, afterF, mostN, show ¬ p.st = 4294967295 from by omega, if_false]
      omega
  have a1 : 0 ≤ p.pub ∧ p.pub ≤ 999 := by omega
  have a2 : 1 ≤ 3 * p.first + 1 ∧ 3 * p.first + 1 ≤ 65535 := by omega
  have a5 : 0 ≤ p.rev ∧ p.rev ≤ 4294967295 := by omega
  have e1 : okH (sentM (changeP p vs 0 0 0)) = true := by
    have h3 : (sentM (changeP p vs 0 0 0)).st = (changeP p vs 0 0 0).st := rfl
    have h4 : (sentM (changeP p vs 0 0 0)).pub = p.pub := rfl
    have h5 : (sentM (changeP p vs 0 0 0)).ttl = 3 * p.first + 1 := rfl
    have h6 : (sentM (changeP p vs 0 0 0)).sq = 0 := rfl
    have h7 : (sentM (changeP p vs 0 0 0)).rev = p.rev := rfl
    simp only [okH, h3, h4, h5, h6, h7]
    simp [a1, a2, a5, hst]
  have e2 : ckT (sentM (changeP p vs 0 0 0)) = 0 := by
    show ckV ⟨5, 0, [], 0, 0, 0⟩ = 0
    decide
  have e3 : ¬ 24 < (sentM (changeP p vs 0 0 0)).vs.length := by simp only [sentM, changeP]; omega
  rw [if_pos e1, e2, if_neg e3]
  simp only [ne_eq, not_true_eq_false, if_false]
  exact hv
theorem tc13Unsendable (f m n : Int) : TC Try.prog 10 [iv f, iv m, iv n] (tv true) := by
  refine tcW Try.func10 k10 h10 (by simp [c10]) (by simp) [] ?_
  obtain ⟨_, g0⟩ := madeP_ok f m
  obtain ⟨p, hp⟩ : ∃ p, p = madeP f m := ⟨_, rfl⟩
  have hoff : p.on = false := by rw [hp]; rfl
  rw [← hp] at g0
  obtain ⟨v1, v2⟩ := valsF_ok (n.tmod 3)
  have s1 : stepF p [⟨9, n, [], 0, 0, 0⟩] 0 0 0 = (p, none) := bad_refused g0 (by omega) (.inl hoff) (by simp [ckVs, ckV]) (by simp)
  have t1 := g0.step (by omega) (by omega) (by omega) (a := 0) (b := 0) (c := 0) v1 v2 (by decide)
  have t2 : stepF p (valsF (n.tmod 3)) 0 0 0 = (changeP p (valsF (n.tmod 3)) 0 0 0, some (sentM (changeP p (valsF (n.tmod 3)) 0 0 0))) ∧ GP 7 9 1 (changeP p (valsF (n.tmod 3)) 0 0 0) := by
    rcases t1 with ⟨_, h1, h2, _⟩ | ⟨h, _⟩ | ⟨h, _⟩
    · exact ⟨h1, h2⟩
    · rw [hoff] at h; cases h
    · rw [hoff] at h; cases h
  obtain ⟨t2, g1⟩ := t2
  obtain ⟨q, hq⟩ : ∃ q, q = changeP p (valsF (n.tmod 3)) 0 0 0 := ⟨_, rfl⟩
  rw [← hq] at t2 g1
  have hqv : q.vs = valsF (n.tmod 3) := by rw [hq]; rfl
  have s2 : stepF q [⟨1, 2, [], 0, 0, 0⟩] 0 0 0 = (q, none) := bad_refused g1 (by omega) (.inr (by
    rw [hqv]
    unfold valsF
    split
    · decide
    split <;> decide)) (by decide) (by simp)
  have hst : (sentM q).st = 1 ∧ (sentM q).sq = 0 := by rw [hq]; simp [sentM, changeP, hoff]
  have ok0 := g0.ok (by omega)
  have ok1 := g1.ok (by omega)
  simp only [go_sem, c10]
  refine Wcall_some tcKnown13 ?_
  simp only [go_sem]
  refine Wcall_some (tcMade f m) ?_
  rw [← hp]
  simp only [go_sem, pa, pcells, vls]
  refine Wcall_at (tcStep p [⟨9, n, [], 0, 0, 0⟩] 0 0 0 ok0 (by simp)) (by rfl) ?_
  simp only [go_sem, s1, pa, pcells, vls, msV]
  refine Wdcall_at (tcValues (n.tmod 3)) (by rfl) ?_
  simp only [go_sem, vls]
  refine Wdcall_at (tcStep p (valsF (n.tmod 3)) 0 0 0 ok0 (by omega)) (by rfl) ?_
  simp only [go_sem, t2, pa, pcells, vls, msV, mD]
  refine ⟨by rfl, ?_⟩
  refine Wcall_at (tcStep q [⟨1, 2, [], 0, 0, 0⟩] 0 0 0 ok1 (by simp)) (by rfl) ?_
  simp only [go_sem, s2, pa, pcells, vls, msV]
  refine Wcall_at (tcSameP p p (by have := ok0.1; omega) (by have := ok0.1; omega)) (by rfl) ?_
  simp only [go_sem, hst.1, hst.2]
  refine Wcall_at (tcSameP q q (by have := ok1.1; omega) (by have := ok1.1; omega)) (by rfl) ?_
  simp only [go_sem]
end Go.Proofs.Ytokbcminleemaaa.Vc
