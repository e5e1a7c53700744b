/- Contracts of functions: lists of values, equal or copied. -/
import Derived.Test.YtokbcminleemaaaTpE
set_option linter.unusedSimpArgs false
set_option linter.unusedVariables false
set_option linter.unusedSectionVars false
namespace Go.Proofs.Ytokbcminleemaaa.Vc
open Go Go.Vk Go.Tv Go.Proofs
set_option maxRecDepth 100000
set_option maxHeartbeats 4000000
attribute [local go_sem ↓] W_skip W_reg W_draw W_seq W_cond W_block W_exit W_label W_goto W_ret Kseq_norm Kseq_ret Kseq_ex Kseq_go Kseq_pan Kblk_norm Kblk_ret Kblk_self Kblk_ne Kblk_go Kblk_pan Kloop_ret Kloop_ex Kloop_go Kloop_pan KseqS_norm KseqS_ret KseqS_ex KseqS_pan Kend_norm Kend_ret Kend_ex KscS_norm KscS_ret KscS_ex KscS_go Wr_nil Wr_g Wg_11 Wg_00 Wg_10 Wg_01 Wg_skip Wr_call Wr_callv Wr_inv Winv_if Winv2_some Wr_panic Wr_isnil Wr_op Ev_some Wcv_fn Wd_callv Wd_inv Wdcv_fn Wdinv_if Wdinv2_some ifV_agg ifV_int Wnil_some Wpan_if Wcond_t Wcond_f Wd_nil Wd_g Wd_call Wd_op Wdg_11 Wdg_00 Wdg_10 Wdg_01 Wdg_skip Evd_some step_some step_none val_t val_c get_mk obf_mk rdl_nil rdl_cons aget_cons aget_nil
attribute [local go_sem] pl_mv pl_pick pl_box pl_build pl_bsl pl_ld pl_st pl_nilc pl_bin pl_eqb pl_eq pl_eqn pl_un pl_cvi pl_cvs pl_s2b pl_b2s pl_mki pl_mkf pl_mks pl_sl pl_sls pl_fa pl_fld pl_ia pl_iaA pl_ix pl_ixs pl_ta pl_ex pl_len pl_lens pl_mn pl_mx pl_app pl_apps ev aset adel upd Option.getD_some passAll passV List.append_nil reduceIte Nat.reduceEqDiff decide_eq_true_eq Bool.false_eq_true Bool.true_eq_false reduceCtorEq Nat.reduceAdd updf V.sliceOf placeD placeV V.toDs V.toD1 V.cells List.map_cons List.map_nil Nat.mul_one Nat.zero_mul List.length_nil List.length_cons Nat.zero_add List.nil_append true_and and_true and_self Nat.zero_lt_one if_true if_false Nat.reduceLT Nat.reduceLeDiff Nat.reduceMul splice List.take_zero List.drop_zero List.drop_nil Bool.not_true Bool.not_false bne_self_eq_false Bool.bne_true Bool.bne_false Bool.false_bne Bool.true_bne List.cons_append eq_self Option.map_some Option.map_none boundO bound b_and b_or b_add b_sub b_mul b_rem b_eql b_neq b_lss b_leq b_gtr b_geq b_seql b_sneq b_shr8 b_shl8 decide_true decide_false IOp.xs List.flatMap_cons List.flatMap_nil V.ids V.ids1 V.ids0
attribute [local go_sem] Vk.RetB resVs resV outOf Vk.init recvs recvV recv enumFrom
attribute [local go_sem] bs_length NDs_length VLDs_length bs_nil bs_cons bytesOf_bs
attribute [local go_sem] le_1 le_2 le_3 le_4 le_5 le_6 le_7 le_8 le_9 le_10 le_11 le_12 le_o0 ck_bool ck_int ck_str ck_slice ck_ni ck_if ck_nils ck_own nat_nn Int.cast_ofNat_Int datas V.data? eqCells eqD Bool.true_and Bool.false_and List.all_cons List.all_nil Bool.and_true Bool.and_self List.take_succ_cons List.drop_succ_cons List.getElem?_cons_zero List.getElem?_cons_succ Int.toNat_natCast Nat.add_zero Nat.sub_zero
attribute [local go_sem] Int.reduceBEq Int.reduceBNe Int.reduceLT Int.reduceLE Int.reduceGT Int.reduceGE Int.reduceEq Int.reduceNe Int.reduceAdd Int.reduceSub Int.reduceMul Int.reduceToNat beq_self_eq_true bne_self_eq_false Nat.reduceBEq Nat.reduceSub ge_iff_le gt_iff_lt
/-- '==' of two values, as it is computed. -/
def vEq (x y : VL) : Bool := x.k == y.k && (x.n == y.n && (x.s == y.s && (x.a == y.a && (x.b == y.b && x.c == y.c))))
theorem vEq_iff (x y : VL) : vEq x y = decide (x = y) := by
  obtain ⟨k, n, s, a, b, c⟩ := x
  obtain ⟨k', n', s', a', b', c'⟩ := y
  simp only [vEq, VL.mk.injEq]
  rw [Bool.eq_iff_iff]
  simp
/-- Two lists at a place. -/
theorem two_at {L M p r q u : List VL} {x y : VL} (h : L = p ++ x :: r) (h' : M = q ++ y :: u) (hp : p.length = q.length) :
    ((p.length : Int) < (M.length : Int)) ∧ p.length * 6 < M.length * 6 ∧ (VLDs M).drop (p.length * 6) = .int .i64 y.k :: .int .i64 y.n :: .str y.s :: .int .i64 y.a :: .int .i64 y.b :: .int .i64 y.c :: VLDs u := by
  obtain ⟨a, b, c, d⟩ := at_val h'
  rw [hp]
  exact ⟨a, b, c⟩
theorem tcEqual (L M : List VL) (hl : L.length ≤ 1099511627776) (hm : M.length ≤ 1099511627776) : TC Try.prog 62 [vls L, vls M] (tv (decide (L = M))) := by
  refine tcW Try.func62 k62 h62 (by simp [c62]) (by simp) [] ?_
  simp only [go_sem, c62, vls]
  by_cases h : L.length = M.length
  rotate_left
  · have e : ((L.length : Int) != M.length) = true := by simp; omega
    have e2 : ¬ L = M := fun e => h (by rw [e])
    simp only [go_sem, e]
    simp [e2]
  have e : ((L.length : Int) != M.length) = false := by simp; omega
  simp only [go_sem, e]
  refine W_loop 72 [.keep 0, .keep 1, .keep 12, .keep 13] (fun m st => ∃ p r q u, L = p ++ r ∧ M = q ++ u ∧ p = q ∧ m = r.length ∧ st = ⟨[(0, vls L), (1, vls M), (12, iv L.length), (13, iv p.length)], [], 2120⟩) (by omega) L.length _ (by simp [norm, normGo, boxesBelow, ownIds, adelAll, V.under, St.get, St.obf, aget, adel, vls]) ⟨[], L, [], M, rfl, rfl, rfl, rfl, rfl⟩ ?_
  rintro m st ⟨p, r, q, u, hL, hM, rfl, rfl, rfl⟩
  have hru : r.length = u.length := by
    have := congrArg List.length hL
    have := congrArg List.length hM
    simp at *
    omega
  match r, u, hru with
  | [], [], _ =>
    have hn : ¬ ((p.length : Int) < (L.length : Int)) := by subst hL; simp
    have e3 : L = M := by rw [hL, hM]
    simp only [go_sem, hn]
    simp [e3]
  | x :: r, y :: u, hru =>
    obtain ⟨c2, c3, hdrop, hpl⟩ := at_val hL
    obtain ⟨d2, d3, hdrop2⟩ := two_at hL hM rfl
    have w5 : w64 ((p.length : Int) + 1) = p.length + 1 := w64_of (by omega)
    have hv : (x.k == y.k && (x.n == y.n && (x.s == y.s && (x.a == y.a && (x.b == y.b && x.c == y.c))))) = decide (x = y) := vEq_iff x y
    simp only [go_sem, c2, c3, d2, d3, hdrop, hdrop2, vls, hv]
    refine ⟨by decide, ?_⟩
    by_cases hxy : x = y
    · subst hxy
      simp only [go_sem, w5, Kloop_norm]
      exact ⟨r.length, _, by simp, (by simp [norm, normGo, boxesBelow, ownIds, adelAll, V.under, St.get, St.obf, aget, adel]; rfl), p ++ [x], r, p ++ [x], u, by simp [hL], by simp [hM], rfl, rfl, by simp [vls]⟩
    · have e3 : ¬ L = M := fun e => by
        rw [hL, hM] at e
        have := List.append_cancel_left e
        simp at this
        exact hxy this.1
      simp only [go_sem, hxy]
      simp [e3]
theorem tcSameV (L M : List VL) (hl : L.length ≤ 1099511627776) (hm : M.length ≤ 1099511627776) : TC Try.prog 37 [vls L, vls M] (tv (decide (L = M))) := by
  refine tcW Try.func37 k37 h37 (by simp [c37]) (by simp) [] ?_
  simp only [go_sem, c37, vls]
  refine Wcall_at (tcEqual L M hl hm) (by rfl) ?_
  simp only [go_sem]
theorem tcClone (L : List VL) (hl : L.length ≤ 1099511627776) : TC Try.prog 46 [vls L] (vls L) := by
  refine tcW Try.func46 k46 h46 (by simp [c46]) (by simp) [] ?_
  simp only [go_sem, c46, vls]
  have h2 : L.length * 56 ≤ roomB := by unfold roomB; omega
  intro b hb
  cases b
  · simp only [go_sem, h2]
  · have h0 : L = [] := by have := hb rfl; cases L <;> simp_all [VLDs, VLD]
    subst h0
    simp only [go_sem]; rfl
theorem tcRSame (L M : List VL) (hl : L.length ≤ 1099511627776) (hm : M.length ≤ 1099511627776) : TC Try.prog 28 [vls L, vls M] (tv (decide (L = M))) := by
  refine tcW Try.func28 k28 h28 (by simp [c28]) (by simp) [] ?_
  simp only [go_sem, c28, vls]
  by_cases h : L.length = M.length
  rotate_left
  · have e : ((L.length : Int) != M.length) = true := by simp; omega
    have e2 : ¬ L = M := fun e => h (by rw [e])
    simp only [go_sem, e]
    simp [e2]
  have e : ((L.length : Int) != M.length) = false := by simp; omega
  simp only [go_sem, e]
  refine W_loop 72 [.keep 0, .keep 1, .keep 5] (fun m st => ∃ p r q u, L = p ++ r ∧ M = q ++ u ∧ p = q ∧ m = r.length ∧ st = ⟨[(0, vls L), (1, vls M), (5, iv p.length)], [], 2120⟩) (by omega) L.length _ (by simp [norm, normGo, boxesBelow, ownIds, adelAll, V.under, St.get, St.obf, aget, adel, vls]) ⟨[], L, [], M, rfl, rfl, rfl, rfl, rfl⟩ ?_
  rintro m st ⟨p, r, q, u, hL, hM, rfl, rfl, rfl⟩
  have hru : r.length = u.length := by
    have := congrArg List.length hL
    have := congrArg List.length hM
    simp at *
    omega
  match r, u, hru with
  | [], [], _ =>
    have hn : ¬ ((p.length : Int) < (L.length : Int)) := by subst hL; simp
    have e3 : L = M := by rw [hL, hM]
    simp only [go_sem, hn, vls]
    simp [e3]
  | x :: r, y :: u, hru =>
    obtain ⟨c2, c3, hdrop, hpl⟩ := at_val hL
    obtain ⟨d2, d3, hdrop2⟩ := two_at hL hM rfl
    have w5 : w64 ((p.length : Int) + 1) = p.length + 1 := w64_of (by omega)
    have hv : (x.k == y.k && (x.n == y.n && (x.s == y.s && (x.a == y.a && (x.b == y.b && x.c == y.c))))) = decide (x = y) := vEq_iff x y
    simp only [go_sem, c2, c3, d2, d3, hdrop, hdrop2, vls, hv]
    by_cases hxy : x = y
    · subst hxy
      simp only [go_sem, w5, Kloop_norm]
      refine ⟨by decide, r.length, _, by simp, (by simp [norm, normGo, boxesBelow, ownIds, adelAll, V.under, St.get, St.obf, aget, adel]; rfl), p ++ [x], r, p ++ [x], u, by simp [hL], by simp [hM], rfl, rfl, by simp [vls]⟩
    · have e3 : ¬ L = M := fun e => by
        rw [hL, hM] at e
        have := List.append_cancel_left e
        simp at this
        exact hxy this.1
      simp only [go_sem, hxy]
      refine ⟨by decide, ?_⟩
      simp [e3]
end Go.Proofs.Ytokbcminleemaaa.Vc
