/- Contracts of functions: numbers, values. -/
import Derived.Test.YtokbcminleemaaaVkSimp
import Derived.Test.YtokbcminleemaaaTvVal
import Derived.Test.YtokbcminleemaaaVcVal
set_option linter.unusedSimpArgs false
set_option linter.unusedVariables false
set_option linter.unusedSectionVars false
namespace Go.Proofs.Ytokbcminleemaaa.Vc
open Go Go.Vk Go.Tv Go.Proofs
set_option maxRecDepth 100000
set_option maxHeartbeats 4000000
attribute [local go_sem ↓] W_skip W_reg W_draw W_seq W_cond W_block W_exit W_label W_goto W_ret Kseq_norm Kseq_ret Kseq_ex Kseq_go Kseq_pan Kblk_norm Kblk_ret Kblk_self Kblk_ne Kblk_go Kblk_pan Kloop_ret Kloop_ex Kloop_go Kloop_pan KseqS_norm KseqS_ret KseqS_ex KseqS_pan Kend_norm Kend_ret Kend_ex KscS_norm KscS_ret KscS_ex KscS_go Wr_nil Wr_g Wg_11 Wg_00 Wg_10 Wg_01 Wg_skip Wr_call Wr_callv Wr_inv Winv_if Winv2_some Wr_panic Wr_isnil Wr_op Ev_some Wcv_fn Wd_callv Wd_inv Wdcv_fn Wdinv_if Wdinv2_some ifV_agg ifV_int Wnil_some Wpan_if Wcond_t Wcond_f Wd_nil Wd_g Wd_call Wd_op Wdg_11 Wdg_00 Wdg_10 Wdg_01 Wdg_skip Evd_some step_some step_none val_t val_c get_mk obf_mk rdl_nil rdl_cons aget_cons aget_nil
attribute [local go_sem] pl_mv pl_pick pl_box pl_build pl_bsl pl_ld pl_st pl_nilc pl_bin pl_eqb pl_eq pl_eqn pl_un pl_cvi pl_cvs pl_s2b pl_b2s pl_mki pl_mkf pl_mks pl_sl pl_sls pl_fa pl_fld pl_ia pl_iaA pl_ix pl_ixs pl_ta pl_ex pl_len pl_lens pl_mn pl_mx pl_app pl_apps ev aset adel upd Option.getD_some passAll passV List.append_nil reduceIte Nat.reduceEqDiff decide_eq_true_eq Bool.false_eq_true Bool.true_eq_false reduceCtorEq Nat.reduceAdd updf V.sliceOf placeD placeV V.toDs V.toD1 V.cells List.map_cons List.map_nil Nat.mul_one Nat.zero_mul List.length_nil List.length_cons Nat.zero_add List.nil_append true_and and_true and_self Nat.zero_lt_one if_true if_false Nat.reduceLT Nat.reduceLeDiff Nat.reduceMul splice List.take_zero List.drop_zero List.drop_nil Bool.not_true Bool.not_false bne_self_eq_false Bool.bne_true Bool.bne_false Bool.false_bne Bool.true_bne List.cons_append eq_self Option.map_some Option.map_none boundO bound b_and b_or b_add b_sub b_mul b_rem b_eql b_neq b_lss b_leq b_gtr b_geq b_seql b_sneq b_shr8 b_shl8 decide_true decide_false IOp.xs List.flatMap_cons List.flatMap_nil V.ids V.ids1 V.ids0
attribute [local go_sem] Vk.RetB resVs resV outOf Vk.init recvs recvV recv enumFrom
attribute [local go_sem] bs_length NDs_length VLDs_length bs_nil bs_cons bytesOf_bs
attribute [local go_sem] le_1 le_2 le_3 le_4 le_5 le_6 le_7 le_8 le_9 le_10 le_11 le_12 le_o0 ck_bool ck_int ck_str ck_slice ck_ni ck_if ck_nils ck_own nat_nn Int.cast_ofNat_Int datas V.data? eqCells eqD Bool.true_and Bool.false_and List.all_cons List.all_nil Bool.and_true Bool.and_self List.take_succ_cons List.drop_succ_cons List.getElem?_cons_zero List.getElem?_cons_succ Int.toNat_natCast Nat.add_zero Nat.sub_zero
attribute [local go_sem] Int.reduceBEq Int.reduceBNe Int.reduceLT Int.reduceLE Int.reduceGT Int.reduceGE Int.reduceEq Int.reduceNe Int.reduceAdd Int.reduceSub Int.reduceMul Int.reduceToNat beq_self_eq_true bne_self_eq_false Nat.reduceBEq Nat.reduceSub ge_iff_le gt_iff_lt
theorem tmod_adj (n m : Int) (hm : 0 < m) : (n.tmod m < 0 → n.tmod m + m = n % m) ∧ (¬ n.tmod m < 0 → n.tmod m = n % m) := by
  have e := Int.mul_tdiv_add_tmod n m
  have h1 := Int.tmod_lt_of_pos n hm
  have h2 := Int.lt_tmod_of_pos n hm
  have h3 : n % m = (n.tmod m) % m := by
    have := Int.add_mul_emod_self_left (n.tmod m) m (n.tdiv m)
    rw [Int.add_comm, e] at this
    exact this
  refine ⟨fun h => ?_, fun h => ?_⟩
  · rw [h3, ← Int.add_emod_right, Int.emod_eq_of_lt (by omega) (by omega)]
  · rw [h3, Int.emod_eq_of_lt (by omega) (by omega)]
theorem tcWithin13 (n m : Int) (hm : 0 < m ∧ m ≤ 4611686018427387904) : TC Try.prog 32 [iv n, iv m] (iv (n % m)) := by
  refine tcW Try.func32 k32 h32 (by simp [c32]) (by simp) [] ?_
  have h0 : ¬ m = 0 := by omega
  obtain ⟨h1, h2⟩ := tmod_adj n m hm.1
  have h3 := Int.tmod_lt_of_pos n hm.1
  have h4 := Int.lt_tmod_of_pos n hm.1
  simp only [go_sem, c32, h0]
  by_cases h : n.tmod m < 0
  · have : w64 (n.tmod m + m) = n % m := by rw [w64_of (by omega), h1 h]
    simp only [go_sem, h, this]
  · simp only [go_sem, h]
    simp only [go_sem, h2 h]
theorem tcWithin14 (n m : Int) (hm : 0 < m ∧ m ≤ 4611686018427387904) : TC Try.prog 39 [iv n, iv m] (iv (n % m)) := by
  refine tcW Try.func39 k39 h39 (by simp [c39]) (by simp) [] ?_
  have h0 : ¬ m = 0 := by omega
  obtain ⟨h1, h2⟩ := tmod_adj n m hm.1
  have h3 := Int.tmod_lt_of_pos n hm.1
  have h4 := Int.lt_tmod_of_pos n hm.1
  simp only [go_sem, c39, h0]
  by_cases h : n.tmod m < 0
  · have : w64 (n.tmod m + m) = n % m := by rw [w64_of (by omega), h1 h]
    simp only [go_sem, h, this]
  · simp only [go_sem, h]
    simp only [go_sem, h2 h]
theorem tcIn (n a b : Int) : TC Try.prog 60 [iv n, iv a, iv b] (tv (decide (a ≤ n) && decide (n ≤ b))) := by
  refine tcW Try.func60 k60 h60 (by simp [c60]) (by simp) [] ?_
  simp only [go_sem, c60]
  repeat' (first
    | (refine Wg_split (fun h => ?_) (fun h => ?_) <;> (try simp only [go_sem, h]))
    | (refine Wcond_split (fun h => ?_) (fun h => ?_) <;> (try simp only [go_sem, h]))
    | (refine Wdg_split (fun h => ?_) (fun h => ?_) <;> (try simp only [go_sem, h]))
    | (refine Ev_ite (by omega) ?_; (try simp only [go_sem]))
    | (refine Evd_ite (by omega) ?_; (try simp only [go_sem])))
  all_goals simp [*]
theorem tcBetween12 (n a b : Int) : TC Try.prog 54 [iv n, iv a, iv b] (tv (decide (a ≤ n) && decide (n ≤ b))) := by
  refine tcW Try.func54 k54 h54 (by simp [c54]) (by simp) [] ?_
  simp only [go_sem, c54]
  repeat' (first
    | (refine Wg_split (fun h => ?_) (fun h => ?_) <;> (try simp only [go_sem, h]))
    | (refine Wcond_split (fun h => ?_) (fun h => ?_) <;> (try simp only [go_sem, h]))
    | (refine Wdg_split (fun h => ?_) (fun h => ?_) <;> (try simp only [go_sem, h]))
    | (refine Ev_ite (by omega) ?_; (try simp only [go_sem]))
    | (refine Evd_ite (by omega) ?_; (try simp only [go_sem])))
  all_goals simp [*]
theorem tcBetween11 (n a b : Int) : TC Try.prog 65 [iv n, iv a, iv b] (tv (decide (a ≤ n) && decide (n ≤ b))) := by
  refine tcW Try.func65 k65 h65 (by simp [c65]) (by simp) [] ?_
  simp only [go_sem, c65]
  repeat' (first
    | (refine Wg_split (fun h => ?_) (fun h => ?_) <;> (try simp only [go_sem, h]))
    | (refine Wcond_split (fun h => ?_) (fun h => ?_) <;> (try simp only [go_sem, h]))
    | (refine Wdg_split (fun h => ?_) (fun h => ?_) <;> (try simp only [go_sem, h]))
    | (refine Ev_ite (by omega) ?_; (try simp only [go_sem]))
    | (refine Evd_ite (by omega) ?_; (try simp only [go_sem])))
  all_goals simp [*]
theorem tcTruth (b : Bool) : TC Try.prog 49 [tv b] (va ⟨1, if b then 1 else 0, [], 0, 0, 0⟩) := by
  refine tcW Try.func49 k49 h49 (by simp [c49]) (by simp) [] ?_
  cases b <;> simp only [go_sem, c49, placeV, va]
def valsF (w : Int) : List VL := if w.tmod 3 = 0 then [⟨1, 0, [], 0, 0, 0⟩] else if w.tmod 3 = 1 then [⟨1, 1, [], 0, 0, 0⟩, ⟨2, 5, [], 0, 0, 0⟩] else [⟨4, 0, [120], 0, 0, 0⟩]
theorem tcValues (w : Int) : TC Try.prog 34 [iv w] (vls (valsF w)) := by
  refine tcW Try.func34 k34 h34 (by simp [c34]) (by simp) [] ?_
  simp only [go_sem, c34]
  by_cases h0 : w.tmod 3 = 0
  · simp only [go_sem, h0]
    refine Wcall_some (tcTruth _) ?_
    simp only [go_sem, va]
    simp [valsF, h0, vls, VLDs, VLD]
  · by_cases h1 : w.tmod 3 = 1
    · simp only [go_sem, h1]
      refine Wcall_some (tcTruth _) ?_
      simp only [go_sem, va, placeV]
      simp [valsF, h1, vls, VLDs, VLD]
    · have e0 : (w.tmod 3 == 0) = false := by simpa using h0
      have e1 : (w.tmod 3 == 1) = false := by simpa using h1
      simp only [go_sem, e0, e1, placeV]
      simp [valsF, h0, h1, vls, VLDs, VLD]
theorem tcStamp (w s : Int) : TC Try.prog 35 [.agg [iv w, iv s]] (.agg [iv (band s 4294967295), iv 0, iv 0]) := by
  refine tcW Try.func35 k35 h35 (by simp [c35]) (by simp) [] ?_
  simp only [go_sem, c35, placeV]
theorem tcStamp12 (a b c : Int) : TC Try.prog 53 [.agg [iv a, iv b, iv c]] (.agg [iv a, iv b, iv c]) := by
  refine tcW Try.func53 k53 h53 (by simp [c53]) (by simp) [] ?_
  simp only [go_sem, c53, placeV]
theorem tcTo11 (v : VL) : TC Try.prog 57 [va v] (va v) := by
  refine tcW Try.func57 k57 h57 (by simp [c57]) (by simp) [] ?_
  simp only [go_sem, c57, placeV, va]
theorem tcAll (L : List VL) (hM : L.length ≤ 1099511627776) : TC Try.prog 29 [vls L] (vls L) := by
  refine tcW Try.func29 k29 h29 (by simp [c29]) (by simp) [] ?_
  simp only [go_sem, c29, vls]
  refine W_loop 88 [.keep 0, .own 3 false 98 6, .keep 4] (fun m st => ∃ pre rest, L = pre ++ rest ∧ m = rest.length ∧ st = ⟨[(0, vls L), (3, .own 91 pre.length), (4, iv pre.length)], [(91, .vec false 98 6 pre.length (VLDs pre))], 2136⟩) (by omega) L.length _ (by simp [norm, normGo, boxesBelow, ownIds, adelAll, V.under, St.get, St.obf, aget, adel, VLDs, vls]) ⟨[], L, rfl, rfl, rfl⟩ ?_
  rintro m st ⟨pre, rest, hL, rfl, rfl⟩
  cases rest with
  | nil =>
    have hL' : L = pre := by simpa using hL
    have hn : ¬ ((pre.length : Int) < (pre.length : Int)) := by omega
    rw [hL']
    simp only [go_sem, hn, vls]
  | cons x rest =>
    obtain ⟨c2, c3, hdrop, hpl⟩ := at_val hL
    have w5 : w64 ((pre.length : Int) + 1) = pre.length + 1 := w64_of (by omega)
    simp only [go_sem, c2, c3, hdrop, vls]
    refine Wcall_at (tcTo11 x) (by rfl) ?_
    have r1 : (pre.length + 1) * 56 ≤ roomB := by unfold roomB; omega
    simp only [go_sem, va, r1, w5, Kloop_norm]
    refine ⟨rest.length, _, by omega, (by simp [norm, normGo, boxesBelow, ownIds, adelAll, V.under, St.get, St.obf, aget, adel]; rfl), pre ++ [x], rest, by simp [hL], rfl, by simp [vls, VLDs, VLD]⟩
def largeL (L : List VL) : Bool := decide (60 < L.length) || L.any fun v => decide (200 < v.s.length)
theorem tcLarge (L : List VL) : TC Try.prog 25 [vls L] (tv (largeL L)) := by
  refine tcW Try.func25 k25 h25 (by simp [c25]) (by simp) [] ?_
  simp only [go_sem, c25, vls]
  by_cases h60 : (60 : Int) < L.length
  · have : 60 < L.length := by omega
    simp only [go_sem, h60]
    simp [largeL, this]
  have h60' : ¬ 60 < L.length := by omega
  simp only [go_sem, h60]
  refine W_loop 88 [.keep 0, .keep 3] (fun m st => ∃ pre rest, L = pre ++ rest ∧ m = rest.length ∧ largeL L = rest.any (fun v => decide (200 < v.s.length)) ∧ st = ⟨[(0, vls L), (3, iv pre.length)], [], 2136⟩) (by omega) L.length _ rfl ⟨[], L, rfl, rfl, by simp [largeL, h60'], rfl⟩ ?_
  rintro m st ⟨pre, rest, hL, rfl, hl, rfl⟩
  cases rest with
  | nil =>
    have hn : ¬ ((pre.length : Int) < (L.length : Int)) := by subst hL; simp
    simp only [go_sem, hn, vls]
    rw [hl]; rfl
  | cons x rest =>
    obtain ⟨c2, c3, hdrop, hpl⟩ := at_val hL
    have w5 : w64 ((pre.length : Int) + 1) = pre.length + 1 := w64_of (by omega)
    simp only [go_sem, c2, c3, hdrop, vls]
    by_cases h2 : (200 : Int) < x.s.length
    · have h3 : 200 < x.s.length := by omega
      simp only [go_sem, h2]
      rw [hl]; simp [h3]
    · have h3 : ¬ 200 < x.s.length := by omega
      simp only [go_sem, h2, w5, Kloop_norm]
      exact ⟨rest.length, _, by omega, (by simp [norm, normGo, boxesBelow, ownIds, adelAll, V.under, St.get, St.obf, aget, adel]; rfl), pre ++ [x], rest, by simp [hL], rfl, by rw [hl, List.any_cons, decide_eq_false h3, Bool.false_or], by simp [vls]⟩
end Go.Proofs.Ytokbcminleemaaa.Vc
