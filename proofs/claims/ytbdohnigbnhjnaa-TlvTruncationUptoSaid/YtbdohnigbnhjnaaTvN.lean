/- Decoding: contracts; laws of nodes. -/
import Derived.Test.YtbdohnigbnhjnaaTvM
import Derived.Test.YtbdohnigbnhjnaaTvG
import Derived.Test.YtbdohnigbnhjnaaTvH
import Derived.Test.YtbdohnigbnhjnaaTvI
set_option linter.unusedSimpArgs false
set_option linter.unusedVariables false
set_option linter.unusedSectionVars false
namespace Go.Proofs.Ytbdohnigbnhjnaa.Vc
open Go Go.Vk Go.Tv Go.Proofs
set_option maxRecDepth 100000
set_option maxHeartbeats 4000000
attribute [local go_sem ↓] W_skip W_reg W_draw W_seq W_cond W_block W_exit W_label W_goto W_ret Kseq_norm Kseq_ret Kseq_ex Kseq_go Kseq_pan Kblk_norm Kblk_ret Kblk_self Kblk_ne Kblk_go Kblk_pan Kloop_ret Kloop_ex Kloop_go Kloop_pan KseqS_norm KseqS_ret KseqS_ex KseqS_pan Kend_norm Kend_ret Kend_ex KscS_norm KscS_ret KscS_ex KscS_go KscB_norm KscB_ret KscB_ex KscB_pan Wr_nil Wr_g Wg_11 Wg_00 Wg_10 Wg_01 Wg_skip Wr_call Wr_callv Wr_inv Winv_if Winv2_some Wr_panic Wr_isnil Wr_op Ev_some Wcv_fn Wd_callv Wd_inv Wdcv_fn Wdinv_if Wdinv2_some ifV_agg ifV_int Wnil_some Wpan_if Wcond_t Wcond_f Wd_nil Wd_g Wd_call Wd_op Wdg_11 Wdg_00 Wdg_10 Wdg_01 Wdg_skip Evd_some step_some step_none val_t val_c get_mk obf_mk rdl_nil rdl_cons aget_cons aget_nil
attribute [local go_sem] pl_mv pl_pick pl_box pl_build pl_bsl pl_ld pl_st pl_nilc pl_bin pl_eqb pl_eq pl_eqn pl_un pl_cvi pl_cvs pl_s2b pl_b2s pl_mki pl_mkf pl_mks pl_sl pl_sls pl_fa pl_fld pl_ia pl_iaA pl_ix pl_ixs pl_ta pl_ex pl_len pl_lens pl_mn pl_mx pl_app pl_apps ev aset adel upd Option.getD_some passAll passV List.append_nil reduceIte Nat.reduceEqDiff decide_eq_true_eq Bool.false_eq_true Bool.true_eq_false reduceCtorEq Nat.reduceAdd updf V.sliceOf placeD placeV V.toDs V.toD1 V.cells List.map_cons List.map_nil Nat.mul_one Nat.zero_mul List.length_nil List.length_cons Nat.zero_add List.nil_append true_and and_true and_self Nat.zero_lt_one if_true if_false Nat.reduceLT Nat.reduceLeDiff Nat.reduceMul splice List.take_zero List.drop_zero List.drop_nil Bool.not_true Bool.not_false bne_self_eq_false Bool.bne_true Bool.bne_false Bool.false_bne Bool.true_bne List.cons_append eq_self Option.map_some Option.map_none boundO bound b_and b_or b_add b_sub b_mul b_rem b_eql b_neq b_lss b_leq b_gtr b_geq b_seql b_sneq b_sadd b_shr8 b_shl8 decide_true decide_false IOp.xs List.flatMap_cons List.flatMap_nil V.ids V.ids1 V.ids0
attribute [local go_sem] Vk.RetB resVs resV outOf Vk.init recvs recvV recv enumFrom
attribute [local go_sem] bs_length NDs_length VLDs_length bs_nil bs_cons bytesOf_bs
attribute [local go_sem] le_1 le_2 le_3 le_4 le_5 le_6 le_7 le_8 le_9 le_10 le_11 le_12 le_o0 ck_bool ck_int ck_str ck_slice ck_ni ck_if ck_nils ck_own nat_nn Int.cast_ofNat_Int datas V.data? eqCells eqD Bool.true_and Bool.false_and List.all_cons List.all_nil Bool.and_true Bool.and_self List.take_succ_cons List.drop_succ_cons List.getElem?_cons_zero List.getElem?_cons_succ Int.toNat_natCast Nat.add_zero Nat.sub_zero
attribute [local go_sem] Int.reduceBEq Int.reduceBNe Int.reduceLT Int.reduceLE Int.reduceGT Int.reduceGE Int.reduceEq Int.reduceNe Int.reduceAdd Int.reduceSub Int.reduceMul Int.reduceToNat beq_self_eq_true bne_self_eq_false Nat.reduceBEq Nat.reduceSub ge_iff_le gt_iff_lt
def decF (b : List UInt8) : List TN × Int := if b.length > 1500 then ([], 4) else Tv.decode b 0
theorem tcDecode (b : List UInt8) : TC Try.prog 20 [bv b] (.tup [ns (decF b).1, iv (decF b).2]) := by
  refine tcW Try.func20 k20 h20 (by simp [c20]) (by simp) [] ?_
  by_cases hb : b.length > 1500
  · have e : (1500 : Int) < b.length := by omega
    simp only [go_sem, c20, bv, e, decF, if_pos hb, ns]
    rfl
  · have e : ¬ (1500 : Int) < b.length := by omega
    simp only [go_sem, c20, bv, e, decF, if_neg hb]
    refine Wcall_at (tcList 1501 b 0 (by omega) (by omega) (by omega)) (by rfl) ?_
    simp only [go_sem, ns]
theorem tcWithin10 (n m : Int) (hm : 0 < m ∧ m ≤ 4611686018427387904) : TC Try.prog 19 [iv n, iv m] (iv (n % m)) := by
  refine tcW Try.func19 k19 h19 (by simp [c19]) (by simp) [] ?_
  have h0 : ¬ m = 0 := by omega
  obtain ⟨h1, h2⟩ := tmod_adj n m hm.1
  have h3 := Int.tmod_lt_of_pos n hm.1
  have h4 := Int.lt_tmod_of_pos n hm.1
  simp only [go_sem, c19, h0]
  by_cases h : n.tmod m < 0
  · have : w64 (n.tmod m + m) = n % m := by rw [w64_of (by omega), h1 h]
    simp only [go_sem, h, this]
  · simp only [go_sem, h]
    simp only [go_sem, h2 h]
theorem encode_ok {L : List TN} (h : (encode L).2 = 0) : chk L 0 = 0 ∧ szs L ≤ 1500 ∧ encode L = (encs L, 0) := by
  unfold encode at h ⊢
  by_cases hc : chk L 0 = 0
  · rw [if_pos hc] at h ⊢
    by_cases hs : szs L > 1500
    · rw [if_pos hs] at h; simp at h
    · rw [if_neg hs]; exact ⟨hc, by omega, rfl⟩
  · rw [if_neg hc] at h; exact absurd h hc
theorem encode_err {L : List TN} (h : (encode L).2 ≠ 0) : (encode L).1 = [] := by
  unfold encode at h ⊢
  by_cases hc : chk L 0 = 0
  · rw [if_pos hc] at h ⊢
    by_cases hs : szs L > 1500
    · rw [if_pos hs]
    · rw [if_neg hs] at h; exact absurd rfl h
  · rw [if_neg hc]
theorem decF_back {L : List TN} (hc : chk L 0 = 0) (hs : szs L ≤ 1500) : decF (encs L) = (L, 0) := by
  have := encs_length L
  unfold decF
  rw [if_neg (by omega), decode_back L hc (by omega)]
theorem tc10RoundTrip (L : List TN) (h : wts L < 1099511627776) : TC Try.prog 5 [ns L] (tv true) := by
  refine tcW Try.func5 k5 h5 (by simp [c5]) (by simp) [] ?_
  simp only [go_sem, c5, ns]
  refine Wcall_some tc14 ?_
  simp only [go_sem]
  refine Wcall_at (tc18 L h) (by rfl) ?_
  cases hl : largeB L
  rotate_left
  · simp only [go_sem]
  simp only [go_sem]
  refine Wcall_at (tc16 L h) (by rfl) ?_
  by_cases he : (encode L).2 = 0
  rotate_left
  · have he' : ((encode L).2 != 0) = true := by simpa using he
    simp only [go_sem, he', encode_err he, bv]
  obtain ⟨hc, hs, e⟩ := encode_ok he
  have hlen := encs_length L
  simp only [go_sem, e, bv]
  refine Wcall_at (tcDecode (encs L)) (by rfl) ?_
  rw [decF_back hc hs]
  simp only [go_sem, ns]
  refine Wcall_at (tc22 1099511627776 L h (by omega)) (by rfl) ?_
  simp only [go_sem, ns]
  refine Wcall_at (tc22 1099511627776 L h (by omega)) (by rfl) ?_
  simp only [go_sem, ns]
  refine Wcall_at (tc21 1099511627776 (by omega) L L h h) (by rfl) ?_
  simp only [go_sem, sameL_refl]
  refine Wcall_at (tc23 L h) (by rfl) ?_
  have e1 : (szs L == ((encs L).length : Int)) = true := by simp [hlen]
  have e2 : ((encs L).length : Int) ≤ 1500 := by omega
  simp only [go_sem, if_pos hc, e1, e2]
theorem tc10Concatenates (a b : List TN) (ha : wts a < 549755813888) (hb : wts b < 549755813888) : TC Try.prog 6 [ns a, ns b] (tv true) := by
  refine tcW Try.func6 k6 h6 (by simp [c6]) (by simp) [] ?_
  simp only [go_sem, c6, ns]
  refine Wcall_some tc14 ?_
  simp only [go_sem]
  refine Wcall_at (tc18 a (by omega)) (by rfl) ?_
  cases hl : largeB a
  rotate_left
  · simp only [go_sem]
  simp only [go_sem]
  refine Wcall_at (tc18 b (by omega)) (by rfl) ?_
  cases hl2 : largeB b
  rotate_left
  · simp only [go_sem]
  simp only [go_sem]
  refine Wcall_at (tc16 a (by omega)) (by rfl) ?_
  simp only [go_sem, bv]
  refine Wcall_at (tc16 b (by omega)) (by rfl) ?_
  by_cases he : (encode a).2 = 0
  rotate_left
  · have he' : ((encode a).2 != 0) = true := by simpa using he
    simp only [go_sem, he', bv]
  by_cases he2 : (encode b).2 = 0
  rotate_left
  · have he' : ((encode b).2 != 0) = true := by simpa using he2
    simp only [go_sem, he, he', bv]
  obtain ⟨hc, hs, e⟩ := encode_ok he
  obtain ⟨hc2, hs2, e2⟩ := encode_ok he2
  have l1 := encs_length a
  have l2 := encs_length b
  have w1 : w64 ((encs a).length + (encs b).length) = (encs a).length + (encs b).length := w64_of (by omega)
  by_cases hsum : (1500 : Int) < (encs a).length + (encs b).length
  · simp only [go_sem, e, e2, bv, w1, hsum]
  have l3 := encs_length (a ++ b)
  have lc : (encs (a ++ b)).length = (encs a).length + (encs b).length := by rw [encs_append, List.length_append]
  have wa := wts_append a b
  have wl := wts_length a
  have wl2 := wts_length b
  have r1 : a.length * 56 ≤ roomB := by unfold roomB; omega
  have r2 : (a.length + b.length) * 56 ≤ roomB := by unfold roomB; omega
  have hcc : chk (a ++ b) 0 = 0 := by
    have : ∀ (a : List TN), chk a 0 = 0 → chk (a ++ b) 0 = 0 := by
      intro a
      induction a with
      | nil => intro _; simpa using hc2
      | cons x r ih =>
        intro h
        simp only [chk] at h
        split at h
        · rename_i h1
          simp only [List.cons_append, chk]
          rw [if_pos h1]; exact ih h
        · rename_i h1; exact absurd h h1
    exact this a hc
  have enc2 : encode (a ++ b) = (encs (a ++ b), 0) := by
    unfold encode
    rw [if_pos hcc, if_neg (by omega)]
  simp only [go_sem, e, e2, bv, w1, hsum, r1, r2]
  refine Wcall_at (tc16 (a ++ b) (by omega)) (by simp [ns]) ?_
  rw [enc2]
  have r3 : (encs a).length ≤ roomB := by unfold roomB; omega
  have r4 : (encs a).length + (encs b).length ≤ roomB := by unfold roomB; omega
  simp only [go_sem, bv, r3, r4]
  refine Wcall_at (tcDecode (encs (a ++ b))) (by simp [bv, encs_append]) ?_
  rw [decF_back hcc (by omega)]
  have e9 : (encs (a ++ b) == encs a ++ encs b) = true := by simp [encs_append]
  have r5 : (encs a).length + (encs b).length ≤ 9223372036854775807 := by omega
  simp only [go_sem, ns, e9, r5]
  refine Wcall_at (tcSame 1099511627776 (by omega) (a ++ b) (a ++ b) (by omega) (by omega)) (by simp [ns]) ?_
  simp only [go_sem, sameL_refl]
theorem tc10Truncation (x : TN) (cut : Int) (h : wt x < 1000000000) : TC Try.prog 4 [.agg ((ND x).map .d), iv cut] (tv true) := by
  have hw : wts [x] < 1099511627776 := by simp [wts]; omega
  obtain ⟨nd, hnd⟩ : ∃ nd, nd = ND x := ⟨_, rfl⟩
  have hns : V.d (.slice 1 nd) = ns [x] := by rw [hnd]; simp [ns, NDs]
  obtain ⟨t, v, p⟩ := x
  simp only [ND] at hnd
  refine tcW Try.func4 k4 h4 (by simp [c4]) (by simp) [] ?_
  simp only [go_sem, c4, ND]
  refine Wcall_some tc14 ?_
  simp only [go_sem]
  rw [hnd] at hns
  refine Wcall_at (tc18 [.mk t v p] hw) (by rw [hns]) ?_
  cases hl : largeB [.mk t v p]
  rotate_left
  · simp only [go_sem]
  simp only [go_sem]
  refine Wcall_at (tc16 [.mk t v p] hw) (by rw [hns]) ?_
  by_cases he : (encode [.mk t v p]).2 = 0
  rotate_left
  · have he' : ((encode [.mk t v p]).2 != 0) = true := by simpa using he
    simp only [go_sem, he', bv]
  obtain ⟨hc, hs, e⟩ := encode_ok he
  have l1 := encs_length [.mk t v p]
  have hen : encs [.mk t v p] = enc (.mk t v p) := by simp [encs]
  have hc1 : chk1 (.mk t v p) 0 = 0 := by
    simp only [chk] at hc
    split at hc
    · assumption
    · assumption
  have hbod : bod (.mk t v p) < 65536 := by
    have := enc_length (.mk t v p)
    have := headF_le (bod (.mk t v p))
    rw [hen] at l1
    omega
  obtain ⟨b, hb⟩ : ∃ b, b = encs [.mk t v p] := ⟨_, rfl⟩
  rw [← hb] at l1 hen e
  simp only [go_sem, e, bv]
  by_cases h2 : (b.length : Int) < 2
  · simp only [go_sem, h2]
  by_cases h3 : (1500 : Int) ≤ b.length
  · simp only [go_sem, h2, h3]
  have w1 : w64 ((b.length : Int) - 1) = b.length - 1 := w64_of (by omega)
  have m1 : 0 ≤ cut % ((b.length : Int) - 1) := Int.emod_nonneg _ (by omega)
  have m2 : cut % ((b.length : Int) - 1) < (b.length : Int) - 1 := Int.emod_lt_of_pos _ (by omega)
  obtain ⟨c, hcq⟩ : ∃ c : Nat, cut % ((b.length : Int) - 1) = c := ⟨(cut % ((b.length : Int) - 1)).toNat, by omega⟩
  have w2 : w64 (1 + (c : Int)) = ((c + 1 : Nat) : Int) := by rw [w64_of (by omega)]; omega
  simp only [go_sem, h2, h3, w1]
  refine Wcall_at (tcWithin10 cut ((b.length : Int) - 1) (by omega)) (by rfl) ?_
  have n1 : ((c + 1 : Nat) : Int) ≤ (b.length : Int) := by omega
  simp only [go_sem, hcq, w2, n1, bs_take]
  refine Wcall_at (tcDecode (b.take (c + 1))) (by rw [bv, List.length_take, Nat.min_eq_left (by omega)]) ?_
  have d1 : decF (b.take (c + 1)) = ([], 13) := by
    unfold decF
    rw [if_neg (by rw [List.length_take]; omega), hen, decode_cut _ 0 hc1 hbod (c + 1) (by omega) (by rw [← hen]; omega)]
  have r1 : b.length ≤ roomB := by unfold roomB; omega
  have r2 : b.length + 1 ≤ roomB := by unfold roomB; omega
  rw [d1]
  simp only [go_sem, ns, r1, r2, wr8]
  refine Wcall_at (tcDecode (b ++ [u8 ((c + 1 : Nat) : Int)])) (by simp [bv, bs, byteD]) ?_
  have d2 : (decF (b ++ [u8 ((c + 1 : Nat) : Int)])).2 ≠ 0 := by
    unfold decF
    rw [if_neg (by rw [List.length_append]; simp; omega), hen]
    exact decode_more _ 0 hc1 hbod (by omega) _
  have d3 : ((decF (b ++ [u8 ((c + 1 : Nat) : Int)])).2 != 0) = true := by simpa using d2
  simp only [go_sem, ns, d3]
end Go.Proofs.Ytbdohnigbnhjnaa.Vc
