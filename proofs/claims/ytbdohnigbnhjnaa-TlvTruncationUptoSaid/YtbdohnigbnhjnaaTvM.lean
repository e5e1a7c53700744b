/- Decoding: contracts. -/
import Derived.Test.YtbdohnigbnhjnaaTvK
import Derived.KernelRfl
set_option linter.unusedSimpArgs false
set_option linter.unusedVariables false
set_option linter.unusedSectionVars false
namespace Go.Proofs.Ytbdohnigbnhjnaa.Vc
open Go Go.Vk Go.Tv Go.Proofs
set_option maxRecDepth 100000
set_option maxHeartbeats 4000000
attribute [local go_sem ↓] W_skip W_reg W_draw W_seq W_cond W_block W_exit W_label W_goto W_ret Kseq_norm Kseq_ret Kseq_ex Kseq_go Kseq_pan Kblk_norm Kblk_ret Kblk_self Kblk_ne Kblk_go Kblk_pan Kloop_ret Kloop_ex Kloop_go Kloop_pan KseqS_norm KseqS_ret KseqS_ex KseqS_pan Kend_norm Kend_ret Kend_ex KscS_norm KscS_ret KscS_ex KscS_go KscB_norm KscB_ret KscB_ex KscB_pan Wr_nil Wr_g Wg_11 Wg_00 Wg_10 Wg_01 Wg_skip Wr_call Wr_callv Wr_inv Winv_if Winv2_some Wr_panic Wr_isnil Wr_op Ev_some Wcv_fn Wd_callv Wd_inv Wdcv_fn Wdinv_if Wdinv2_some ifV_agg ifV_int Wnil_some Wpan_if Wcond_t Wcond_f Wd_nil Wd_g Wd_call Wd_op Wdg_11 Wdg_00 Wdg_10 Wdg_01 Wdg_skip Evd_some step_some step_none val_t val_c get_mk obf_mk rdl_nil rdl_cons aget_cons aget_nil
attribute [local go_sem] pl_mv pl_pick pl_box pl_build pl_bsl pl_ld pl_st pl_nilc pl_bin pl_eqb pl_eq pl_eqn pl_un pl_cvi pl_cvs pl_s2b pl_b2s pl_mki pl_mkf pl_mks pl_sl pl_sls pl_fa pl_fld pl_ia pl_iaA pl_ix pl_ixs pl_ta pl_ex pl_len pl_lens pl_mn pl_mx pl_app pl_apps ev aset adel upd Option.getD_some passAll passV List.append_nil reduceIte Nat.reduceEqDiff decide_eq_true_eq Bool.false_eq_true Bool.true_eq_false reduceCtorEq Nat.reduceAdd updf V.sliceOf placeD placeV V.toDs V.toD1 V.cells List.map_cons List.map_nil Nat.mul_one Nat.zero_mul List.length_nil List.length_cons Nat.zero_add List.nil_append true_and and_true and_self Nat.zero_lt_one if_true if_false Nat.reduceLT Nat.reduceLeDiff Nat.reduceMul splice List.take_zero List.drop_zero List.drop_nil Bool.not_true Bool.not_false bne_self_eq_false Bool.bne_true Bool.bne_false Bool.false_bne Bool.true_bne List.cons_append eq_self Option.map_some Option.map_none boundO bound b_and b_or b_add b_sub b_mul b_rem b_eql b_neq b_lss b_leq b_gtr b_geq b_seql b_sneq b_shr8 b_shl8 decide_true decide_false IOp.xs List.flatMap_cons List.flatMap_nil V.ids V.ids1 V.ids0
attribute [local go_sem] Vk.RetB resVs resV outOf Vk.init recvs recvV recv enumFrom
attribute [local go_sem] bs_length NDs_length VLDs_length bs_nil bs_cons bytesOf_bs
attribute [local go_sem] le_1 le_2 le_3 le_4 le_5 le_6 le_7 le_8 le_9 le_10 le_11 le_12 le_o0 ck_bool ck_int ck_str ck_slice ck_ni ck_if ck_nils ck_own nat_nn Int.cast_ofNat_Int datas V.data? eqCells eqD Bool.true_and Bool.false_and List.all_cons List.all_nil Bool.and_true Bool.and_self List.take_succ_cons List.drop_succ_cons List.getElem?_cons_zero List.getElem?_cons_succ Int.toNat_natCast Nat.add_zero Nat.sub_zero
attribute [local go_sem] Int.reduceBEq Int.reduceBNe Int.reduceLT Int.reduceLE Int.reduceGT Int.reduceGE Int.reduceEq Int.reduceNe Int.reduceAdd Int.reduceSub Int.reduceMul Int.reduceToNat beq_self_eq_true bne_self_eq_false Nat.reduceBEq Nat.reduceSub ge_iff_le gt_iff_lt
theorem lenF_rng (r : List UInt8) (h : (lenF r).2.2 = 0) : ∃ k n : Nat, (lenF r).2.1 = k ∧ (lenF r).1 = n ∧ 1 ≤ k ∧ k ≤ 3 ∧ k ≤ r.length ∧ n < 65536 := by
  obtain ⟨h1, h2, h3, h4⟩ := lenF_ok r h
  have h5 := headF_le (lenF r).1
  have h6 := hdB_len (lenF r).1
  have h7 := congrArg List.length h4
  rw [List.length_append, h6, List.length_drop] at h7
  exact ⟨(lenF r).2.1.toNat, (lenF r).1.toNat, by omega, by omega, by omega, by omega, by omega, by omega⟩
theorem decode_self (b : List UInt8) (d : Int) : Tv.decode b d = (if (Tv.decode b d).2 ≠ 0 then ([], (Tv.decode b d).2) else ([] ++ (Tv.decode b d).1, 0)) := by
  split
  · rename_i h
    exact Prod.ext (Tv.decode_err b d h) rfl
  · rename_i h
    exact Prod.ext rfl (by simpa using h)
theorem tcList : ∀ (N : Nat) (b : List UInt8) (d : Int), b.length < N → N ≤ 100000 → 0 ≤ d ∧ d ≤ 7 → TC Try.prog 48 [bv b, iv d] (.tup [ns (Tv.decode b d).1, iv (Tv.decode b d).2]) := by
  intro N
  induction N with
  | zero => intro b d h; omega
  | succ N ih =>
  intro b d hb hN hd
  refine tcSI Try.func48 k48 h48 (by simp [c48]) (by simp) [] ?_
  simp only [go_sem, c48, bv]
  refine SI_seqW ?_
  simp only [go_sem]
  refine SI_scopeB 0 88 [.keep 0, .keep 1, .own 6 false 26 3] (fun m st => ∃ acc b', Tv.decode b d = (if (Tv.decode b' d).2 ≠ 0 then ([], (Tv.decode b' d).2) else (acc ++ (Tv.decode b' d).1, 0)) ∧ m = b'.length ∧ acc.length + b'.length ≤ b.length ∧
    st = ⟨[(0, bv b'), (1, iv d), (6, .own 94 acc.length)], [(94, .vec false 26 3 acc.length (NDs acc))], 2136⟩) (by omega) rfl ?_ ?_
  · simp only [go_sem, KscA_norm]
    exact ⟨b.length, _, (by simp [norm, normGo, boxesBelow, ownIds, adelAll, V.under, St.get, St.obf, aget, adel, NDs, bv]), [], b, decode_self b d, rfl, by simp, rfl⟩
  rintro m st ⟨acc, b', hdec, rfl, hlen, rfl⟩
  cases b' with
  | nil =>
    have e : Tv.decode b d = (acc, 0) := by rw [hdec, Tv.decode_nil]; simp
    simp only [go_sem, e, bv, ns]
  | cons b0 r =>
    simp only [List.length_cons] at hlen
    have n1 : (((r.length + 1 : Nat) : Int) == 0) = false := by simp; omega
    have n5 : 0 < r.length + 1 := by omega
    have n4 : (0 : Int) < ((r.length + 1 : Nat) : Int) := by omega
    have herr : ∀ x : Int, x ≠ 0 → (Tv.decode (b0 :: r) d).2 = x → Tv.decode b d = ([], x) := by
      intro x hx h
      rw [hdec, h, if_pos hx]
    simp only [go_sem, bv, byteD, n1, n4, n5, wu8]
    refine Wcall_at (tc62 b0.toNat) (by rfl) ?_
    cases ht : tagB b0.toNat
    · have e := herr 15 (by decide) (by rw [Tv.decode_cons, if_pos ht])
      simp only [go_sem, e, ns]
      rfl
    by_cases hd6 : d > 6
    · have e := herr 17 (by decide) (by rw [Tv.decode_cons, if_neg (by simp [ht]), if_pos hd6])
      have hd6' : (6 : Int) < d := hd6
      simp only [go_sem, hd6', e, ns]
      rfl
    have hd6' : ¬ (6 : Int) < d := hd6
    have n6 : (1 : Int) ≤ ((r.length + 1 : Nat) : Int) := by omega
    have tk : (bs r).take r.length = bs r := by rw [List.take_of_length_le (by rw [bs_length]; omega)]
    simp only [go_sem, hd6', n6, tk]
    refine Wcall_at (tcLength r (by omega)) (by simp [bv, tk]) ?_
    by_cases hz : (lenF r).2.2 = 0
    rotate_left
    · have e := herr _ hz (by rw [Tv.decode_cons, if_neg (by simp [ht]), if_neg hd6, if_pos hz])
      have hz' : ((lenF r).2.2 != 0) = true := by simpa using hz
      simp only [go_sem, hz', e, ns]
      rfl
    obtain ⟨k, n, hk, hn, hk1, hk3, hkr, hn6⟩ := lenF_rng r hz
    have e41 : w64 (1 + (k : Int)) = ((k + 1 : Nat) : Int) := by rw [w64_of (by omega)]; omega
    have n7 : ((k + 1 : Nat) : Int) ≤ ((r.length + 1 : Nat) : Int) := by omega
    obtain ⟨r', hr'⟩ : ∃ r', r' = r.drop k := ⟨_, rfl⟩
    have hl' : r'.length = r.length - k := by rw [hr', List.length_drop]
    have e1 : r.length + 1 - (k + 1) = r'.length := by omega
    have e2 : (bs r).drop k = bs r' := by rw [bs_drop, ← hr']
    have e3 : (bs r').take r'.length = bs r' := List.take_of_length_le (by rw [bs_length]; omega)
    have hd1 : (r.drop (lenF r).2.1.toNat) = r' := by rw [hk, hr']; rfl
    have hd2 : (lenF r).1.toNat = n := by rw [hn]; rfl
    have hcons := Tv.decode_cons b0 r d
    rw [if_neg (by simp [ht]), if_neg hd6, if_neg (by simp [hz]), hd1, hd2, hn] at hcons
    by_cases hnl : r'.length < n
    · have e := herr 13 (by decide) (by rw [hcons, if_pos (by omega)])
      have hnl' : (r'.length : Int) < n := by omega
      simp only [go_sem, hz, hk, hn, e41, n7, e1, e2, e3, hnl', e, ns]
      rfl
    have hnl' : ¬ (r'.length : Int) < n := by omega
    rw [if_neg (by omega)] at hcons
    have n8 : (n : Int) ≤ (r'.length : Int) := by omega
    have e4 : (bs r').take n = bs (r'.take n) := by rw [bs_take]
    have e5 : (bs r').drop n = bs (r'.drop n) := by rw [bs_drop]
    have l4 : (r'.take n).length = n := by rw [List.length_take]; omega
    have l5 : (r'.drop n).length = r'.length - n := by rw [List.length_drop]
    obtain ⟨x, hx⟩ : ∃ x, x = r'.take n := ⟨_, rfl⟩
    obtain ⟨y, hy⟩ : ∃ y, y = r'.drop n := ⟨_, rfl⟩
    rw [← hx] at e4 l4 hcons
    rw [← hy] at e5 l5 hcons
    have l5' : r'.length - n = y.length := l5.symm
    have e6 : (bs y).take y.length = bs y := List.take_of_length_le (by rw [bs_length]; omega)
    have nn : (n : Int) ≤ (n : Int) := Int.le_refl _
    have wd : w64 (d + 1) = d + 1 := w64_of (by omega)
    cases hne : nestB b0.toNat
    · rw [if_neg (by simp [hne])] at hcons
      have rm : (acc.length + 1) * 56 ≤ roomB := by unfold roomB; omega
      have hcl := tc65 x (by omega)
      by_cases hn0 : n = 0
      · have hn0' : (n = 0) = True := eq_true hn0
        simp only [go_sem, hz, hk, hn, e41, n7, e1, e2, e3, e4, e5, hnl', n8, hn0', nn]
        refine Wcall_at (tc17 b0.toNat) (by rfl) ?_
        simp only [go_sem, hne]
        refine Wcall_at hcl (by have : x = [] := List.eq_nil_of_length_eq_zero (by omega)
                                subst this; rfl) ?_
        simp only [go_sem, bv, rm, n8, e5, l5', e6]
        refine ⟨by kernel_rfl, ?_⟩
        simp only [go_sem, KscB_go]
        refine ⟨y.length, _, by omega, (by simp [norm, normGo, boxesBelow, ownIds, adelAll, V.under, St.get, St.obf, aget, adel]; rfl), acc ++ [.mk b0.toNat x []], y, ?_, rfl, by simp; omega, ?_⟩
        · rw [hdec, hcons]
          by_cases hy0 : (Tv.decode y d).2 = 0 <;> simp [hy0]
        · simp [NDs, ND, bs]
      · have hn0' : (n = 0) = False := eq_false hn0
        simp only [go_sem, hz, hk, hn, e41, n7, e1, e2, e3, e4, e5, hnl', n8, hn0', nn]
        refine Wcall_at (tc17 b0.toNat) (by rfl) ?_
        simp only [go_sem, hne]
        refine Wcall_at hcl (by rw [bv, l4]) ?_
        simp only [go_sem, bv, rm, n8, e5, l5', e6]
        refine ⟨by kernel_rfl, ?_⟩
        simp only [go_sem, KscB_go]
        refine ⟨y.length, _, by omega, (by simp [norm, normGo, boxesBelow, ownIds, adelAll, V.under, St.get, St.obf, aget, adel]; rfl), acc ++ [.mk b0.toNat x []], y, ?_, rfl, by simp; omega, ?_⟩
        · rw [hdec, hcons]
          by_cases hy0 : (Tv.decode y d).2 = 0 <;> simp [hy0]
        · simp [NDs, ND, bs]
    · rw [if_pos (by simp [hne])] at hcons
      have rm : (acc.length + 1) * 56 ≤ roomB := by unfold roomB; omega
      have hcl := ih x (d + 1) (by omega) (by omega) (by omega)
      by_cases hn0 : n = 0
      · have hn0' : (n = 0) = True := eq_true hn0
        simp only [go_sem, hz, hk, hn, e41, n7, e1, e2, e3, e4, e5, hnl', n8, hn0', nn]
        refine Wcall_at (tc17 b0.toNat) (by rfl) ?_
        simp only [go_sem, hne, wd]
        refine Wcall_at hcl (by have : x = [] := List.eq_nil_of_length_eq_zero (by omega)
                                subst this; rfl) ?_
        by_cases hf : (Tv.decode x (d + 1)).2 = 0
        · rw [if_neg (by simp [hf])] at hcons
          simp only [go_sem, ns, rm, n8, e5, l5', e6, hf]
          refine ⟨by kernel_rfl, ?_⟩
          simp only [go_sem, KscB_go]
          refine ⟨y.length, _, by omega, (by simp [norm, normGo, boxesBelow, ownIds, adelAll, V.under, St.get, St.obf, aget, adel]; rfl), acc ++ [.mk b0.toNat [] (Tv.decode x (d + 1)).1], y, ?_, rfl, by simp; omega, ?_⟩
          · rw [hdec, hcons]
            by_cases hy0 : (Tv.decode y d).2 = 0 <;> simp [hy0]
          · simp [NDs, ND, bs]
        · have e := herr _ hf (by rw [hcons, if_pos hf])
          have hf' : ((Tv.decode x (d + 1)).2 != 0) = true := by simpa using hf
          simp only [go_sem, ns, hf', e]
          rfl
      · have hn0' : (n = 0) = False := eq_false hn0
        simp only [go_sem, hz, hk, hn, e41, n7, e1, e2, e3, e4, e5, hnl', n8, hn0', nn]
        refine Wcall_at (tc17 b0.toNat) (by rfl) ?_
        simp only [go_sem, hne, wd]
        refine Wcall_at hcl (by rw [bv, l4]) ?_
        by_cases hf : (Tv.decode x (d + 1)).2 = 0
        · rw [if_neg (by simp [hf])] at hcons
          simp only [go_sem, ns, rm, n8, e5, l5', e6, hf]
          refine ⟨by kernel_rfl, ?_⟩
          simp only [go_sem, KscB_go]
          refine ⟨y.length, _, by omega, (by simp [norm, normGo, boxesBelow, ownIds, adelAll, V.under, St.get, St.obf, aget, adel]; rfl), acc ++ [.mk b0.toNat [] (Tv.decode x (d + 1)).1], y, ?_, rfl, by simp; omega, ?_⟩
          · rw [hdec, hcons]
            by_cases hy0 : (Tv.decode y d).2 = 0 <;> simp [hy0]
          · simp [NDs, ND, bs]
        · have e := herr _ hf (by rw [hcons, if_pos hf])
          have hf' : ((Tv.decode x (d + 1)).2 != 0) = true := by simpa using hf
          simp only [go_sem, ns, hf', e]
          rfl
end Go.Proofs.Ytbdohnigbnhjnaa.Vc
