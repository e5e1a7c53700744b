/- Contracts of functions: the specification's check of a value. -/
import Derived.Test.YtokbcminleemaaaTpD
set_option linter.unusedSimpArgs false
set_option linter.unusedVariables false
set_option linter.unusedSectionVars false
namespace Go.Proofs.Ytokbcminleemaaa.Vc
open Go Go.Vk Go.Tv Go.Proofs
set_option maxRecDepth 100000
set_option maxHeartbeats 4000000
attribute [local go_sem ↓] W_skip W_reg W_draw W_seq W_cond W_block W_exit W_label W_goto W_ret Kseq_norm Kseq_ret Kseq_ex Kseq_go Kseq_pan Kblk_norm Kblk_ret Kblk_self Kblk_ne Kblk_go Kblk_pan Kloop_ret Kloop_ex Kloop_go Kloop_pan KseqS_norm KseqS_ret KseqS_ex KseqS_pan Kend_norm Kend_ret Kend_ex KscS_norm KscS_ret KscS_ex KscS_go Wr_nil Wr_g Wg_11 Wg_00 Wg_10 Wg_01 Wg_skip Wr_call Wr_callv Wr_inv Winv_if Winv2_some Wr_panic Wr_isnil Wr_op Ev_some Wcv_fn Wd_callv Wd_inv Wdcv_fn Wdinv_if Wdinv2_some ifV_agg ifV_int Wnil_some Wpan_if Wcond_t Wcond_f Wd_nil Wd_g Wd_call Wd_op Wdg_11 Wdg_00 Wdg_10 Wdg_01 Wdg_skip Evd_some step_some step_none val_t val_c get_mk obf_mk rdl_nil rdl_cons aget_cons aget_nil
attribute [local go_sem] pl_mv pl_pick pl_box pl_build pl_bsl pl_ld pl_st pl_nilc pl_bin pl_eqb pl_eq pl_eqn pl_un pl_cvi pl_cvs pl_s2b pl_b2s pl_mki pl_mkf pl_mks pl_sl pl_sls pl_fa pl_fld pl_ia pl_iaA pl_ix pl_ixs pl_ta pl_ex pl_len pl_lens pl_mn pl_mx pl_app pl_apps ev aset adel upd Option.getD_some passAll passV List.append_nil reduceIte Nat.reduceEqDiff decide_eq_true_eq Bool.false_eq_true Bool.true_eq_false reduceCtorEq Nat.reduceAdd updf V.sliceOf placeD placeV V.toDs V.toD1 V.cells List.map_cons List.map_nil Nat.mul_one Nat.zero_mul List.length_nil List.length_cons Nat.zero_add List.nil_append true_and and_true and_self Nat.zero_lt_one if_true if_false Nat.reduceLT Nat.reduceLeDiff Nat.reduceMul splice List.take_zero List.drop_zero List.drop_nil Bool.not_true Bool.not_false bne_self_eq_false Bool.bne_true Bool.bne_false Bool.false_bne Bool.true_bne List.cons_append eq_self Option.map_some Option.map_none boundO bound b_and b_or b_add b_sub b_mul b_rem b_eql b_neq b_lss b_leq b_gtr b_geq b_seql b_sneq b_shr8 b_shl8 decide_true decide_false IOp.xs List.flatMap_cons List.flatMap_nil V.ids V.ids1 V.ids0
attribute [local go_sem] Vk.RetB resVs resV outOf Vk.init recvs recvV recv enumFrom
attribute [local go_sem] bs_length NDs_length VLDs_length bs_nil bs_cons bytesOf_bs
attribute [local go_sem] le_1 le_2 le_3 le_4 le_5 le_6 le_7 le_8 le_9 le_10 le_11 le_12 le_o0 ck_bool ck_int ck_str ck_slice ck_ni ck_if ck_nils ck_own nat_nn Int.cast_ofNat_Int datas V.data? eqCells eqD Bool.true_and Bool.false_and List.all_cons List.all_nil Bool.and_true Bool.and_self List.take_succ_cons List.drop_succ_cons List.getElem?_cons_zero List.getElem?_cons_succ Int.toNat_natCast Nat.add_zero Nat.sub_zero
attribute [local go_sem] Int.reduceBEq Int.reduceBNe Int.reduceLT Int.reduceLE Int.reduceGT Int.reduceGE Int.reduceEq Int.reduceNe Int.reduceAdd Int.reduceSub Int.reduceMul Int.reduceToNat beq_self_eq_true bne_self_eq_false Nat.reduceBEq Nat.reduceSub ge_iff_le gt_iff_lt
theorem not_conf {v : VL} (h : ¬ (v.a = 0 ∧ v.b = 0 ∧ v.c = 0)) : (v.a == 0 && (v.b == 0 && v.c == 0)) = false := by
  by_cases h2 : v.a = 0 <;> by_cases h3 : v.b = 0 <;> by_cases h4 : v.c = 0 <;> simp_all
theorem rng_eq (n m : Int) : (decide (0 ≤ n) && decide (n ≤ m)) = inR n (m + 1) := by
  unfold inR
  congr 1
  exact decide_eq_decide.2 (by omega)
theorem tcRCheck (v : VL) (hl : v.s.length ≤ 1099511627776) : TC Try.prog 55 [va v] (iv (ckV v)) := by
  refine tcW Try.func55 k55 h55 (by simp [c55]) (by simp) [] ?_
  by_cases hr : 1 ≤ v.k ∧ v.k ≤ 5
  rotate_left
  · have hf : (decide (1 ≤ v.k) && decide (v.k ≤ 5)) = false := by simp; omega
    simp only [go_sem, c55, va]
    refine Wcall_some (tcBetween11 v.k 1 5) ?_
    simp only [go_sem, hf]
    simp only [ckV]
    rw [if_pos (by omega)]
  have hc : ¬ (v.k < 1 ∨ 5 < v.k) := by omega
  have hk : v.k = 1 ∨ v.k = 2 ∨ v.k = 3 ∨ v.k = 4 ∨ v.k = 5 := by omega
  obtain ⟨k, n, s, a, b, c⟩ := v
  simp only [] at hr hc hk hl
  clear hr hc
  rcases hk with rfl | rfl | rfl | rfl | rfl
  · by_cases hs : s = []
    rotate_left
    · have e1 : (s == []) = false := by simpa using hs
      simp only [go_sem, c55, va, e1]
      refine Wcall_some (tcBetween11 1 1 5) ?_
      simp only [go_sem, e1]
      refine ⟨by decide, ?_⟩
      simp [ckV, confl, hs]
    by_cases ht : a = 0 ∧ b = 0 ∧ c = 0
    rotate_left
    · have e1 : (a == 0 && (b == 0 && c == 0)) = false := not_conf (v := ⟨1, n, s, a, b, c⟩) ht
      subst hs
      simp only [go_sem, c55, va, e1]
      refine Wcall_some (tcBetween11 1 1 5) ?_
      simp only [go_sem, e1]
      refine ⟨by decide, ?_⟩
      simp [ckV, confl, ht]
    obtain ⟨rfl, rfl, rfl⟩ := ht
    subst hs
    simp only [go_sem, c55, va]
    refine Wcall_some (tcBetween11 1 1 5) ?_
    simp only [go_sem]
    refine ⟨by decide, ?_⟩
    refine Wcall_some (tcBetween11 n 0 1) ?_
    cases hn : (decide (0 ≤ n) && decide (n ≤ 1))
    · simp only [go_sem]
      have h0 : ¬ (n = 0 ∨ n = 1) := by simp at hn; omega
      simp [ckV, confl, h0]
    have h0 : n = 0 ∨ n = 1 := by simp at hn; omega
    simp only [go_sem]
    refine Wcall_some (tcBetween11 0 0 4294967295) ?_
    simp only [go_sem]
    refine Wcall_some (tcBetween11 0 0 16777215) ?_
    simp only [go_sem]
    refine Wcall_some (tcBetween11 0 0 255) ?_
    simp only [go_sem]
    refine W_loop 72 [.keep 1, .keep 5] (fun m st => st = ⟨[(1, .ptr 64 0), (5, iv 0)], [(64, .box [iv 1, iv n, sv [], iv 0, iv 0, iv 0])], 2120⟩) (by omega) 0 _ (by simp [norm, normGo, boxesBelow, ownIds, adelAll, V.under, St.get, St.obf, aget, adel]) rfl ?_
    rintro m st rfl
    simp only [go_sem]
    simp [ckV, confl, h0]
  · by_cases hs : s = []
    rotate_left
    · have e1 : (s == []) = false := by simpa using hs
      simp only [go_sem, c55, va, e1]
      refine Wcall_some (tcBetween11 2 1 5) ?_
      simp only [go_sem, e1]
      refine ⟨by decide, ?_⟩
      simp [ckV, confl, hs]
    by_cases ht : a = 0 ∧ b = 0 ∧ c = 0
    rotate_left
    · have e1 : (a == 0 && (b == 0 && c == 0)) = false := not_conf (v := ⟨2, n, s, a, b, c⟩) ht
      subst hs
      simp only [go_sem, c55, va, e1]
      refine Wcall_some (tcBetween11 2 1 5) ?_
      simp only [go_sem, e1]
      refine ⟨by decide, ?_⟩
      simp [ckV, confl, ht]
    obtain ⟨rfl, rfl, rfl⟩ := ht
    subst hs
    simp only [go_sem, c55, va]
    refine Wcall_some (tcBetween11 2 1 5) ?_
    simp only [go_sem]
    refine ⟨by decide, ?_⟩
    refine Wcall_some (tcBetween11 0 0 4294967295) ?_
    simp only [go_sem]
    refine Wcall_some (tcBetween11 0 0 16777215) ?_
    simp only [go_sem]
    refine Wcall_some (tcBetween11 0 0 255) ?_
    simp only [go_sem]
    refine W_loop 72 [.keep 1, .keep 5] (fun m st => st = ⟨[(1, .ptr 64 0), (5, iv 0)], [(64, .box [iv 2, iv n, sv [], iv 0, iv 0, iv 0])], 2120⟩) (by omega) 0 _ (by simp [norm, normGo, boxesBelow, ownIds, adelAll, V.under, St.get, St.obf, aget, adel]) rfl ?_
    rintro m st rfl
    simp only [go_sem]
    simp [ckV, confl]
  · by_cases hn : n = 0
    rotate_left
    · have e1 : (n == 0) = false := by simpa using hn
      have e2 : (n != 0) = true := by simpa using hn
      simp only [go_sem, c55, va, e1, e2]
      refine Wcall_some (tcBetween11 3 1 5) ?_
      simp only [go_sem, e1, e2]
      refine ⟨by decide, ?_⟩
      simp [ckV, confl, hn]
    by_cases ht : a = 0 ∧ b = 0 ∧ c = 0
    rotate_left
    · have e1 : (a == 0 && (b == 0 && c == 0)) = false := not_conf (v := ⟨3, n, s, a, b, c⟩) ht
      subst hn
      simp only [go_sem, c55, va, e1]
      refine Wcall_some (tcBetween11 3 1 5) ?_
      simp only [go_sem, e1]
      refine ⟨by decide, ?_⟩
      simp [ckV, confl, ht]
    obtain ⟨rfl, rfl, rfl⟩ := ht
    subst hn
    simp only [go_sem, c55, va]
    refine Wcall_some (tcBetween11 3 1 5) ?_
    simp only [go_sem]
    refine ⟨by decide, ?_⟩
    refine Wcall_some (tcBetween11 0 0 4294967295) ?_
    simp only [go_sem]
    refine Wcall_some (tcBetween11 0 0 16777215) ?_
    simp only [go_sem]
    refine Wcall_some (tcBetween11 0 0 255) ?_
    simp only [go_sem]
    by_cases h64 : (64 : Int) < s.length
    · have h65 : 64 < s.length := by omega
      simp only [go_sem, h64]
      simp [ckV, confl, h65]
    have h65 : ¬ 64 < s.length := by omega
    simp only [go_sem, h64]
    have hck : ckV ⟨3, 0, s, 0, 0, 0⟩ = if bits01 s = true then 0 else 5 := by simp [ckV, confl, h65]
    refine W_loop 72 [.keep 1, .keep 5] (fun m st => ∃ pre rest, s = pre ++ rest ∧ bits01 s = bits01 rest ∧ m = rest.length ∧ st = ⟨[(1, .ptr 64 0), (5, iv pre.length)], [(64, .box [iv 3, iv 0, sv s, iv 0, iv 0, iv 0])], 2120⟩) (by omega) s.length _ (by simp [norm, normGo, boxesBelow, ownIds, adelAll, V.under, St.get, St.obf, aget, adel]) ⟨[], s, rfl, rfl, rfl, rfl⟩ ?_
    rintro m st ⟨pre, rest, hs, hb, rfl, rfl⟩
    cases rest with
    | nil =>
      have h1 : ¬ (pre.length : Int) < s.length := by subst hs; simp
      simp only [go_sem, h1]
      rw [hck, hb]; rfl
    | cons x rest =>
      have h1 : (pre.length : Int) < s.length := by subst hs; simp; omega
      have g1 : s[pre.length]? = some x := by subst hs; simp
      have w5 : w64 ((pre.length : Int) + 1) = pre.length + 1 := w64_of (by omega)
      have q : ∀ j : UInt8, (((x.toNat : Int)) != (j.toNat : Int)) = !(x == j) := fun j => by
        by_cases h : x = j
        · subst h; simp
        · have h2 : ¬ x.toNat = j.toNat := fun e => h (UInt8.toNat_inj.1 e)
          have h3 : ¬ (x.toNat : Int) = (j.toNat : Int) := by omega
          rw [beq_eq_false_iff_ne.2 h]
          simp [h3]
      have q1 : ((x.toNat : Int) != 48) = !(x == 48) := q 48
      have q2 : ((x.toNat : Int) != 49) = !(x == 49) := q 49
      have hbx : bits01 (x :: rest) = ((x == 48 || x == 49) && bits01 rest) := rfl
      simp only [go_sem, h1, g1, q1]
      cases h48 : (x == 48)
      · cases h49 : (x == 49)
        · simp only [go_sem, h1, g1, q1, q2, h49]
          rw [hck, hb, hbx, h48, h49]; rfl
        · simp only [go_sem, h1, g1, q1, q2, h49, w5, Kloop_norm]
          exact ⟨rest.length, _, by simp, (by simp [norm, normGo, boxesBelow, ownIds, adelAll, V.under, St.get, St.obf, aget, adel]; rfl), pre ++ [x], rest, by simp [hs], by rw [hb, hbx, h48, h49]; rfl, rfl, by simp⟩
      · simp only [go_sem, h1, g1, q1, q2, w5, Kloop_norm]
        exact ⟨rest.length, _, by simp, (by simp [norm, normGo, boxesBelow, ownIds, adelAll, V.under, St.get, St.obf, aget, adel]; rfl), pre ++ [x], rest, by simp [hs], by rw [hb, hbx, h48]; rfl, rfl, by simp⟩
  · by_cases hn : n = 0
    rotate_left
    · have e1 : (n == 0) = false := by simpa using hn
      have e2 : (n != 0) = true := by simpa using hn
      simp only [go_sem, c55, va, e1, e2]
      refine Wcall_some (tcBetween11 4 1 5) ?_
      simp only [go_sem, e1, e2]
      refine ⟨by decide, ?_⟩
      simp [ckV, confl, hn]
    by_cases ht : a = 0 ∧ b = 0 ∧ c = 0
    rotate_left
    · have e1 : (a == 0 && (b == 0 && c == 0)) = false := not_conf (v := ⟨4, n, s, a, b, c⟩) ht
      subst hn
      simp only [go_sem, c55, va, e1]
      refine Wcall_some (tcBetween11 4 1 5) ?_
      simp only [go_sem, e1]
      refine ⟨by decide, ?_⟩
      simp [ckV, confl, ht]
    obtain ⟨rfl, rfl, rfl⟩ := ht
    subst hn
    simp only [go_sem, c55, va]
    refine Wcall_some (tcBetween11 4 1 5) ?_
    simp only [go_sem]
    refine ⟨by decide, ?_⟩
    refine Wcall_some (tcBetween11 0 0 4294967295) ?_
    simp only [go_sem]
    refine Wcall_some (tcBetween11 0 0 16777215) ?_
    simp only [go_sem]
    refine Wcall_some (tcBetween11 0 0 255) ?_
    simp only [go_sem]
    by_cases h64 : (64 : Int) < s.length
    · have h65 : 64 < s.length := by omega
      simp only [go_sem, h64]
      simp [ckV, confl, h65]
    have h65 : ¬ 64 < s.length := by omega
    simp only [go_sem, h64]
    refine W_loop 72 [.keep 1, .keep 5] (fun m st => st = ⟨[(1, .ptr 64 0), (5, iv 0)], [(64, .box [iv 4, iv 0, sv s, iv 0, iv 0, iv 0])], 2120⟩) (by omega) 0 _ (by simp [norm, normGo, boxesBelow, ownIds, adelAll, V.under, St.get, St.obf, aget, adel]) rfl ?_
    rintro m st rfl
    by_cases h1 : (0 : Int) < s.length <;> simp only [go_sem, h1] <;> simp [ckV, confl, h65]
  · by_cases hn : n = 0
    rotate_left
    · have e1 : (n == 0) = false := by simpa using hn
      have e2 : (n != 0) = true := by simpa using hn
      simp only [go_sem, c55, va, e1, e2]
      refine Wcall_some (tcBetween11 5 1 5) ?_
      simp only [go_sem, e1, e2]
      refine ⟨by decide, ?_⟩
      simp [ckV, confl, hn]
    by_cases hs : s = []
    rotate_left
    · have e1 : (s == []) = false := by simpa using hs
      subst hn
      simp only [go_sem, c55, va, e1]
      refine Wcall_some (tcBetween11 5 1 5) ?_
      simp only [go_sem, e1]
      refine ⟨by decide, ?_⟩
      simp [ckV, confl, hs]
    subst hn
    subst hs
    simp only [go_sem, c55, va]
    refine Wcall_some (tcBetween11 5 1 5) ?_
    simp only [go_sem]
    refine ⟨by decide, ?_⟩
    refine Wcall_some (tcBetween11 a 0 4294967295) ?_
    rw [rng_eq]
    cases ha : inR a (4294967295 + 1)
    · simp only [go_sem]
      have : inR a 4294967296 = false := ha
      simp [ckV, confl, this]
    simp only [go_sem]
    refine Wcall_some (tcBetween11 b 0 16777215) ?_
    rw [rng_eq]
    cases hb : inR b (16777215 + 1)
    · simp only [go_sem]
      have : inR b 16777216 = false := hb
      simp [ckV, confl, this]
    simp only [go_sem]
    refine Wcall_some (tcBetween11 c 0 255) ?_
    rw [rng_eq]
    cases hc : inR c (255 + 1)
    · simp only [go_sem]
      have : inR c 256 = false := hc
      simp [ckV, confl, this]
    simp only [go_sem]
    have ka : inR a 4294967296 = true := ha
    have kb : inR b 16777216 = true := hb
    have kc : inR c 256 = true := hc
    refine W_loop 72 [.keep 1, .keep 5] (fun m st => st = ⟨[(1, .ptr 64 0), (5, iv 0)], [(64, .box [iv 5, iv 0, sv [], iv a, iv b, iv c])], 2120⟩) (by omega) 0 _ (by simp [norm, normGo, boxesBelow, ownIds, adelAll, V.under, St.get, St.obf, aget, adel]) rfl ?_
    rintro m st rfl
    simp only [go_sem]
    simp [ckV, confl, ka, kb, kc]
end Go.Proofs.Ytokbcminleemaaa.Vc
