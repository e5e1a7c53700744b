/- Contracts of functions: publishers, equal or made; the sanity check. -/
import Derived.Test.YtokbcminleemaaaTuB
import Derived.Test.YtokbcminleemaaaVcLaw13
set_option linter.unusedSimpArgs false
set_option linter.unusedVariables false
set_option linter.unusedSectionVars false
namespace Go.Proofs.Ytokbcminleemaaa.Vc
open Go Go.Vk Go.Tv Go.Proofs
set_option maxRecDepth 100000
set_option maxHeartbeats 4000000
attribute [local go_sem ↓] W_skip W_reg W_draw W_seq W_cond W_block W_exit W_label W_goto W_ret Kseq_norm Kseq_ret Kseq_ex Kseq_go Kseq_pan Kblk_norm Kblk_ret Kblk_self Kblk_ne Kblk_go Kblk_pan Kloop_ret Kloop_ex Kloop_go Kloop_pan KseqS_norm KseqS_ret KseqS_ex KseqS_pan Kend_norm Kend_ret Kend_ex KscS_norm KscS_ret KscS_ex KscS_go Wr_nil Wr_g Wg_11 Wg_00 Wg_10 Wg_01 Wg_skip Wr_call Wr_callv Wr_inv Winv_if Winv2_some Wr_panic Wr_isnil Wr_op Ev_some Wcv_fn Wd_callv Wd_inv Wdcv_fn Wdinv_if Wdinv2_some ifV_agg ifV_int Wnil_some Wpan_if Wcond_t Wcond_f Wd_nil Wd_g Wd_call Wd_op Wdg_11 Wdg_00 Wdg_10 Wdg_01 Wdg_skip Evd_some step_some step_none val_t val_c get_mk obf_mk rdl_nil rdl_cons aget_cons aget_nil
attribute [local go_sem] pl_mv pl_pick pl_box pl_build pl_bsl pl_ld pl_st pl_nilc pl_bin pl_eqb pl_eq pl_eqn pl_un pl_cvi pl_cvs pl_s2b pl_b2s pl_mki pl_mkf pl_mks pl_sl pl_sls pl_fa pl_fld pl_ia pl_iaA pl_ix pl_ixs pl_ta pl_ex pl_len pl_lens pl_mn pl_mx pl_app pl_apps ev aset adel upd Option.getD_some passAll passV List.append_nil reduceIte Nat.reduceEqDiff decide_eq_true_eq Bool.false_eq_true Bool.true_eq_false reduceCtorEq Nat.reduceAdd updf V.sliceOf placeD placeV V.toDs V.toD1 V.cells List.map_cons List.map_nil Nat.mul_one Nat.zero_mul List.length_nil List.length_cons Nat.zero_add List.nil_append true_and and_true and_self Nat.zero_lt_one if_true if_false Nat.reduceLT Nat.reduceLeDiff Nat.reduceMul splice List.take_zero List.drop_zero List.drop_nil Bool.not_true Bool.not_false bne_self_eq_false Bool.bne_true Bool.bne_false Bool.false_bne Bool.true_bne List.cons_append eq_self Option.map_some Option.map_none boundO bound b_and b_or b_add b_sub b_mul b_rem b_eql b_neq b_lss b_leq b_gtr b_geq b_seql b_sneq b_shr8 b_shl8 decide_true decide_false IOp.xs List.flatMap_cons List.flatMap_nil V.ids V.ids1 V.ids0
attribute [local go_sem] Vk.RetB resVs resV outOf Vk.init recvs recvV recv enumFrom
attribute [local go_sem] bs_length NDs_length VLDs_length bs_nil bs_cons bytesOf_bs
attribute [local go_sem] le_1 le_2 le_3 le_4 le_5 le_6 le_7 le_8 le_9 le_10 le_11 le_12 le_o0 ck_bool ck_int ck_str ck_slice ck_ni ck_if ck_nils ck_own nat_nn Int.cast_ofNat_Int datas V.data? eqCells eqD Bool.true_and Bool.false_and List.all_cons List.all_nil Bool.and_true Bool.and_self List.take_succ_cons List.drop_succ_cons List.getElem?_cons_zero List.getElem?_cons_succ Int.toNat_natCast Nat.add_zero Nat.sub_zero
attribute [local go_sem] Int.reduceBEq Int.reduceBNe Int.reduceLT Int.reduceLE Int.reduceGT Int.reduceGE Int.reduceEq Int.reduceNe Int.reduceAdd Int.reduceSub Int.reduceMul Int.reduceToNat beq_self_eq_true bne_self_eq_false Nat.reduceBEq Nat.reduceSub ge_iff_le gt_iff_lt
theorem tcSameP1 (s : PS) : TC Try.prog 63 [pa s] (.agg [iv s.pub, iv s.first, iv s.max, iv s.rev, iv s.st, iv s.sq, iv s.since, iv s.gap]) := by
  refine tcW Try.func63 k63 h63 (by simp [c63]) (by simp) [] ?_
  simp only [go_sem, c63, pa, pcells, vls]
theorem tcSameP (s t : PS) (hs : s.vs.length ≤ 1099511627776) (ht : t.vs.length ≤ 1099511627776) : TC Try.prog 38 [pa s, pa t] (tv (decide (s = t))) := by
  refine tcW Try.func38 k38 h38 (by simp [c38]) (by simp) [] ?_
  obtain ⟨a0, a1, a2, a3, a4, a5, a6, a7, a8, a9, a10, a11, a12⟩ := s
  obtain ⟨b0, b1, b2, b3, b4, b5, b6, b7, b8, b9, b10, b11, b12⟩ := t
  simp only [go_sem, c38, pa, pcells, vls]
  refine ⟨[], ?_⟩
  refine Wdcall_at (tcSameP1 ⟨a0, a1, a2, a3, a4, a5, a6, a7, a8, a9, a10, a11, a12⟩) (by rfl) ?_
  simp only [go_sem]
  refine ⟨[], ?_⟩
  refine Wdcall_at (tcSameP1 ⟨b0, b1, b2, b3, b4, b5, b6, b7, b8, b9, b10, b11, b12⟩) (by rfl) ?_
  simp only [go_sem]
  by_cases hn : a0 = b0 ∧ a1 = b1 ∧ a2 = b2 ∧ a3 = b3 ∧ a5 = b5 ∧ a6 = b6 ∧ a7 = b7 ∧ a8 = b8
  rotate_left
  · have e : (a0 == b0 && (a1 == b1 && (a2 == b2 && (a3 == b3 && (a5 == b5 && (a6 == b6 && (a7 == b7 && a8 == b8))))))) = false := by
      cases hh : (a0 == b0 && (a1 == b1 && (a2 == b2 && (a3 == b3 && (a5 == b5 && (a6 == b6 && (a7 == b7 && a8 == b8))))))) with
      | false => rfl
      | true => simp at hh; exact absurd hh hn
    simp only [go_sem, e]
    refine ⟨by rfl, ?_⟩
    have : ¬ ((⟨a0, a1, a2, a3, a4, a5, a6, a7, a8, a9, a10, a11, a12⟩ : PS) = ⟨b0, b1, b2, b3, b4, b5, b6, b7, b8, b9, b10, b11, b12⟩) := by
      intro h
      simp at h
      exact hn ⟨h.1, h.2.1, h.2.2.1, h.2.2.2.1, h.2.2.2.2.2.1, h.2.2.2.2.2.2.1, h.2.2.2.2.2.2.2.1, h.2.2.2.2.2.2.2.2.1⟩
    simp [this]
  obtain ⟨rfl, rfl, rfl, rfl, rfl, rfl, rfl, rfl⟩ := hn
  simp only [go_sem]
  by_cases h2 : a4 = b4
  rotate_left
  · have e : (a4 == b4) = false := by simpa using h2
    simp only [go_sem, e]
    refine ⟨by rfl, ?_⟩
    simp [h2]
  subst h2
  simp only [go_sem]
  by_cases h7 : a9 = b9 ∧ a10 = b10 ∧ a11 = b11
  rotate_left
  · have e : (a9 == b9 && (a10 == b10 && a11 == b11)) = false := by
      cases hh : (a9 == b9 && (a10 == b10 && a11 == b11)) with
      | false => rfl
      | true => simp at hh; exact absurd hh h7
    simp only [go_sem, e]
    refine ⟨by rfl, ?_⟩
    have : ¬ (a9 = b9 ∧ a10 = b10 ∧ a11 = b11 ∧ a12 = b12) := fun h => h7 ⟨h.1, h.2.1, h.2.2.1⟩
    simp [this]
  obtain ⟨rfl, rfl, rfl⟩ := h7
  simp only [go_sem]
  refine Wdcall_at (tcSameV a12 b12 hs ht) (by rfl) ?_
  simp only [go_sem]
  refine ⟨by rfl, ?_⟩
  simp
def madeP (f m : Int) : PS := ⟨7, 1 + f % 100, 1 + f % 100 + m % (1001 - (1 + f % 100)), 9, false, 0, 0, 0, 0, 0, 0, 0, []⟩
theorem madeP_ok (f m : Int) : newP 7 (1 + f % 100) (1 + f % 100 + m % (1001 - (1 + f % 100))) 9 = (madeP f m, 0) ∧ GP 7 9 0 (madeP f m) := by
  have h1 : 0 ≤ f % 100 ∧ f % 100 < 100 := by omega
  have h2 := Int.emod_nonneg m (show 1001 - (1 + f % 100) ≠ 0 by omega)
  have h3 := Int.emod_lt_of_pos m (show 0 < 1001 - (1 + f % 100) by omega)
  exact GP.new (by omega) (by omega) (by omega) (by omega)
theorem tcMade (f m : Int) : TC Try.prog 31 [iv f, iv m] (pa (madeP f m)) := by
  refine tcW Try.func31 k31 h31 (by simp [c31]) (by simp) [] ?_
  have h1 : 0 ≤ f % 100 ∧ f % 100 < 100 := by omega
  have h2 := Int.emod_nonneg m (show 1001 - (1 + f % 100) ≠ 0 by omega)
  have h3 := Int.emod_lt_of_pos m (show 0 < 1001 - (1 + f % 100) by omega)
  have w1 : w64 (1 + f % 100) = 1 + f % 100 := w64_of (by omega)
  have w2 : w64 (1001 - (1 + f % 100)) = 1001 - (1 + f % 100) := w64_of (by omega)
  have w3 : w64 (1 + f % 100 + m % (1001 - (1 + f % 100))) = 1 + f % 100 + m % (1001 - (1 + f % 100)) := w64_of (by omega)
  simp only [go_sem, c31]
  refine Wcall_at (tcWithin13 f 100 (by omega)) (by rfl) ?_
  simp only [go_sem, w1, w2]
  refine Wcall_at (tcWithin13 m (1001 - (1 + f % 100)) (by omega)) (by rfl) ?_
  simp only [go_sem, w3]
  refine Wcall_at (tcNewP 7 (1 + f % 100) (1 + f % 100 + m % (1001 - (1 + f % 100))) 9) (by rfl) ?_
  simp only [go_sem, (madeP_ok f m).1, pa, pcells, vls]
/-- The sanity check's publisher after some steps, and what it noted. -/
def kst : Nat → PS × List UInt8
  | 0 => ((newP 0 1 4 0).1, [])
  | i + 1 => ((stepF (kst i).1 [] 0 0 0).1, match (stepF (kst i).1 [] 0 0 0).2 with
    | some _ => (kst i).2 ++ [UInt8.ofNat (48 + i)]
    | none => (kst i).2)
def okPb (p : PS) : Bool := decide (p.vs.length ≤ 1000) && (decide (0 ≤ p.since ∧ p.since ≤ 100) && (decide (0 ≤ p.gap ∧ p.gap ≤ 100) && (decide (0 ≤ p.st ∧ p.st ≤ 100) && (decide (0 ≤ p.sq ∧ p.sq ≤ 100) && (decide (0 ≤ p.first ∧ p.first ≤ 100) && decide (0 ≤ p.max ∧ p.max ≤ 100))))))
theorem okPb_ok {p : PS} (h : okPb p = true) : okP p := by
  simp [okPb] at h
  obtain ⟨h1, h2, h3, h4, h5, h6, h7⟩ := h
  exact ⟨h1, ⟨by omega, by omega⟩, ⟨by omega, by omega⟩, ⟨by omega, by omega⟩, ⟨by omega, by omega⟩, ⟨by omega, by omega⟩, ⟨by omega, by omega⟩⟩
theorem kst_ok : ∀ i, i < 9 → okPb (kst i).1 = true ∧ (kst i).2.length ≤ 9 := by decide
theorem kst_end : (kst 9).2 = [48, 49, 51, 55] ∧ (kst 9).1.st = 1 ∧ (kst 9).1.sq = 3 := by decide
theorem tcKnown13 : TC Try.prog 30 [] (tv true) := by
  refine tcW Try.func30 k30 h30 (by simp [c30]) (by simp) [] ?_
  have e0 : newP 0 1 4 0 = ((kst 0).1, 0) := by decide
  simp only [go_sem, c30]
  refine Wcall_at (tcNewP 0 1 4 0) (by rfl) ?_
  simp only [go_sem, e0, pa, pcells, vls]
  refine W_loop 112 [.keep 1, .keep 2, .keep 3, .keep 4] (fun m st => ∃ i : Nat, i ≤ 9 ∧ m = 9 - i ∧ st = ⟨[(1, .ptr 104 0), (2, iv 0), (3, sv (kst i).2), (4, iv i)], [(104, .box (pcells (kst i).1))], 2160⟩) (by omega) 9 _ (by rw [show (kst 0).2 = [] from rfl]; simp [norm, normGo, boxesBelow, ownIds, adelAll, V.under, St.get, St.obf, aget, adel, pcells, vls]) ⟨0, by omega, rfl, rfl⟩ ?_
  rintro m st ⟨i, hi, rfl, rfl⟩
  by_cases h9 : i < 9
  rotate_left
  · obtain rfl : i = 9 := by omega
    obtain ⟨k1, k2, k3⟩ := kst_end
    have q : ((9 : Nat) : Int) = 9 := rfl
    simp only [go_sem, q, k1, k2, k3, pcells, vls]
  have h9' : (i : Int) < 9 := by omega
  obtain ⟨b1, b2⟩ := kst_ok i h9
  have ok := okPb_ok b1
  have w5 : w64 ((i : Int) + 1) = i + 1 := w64_of (by omega)
  have w6 : w64 (48 + (i : Int)) = 48 + i := w64_of (by omega)
  have w8 : IntKind.u8.wrap (48 + (i : Int)) = ((UInt8.ofNat (48 + i)).toNat : Int) := by
    rw [wr8]
    unfold u8
    simp
    omega
  have w9 : bytesOf [D.int .u8 ((UInt8.ofNat (48 + i)).toNat : Int)] = some [UInt8.ofNat (48 + i)] := bytesOf_bs [UInt8.ofNat (48 + i)]
  simp only [go_sem, h9', pcells, vls]
  refine Wcall_at (tcStep (kst i).1 [] 0 0 0 ok (by simp)) (by rfl) ?_
  have e1 : (stepF (kst i).1 [] 0 0 0).1 = (kst (i + 1)).1 := rfl
  cases hm : (stepF (kst i).1 [] 0 0 0).2 with
  | none =>
    have e2 : (kst (i + 1)).2 = (kst i).2 := by simp [kst, hm]
    simp only [go_sem, e1, pa, pcells, vls, msV, w5, Kloop_norm]
    exact ⟨9 - (i + 1), _, by omega, (by simp [norm, normGo, boxesBelow, ownIds, adelAll, V.under, St.get, St.obf, aget, adel, pcells, vls]; rfl), i + 1, by omega, rfl, by rw [e2]; simp [pcells, vls]⟩
  | some x =>
    have e2 : (kst (i + 1)).2 = (kst i).2 ++ [UInt8.ofNat (48 + i)] := by simp [kst, hm]
    have l1 : binD .add (.str (kst i).2) (.str [UInt8.ofNat (48 + i)]) = some (.str ((kst i).2 ++ [UInt8.ofNat (48 + i)])) := by rw [b_sadd, if_pos (by simp; omega)]
    simp only [go_sem, e1, pa, pcells, vls, msV, w5, w6, w8, w9, l1, Kloop_norm]
    exact ⟨9 - (i + 1), _, by omega, (by simp [norm, normGo, boxesBelow, ownIds, adelAll, V.under, St.get, St.obf, aget, adel, pcells, vls]; rfl), i + 1, by omega, rfl, by rw [e2]; simp [pcells, vls]⟩
end Go.Proofs.Ytokbcminleemaaa.Vc
