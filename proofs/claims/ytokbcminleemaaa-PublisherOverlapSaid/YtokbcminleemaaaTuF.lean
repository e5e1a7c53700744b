/- Laws of publishers: overlap. -/
import Derived.Test.YtokbcminleemaaaTuD
set_option linter.unusedSimpArgs false
set_option linter.unusedVariables false
set_option linter.unusedSectionVars false
namespace Go.Proofs.Ytokbcminleemaaa.Vc
open Go Go.Vk Go.Tv Go.Proofs
set_option maxRecDepth 100000
set_option maxHeartbeats 4000000
attribute [local go_sem ↓] W_skip W_reg W_draw W_seq W_cond W_block W_exit W_label W_goto W_ret Kseq_norm Kseq_ret Kseq_ex Kseq_go Kseq_pan Kblk_norm Kblk_ret Kblk_self Kblk_ne Kblk_go Kblk_pan Kloop_ret Kloop_ex Kloop_go Kloop_pan KseqS_norm KseqS_ret KseqS_ex KseqS_pan Kend_norm Kend_ret Kend_ex KscS_norm KscS_ret KscS_ex KscS_go Wr_nil Wr_g Wg_11 Wg_00 Wg_10 Wg_01 Wg_skip Wr_call Wr_callv Wr_inv Winv_if Winv2_some Wr_panic Wr_isnil Wr_op Ev_some Wcv_fn Wd_callv Wd_inv Wdcv_fn Wdinv_if Wdinv2_some ifV_agg ifV_int Wnil_some Wpan_if Wcond_t Wcond_f Wd_nil Wd_g Wd_call Wd_op Wdg_11 Wdg_00 Wdg_10 Wdg_01 Wdg_skip Evd_some step_some step_none val_t val_c get_mk obf_mk rdl_nil rdl_cons aget_cons aget_nil
attribute [local go_sem] pl_mv pl_pick pl_box pl_build pl_bsl pl_ld pl_st pl_nilc pl_bin pl_eqb pl_eq pl_eqn pl_un pl_cvi pl_cvs pl_s2b pl_b2s pl_mki pl_mkf pl_mks pl_sl pl_sls pl_fa pl_fld pl_ia pl_iaA pl_ix pl_ixs pl_ta pl_ex pl_len pl_lens pl_mn pl_mx pl_app pl_apps ev aset adel upd Option.getD_some passAll passV List.append_nil reduceIte Nat.reduceEqDiff decide_eq_true_eq Bool.false_eq_true Bool.true_eq_false reduceCtorEq Nat.reduceAdd updf V.sliceOf placeD placeV V.toDs V.toD1 V.cells List.map_cons List.map_nil Nat.mul_one Nat.zero_mul List.length_nil List.length_cons Nat.zero_add List.nil_append true_and and_true and_self Nat.zero_lt_one if_true if_false Nat.reduceLT Nat.reduceLeDiff Nat.reduceMul splice List.take_zero List.drop_zero List.drop_nil Bool.not_true Bool.not_false bne_self_eq_false Bool.bne_true Bool.bne_false Bool.false_bne Bool.true_bne List.cons_append eq_self Option.map_some Option.map_none boundO bound b_and b_or b_add b_sub b_mul b_rem b_eql b_neq b_lss b_leq b_gtr b_geq b_seql b_sneq b_shr8 b_shl8 decide_true decide_false IOp.xs List.flatMap_cons List.flatMap_nil V.ids V.ids1 V.ids0
attribute [local go_sem] Vk.RetB resVs resV outOf Vk.init recvs recvV recv enumFrom
attribute [local go_sem] bs_length NDs_length VLDs_length bs_nil bs_cons bytesOf_bs
attribute [local go_sem] le_1 le_2 le_3 le_4 le_5 le_6 le_7 le_8 le_9 le_10 le_11 le_12 le_o0 ck_bool ck_int ck_str ck_slice ck_ni ck_if ck_nils ck_own nat_nn Int.cast_ofNat_Int datas V.data? eqCells eqD Bool.true_and Bool.false_and List.all_cons List.all_nil Bool.and_true Bool.and_self List.take_succ_cons List.drop_succ_cons List.getElem?_cons_zero List.getElem?_cons_succ Int.toNat_natCast Nat.add_zero Nat.sub_zero
attribute [local go_sem] Int.reduceBEq Int.reduceBNe Int.reduceLT Int.reduceLE Int.reduceGT Int.reduceGE Int.reduceEq Int.reduceNe Int.reduceAdd Int.reduceSub Int.reduceMul Int.reduceToNat beq_self_eq_true bne_self_eq_false Nat.reduceBEq Nat.reduceSub ge_iff_le gt_iff_lt
/-- Steps in which something was sent, and the gaps behind them. -/
def Ch (l : List (Int × Int)) : Prop := (∀ x ∈ l, (1 ≤ x.2 ∧ x.2 ≤ 1000) ∧ (0 ≤ x.1 ∧ x.1 ≤ 100000)) ∧ ∀ (i : Nat) (x y : Int × Int), l[i]? = some x → l[i + 1]? = some y → y.1 = x.1 + x.2 ∧ y.2 ≤ 2 * x.2
theorem Ch.snoc {l : List (Int × Int)} {x y : Int × Int} (h : Ch (l ++ [x])) (hy : (1 ≤ y.2 ∧ y.2 ≤ 1000) ∧ (0 ≤ y.1 ∧ y.1 ≤ 100000)) (hr : y.1 = x.1 + x.2 ∧ y.2 ≤ 2 * x.2) : Ch (l ++ [x] ++ [y]) := by
  refine ⟨fun z hz => ?_, fun i u v hu hv => ?_⟩
  · rcases List.mem_append.1 hz with h1 | h1
    · exact h.1 z h1
    · simp at h1; subst h1; exact hy
  · have hlt := (List.getElem?_eq_some_iff.1 hv).1
    simp only [List.length_append, List.length_singleton] at hlt
    by_cases h1 : i + 1 < (l ++ [x]).length
    · rw [List.getElem?_append_left (by omega)] at hu
      rw [List.getElem?_append_left h1] at hv
      exact h.2 i u v hu hv
    · simp only [List.length_append, List.length_singleton] at h1
      obtain rfl : i = l.length := by omega
      rw [List.getElem?_append_left (by simp), List.getElem?_append_right (by omega)] at hu
      rw [List.getElem?_append_right (by simp)] at hv
      simp at hu hv
      subst hu; subst hv; exact hr
theorem Ch.one {x : Int × Int} (hx : (1 ≤ x.2 ∧ x.2 ≤ 1000) ∧ (0 ≤ x.1 ∧ x.1 ≤ 100000)) : Ch [x] := by
  refine ⟨fun z hz => by simp at hz; subst hz; exact hx, fun i u v hu hv => ?_⟩
  have hlt := (List.getElem?_eq_some_iff.1 hv).1
  simp at hlt
def atD (l : List (Int × Int)) : List D := l.map fun x => .int .i64 x.1
def ttD (l : List (Int × Int)) : List D := l.map fun x => .int .i64 (3 * x.2 + 1)
theorem atD_len (l : List (Int × Int)) : (atD l).length = l.length := by simp [atD]
theorem ttD_len (l : List (Int × Int)) : (ttD l).length = l.length := by simp [ttD]
theorem atD_get {l : List (Int × Int)} {i : Nat} {x : Int × Int} (h : l[i]? = some x) : (atD l)[i]? = some (.int .i64 x.1) := by simp [atD, h]
theorem ttD_get {l : List (Int × Int)} {i : Nat} {x : Int × Int} (h : l[i]? = some x) : (ttD l)[i]? = some (.int .i64 (3 * x.2 + 1)) := by simp [ttD, h]
/-- Behind k steps with the same values. -/
def Ov (k : Int) (p : PS) (rs : List (Int × Int)) : Prop :=
  (k = 0 ∧ p.on = false ∧ rs = []) ∨ (p.on = true ∧ p.vs = valsF 0 ∧ Ch rs ∧ (∃ r, rs[0]? = some (0, r)) ∧ ∃ rs0 a, rs = rs0 ++ [(a, p.gap)] ∧ k = a + p.since + 1)
theorem Ov.next {k : Nat} {p : PS} {rs : List (Int × Int)} (hk : k ≤ 2600) (h : Ov k p rs) (hG : GP 7 9 k p) :
    (∃ p', stepF p (valsF 0) 0 0 0 = (p', some (sentM p')) ∧ Ov (k + 1 : Nat) p' (rs ++ [((k : Int), p'.gap)]) ∧ GP 7 9 (k + 1 : Nat) p' ∧ (1 ≤ p'.gap ∧ p'.gap ≤ 1000)) ∨
    (∃ p', stepF p (valsF 0) 0 0 0 = (p', none) ∧ Ov (k + 1 : Nat) p' rs ∧ GP 7 9 (k + 1 : Nat) p') := by
  obtain ⟨v1, v2⟩ := valsF_ok 0
  have f1 := hG.first
  have f2 := hG.max
  rcases hG.step (by omega) (by omega) (by omega) (a := 0) (b := 0) (c := 0) v1 v2 (by decide) with ⟨hc, he, hG', _⟩ | ⟨hon, hvs, hg, he, hG', _⟩ | ⟨hon, hvs, hg, he, hG'⟩
  · rcases h with ⟨h1, h2, h3⟩ | ⟨h1, h2, _⟩
    · subst h3
      refine .inl ⟨_, he, ?_, by simpa using hG', by simp only [changeP]; omega⟩
      refine .inr ⟨rfl, rfl, Ch.one (by simp only [changeP]; omega), ⟨p.first, by simp [changeP]; omega⟩, [], (k : Int), rfl, by simp [changeP]⟩
    · rcases hc with h | h
      · rw [h1] at h; cases h
      · exact absurd h2.symm h
  · rcases h with ⟨h1, h2, h3⟩ | ⟨h1, h2, h3, h4, rs0, a, h5, h6⟩
    · rw [h2] at hon; cases hon
    · obtain ⟨g1, g2, _⟩ := hG.on hon
      have hgap : 1 ≤ (repeatP p).gap ∧ (repeatP p).gap ≤ 1000 := by simp only [repeatP]; omega
      refine .inl ⟨_, he, .inr ⟨by simpa [repeatP] using hon, by simpa [repeatP] using h2, ?_, ?_, rs, (k : Int), rfl, by simp [repeatP]⟩, by simpa using hG', hgap⟩
      · rw [h5] at h3 ⊢
        refine h3.snoc ⟨hgap, by simp only []; omega⟩ ?_
        simp only [repeatP]
        omega
      · obtain ⟨r, h4⟩ := h4
        refine ⟨r, ?_⟩
        rw [List.getElem?_append_left (by have := (List.getElem?_eq_some_iff.1 h4).1; omega)]
        exact h4
  · rcases h with ⟨h1, h2, h3⟩ | ⟨h1, h2, h3, h4, rs0, a, h5, h6⟩
    · rw [h2] at hon; cases hon
    · refine .inr ⟨_, he, .inr ⟨hon, h2, h3, h4, rs0, a, h5, by simp only []; omega⟩, hG'.mono (by omega)⟩
theorem tc13Overlap (f m n : Int) : TC Try.prog 6 [iv f, iv m, iv n] (tv true) := by
  refine tcW Try.func6 k6 h6 (by simp [c6]) (by simp) [] ?_
  obtain ⟨_, g0⟩ := madeP_ok f m
  have n0 := Int.emod_nonneg n (show (2500 : Int) ≠ 0 by omega)
  have n1 := Int.emod_lt_of_pos n (show (0 : Int) < 2500 by omega)
  simp only [go_sem, c6]
  refine Wcall_some tcKnown13 ?_
  simp only [go_sem]
  refine Wcall_some (tcMade f m) ?_
  simp only [go_sem, pa, pcells, vls]
  refine W_loop 120 [.keep 2, .keep 7, .own 8 false 3 1, .own 9 false 3 1, .keep 10] (fun j st => ∃ (k : Nat) (p : PS) (rs : List (Int × Int)), (k : Int) ≤ n % 2500 + 1 ∧ GP 7 9 k p ∧ Ov k p rs ∧ rs.length ≤ k ∧ j = (n % 2500 + 1).toNat - k ∧ st = ⟨[(2, iv n), (7, .ptr 112 0), (8, .own 128 rs.length), (9, .own 129 rs.length), (10, iv k)], [(112, .box (pcells p)), (128, .vec false 3 1 rs.length (atD rs)), (129, .vec false 3 1 rs.length (ttD rs))], 2168⟩) (by omega) (n % 2500 + 1).toNat _ (by simp [norm, normGo, boxesBelow, ownIds, adelAll, V.under, St.get, St.obf, aget, adel, pcells, vls, atD, ttD]) ⟨0, madeP f m, [], by simp; omega, g0, .inl ⟨rfl, rfl, rfl⟩, by simp, rfl, rfl⟩ ?_
  rintro j st ⟨k, p, rs, hk, hG, hO, hlen, rfl, rfl⟩
  simp only [go_sem]
  refine Wcall_at (tcWithin13 n 2500 (by omega)) (by rfl) ?_
  by_cases hle : (k : Int) ≤ n % 2500
  · have w5 : w64 ((k : Int) + 1) = k + 1 := w64_of (by omega)
    have r1 : (rs.length + 1) * 8 ≤ roomB := by unfold roomB; omega
    have okp := hG.ok (by omega)
    simp only [go_sem, hle, pcells, vls]
    refine Wdcall_at (tcValues 0) (by rfl) ?_
    simp only [go_sem, vls]
    refine Wdcall_at (tcStep p (valsF 0) 0 0 0 okp (by decide)) (by rfl) ?_
    rcases Ov.next (by omega) hO hG with ⟨p', he, hO', hG', hgap⟩ | ⟨p', he, hO', hG'⟩
    · simp only [go_sem, he, pa, pcells, vls, msV, mD, r1, atD_len, ttD_len]
      refine ⟨by rfl, ⟨by rfl, ?_⟩⟩
      simp only [go_sem, w5, Kloop_norm]
      exact ⟨(n % 2500 + 1).toNat - (k + 1), _, by omega, (by simp [norm, normGo, boxesBelow, ownIds, adelAll, V.under, St.get, St.obf, aget, adel, pcells, vls]; rfl), k + 1, p', rs ++ [((k : Int), p'.gap)], by omega, by simpa using hG', by simpa using hO', by simp; omega, rfl, by simp [pcells, vls, atD, ttD, sentM]⟩
    · simp only [go_sem, he, pa, pcells, vls, msV, w5, Kloop_norm]
      exact ⟨by rfl, (n % 2500 + 1).toNat - (k + 1), _, by omega, (by simp [norm, normGo, boxesBelow, ownIds, adelAll, V.under, St.get, St.obf, aget, adel, pcells, vls]; rfl), k + 1, p', rs, by omega, by simpa using hG', by simpa using hO', by omega, rfl, by simp [pcells, vls]⟩
  · -- the second loop
    have hO2 : Ch rs ∧ ∃ r, rs[0]? = some (0, r) := by
      rcases hO with ⟨h1, _, _⟩ | ⟨_, _, h3, h4, _⟩
      · omega
      · exact ⟨h3, h4⟩
    obtain ⟨hC, r0, hr0⟩ := hO2
    have hpos : 0 < rs.length := (List.getElem?_eq_some_iff.1 hr0).1
    simp only [go_sem, hle]
    refine W_loop 112 [.own 8 false 3 1, .own 9 false 3 1, .keep 13] (fun j st => ∃ i : Nat, i ≤ rs.length ∧ j = rs.length - i ∧ st = ⟨[(8, .own 120 rs.length), (9, .own 121 rs.length), (13, iv i)], [(120, .vec false 3 1 rs.length (atD rs)), (121, .vec false 3 1 rs.length (ttD rs))], 2160⟩) (by omega) rs.length _ (by simp [norm, normGo, boxesBelow, ownIds, adelAll, V.under, St.get, St.obf, aget, adel]) ⟨0, by omega, rfl, rfl⟩ ?_
    rintro j st ⟨i, hi, rfl, rfl⟩
    have w1 : w64 ((i : Int) + 1) = i + 1 := w64_of (by omega)
    have w2 : w64 ((i : Int) + 2) = i + 2 := w64_of (by omega)
    by_cases h1 : (i : Int) + 1 < (rs.length : Int)
    rotate_left
    · have e0 := atD_get hr0
      have p0 : (0 : Int) < (rs.length : Int) := by omega
      simp only [go_sem, w1, h1, p0, atD_len, e0, hpos]
    obtain ⟨x, hx⟩ : ∃ x, rs[i]? = some x := ⟨_, List.getElem?_eq_getElem (by omega)⟩
    obtain ⟨y, hy⟩ : ∃ y, rs[i + 1]? = some y := ⟨_, List.getElem?_eq_getElem (by omega)⟩
    obtain ⟨c1, c2⟩ := hC.2 i x y hx hy
    have hxm := hC.1 x (List.mem_of_getElem? hx)
    have hym := hC.1 y (List.mem_of_getElem? hy)
    have g1 := atD_get hx
    have g2 := atD_get hy
    have g3 := ttD_get hx
    have t1 : ((i : Int) + 1).toNat = i + 1 := by omega
    have t2 : ((i : Int) + 2).toNat = i + 2 := by omega
    have l1 : (i : Int) < (rs.length : Int) := by omega
    have l2 : i < rs.length := by omega
    have l3 : i + 1 < rs.length := by omega
    have l4 : (0 : Int) ≤ (i : Int) + 1 := by omega
    have l5 : (0 : Int) ≤ (i : Int) + 2 := by omega
    have w3 : w64 (x.1 + (3 * x.2 + 1)) = x.1 + (3 * x.2 + 1) := w64_of (by omega)
    have q1 : ¬ x.1 + (3 * x.2 + 1) ≤ y.1 := by omega
    by_cases h2 : (i : Int) + 2 < (rs.length : Int)
    · obtain ⟨z, hz⟩ : ∃ z, rs[i + 2]? = some z := ⟨_, List.getElem?_eq_getElem (by omega)⟩
      obtain ⟨c3, c4⟩ := hC.2 (i + 1) y z hy hz
      have g4 := atD_get hz
      have l6 : i + 2 < rs.length := by omega
      have q2 : ¬ x.1 + (3 * x.2 + 1) ≤ z.1 := by omega
      simp only [go_sem, w1, w2, w3, h1, h2, l1, l2, l3, l4, l5, l6, t1, t2, g1, g2, g3, g4, q1, q2, atD_len, ttD_len, Kloop_norm]
      exact ⟨by rfl, rs.length - (i + 1), _, by omega, (by simp [norm, normGo, boxesBelow, ownIds, adelAll, V.under, St.get, St.obf, aget, adel]; rfl), i + 1, by omega, rfl, by simp⟩
    · simp only [go_sem, w1, w2, w3, h1, h2, l1, l2, l3, l4, l5, t1, t2, g1, g2, g3, q1, atD_len, ttD_len, Kloop_norm]
      exact ⟨by rfl, rs.length - (i + 1), _, by omega, (by simp [norm, normGo, boxesBelow, ownIds, adelAll, V.under, St.get, St.obf, aget, adel]; rfl), i + 1, by omega, rfl, by simp⟩
end Go.Proofs.Ytokbcminleemaaa.Vc
