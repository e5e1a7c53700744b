/- Decoding: contracts. -/
import Derived.Test.YtbdohnigbnhjnaaTvC
import Derived.Test.YtbdohnigbnhjnaaTvDec
import Derived.Test.YtbdohnigbnhjnaaTvBits
set_option linter.unusedSimpArgs false
set_option linter.unusedVariables false
set_option linter.unusedSectionVars false
namespace Go.Proofs.Ytbdohnigbnhjnaa.Vc
open Go Go.Vk Go.Tv Go.Proofs
set_option maxRecDepth 100000
set_option maxHeartbeats 4000000
attribute [local go_sem ↓] W_skip W_reg W_draw W_seq W_cond W_block W_exit W_label W_goto W_ret Kseq_norm Kseq_ret Kseq_ex Kseq_go Kseq_pan Kblk_norm Kblk_ret Kblk_self Kblk_ne Kblk_go Kblk_pan Kloop_ret Kloop_ex Kloop_go Kloop_pan KseqS_norm KseqS_ret KseqS_ex KseqS_pan Kend_norm Kend_ret Kend_ex KscS_norm KscS_ret KscS_ex KscS_go KscB_norm KscB_ret KscB_ex KscB_pan Wr_nil Wr_g Wg_11 Wg_00 Wg_10 Wg_01 Wg_skip Wr_call Wr_callv Wr_inv Winv_if Winv2_some Wr_panic Wr_isnil Wr_op Ev_some Wcv_fn Wd_callv Wd_inv Wdcv_fn Wdinv_if Wdinv2_some ifV_agg ifV_int Wnil_some Wpan_if Wcond_t Wcond_f Wd_nil Wd_g Wd_call Wd_op Wdg_11 Wdg_00 Wdg_10 Wdg_01 Wdg_skip Evd_some step_some step_none val_t val_c get_mk obf_mk rdl_nil rdl_cons aget_cons aget_nil
attribute [local go_sem] pl_mv pl_pick pl_box pl_build pl_bsl pl_ld pl_st pl_nilc pl_bin pl_eqb pl_eq pl_eqn pl_un pl_cvi pl_cvs pl_s2b pl_b2s pl_mki pl_mkf pl_mks pl_sl pl_sls pl_fa pl_fld pl_ia pl_iaA pl_ix pl_ixs pl_ta pl_ex pl_len pl_lens pl_mn pl_mx pl_app pl_apps ev aset adel upd Option.getD_some passAll passV List.append_nil reduceIte Nat.reduceEqDiff decide_eq_true_eq Bool.false_eq_true Bool.true_eq_false reduceCtorEq Nat.reduceAdd updf V.sliceOf placeD placeV V.toDs V.toD1 V.cells List.map_cons List.map_nil Nat.mul_one Nat.zero_mul List.length_nil List.length_cons Nat.zero_add List.nil_append true_and and_true and_self Nat.zero_lt_one if_true if_false Nat.reduceLT Nat.reduceLeDiff Nat.reduceMul splice List.take_zero List.drop_zero List.drop_nil Bool.not_true Bool.not_false bne_self_eq_false Bool.bne_true Bool.bne_false Bool.false_bne Bool.true_bne List.cons_append eq_self Option.map_some Option.map_none boundO bound b_and b_or b_add b_sub b_mul b_rem b_eql b_neq b_lss b_leq b_gtr b_geq b_seql b_sneq b_shr8 b_shl8 decide_true decide_false IOp.xs List.flatMap_cons List.flatMap_nil V.ids V.ids1 V.ids0
attribute [local go_sem] Vk.RetB resVs resV outOf Vk.init recvs recvV recv enumFrom
attribute [local go_sem] bs_length NDs_length VLDs_length bs_nil bs_cons bytesOf_bs
attribute [local go_sem] le_1 le_2 le_3 le_4 le_5 le_6 le_7 le_8 le_9 le_10 le_11 le_12 le_o0 ck_bool ck_int ck_str ck_slice ck_ni ck_if ck_nils ck_own nat_nn Int.cast_ofNat_Int datas V.data? eqCells eqD Bool.true_and Bool.false_and List.all_cons List.all_nil Bool.and_true Bool.and_self List.take_succ_cons List.drop_succ_cons List.getElem?_cons_zero List.getElem?_cons_succ Int.toNat_natCast Nat.add_zero Nat.sub_zero
attribute [local go_sem] Int.reduceBEq Int.reduceBNe Int.reduceLT Int.reduceLE Int.reduceGT Int.reduceGE Int.reduceEq Int.reduceNe Int.reduceAdd Int.reduceSub Int.reduceMul Int.reduceToNat beq_self_eq_true bne_self_eq_false Nat.reduceBEq Nat.reduceSub ge_iff_le gt_iff_lt
def beF : List UInt8 → Int → Int
  | [], n => n
  | c :: r, n => beF r (n * 256 + c.toNat)
theorem beF_append (a b : List UInt8) (n : Int) : beF (a ++ b) n = beF b (beF a n) := by
  induction a generalizing n with
  | nil => rfl
  | cons c r ih => simp [beF, ih]
theorem beF_rng (a : List UInt8) (n : Int) (h : a.length ≤ 2) (hn : n = 0) : 0 ≤ beF a n ∧ beF a n < 65536 := by
  subst hn
  match a with
  | [] => simp [beF]
  | [x] => have := x.toNat_lt; simp [beF]; omega
  | [x, y] => have := x.toNat_lt; have := y.toNat_lt; simp [beF]; omega
  | _ :: _ :: _ :: _ => simp at h
theorem u8_ne_int {b : UInt8} {n : UInt8} (h : b ≠ n) : ((b.toNat : Int) == (n.toNat : Int)) = false := by
  have : b.toNat ≠ n.toNat := fun e => h (UInt8.toNat_inj.1 e)
  simp
  omega
theorem at_byte {L pre rest : List UInt8} {c : UInt8} (h : L = pre ++ c :: rest) : ((pre.length : Int) < (L.length : Int)) ∧ (bs L).drop pre.length = byteD c :: bs rest ∧ pre.length < L.length := by
  subst h
  refine ⟨by simp; omega, ?_, by simp⟩
  have e : bs (pre ++ c :: rest) = bs pre ++ (byteD c :: bs rest) := by simp [bs]
  rw [e, List.drop_append_of_le_length (by rw [bs_length]; omega), List.drop_of_length_le (by rw [bs_length]; omega)]
  rfl
theorem be_step {L pre rest : List UInt8} {c : UInt8} (h : L = pre ++ c :: rest) (hL : L.length ≤ 2) : w64 (beF pre 0 * 256) = beF pre 0 * 256 ∧ bor (beF pre 0 * 256) c.toNat = beF (pre ++ [c]) 0 := by
  have h1 : pre.length ≤ 1 := by subst h; simp at hL; omega
  have h2 := beF_rng pre 0 (by omega) rfl
  have hc := c.toNat_lt
  refine ⟨w64_of (by omega), ?_⟩
  rw [bor_byte (by omega) (by omega) (by omega), beF_append]
  rfl
theorem tcLength (b : List UInt8) (h : b.length ≤ 100000) : TC Try.prog 64 [bv b] (.tup [iv (lenF b).1, iv (lenF b).2.1, iv (lenF b).2.2]) := by
  refine tcW Try.func64 k64 h64 (by simp [c64]) (by simp) [] ?_
  cases b with
  | nil => simp only [go_sem, c64, bv, lenF]
  | cons b0 r =>
  have l0 := b0.toNat_lt
  simp only [List.length_cons] at h
  have e129 : UInt8.toNat 129 = 129 := rfl
  have e130 : UInt8.toNat 130 = 130 := rfl
  by_cases h1 : b0 = 129
  · subst h1
    cases r with
    | nil => simp only [go_sem, c64, bv, lenF, byteD, e129]
    | cons x r =>
      simp only [List.length_cons] at h
      have lx := x.toNat_lt
      have n1 : (((r.length + 1 + 1 : Nat) : Int) == 0) = false := by simp; omega
      have n2 : ¬ (((r.length + 1 + 1 : Nat) : Int) < 2) := by omega
      have n3 : (2 : Int) ≤ ((r.length + 1 + 1 : Nat) : Int) := by omega
      have n5 : 0 < r.length + 1 + 1 := by omega
      have n4 : (0 : Int) < ((r.length + 1 + 1 : Nat) : Int) := by omega
      simp only [go_sem, c64, bv, byteD, e129, n1, n2, n3, n4, n5]
      refine W_loop 64 [.keep 2, .keep 3, .keep 29, .keep 30, .keep 31] (fun m st => ∃ pre rest, [x] = pre ++ rest ∧ m = rest.length ∧ st = ⟨[(2, iv (beF pre 0)), (3, iv 2), (29, .d (.slice 1 (bs [x]))), (30, iv 1), (31, iv pre.length)], [], 2112⟩) (by omega) 1 _ (by simp [norm, normGo, boxesBelow, ownIds, adelAll, V.under, St.get, St.obf, aget, adel, bs, byteD, beF]) ⟨[], [x], rfl, rfl, rfl⟩ ?_
      rintro m st ⟨pre, rest, hL, rfl, rfl⟩
      cases rest with
      | nil =>
        have hp : pre = [x] := by simpa using hL.symm
        subst hp
        have e1 : beF [x] 0 = x.toNat := by simp [beF]
        simp only [go_sem, e1]
        refine Wcall_at (tc63 x.toNat) (by rfl) ?_
        by_cases hx : x.toNat < 128
        · have e2 : headF x.toNat = 1 := by simp [headF]; omega
          simp only [go_sem, e2, lenF, if_pos hx]
        · have e2 : headF x.toNat = 2 := by unfold headF; rw [if_neg (by omega), if_pos (by omega)]
          simp only [go_sem, e2, lenF, if_neg hx]
      | cons c rest =>
        obtain ⟨rfl, rfl, rfl⟩ : pre = [] ∧ c = x ∧ rest = [] := by cases pre <;> simp_all
        have q1 : w64 0 = 0 := by decide
        have q2 : bor 0 c.toNat = c.toNat := by rw [bor_byte (by omega) (by omega) (by omega)]; omega
        have w5 : w64 1 = 1 := by decide
        simp only [go_sem, byteD, beF, wu8, q1, q2, w5, Kloop_norm]
        exact ⟨0, _, by omega, (by simp [norm, normGo, boxesBelow, ownIds, adelAll, V.under, St.get, St.obf, aget, adel, bs, byteD, wu8]; rfl), [c], [], by simp, rfl, by simp [beF, bs, byteD]⟩
  by_cases h2 : b0 = 130
  · subst h2
    cases r with
    | nil => simp only [go_sem, c64, bv, lenF, byteD, e130, show ¬ (130 : UInt8) = 129 from by decide]
    | cons x r =>
    cases r with
    | nil => simp only [go_sem, c64, bv, lenF, byteD, e130, show ¬ (130 : UInt8) = 129 from by decide]
    | cons y r =>
      simp only [List.length_cons] at h
      have lx := x.toNat_lt
      have ly := y.toNat_lt
      have n1 : (((r.length + 1 + 1 + 1 : Nat) : Int) == 0) = false := by simp; omega
      have n2 : ¬ (((r.length + 1 + 1 + 1 : Nat) : Int) < 3) := by omega
      have n3 : (3 : Int) ≤ ((r.length + 1 + 1 + 1 : Nat) : Int) := by omega
      have n5 : 0 < r.length + 1 + 1 + 1 := by omega
      have n4 : (0 : Int) < ((r.length + 1 + 1 + 1 : Nat) : Int) := by omega
      simp only [go_sem, c64, bv, byteD, e130, n1, n2, n3, n4, n5]
      refine W_loop 64 [.keep 2, .keep 3, .keep 29, .keep 30, .keep 31] (fun m st => ∃ pre rest, [x, y] = pre ++ rest ∧ m = rest.length ∧ st = ⟨[(2, iv (beF pre 0)), (3, iv 3), (29, .d (.slice 2 (bs [x, y]))), (30, iv 2), (31, iv pre.length)], [], 2112⟩) (by omega) 2 _ (by simp [norm, normGo, boxesBelow, ownIds, adelAll, V.under, St.get, St.obf, aget, adel, bs, byteD, beF]) ⟨[], [x, y], rfl, rfl, rfl⟩ ?_
      rintro m st ⟨pre, rest, hL, rfl, rfl⟩
      cases rest with
      | nil =>
        have hp : pre = [x, y] := by simpa using hL.symm
        subst hp
        have e1 : beF [x, y] 0 = ((x.toNat * 256 + y.toNat : Nat) : Int) := by simp [beF]
        simp only [go_sem, e1]
        refine Wcall_at (tc63 ((x.toNat * 256 + y.toNat : Nat) : Int)) (by rfl) ?_
        by_cases hx : x.toNat * 256 + y.toNat < 256
        · have e2 : (headF ((x.toNat * 256 + y.toNat : Nat) : Int) != 3) = true := by unfold headF; split <;> (try split) <;> simp <;> omega
          simp only [go_sem, e2, lenF, if_pos hx, show ¬ (130 : UInt8) = 129 from by decide]
        · have e2 : headF ((x.toNat * 256 + y.toNat : Nat) : Int) = 3 := by unfold headF; rw [if_neg (by omega), if_neg (by omega)]
          simp only [go_sem, e2, lenF, if_neg hx, show ¬ (130 : UInt8) = 129 from by decide]
      | cons c rest =>
        have q1 : w64 0 = 0 := by decide
        have w5 : w64 1 = 1 := by decide
        have w6 : w64 2 = 2 := by decide
        cases pre with
        | nil =>
          obtain ⟨rfl, rfl⟩ : c = x ∧ rest = [y] := by simp_all
          have q2 : bor 0 c.toNat = c.toNat := by rw [bor_byte (by omega) (by omega) (by omega)]; omega
          simp only [go_sem, byteD, beF, wu8, q1, q2, w5, Kloop_norm]
          exact ⟨1, _, by simp, (by simp [norm, normGo, boxesBelow, ownIds, adelAll, V.under, St.get, St.obf, aget, adel, bs, byteD, wu8]; rfl), [c], [y], by simp, rfl, by simp [beF, bs, byteD]⟩
        | cons p0 pre =>
          obtain ⟨rfl, rfl, rfl, rfl⟩ : p0 = x ∧ pre = [] ∧ c = y ∧ rest = [] := by cases pre <;> simp_all
          have q3 : w64 ((p0.toNat : Int) * 256) = p0.toNat * 256 := w64_of (by omega)
          have q2 : bor ((p0.toNat : Int) * 256) c.toNat = p0.toNat * 256 + c.toNat := bor_byte (by omega) (by omega) (by omega)
          simp only [go_sem, byteD, beF, Int.zero_mul, Int.zero_add, wu8, q3, q2, w6, Kloop_norm]
          exact ⟨0, _, by simp, (by simp [norm, normGo, boxesBelow, ownIds, adelAll, V.under, St.get, St.obf, aget, adel, bs, byteD, wu8]; rfl), [p0, c], [], by simp, rfl, by simp [beF, bs, byteD]⟩
  have n1 : (((r.length + 1 : Nat) : Int) == 0) = false := by simp; omega
  have n2 : ¬ (((r.length + 1 : Nat) : Int) < 1) := by omega
  have n5 : 0 < r.length + 1 := by omega
  have n4 : (0 : Int) < ((r.length + 1 : Nat) : Int) := by omega
  have m1 : ((b0.toNat : Int) == 129) = false := u8_ne_int h1
  have m2 : ((b0.toNat : Int) == 130) = false := u8_ne_int h2
  have w1 : IntKind.i64.wrap (b0.toNat : Int) = b0.toNat := w64_of (by omega)
  by_cases h3 : b0.toNat > 127
  · have h3' : (127 : Int) < b0.toNat := by omega
    simp only [go_sem, c64, bv, byteD, n1, n2, n4, n5, m1, m2, w1, h3', lenF, if_neg h1, if_neg h2, if_pos h3]
  · have h3' : ¬ (127 : Int) < b0.toNat := by omega
    simp only [go_sem, c64, bv, byteD, n1, n2, n4, n5, m1, m2, w1, h3']
    refine Wcall_at (tc63 b0.toNat) (by rfl) ?_
    have e2 : headF b0.toNat = 1 := by simp [headF]; omega
    simp only [go_sem, e2, lenF, if_neg h1, if_neg h2, if_neg h3]
end Go.Proofs.Ytbdohnigbnhjnaa.Vc
