/- The reference's decoder, told by the same 'dec'. -/
import Derived.Test.YtafbnfpabcaebaaXTlvCodes
import Derived.Test.YtafbnfpabcaebaaXTx15
import Derived.Test.YtafbnfpabcaebaaXTx7
import Derived.Test.YtafbnfpabcaebaaXTx8
namespace Go.Proofs.Ytafbnfpabcaebaa.Tlv
open Go.RowKit Go.Proofs.Ytafbnfpabcaebaa.XT Go.Proofs.YtafbnfpabcaebaaW.PrintWords
mutual
def toS : S26 → S53
  | ⟨a, b, c⟩ => ⟨a, b, toL c⟩
def toL : List S26 → List S53
  | [] => []
  | x :: r => toS x :: toL r
end
theorem toL_length (l : List S26) : (toL l).length = l.length := by
  induction l with
  | nil => rfl
  | cons x r ih => simp [toL, ih]
theorem toL_append (l m : List S26) : toL (l ++ m) = toL l ++ toL m := by
  induction l with
  | nil => rfl
  | cons x r ih => simp [toL, ih]
theorem rtag_eq (t : Int) : substationref10_tag.f t = some (tagB t) := tag_eq t
theorem rnest_eq (t : Int) : substationref10_Nested.f t = some (nestB t) := rfl
theorem head_ref (t : Int) (r : List Int) (d : Int) (hb : okB (t :: r)) (hl : r.length ≤ 2000) : substationref10_head.f (t :: r) d =
    some (if tagB t = false then (0, 0, 0, 15) else if d > 6 then (0, 0, 0, 17) else if (lenF r).2.2 ≠ 0 then (0, 0, 0, (lenF r).2.2) else if (lenF r).1 > ((r.drop (lenF r).2.1.toNat).length : Int) then (0, 0, 0, 13) else (t, 1 + (lenF r).2.1, (lenF r).1, 0)) := by
  have ht := hb t (by simp)
  rw [substationref10_head.f, if_pos (by simp only [List.length_cons]; omega), rd_zero, w64 (by omega) (by omega), rtag_eq]
  simp only [Option.bind_some]
  by_cases c1 : tagB t = false
  · rw [if_neg (by rw [c1]; simp), if_pos c1]
  rw [if_pos (by simpa using c1), if_neg c1]
  by_cases c2 : d > 6
  · rw [if_pos c2, if_pos c2]
  rw [if_neg c2, if_neg c2]
  match r, hb, hl with
  | [], _, _ => simp [lenF]
  | b :: r', hb, hl =>
    have hb0 := hb b (by simp)
    simp only [List.length_cons] at hl
    have er1 : rd (t :: b :: r') 1 = b := rfl
    rw [if_neg (by simp only [List.length_cons]; omega), if_pos (by simp only [List.length_cons]; omega), er1]
    by_cases h1 : b = 129
    · subst h1
      rw [if_pos rfl]
      match r', hb, hl with
      | [], _, _ => simp [lenF]
      | n :: q, hb, hl =>
        have hn := hb n (by simp)
        simp only [List.length_cons] at hl
        have er2 : rd (t :: 129 :: n :: q) 2 = n := rfl
        rw [if_neg (by simp only [List.length_cons]; omega), if_pos (by simp only [List.length_cons]; omega), er2, w64 (x := n) (by omega) (by omega)]
        simp only [lenF, if_true]
        by_cases c : n < 128
        · rw [if_pos c, if_pos c]; simp
        · rw [if_neg c, if_neg c]
          have e : (((129 :: n :: q).drop (2 : Int).toNat).length : Int) = (q.length : Int) := rfl
          have e2 : wrap64 (((t :: 129 :: n :: q).length : Int) - 3) = (q.length : Int) := by rw [w64 (by simp only [List.length_cons]; omega) (by simp only [List.length_cons]; omega)]; simp only [List.length_cons]; omega
          rw [e2]
          simp only [ne_eq, not_true_eq_false, if_false, e]
          by_cases c3 : (q.length : Int) < n
          · rw [if_pos c3, if_pos c3]
          · rw [if_neg c3, if_neg c3]; rfl
    · rw [if_neg h1]
      by_cases h2 : b = 130
      · subst h2
        rw [if_pos rfl]
        match r', hb, hl with
        | [], _, _ => simp [lenF]
        | [_], _, _ => simp [lenF]
        | x :: y :: q, hb, hl =>
          have hx := hb x (by simp)
          have hy := hb y (by simp)
          simp only [List.length_cons] at hl
          have er2 : rd (t :: 130 :: x :: y :: q) 2 = x := rfl
          have er3 : rd (t :: 130 :: x :: y :: q) 3 = y := rfl
          rw [if_neg (by simp only [List.length_cons]; omega), if_pos (by simp only [List.length_cons]; omega), if_pos (by simp only [List.length_cons]; omega), er2, er3, w64 (x := x) (by omega) (by omega), or8 x y hx.1 (by omega) hy.1 hy.2]
          have e2 : wrap64 (((t :: 130 :: x :: y :: q).length : Int) - 4) = (q.length : Int) := by rw [w64 (by simp only [List.length_cons]; omega) (by simp only [List.length_cons]; omega)]; simp only [List.length_cons]; omega
          have e : (((130 :: x :: y :: q).drop (3 : Int).toNat).length : Int) = (q.length : Int) := rfl
          have el : lenF (130 :: x :: y :: q) = if x * 256 + y < 256 then (0, 0, 16) else (x * 256 + y, 3, 0) := by simp [lenF]
          rw [e2, el]
          by_cases c : x * 256 + y < 256
          · rw [if_pos c, if_pos c]; simp
          · rw [if_neg c, if_neg c]
            simp only [ne_eq, not_true_eq_false, if_false, e]
            by_cases c3 : (q.length : Int) < x * 256 + y
            · rw [if_pos c3, if_pos c3]
            · rw [if_neg c3, if_neg c3]; rfl
      · rw [if_neg h2]
        have el : lenF (b :: r') = if b > 127 then (0, 0, 16) else (b, 1, 0) := by simp [lenF, h1, h2]
        rw [el]
        by_cases c : b > 127
        · rw [if_pos (by omega), if_pos c]; simp
        · rw [if_neg (by omega), if_neg c]
          have e2 : wrap64 (((t :: b :: r').length : Int) - 2) = (r'.length : Int) := by rw [w64 (by simp only [List.length_cons]; omega) (by simp only [List.length_cons]; omega)]; simp only [List.length_cons]; omega
          have e : (((b :: r').drop (1 : Int).toNat).length : Int) = (r'.length : Int) := rfl
          rw [e2, w64 (x := b) (by omega) (by omega)]
          simp only [ne_eq, not_true_eq_false, if_false, e]
          by_cases c3 : (r'.length : Int) < b
          · rw [if_pos c3, if_pos c3]
          · rw [if_neg c3, if_neg c3]; rfl
def ansR (acc : List S53) (x : List S26 × Int) : List S53 × Int := if x.2 = 0 then (acc ++ toL x.1, 0) else ([], x.2)
theorem ansR_err {acc : List S53} {x : List S26 × Int} {e : Int} (h : x = ([], e)) (he : e ≠ 0) : ansR acc x = ([], e) := by subst h; simp [ansR, he]
theorem ref_ev (f : Nat) : ∀ (b : List Int) (d : Int) (acc : List S53), b.length < f → okB b → b.length ≤ 1500 → 0 ≤ d → d ≤ 7 → acc.length + b.length ≤ 10000 →
    ∃ K, ∀ k, K ≤ k → substationref10_decode.l0 k b d acc = some (ansR acc (dec f b d)) := by
  induction f with
  | zero => intro b d acc h; omega
  | succ f ih =>
    intro b d acc hf hb hl h0 h7 hacc
    match b, hb with
    | [], _ =>
      refine ⟨1, fun k hk => ?_⟩
      obtain ⟨k, rfl⟩ : ∃ m, k = m + 1 := ⟨k - 1, by omega⟩
      rw [substationref10_decode.l0, if_neg (by simp)]
      simp [dec, ansR, toL]
    | t :: r, hb =>
      have ht := hb t (by simp)
      have hr : okB r := fun x hx => hb x (by simp [hx])
      have hlp : ((t :: r).length : Int) > 0 := by simp only [List.length_cons]; omega
      simp only [List.length_cons] at hf hl hacc
      have hhd := head_ref t r d hb (by omega)
      by_cases c1 : tagB t = false
      · refine ⟨1, fun k hk => ?_⟩
        obtain ⟨k, rfl⟩ : ∃ m, k = m + 1 := ⟨k - 1, by omega⟩
        rw [if_pos c1] at hhd
        rw [ansR_err (e := 15) (by simp [dec, c1]) (by decide), substationref10_decode.l0, if_pos hlp, hhd]
        rfl
      rw [if_neg c1] at hhd
      by_cases c2 : d > 6
      · refine ⟨1, fun k hk => ?_⟩
        obtain ⟨k, rfl⟩ : ∃ m, k = m + 1 := ⟨k - 1, by omega⟩
        rw [if_pos c2] at hhd
        rw [ansR_err (e := 17) (by simp only [dec]; rw [if_neg c1, if_pos c2]) (by decide), substationref10_decode.l0, if_pos hlp, hhd]
        rfl
      rw [if_neg c2] at hhd
      by_cases c3 : (lenF r).2.2 = 0
      · rw [if_neg (by rw [c3]; simp)] at hhd
        obtain ⟨n0, n1, j0, j1, j2, _, _⟩ := lenF_ok r hr c3
        obtain ⟨c, hc⟩ : ∃ c, c = r.drop (lenF r).2.1.toNat := ⟨_, rfl⟩
        rw [← hc] at hhd
        have hcl : c.length + 1 ≤ r.length := by rw [hc, List.length_drop]; omega
        have hcl2 : (c.length : Int) = (r.length : Int) - (lenF r).2.1 := by rw [hc, List.length_drop]; omega
        have hcb : okB c := by rw [hc]; exact okB_drop hr _
        by_cases c4 : (lenF r).1 > (c.length : Int)
        · refine ⟨1, fun k hk => ?_⟩
          obtain ⟨k, rfl⟩ : ∃ m, k = m + 1 := ⟨k - 1, by omega⟩
          rw [if_pos c4] at hhd
          rw [ansR_err (e := 13) (by simp only [dec]; rw [if_neg c1, if_neg c2, if_neg (by rw [c3]; simp), ← hc, if_pos c4]) (by decide), substationref10_decode.l0, if_pos hlp, hhd]
          rfl
        rw [if_neg c4] at hhd
        have ew : wrap64 (1 + (lenF r).2.1 + (lenF r).1) = 1 + (lenF r).2.1 + (lenF r).1 := w64 (by omega) (by omega)
        have et : (((t :: r).take (1 + (lenF r).2.1 + (lenF r).1).toNat).drop (1 + (lenF r).2.1).toNat) = c.take (lenF r).1.toNat := by
          rw [List.drop_take, show (1 + (lenF r).2.1).toNat = (lenF r).2.1.toNat + 1 from by omega, List.drop_succ_cons, ← hc]
          congr 1
          omega
        have ed : (t :: r).drop (1 + (lenF r).2.1 + (lenF r).1).toNat = c.drop (lenF r).1.toNat := by
          rw [show (1 + (lenF r).2.1 + (lenF r).1).toNat = ((lenF r).2.1.toNat + (lenF r).1.toNat) + 1 from by omega, List.drop_succ_cons, ← List.drop_drop, ← hc]
        have hrest := ih (c.drop (lenF r).1.toNat) d
        have hdl : (c.drop (lenF r).1.toNat).length ≤ c.length := by rw [List.length_drop]; omega
        have htl : (c.take (lenF r).1.toNat).length ≤ c.length := by rw [List.length_take]; omega
        have hlen : (1 + (lenF r).2.1 + (lenF r).1) ≤ ((t :: r).length : Int) := by simp only [List.length_cons]; omega
        by_cases c5 : nestB t = true
        · obtain ⟨K1, hK1⟩ := ih (c.take (lenF r).1.toNat) (d + 1) [] (by omega) (okB_take hcb _) (by omega) (by omega) (by omega) (by simp; omega)
          have hfk : ∀ k, K1 ≤ k → substationref10_decode.f (k + 1) (c.take (lenF r).1.toNat) (d + 1) = some (ansR [] (dec f (c.take (lenF r).1.toNat) (d + 1))) := fun k hk => by rw [substationref10_decode.f]; exact hK1 k hk
          have hst : ∀ k, substationref10_decode.l0 (k + 1) (t :: r) d acc = ((substationref10_decode.f k (c.take (lenF r).1.toNat) (d + 1)).bind fun bt274 => (if bt274.2 = 0 then (if acc.length < 2513169434916 then (if 0 ≤ 1 + (lenF r).2.1 + (lenF r).1 then (substationref10_decode.l0 k (c.drop (lenF r).1.toNat) d (acc ++ [(⟨t, ([] : List Int), bt274.1⟩ : S53)])) else (none)) else (none)) else (some (([] : List (S53)), bt274.2)))) := by
            intro k
            rw [substationref10_decode.l0, if_pos hlp, hhd]
            simp only [Option.bind_some, if_true]
            rw [rnest_eq, c5]
            simp only [Option.bind_some, if_true]
            rw [if_pos (by omega), ew, if_pos (by omega), if_pos hlen, et, ed, w64 (x := d + 1) (by omega) (by omega)]
          by_cases c6 : (dec f (c.take (lenF r).1.toNat) (d + 1)).2 = 0
          · obtain ⟨K2, hK2⟩ := hrest (acc ++ [(⟨t, ([] : List Int), toL (dec f (c.take (lenF r).1.toNat) (d + 1)).1⟩ : S53)]) (by omega) (okB_drop hcb _) (by omega) h0 h7 (by simp only [List.length_append, List.length_singleton]; omega)
            refine ⟨K1 + K2 + 6, fun k hk => ?_⟩
            obtain ⟨k, rfl⟩ : ∃ m, k = m + 2 := ⟨k - 2, by omega⟩
            rw [hst (k + 1), hfk k (by omega)]
            simp only [Option.bind_some]
            rw [show ansR [] (dec f (c.take (lenF r).1.toNat) (d + 1)) = (toL (dec f (c.take (lenF r).1.toNat) (d + 1)).1, 0) from by simp [ansR, c6]]
            simp only [if_true]
            rw [if_pos (by omega), if_pos (by omega), hK2 (k + 1) (by omega)]
            congr 1
            simp only [dec]
            rw [if_neg c1, if_neg c2, if_neg (by rw [c3]; simp), ← hc, if_neg c4, if_pos c5, if_neg (by rw [c6]; simp)]
            by_cases c7 : (dec f (c.drop (lenF r).1.toNat) d).2 = 0
            · rw [if_neg (by rw [c7]; simp)]; simp [ansR, c7, toL, toS]
            · rw [if_pos c7]; simp [ansR, c7]
          · refine ⟨K1 + 6, fun k hk => ?_⟩
            obtain ⟨k, rfl⟩ : ∃ m, k = m + 2 := ⟨k - 2, by omega⟩
            rw [hst (k + 1), hfk k (by omega)]
            simp only [Option.bind_some]
            rw [show ansR [] (dec f (c.take (lenF r).1.toNat) (d + 1)) = ([], (dec f (c.take (lenF r).1.toNat) (d + 1)).2) from by simp [ansR, c6]]
            simp only []
            rw [if_neg c6]
            congr 1
            symm
            refine ansR_err ?_ c6
            simp only [dec]
            rw [if_neg c1, if_neg c2, if_neg (by rw [c3]; simp), ← hc, if_neg c4, if_pos c5, if_pos c6]
        · obtain ⟨K2, hK2⟩ := hrest (acc ++ [(⟨t, c.take (lenF r).1.toNat, ([] : List S53)⟩ : S53)]) (by omega) (okB_drop hcb _) (by omega) h0 h7 (by simp only [List.length_append, List.length_singleton]; omega)
          refine ⟨K2 + 6, fun k hk => ?_⟩
          obtain ⟨k, rfl⟩ : ∃ m, k = m + 1 := ⟨k - 1, by omega⟩
          rw [substationref10_decode.l0, if_pos hlp, hhd]
          simp only [Option.bind_some, if_true]
          rw [rnest_eq]
          simp only [Option.bind_some]
          rw [if_neg c5, if_pos (by omega), ew, if_pos (by omega), if_pos hlen, et, ed, if_pos (by simp only [List.length_nil]; omega), if_pos (by omega), if_pos (by omega), List.nil_append, hK2 k (by omega)]
          congr 1
          simp only [dec]
          rw [if_neg c1, if_neg c2, if_neg (by rw [c3]; simp), ← hc, if_neg c4, if_neg c5]
          by_cases c7 : (dec f (c.drop (lenF r).1.toNat) d).2 = 0
          · rw [if_neg (by rw [c7]; simp)]; simp [ansR, c7, toL, toS]
          · rw [if_pos c7]; simp [ansR, c7]
      · refine ⟨1, fun k hk => ?_⟩
        obtain ⟨k, rfl⟩ : ∃ m, k = m + 1 := ⟨k - 1, by omega⟩
        rw [if_pos c3] at hhd
        rw [ansR_err (e := (lenF r).2.2) (by simp only [dec]; rw [if_neg c1, if_neg c2, if_pos c3]) c3, substationref10_decode.l0, if_pos hlp, hhd]
        simp only [Option.bind_some]
        rw [if_neg c3]
theorem RefDecode_ev (b : List Int) (hb : okB b) : ∃ K, ∀ k, K ≤ k → substationref10_Decode.f k b = some (if b.length > 1500 then ([], 4) else (toL (dec (b.length + 1) b 0).1, (dec (b.length + 1) b 0).2)) := by
  by_cases c : b.length > 1500
  · refine ⟨0, fun k _ => ?_⟩
    rw [substationref10_Decode.f, if_pos (by omega), if_pos c]
  · obtain ⟨K, hK⟩ := ref_ev (b.length + 1) b 0 [] (by omega) hb (by omega) (by omega) (by omega) (by simp; omega)
    refine ⟨K + 1, fun k hk => ?_⟩
    obtain ⟨k, rfl⟩ : ∃ m, k = m + 1 := ⟨k - 1, by omega⟩
    rw [substationref10_Decode.f, if_neg (by omega), if_neg c, substationref10_decode.f, hK k (by omega)]
    simp only [Option.bind_some]
    congr 1
    have e : ansR [] (dec (b.length + 1) b 0) = (toL (dec (b.length + 1) b 0).1, (dec (b.length + 1) b 0).2) := by
      unfold ansR
      split
      · rename_i h; exact Prod.ext (List.nil_append _) h.symm
      · rename_i h; rw [dec_err _ _ _ h]; rfl
    rw [e]
theorem rd53_app (pre : List S53) (x : S53) (m : List S53) : rd_T53 (pre ++ x :: m) (pre.length : Int) = x := by simp [rd_T53]
/-- The translation of such nodes. -/
theorem codes_To {d : Int} {m : List S26} {b : List Int} (h : Codes d m b) : b.length ≤ 10000 → ∀ (pre : List S26) (acc : List S53), pre.length + m.length ≤ 20000 → acc.length + m.length ≤ 20000 →
    ∃ K, ∀ k, K ≤ k → substationlaw10_To.l0 k (pre ++ m) acc (pre.length : Int) = some (acc ++ toL m) := by
  have step : ∀ (k : Nat) (L : List S26) (acc : List S53) (i : Int) (ks : List S53), 0 ≤ i → i < (L.length : Int) → L.length ≤ 20000 → acc.length ≤ 20000 → substationlaw10_To.f k (rd_T26 L i).f2 = some ks →
      substationlaw10_To.l0 (k + 1) L acc i = substationlaw10_To.l0 k L (acc ++ [(⟨(rd_T26 L i).f0, (rd_T26 L i).f1, ks⟩ : S53)]) (i + 1) := by
    intro k L acc i ks h0 h1 hL ha hk
    rw [substationlaw10_To.l0, if_pos h1, if_pos h0, hk]
    simp only [Option.bind_some]
    rw [if_pos (by omega), w64 (x := i + 1) (by omega) (by omega)]
  induction h with
  | nil d =>
    intro _ pre acc _ _
    refine ⟨1, fun k hk => ?_⟩
    obtain ⟨k, rfl⟩ : ∃ m, k = m + 1 := ⟨k - 1, by omega⟩
    rw [substationlaw10_To.l0, if_neg (by simp)]
    simp [toL]
  | @prim d t data m b ht h6 hn hok h ih =>
    intro hl pre acc hp ha
    simp only [List.length_cons, List.length_append] at hp hl ha
    obtain ⟨K, hK⟩ := ih (by omega) (pre ++ [⟨t, data, []⟩]) (acc ++ [(⟨t, data, []⟩ : S53)]) (by simp only [List.length_append, List.length_singleton]; omega) (by simp only [List.length_append, List.length_singleton]; omega)
    refine ⟨K + 5, fun k hk => ?_⟩
    obtain ⟨k, rfl⟩ : ∃ m, k = m + 3 := ⟨k - 3, by omega⟩
    have hk2 := hK (k + 2) (by omega)
    rw [snoc_eq, snoc_len] at hk2
    have hr := rd_app pre ⟨t, data, []⟩ m
    have hz : substationlaw10_To.f (k + 2) ([] : List S26) = some [] := by rw [substationlaw10_To.f, substationlaw10_To.l0, if_neg (by simp)]
    rw [step (k + 2) _ acc _ [] (by omega) (mid_lt _ _ _) (by rw [mid_len]; omega) (by omega) (by rw [hr]; exact hz), hr]
    refine hk2.trans ?_
    simp [toL, toS]
  | @cons d t kids m kb b ht h6 hn hk h ihk ih =>
    intro hl pre acc hp ha
    simp only [List.length_cons, List.length_append] at hp hl ha
    have hkl := codes_len hk
    obtain ⟨K, hK⟩ := ih (by omega) (pre ++ [⟨t, [], kids⟩]) (acc ++ [(⟨t, [], toL kids⟩ : S53)]) (by simp only [List.length_append, List.length_singleton]; omega) (by simp only [List.length_append, List.length_singleton]; omega)
    obtain ⟨K2, hK2⟩ := ihk (by omega) [] [] (by simp only [List.length_nil]; omega) (by simp only [List.length_nil]; omega)
    refine ⟨K + K2 + 5, fun k hk => ?_⟩
    obtain ⟨k, rfl⟩ : ∃ m, k = m + 3 := ⟨k - 3, by omega⟩
    have hk2 := hK (k + 2) (by omega)
    rw [snoc_eq, snoc_len] at hk2
    have hk3 : substationlaw10_To.f (k + 2) kids = some (toL kids) := by
      have h3 := hK2 (k + 1) (by omega)
      simp only [List.nil_append, List.length_nil, Int.natCast_zero] at h3
      rw [substationlaw10_To.f, h3]
    have hr := rd_app pre ⟨t, [], kids⟩ m
    rw [step (k + 2) _ acc _ (toL kids) (by omega) (mid_lt _ _ _) (by rw [mid_len]; omega) (by omega) (by rw [hr]; exact hk3), hr]
    refine hk2.trans ?_
    simp [toL, toS]
/-- Such nodes are the same as themselves. -/
theorem codes_Same {d : Int} {m : List S26} {b : List Int} (h : Codes d m b) : b.length ≤ 10000 → ∀ (pre : List S53), pre.length + m.length ≤ 20000 →
    ∃ K, ∀ k, K ≤ k → substationref10_Same.l0 k (pre ++ toL m) (pre ++ toL m) (pre.length : Int) = some true := by
  have step : ∀ (k : Nat) (L : List S53) (i : Int), 0 ≤ i → i < (L.length : Int) → L.length ≤ 20000 → substationref10_Same.f k (rd_T53 L i).f2 (rd_T53 L i).f2 = some true →
      substationref10_Same.l0 (k + 1) L L i = substationref10_Same.l0 k L L (i + 1) := by
    intro k L i h0 h1 hL hk
    rw [substationref10_Same.l0, if_pos h1, if_pos h0, if_pos h1, if_pos rfl, if_pos rfl, hk]
    simp only [Option.bind_some, if_true]
    rw [w64 (x := i + 1) (by omega) (by omega)]
  have sn : ∀ (pre : List S53) (x : S53) (m : List S53), pre ++ [x] ++ m = pre ++ x :: m := by intros; simp
  have sl : ∀ (pre : List S53) (x : S53), ((pre ++ [x]).length : Int) = (pre.length : Int) + 1 := by intros; simp
  have ml : ∀ (pre : List S53) (x : S53) (m : List S53), (pre.length : Int) < ((pre ++ x :: m).length : Int) := by intros; simp only [List.length_append, List.length_cons]; omega
  induction h with
  | nil d =>
    intro _ pre _
    refine ⟨1, fun k hk => ?_⟩
    obtain ⟨k, rfl⟩ : ∃ m, k = m + 1 := ⟨k - 1, by omega⟩
    rw [substationref10_Same.l0, if_neg (by simp [toL])]
  | @prim d t data m b ht h6 hn hok h ih =>
    intro hl pre hp
    simp only [List.length_cons, List.length_append] at hp hl
    obtain ⟨K, hK⟩ := ih (by omega) (pre ++ [⟨t, data, []⟩]) (by simp only [List.length_append, List.length_singleton]; omega)
    refine ⟨K + 5, fun k hk => ?_⟩
    obtain ⟨k, rfl⟩ : ∃ m, k = m + 3 := ⟨k - 3, by omega⟩
    have hk2 := hK (k + 2) (by omega)
    rw [sn, sl] at hk2
    have e : toL ((⟨t, data, []⟩ : S26) :: m) = (⟨t, data, []⟩ : S53) :: toL m := by simp [toL, toS]
    have hr := rd53_app pre ⟨t, data, []⟩ (toL m)
    have hz : substationref10_Same.f (k + 2) ([] : List S53) [] = some true := by rw [substationref10_Same.f, if_pos rfl, substationref10_Same.l0, if_neg (by simp)]
    rw [e, step (k + 2) _ _ (by omega) (ml _ _ _) (by simp only [List.length_append, List.length_cons, toL_length]; omega) (by rw [hr]; exact hz)]
    exact hk2
  | @cons d t kids m kb b ht h6 hn hk h ihk ih =>
    intro hl pre hp
    simp only [List.length_cons, List.length_append] at hp hl
    have hkl := codes_len hk
    obtain ⟨K, hK⟩ := ih (by omega) (pre ++ [⟨t, [], toL kids⟩]) (by simp only [List.length_append, List.length_singleton]; omega)
    obtain ⟨K2, hK2⟩ := ihk (by omega) [] (by simp only [List.length_nil]; omega)
    refine ⟨K + K2 + 5, fun k hk => ?_⟩
    obtain ⟨k, rfl⟩ : ∃ m, k = m + 3 := ⟨k - 3, by omega⟩
    have hk2 := hK (k + 2) (by omega)
    rw [sn, sl] at hk2
    have e : toL ((⟨t, [], kids⟩ : S26) :: m) = (⟨t, [], toL kids⟩ : S53) :: toL m := by simp [toL, toS]
    have hr := rd53_app pre ⟨t, [], toL kids⟩ (toL m)
    have hk3 : substationref10_Same.f (k + 2) (toL kids) (toL kids) = some true := by
      have h3 := hK2 (k + 1) (by omega)
      simp only [List.nil_append, List.length_nil, Int.natCast_zero] at h3
      rw [substationref10_Same.f, if_pos rfl, h3]
    rw [e, step (k + 2) _ _ (by omega) (ml _ _ _) (by simp only [List.length_append, List.length_cons, toL_length]; omega) (by rw [hr]; exact hk3)]
    exact hk2
end Go.Proofs.Ytafbnfpabcaebaa.Tlv
