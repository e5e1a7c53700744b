/- The printed decoder comes to what 'dec' tells. -/
import Derived.Test.YtafbnfpabcaebaaXTlvDec
namespace Go.Proofs.Ytafbnfpabcaebaa.Tlv
open Go.RowKit Go.Proofs.Ytafbnfpabcaebaa.XT Go.Proofs.YtafbnfpabcaebaaW.PrintWords
def ans (acc : List S26) (x : List S26 × Int) : List S26 × Int := if x.2 = 0 then (acc ++ x.1, 0) else ([], x.2)
theorem ans_err {acc : List S26} {x : List S26 × Int} {e : Int} (h : x = ([], e)) (he : e ≠ 0) : ans acc x = ([], e) := by subst h; simp [ans, he]
theorem dec_err (f : Nat) : ∀ b d, (dec f b d).2 ≠ 0 → (dec f b d).1 = [] := by
  intro b d h
  match f, b with
  | 0, _ => rfl
  | f + 1, [] => rfl
  | f + 1, t :: r =>
    simp only [dec] at h ⊢
    split; · rfl
    rename_i h1; rw [if_neg h1] at h
    split; · rfl
    rename_i h2; rw [if_neg h2] at h
    split; · rfl
    rename_i h3; rw [if_neg h3] at h
    split; · rfl
    rename_i h4; rw [if_neg h4] at h
    split
    · rename_i h5; rw [if_pos h5] at h
      split; · rfl
      rename_i h6; rw [if_neg h6] at h
      split; · rfl
      rename_i h7; rw [if_neg h7] at h
      exact absurd rfl h
    · rename_i h5; rw [if_neg h5] at h
      split; · rfl
      rename_i h6; rw [if_neg h6] at h
      exact absurd rfl h
theorem list_ev (f : Nat) : ∀ (b : List Int) (d : Int) (acc : List S26), b.length < f → okB b → b.length ≤ 1500 → 0 ≤ d → d ≤ 7 → acc.length + b.length ≤ 10000 →
    ∃ K, ∀ k, K ≤ k → tlv_list.l0 k b d acc = some (ans acc (dec f b d)) := by
  induction f with
  | zero => intro b d acc h; omega
  | succ f ih =>
    intro b d acc hf hb hl h0 h7 hacc
    match b, hb with
    | [], _ =>
      refine ⟨1, fun k hk => ?_⟩
      obtain ⟨k, rfl⟩ : ∃ m, k = m + 1 := ⟨k - 1, by omega⟩
      rw [tlv_list.l0, if_pos (by simp)]
      simp [dec, ans]
    | t :: r, hb =>
      have ht := hb t (by simp)
      have hr : okB r := fun x hx => hb x (by simp [hx])
      have hln : ¬ (((t :: r).length : Int) = 0) := by simp only [List.length_cons]; omega
      have hlp : (0 : Int) < ((t :: r).length : Int) := by simp only [List.length_cons]; omega
      have hl1 : (1 : Int) ≤ ((t :: r).length : Int) := by simp only [List.length_cons]; omega
      simp only [List.length_cons] at hf hl hacc
      by_cases c1 : tagB t = false
      · refine ⟨1, fun k hk => ?_⟩
        obtain ⟨k, rfl⟩ : ∃ m, k = m + 1 := ⟨k - 1, by omega⟩
        rw [ans_err (e := 15) (by simp [dec, c1]) (by decide), tlv_list.l0, if_neg hln, if_pos hlp, rd_zero, w64 (by omega) (by omega), tag_eq, c1]
        simp
      have c1' : tagB t = true := by simpa using c1
      by_cases c2 : d > 6
      · refine ⟨1, fun k hk => ?_⟩
        obtain ⟨k, rfl⟩ : ∃ m, k = m + 1 := ⟨k - 1, by omega⟩
        rw [ans_err (e := 17) (by simp [dec, c1', c2]) (by decide), tlv_list.l0, if_neg hln, if_pos hlp, rd_zero, w64 (by omega) (by omega), tag_eq, c1']
        simp only [Option.bind_some, if_true]
        rw [if_pos c2]
      by_cases c3 : (lenF r).2.2 = 0
      · obtain ⟨n0, n1, j0, j1, j2, _, _⟩ := lenF_ok r hr c3
        -- the contents
        obtain ⟨c, hc⟩ : ∃ c, c = r.drop (lenF r).2.1.toNat := ⟨_, rfl⟩
        have hcl : c.length + 1 ≤ r.length := by rw [hc, List.length_drop]; omega
        have hcb : okB c := by rw [hc]; exact okB_drop hr _
        have ej : wrap64 (1 + (lenF r).2.1) = 1 + (lenF r).2.1 := w64 (by omega) (by omega)
        have ed : (t :: r).drop (1 + (lenF r).2.1).toNat = c := by
          rw [hc, show (1 + (lenF r).2.1).toNat = (lenF r).2.1.toNat + 1 from by omega]; rfl
        have hstep : ∀ k, tlv_list.l0 (k + 6) (t :: r) d acc = (if (lenF r).1 > (c.length : Int) then (some (([] : List S26), 13)) else (if 0 ≤ (lenF r).1 then (if (lenF r).1 ≤ (c.length : Int) then ((some (c.take (lenF r).1.toNat : List Int)).bind fun y235 => ((tlv_Nested.f t).bind fun t240 => (if t240 = true then ((tlv_list.f (k + 5) y235 (wrap64 (d + 1))).bind fun bt241 => (if bt241.2 = 0 then (if acc.length < 2513169434916 then (tlv_list.l0 (k + 5) (c.drop (lenF r).1.toNat) d (acc ++ [(⟨t, ([] : List Int), bt241.1⟩ : S26)])) else (none)) else (some (([] : List S26), bt241.2)))) else ((slices_Clone_byte_byte.f y235).bind fun t253 => (if acc.length < 2513169434916 then (tlv_list.l0 (k + 5) (c.drop (lenF r).1.toNat) d (acc ++ [(⟨t, t253, ([] : List S26)⟩ : S26)])) else (none)))))) else (none)) else (none))) := by
          intro k
          rw [tlv_list.l0, if_neg hln, if_pos hlp, rd_zero, w64 (x := t) (by omega) (by omega), tag_eq, c1']
          simp only [Option.bind_some, if_true]
          rw [if_neg c2, if_pos hl1, List.drop_one, List.tail_cons, length_eq r hr k]
          simp only [Option.bind_some]
          rw [if_pos c3, ej, if_pos (by omega), if_pos (by simp only [List.length_cons]; omega), ed]
        by_cases c4 : (lenF r).1 > (c.length : Int)
        · refine ⟨6, fun k hk => ?_⟩
          obtain ⟨k, rfl⟩ : ∃ m, k = m + 6 := ⟨k - 6, by omega⟩
          rw [ans_err (e := 13) (by simp only [dec]; rw [if_neg c1, if_neg c2, if_neg (by rw [c3]; simp), ← hc, if_pos c4]) (by decide), hstep, if_pos c4]
        have hrest := ih (c.drop (lenF r).1.toNat) d
        have hdl : (c.drop (lenF r).1.toNat).length ≤ c.length := by rw [List.length_drop]; omega
        have htl : (c.take (lenF r).1.toNat).length ≤ c.length := by rw [List.length_take]; omega
        by_cases c5 : nestB t = true
        · obtain ⟨K1, hK1⟩ := ih (c.take (lenF r).1.toNat) (d + 1) [] (by omega) (okB_take hcb _) (by omega) (by omega) (by omega) (by simp; omega)
          have hfk : ∀ k, K1 ≤ k → tlv_list.f (k + 1) (c.take (lenF r).1.toNat) (d + 1) = some (ans [] (dec f (c.take (lenF r).1.toNat) (d + 1))) := fun k hk => by rw [tlv_list.f]; exact hK1 k hk
          by_cases c6 : (dec f (c.take (lenF r).1.toNat) (d + 1)).2 = 0
          · obtain ⟨K2, hK2⟩ := hrest (acc ++ [(⟨t, ([] : List Int), (dec f (c.take (lenF r).1.toNat) (d + 1)).1⟩ : S26)]) (by omega) (okB_drop hcb _) (by omega) h0 h7 (by simp only [List.length_append, List.length_singleton]; omega)
            refine ⟨K1 + K2 + 6, fun k hk => ?_⟩
            obtain ⟨k, rfl⟩ : ∃ m, k = m + 6 := ⟨k - 6, by omega⟩
            rw [hstep, if_neg c4, if_pos n0, if_pos (by omega)]
            simp only [Option.bind_some]
            rw [nest_eq, c5]
            simp only [Option.bind_some, if_true]
            rw [w64 (x := d + 1) (by omega) (by omega), show k + 5 = (k + 4) + 1 from rfl, hfk (k + 4) (by omega)]
            simp only [Option.bind_some]
            rw [show ans [] (dec f (c.take (lenF r).1.toNat) (d + 1)) = ((dec f (c.take (lenF r).1.toNat) (d + 1)).1, 0) from by simp [ans, c6]]
            simp only [if_true]
            rw [if_pos (by omega), hK2 (k + 4 + 1) (by omega)]
            congr 1
            simp only [dec]
            rw [if_neg c1, if_neg c2, if_neg (by rw [c3]; simp), ← hc, if_neg c4, if_pos c5, if_neg (by rw [c6]; simp)]
            by_cases c7 : (dec f (c.drop (lenF r).1.toNat) d).2 = 0
            · rw [if_neg (by rw [c7]; simp)]; simp [ans, c7]
            · rw [if_pos c7]; simp [ans, c7]
          · refine ⟨K1 + 6, fun k hk => ?_⟩
            obtain ⟨k, rfl⟩ : ∃ m, k = m + 6 := ⟨k - 6, by omega⟩
            rw [hstep, if_neg c4, if_pos n0, if_pos (by omega)]
            simp only [Option.bind_some]
            rw [nest_eq, c5]
            simp only [Option.bind_some, if_true]
            rw [w64 (x := d + 1) (by omega) (by omega), show k + 5 = (k + 4) + 1 from rfl, hfk (k + 4) (by omega)]
            simp only [Option.bind_some]
            rw [show ans [] (dec f (c.take (lenF r).1.toNat) (d + 1)) = ([], (dec f (c.take (lenF r).1.toNat) (d + 1)).2) from by simp [ans, c6]]
            simp only []
            rw [if_neg c6]
            congr 1
            symm
            refine ans_err ?_ c6
            simp only [dec]
            rw [if_neg c1, if_neg c2, if_neg (by rw [c3]; simp), ← hc, if_neg c4, if_pos c5, if_pos c6]
        · obtain ⟨K2, hK2⟩ := hrest (acc ++ [(⟨t, c.take (lenF r).1.toNat, ([] : List S26)⟩ : S26)]) (by omega) (okB_drop hcb _) (by omega) h0 h7 (by simp only [List.length_append, List.length_singleton]; omega)
          refine ⟨K2 + 6, fun k hk => ?_⟩
          obtain ⟨k, rfl⟩ : ∃ m, k = m + 6 := ⟨k - 6, by omega⟩
          rw [hstep, if_neg c4, if_pos n0, if_pos (by omega)]
          simp only [Option.bind_some]
          rw [nest_eq]
          simp only [Option.bind_some]
          rw [if_neg c5, clone_eq _ (by omega)]
          simp only [Option.bind_some]
          rw [if_pos (by omega), hK2 (k + 5) (by omega)]
          congr 1
          simp only [dec]
          rw [if_neg c1, if_neg c2, if_neg (by rw [c3]; simp), ← hc, if_neg c4, if_neg c5]
          by_cases c7 : (dec f (c.drop (lenF r).1.toNat) d).2 = 0
          · rw [if_neg (by rw [c7]; simp)]; simp [ans, c7]
          · rw [if_pos c7]; simp [ans, c7]
      · refine ⟨6, fun k hk => ?_⟩
        obtain ⟨k, rfl⟩ : ∃ m, k = m + 6 := ⟨k - 6, by omega⟩
        rw [ans_err (e := (lenF r).2.2) (by simp only [dec]; rw [if_neg c1, if_neg c2, if_pos c3]) c3, tlv_list.l0, if_neg hln, if_pos hlp, rd_zero, w64 (x := t) (by omega) (by omega), tag_eq, c1']
        simp only [Option.bind_some, if_true]
        rw [if_neg c2, if_pos hl1, List.drop_one, List.tail_cons, length_eq r hr k]
        simp only [Option.bind_some]
        rw [if_neg c3]
theorem Decode_ev (b : List Int) (hb : okB b) : ∃ K, ∀ k, K ≤ k → tlv_Decode.f k b = some (if b.length > 1500 then ([], 4) else dec (b.length + 1) b 0) := by
  by_cases c : b.length > 1500
  · refine ⟨0, fun k _ => ?_⟩
    rw [tlv_Decode.f, if_pos (by omega), if_pos c]
  · obtain ⟨K, hK⟩ := list_ev (b.length + 1) b 0 [] (by omega) hb (by omega) (by omega) (by omega) (by simp; omega)
    refine ⟨K + 1, fun k hk => ?_⟩
    obtain ⟨k, rfl⟩ : ∃ m, k = m + 1 := ⟨k - 1, by omega⟩
    rw [tlv_Decode.f, if_neg (by omega), if_neg c, tlv_list.f, hK k (by omega)]
    simp only [Option.bind_some]
    have e : ans [] (dec (b.length + 1) b 0) = dec (b.length + 1) b 0 := by
      unfold ans
      split
      · rename_i h; exact Prod.ext (List.nil_append _) h.symm
      · rename_i h; exact Prod.ext (dec_err _ _ _ h).symm rfl
    rw [e]
end Go.Proofs.Ytafbnfpabcaebaa.Tlv
