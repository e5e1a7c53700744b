/- Nodes and their bytes, as a relation; what the printed encoder does on them. -/
import Derived.Test.YtafbnfpabcaebaaXTlvList
import Derived.Test.YtafbnfpabcaebaaXTx6
namespace Go.Proofs.Ytafbnfpabcaebaa.Tlv
open Go.RowKit Go.Proofs.Ytafbnfpabcaebaa.XT Go.Proofs.YtafbnfpabcaebaaW.PrintWords
/-- These nodes, at this depth, have these bytes. -/
inductive Codes : Int → List S26 → List Int → Prop where
  | nil (d : Int) : Codes d [] []
  | prim {d t : Int} {data : List Int} {m : List S26} {b : List Int} (ht : tagB t = true) (hd6 : d ≤ 6) (hn : nestB t = false) (hok : okB data) (h : Codes d m b) : Codes d (⟨t, data, []⟩ :: m) (t :: (hd (data.length : Int) ++ data ++ b))
  | cons {d t : Int} {kids m : List S26} {kb b : List Int} (ht : tagB t = true) (hd6 : d ≤ 6) (hn : nestB t = true) (hk : Codes (d + 1) kids kb) (h : Codes d m b) : Codes d (⟨t, [], kids⟩ :: m) (t :: (hd (kb.length : Int) ++ kb ++ b))
theorem hd_length (n : Int) : ((hd n).length : Int) = headF n := by
  unfold hd headF
  split
  · rfl
  · split <;> rfl
theorem tagB_range {t : Int} (h : tagB t = true) : 1 ≤ t ∧ t ≤ 254 := by
  simp [tagB] at h; omega
/-- What is read without an error has these bytes. -/
theorem dec_codes (f : Nat) : ∀ (b : List Int) (d : Int), b.length < f → okB b → (dec f b d).2 = 0 → Codes d (dec f b d).1 b := by
  induction f with
  | zero => intro b d h; omega
  | succ f ih =>
    intro b d hf hb h
    match b, hb with
    | [], _ => exact .nil d
    | t :: r, hb =>
      have hr : okB r := fun x hx => hb x (by simp [hx])
      simp only [List.length_cons] at hf
      simp only [dec] at h ⊢
      by_cases c1 : tagB t = false
      · rw [if_pos c1] at h; simp at h
      rw [if_neg c1] at h ⊢
      by_cases c2 : d > 6
      · rw [if_pos c2] at h; simp at h
      rw [if_neg c2] at h ⊢
      by_cases c3 : (lenF r).2.2 = 0
      · rw [if_neg (by rw [c3]; simp)] at h ⊢
        obtain ⟨n0, n1, j0, j1, j2, ht, hj⟩ := lenF_ok r hr c3
        obtain ⟨c, hc⟩ : ∃ c, c = r.drop (lenF r).2.1.toNat := ⟨_, rfl⟩
        rw [← hc] at h ⊢
        have hcl : c.length + 1 ≤ r.length := by rw [hc, List.length_drop]; omega
        have hcb : okB c := by rw [hc]; exact okB_drop hr _
        by_cases c4 : (lenF r).1 > (c.length : Int)
        · rw [if_pos c4] at h; simp at h
        rw [if_neg c4] at h ⊢
        have hdl : (c.drop (lenF r).1.toNat).length ≤ c.length := by rw [List.length_drop]; omega
        have htl : (c.take (lenF r).1.toNat).length = (lenF r).1.toNat := by rw [List.length_take]; omega
        have hbytes : t :: r = t :: (hd ((c.take (lenF r).1.toNat).length : Int) ++ c.take (lenF r).1.toNat ++ c.drop (lenF r).1.toNat) := by
          rw [htl, show (((lenF r).1.toNat : Nat) : Int) = (lenF r).1 from by omega, ← ht, List.append_assoc, List.take_append_drop, hc, List.take_append_drop]
        by_cases c5 : nestB t = true
        · rw [if_pos c5] at h ⊢
          by_cases c6 : (dec f (c.take (lenF r).1.toNat) (d + 1)).2 = 0
          · rw [if_neg (by rw [c6]; simp)] at h ⊢
            by_cases c7 : (dec f (c.drop (lenF r).1.toNat) d).2 = 0
            · rw [if_neg (by rw [c7]; simp)] at h ⊢
              rw [hbytes]
              exact .cons (by simpa using c1) (by omega) c5 (ih _ _ (by omega) (okB_take hcb _) c6) (ih _ _ (by omega) (okB_drop hcb _) c7)
            · rw [if_pos c7] at h; exact absurd h c7
          · rw [if_pos c6] at h; exact absurd h c6
        · rw [if_neg c5] at h ⊢
          by_cases c7 : (dec f (c.drop (lenF r).1.toNat) d).2 = 0
          · rw [if_neg (by rw [c7]; simp)] at h ⊢
            rw [hbytes]
            exact .prim (by simpa using c1) (by omega) (by simpa using c5) (okB_take hcb _) (ih _ _ (by omega) (okB_drop hcb _) c7)
          · rw [if_pos c7] at h; exact absurd h c7
      · rw [if_pos c3] at h; exact absurd h c3
theorem codes_len {d : Int} {m : List S26} {b : List Int} (h : Codes d m b) : m.length ≤ b.length := by
  induction h with
  | nil => simp
  | prim _ _ _ _ _ ih => simp only [List.length_cons, List.length_append]; omega
  | cons _ _ _ _ _ _ ih => simp only [List.length_cons, List.length_append]; omega
theorem check_nil (k : Nat) (d : Int) : tlv_check.f (k + 2) [] d = some 0 := by
  rw [tlv_check.f, tlv_check.l0, if_neg (by simp)]
theorem check_step0 (k : Nat) (d : Int) (L : List S26) (n i : Int) (h : i < n) (h0 : 0 ≤ i) (h1 : i < (L.length : Int)) (ht : tagB (rd_T26 L i).f0 = true) (h6 : d ≤ 6) (hn : nestB (rd_T26 L i).f0 = false) :
    tlv_check.l0 (k + 4) d L n i = tlv_check.j1 (k + 3) d L n i (decide (((rd_T26 L i).f2.length : Int) > 0)) (rd_T26 L i).f0 (rd_T26 L i).f1 (rd_T26 L i).f2 := by
  rw [tlv_check.l0, if_pos h, if_pos h0, if_pos h1, tag_eq, ht]
  simp only [Option.bind_some, if_true]
  rw [if_neg (by omega), nest_eq, hn]
  simp only [Option.bind_some, Bool.false_eq_true, if_false]
theorem check_step1 (k : Nat) (d : Int) (L : List S26) (n i : Int) (h : i < n) (h0 : 0 ≤ i) (h1 : i < (L.length : Int)) (ht : tagB (rd_T26 L i).f0 = true) (h6 : d ≤ 6) (hn : nestB (rd_T26 L i).f0 = true) (hz : ¬ ((rd_T26 L i).f1.length : Int) > 0) :
    tlv_check.l0 (k + 4) d L n i = tlv_check.j1 (k + 3) d L n i false (rd_T26 L i).f0 (rd_T26 L i).f1 (rd_T26 L i).f2 := by
  rw [tlv_check.l0, if_pos h, if_pos h0, if_pos h1, tag_eq, ht]
  simp only [Option.bind_some, if_true]
  rw [if_neg (by omega), nest_eq, hn]
  simp only [Option.bind_some, if_true]
  rw [if_neg hz]
theorem check_join0 (k : Nat) (d : Int) (L : List S26) (n i a : Int) (b : List Int) (c : List S26) (h0 : 0 ≤ d) (h6 : d ≤ 6) (h : tlv_check.f (k + 2) c (d + 1) = some 0) (hi : 0 ≤ i) (hi2 : i < (L.length : Int)) (hL : L.length ≤ 20000) :
    tlv_check.j1 (k + 3) d L n i false a b c = tlv_check.l0 (k + 2) d L n (i + 1) := by
  rw [tlv_check.j1, if_neg (by simp), w64 (x := d + 1) (by omega) (by omega), h]
  simp only [Option.bind_some, if_true]
  rw [w64 (x := i + 1) (by omega) (by omega)]
theorem snoc_eq (pre : List S26) (x : S26) (m : List S26) : pre ++ [x] ++ m = pre ++ x :: m := by simp
theorem snoc_len (pre : List S26) (x : S26) : ((pre ++ [x]).length : Int) = (pre.length : Int) + 1 := by simp
theorem mid_lt (pre : List S26) (x : S26) (m : List S26) : (pre.length : Int) < ((pre ++ x :: m).length : Int) := by simp only [List.length_append, List.length_cons]; omega
theorem mid_len (pre : List S26) (x : S26) (m : List S26) : (pre ++ x :: m).length = pre.length + m.length + 1 := by simp only [List.length_append, List.length_cons]; omega
/-- No error in such nodes. -/
theorem codes_check {d : Int} {m : List S26} {b : List Int} (h : Codes d m b) : 0 ≤ d → b.length ≤ 10000 → ∀ pre : List S26, pre.length + m.length ≤ 20000 →
    ∃ K, ∀ k, K ≤ k → tlv_check.l0 k d (pre ++ m) ((pre ++ m).length : Int) (pre.length : Int) = some 0 := by
  induction h with
  | nil d =>
    intro h0 _ pre _
    refine ⟨1, fun k hk => ?_⟩
    obtain ⟨k, rfl⟩ : ∃ m, k = m + 1 := ⟨k - 1, by omega⟩
    rw [tlv_check.l0, if_neg (by simp)]
  | @prim d t data m b ht h6 hn hok h ih =>
    intro h0 hl pre hp
    simp only [List.length_cons, List.length_append] at hl hp
    obtain ⟨K, hK⟩ := ih h0 (by omega) (pre ++ [⟨t, data, []⟩]) (by simp only [List.length_append, List.length_singleton]; omega)
    refine ⟨K + 5, fun k hk => ?_⟩
    obtain ⟨k, rfl⟩ : ∃ m, k = m + 4 := ⟨k - 4, by omega⟩
    have hk2 := hK (k + 2) (by omega)
    rw [snoc_eq, snoc_len] at hk2
    have hr := rd_app pre ⟨t, data, []⟩ m
    rw [check_step0 k d _ _ _ (mid_lt _ _ _) (by omega) (mid_lt _ _ _) (by rw [hr]; exact ht) h6 (by rw [hr]; exact hn), hr]
    exact (check_join0 k d _ _ _ t data [] h0 h6 (check_nil _ _) (by omega) (mid_lt _ _ _) (by rw [mid_len]; omega)).trans hk2
  | @cons d t kids m kb b ht h6 hn hk h ihk ih =>
    intro h0 hl pre hp
    simp only [List.length_cons, List.length_append] at hl hp
    obtain ⟨K, hK⟩ := ih h0 (by omega) (pre ++ [⟨t, [], kids⟩]) (by simp only [List.length_append, List.length_singleton]; omega)
    obtain ⟨K2, hK2⟩ := ihk (by omega) (by omega) [] (by have := codes_len hk; simp only [List.length_nil]; omega)
    refine ⟨K + K2 + 5, fun k hk => ?_⟩
    obtain ⟨k, rfl⟩ : ∃ m, k = m + 4 := ⟨k - 4, by omega⟩
    have hk2 := hK (k + 2) (by omega)
    rw [snoc_eq, snoc_len] at hk2
    have hk3 : tlv_check.f (k + 2) kids (d + 1) = some 0 := by
      have h3 := hK2 (k + 1) (by omega)
      simp only [List.nil_append, List.length_nil, Int.natCast_zero] at h3
      rw [tlv_check.f, h3]
    have hr := rd_app pre ⟨t, [], kids⟩ m
    rw [check_step1 k d _ _ _ (mid_lt _ _ _) (by omega) (mid_lt _ _ _) (by rw [hr]; exact ht) h6 (by rw [hr]; exact hn) (by rw [hr]; simp), hr]
    exact (check_join0 k d _ _ _ t [] kids h0 h6 hk3 (by omega) (mid_lt _ _ _) (by rw [mid_len]; omega)).trans hk2
theorem size_step (k : Nat) (acc : Int) (L : List S26) (n i s : Int) (h : i < n) (h0 : 0 ≤ i) (h1 : i < (L.length : Int)) (hL : L.length ≤ 20000) (hs : tlv_size.f k (rd_T26 L i).f2 = some s) (hs0 : 0 ≤ s) (hs1 : s ≤ 100000) (hd1 : (rd_T26 L i).f1.length ≤ 100000) (ha : 0 ≤ acc) (ha1 : acc ≤ 100000000) :
    tlv_size.l0 (k + 1) acc L n i = tlv_size.l0 k (acc + (1 + headF (((rd_T26 L i).f1.length : Int) + s) + (((rd_T26 L i).f1.length : Int) + s))) L n (i + 1) := by
  have hh : 1 ≤ headF (((rd_T26 L i).f1.length : Int) + s) ∧ headF (((rd_T26 L i).f1.length : Int) + s) ≤ 3 := by unfold headF; split <;> (try split) <;> omega
  rw [tlv_size.l0, if_pos h, if_pos h0, if_pos h1, hs]
  simp only [Option.bind_some]
  rw [w64 (x := ((rd_T26 L i).f1.length : Int) + s) (by omega) (by omega), head_eq]
  simp only [Option.bind_some]
  rw [w64 (x := 1 + headF (((rd_T26 L i).f1.length : Int) + s)) (by omega) (by omega), w64 (x := 1 + headF (((rd_T26 L i).f1.length : Int) + s) + (((rd_T26 L i).f1.length : Int) + s)) (by omega) (by omega), w64 (x := acc + _) (by omega) (by omega), w64 (x := i + 1) (by omega) (by omega)]
/-- Their number of bytes. -/
theorem codes_size {d : Int} {m : List S26} {b : List Int} (h : Codes d m b) : b.length ≤ 10000 → ∀ (pre : List S26) (acc : Int), pre.length + m.length ≤ 20000 → 0 ≤ acc → acc + b.length ≤ 100000 →
    ∃ K, ∀ k, K ≤ k → tlv_size.l0 k acc (pre ++ m) ((pre ++ m).length : Int) (pre.length : Int) = some (acc + (b.length : Int)) := by
  induction h with
  | nil d =>
    intro _ pre acc _ _ _
    refine ⟨1, fun k hk => ?_⟩
    obtain ⟨k, rfl⟩ : ∃ m, k = m + 1 := ⟨k - 1, by omega⟩
    rw [tlv_size.l0, if_neg (by simp)]
    simp
  | @prim d t data m b ht h6 hn hok h ih =>
    intro hl pre acc hp ha ha1
    have hb : ((t :: (hd (data.length : Int) ++ data ++ b)).length : Int) = 1 + headF ((data.length : Int) + 0) + ((data.length : Int) + 0) + (b.length : Int) := by
      simp only [List.length_cons, List.length_append]; have := hd_length (data.length : Int); rw [Int.add_zero]; omega
    have hh : 1 ≤ headF ((data.length : Int) + 0) := by unfold headF; split <;> (try split) <;> omega
    simp only [List.length_cons] at hp
    obtain ⟨K, hK⟩ := ih (by omega) (pre ++ [⟨t, data, []⟩]) (acc + (1 + headF ((data.length : Int) + 0) + ((data.length : Int) + 0))) (by simp only [List.length_append, List.length_singleton]; omega) (by omega) (by omega)
    refine ⟨K + 5, fun k hk => ?_⟩
    obtain ⟨k, rfl⟩ : ∃ m, k = m + 3 := ⟨k - 3, by omega⟩
    have hk2 := hK (k + 2) (by omega)
    rw [snoc_eq, snoc_len] at hk2
    have hr := rd_app pre ⟨t, data, []⟩ m
    have hz : tlv_size.f (k + 2) ([] : List S26) = some 0 := by rw [tlv_size.f, tlv_size.l0, if_neg (by simp)]
    rw [size_step (k + 2) acc _ _ _ 0 (mid_lt _ _ _) (by omega) (mid_lt _ _ _) (by rw [mid_len]; omega) (by rw [hr]; exact hz) (by omega) (by omega) (by rw [hr]; show data.length ≤ _; omega) ha (by omega), hr]
    rw [hb]
    refine hk2.trans ?_
    congr 1
    omega
  | @cons d t kids m kb b ht h6 hn hk h ihk ih =>
    intro hl pre acc hp ha ha1
    have hb : ((t :: (hd (kb.length : Int) ++ kb ++ b)).length : Int) = 1 + headF ((([] : List Int).length : Int) + (0 + (kb.length : Int))) + ((([] : List Int).length : Int) + (0 + (kb.length : Int))) + (b.length : Int) := by
      simp only [List.length_cons, List.length_append, List.length_nil, Int.natCast_zero, Int.zero_add]; have := hd_length (kb.length : Int); omega
    have hh : 1 ≤ headF ((([] : List Int).length : Int) + (0 + (kb.length : Int))) := by unfold headF; split <;> (try split) <;> omega
    simp only [List.length_cons] at hp
    have hkl := codes_len hk
    have hkn : (kb.length : Int) ≤ 10000 := by simp only [List.length_nil, Int.natCast_zero, Int.zero_add] at hb hh; omega
    have hk0 : (([] : List Int).length : Int) = 0 := rfl
    obtain ⟨K, hK⟩ := ih (by omega) (pre ++ [⟨t, [], kids⟩]) (acc + (1 + headF ((([] : List Int).length : Int) + (0 + (kb.length : Int))) + ((([] : List Int).length : Int) + (0 + (kb.length : Int))))) (by simp only [List.length_append, List.length_singleton]; omega) (by omega) (by omega)
    obtain ⟨K2, hK2⟩ := ihk (by omega) [] 0 (by simp only [List.length_nil]; omega) (by omega) (by omega)
    refine ⟨K + K2 + 5, fun k hk => ?_⟩
    obtain ⟨k, rfl⟩ : ∃ m, k = m + 3 := ⟨k - 3, by omega⟩
    have hk2 := hK (k + 2) (by omega)
    rw [snoc_eq, snoc_len] at hk2
    have hk3 : tlv_size.f (k + 2) kids = some (0 + (kb.length : Int)) := by
      have h3 := hK2 (k + 1) (by omega)
      simp only [List.nil_append, List.length_nil, Int.natCast_zero] at h3
      rw [tlv_size.f, h3]
    have hr := rd_app pre ⟨t, [], kids⟩ m
    rw [size_step (k + 2) acc _ _ _ (0 + (kb.length : Int)) (mid_lt _ _ _) (by omega) (mid_lt _ _ _) (by rw [mid_len]; omega) (by rw [hr]; exact hk3) (by omega) (by omega) (by rw [hr]; show ([] : List Int).length ≤ _; simp) ha (by omega), hr]
    rw [hb]
    refine hk2.trans ?_
    congr 1
    omega
end Go.Proofs.Ytafbnfpabcaebaa.Tlv
