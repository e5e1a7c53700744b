/- What the printed encoder writes. -/
import Derived.Test.YtafbnfpabcaebaaXTlvCodes
namespace Go.Proofs.Ytafbnfpabcaebaa.Tlv
open Go.RowKit Go.Proofs.Ytafbnfpabcaebaa.XT Go.Proofs.YtafbnfpabcaebaaW.PrintWords
theorem put_step (k : Nat) (acc : List Int) (L : List S26) (n i s : Int) (r : List Int) (h : i < n) (h0 : 0 ≤ i) (h1 : i < (L.length : Int)) (hL : L.length ≤ 20000) (hs : tlv_size.f k (rd_T26 L i).f2 = some s) (hs0 : 0 ≤ s) (hs1 : s ≤ 20000) (hd1 : (rd_T26 L i).f1.length ≤ 20000) (ha1 : acc.length ≤ 100000)
    (ht : 0 ≤ (rd_T26 L i).f0) (ht1 : (rd_T26 L i).f0 < 256)
    (hk : tlv_put.f k (acc ++ ((rd_T26 L i).f0 :: (hd (((rd_T26 L i).f1.length : Int) + s) ++ (rd_T26 L i).f1))) (rd_T26 L i).f2 = some r) :
    tlv_put.l0 (k + 1) acc L n i = tlv_put.l0 k r L n (i + 1) := by
  generalize hx : rd_T26 L i = x at *
  obtain ⟨N, hN⟩ : ∃ N, N = (x.f1.length : Int) + s := ⟨_, rfl⟩
  have hN0 : 0 ≤ N := by omega
  have hN1 : N ≤ 40000 := by omega
  rw [← hN] at hk
  rw [tlv_put.l0, if_pos h, if_pos h0, if_pos h1, hx, hs]
  (try simp only [Option.bind_some])
  rw [if_pos (by omega)]
  (try simp only [Option.bind_some])
  rw [← hN, w64 (x := N) (by omega) (by omega), head_eq, w64 (x := i + 1) (by omega) (by omega), Int.emod_eq_of_lt ht ht1]
  (try simp only [Option.bind_some])
  by_cases c1 : N < 128
  · rw [if_pos (headF1 c1), if_pos (by simp only [List.length_append, List.length_singleton]; omega)]
    rw [if_pos (by simp only [List.length_append, List.length_singleton]; omega)]
    have e : acc ++ [x.f0] ++ [N % 256] ++ x.f1 = acc ++ (x.f0 :: (hd N ++ x.f1)) := by
      unfold hd; rw [if_pos c1, Int.emod_eq_of_lt hN0 (by omega)]; simp
    rw [e, hk]
    rfl
  · by_cases c2 : N < 256
    · rw [if_neg (by rw [headF2 (by omega) c2]; decide), if_pos (headF2 (by omega) c2), if_pos (by simp only [List.length_append, List.length_cons, List.length_nil]; omega)]
      (try simp only [Option.bind_some])
      rw [if_pos (by simp only [List.length_append, List.length_cons, List.length_nil]; omega)]
      have e : acc ++ [x.f0] ++ [129, N % 256] ++ x.f1 = acc ++ (x.f0 :: (hd N ++ x.f1)) := by
        unfold hd; rw [if_neg c1, if_pos c2, Int.emod_eq_of_lt hN0 (by omega)]; simp
      rw [e, hk]
      rfl
    · rw [if_neg (by rw [headF3 (by omega)]; decide), if_neg (by rw [headF3 (by omega)]; decide), if_pos (by simp only [List.length_append, List.length_cons, List.length_nil]; omega)]
      (try simp only [Option.bind_some])
      rw [if_pos (by simp only [List.length_append, List.length_cons, List.length_nil]; omega)]
      have e : acc ++ [x.f0] ++ [130, N / 256 % 256, N % 256] ++ x.f1 = acc ++ (x.f0 :: (hd N ++ x.f1)) := by
        unfold hd; rw [if_neg c1, if_neg c2, Int.emod_eq_of_lt (a := N / 256) (by omega) (by omega)]; simp
      rw [e, hk]
      rfl
/-- Their bytes. -/
theorem codes_put {d : Int} {m : List S26} {b : List Int} (h : Codes d m b) : b.length ≤ 10000 → ∀ (pre : List S26) (acc : List Int), pre.length + m.length ≤ 20000 → acc.length + b.length ≤ 50000 →
    ∃ K, ∀ k, K ≤ k → tlv_put.l0 k acc (pre ++ m) ((pre ++ m).length : Int) (pre.length : Int) = some (acc ++ b) := by
  induction h with
  | nil d =>
    intro _ pre acc _ _
    refine ⟨1, fun k hk => ?_⟩
    obtain ⟨k, rfl⟩ : ∃ m, k = m + 1 := ⟨k - 1, by omega⟩
    rw [tlv_put.l0, if_neg (by simp)]
    simp
  | @prim d t data m b ht h6 hn hok h ih =>
    intro hl pre acc hp ha
    have htr := tagB_range ht
    simp only [List.length_cons, List.length_append] at hp hl ha
    obtain ⟨K, hK⟩ := ih (by omega) (pre ++ [⟨t, data, []⟩]) (acc ++ (t :: (hd ((data.length : Int) + 0) ++ data))) (by simp only [List.length_append, List.length_singleton]; omega) (by rw [Int.add_zero]; simp only [List.length_append, List.length_cons]; omega)
    refine ⟨K + 5, fun k hk => ?_⟩
    obtain ⟨k, rfl⟩ : ∃ m, k = m + 3 := ⟨k - 3, by omega⟩
    have hk2 := hK (k + 2) (by omega)
    rw [snoc_eq, snoc_len] at hk2
    have hr := rd_app pre ⟨t, data, []⟩ m
    have hz : tlv_size.f (k + 2) ([] : List S26) = some 0 := by rw [tlv_size.f, tlv_size.l0, if_neg (by simp)]
    have hz2 : ∀ a, tlv_put.f (k + 2) a ([] : List S26) = some a := fun a => by rw [tlv_put.f, tlv_put.l0, if_neg (by simp)]
    rw [put_step (k + 2) acc _ _ _ 0 (acc ++ (t :: (hd ((data.length : Int) + 0) ++ data))) (mid_lt _ _ _) (by omega) (mid_lt _ _ _) (by rw [mid_len]; omega) (by rw [hr]; exact hz) (by omega) (by omega) (by rw [hr]; show data.length ≤ _; omega) (by omega) (by rw [hr]; show 0 ≤ t; omega) (by rw [hr]; show t < 256; omega) (by rw [hr]; exact hz2 _)]
    refine hk2.trans ?_
    rw [Int.add_zero]
    simp
  | @cons d t kids m kb b ht h6 hn hk h ihk ih =>
    intro hl pre acc hp ha
    have htr := tagB_range ht
    simp only [List.length_cons, List.length_append] at hp hl ha
    have hkl := codes_len hk
    have hk0 : (([] : List Int).length : Int) + (0 + (kb.length : Int)) = (kb.length : Int) := by simp
    obtain ⟨K, hK⟩ := ih (by omega) (pre ++ [⟨t, [], kids⟩]) (acc ++ (t :: (hd (kb.length : Int) ++ [])) ++ kb) (by simp only [List.length_append, List.length_singleton]; omega) (by simp only [List.length_append, List.length_cons, List.length_nil]; omega)
    obtain ⟨K2, hK2⟩ := ihk (by omega) [] (acc ++ (t :: (hd (kb.length : Int) ++ []))) (by simp only [List.length_nil]; omega) (by simp only [List.length_append, List.length_cons, List.length_nil]; omega)
    obtain ⟨K3, hK3⟩ := codes_size hk (by omega) [] 0 (by simp only [List.length_nil]; omega) (by omega) (by omega)
    refine ⟨K + K2 + K3 + 5, fun k hk' => ?_⟩
    obtain ⟨k, rfl⟩ : ∃ m, k = m + 3 := ⟨k - 3, by omega⟩
    have hk2 := hK (k + 2) (by omega)
    rw [snoc_eq, snoc_len] at hk2
    have hk3 : tlv_size.f (k + 2) kids = some (0 + (kb.length : Int)) := by
      have h3 := hK3 (k + 1) (by omega)
      simp only [List.nil_append, List.length_nil, Int.natCast_zero] at h3
      rw [tlv_size.f, h3]
    have hk4 : tlv_put.f (k + 2) (acc ++ (t :: (hd (kb.length : Int) ++ []))) kids = some (acc ++ (t :: (hd (kb.length : Int) ++ [])) ++ kb) := by
      have h3 := hK2 (k + 1) (by omega)
      simp only [List.nil_append, List.length_nil, Int.natCast_zero] at h3
      rw [tlv_put.f, h3]
    have hr := rd_app pre ⟨t, [], kids⟩ m
    rw [put_step (k + 2) acc _ _ _ (0 + (kb.length : Int)) (acc ++ (t :: (hd (kb.length : Int) ++ [])) ++ kb) (mid_lt _ _ _) (by omega) (mid_lt _ _ _) (by rw [mid_len]; omega) (by rw [hr]; exact hk3) (by omega) (by omega) (by rw [hr]; show ([] : List Int).length ≤ _; simp) (by omega) (by rw [hr]; show 0 ≤ t; omega) (by rw [hr]; show t < 256; omega) (by rw [hr]; show tlv_put.f (k + 2) (acc ++ (t :: (hd ((([] : List Int).length : Int) + (0 + (kb.length : Int))) ++ []))) kids = _; rw [hk0]; exact hk4)]
    refine hk2.trans ?_
    simp
/-- The encoder on nodes that have bytes. -/
theorem Encode_ev {m : List S26} {b : List Int} (h : Codes 0 m b) (hb : b.length ≤ 1500) : ∃ K, ∀ k, K ≤ k → tlv_Encode.f k m = some (b, 0) := by
  have hl := codes_len h
  obtain ⟨K1, h1⟩ := codes_check h (by omega) (by omega) [] (by simp only [List.length_nil]; omega)
  obtain ⟨K2, h2⟩ := codes_size h (by omega) [] 0 (by simp only [List.length_nil]; omega) (by omega) (by omega)
  obtain ⟨K3, h3⟩ := codes_put h (by omega) [] [] (by simp only [List.length_nil]; omega) (by simp only [List.length_nil]; omega)
  refine ⟨K1 + K2 + K3 + 1, fun k hk => ?_⟩
  obtain ⟨k, rfl⟩ : ∃ m, k = m + 1 := ⟨k - 1, by omega⟩
  have e1 := h1 k (by omega)
  have e2 := h2 k (by omega)
  have e3 := h3 k (by omega)
  simp only [List.nil_append, List.length_nil, Int.natCast_zero] at e1 e2 e3
  rw [tlv_Encode.f, tlv_check.f, e1]
  simp only [Option.bind_some, if_true]
  rw [tlv_size.f, e2]
  (try simp only [Option.bind_some])
  rw [if_neg (by omega), tlv_put.f, e3]
  rfl
theorem known_ev : ∃ K, ∀ k, K ≤ k → substationlaw10_known.f k = some true := by
  refine ⟨8, fun k hk => at_rounds (substationlaw10_known.mono) hk ?_⟩
  decide +kernel
end Go.Proofs.Ytafbnfpabcaebaa.Tlv
