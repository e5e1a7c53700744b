/- Decoding of nodes, told without a program; its laws. -/
import Derived.Test.YtbdohnigbnhjnaaTvNode
set_option linter.unusedSimpArgs false
set_option linter.unusedVariables false
set_option linter.unusedSectionVars false
namespace Go.Tv
open Go Go.Vk

/-- A length: value, number of bytes, error. -/
def lenF : List UInt8 → Int × Int × Int
  | [] => (0, 0, 13)
  | b0 :: r =>
    if b0 = 129 then (match r with | [] => (0, 0, 13) | n :: _ => if n.toNat < 128 then (0, 0, 16) else (n.toNat, 2, 0))
    else if b0 = 130 then (match r with | x :: y :: _ => if x.toNat * 256 + y.toNat < 256 then (0, 0, 16) else (((x.toNat * 256 + y.toNat : Nat) : Int), 3, 0) | _ => (0, 0, 13))
    else if b0.toNat > 127 then (0, 0, 16) else (b0.toNat, 1, 0)
theorem u8_toNat (n : Int) : (u8 n).toNat = (n % 256).toNat := by
  unfold u8
  simp
  omega
theorem u8_of (b : UInt8) : u8 (b.toNat : Int) = b := by
  apply UInt8.toNat_inj.1
  rw [u8_toNat]
  have := b.toNat_lt
  omega
theorem u8_ne {n : Int} (h : 0 ≤ n ∧ n < 128) : u8 n ≠ 129 ∧ u8 n ≠ 130 := by
  constructor <;> intro e <;> have h2 := congrArg UInt8.toNat e <;> rw [u8_toNat] at h2 <;> simp at h2 <;> omega
theorem lenF_hd (n : Int) (h : 0 ≤ n ∧ n < 65536) (r : List UInt8) : lenF (hdB n ++ r) = (n, headF n, 0) := by
  unfold hdB headF
  by_cases h1 : n < 128
  · obtain ⟨a, b⟩ := u8_ne ⟨h.1, h1⟩
    have e := u8_toNat n
    simp only [if_pos h1, List.cons_append, List.nil_append, lenF, if_neg a, if_neg b]
    rw [if_neg (by omega), e]
    congr 1
    omega
  · by_cases h2 : n < 256
    · have e := u8_toNat n
      simp only [if_neg h1, if_pos h2, List.cons_append, List.nil_append, lenF, if_true]
      rw [if_neg (by omega), e]
      congr 1
      omega
    · have e := u8_toNat n
      have e2 := u8_toNat (n.fdiv 256)
      rw [Int.fdiv_eq_ediv_of_nonneg _ (by omega)] at e2
      simp only [if_neg h1, if_neg h2, List.cons_append, List.nil_append, lenF, if_true]
      rw [Int.fdiv_eq_ediv_of_nonneg _ (by omega)]
      simp only [show ¬ ((130 : UInt8) = 129) from by decide, if_false]
      rw [if_neg (by omega), e, e2]
      congr 1
      omega
theorem hdB_len (n : Int) : (hdB n).length = (headF n).toNat := by have := hdB_length n; omega
/-- Of a length without an error: it lies in the bytes. -/
theorem lenF_ok (b : List UInt8) (h : (lenF b).2.2 = 0) : 0 ≤ (lenF b).1 ∧ (lenF b).1 < 65536 ∧ (lenF b).2.1 = headF (lenF b).1 ∧ b = hdB (lenF b).1 ++ b.drop (lenF b).2.1.toNat := by
  match b with
  | [] => simp [lenF] at h
  | b0 :: r =>
    have l0 := b0.toNat_lt
    by_cases h1 : b0 = 129
    · subst h1
      match r with
      | [] => simp [lenF] at h
      | n :: r' =>
        have ln := n.toNat_lt
        simp only [lenF, if_true] at h ⊢
        by_cases c : n.toNat < 128
        · rw [if_pos c] at h; simp at h
        · rw [if_neg c]
          refine ⟨by simp only []; omega, by simp only []; omega, ?_, ?_⟩
          · simp only [headF]; rw [if_neg (by omega), if_pos (by omega)]
          · simp only [hdB]; rw [if_neg (by omega), if_pos (by omega), u8_of]; rfl
    · by_cases h2 : b0 = 130
      · subst h2
        match r with
        | [] => simp [lenF] at h
        | [_] => simp [lenF] at h
        | x :: y :: r' =>
          have lx := x.toNat_lt
          have ly := y.toNat_lt
          simp only [lenF] at h ⊢
          rw [if_neg (show ¬ (130 : UInt8) = 129 from by decide), if_pos trivial] at h ⊢
          by_cases c : x.toNat * 256 + y.toNat < 256
          · rw [if_pos c] at h; simp at h
          · rw [if_neg c]
            have e1 : u8 (((x.toNat * 256 + y.toNat : Nat) : Int).fdiv 256) = x := by
              rw [Int.fdiv_eq_ediv_of_nonneg _ (by omega), show ((x.toNat * 256 + y.toNat : Nat) : Int) / 256 = x.toNat by omega, u8_of]
            have e2 : u8 ((x.toNat * 256 + y.toNat : Nat) : Int) = y := by
              apply UInt8.toNat_inj.1
              rw [u8_toNat]
              omega
            refine ⟨by simp only []; omega, by simp only []; omega, ?_, ?_⟩
            · simp only [headF]; rw [if_neg (by omega), if_neg (by omega)]
            · simp only [hdB]; rw [if_neg (by omega), if_neg (by omega), e1, e2]; rfl
      · simp only [lenF] at h ⊢
        rw [if_neg h1, if_neg h2] at h ⊢
        by_cases c : b0.toNat > 127
        · rw [if_pos c] at h; simp at h
        · rw [if_neg c]
          refine ⟨by simp only []; omega, by simp only []; omega, ?_, ?_⟩
          · simp only [headF]; rw [if_pos (by omega)]
          · simp only [hdB]; rw [if_pos (by omega), u8_of]; rfl
/-- What a decoder reads of bytes at a depth: nodes, or the first error. -/
def dec : Nat → List UInt8 → Int → List TN × Int
  | 0, _, _ => ([], 0)
  | _ + 1, [], _ => ([], 0)
  | f + 1, b0 :: r, d =>
    if tagB b0.toNat = false then ([], 15) else if d > 6 then ([], 17) else
    if (lenF r).2.2 ≠ 0 then ([], (lenF r).2.2) else
    if (lenF r).1 > ((r.drop (lenF r).2.1.toNat).length : Int) then ([], 13) else
    if nestB b0.toNat = true then
      (if (dec f ((r.drop (lenF r).2.1.toNat).take (lenF r).1.toNat) (d + 1)).2 ≠ 0 then ([], (dec f ((r.drop (lenF r).2.1.toNat).take (lenF r).1.toNat) (d + 1)).2) else
        if (dec f ((r.drop (lenF r).2.1.toNat).drop (lenF r).1.toNat) d).2 ≠ 0 then ([], (dec f ((r.drop (lenF r).2.1.toNat).drop (lenF r).1.toNat) d).2) else
        (.mk b0.toNat [] (dec f ((r.drop (lenF r).2.1.toNat).take (lenF r).1.toNat) (d + 1)).1 :: (dec f ((r.drop (lenF r).2.1.toNat).drop (lenF r).1.toNat) d).1, 0))
    else
      (if (dec f ((r.drop (lenF r).2.1.toNat).drop (lenF r).1.toNat) d).2 ≠ 0 then ([], (dec f ((r.drop (lenF r).2.1.toNat).drop (lenF r).1.toNat) d).2) else
        (.mk b0.toNat ((r.drop (lenF r).2.1.toNat).take (lenF r).1.toNat) [] :: (dec f ((r.drop (lenF r).2.1.toNat).drop (lenF r).1.toNat) d).1, 0))
theorem dec_fuel : ∀ (f : Nat) (b : List UInt8) (d : Int), b.length < f → ∀ g, b.length < g → dec f b d = dec g b d := by
  intro f
  induction f with
  | zero => intro b d h; omega
  | succ f ih =>
    intro b d hf g hg
    match g, hg with
    | g + 1, hg =>
      match b, hf, hg with
      | [], _, _ => rfl
      | b0 :: r, hf, hg =>
        simp only [List.length_cons] at hf hg
        have l1 : ((r.drop (lenF r).2.1.toNat).take (lenF r).1.toNat).length ≤ r.length := by simp; try omega
        have l2 : ((r.drop (lenF r).2.1.toNat).drop (lenF r).1.toNat).length ≤ r.length := by simp; try omega
        simp only [dec]
        rw [ih _ (d + 1) (by omega) g (by omega), ih _ d (Nat.lt_of_le_of_lt l2 (by omega)) g (by omega)]
def decode (b : List UInt8) (d : Int) : List TN × Int := dec (b.length + 1) b d
theorem dec_eq {f : Nat} {b : List UInt8} {d : Int} (h : b.length < f) : dec f b d = decode b d := dec_fuel f b d h _ (by omega)
theorem decode_nil (d : Int) : decode [] d = ([], 0) := rfl
/-- One node of the bytes. -/
theorem decode_cons (b0 : UInt8) (r : List UInt8) (d : Int) : decode (b0 :: r) d =
    if tagB b0.toNat = false then ([], 15) else if d > 6 then ([], 17) else
    if (lenF r).2.2 ≠ 0 then ([], (lenF r).2.2) else
    if (lenF r).1 > ((r.drop (lenF r).2.1.toNat).length : Int) then ([], 13) else
    if nestB b0.toNat = true then
      (if (decode ((r.drop (lenF r).2.1.toNat).take (lenF r).1.toNat) (d + 1)).2 ≠ 0 then ([], (decode ((r.drop (lenF r).2.1.toNat).take (lenF r).1.toNat) (d + 1)).2) else
        if (decode ((r.drop (lenF r).2.1.toNat).drop (lenF r).1.toNat) d).2 ≠ 0 then ([], (decode ((r.drop (lenF r).2.1.toNat).drop (lenF r).1.toNat) d).2) else
        (.mk b0.toNat [] (decode ((r.drop (lenF r).2.1.toNat).take (lenF r).1.toNat) (d + 1)).1 :: (decode ((r.drop (lenF r).2.1.toNat).drop (lenF r).1.toNat) d).1, 0))
    else
      (if (decode ((r.drop (lenF r).2.1.toNat).drop (lenF r).1.toNat) d).2 ≠ 0 then ([], (decode ((r.drop (lenF r).2.1.toNat).drop (lenF r).1.toNat) d).2) else
        (.mk b0.toNat ((r.drop (lenF r).2.1.toNat).take (lenF r).1.toNat) [] :: (decode ((r.drop (lenF r).2.1.toNat).drop (lenF r).1.toNat) d).1, 0)) := by
  have l1 : ((r.drop (lenF r).2.1.toNat).take (lenF r).1.toNat).length ≤ r.length := by simp; try omega
  have l2 : ((r.drop (lenF r).2.1.toNat).drop (lenF r).1.toNat).length ≤ r.length := by simp; try omega
  unfold decode
  simp only [List.length_cons, dec]
  rw [dec_eq (Nat.lt_of_le_of_lt l1 (by omega)), dec_eq (Nat.lt_of_le_of_lt l2 (by omega))]
  rfl
theorem decode_err (b : List UInt8) (d : Int) (h : (decode b d).2 ≠ 0) : (decode b d).1 = [] := by
  cases b with
  | nil => rfl
  | cons b0 r =>
    revert h
    rw [decode_cons]
    (repeat' split) <;> intro h <;> first | rfl | (exact absurd rfl h)
theorem tagB_rng {t : Int} (h : tagB t = true) : 1 ≤ t ∧ t ≤ 254 := by simp [tagB] at h; omega
theorem u8_id {t : Int} (h : 0 ≤ t ∧ t < 256) : ((u8 t).toNat : Int) = t := by
  rw [u8_toNat]
  omega
mutual
theorem decode_enc1 : ∀ (x : TN) (d : Int), chk1 x d = 0 → bod x < 65536 → ∀ b : List UInt8, decode (enc x ++ b) d = (if (decode b d).2 ≠ 0 then ([], (decode b d).2) else (x :: (decode b d).1, 0))
  | .mk t v p, d, hc, hs, b => by
    simp only [chk1] at hc
    split at hc
    · simp at hc
    rename_i ht
    have ht : tagB t = true := by simpa using ht
    have hr := tagB_rng ht
    split at hc
    · simp at hc
    rename_i hd
    split at hc
    · simp at hc
    rename_i hn
    have hz := szs_le p
    have hl := encs_length p
    simp only [bod] at hs
    have hk := lenF_hd (v.length + szs p) (by omega) (v ++ encs p ++ b)
    have hh := headF_le (v.length + szs p)
    have hbl := hdB_len (v.length + szs p)
    have hu : ((u8 t).toNat : Int) = t := u8_id (by omega)
    simp only [enc, List.cons_append, List.append_assoc] at hk ⊢
    rw [decode_cons, hu, ht, hk]
    have hdrop : (hdB (↑v.length + szs p) ++ (v ++ (encs p ++ b))).drop (headF (↑v.length + szs p)).toNat = v ++ encs p ++ b := by
      rw [← hbl, List.drop_left, List.append_assoc]
    have hvl : (v ++ encs p).length = (↑v.length + szs p).toNat := by rw [List.length_append]; omega
    simp only [hdrop]
    rw [if_neg (by simp), if_neg (by omega), if_neg (by simp), if_neg (by rw [List.length_append, hvl]; omega)]
    rw [← hvl, List.take_left, List.drop_left]
    by_cases hnn : nestB t = true
    · have hv : v = [] := by
        cases v with
        | nil => rfl
        | cons => exact absurd (.inl ⟨hnn, by simp⟩) hn
      subst hv
      rw [if_pos hnn]
      have := decode_encs p (d + 1) hc (by simpa using hs) []
      simp only [List.append_nil, decode_nil] at this
      simp only [List.nil_append, this]
      simp
    · have hp : p = [] := by
        cases p with
        | nil => rfl
        | cons => exact absurd (.inr ⟨by simpa using hnn, by simp⟩) hn
      subst hp
      rw [if_neg hnn]
      simp [encs]
theorem decode_encs : ∀ (L : List TN) (d : Int), chk L d = 0 → szs L < 65536 → ∀ b : List UInt8, decode (encs L ++ b) d = (if (decode b d).2 ≠ 0 then ([], (decode b d).2) else (L ++ (decode b d).1, 0))
  | [], d, _, _, b => by
    simp only [encs, List.nil_append]
    split
    · rename_i h; rw [← decode_err b d h]
    · rename_i h; simp at h; rw [← h]
  | x :: r, d, hc, hs, b => by
    simp only [chk] at hc
    have hx : chk1 x d = 0 := by
      split at hc
      · assumption
      · exact hc
    rw [if_pos hx] at hc
    have b1 := bod_le x
    have b2 := szs_le r
    have b3 := headF_le (bod x)
    simp only [szs] at hs
    simp only [encs, List.append_assoc]
    rw [decode_enc1 x d hx (by omega), decode_encs r d hc (by omega) b]
    by_cases h : (decode b d).2 = 0
    · simp [h]
    · simp [h]
end
/-- The nodes come back. -/
theorem decode_back (L : List TN) (hc : chk L 0 = 0) (hs : szs L < 65536) : decode (encs L) 0 = (L, 0) := by
  have := decode_encs L 0 hc hs []
  simpa [decode_nil] using this
/-- What is read without an error has these bytes, and no error in it. -/
theorem decode_canon : ∀ (n : Nat) (b : List UInt8) (d : Int), b.length < n → (decode b d).2 = 0 → encs (decode b d).1 = b ∧ chk (decode b d).1 d = 0 := by
  intro n
  induction n with
  | zero => intro b d h; omega
  | succ n ih =>
    intro b d hn h
    cases b with
    | nil => exact ⟨rfl, rfl⟩
    | cons b0 r =>
      simp only [List.length_cons] at hn
      rw [decode_cons] at h ⊢
      by_cases c1 : tagB b0.toNat = false
      · rw [if_pos c1] at h; simp at h
      rw [if_neg c1] at h ⊢
      by_cases c2 : d > 6
      · rw [if_pos c2] at h; simp at h
      rw [if_neg c2] at h ⊢
      by_cases c3 : (lenF r).2.2 = 0
      rotate_left
      · rw [if_pos c3] at h; exact absurd h c3
      rw [if_neg (by simpa using c3)] at h ⊢
      obtain ⟨n0, n1, hk, hr⟩ := lenF_ok r c3
      obtain ⟨c, hcd⟩ : ∃ c, c = r.drop (lenF r).2.1.toNat := ⟨_, rfl⟩
      rw [← hcd] at h hr ⊢
      by_cases c4 : (lenF r).1 > (c.length : Int)
      · rw [if_pos c4] at h; simp at h
      rw [if_neg c4] at h ⊢
      have hcl : c.length ≤ r.length := by rw [hcd]; simp
      have htl : (c.take (lenF r).1.toNat).length = (lenF r).1.toNat := by rw [List.length_take]; omega
      have hdl : (c.drop (lenF r).1.toNat).length ≤ c.length := by simp
      have hti : ((c.take (lenF r).1.toNat).length : Int) = (lenF r).1 := by omega
      have hu := u8_of b0
      by_cases c5 : nestB b0.toNat = true
      · rw [if_pos c5] at h ⊢
        by_cases c6 : (decode (c.take (lenF r).1.toNat) (d + 1)).2 = 0
        rotate_left
        · rw [if_pos c6] at h; exact absurd h c6
        rw [if_neg (by simpa using c6)] at h ⊢
        by_cases c7 : (decode (c.drop (lenF r).1.toNat) d).2 = 0
        rotate_left
        · rw [if_pos c7] at h; exact absurd h c7
        rw [if_neg (by simpa using c7)]
        obtain ⟨e1, e2⟩ := ih _ (d + 1) (by omega) c6
        obtain ⟨e3, e4⟩ := ih _ d (by omega) c7
        have es := encs_length (decode (c.take (lenF r).1.toNat) (d + 1)).1
        rw [e1, hti] at es
        refine ⟨?_, ?_⟩
        · simp only [encs, enc, e1, e3, hu, List.length_nil, Int.natCast_zero, Int.zero_add, ← es, List.append_nil, List.cons_append, List.append_assoc, List.take_append_drop]
          rw [← hr]
        · simp only [chk, chk1, c5, e2, e4]
          rw [if_neg c1, if_neg c2]
          simp
      · rw [if_neg c5] at h ⊢
        by_cases c7 : (decode (c.drop (lenF r).1.toNat) d).2 = 0
        rotate_left
        · rw [if_pos c7] at h; exact absurd h c7
        rw [if_neg (by simpa using c7)]
        obtain ⟨e3, e4⟩ := ih _ d (by omega) c7
        refine ⟨?_, ?_⟩
        · simp only [encs, enc, e3, hu, szs, hti, Int.add_zero, List.append_nil, List.cons_append, List.append_assoc, List.take_append_drop]
          rw [← hr]
        · simp only [chk, chk1, e4]
          rw [if_neg c1, if_neg c2]
          simp [c5]
/-- A part of one node's bytes. -/
theorem decode_cut (x : TN) (d : Int) (hc : chk1 x d = 0) (hs : bod x < 65536) (k : Nat) (h0 : 0 < k) (h1 : k < (enc x).length) : decode ((enc x).take k) d = ([], 13) := by
  obtain ⟨t, v, p⟩ := x
  simp only [chk1] at hc
  split at hc
  · simp at hc
  rename_i ht
  have ht : tagB t = true := by simpa using ht
  have hr := tagB_rng ht
  split at hc
  · simp at hc
  rename_i hd
  have hz := szs_le p
  have hl := encs_length p
  simp only [bod] at hs
  have hh := headF_le (v.length + szs p)
  have hbl := hdB_len (v.length + szs p)
  have hu : ((u8 t).toNat : Int) = t := u8_id (by omega)
  obtain ⟨k, rfl⟩ : ∃ j, k = j + 1 := ⟨k - 1, by omega⟩
  simp only [enc, List.length_cons, List.take_succ_cons] at h1 ⊢
  rw [decode_cons, hu, ht, if_neg (by simp), if_neg hd]
  obtain ⟨m, hm⟩ : ∃ m, m = (v.length : Int) + szs p := ⟨_, rfl⟩
  rw [← hm] at h1 hh hbl ⊢
  by_cases hk : k < (hdB m).length
  · have e : (hdB m ++ v ++ encs p).take k = (hdB m).take k := by rw [List.append_assoc, List.take_append_of_le_length (by omega)]
    have e2 : (lenF ((hdB m).take k)).2.2 = 13 := by
      unfold hdB at hk ⊢
      by_cases a1 : m < 128
      · rw [if_pos a1] at hk ⊢
        simp at hk; subst hk; rfl
      · rw [if_neg a1] at hk ⊢
        by_cases a2 : m < 256
        · rw [if_pos a2] at hk ⊢
          simp only [List.length_cons, List.length_nil] at hk
          match k, hk with
          | 0, _ => rfl
          | 1, _ => rfl
        · rw [if_neg a2] at hk ⊢
          simp only [List.length_cons, List.length_nil] at hk
          match k, hk with
          | 0, _ => rfl
          | 1, _ => rfl
          | 2, _ => rfl
    rw [e, e2]
    simp
  · have e : (hdB m ++ v ++ encs p).take k = hdB m ++ (v ++ encs p).take (k - (hdB m).length) := by
      rw [List.append_assoc, List.take_append, List.take_of_length_le (by omega)]
    rw [e, lenF_hd m (by omega)]
    simp only [ne_eq, not_true_eq_false, if_false]
    rw [← hbl, List.drop_left, if_pos]
    simp only [List.length_append, List.length_take] at h1 ⊢
    omega
/-- One node, and one byte more. -/
theorem decode_more (x : TN) (d : Int) (hc : chk1 x d = 0) (hs : bod x < 65536) (hd : d ≤ 6) (c : UInt8) : (decode (enc x ++ [c]) d).2 ≠ 0 := by
  have h1 : (decode [c] d).2 ≠ 0 := by
    rw [decode_cons]
    split
    · simp
    · rw [if_neg (by omega)]
      simp [lenF]
  rw [decode_enc1 x d hc hs, if_pos h1]
  exact h1
end Go.Tv
