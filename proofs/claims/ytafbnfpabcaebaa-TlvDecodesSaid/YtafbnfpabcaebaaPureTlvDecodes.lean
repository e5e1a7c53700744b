/- TlvDecodes: Decode returns the specified nodes or error, for all bytes. No condition. -/
import Derived.Test.YtafbnfpabcaebaaXTlvPut
import Derived.Test.YtafbnfpabcaebaaXTlvRef
import Derived.Test.YtafbnfpabcaebaaXTx15
namespace Go.Proofs.Ytafbnfpabcaebaa.Pure
open Go.RowKit Go.Proofs.Ytafbnfpabcaebaa.XT Go.Proofs.YtafbnfpabcaebaaW.PrintWords Go.Proofs.YtafbnfpabcaebaaW.PrintLast Go.Proofs.Ytafbnfpabcaebaa.Tlv
theorem TlvDecodes : substationlaw10_TlvDecodes.Pure := by
  intro b _ _ hwf
  have hb := wf_okB hwf
  obtain ⟨K1, h1⟩ := known_ev
  obtain ⟨K2, h2⟩ := Decode_ev b hb
  obtain ⟨K3, h3⟩ := RefDecode_ev b hb
  have nilTo : ∀ k, substationlaw10_To.f (k + 2) [] = some [] := fun k => by rw [substationlaw10_To.f, substationlaw10_To.l0, if_neg (by simp)]
  have nilSame : ∀ k, substationref10_Same.f (k + 2) [] [] = some true := fun k => by rw [substationref10_Same.f, if_pos rfl, substationref10_Same.l0, if_neg (by simp)]
  by_cases c : b.length > 1500
  · refine ⟨K1 + K2 + K3 + 2, ?_⟩
    rw [substationlaw10_TlvDecodes.f, h1 _ (by omega)]
    simp only [Option.bind_some, if_true]
    rw [h2 _ (by omega), h3 _ (by omega), if_pos c, if_pos c]
    simp only [Option.bind_some, if_true]
    rw [nilTo]
    simp only [Option.bind_some]
    rw [nilSame]
    rfl
  · by_cases c2 : (dec (b.length + 1) b 0).2 = 0
    · have hc := dec_codes (b.length + 1) b 0 (by omega) hb c2
      have hl := codes_len hc
      obtain ⟨K4, h4⟩ := codes_To hc (by omega) [] [] (by simp only [List.length_nil]; omega) (by simp only [List.length_nil]; omega)
      obtain ⟨K5, h5⟩ := codes_Same hc (by omega) [] (by simp only [List.length_nil]; omega)
      refine ⟨K1 + K2 + K3 + K4 + K5 + 1, ?_⟩
      have e4 := h4 (K1 + K2 + K3 + K4 + K5) (by omega)
      have e5 := h5 (K1 + K2 + K3 + K4 + K5) (by omega)
      simp only [List.nil_append, List.length_nil, Int.natCast_zero] at e4 e5
      rw [substationlaw10_TlvDecodes.f, h1 _ (by omega)]
      simp only [Option.bind_some, if_true]
      rw [h2 _ (by omega), h3 _ (by omega), if_neg c, if_neg c]
      simp only [Option.bind_some, if_true]
      rw [substationlaw10_To.f, e4]
      simp only [Option.bind_some]
      rw [substationref10_Same.f, if_pos rfl, e5]
      rfl
    · refine ⟨K1 + K2 + K3 + 2, ?_⟩
      rw [substationlaw10_TlvDecodes.f, h1 _ (by omega)]
      simp only [Option.bind_some, if_true]
      rw [h2 _ (by omega), h3 _ (by omega), if_neg c, if_neg c]
      simp only [Option.bind_some, if_true]
      rw [dec_err _ _ _ c2, nilTo]
      simp only [Option.bind_some, toL]
      rw [nilSame]
      rfl
end Go.Proofs.Ytafbnfpabcaebaa.Pure
