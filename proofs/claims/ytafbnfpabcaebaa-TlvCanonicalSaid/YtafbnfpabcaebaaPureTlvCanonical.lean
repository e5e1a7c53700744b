/- TlvCanonical: Encode of what Decode returned is the bytes, for all bytes. No condition. -/
import Derived.Test.YtafbnfpabcaebaaXTlvPut
import Derived.Test.YtafbnfpabcaebaaXTx16
namespace Go.Proofs.Ytafbnfpabcaebaa.Pure
open Go.RowKit Go.Proofs.Ytafbnfpabcaebaa.XT Go.Proofs.YtafbnfpabcaebaaW.PrintWords Go.Proofs.YtafbnfpabcaebaaW.PrintLast Go.Proofs.Ytafbnfpabcaebaa.Tlv
theorem TlvCanonical : substationlaw10_TlvCanonical.Pure := by
  intro b _ _ hwf
  have hb := wf_okB hwf
  obtain ⟨K1, h1⟩ := known_ev
  obtain ⟨K2, h2⟩ := Decode_ev b hb
  by_cases c : b.length > 1500
  · refine ⟨K1 + K2, ?_⟩
    rw [substationlaw10_TlvCanonical.f, h1 _ (by omega)]
    simp only [Option.bind_some, if_true]
    rw [h2 _ (by omega), if_pos c]
    simp
  · by_cases c2 : (dec (b.length + 1) b 0).2 = 0
    · obtain ⟨K3, h3⟩ := Encode_ev (dec_codes (b.length + 1) b 0 (by omega) hb c2) (by omega)
      refine ⟨K1 + K2 + K3, ?_⟩
      rw [substationlaw10_TlvCanonical.f, h1 _ (by omega)]
      simp only [Option.bind_some, if_true]
      rw [h2 _ (by omega), if_neg c]
      simp only [Option.bind_some]
      rw [if_pos c2, h3 _ (by omega)]
      simp
    · refine ⟨K1 + K2, ?_⟩
      rw [substationlaw10_TlvCanonical.f, h1 _ (by omega)]
      simp only [Option.bind_some, if_true]
      rw [h2 _ (by omega), if_neg c]
      simp only [Option.bind_some]
      rw [if_neg c2, dec_err _ _ _ c2]
      simp
end Go.Proofs.Ytafbnfpabcaebaa.Pure
