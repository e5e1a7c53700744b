/-
  NARROWER THAN 'FOR EVERY INPUT', by the rows' own cells (each row's printed sentence says how): TlvEncodes: loops · TlvTruncation: loops · TlvRoundTrip: loops · TlvConcatenates: loops.
  DERIVED. THE GIVEN ROWS OF THIS SEAT. 7 by the template 'for every input the law returns true; each argument reads behind the call as it read before'; 0 by the template 'total and deterministic' (their statements: YtafbnfpabcaebaaTotals.lean).
  GIVEN WITH THE SEED: the statements are not yours to turn. If you find one false, say at which input.
  Laid BY PROGRAM, IN A SANDBOX (cutbox-rows.mjs): the forced cells as the released guide's own fill.sh prints them over the translation 9c236d92308cf8fe… (all of the seat's roots in one cut). By AI agents, Wed Nov 11 2026. No macro, syntax, notation, axiom, sorry.
-/
import Derived.Test.YtafbnfpabcaebaaChecked
import GoSem.Claim
import GoSem.ClaimJoined
import GoSem.ClaimMapViews
import Derived.JoinedTies
import Derived.KernelRfl
namespace Go.Proofs.Ytafbnfpabcaebaa
/- THE CELL 'sum', in the pinned program and in every row, IS THE sha256 OF THE DUMP (.gsa) THAT YtafbnfpabcaebaaProg.lean LOADS. Nothing in Lean hashes anything: it is a label: what it is worth is what the hold of that sum in a sandbox is worth. -/
noncomputable def Try.pinned : Pinned := { name := "ytafbnfpabcaebaa", sum := "9c236d92308cf8feccae8ef5d87dc01137f8a29cde8da1074d1a3000b9961daf", checked := Try.checked }
namespace Rows
def none {H : Type} : Left H := { results := [], args := [] }

/-- 'substationlaw10.TlvTags': WHATEVER THE INPUT: true; the input reads as it did. -/
def tlvTagsSpec : ChangeSpec := { name := "tlvTags", fn := fun _ => fun
  | [d1, d2] => { results := [.lit (.bool true)], args := [d1, d2] }
  | _ => none }
def tlvTagsRow : OpenClaim := { program := "ytafbnfpabcaebaa", sum := "9c236d92308cf8feccae8ef5d87dc01137f8a29cde8da1074d1a3000b9961daf", func := "substation/substationlaw10.TlvTags", spec := "tlvTags", recurses := true, apart := false }
def TlvTagsSaid : Prop := tlvTagsRow.holds Try.pinned (OpenSpec.ofChange tlvTagsSpec)

/-- ITS FALSE NEIGHBOUR: 'it returns false'. Refute it at one input. -/
def tlvTagsWrong : ChangeSpec := { name := "tlvTags", fn := fun _ => fun
  | [d1, d2] => { results := [.lit (.bool false)], args := [d1, d2] }
  | _ => none }
def TlvTagsWrongFalsely : Prop := tlvTagsRow.holds Try.pinned (OpenSpec.ofChange tlvTagsWrong)

/-- 'substationlaw10.TlvEncodes': WHATEVER THE INPUT: true; the input reads as it did. -/
def tlvEncodesSpec : ChangeSpec := { name := "tlvEncodes", fn := fun _ => fun
  | [d1, d2] => { results := [.lit (.bool true)], args := [d1, d2] }
  | _ => none }
def tlvEncodesRow : OpenClaim := { program := "ytafbnfpabcaebaa", sum := "9c236d92308cf8feccae8ef5d87dc01137f8a29cde8da1074d1a3000b9961daf", func := "substation/substationlaw10.TlvEncodes", spec := "tlvEncodes", unfollowed := true, recurses := true, loops := true, apart := false }
def TlvEncodesSaid : Prop := tlvEncodesRow.holds Try.pinned (OpenSpec.ofChange tlvEncodesSpec)

/-- ITS FALSE NEIGHBOUR: 'it returns false'. Refute it at one input. -/
def tlvEncodesWrong : ChangeSpec := { name := "tlvEncodes", fn := fun _ => fun
  | [d1, d2] => { results := [.lit (.bool false)], args := [d1, d2] }
  | _ => none }
def TlvEncodesWrongFalsely : Prop := tlvEncodesRow.holds Try.pinned (OpenSpec.ofChange tlvEncodesWrong)

/-- 'substationlaw10.TlvDecodes': WHATEVER THE INPUT: true; the input reads as it did. -/
def tlvDecodesSpec : ChangeSpec := { name := "tlvDecodes", fn := fun _ => fun
  | [d] => { results := [.lit (.bool true)], args := [d] }
  | _ => none }
def tlvDecodesRow : OpenClaim := { program := "ytafbnfpabcaebaa", sum := "9c236d92308cf8feccae8ef5d87dc01137f8a29cde8da1074d1a3000b9961daf", func := "substation/substationlaw10.TlvDecodes", spec := "tlvDecodes", recurses := true, apart := false }
def TlvDecodesSaid : Prop := tlvDecodesRow.holds Try.pinned (OpenSpec.ofChange tlvDecodesSpec)

/-- ITS FALSE NEIGHBOUR: 'it returns false'. Refute it at one input. -/
def tlvDecodesWrong : ChangeSpec := { name := "tlvDecodes", fn := fun _ => fun
  | [d] => { results := [.lit (.bool false)], args := [d] }
  | _ => none }
def TlvDecodesWrongFalsely : Prop := tlvDecodesRow.holds Try.pinned (OpenSpec.ofChange tlvDecodesWrong)

/-- 'substationlaw10.TlvCanonical': WHATEVER THE INPUT: true; the input reads as it did. -/
def tlvCanonicalSpec : ChangeSpec := { name := "tlvCanonical", fn := fun _ => fun
  | [d] => { results := [.lit (.bool true)], args := [d] }
  | _ => none }
def tlvCanonicalRow : OpenClaim := { program := "ytafbnfpabcaebaa", sum := "9c236d92308cf8feccae8ef5d87dc01137f8a29cde8da1074d1a3000b9961daf", func := "substation/substationlaw10.TlvCanonical", spec := "tlvCanonical", recurses := true, apart := false }
def TlvCanonicalSaid : Prop := tlvCanonicalRow.holds Try.pinned (OpenSpec.ofChange tlvCanonicalSpec)

/-- ITS FALSE NEIGHBOUR: 'it returns false'. Refute it at one input. -/
def tlvCanonicalWrong : ChangeSpec := { name := "tlvCanonical", fn := fun _ => fun
  | [d] => { results := [.lit (.bool false)], args := [d] }
  | _ => none }
def TlvCanonicalWrongFalsely : Prop := tlvCanonicalRow.holds Try.pinned (OpenSpec.ofChange tlvCanonicalWrong)

/-- 'substationlaw10.TlvTruncation': WHATEVER THE INPUT: true; the input reads as it did. -/
def tlvTruncationSpec : ChangeSpec := { name := "tlvTruncation", fn := fun _ => fun
  | [d1, d2] => { results := [.lit (.bool true)], args := [d1, d2] }
  | _ => none }
def tlvTruncationRow : OpenClaim := { program := "ytafbnfpabcaebaa", sum := "9c236d92308cf8feccae8ef5d87dc01137f8a29cde8da1074d1a3000b9961daf", func := "substation/substationlaw10.TlvTruncation", spec := "tlvTruncation", recurses := true, loops := true, apart := false }
def TlvTruncationSaid : Prop := tlvTruncationRow.holds Try.pinned (OpenSpec.ofChange tlvTruncationSpec)

/-- ITS FALSE NEIGHBOUR: 'it returns false'. Refute it at one input. -/
def tlvTruncationWrong : ChangeSpec := { name := "tlvTruncation", fn := fun _ => fun
  | [d1, d2] => { results := [.lit (.bool false)], args := [d1, d2] }
  | _ => none }
def TlvTruncationWrongFalsely : Prop := tlvTruncationRow.holds Try.pinned (OpenSpec.ofChange tlvTruncationWrong)

/-- 'substationlaw10.TlvRoundTrip': WHATEVER THE INPUT: true; the input reads as it did. -/
def tlvRoundTripSpec : ChangeSpec := { name := "tlvRoundTrip", fn := fun _ => fun
  | [d] => { results := [.lit (.bool true)], args := [d] }
  | _ => none }
def tlvRoundTripRow : OpenClaim := { program := "ytafbnfpabcaebaa", sum := "9c236d92308cf8feccae8ef5d87dc01137f8a29cde8da1074d1a3000b9961daf", func := "substation/substationlaw10.TlvRoundTrip", spec := "tlvRoundTrip", recurses := true, loops := true, apart := false }
def TlvRoundTripSaid : Prop := tlvRoundTripRow.holds Try.pinned (OpenSpec.ofChange tlvRoundTripSpec)

/-- ITS FALSE NEIGHBOUR: 'it returns false'. Refute it at one input. -/
def tlvRoundTripWrong : ChangeSpec := { name := "tlvRoundTrip", fn := fun _ => fun
  | [d] => { results := [.lit (.bool false)], args := [d] }
  | _ => none }
def TlvRoundTripWrongFalsely : Prop := tlvRoundTripRow.holds Try.pinned (OpenSpec.ofChange tlvRoundTripWrong)

/-- 'substationlaw10.TlvConcatenates': WHATEVER THE INPUT: true; the input reads as it did. -/
def tlvConcatenatesSpec : ChangeSpec := { name := "tlvConcatenates", fn := fun _ => fun
  | [d1, d2] => { results := [.lit (.bool true)], args := [d1, d2] }
  | _ => none }
def tlvConcatenatesRow : OpenClaim := { program := "ytafbnfpabcaebaa", sum := "9c236d92308cf8feccae8ef5d87dc01137f8a29cde8da1074d1a3000b9961daf", func := "substation/substationlaw10.TlvConcatenates", spec := "tlvConcatenates", unfollowed := true, recurses := true, loops := true, apart := false }
def TlvConcatenatesSaid : Prop := tlvConcatenatesRow.holds Try.pinned (OpenSpec.ofChange tlvConcatenatesSpec)

/-- ITS FALSE NEIGHBOUR: 'it returns false'. Refute it at one input. -/
def tlvConcatenatesWrong : ChangeSpec := { name := "tlvConcatenates", fn := fun _ => fun
  | [d1, d2] => { results := [.lit (.bool false)], args := [d1, d2] }
  | _ => none }
def TlvConcatenatesWrongFalsely : Prop := tlvConcatenatesRow.holds Try.pinned (OpenSpec.ofChange tlvConcatenatesWrong)

/- THE SECOND FORM. 'bulk': how many values and letters a reading holds, each counted each time it is reached (what is shared counts as often as it is met; a slice's spare places count too). A statement '..UptoSaid' is the law's where the arguments, and the package variables that the reading takes, are together of bulk at most 1048576: NARROWER than '..Said'. Prove '..Said' where nothing that the law and all that it calls make is longer than what came in: it says more and counts as full. Else prove '..UptoSaid'. A law counts once. -/
mutual
def uptoBulk {H : Type} : DataW H → Nat
  | .lit (.string bytes) => bytes.length + 1
  | .lit _ => 1
  | .nil => 1
  | .ptr d => uptoBulk d + 1
  | .slice elems spare => uptoBulkAll elems + uptoBulkAll spare + 1
  | .agg parts => uptoBulkAll parts + 1
  | .iface _ d => uptoBulk d + 1
  | .map entries => uptoBulkEntries entries + 1
  | .held _ => 1
def uptoBulkAll {H : Type} : List (DataW H) → Nat
  | [] => 0
  | d :: r => uptoBulk d + uptoBulkAll r
def uptoBulkEntries {H : Type} : List (Lit × DataW H) → Nat
  | [] => 0
  | x :: r => uptoBulkEntry x + uptoBulkEntries r
def uptoBulkEntry {H : Type} : Lit × DataW H → Nat
  | (.string bytes, d) => bytes.length + uptoBulk d + 1
  | (_, d) => uptoBulk d + 1
 end
def uptoSmall : (H : Type) → List (DataW H) → Bool := fun _ ds => decide (uptoBulkAll ds ≤ 1048576)
def OpenSpec.upto (s : _root_.Go.ChangeSpec) : _root_.Go.OpenSpec := { _root_.Go.OpenSpec.ofChange s with cond := some uptoSmall }

/-- 'substationlaw10.TlvTags', WHERE WHAT IT READS IS OF BULK AT MOST 1048576: true; the input reads as it did. -/
def tlvTagsUptoRow : OpenClaim := { program := "ytafbnfpabcaebaa", sum := "9c236d92308cf8feccae8ef5d87dc01137f8a29cde8da1074d1a3000b9961daf", func := "substation/substationlaw10.TlvTags", spec := "tlvTags", recurses := true, apart := false, narrowed := true }
def TlvTagsUptoSaid : Prop := tlvTagsUptoRow.holds Try.pinned (OpenSpec.upto tlvTagsSpec)

/-- 'substationlaw10.TlvEncodes', WHERE WHAT IT READS IS OF BULK AT MOST 1048576: true; the input reads as it did. -/
def tlvEncodesUptoRow : OpenClaim := { program := "ytafbnfpabcaebaa", sum := "9c236d92308cf8feccae8ef5d87dc01137f8a29cde8da1074d1a3000b9961daf", func := "substation/substationlaw10.TlvEncodes", spec := "tlvEncodes", unfollowed := true, recurses := true, loops := true, apart := false, narrowed := true }
def TlvEncodesUptoSaid : Prop := tlvEncodesUptoRow.holds Try.pinned (OpenSpec.upto tlvEncodesSpec)

/-- 'substationlaw10.TlvDecodes', WHERE WHAT IT READS IS OF BULK AT MOST 1048576: true; the input reads as it did. -/
def tlvDecodesUptoRow : OpenClaim := { program := "ytafbnfpabcaebaa", sum := "9c236d92308cf8feccae8ef5d87dc01137f8a29cde8da1074d1a3000b9961daf", func := "substation/substationlaw10.TlvDecodes", spec := "tlvDecodes", recurses := true, apart := false, narrowed := true }
def TlvDecodesUptoSaid : Prop := tlvDecodesUptoRow.holds Try.pinned (OpenSpec.upto tlvDecodesSpec)

/-- 'substationlaw10.TlvCanonical', WHERE WHAT IT READS IS OF BULK AT MOST 1048576: true; the input reads as it did. -/
def tlvCanonicalUptoRow : OpenClaim := { program := "ytafbnfpabcaebaa", sum := "9c236d92308cf8feccae8ef5d87dc01137f8a29cde8da1074d1a3000b9961daf", func := "substation/substationlaw10.TlvCanonical", spec := "tlvCanonical", recurses := true, apart := false, narrowed := true }
def TlvCanonicalUptoSaid : Prop := tlvCanonicalUptoRow.holds Try.pinned (OpenSpec.upto tlvCanonicalSpec)

/-- 'substationlaw10.TlvTruncation', WHERE WHAT IT READS IS OF BULK AT MOST 1048576: true; the input reads as it did. -/
def tlvTruncationUptoRow : OpenClaim := { program := "ytafbnfpabcaebaa", sum := "9c236d92308cf8feccae8ef5d87dc01137f8a29cde8da1074d1a3000b9961daf", func := "substation/substationlaw10.TlvTruncation", spec := "tlvTruncation", recurses := true, loops := true, apart := false, narrowed := true }
def TlvTruncationUptoSaid : Prop := tlvTruncationUptoRow.holds Try.pinned (OpenSpec.upto tlvTruncationSpec)

/-- 'substationlaw10.TlvRoundTrip', WHERE WHAT IT READS IS OF BULK AT MOST 1048576: true; the input reads as it did. -/
def tlvRoundTripUptoRow : OpenClaim := { program := "ytafbnfpabcaebaa", sum := "9c236d92308cf8feccae8ef5d87dc01137f8a29cde8da1074d1a3000b9961daf", func := "substation/substationlaw10.TlvRoundTrip", spec := "tlvRoundTrip", recurses := true, loops := true, apart := false, narrowed := true }
def TlvRoundTripUptoSaid : Prop := tlvRoundTripUptoRow.holds Try.pinned (OpenSpec.upto tlvRoundTripSpec)

/-- 'substationlaw10.TlvConcatenates', WHERE WHAT IT READS IS OF BULK AT MOST 1048576: true; the input reads as it did. -/
def tlvConcatenatesUptoRow : OpenClaim := { program := "ytafbnfpabcaebaa", sum := "9c236d92308cf8feccae8ef5d87dc01137f8a29cde8da1074d1a3000b9961daf", func := "substation/substationlaw10.TlvConcatenates", spec := "tlvConcatenates", unfollowed := true, recurses := true, loops := true, apart := false, narrowed := true }
def TlvConcatenatesUptoSaid : Prop := tlvConcatenatesUptoRow.holds Try.pinned (OpenSpec.upto tlvConcatenatesSpec)

end Rows
end Go.Proofs.Ytafbnfpabcaebaa
