/-
  No cell of these rows narrows 'for every input' (looked for: loops, veiled, ifaces, maps, wideKeys, modest, calm, conditions, laid).
  DERIVED. THE GIVEN ROWS OF THIS SEAT. 11 by the template 'for every input the law returns true; each argument reads behind the call as it read before'; 0 by the template 'total and deterministic' (their statements: YtokbcminleemaaaTotals.lean).
  GIVEN WITH THE SEED: the statements are not yours to turn. If you find one false, say at which input.
  Laid BY PROGRAM, IN A SANDBOX (cutbox-rows.mjs): the forced cells as the released guide's own fill.sh prints them over the translation e59ffac03ba22f7e… (all of the seat's roots in one cut). By AI agents, Wed Nov 11 2026. No macro, syntax, notation, axiom, sorry.
-/
import Derived.Test.YtokbcminleemaaaChecked
import GoSem.Claim
import GoSem.ClaimJoined
import GoSem.ClaimMapViews
import Derived.JoinedTies
import Derived.KernelRfl
namespace Go.Proofs.Ytokbcminleemaaa
/- THE CELL 'sum', in the pinned program and in every row, IS THE sha256 OF THE DUMP (.gsa) THAT YtokbcminleemaaaProg.lean LOADS. Nothing in Lean hashes anything: it is a label: what it is worth is what the hold of that sum in a sandbox is worth. -/
noncomputable def Try.pinned : Pinned := { name := "ytokbcminleemaaa", sum := "e59ffac03ba22f7eab25e5c4322c79b794506702e8dee1fd8fc01eba0183e68f", checked := Try.checked }
namespace Rows
def none {H : Type} : Left H := { results := [], args := [] }

/-- 'substationlaw14.SubscriberPlays': WHATEVER THE INPUT: true; the input reads as it did. -/
def subscriberPlaysSpec : ChangeSpec := { name := "subscriberPlays", fn := fun _ => fun
  | [d] => { results := [.lit (.bool true)], args := [d] }
  | _ => none }
def subscriberPlaysRow : OpenClaim := { program := "ytokbcminleemaaa", sum := "e59ffac03ba22f7eab25e5c4322c79b794506702e8dee1fd8fc01eba0183e68f", func := "substation/substationlaw14.SubscriberPlays", spec := "subscriberPlays", unfollowed := true, recurses := true, apart := false }
def SubscriberPlaysSaid : Prop := subscriberPlaysRow.holds Try.pinned (OpenSpec.ofChange subscriberPlaysSpec)

/-- ITS FALSE NEIGHBOUR: 'it returns false'. Refute it at one input. -/
def subscriberPlaysWrong : ChangeSpec := { name := "subscriberPlays", fn := fun _ => fun
  | [d] => { results := [.lit (.bool false)], args := [d] }
  | _ => none }
def SubscriberPlaysWrongFalsely : Prop := subscriberPlaysRow.holds Try.pinned (OpenSpec.ofChange subscriberPlaysWrong)

/-- 'substationlaw14.SubscriberForeign': WHATEVER THE INPUT: true; the input reads as it did. -/
def subscriberForeignSpec : ChangeSpec := { name := "subscriberForeign", fn := fun _ => fun
  | [d1, d2] => { results := [.lit (.bool true)], args := [d1, d2] }
  | _ => none }
def subscriberForeignRow : OpenClaim := { program := "ytokbcminleemaaa", sum := "e59ffac03ba22f7eab25e5c4322c79b794506702e8dee1fd8fc01eba0183e68f", func := "substation/substationlaw14.SubscriberForeign", spec := "subscriberForeign", unfollowed := true, recurses := true, apart := false }
def SubscriberForeignSaid : Prop := subscriberForeignRow.holds Try.pinned (OpenSpec.ofChange subscriberForeignSpec)

/-- ITS FALSE NEIGHBOUR: 'it returns false'. Refute it at one input. -/
def subscriberForeignWrong : ChangeSpec := { name := "subscriberForeign", fn := fun _ => fun
  | [d1, d2] => { results := [.lit (.bool false)], args := [d1, d2] }
  | _ => none }
def SubscriberForeignWrongFalsely : Prop := subscriberForeignRow.holds Try.pinned (OpenSpec.ofChange subscriberForeignWrong)

/-- 'substationlaw13.PublisherPrompt': WHATEVER THE INPUT: true; the input reads as it did. -/
def publisherPromptSpec : ChangeSpec := { name := "publisherPrompt", fn := fun _ => fun
  | [d1, d2, d3] => { results := [.lit (.bool true)], args := [d1, d2, d3] }
  | _ => none }
def publisherPromptRow : OpenClaim := { program := "ytokbcminleemaaa", sum := "e59ffac03ba22f7eab25e5c4322c79b794506702e8dee1fd8fc01eba0183e68f", func := "substation/substationlaw13.PublisherPrompt", spec := "publisherPrompt", unfollowed := true, recurses := true, apart := false }
def PublisherPromptSaid : Prop := publisherPromptRow.holds Try.pinned (OpenSpec.ofChange publisherPromptSpec)

/-- ITS FALSE NEIGHBOUR: 'it returns false'. Refute it at one input. -/
def publisherPromptWrong : ChangeSpec := { name := "publisherPrompt", fn := fun _ => fun
  | [d1, d2, d3] => { results := [.lit (.bool false)], args := [d1, d2, d3] }
  | _ => none }
def PublisherPromptWrongFalsely : Prop := publisherPromptRow.holds Try.pinned (OpenSpec.ofChange publisherPromptWrong)

/-- 'substationlaw13.PublisherOverlap': WHATEVER THE INPUT: true; the input reads as it did. -/
def publisherOverlapSpec : ChangeSpec := { name := "publisherOverlap", fn := fun _ => fun
  | [d1, d2, d3] => { results := [.lit (.bool true)], args := [d1, d2, d3] }
  | _ => none }
def publisherOverlapRow : OpenClaim := { program := "ytokbcminleemaaa", sum := "e59ffac03ba22f7eab25e5c4322c79b794506702e8dee1fd8fc01eba0183e68f", func := "substation/substationlaw13.PublisherOverlap", spec := "publisherOverlap", unfollowed := true, recurses := true, apart := false }
def PublisherOverlapSaid : Prop := publisherOverlapRow.holds Try.pinned (OpenSpec.ofChange publisherOverlapSpec)

/-- ITS FALSE NEIGHBOUR: 'it returns false'. Refute it at one input. -/
def publisherOverlapWrong : ChangeSpec := { name := "publisherOverlap", fn := fun _ => fun
  | [d1, d2, d3] => { results := [.lit (.bool false)], args := [d1, d2, d3] }
  | _ => none }
def PublisherOverlapWrongFalsely : Prop := publisherOverlapRow.holds Try.pinned (OpenSpec.ofChange publisherOverlapWrong)

/-- 'substationlaw13.PublisherIntervals': WHATEVER THE INPUT: true; the input reads as it did. -/
def publisherIntervalsSpec : ChangeSpec := { name := "publisherIntervals", fn := fun _ => fun
  | [d1, d2, d3] => { results := [.lit (.bool true)], args := [d1, d2, d3] }
  | _ => none }
def publisherIntervalsRow : OpenClaim := { program := "ytokbcminleemaaa", sum := "e59ffac03ba22f7eab25e5c4322c79b794506702e8dee1fd8fc01eba0183e68f", func := "substation/substationlaw13.PublisherIntervals", spec := "publisherIntervals", unfollowed := true, recurses := true, apart := false }
def PublisherIntervalsSaid : Prop := publisherIntervalsRow.holds Try.pinned (OpenSpec.ofChange publisherIntervalsSpec)

/-- ITS FALSE NEIGHBOUR: 'it returns false'. Refute it at one input. -/
def publisherIntervalsWrong : ChangeSpec := { name := "publisherIntervals", fn := fun _ => fun
  | [d1, d2, d3] => { results := [.lit (.bool false)], args := [d1, d2, d3] }
  | _ => none }
def PublisherIntervalsWrongFalsely : Prop := publisherIntervalsRow.holds Try.pinned (OpenSpec.ofChange publisherIntervalsWrong)

/-- 'substationlaw14.SubscriberNeverBack': WHATEVER THE INPUT: true; the input reads as it did. -/
def subscriberNeverBackSpec : ChangeSpec := { name := "subscriberNeverBack", fn := fun _ => fun
  | [d] => { results := [.lit (.bool true)], args := [d] }
  | _ => none }
def subscriberNeverBackRow : OpenClaim := { program := "ytokbcminleemaaa", sum := "e59ffac03ba22f7eab25e5c4322c79b794506702e8dee1fd8fc01eba0183e68f", func := "substation/substationlaw14.SubscriberNeverBack", spec := "subscriberNeverBack", unfollowed := true, recurses := true, apart := false }
def SubscriberNeverBackSaid : Prop := subscriberNeverBackRow.holds Try.pinned (OpenSpec.ofChange subscriberNeverBackSpec)

/-- ITS FALSE NEIGHBOUR: 'it returns false'. Refute it at one input. -/
def subscriberNeverBackWrong : ChangeSpec := { name := "subscriberNeverBack", fn := fun _ => fun
  | [d] => { results := [.lit (.bool false)], args := [d] }
  | _ => none }
def SubscriberNeverBackWrongFalsely : Prop := subscriberNeverBackRow.holds Try.pinned (OpenSpec.ofChange subscriberNeverBackWrong)

/-- 'substationlaw14.SubscriberDoubles': WHATEVER THE INPUT: true; the input reads as it did. -/
def subscriberDoublesSpec : ChangeSpec := { name := "subscriberDoubles", fn := fun _ => fun
  | [d1, d2] => { results := [.lit (.bool true)], args := [d1, d2] }
  | _ => none }
def subscriberDoublesRow : OpenClaim := { program := "ytokbcminleemaaa", sum := "e59ffac03ba22f7eab25e5c4322c79b794506702e8dee1fd8fc01eba0183e68f", func := "substation/substationlaw14.SubscriberDoubles", spec := "subscriberDoubles", unfollowed := true, recurses := true, apart := false }
def SubscriberDoublesSaid : Prop := subscriberDoublesRow.holds Try.pinned (OpenSpec.ofChange subscriberDoublesSpec)

/-- ITS FALSE NEIGHBOUR: 'it returns false'. Refute it at one input. -/
def subscriberDoublesWrong : ChangeSpec := { name := "subscriberDoubles", fn := fun _ => fun
  | [d1, d2] => { results := [.lit (.bool false)], args := [d1, d2] }
  | _ => none }
def SubscriberDoublesWrongFalsely : Prop := subscriberDoublesRow.holds Try.pinned (OpenSpec.ofChange subscriberDoublesWrong)

/-- 'substationlaw13.PublisherUnsendable': WHATEVER THE INPUT: true; the input reads as it did. -/
def publisherUnsendableSpec : ChangeSpec := { name := "publisherUnsendable", fn := fun _ => fun
  | [d1, d2, d3] => { results := [.lit (.bool true)], args := [d1, d2, d3] }
  | _ => none }
def publisherUnsendableRow : OpenClaim := { program := "ytokbcminleemaaa", sum := "e59ffac03ba22f7eab25e5c4322c79b794506702e8dee1fd8fc01eba0183e68f", func := "substation/substationlaw13.PublisherUnsendable", spec := "publisherUnsendable", unfollowed := true, recurses := true, apart := false }
def PublisherUnsendableSaid : Prop := publisherUnsendableRow.holds Try.pinned (OpenSpec.ofChange publisherUnsendableSpec)

/-- ITS FALSE NEIGHBOUR: 'it returns false'. Refute it at one input. -/
def publisherUnsendableWrong : ChangeSpec := { name := "publisherUnsendable", fn := fun _ => fun
  | [d1, d2, d3] => { results := [.lit (.bool false)], args := [d1, d2, d3] }
  | _ => none }
def PublisherUnsendableWrongFalsely : Prop := publisherUnsendableRow.holds Try.pinned (OpenSpec.ofChange publisherUnsendableWrong)

/-- 'substationlaw14.SubscriberFollows': WHATEVER THE INPUT: true; the input reads as it did. -/
def subscriberFollowsSpec : ChangeSpec := { name := "subscriberFollows", fn := fun _ => fun
  | [d1, d2, d3] => { results := [.lit (.bool true)], args := [d1, d2, d3] }
  | _ => none }
def subscriberFollowsRow : OpenClaim := { program := "ytokbcminleemaaa", sum := "e59ffac03ba22f7eab25e5c4322c79b794506702e8dee1fd8fc01eba0183e68f", func := "substation/substationlaw14.SubscriberFollows", spec := "subscriberFollows", unfollowed := true, recurses := true, apart := false }
def SubscriberFollowsSaid : Prop := subscriberFollowsRow.holds Try.pinned (OpenSpec.ofChange subscriberFollowsSpec)

/-- ITS FALSE NEIGHBOUR: 'it returns false'. Refute it at one input. -/
def subscriberFollowsWrong : ChangeSpec := { name := "subscriberFollows", fn := fun _ => fun
  | [d1, d2, d3] => { results := [.lit (.bool false)], args := [d1, d2, d3] }
  | _ => none }
def SubscriberFollowsWrongFalsely : Prop := subscriberFollowsRow.holds Try.pinned (OpenSpec.ofChange subscriberFollowsWrong)

/-- 'substationlaw14.SubscriberSurvives': WHATEVER THE INPUT: true; the input reads as it did. -/
def subscriberSurvivesSpec : ChangeSpec := { name := "subscriberSurvives", fn := fun _ => fun
  | [d1, d2, d3] => { results := [.lit (.bool true)], args := [d1, d2, d3] }
  | _ => none }
def subscriberSurvivesRow : OpenClaim := { program := "ytokbcminleemaaa", sum := "e59ffac03ba22f7eab25e5c4322c79b794506702e8dee1fd8fc01eba0183e68f", func := "substation/substationlaw14.SubscriberSurvives", spec := "subscriberSurvives", unfollowed := true, recurses := true, apart := false }
def SubscriberSurvivesSaid : Prop := subscriberSurvivesRow.holds Try.pinned (OpenSpec.ofChange subscriberSurvivesSpec)

/-- ITS FALSE NEIGHBOUR: 'it returns false'. Refute it at one input. -/
def subscriberSurvivesWrong : ChangeSpec := { name := "subscriberSurvives", fn := fun _ => fun
  | [d1, d2, d3] => { results := [.lit (.bool false)], args := [d1, d2, d3] }
  | _ => none }
def SubscriberSurvivesWrongFalsely : Prop := subscriberSurvivesRow.holds Try.pinned (OpenSpec.ofChange subscriberSurvivesWrong)

/-- 'substationlaw14.SubscriberConverges': WHATEVER THE INPUT: true; the input reads as it did. -/
def subscriberConvergesSpec : ChangeSpec := { name := "subscriberConverges", fn := fun _ => fun
  | [d1, d2, d3] => { results := [.lit (.bool true)], args := [d1, d2, d3] }
  | _ => none }
def subscriberConvergesRow : OpenClaim := { program := "ytokbcminleemaaa", sum := "e59ffac03ba22f7eab25e5c4322c79b794506702e8dee1fd8fc01eba0183e68f", func := "substation/substationlaw14.SubscriberConverges", spec := "subscriberConverges", unfollowed := true, recurses := true, apart := false }
def SubscriberConvergesSaid : Prop := subscriberConvergesRow.holds Try.pinned (OpenSpec.ofChange subscriberConvergesSpec)

/-- ITS FALSE NEIGHBOUR: 'it returns false'. Refute it at one input. -/
def subscriberConvergesWrong : ChangeSpec := { name := "subscriberConverges", fn := fun _ => fun
  | [d1, d2, d3] => { results := [.lit (.bool false)], args := [d1, d2, d3] }
  | _ => none }
def SubscriberConvergesWrongFalsely : Prop := subscriberConvergesRow.holds Try.pinned (OpenSpec.ofChange subscriberConvergesWrong)

/- THE SECOND FORM. 'bulk': how many values and letters a reading holds, each counted each time it is reached (what is shared counts as often as it is met; a slice's spare places count too). A statement '..UptoSaid' is the law's where the arguments, and the package variables that the reading takes, are together of bulk at most 1048576: NARROWER than '..Said'. Prove '..Said' where nothing that the law and all that it calls make is longer than what came in: it says more and counts as full. Else prove '..UptoSaid'. A law counts once. -/
mutual
def uptoBulk {H : Type} : DataW H → Nat
  | .lit (.string bytes) => bytes.length + 1
  | .lit _ => 1
  | .nil => 1
  | .ptr d => uptoBulk d + 1
  | .slice elems spare => uptoBulkAll elems + uptoBulkAll spare + 1
  | .agg parts => uptoBulkAll parts + 1
  | .iface _ d => uptoBulk d + 1
  | .map entries => uptoBulkEntries entries + 1
  | .held _ => 1
def uptoBulkAll {H : Type} : List (DataW H) → Nat
  | [] => 0
  | d :: r => uptoBulk d + uptoBulkAll r
def uptoBulkEntries {H : Type} : List (Lit × DataW H) → Nat
  | [] => 0
  | x :: r => uptoBulkEntry x + uptoBulkEntries r
def uptoBulkEntry {H : Type} : Lit × DataW H → Nat
  | (.string bytes, d) => bytes.length + uptoBulk d + 1
  | (_, d) => uptoBulk d + 1
 end
def uptoSmall : (H : Type) → List (DataW H) → Bool := fun _ ds => decide (uptoBulkAll ds ≤ 1048576)
def OpenSpec.upto (s : _root_.Go.ChangeSpec) : _root_.Go.OpenSpec := { _root_.Go.OpenSpec.ofChange s with cond := some uptoSmall }

/-- 'substationlaw14.SubscriberPlays', WHERE WHAT IT READS IS OF BULK AT MOST 1048576: true; the input reads as it did. -/
def subscriberPlaysUptoRow : OpenClaim := { program := "ytokbcminleemaaa", sum := "e59ffac03ba22f7eab25e5c4322c79b794506702e8dee1fd8fc01eba0183e68f", func := "substation/substationlaw14.SubscriberPlays", spec := "subscriberPlays", unfollowed := true, recurses := true, apart := false, narrowed := true }
def SubscriberPlaysUptoSaid : Prop := subscriberPlaysUptoRow.holds Try.pinned (OpenSpec.upto subscriberPlaysSpec)

/-- 'substationlaw14.SubscriberForeign', WHERE WHAT IT READS IS OF BULK AT MOST 1048576: true; the input reads as it did. -/
def subscriberForeignUptoRow : OpenClaim := { program := "ytokbcminleemaaa", sum := "e59ffac03ba22f7eab25e5c4322c79b794506702e8dee1fd8fc01eba0183e68f", func := "substation/substationlaw14.SubscriberForeign", spec := "subscriberForeign", unfollowed := true, recurses := true, apart := false, narrowed := true }
def SubscriberForeignUptoSaid : Prop := subscriberForeignUptoRow.holds Try.pinned (OpenSpec.upto subscriberForeignSpec)

/-- 'substationlaw13.PublisherPrompt', WHERE WHAT IT READS IS OF BULK AT MOST 1048576: true; the input reads as it did. -/
def publisherPromptUptoRow : OpenClaim := { program := "ytokbcminleemaaa", sum := "e59ffac03ba22f7eab25e5c4322c79b794506702e8dee1fd8fc01eba0183e68f", func := "substation/substationlaw13.PublisherPrompt", spec := "publisherPrompt", unfollowed := true, recurses := true, apart := false, narrowed := true }
def PublisherPromptUptoSaid : Prop := publisherPromptUptoRow.holds Try.pinned (OpenSpec.upto publisherPromptSpec)

/-- 'substationlaw13.PublisherOverlap', WHERE WHAT IT READS IS OF BULK AT MOST 1048576: true; the input reads as it did. -/
def publisherOverlapUptoRow : OpenClaim := { program := "ytokbcminleemaaa", sum := "e59ffac03ba22f7eab25e5c4322c79b794506702e8dee1fd8fc01eba0183e68f", func := "substation/substationlaw13.PublisherOverlap", spec := "publisherOverlap", unfollowed := true, recurses := true, apart := false, narrowed := true }
def PublisherOverlapUptoSaid : Prop := publisherOverlapUptoRow.holds Try.pinned (OpenSpec.upto publisherOverlapSpec)

/-- 'substationlaw13.PublisherIntervals', WHERE WHAT IT READS IS OF BULK AT MOST 1048576: true; the input reads as it did. -/
def publisherIntervalsUptoRow : OpenClaim := { program := "ytokbcminleemaaa", sum := "e59ffac03ba22f7eab25e5c4322c79b794506702e8dee1fd8fc01eba0183e68f", func := "substation/substationlaw13.PublisherIntervals", spec := "publisherIntervals", unfollowed := true, recurses := true, apart := false, narrowed := true }
def PublisherIntervalsUptoSaid : Prop := publisherIntervalsUptoRow.holds Try.pinned (OpenSpec.upto publisherIntervalsSpec)

/-- 'substationlaw14.SubscriberNeverBack', WHERE WHAT IT READS IS OF BULK AT MOST 1048576: true; the input reads as it did. -/
def subscriberNeverBackUptoRow : OpenClaim := { program := "ytokbcminleemaaa", sum := "e59ffac03ba22f7eab25e5c4322c79b794506702e8dee1fd8fc01eba0183e68f", func := "substation/substationlaw14.SubscriberNeverBack", spec := "subscriberNeverBack", unfollowed := true, recurses := true, apart := false, narrowed := true }
def SubscriberNeverBackUptoSaid : Prop := subscriberNeverBackUptoRow.holds Try.pinned (OpenSpec.upto subscriberNeverBackSpec)

/-- 'substationlaw14.SubscriberDoubles', WHERE WHAT IT READS IS OF BULK AT MOST 1048576: true; the input reads as it did. -/
def subscriberDoublesUptoRow : OpenClaim := { program := "ytokbcminleemaaa", sum := "e59ffac03ba22f7eab25e5c4322c79b794506702e8dee1fd8fc01eba0183e68f", func := "substation/substationlaw14.SubscriberDoubles", spec := "subscriberDoubles", unfollowed := true, recurses := true, apart := false, narrowed := true }
def SubscriberDoublesUptoSaid : Prop := subscriberDoublesUptoRow.holds Try.pinned (OpenSpec.upto subscriberDoublesSpec)

/-- 'substationlaw13.PublisherUnsendable', WHERE WHAT IT READS IS OF BULK AT MOST 1048576: true; the input reads as it did. -/
def publisherUnsendableUptoRow : OpenClaim := { program := "ytokbcminleemaaa", sum := "e59ffac03ba22f7eab25e5c4322c79b794506702e8dee1fd8fc01eba0183e68f", func := "substation/substationlaw13.PublisherUnsendable", spec := "publisherUnsendable", unfollowed := true, recurses := true, apart := false, narrowed := true }
def PublisherUnsendableUptoSaid : Prop := publisherUnsendableUptoRow.holds Try.pinned (OpenSpec.upto publisherUnsendableSpec)

/-- 'substationlaw14.SubscriberFollows', WHERE WHAT IT READS IS OF BULK AT MOST 1048576: true; the input reads as it did. -/
def subscriberFollowsUptoRow : OpenClaim := { program := "ytokbcminleemaaa", sum := "e59ffac03ba22f7eab25e5c4322c79b794506702e8dee1fd8fc01eba0183e68f", func := "substation/substationlaw14.SubscriberFollows", spec := "subscriberFollows", unfollowed := true, recurses := true, apart := false, narrowed := true }
def SubscriberFollowsUptoSaid : Prop := subscriberFollowsUptoRow.holds Try.pinned (OpenSpec.upto subscriberFollowsSpec)

/-- 'substationlaw14.SubscriberSurvives', WHERE WHAT IT READS IS OF BULK AT MOST 1048576: true; the input reads as it did. -/
def subscriberSurvivesUptoRow : OpenClaim := { program := "ytokbcminleemaaa", sum := "e59ffac03ba22f7eab25e5c4322c79b794506702e8dee1fd8fc01eba0183e68f", func := "substation/substationlaw14.SubscriberSurvives", spec := "subscriberSurvives", unfollowed := true, recurses := true, apart := false, narrowed := true }
def SubscriberSurvivesUptoSaid : Prop := subscriberSurvivesUptoRow.holds Try.pinned (OpenSpec.upto subscriberSurvivesSpec)

/-- 'substationlaw14.SubscriberConverges', WHERE WHAT IT READS IS OF BULK AT MOST 1048576: true; the input reads as it did. -/
def subscriberConvergesUptoRow : OpenClaim := { program := "ytokbcminleemaaa", sum := "e59ffac03ba22f7eab25e5c4322c79b794506702e8dee1fd8fc01eba0183e68f", func := "substation/substationlaw14.SubscriberConverges", spec := "subscriberConverges", unfollowed := true, recurses := true, apart := false, narrowed := true }
def SubscriberConvergesUptoSaid : Prop := subscriberConvergesUptoRow.holds Try.pinned (OpenSpec.upto subscriberConvergesSpec)

end Rows
end Go.Proofs.Ytokbcminleemaaa
