/-
  No cell of these rows narrows 'for every input' (looked for: loops, veiled, ifaces, maps, wideKeys, modest, calm, conditions, laid).
  DERIVED. THE GIVEN ROWS OF THIS SEAT. 8 by the template 'for every input the law returns true; each argument reads behind the call as it read before'; 0 by the template 'total and deterministic' (their statements: YtegekmdechcikaaTotals.lean).
  GIVEN WITH THE SEED: the statements are not yours to turn. If you find one false, say at which input.
  Laid BY PROGRAM, IN A SANDBOX (cutbox-rows.mjs): the forced cells as the released guide's own fill.sh prints them over the translation 29f29b1dd1c1d43a… (all of the seat's roots in one cut). By AI agents, Wed Nov 11 2026. No macro, syntax, notation, axiom, sorry.
-/
import Derived.Test.YtegekmdechcikaaChecked
import GoSem.Claim
import GoSem.ClaimJoined
import GoSem.ClaimMapViews
import Derived.JoinedTies
import Derived.KernelRfl
namespace Go.Proofs.Ytegekmdechcikaa
/- THE CELL 'sum', in the pinned program and in every row, IS THE sha256 OF THE DUMP (.gsa) THAT YtegekmdechcikaaProg.lean LOADS. Nothing in Lean hashes anything: it is a label: what it is worth is what the hold of that sum in a sandbox is worth. -/
noncomputable def Try.pinned : Pinned := { name := "ytegekmdechcikaa", sum := "29f29b1dd1c1d43abd522df6cdf7b8ce4430844b0b8ffd3ce64f92793d919e6d", checked := Try.checked }
namespace Rows
def none {H : Type} : Left H := { results := [], args := [] }

/-- 'drydocklaw27.ScrubOrders': WHATEVER THE INPUT: true; the input reads as it did. -/
def scrubOrdersSpec : ChangeSpec := { name := "scrubOrders", fn := fun _ => fun
  | [d1, d2, d3] => { results := [.lit (.bool true)], args := [d1, d2, d3] }
  | _ => none }
def scrubOrdersRow : OpenClaim := { program := "ytegekmdechcikaa", sum := "29f29b1dd1c1d43abd522df6cdf7b8ce4430844b0b8ffd3ce64f92793d919e6d", func := "drydock/drydocklaw27.ScrubOrders", spec := "scrubOrders", inPlace := ["internal/abi.NoEscape", "internal/bytealg.MakeNoZero"], apart := false }
def ScrubOrdersSaid : Prop := scrubOrdersRow.holds Try.pinned (OpenSpec.ofChange scrubOrdersSpec)

/-- ITS FALSE NEIGHBOUR: 'it returns false'. Refute it at one input. -/
def scrubOrdersWrong : ChangeSpec := { name := "scrubOrders", fn := fun _ => fun
  | [d1, d2, d3] => { results := [.lit (.bool false)], args := [d1, d2, d3] }
  | _ => none }
def ScrubOrdersWrongFalsely : Prop := scrubOrdersRow.holds Try.pinned (OpenSpec.ofChange scrubOrdersWrong)

/-- 'drydocklaw27.ScrubDetects': WHATEVER THE INPUT: true; the input reads as it did. -/
def scrubDetectsSpec : ChangeSpec := { name := "scrubDetects", fn := fun _ => fun
  | [d1, d2, d3, d4] => { results := [.lit (.bool true)], args := [d1, d2, d3, d4] }
  | _ => none }
def scrubDetectsRow : OpenClaim := { program := "ytegekmdechcikaa", sum := "29f29b1dd1c1d43abd522df6cdf7b8ce4430844b0b8ffd3ce64f92793d919e6d", func := "drydock/drydocklaw27.ScrubDetects", spec := "scrubDetects", inPlace := ["internal/abi.NoEscape", "internal/bytealg.MakeNoZero"], apart := false }
def ScrubDetectsSaid : Prop := scrubDetectsRow.holds Try.pinned (OpenSpec.ofChange scrubDetectsSpec)

/-- ITS FALSE NEIGHBOUR: 'it returns false'. Refute it at one input. -/
def scrubDetectsWrong : ChangeSpec := { name := "scrubDetects", fn := fun _ => fun
  | [d1, d2, d3, d4] => { results := [.lit (.bool false)], args := [d1, d2, d3, d4] }
  | _ => none }
def ScrubDetectsWrongFalsely : Prop := scrubDetectsRow.holds Try.pinned (OpenSpec.ofChange scrubDetectsWrong)

/-- 'drydocklaw27.ScrubAgrees': WHATEVER THE INPUT: true; the input reads as it did. -/
def scrubAgreesSpec : ChangeSpec := { name := "scrubAgrees", fn := fun _ => fun
  | [d1, d2, d3, d4] => { results := [.lit (.bool true)], args := [d1, d2, d3, d4] }
  | _ => none }
def scrubAgreesRow : OpenClaim := { program := "ytegekmdechcikaa", sum := "29f29b1dd1c1d43abd522df6cdf7b8ce4430844b0b8ffd3ce64f92793d919e6d", func := "drydock/drydocklaw27.ScrubAgrees", spec := "scrubAgrees", inPlace := ["internal/abi.NoEscape", "internal/bytealg.MakeNoZero"], apart := false }
def ScrubAgreesSaid : Prop := scrubAgreesRow.holds Try.pinned (OpenSpec.ofChange scrubAgreesSpec)

/-- ITS FALSE NEIGHBOUR: 'it returns false'. Refute it at one input. -/
def scrubAgreesWrong : ChangeSpec := { name := "scrubAgrees", fn := fun _ => fun
  | [d1, d2, d3, d4] => { results := [.lit (.bool false)], args := [d1, d2, d3, d4] }
  | _ => none }
def ScrubAgreesWrongFalsely : Prop := scrubAgreesRow.holds Try.pinned (OpenSpec.ofChange scrubAgreesWrong)

/-- 'drydocklaw27.ScrubMeasures': WHATEVER THE INPUT: true; the input reads as it did. -/
def scrubMeasuresSpec : ChangeSpec := { name := "scrubMeasures", fn := fun _ => fun
  | [d1, d2, d3, d4] => { results := [.lit (.bool true)], args := [d1, d2, d3, d4] }
  | _ => none }
def scrubMeasuresRow : OpenClaim := { program := "ytegekmdechcikaa", sum := "29f29b1dd1c1d43abd522df6cdf7b8ce4430844b0b8ffd3ce64f92793d919e6d", func := "drydock/drydocklaw27.ScrubMeasures", spec := "scrubMeasures", inPlace := ["internal/abi.NoEscape", "internal/bytealg.MakeNoZero"], apart := false }
def ScrubMeasuresSaid : Prop := scrubMeasuresRow.holds Try.pinned (OpenSpec.ofChange scrubMeasuresSpec)

/-- ITS FALSE NEIGHBOUR: 'it returns false'. Refute it at one input. -/
def scrubMeasuresWrong : ChangeSpec := { name := "scrubMeasures", fn := fun _ => fun
  | [d1, d2, d3, d4] => { results := [.lit (.bool false)], args := [d1, d2, d3, d4] }
  | _ => none }
def ScrubMeasuresWrongFalsely : Prop := scrubMeasuresRow.holds Try.pinned (OpenSpec.ofChange scrubMeasuresWrong)

/-- 'drydocklaw27.ScrubCapacity': WHATEVER THE INPUT: true; the input reads as it did. -/
def scrubCapacitySpec : ChangeSpec := { name := "scrubCapacity", fn := fun _ => fun
  | [d1, d2, d3, d4, d5] => { results := [.lit (.bool true)], args := [d1, d2, d3, d4, d5] }
  | _ => none }
def scrubCapacityRow : OpenClaim := { program := "ytegekmdechcikaa", sum := "29f29b1dd1c1d43abd522df6cdf7b8ce4430844b0b8ffd3ce64f92793d919e6d", func := "drydock/drydocklaw27.ScrubCapacity", spec := "scrubCapacity", inPlace := ["internal/abi.NoEscape", "internal/bytealg.MakeNoZero"], apart := false }
def ScrubCapacitySaid : Prop := scrubCapacityRow.holds Try.pinned (OpenSpec.ofChange scrubCapacitySpec)

/-- ITS FALSE NEIGHBOUR: 'it returns false'. Refute it at one input. -/
def scrubCapacityWrong : ChangeSpec := { name := "scrubCapacity", fn := fun _ => fun
  | [d1, d2, d3, d4, d5] => { results := [.lit (.bool false)], args := [d1, d2, d3, d4, d5] }
  | _ => none }
def ScrubCapacityWrongFalsely : Prop := scrubCapacityRow.holds Try.pinned (OpenSpec.ofChange scrubCapacityWrong)

/-- 'drydocklaw27.ScrubLists': WHATEVER THE INPUT: true; the input reads as it did. -/
def scrubListsSpec : ChangeSpec := { name := "scrubLists", fn := fun _ => fun
  | [d1, d2, d3, d4, d5] => { results := [.lit (.bool true)], args := [d1, d2, d3, d4, d5] }
  | _ => none }
def scrubListsRow : OpenClaim := { program := "ytegekmdechcikaa", sum := "29f29b1dd1c1d43abd522df6cdf7b8ce4430844b0b8ffd3ce64f92793d919e6d", func := "drydock/drydocklaw27.ScrubLists", spec := "scrubLists", inPlace := ["internal/abi.NoEscape", "internal/bytealg.MakeNoZero"], apart := false }
def ScrubListsSaid : Prop := scrubListsRow.holds Try.pinned (OpenSpec.ofChange scrubListsSpec)

/-- ITS FALSE NEIGHBOUR: 'it returns false'. Refute it at one input. -/
def scrubListsWrong : ChangeSpec := { name := "scrubLists", fn := fun _ => fun
  | [d1, d2, d3, d4, d5] => { results := [.lit (.bool false)], args := [d1, d2, d3, d4, d5] }
  | _ => none }
def ScrubListsWrongFalsely : Prop := scrubListsRow.holds Try.pinned (OpenSpec.ofChange scrubListsWrong)

/-- 'drydocklaw27.ScrubClassifies': WHATEVER THE INPUT: true; the input reads as it did. -/
def scrubClassifiesSpec : ChangeSpec := { name := "scrubClassifies", fn := fun _ => fun
  | [d1, d2, d3, d4, d5, d6] => { results := [.lit (.bool true)], args := [d1, d2, d3, d4, d5, d6] }
  | _ => none }
def scrubClassifiesRow : OpenClaim := { program := "ytegekmdechcikaa", sum := "29f29b1dd1c1d43abd522df6cdf7b8ce4430844b0b8ffd3ce64f92793d919e6d", func := "drydock/drydocklaw27.ScrubClassifies", spec := "scrubClassifies", inPlace := ["internal/abi.NoEscape", "internal/bytealg.MakeNoZero"], apart := false }
def ScrubClassifiesSaid : Prop := scrubClassifiesRow.holds Try.pinned (OpenSpec.ofChange scrubClassifiesSpec)

/-- ITS FALSE NEIGHBOUR: 'it returns false'. Refute it at one input. -/
def scrubClassifiesWrong : ChangeSpec := { name := "scrubClassifies", fn := fun _ => fun
  | [d1, d2, d3, d4, d5, d6] => { results := [.lit (.bool false)], args := [d1, d2, d3, d4, d5, d6] }
  | _ => none }
def ScrubClassifiesWrongFalsely : Prop := scrubClassifiesRow.holds Try.pinned (OpenSpec.ofChange scrubClassifiesWrong)

/-- 'drydocklaw27.ScrubSleeps': WHATEVER THE INPUT: true; the input reads as it did. -/
def scrubSleepsSpec : ChangeSpec := { name := "scrubSleeps", fn := fun _ => fun
  | [d1, d2, d3, d4, d5] => { results := [.lit (.bool true)], args := [d1, d2, d3, d4, d5] }
  | _ => none }
def scrubSleepsRow : OpenClaim := { program := "ytegekmdechcikaa", sum := "29f29b1dd1c1d43abd522df6cdf7b8ce4430844b0b8ffd3ce64f92793d919e6d", func := "drydock/drydocklaw27.ScrubSleeps", spec := "scrubSleeps", inPlace := ["internal/abi.NoEscape", "internal/bytealg.MakeNoZero"], apart := false }
def ScrubSleepsSaid : Prop := scrubSleepsRow.holds Try.pinned (OpenSpec.ofChange scrubSleepsSpec)

/-- ITS FALSE NEIGHBOUR: 'it returns false'. Refute it at one input. -/
def scrubSleepsWrong : ChangeSpec := { name := "scrubSleeps", fn := fun _ => fun
  | [d1, d2, d3, d4, d5] => { results := [.lit (.bool false)], args := [d1, d2, d3, d4, d5] }
  | _ => none }
def ScrubSleepsWrongFalsely : Prop := scrubSleepsRow.holds Try.pinned (OpenSpec.ofChange scrubSleepsWrong)

/- THE SECOND FORM. 'bulk': how many values and letters a reading holds, each counted each time it is reached (what is shared counts as often as it is met; a slice's spare places count too). A statement '..UptoSaid' is the law's where the arguments, and the package variables that the reading takes, are together of bulk at most 1048576: NARROWER than '..Said'. Prove '..Said' where nothing that the law and all that it calls make is longer than what came in: it says more and counts as full. Else prove '..UptoSaid'. A law counts once. -/
mutual
def uptoBulk {H : Type} : DataW H → Nat
  | .lit (.string bytes) => bytes.length + 1
  | .lit _ => 1
  | .nil => 1
  | .ptr d => uptoBulk d + 1
  | .slice elems spare => uptoBulkAll elems + uptoBulkAll spare + 1
  | .agg parts => uptoBulkAll parts + 1
  | .iface _ d => uptoBulk d + 1
  | .map entries => uptoBulkEntries entries + 1
  | .held _ => 1
def uptoBulkAll {H : Type} : List (DataW H) → Nat
  | [] => 0
  | d :: r => uptoBulk d + uptoBulkAll r
def uptoBulkEntries {H : Type} : List (Lit × DataW H) → Nat
  | [] => 0
  | x :: r => uptoBulkEntry x + uptoBulkEntries r
def uptoBulkEntry {H : Type} : Lit × DataW H → Nat
  | (.string bytes, d) => bytes.length + uptoBulk d + 1
  | (_, d) => uptoBulk d + 1
 end
def uptoSmall : (H : Type) → List (DataW H) → Bool := fun _ ds => decide (uptoBulkAll ds ≤ 1048576)
def OpenSpec.upto (s : _root_.Go.ChangeSpec) : _root_.Go.OpenSpec := { _root_.Go.OpenSpec.ofChange s with cond := some uptoSmall }

/-- 'drydocklaw27.ScrubOrders', WHERE WHAT IT READS IS OF BULK AT MOST 1048576: true; the input reads as it did. -/
def scrubOrdersUptoRow : OpenClaim := { program := "ytegekmdechcikaa", sum := "29f29b1dd1c1d43abd522df6cdf7b8ce4430844b0b8ffd3ce64f92793d919e6d", func := "drydock/drydocklaw27.ScrubOrders", spec := "scrubOrders", inPlace := ["internal/abi.NoEscape", "internal/bytealg.MakeNoZero"], apart := false, narrowed := true }
def ScrubOrdersUptoSaid : Prop := scrubOrdersUptoRow.holds Try.pinned (OpenSpec.upto scrubOrdersSpec)

/-- 'drydocklaw27.ScrubDetects', WHERE WHAT IT READS IS OF BULK AT MOST 1048576: true; the input reads as it did. -/
def scrubDetectsUptoRow : OpenClaim := { program := "ytegekmdechcikaa", sum := "29f29b1dd1c1d43abd522df6cdf7b8ce4430844b0b8ffd3ce64f92793d919e6d", func := "drydock/drydocklaw27.ScrubDetects", spec := "scrubDetects", inPlace := ["internal/abi.NoEscape", "internal/bytealg.MakeNoZero"], apart := false, narrowed := true }
def ScrubDetectsUptoSaid : Prop := scrubDetectsUptoRow.holds Try.pinned (OpenSpec.upto scrubDetectsSpec)

/-- 'drydocklaw27.ScrubAgrees', WHERE WHAT IT READS IS OF BULK AT MOST 1048576: true; the input reads as it did. -/
def scrubAgreesUptoRow : OpenClaim := { program := "ytegekmdechcikaa", sum := "29f29b1dd1c1d43abd522df6cdf7b8ce4430844b0b8ffd3ce64f92793d919e6d", func := "drydock/drydocklaw27.ScrubAgrees", spec := "scrubAgrees", inPlace := ["internal/abi.NoEscape", "internal/bytealg.MakeNoZero"], apart := false, narrowed := true }
def ScrubAgreesUptoSaid : Prop := scrubAgreesUptoRow.holds Try.pinned (OpenSpec.upto scrubAgreesSpec)

/-- 'drydocklaw27.ScrubMeasures', WHERE WHAT IT READS IS OF BULK AT MOST 1048576: true; the input reads as it did. -/
def scrubMeasuresUptoRow : OpenClaim := { program := "ytegekmdechcikaa", sum := "29f29b1dd1c1d43abd522df6cdf7b8ce4430844b0b8ffd3ce64f92793d919e6d", func := "drydock/drydocklaw27.ScrubMeasures", spec := "scrubMeasures", inPlace := ["internal/abi.NoEscape", "internal/bytealg.MakeNoZero"], apart := false, narrowed := true }
def ScrubMeasuresUptoSaid : Prop := scrubMeasuresUptoRow.holds Try.pinned (OpenSpec.upto scrubMeasuresSpec)

/-- 'drydocklaw27.ScrubCapacity', WHERE WHAT IT READS IS OF BULK AT MOST 1048576: true; the input reads as it did. -/
def scrubCapacityUptoRow : OpenClaim := { program := "ytegekmdechcikaa", sum := "29f29b1dd1c1d43abd522df6cdf7b8ce4430844b0b8ffd3ce64f92793d919e6d", func := "drydock/drydocklaw27.ScrubCapacity", spec := "scrubCapacity", inPlace := ["internal/abi.NoEscape", "internal/bytealg.MakeNoZero"], apart := false, narrowed := true }
def ScrubCapacityUptoSaid : Prop := scrubCapacityUptoRow.holds Try.pinned (OpenSpec.upto scrubCapacitySpec)

/-- 'drydocklaw27.ScrubLists', WHERE WHAT IT READS IS OF BULK AT MOST 1048576: true; the input reads as it did. -/
def scrubListsUptoRow : OpenClaim := { program := "ytegekmdechcikaa", sum := "29f29b1dd1c1d43abd522df6cdf7b8ce4430844b0b8ffd3ce64f92793d919e6d", func := "drydock/drydocklaw27.ScrubLists", spec := "scrubLists", inPlace := ["internal/abi.NoEscape", "internal/bytealg.MakeNoZero"], apart := false, narrowed := true }
def ScrubListsUptoSaid : Prop := scrubListsUptoRow.holds Try.pinned (OpenSpec.upto scrubListsSpec)

/-- 'drydocklaw27.ScrubClassifies', WHERE WHAT IT READS IS OF BULK AT MOST 1048576: true; the input reads as it did. -/
def scrubClassifiesUptoRow : OpenClaim := { program := "ytegekmdechcikaa", sum := "29f29b1dd1c1d43abd522df6cdf7b8ce4430844b0b8ffd3ce64f92793d919e6d", func := "drydock/drydocklaw27.ScrubClassifies", spec := "scrubClassifies", inPlace := ["internal/abi.NoEscape", "internal/bytealg.MakeNoZero"], apart := false, narrowed := true }
def ScrubClassifiesUptoSaid : Prop := scrubClassifiesUptoRow.holds Try.pinned (OpenSpec.upto scrubClassifiesSpec)

/-- 'drydocklaw27.ScrubSleeps', WHERE WHAT IT READS IS OF BULK AT MOST 1048576: true; the input reads as it did. -/
def scrubSleepsUptoRow : OpenClaim := { program := "ytegekmdechcikaa", sum := "29f29b1dd1c1d43abd522df6cdf7b8ce4430844b0b8ffd3ce64f92793d919e6d", func := "drydock/drydocklaw27.ScrubSleeps", spec := "scrubSleeps", inPlace := ["internal/abi.NoEscape", "internal/bytealg.MakeNoZero"], apart := false, narrowed := true }
def ScrubSleepsUptoSaid : Prop := scrubSleepsUptoRow.holds Try.pinned (OpenSpec.upto scrubSleepsSpec)

end Rows
end Go.Proofs.Ytegekmdechcikaa
