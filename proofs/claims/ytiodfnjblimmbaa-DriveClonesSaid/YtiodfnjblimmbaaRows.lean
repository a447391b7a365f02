/-
  No cell of these rows narrows 'for every input' (looked for: loops, veiled, ifaces, maps, wideKeys, modest, calm, conditions, laid).
  DERIVED. THE GIVEN ROWS OF THIS SEAT. 11 by the template 'for every input the law returns true; each argument reads behind the call as it read before'; 0 by the template 'total and deterministic' (their statements: YtiodfnjblimmbaaTotals.lean).
  GIVEN WITH THE SEED: the statements are not yours to turn. If you find one false, say at which input.
  Laid BY PROGRAM, IN A SANDBOX (cutbox-rows.mjs): the forced cells as the released guide's own fill.sh prints them over the translation 5d98143e9898e1e0… (all of the seat's roots in one cut). By AI agents, Wed Nov 11 2026. No macro, syntax, notation, axiom, sorry.
-/
import Derived.Test.YtiodfnjblimmbaaChecked
import GoSem.Claim
import GoSem.ClaimJoined
import GoSem.ClaimMapViews
import Derived.JoinedTies
import Derived.KernelRfl
namespace Go.Proofs.Ytiodfnjblimmbaa
/- THE CELL 'sum', in the pinned program and in every row, IS THE sha256 OF THE DUMP (.gsa) THAT YtiodfnjblimmbaaProg.lean LOADS. Nothing in Lean hashes anything: it is a label: what it is worth is what the hold of that sum in a sandbox is worth. -/
noncomputable def Try.pinned : Pinned := { name := "ytiodfnjblimmbaa", sum := "5d98143e9898e1e0bd44a48b86e29022066bbff7a7c71a4525afcbf8ba9f4b67", checked := Try.checked }
namespace Rows
def none {H : Type} : Left H := { results := [], args := [] }

/-- 'drydocklaw26.DriveWraps': WHATEVER THE INPUT: true; the input reads as it did. -/
def driveWrapsSpec : ChangeSpec := { name := "driveWraps", fn := fun _ => fun
  | [d1, d2, d3, d4, d5, d6] => { results := [.lit (.bool true)], args := [d1, d2, d3, d4, d5, d6] }
  | _ => none }
def driveWrapsRow : OpenClaim := { program := "ytiodfnjblimmbaa", sum := "5d98143e9898e1e0bd44a48b86e29022066bbff7a7c71a4525afcbf8ba9f4b67", func := "drydock/drydocklaw26.DriveWraps", spec := "driveWraps", inPlace := ["internal/abi.NoEscape", "internal/bytealg.MakeNoZero"], apart := false }
def DriveWrapsSaid : Prop := driveWrapsRow.holds Try.pinned (OpenSpec.ofChange driveWrapsSpec)

/-- ITS FALSE NEIGHBOUR: 'it returns false'. Refute it at one input. -/
def driveWrapsWrong : ChangeSpec := { name := "driveWraps", fn := fun _ => fun
  | [d1, d2, d3, d4, d5, d6] => { results := [.lit (.bool false)], args := [d1, d2, d3, d4, d5, d6] }
  | _ => none }
def DriveWrapsWrongFalsely : Prop := driveWrapsRow.holds Try.pinned (OpenSpec.ofChange driveWrapsWrong)

/-- 'drydocklaw26.DriveNews': WHATEVER THE INPUT: true; the input reads as it did. -/
def driveNewsSpec : ChangeSpec := { name := "driveNews", fn := fun _ => fun
  | [d1, d2] => { results := [.lit (.bool true)], args := [d1, d2] }
  | _ => none }
def driveNewsRow : OpenClaim := { program := "ytiodfnjblimmbaa", sum := "5d98143e9898e1e0bd44a48b86e29022066bbff7a7c71a4525afcbf8ba9f4b67", func := "drydock/drydocklaw26.DriveNews", spec := "driveNews", inPlace := ["internal/abi.NoEscape", "internal/bytealg.MakeNoZero"], apart := false }
def DriveNewsSaid : Prop := driveNewsRow.holds Try.pinned (OpenSpec.ofChange driveNewsSpec)

/-- ITS FALSE NEIGHBOUR: 'it returns false'. Refute it at one input. -/
def driveNewsWrong : ChangeSpec := { name := "driveNews", fn := fun _ => fun
  | [d1, d2] => { results := [.lit (.bool false)], args := [d1, d2] }
  | _ => none }
def DriveNewsWrongFalsely : Prop := driveNewsRow.holds Try.pinned (OpenSpec.ofChange driveNewsWrong)

/-- 'drydocklaw26.DriveFences': WHATEVER THE INPUT: true; the input reads as it did. -/
def driveFencesSpec : ChangeSpec := { name := "driveFences", fn := fun _ => fun
  | [d1, d2] => { results := [.lit (.bool true)], args := [d1, d2] }
  | _ => none }
def driveFencesRow : OpenClaim := { program := "ytiodfnjblimmbaa", sum := "5d98143e9898e1e0bd44a48b86e29022066bbff7a7c71a4525afcbf8ba9f4b67", func := "drydock/drydocklaw26.DriveFences", spec := "driveFences", inPlace := ["internal/abi.NoEscape", "internal/bytealg.MakeNoZero"], apart := false }
def DriveFencesSaid : Prop := driveFencesRow.holds Try.pinned (OpenSpec.ofChange driveFencesSpec)

/-- ITS FALSE NEIGHBOUR: 'it returns false'. Refute it at one input. -/
def driveFencesWrong : ChangeSpec := { name := "driveFences", fn := fun _ => fun
  | [d1, d2] => { results := [.lit (.bool false)], args := [d1, d2] }
  | _ => none }
def DriveFencesWrongFalsely : Prop := driveFencesRow.holds Try.pinned (OpenSpec.ofChange driveFencesWrong)

/-- 'drydocklaw26.DriveFlips': WHATEVER THE INPUT: true; the input reads as it did. -/
def driveFlipsSpec : ChangeSpec := { name := "driveFlips", fn := fun _ => fun
  | [d1, d2, d3, d4, d5] => { results := [.lit (.bool true)], args := [d1, d2, d3, d4, d5] }
  | _ => none }
def driveFlipsRow : OpenClaim := { program := "ytiodfnjblimmbaa", sum := "5d98143e9898e1e0bd44a48b86e29022066bbff7a7c71a4525afcbf8ba9f4b67", func := "drydock/drydocklaw26.DriveFlips", spec := "driveFlips", inPlace := ["internal/abi.NoEscape", "internal/bytealg.MakeNoZero"], apart := false }
def DriveFlipsSaid : Prop := driveFlipsRow.holds Try.pinned (OpenSpec.ofChange driveFlipsSpec)

/-- ITS FALSE NEIGHBOUR: 'it returns false'. Refute it at one input. -/
def driveFlipsWrong : ChangeSpec := { name := "driveFlips", fn := fun _ => fun
  | [d1, d2, d3, d4, d5] => { results := [.lit (.bool false)], args := [d1, d2, d3, d4, d5] }
  | _ => none }
def DriveFlipsWrongFalsely : Prop := driveFlipsRow.holds Try.pinned (OpenSpec.ofChange driveFlipsWrong)

/-- 'drydocklaw26.DriveDies': WHATEVER THE INPUT: true; the input reads as it did. -/
def driveDiesSpec : ChangeSpec := { name := "driveDies", fn := fun _ => fun
  | [d1, d2, d3] => { results := [.lit (.bool true)], args := [d1, d2, d3] }
  | _ => none }
def driveDiesRow : OpenClaim := { program := "ytiodfnjblimmbaa", sum := "5d98143e9898e1e0bd44a48b86e29022066bbff7a7c71a4525afcbf8ba9f4b67", func := "drydock/drydocklaw26.DriveDies", spec := "driveDies", inPlace := ["internal/abi.NoEscape", "internal/bytealg.MakeNoZero"], apart := false }
def DriveDiesSaid : Prop := driveDiesRow.holds Try.pinned (OpenSpec.ofChange driveDiesSpec)

/-- ITS FALSE NEIGHBOUR: 'it returns false'. Refute it at one input. -/
def driveDiesWrong : ChangeSpec := { name := "driveDies", fn := fun _ => fun
  | [d1, d2, d3] => { results := [.lit (.bool false)], args := [d1, d2, d3] }
  | _ => none }
def DriveDiesWrongFalsely : Prop := driveDiesRow.holds Try.pinned (OpenSpec.ofChange driveDiesWrong)

/-- 'drydocklaw26.DriveLies': WHATEVER THE INPUT: true; the input reads as it did. -/
def driveLiesSpec : ChangeSpec := { name := "driveLies", fn := fun _ => fun
  | [d1, d2, d3, d4, d5] => { results := [.lit (.bool true)], args := [d1, d2, d3, d4, d5] }
  | _ => none }
def driveLiesRow : OpenClaim := { program := "ytiodfnjblimmbaa", sum := "5d98143e9898e1e0bd44a48b86e29022066bbff7a7c71a4525afcbf8ba9f4b67", func := "drydock/drydocklaw26.DriveLies", spec := "driveLies", inPlace := ["internal/abi.NoEscape", "internal/bytealg.MakeNoZero"], apart := false }
def DriveLiesSaid : Prop := driveLiesRow.holds Try.pinned (OpenSpec.ofChange driveLiesSpec)

/-- ITS FALSE NEIGHBOUR: 'it returns false'. Refute it at one input. -/
def driveLiesWrong : ChangeSpec := { name := "driveLies", fn := fun _ => fun
  | [d1, d2, d3, d4, d5] => { results := [.lit (.bool false)], args := [d1, d2, d3, d4, d5] }
  | _ => none }
def DriveLiesWrongFalsely : Prop := driveLiesRow.holds Try.pinned (OpenSpec.ofChange driveLiesWrong)

/-- 'drydocklaw26.DriveMedia': WHATEVER THE INPUT: true; the input reads as it did. -/
def driveMediaSpec : ChangeSpec := { name := "driveMedia", fn := fun _ => fun
  | [d1, d2, d3] => { results := [.lit (.bool true)], args := [d1, d2, d3] }
  | _ => none }
def driveMediaRow : OpenClaim := { program := "ytiodfnjblimmbaa", sum := "5d98143e9898e1e0bd44a48b86e29022066bbff7a7c71a4525afcbf8ba9f4b67", func := "drydock/drydocklaw26.DriveMedia", spec := "driveMedia", inPlace := ["internal/abi.NoEscape", "internal/bytealg.MakeNoZero"], apart := false }
def DriveMediaSaid : Prop := driveMediaRow.holds Try.pinned (OpenSpec.ofChange driveMediaSpec)

/-- ITS FALSE NEIGHBOUR: 'it returns false'. Refute it at one input. -/
def driveMediaWrong : ChangeSpec := { name := "driveMedia", fn := fun _ => fun
  | [d1, d2, d3] => { results := [.lit (.bool false)], args := [d1, d2, d3] }
  | _ => none }
def DriveMediaWrongFalsely : Prop := driveMediaRow.holds Try.pinned (OpenSpec.ofChange driveMediaWrong)

/-- 'drydocklaw26.DrivePlays': WHATEVER THE INPUT: true; the input reads as it did. -/
def drivePlaysSpec : ChangeSpec := { name := "drivePlays", fn := fun _ => fun
  | [d1, d2, d3] => { results := [.lit (.bool true)], args := [d1, d2, d3] }
  | _ => none }
def drivePlaysRow : OpenClaim := { program := "ytiodfnjblimmbaa", sum := "5d98143e9898e1e0bd44a48b86e29022066bbff7a7c71a4525afcbf8ba9f4b67", func := "drydock/drydocklaw26.DrivePlays", spec := "drivePlays", inPlace := ["internal/abi.NoEscape", "internal/bytealg.MakeNoZero"], apart := false }
def DrivePlaysSaid : Prop := drivePlaysRow.holds Try.pinned (OpenSpec.ofChange drivePlaysSpec)

/-- ITS FALSE NEIGHBOUR: 'it returns false'. Refute it at one input. -/
def drivePlaysWrong : ChangeSpec := { name := "drivePlays", fn := fun _ => fun
  | [d1, d2, d3] => { results := [.lit (.bool false)], args := [d1, d2, d3] }
  | _ => none }
def DrivePlaysWrongFalsely : Prop := drivePlaysRow.holds Try.pinned (OpenSpec.ofChange drivePlaysWrong)

/-- 'drydocklaw26.DriveSleeps': WHATEVER THE INPUT: true; the input reads as it did. -/
def driveSleepsSpec : ChangeSpec := { name := "driveSleeps", fn := fun _ => fun
  | [d1, d2, d3, d4] => { results := [.lit (.bool true)], args := [d1, d2, d3, d4] }
  | _ => none }
def driveSleepsRow : OpenClaim := { program := "ytiodfnjblimmbaa", sum := "5d98143e9898e1e0bd44a48b86e29022066bbff7a7c71a4525afcbf8ba9f4b67", func := "drydock/drydocklaw26.DriveSleeps", spec := "driveSleeps", inPlace := ["internal/abi.NoEscape", "internal/bytealg.MakeNoZero"], apart := false }
def DriveSleepsSaid : Prop := driveSleepsRow.holds Try.pinned (OpenSpec.ofChange driveSleepsSpec)

/-- ITS FALSE NEIGHBOUR: 'it returns false'. Refute it at one input. -/
def driveSleepsWrong : ChangeSpec := { name := "driveSleeps", fn := fun _ => fun
  | [d1, d2, d3, d4] => { results := [.lit (.bool false)], args := [d1, d2, d3, d4] }
  | _ => none }
def DriveSleepsWrongFalsely : Prop := driveSleepsRow.holds Try.pinned (OpenSpec.ofChange driveSleepsWrong)

/-- 'drydocklaw26.DriveNil': WHATEVER THE INPUT: true; the input reads as it did. -/
def driveNilSpec : ChangeSpec := { name := "driveNil", fn := fun _ => fun
  | [d] => { results := [.lit (.bool true)], args := [d] }
  | _ => none }
def driveNilRow : OpenClaim := { program := "ytiodfnjblimmbaa", sum := "5d98143e9898e1e0bd44a48b86e29022066bbff7a7c71a4525afcbf8ba9f4b67", func := "drydock/drydocklaw26.DriveNil", spec := "driveNil", inPlace := ["internal/abi.NoEscape", "internal/bytealg.MakeNoZero"], apart := false }
def DriveNilSaid : Prop := driveNilRow.holds Try.pinned (OpenSpec.ofChange driveNilSpec)

/-- ITS FALSE NEIGHBOUR: 'it returns false'. Refute it at one input. -/
def driveNilWrong : ChangeSpec := { name := "driveNil", fn := fun _ => fun
  | [d] => { results := [.lit (.bool false)], args := [d] }
  | _ => none }
def DriveNilWrongFalsely : Prop := driveNilRow.holds Try.pinned (OpenSpec.ofChange driveNilWrong)

/-- 'drydocklaw26.DriveClones': WHATEVER THE INPUT: true; the input reads as it did. -/
def driveClonesSpec : ChangeSpec := { name := "driveClones", fn := fun _ => fun
  | [d1, d2, d3, d4] => { results := [.lit (.bool true)], args := [d1, d2, d3, d4] }
  | _ => none }
def driveClonesRow : OpenClaim := { program := "ytiodfnjblimmbaa", sum := "5d98143e9898e1e0bd44a48b86e29022066bbff7a7c71a4525afcbf8ba9f4b67", func := "drydock/drydocklaw26.DriveClones", spec := "driveClones", inPlace := ["internal/abi.NoEscape", "internal/bytealg.MakeNoZero"], apart := false }
def DriveClonesSaid : Prop := driveClonesRow.holds Try.pinned (OpenSpec.ofChange driveClonesSpec)

/-- ITS FALSE NEIGHBOUR: 'it returns false'. Refute it at one input. -/
def driveClonesWrong : ChangeSpec := { name := "driveClones", fn := fun _ => fun
  | [d1, d2, d3, d4] => { results := [.lit (.bool false)], args := [d1, d2, d3, d4] }
  | _ => none }
def DriveClonesWrongFalsely : Prop := driveClonesRow.holds Try.pinned (OpenSpec.ofChange driveClonesWrong)

/- THE SECOND FORM. 'bulk': how many values and letters a reading holds, each counted each time it is reached (what is shared counts as often as it is met; a slice's spare places count too). A statement '..UptoSaid' is the law's where the arguments, and the package variables that the reading takes, are together of bulk at most 1048576: NARROWER than '..Said'. Prove '..Said' where nothing that the law and all that it calls make is longer than what came in: it says more and counts as full. Else prove '..UptoSaid'. A law counts once. -/
mutual
def uptoBulk {H : Type} : DataW H → Nat
  | .lit (.string bytes) => bytes.length + 1
  | .lit _ => 1
  | .nil => 1
  | .ptr d => uptoBulk d + 1
  | .slice elems spare => uptoBulkAll elems + uptoBulkAll spare + 1
  | .agg parts => uptoBulkAll parts + 1
  | .iface _ d => uptoBulk d + 1
  | .map entries => uptoBulkEntries entries + 1
  | .held _ => 1
def uptoBulkAll {H : Type} : List (DataW H) → Nat
  | [] => 0
  | d :: r => uptoBulk d + uptoBulkAll r
def uptoBulkEntries {H : Type} : List (Lit × DataW H) → Nat
  | [] => 0
  | x :: r => uptoBulkEntry x + uptoBulkEntries r
def uptoBulkEntry {H : Type} : Lit × DataW H → Nat
  | (.string bytes, d) => bytes.length + uptoBulk d + 1
  | (_, d) => uptoBulk d + 1
 end
def uptoSmall : (H : Type) → List (DataW H) → Bool := fun _ ds => decide (uptoBulkAll ds ≤ 1048576)
def OpenSpec.upto (s : _root_.Go.ChangeSpec) : _root_.Go.OpenSpec := { _root_.Go.OpenSpec.ofChange s with cond := some uptoSmall }

/-- 'drydocklaw26.DriveWraps', WHERE WHAT IT READS IS OF BULK AT MOST 1048576: true; the input reads as it did. -/
def driveWrapsUptoRow : OpenClaim := { program := "ytiodfnjblimmbaa", sum := "5d98143e9898e1e0bd44a48b86e29022066bbff7a7c71a4525afcbf8ba9f4b67", func := "drydock/drydocklaw26.DriveWraps", spec := "driveWraps", inPlace := ["internal/abi.NoEscape", "internal/bytealg.MakeNoZero"], apart := false, narrowed := true }
def DriveWrapsUptoSaid : Prop := driveWrapsUptoRow.holds Try.pinned (OpenSpec.upto driveWrapsSpec)

/-- 'drydocklaw26.DriveNews', WHERE WHAT IT READS IS OF BULK AT MOST 1048576: true; the input reads as it did. -/
def driveNewsUptoRow : OpenClaim := { program := "ytiodfnjblimmbaa", sum := "5d98143e9898e1e0bd44a48b86e29022066bbff7a7c71a4525afcbf8ba9f4b67", func := "drydock/drydocklaw26.DriveNews", spec := "driveNews", inPlace := ["internal/abi.NoEscape", "internal/bytealg.MakeNoZero"], apart := false, narrowed := true }
def DriveNewsUptoSaid : Prop := driveNewsUptoRow.holds Try.pinned (OpenSpec.upto driveNewsSpec)

/-- 'drydocklaw26.DriveFences', WHERE WHAT IT READS IS OF BULK AT MOST 1048576: true; the input reads as it did. -/
def driveFencesUptoRow : OpenClaim := { program := "ytiodfnjblimmbaa", sum := "5d98143e9898e1e0bd44a48b86e29022066bbff7a7c71a4525afcbf8ba9f4b67", func := "drydock/drydocklaw26.DriveFences", spec := "driveFences", inPlace := ["internal/abi.NoEscape", "internal/bytealg.MakeNoZero"], apart := false, narrowed := true }
def DriveFencesUptoSaid : Prop := driveFencesUptoRow.holds Try.pinned (OpenSpec.upto driveFencesSpec)

/-- 'drydocklaw26.DriveFlips', WHERE WHAT IT READS IS OF BULK AT MOST 1048576: true; the input reads as it did. -/
def driveFlipsUptoRow : OpenClaim := { program := "ytiodfnjblimmbaa", sum := "5d98143e9898e1e0bd44a48b86e29022066bbff7a7c71a4525afcbf8ba9f4b67", func := "drydock/drydocklaw26.DriveFlips", spec := "driveFlips", inPlace := ["internal/abi.NoEscape", "internal/bytealg.MakeNoZero"], apart := false, narrowed := true }
def DriveFlipsUptoSaid : Prop := driveFlipsUptoRow.holds Try.pinned (OpenSpec.upto driveFlipsSpec)

/-- 'drydocklaw26.DriveDies', WHERE WHAT IT READS IS OF BULK AT MOST 1048576: true; the input reads as it did. -/
def driveDiesUptoRow : OpenClaim := { program := "ytiodfnjblimmbaa", sum := "5d98143e9898e1e0bd44a48b86e29022066bbff7a7c71a4525afcbf8ba9f4b67", func := "drydock/drydocklaw26.DriveDies", spec := "driveDies", inPlace := ["internal/abi.NoEscape", "internal/bytealg.MakeNoZero"], apart := false, narrowed := true }
def DriveDiesUptoSaid : Prop := driveDiesUptoRow.holds Try.pinned (OpenSpec.upto driveDiesSpec)

/-- 'drydocklaw26.DriveLies', WHERE WHAT IT READS IS OF BULK AT MOST 1048576: true; the input reads as it did. -/
def driveLiesUptoRow : OpenClaim := { program := "ytiodfnjblimmbaa", sum := "5d98143e9898e1e0bd44a48b86e29022066bbff7a7c71a4525afcbf8ba9f4b67", func := "drydock/drydocklaw26.DriveLies", spec := "driveLies", inPlace := ["internal/abi.NoEscape", "internal/bytealg.MakeNoZero"], apart := false, narrowed := true }
def DriveLiesUptoSaid : Prop := driveLiesUptoRow.holds Try.pinned (OpenSpec.upto driveLiesSpec)

/-- 'drydocklaw26.DriveMedia', WHERE WHAT IT READS IS OF BULK AT MOST 1048576: true; the input reads as it did. -/
def driveMediaUptoRow : OpenClaim := { program := "ytiodfnjblimmbaa", sum := "5d98143e9898e1e0bd44a48b86e29022066bbff7a7c71a4525afcbf8ba9f4b67", func := "drydock/drydocklaw26.DriveMedia", spec := "driveMedia", inPlace := ["internal/abi.NoEscape", "internal/bytealg.MakeNoZero"], apart := false, narrowed := true }
def DriveMediaUptoSaid : Prop := driveMediaUptoRow.holds Try.pinned (OpenSpec.upto driveMediaSpec)

/-- 'drydocklaw26.DrivePlays', WHERE WHAT IT READS IS OF BULK AT MOST 1048576: true; the input reads as it did. -/
def drivePlaysUptoRow : OpenClaim := { program := "ytiodfnjblimmbaa", sum := "5d98143e9898e1e0bd44a48b86e29022066bbff7a7c71a4525afcbf8ba9f4b67", func := "drydock/drydocklaw26.DrivePlays", spec := "drivePlays", inPlace := ["internal/abi.NoEscape", "internal/bytealg.MakeNoZero"], apart := false, narrowed := true }
def DrivePlaysUptoSaid : Prop := drivePlaysUptoRow.holds Try.pinned (OpenSpec.upto drivePlaysSpec)

/-- 'drydocklaw26.DriveSleeps', WHERE WHAT IT READS IS OF BULK AT MOST 1048576: true; the input reads as it did. -/
def driveSleepsUptoRow : OpenClaim := { program := "ytiodfnjblimmbaa", sum := "5d98143e9898e1e0bd44a48b86e29022066bbff7a7c71a4525afcbf8ba9f4b67", func := "drydock/drydocklaw26.DriveSleeps", spec := "driveSleeps", inPlace := ["internal/abi.NoEscape", "internal/bytealg.MakeNoZero"], apart := false, narrowed := true }
def DriveSleepsUptoSaid : Prop := driveSleepsUptoRow.holds Try.pinned (OpenSpec.upto driveSleepsSpec)

/-- 'drydocklaw26.DriveNil', WHERE WHAT IT READS IS OF BULK AT MOST 1048576: true; the input reads as it did. -/
def driveNilUptoRow : OpenClaim := { program := "ytiodfnjblimmbaa", sum := "5d98143e9898e1e0bd44a48b86e29022066bbff7a7c71a4525afcbf8ba9f4b67", func := "drydock/drydocklaw26.DriveNil", spec := "driveNil", inPlace := ["internal/abi.NoEscape", "internal/bytealg.MakeNoZero"], apart := false, narrowed := true }
def DriveNilUptoSaid : Prop := driveNilUptoRow.holds Try.pinned (OpenSpec.upto driveNilSpec)

/-- 'drydocklaw26.DriveClones', WHERE WHAT IT READS IS OF BULK AT MOST 1048576: true; the input reads as it did. -/
def driveClonesUptoRow : OpenClaim := { program := "ytiodfnjblimmbaa", sum := "5d98143e9898e1e0bd44a48b86e29022066bbff7a7c71a4525afcbf8ba9f4b67", func := "drydock/drydocklaw26.DriveClones", spec := "driveClones", inPlace := ["internal/abi.NoEscape", "internal/bytealg.MakeNoZero"], apart := false, narrowed := true }
def DriveClonesUptoSaid : Prop := driveClonesUptoRow.holds Try.pinned (OpenSpec.upto driveClonesSpec)

end Rows
end Go.Proofs.Ytiodfnjblimmbaa
