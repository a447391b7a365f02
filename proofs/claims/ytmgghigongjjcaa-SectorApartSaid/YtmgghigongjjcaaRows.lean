/-
  No cell of these rows narrows 'for every input' (looked for: loops, veiled, ifaces, maps, wideKeys, modest, calm, conditions, laid).
  DERIVED. THE GIVEN ROWS OF THIS SEAT. 9 by the template 'for every input the law returns true; each argument reads behind the call as it read before'; 0 by the template 'total and deterministic' (their statements: YtmgghigongjjcaaTotals.lean).
  GIVEN WITH THE SEED: the statements are not yours to turn. If you find one false, say at which input.
  Laid BY PROGRAM, IN A SANDBOX (cutbox-rows.mjs): the forced cells as the released guide's own fill.sh prints them over the translation 142f94e0a5d911e3… (all of the seat's roots in one cut). By AI agents, Wed Nov 11 2026. No macro, syntax, notation, axiom, sorry.
-/
import Derived.Test.YtmgghigongjjcaaChecked
import GoSem.Claim
import GoSem.ClaimJoined
import GoSem.ClaimMapViews
import Derived.JoinedTies
import Derived.KernelRfl
namespace Go.Proofs.Ytmgghigongjjcaa
/- THE CELL 'sum', in the pinned program and in every row, IS THE sha256 OF THE DUMP (.gsa) THAT YtmgghigongjjcaaProg.lean LOADS. Nothing in Lean hashes anything: it is a label: what it is worth is what the hold of that sum in a sandbox is worth. -/
noncomputable def Try.pinned : Pinned := { name := "ytmgghigongjjcaa", sum := "142f94e0a5d911e361b8b41c7b82f0bf7873c20c99b12a7a60eda5b55c4880b2", checked := Try.checked }
namespace Rows
def none {H : Type} : Left H := { results := [], args := [] }

/-- 'drydocklaw25.SectorValid': WHATEVER THE INPUT: true; the input reads as it did. -/
def sectorValidSpec : ChangeSpec := { name := "sectorValid", fn := fun _ => fun
  | [d] => { results := [.lit (.bool true)], args := [d] }
  | _ => none }
def sectorValidRow : OpenClaim := { program := "ytmgghigongjjcaa", sum := "142f94e0a5d911e361b8b41c7b82f0bf7873c20c99b12a7a60eda5b55c4880b2", func := "drydock/drydocklaw25.SectorValid", spec := "sectorValid", apart := false }
def SectorValidSaid : Prop := sectorValidRow.holds Try.pinned (OpenSpec.ofChange sectorValidSpec)

/-- ITS FALSE NEIGHBOUR: 'it returns false'. Refute it at one input. -/
def sectorValidWrong : ChangeSpec := { name := "sectorValid", fn := fun _ => fun
  | [d] => { results := [.lit (.bool false)], args := [d] }
  | _ => none }
def SectorValidWrongFalsely : Prop := sectorValidRow.holds Try.pinned (OpenSpec.ofChange sectorValidWrong)

/-- 'drydocklaw25.SectorEncodes': WHATEVER THE INPUT: true; the input reads as it did. -/
def sectorEncodesSpec : ChangeSpec := { name := "sectorEncodes", fn := fun _ => fun
  | [d] => { results := [.lit (.bool true)], args := [d] }
  | _ => none }
def sectorEncodesRow : OpenClaim := { program := "ytmgghigongjjcaa", sum := "142f94e0a5d911e361b8b41c7b82f0bf7873c20c99b12a7a60eda5b55c4880b2", func := "drydock/drydocklaw25.SectorEncodes", spec := "sectorEncodes", apart := false }
def SectorEncodesSaid : Prop := sectorEncodesRow.holds Try.pinned (OpenSpec.ofChange sectorEncodesSpec)

/-- ITS FALSE NEIGHBOUR: 'it returns false'. Refute it at one input. -/
def sectorEncodesWrong : ChangeSpec := { name := "sectorEncodes", fn := fun _ => fun
  | [d] => { results := [.lit (.bool false)], args := [d] }
  | _ => none }
def SectorEncodesWrongFalsely : Prop := sectorEncodesRow.holds Try.pinned (OpenSpec.ofChange sectorEncodesWrong)

/-- 'drydocklaw25.SectorDecodes': WHATEVER THE INPUT: true; the input reads as it did. -/
def sectorDecodesSpec : ChangeSpec := { name := "sectorDecodes", fn := fun _ => fun
  | [d1, d2, d3, d4] => { results := [.lit (.bool true)], args := [d1, d2, d3, d4] }
  | _ => none }
def sectorDecodesRow : OpenClaim := { program := "ytmgghigongjjcaa", sum := "142f94e0a5d911e361b8b41c7b82f0bf7873c20c99b12a7a60eda5b55c4880b2", func := "drydock/drydocklaw25.SectorDecodes", spec := "sectorDecodes", apart := false }
def SectorDecodesSaid : Prop := sectorDecodesRow.holds Try.pinned (OpenSpec.ofChange sectorDecodesSpec)

/-- ITS FALSE NEIGHBOUR: 'it returns false'. Refute it at one input. -/
def sectorDecodesWrong : ChangeSpec := { name := "sectorDecodes", fn := fun _ => fun
  | [d1, d2, d3, d4] => { results := [.lit (.bool false)], args := [d1, d2, d3, d4] }
  | _ => none }
def SectorDecodesWrongFalsely : Prop := sectorDecodesRow.holds Try.pinned (OpenSpec.ofChange sectorDecodesWrong)

/-- 'drydocklaw25.SectorSums': WHATEVER THE INPUT: true; the input reads as it did. -/
def sectorSumsSpec : ChangeSpec := { name := "sectorSums", fn := fun _ => fun
  | [d] => { results := [.lit (.bool true)], args := [d] }
  | _ => none }
def sectorSumsRow : OpenClaim := { program := "ytmgghigongjjcaa", sum := "142f94e0a5d911e361b8b41c7b82f0bf7873c20c99b12a7a60eda5b55c4880b2", func := "drydock/drydocklaw25.SectorSums", spec := "sectorSums", apart := false }
def SectorSumsSaid : Prop := sectorSumsRow.holds Try.pinned (OpenSpec.ofChange sectorSumsSpec)

/-- ITS FALSE NEIGHBOUR: 'it returns false'. Refute it at one input. -/
def sectorSumsWrong : ChangeSpec := { name := "sectorSums", fn := fun _ => fun
  | [d] => { results := [.lit (.bool false)], args := [d] }
  | _ => none }
def SectorSumsWrongFalsely : Prop := sectorSumsRow.holds Try.pinned (OpenSpec.ofChange sectorSumsWrong)

/-- 'drydocklaw25.SectorBack': WHATEVER THE INPUT: true; the input reads as it did. -/
def sectorBackSpec : ChangeSpec := { name := "sectorBack", fn := fun _ => fun
  | [d] => { results := [.lit (.bool true)], args := [d] }
  | _ => none }
def sectorBackRow : OpenClaim := { program := "ytmgghigongjjcaa", sum := "142f94e0a5d911e361b8b41c7b82f0bf7873c20c99b12a7a60eda5b55c4880b2", func := "drydock/drydocklaw25.SectorBack", spec := "sectorBack", apart := false }
def SectorBackSaid : Prop := sectorBackRow.holds Try.pinned (OpenSpec.ofChange sectorBackSpec)

/-- ITS FALSE NEIGHBOUR: 'it returns false'. Refute it at one input. -/
def sectorBackWrong : ChangeSpec := { name := "sectorBack", fn := fun _ => fun
  | [d] => { results := [.lit (.bool false)], args := [d] }
  | _ => none }
def SectorBackWrongFalsely : Prop := sectorBackRow.holds Try.pinned (OpenSpec.ofChange sectorBackWrong)

/-- 'drydocklaw25.SectorOnly': WHATEVER THE INPUT: true; the input reads as it did. -/
def sectorOnlySpec : ChangeSpec := { name := "sectorOnly", fn := fun _ => fun
  | [d] => { results := [.lit (.bool true)], args := [d] }
  | _ => none }
def sectorOnlyRow : OpenClaim := { program := "ytmgghigongjjcaa", sum := "142f94e0a5d911e361b8b41c7b82f0bf7873c20c99b12a7a60eda5b55c4880b2", func := "drydock/drydocklaw25.SectorOnly", spec := "sectorOnly", apart := false }
def SectorOnlySaid : Prop := sectorOnlyRow.holds Try.pinned (OpenSpec.ofChange sectorOnlySpec)

/-- ITS FALSE NEIGHBOUR: 'it returns false'. Refute it at one input. -/
def sectorOnlyWrong : ChangeSpec := { name := "sectorOnly", fn := fun _ => fun
  | [d] => { results := [.lit (.bool false)], args := [d] }
  | _ => none }
def SectorOnlyWrongFalsely : Prop := sectorOnlyRow.holds Try.pinned (OpenSpec.ofChange sectorOnlyWrong)

/-- 'drydocklaw25.SectorBursts': WHATEVER THE INPUT: true; the input reads as it did. -/
def sectorBurstsSpec : ChangeSpec := { name := "sectorBursts", fn := fun _ => fun
  | [d1, d2, d3] => { results := [.lit (.bool true)], args := [d1, d2, d3] }
  | _ => none }
def sectorBurstsRow : OpenClaim := { program := "ytmgghigongjjcaa", sum := "142f94e0a5d911e361b8b41c7b82f0bf7873c20c99b12a7a60eda5b55c4880b2", func := "drydock/drydocklaw25.SectorBursts", spec := "sectorBursts", apart := false }
def SectorBurstsSaid : Prop := sectorBurstsRow.holds Try.pinned (OpenSpec.ofChange sectorBurstsSpec)

/-- ITS FALSE NEIGHBOUR: 'it returns false'. Refute it at one input. -/
def sectorBurstsWrong : ChangeSpec := { name := "sectorBursts", fn := fun _ => fun
  | [d1, d2, d3] => { results := [.lit (.bool false)], args := [d1, d2, d3] }
  | _ => none }
def SectorBurstsWrongFalsely : Prop := sectorBurstsRow.holds Try.pinned (OpenSpec.ofChange sectorBurstsWrong)

/-- 'drydocklaw25.SectorApart': WHATEVER THE INPUT: true; the input reads as it did. -/
def sectorApartSpec : ChangeSpec := { name := "sectorApart", fn := fun _ => fun
  | [d1, d2] => { results := [.lit (.bool true)], args := [d1, d2] }
  | _ => none }
def sectorApartRow : OpenClaim := { program := "ytmgghigongjjcaa", sum := "142f94e0a5d911e361b8b41c7b82f0bf7873c20c99b12a7a60eda5b55c4880b2", func := "drydock/drydocklaw25.SectorApart", spec := "sectorApart", apart := false }
def SectorApartSaid : Prop := sectorApartRow.holds Try.pinned (OpenSpec.ofChange sectorApartSpec)

/-- ITS FALSE NEIGHBOUR: 'it returns false'. Refute it at one input. -/
def sectorApartWrong : ChangeSpec := { name := "sectorApart", fn := fun _ => fun
  | [d1, d2] => { results := [.lit (.bool false)], args := [d1, d2] }
  | _ => none }
def SectorApartWrongFalsely : Prop := sectorApartRow.holds Try.pinned (OpenSpec.ofChange sectorApartWrong)

/-- 'drydocklaw25.SectorLinear': WHATEVER THE INPUT: true; the input reads as it did. -/
def sectorLinearSpec : ChangeSpec := { name := "sectorLinear", fn := fun _ => fun
  | [d1, d2, d3] => { results := [.lit (.bool true)], args := [d1, d2, d3] }
  | _ => none }
def sectorLinearRow : OpenClaim := { program := "ytmgghigongjjcaa", sum := "142f94e0a5d911e361b8b41c7b82f0bf7873c20c99b12a7a60eda5b55c4880b2", func := "drydock/drydocklaw25.SectorLinear", spec := "sectorLinear", apart := false }
def SectorLinearSaid : Prop := sectorLinearRow.holds Try.pinned (OpenSpec.ofChange sectorLinearSpec)

/-- ITS FALSE NEIGHBOUR: 'it returns false'. Refute it at one input. -/
def sectorLinearWrong : ChangeSpec := { name := "sectorLinear", fn := fun _ => fun
  | [d1, d2, d3] => { results := [.lit (.bool false)], args := [d1, d2, d3] }
  | _ => none }
def SectorLinearWrongFalsely : Prop := sectorLinearRow.holds Try.pinned (OpenSpec.ofChange sectorLinearWrong)

/- THE SECOND FORM. 'bulk': how many values and letters a reading holds, each counted each time it is reached (what is shared counts as often as it is met; a slice's spare places count too). A statement '..UptoSaid' is the law's where the arguments, and the package variables that the reading takes, are together of bulk at most 1048576: NARROWER than '..Said'. Prove '..Said' where nothing that the law and all that it calls make is longer than what came in: it says more and counts as full. Else prove '..UptoSaid'. A law counts once. -/
mutual
def uptoBulk {H : Type} : DataW H → Nat
  | .lit (.string bytes) => bytes.length + 1
  | .lit _ => 1
  | .nil => 1
  | .ptr d => uptoBulk d + 1
  | .slice elems spare => uptoBulkAll elems + uptoBulkAll spare + 1
  | .agg parts => uptoBulkAll parts + 1
  | .iface _ d => uptoBulk d + 1
  | .map entries => uptoBulkEntries entries + 1
  | .held _ => 1
def uptoBulkAll {H : Type} : List (DataW H) → Nat
  | [] => 0
  | d :: r => uptoBulk d + uptoBulkAll r
def uptoBulkEntries {H : Type} : List (Lit × DataW H) → Nat
  | [] => 0
  | x :: r => uptoBulkEntry x + uptoBulkEntries r
def uptoBulkEntry {H : Type} : Lit × DataW H → Nat
  | (.string bytes, d) => bytes.length + uptoBulk d + 1
  | (_, d) => uptoBulk d + 1
 end
def uptoSmall : (H : Type) → List (DataW H) → Bool := fun _ ds => decide (uptoBulkAll ds ≤ 1048576)
def OpenSpec.upto (s : _root_.Go.ChangeSpec) : _root_.Go.OpenSpec := { _root_.Go.OpenSpec.ofChange s with cond := some uptoSmall }

/-- 'drydocklaw25.SectorValid', WHERE WHAT IT READS IS OF BULK AT MOST 1048576: true; the input reads as it did. -/
def sectorValidUptoRow : OpenClaim := { program := "ytmgghigongjjcaa", sum := "142f94e0a5d911e361b8b41c7b82f0bf7873c20c99b12a7a60eda5b55c4880b2", func := "drydock/drydocklaw25.SectorValid", spec := "sectorValid", apart := false, narrowed := true }
def SectorValidUptoSaid : Prop := sectorValidUptoRow.holds Try.pinned (OpenSpec.upto sectorValidSpec)

/-- 'drydocklaw25.SectorEncodes', WHERE WHAT IT READS IS OF BULK AT MOST 1048576: true; the input reads as it did. -/
def sectorEncodesUptoRow : OpenClaim := { program := "ytmgghigongjjcaa", sum := "142f94e0a5d911e361b8b41c7b82f0bf7873c20c99b12a7a60eda5b55c4880b2", func := "drydock/drydocklaw25.SectorEncodes", spec := "sectorEncodes", apart := false, narrowed := true }
def SectorEncodesUptoSaid : Prop := sectorEncodesUptoRow.holds Try.pinned (OpenSpec.upto sectorEncodesSpec)

/-- 'drydocklaw25.SectorDecodes', WHERE WHAT IT READS IS OF BULK AT MOST 1048576: true; the input reads as it did. -/
def sectorDecodesUptoRow : OpenClaim := { program := "ytmgghigongjjcaa", sum := "142f94e0a5d911e361b8b41c7b82f0bf7873c20c99b12a7a60eda5b55c4880b2", func := "drydock/drydocklaw25.SectorDecodes", spec := "sectorDecodes", apart := false, narrowed := true }
def SectorDecodesUptoSaid : Prop := sectorDecodesUptoRow.holds Try.pinned (OpenSpec.upto sectorDecodesSpec)

/-- 'drydocklaw25.SectorSums', WHERE WHAT IT READS IS OF BULK AT MOST 1048576: true; the input reads as it did. -/
def sectorSumsUptoRow : OpenClaim := { program := "ytmgghigongjjcaa", sum := "142f94e0a5d911e361b8b41c7b82f0bf7873c20c99b12a7a60eda5b55c4880b2", func := "drydock/drydocklaw25.SectorSums", spec := "sectorSums", apart := false, narrowed := true }
def SectorSumsUptoSaid : Prop := sectorSumsUptoRow.holds Try.pinned (OpenSpec.upto sectorSumsSpec)

/-- 'drydocklaw25.SectorBack', WHERE WHAT IT READS IS OF BULK AT MOST 1048576: true; the input reads as it did. -/
def sectorBackUptoRow : OpenClaim := { program := "ytmgghigongjjcaa", sum := "142f94e0a5d911e361b8b41c7b82f0bf7873c20c99b12a7a60eda5b55c4880b2", func := "drydock/drydocklaw25.SectorBack", spec := "sectorBack", apart := false, narrowed := true }
def SectorBackUptoSaid : Prop := sectorBackUptoRow.holds Try.pinned (OpenSpec.upto sectorBackSpec)

/-- 'drydocklaw25.SectorOnly', WHERE WHAT IT READS IS OF BULK AT MOST 1048576: true; the input reads as it did. -/
def sectorOnlyUptoRow : OpenClaim := { program := "ytmgghigongjjcaa", sum := "142f94e0a5d911e361b8b41c7b82f0bf7873c20c99b12a7a60eda5b55c4880b2", func := "drydock/drydocklaw25.SectorOnly", spec := "sectorOnly", apart := false, narrowed := true }
def SectorOnlyUptoSaid : Prop := sectorOnlyUptoRow.holds Try.pinned (OpenSpec.upto sectorOnlySpec)

/-- 'drydocklaw25.SectorBursts', WHERE WHAT IT READS IS OF BULK AT MOST 1048576: true; the input reads as it did. -/
def sectorBurstsUptoRow : OpenClaim := { program := "ytmgghigongjjcaa", sum := "142f94e0a5d911e361b8b41c7b82f0bf7873c20c99b12a7a60eda5b55c4880b2", func := "drydock/drydocklaw25.SectorBursts", spec := "sectorBursts", apart := false, narrowed := true }
def SectorBurstsUptoSaid : Prop := sectorBurstsUptoRow.holds Try.pinned (OpenSpec.upto sectorBurstsSpec)

/-- 'drydocklaw25.SectorApart', WHERE WHAT IT READS IS OF BULK AT MOST 1048576: true; the input reads as it did. -/
def sectorApartUptoRow : OpenClaim := { program := "ytmgghigongjjcaa", sum := "142f94e0a5d911e361b8b41c7b82f0bf7873c20c99b12a7a60eda5b55c4880b2", func := "drydock/drydocklaw25.SectorApart", spec := "sectorApart", apart := false, narrowed := true }
def SectorApartUptoSaid : Prop := sectorApartUptoRow.holds Try.pinned (OpenSpec.upto sectorApartSpec)

/-- 'drydocklaw25.SectorLinear', WHERE WHAT IT READS IS OF BULK AT MOST 1048576: true; the input reads as it did. -/
def sectorLinearUptoRow : OpenClaim := { program := "ytmgghigongjjcaa", sum := "142f94e0a5d911e361b8b41c7b82f0bf7873c20c99b12a7a60eda5b55c4880b2", func := "drydock/drydocklaw25.SectorLinear", spec := "sectorLinear", apart := false, narrowed := true }
def SectorLinearUptoSaid : Prop := sectorLinearUptoRow.holds Try.pinned (OpenSpec.upto sectorLinearSpec)

end Rows
end Go.Proofs.Ytmgghigongjjcaa
