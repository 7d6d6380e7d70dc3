/-
  No cell of these rows narrows 'for every input' (looked for: loops, veiled, ifaces, maps, wideKeys, modest, calm, conditions, laid).
  DERIVED. THE GIVEN ROWS OF THIS SEAT. 6 by the template 'for every input the law returns true; each argument reads behind the call as it read before'; 0 by the template 'total and deterministic' (their statements: YtogakapokgddiaaTotals.lean).
  GIVEN WITH THE SEED: the statements are not yours to turn. If you find one false, say at which input.
  Laid BY PROGRAM, IN A SANDBOX (cutbox-rows.mjs): the forced cells as the released guide's own fill.sh prints them over the translation 16fc2e54f107ad5a… (all of the seat's roots in one cut). By AI agents, Wed Nov 11 2026. No macro, syntax, notation, axiom, sorry.
-/
import Derived.Test.YtogakapokgddiaaChecked
import GoSem.Claim
import GoSem.ClaimJoined
import GoSem.ClaimMapViews
import Derived.JoinedTies
import Derived.KernelRfl
namespace Go.Proofs.Ytogakapokgddiaa
/- THE CELL 'sum', in the pinned program and in every row, IS THE sha256 OF THE DUMP (.gsa) THAT YtogakapokgddiaaProg.lean LOADS. Nothing in Lean hashes anything: it is a label: what it is worth is what the hold of that sum in a sandbox is worth. -/
noncomputable def Try.pinned : Pinned := { name := "ytogakapokgddiaa", sum := "16fc2e54f107ad5afdfa2ad79e553ae2abc6c279661e028ad0badc9d3e318511", checked := Try.checked }
namespace Rows
def none {H : Type} : Left H := { results := [], args := [] }

/-- 'linhaylaw06.SumTells': WHATEVER THE INPUT: true; the input reads as it did. -/
def sumTellsSpec : ChangeSpec := { name := "sumTells", fn := fun _ => fun
  | [d1, d2] => { results := [.lit (.bool true)], args := [d1, d2] }
  | _ => none }
def sumTellsRow : OpenClaim := { program := "ytogakapokgddiaa", sum := "16fc2e54f107ad5afdfa2ad79e553ae2abc6c279661e028ad0badc9d3e318511", func := "linhay/linhaylaw06.SumTells", spec := "sumTells", apart := false }
def SumTellsSaid : Prop := sumTellsRow.holds Try.pinned (OpenSpec.ofChange sumTellsSpec)

/-- ITS FALSE NEIGHBOUR: 'it returns false'. Refute it at one input. -/
def sumTellsWrong : ChangeSpec := { name := "sumTells", fn := fun _ => fun
  | [d1, d2] => { results := [.lit (.bool false)], args := [d1, d2] }
  | _ => none }
def SumTellsWrongFalsely : Prop := sumTellsRow.holds Try.pinned (OpenSpec.ofChange sumTellsWrong)

/-- 'linhaylaw06.SumParts': WHATEVER THE INPUT: true; the input reads as it did. -/
def sumPartsSpec : ChangeSpec := { name := "sumParts", fn := fun _ => fun
  | [d1, d2, d3] => { results := [.lit (.bool true)], args := [d1, d2, d3] }
  | _ => none }
def sumPartsRow : OpenClaim := { program := "ytogakapokgddiaa", sum := "16fc2e54f107ad5afdfa2ad79e553ae2abc6c279661e028ad0badc9d3e318511", func := "linhay/linhaylaw06.SumParts", spec := "sumParts", apart := false }
def SumPartsSaid : Prop := sumPartsRow.holds Try.pinned (OpenSpec.ofChange sumPartsSpec)

/-- ITS FALSE NEIGHBOUR: 'it returns false'. Refute it at one input. -/
def sumPartsWrong : ChangeSpec := { name := "sumParts", fn := fun _ => fun
  | [d1, d2, d3] => { results := [.lit (.bool false)], args := [d1, d2, d3] }
  | _ => none }
def SumPartsWrongFalsely : Prop := sumPartsRow.holds Try.pinned (OpenSpec.ofChange sumPartsWrong)

/-- 'linhaylaw06.SumBack': WHATEVER THE INPUT: true; the input reads as it did. -/
def sumBackSpec : ChangeSpec := { name := "sumBack", fn := fun _ => fun
  | [d] => { results := [.lit (.bool true)], args := [d] }
  | _ => none }
def sumBackRow : OpenClaim := { program := "ytogakapokgddiaa", sum := "16fc2e54f107ad5afdfa2ad79e553ae2abc6c279661e028ad0badc9d3e318511", func := "linhay/linhaylaw06.SumBack", spec := "sumBack", apart := false }
def SumBackSaid : Prop := sumBackRow.holds Try.pinned (OpenSpec.ofChange sumBackSpec)

/-- ITS FALSE NEIGHBOUR: 'it returns false'. Refute it at one input. -/
def sumBackWrong : ChangeSpec := { name := "sumBack", fn := fun _ => fun
  | [d] => { results := [.lit (.bool false)], args := [d] }
  | _ => none }
def SumBackWrongFalsely : Prop := sumBackRow.holds Try.pinned (OpenSpec.ofChange sumBackWrong)

/-- 'linhaylaw06.SumBurst': WHATEVER THE INPUT: true; the input reads as it did. -/
def sumBurstSpec : ChangeSpec := { name := "sumBurst", fn := fun _ => fun
  | [d1, d2, d3] => { results := [.lit (.bool true)], args := [d1, d2, d3] }
  | _ => none }
def sumBurstRow : OpenClaim := { program := "ytogakapokgddiaa", sum := "16fc2e54f107ad5afdfa2ad79e553ae2abc6c279661e028ad0badc9d3e318511", func := "linhay/linhaylaw06.SumBurst", spec := "sumBurst", apart := false }
def SumBurstSaid : Prop := sumBurstRow.holds Try.pinned (OpenSpec.ofChange sumBurstSpec)

/-- ITS FALSE NEIGHBOUR: 'it returns false'. Refute it at one input. -/
def sumBurstWrong : ChangeSpec := { name := "sumBurst", fn := fun _ => fun
  | [d1, d2, d3] => { results := [.lit (.bool false)], args := [d1, d2, d3] }
  | _ => none }
def SumBurstWrongFalsely : Prop := sumBurstRow.holds Try.pinned (OpenSpec.ofChange sumBurstWrong)

/-- 'linhaylaw06.SumMixed': WHATEVER THE INPUT: true; the input reads as it did. -/
def sumMixedSpec : ChangeSpec := { name := "sumMixed", fn := fun _ => fun
  | [d1, d2] => { results := [.lit (.bool true)], args := [d1, d2] }
  | _ => none }
def sumMixedRow : OpenClaim := { program := "ytogakapokgddiaa", sum := "16fc2e54f107ad5afdfa2ad79e553ae2abc6c279661e028ad0badc9d3e318511", func := "linhay/linhaylaw06.SumMixed", spec := "sumMixed", apart := false }
def SumMixedSaid : Prop := sumMixedRow.holds Try.pinned (OpenSpec.ofChange sumMixedSpec)

/-- ITS FALSE NEIGHBOUR: 'it returns false'. Refute it at one input. -/
def sumMixedWrong : ChangeSpec := { name := "sumMixed", fn := fun _ => fun
  | [d1, d2] => { results := [.lit (.bool false)], args := [d1, d2] }
  | _ => none }
def SumMixedWrongFalsely : Prop := sumMixedRow.holds Try.pinned (OpenSpec.ofChange sumMixedWrong)

/-- 'linhaylaw06.SumCuts': WHATEVER THE INPUT: true; the input reads as it did. -/
def sumCutsSpec : ChangeSpec := { name := "sumCuts", fn := fun _ => fun
  | [d1, d2, d3] => { results := [.lit (.bool true)], args := [d1, d2, d3] }
  | _ => none }
def sumCutsRow : OpenClaim := { program := "ytogakapokgddiaa", sum := "16fc2e54f107ad5afdfa2ad79e553ae2abc6c279661e028ad0badc9d3e318511", func := "linhay/linhaylaw06.SumCuts", spec := "sumCuts", apart := false }
def SumCutsSaid : Prop := sumCutsRow.holds Try.pinned (OpenSpec.ofChange sumCutsSpec)

/-- ITS FALSE NEIGHBOUR: 'it returns false'. Refute it at one input. -/
def sumCutsWrong : ChangeSpec := { name := "sumCuts", fn := fun _ => fun
  | [d1, d2, d3] => { results := [.lit (.bool false)], args := [d1, d2, d3] }
  | _ => none }
def SumCutsWrongFalsely : Prop := sumCutsRow.holds Try.pinned (OpenSpec.ofChange sumCutsWrong)

/- THE SECOND FORM. 'bulk': how many values and letters a reading holds, each counted each time it is reached (what is shared counts as often as it is met; a slice's spare places count too). A statement '..UptoSaid' is the law's where the arguments, and the package variables that the reading takes, are together of bulk at most 1048576: NARROWER than '..Said'. Prove '..Said' where nothing that the law and all that it calls make is longer than what came in: it says more and counts as full. Else prove '..UptoSaid'. A law counts once. -/
mutual
def uptoBulk {H : Type} : DataW H → Nat
  | .lit (.string bytes) => bytes.length + 1
  | .lit _ => 1
  | .nil => 1
  | .ptr d => uptoBulk d + 1
  | .slice elems spare => uptoBulkAll elems + uptoBulkAll spare + 1
  | .agg parts => uptoBulkAll parts + 1
  | .iface _ d => uptoBulk d + 1
  | .map entries => uptoBulkEntries entries + 1
  | .held _ => 1
def uptoBulkAll {H : Type} : List (DataW H) → Nat
  | [] => 0
  | d :: r => uptoBulk d + uptoBulkAll r
def uptoBulkEntries {H : Type} : List (Lit × DataW H) → Nat
  | [] => 0
  | x :: r => uptoBulkEntry x + uptoBulkEntries r
def uptoBulkEntry {H : Type} : Lit × DataW H → Nat
  | (.string bytes, d) => bytes.length + uptoBulk d + 1
  | (_, d) => uptoBulk d + 1
 end
def uptoSmall : (H : Type) → List (DataW H) → Bool := fun _ ds => decide (uptoBulkAll ds ≤ 1048576)
def OpenSpec.upto (s : _root_.Go.ChangeSpec) : _root_.Go.OpenSpec := { _root_.Go.OpenSpec.ofChange s with cond := some uptoSmall }

/-- 'linhaylaw06.SumTells', WHERE WHAT IT READS IS OF BULK AT MOST 1048576: true; the input reads as it did. -/
def sumTellsUptoRow : OpenClaim := { program := "ytogakapokgddiaa", sum := "16fc2e54f107ad5afdfa2ad79e553ae2abc6c279661e028ad0badc9d3e318511", func := "linhay/linhaylaw06.SumTells", spec := "sumTells", apart := false, narrowed := true }
def SumTellsUptoSaid : Prop := sumTellsUptoRow.holds Try.pinned (OpenSpec.upto sumTellsSpec)

/-- 'linhaylaw06.SumParts', WHERE WHAT IT READS IS OF BULK AT MOST 1048576: true; the input reads as it did. -/
def sumPartsUptoRow : OpenClaim := { program := "ytogakapokgddiaa", sum := "16fc2e54f107ad5afdfa2ad79e553ae2abc6c279661e028ad0badc9d3e318511", func := "linhay/linhaylaw06.SumParts", spec := "sumParts", apart := false, narrowed := true }
def SumPartsUptoSaid : Prop := sumPartsUptoRow.holds Try.pinned (OpenSpec.upto sumPartsSpec)

/-- 'linhaylaw06.SumBack', WHERE WHAT IT READS IS OF BULK AT MOST 1048576: true; the input reads as it did. -/
def sumBackUptoRow : OpenClaim := { program := "ytogakapokgddiaa", sum := "16fc2e54f107ad5afdfa2ad79e553ae2abc6c279661e028ad0badc9d3e318511", func := "linhay/linhaylaw06.SumBack", spec := "sumBack", apart := false, narrowed := true }
def SumBackUptoSaid : Prop := sumBackUptoRow.holds Try.pinned (OpenSpec.upto sumBackSpec)

/-- 'linhaylaw06.SumBurst', WHERE WHAT IT READS IS OF BULK AT MOST 1048576: true; the input reads as it did. -/
def sumBurstUptoRow : OpenClaim := { program := "ytogakapokgddiaa", sum := "16fc2e54f107ad5afdfa2ad79e553ae2abc6c279661e028ad0badc9d3e318511", func := "linhay/linhaylaw06.SumBurst", spec := "sumBurst", apart := false, narrowed := true }
def SumBurstUptoSaid : Prop := sumBurstUptoRow.holds Try.pinned (OpenSpec.upto sumBurstSpec)

/-- 'linhaylaw06.SumMixed', WHERE WHAT IT READS IS OF BULK AT MOST 1048576: true; the input reads as it did. -/
def sumMixedUptoRow : OpenClaim := { program := "ytogakapokgddiaa", sum := "16fc2e54f107ad5afdfa2ad79e553ae2abc6c279661e028ad0badc9d3e318511", func := "linhay/linhaylaw06.SumMixed", spec := "sumMixed", apart := false, narrowed := true }
def SumMixedUptoSaid : Prop := sumMixedUptoRow.holds Try.pinned (OpenSpec.upto sumMixedSpec)

/-- 'linhaylaw06.SumCuts', WHERE WHAT IT READS IS OF BULK AT MOST 1048576: true; the input reads as it did. -/
def sumCutsUptoRow : OpenClaim := { program := "ytogakapokgddiaa", sum := "16fc2e54f107ad5afdfa2ad79e553ae2abc6c279661e028ad0badc9d3e318511", func := "linhay/linhaylaw06.SumCuts", spec := "sumCuts", apart := false, narrowed := true }
def SumCutsUptoSaid : Prop := sumCutsUptoRow.holds Try.pinned (OpenSpec.upto sumCutsSpec)

end Rows
end Go.Proofs.Ytogakapokgddiaa
