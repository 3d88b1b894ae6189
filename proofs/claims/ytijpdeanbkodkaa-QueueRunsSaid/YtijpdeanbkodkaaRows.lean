/-
  No cell of these rows narrows 'for every input' (looked for: loops, veiled, ifaces, maps, wideKeys, modest, calm, conditions, laid).
  DERIVED. THE GIVEN ROWS OF THIS SEAT. 12 by the template 'for every input the law returns true; each argument reads behind the call as it read before'; 0 by the template 'total and deterministic' (their statements: YtijpdeanbkodkaaTotals.lean).
  GIVEN WITH THE SEED: the statements are not yours to turn. If you find one false, say at which input.
  Laid BY PROGRAM, IN A SANDBOX (cutbox-rows.mjs): the forced cells as the released guide's own fill.sh prints them over the translation 860c8f4b3e4a3d0f… (all of the seat's roots in one cut). By AI agents, Wed Nov 11 2026. No macro, syntax, notation, axiom, sorry.
-/
import Derived.Test.YtijpdeanbkodkaaChecked
import GoSem.Claim
import GoSem.ClaimJoined
import GoSem.ClaimMapViews
import Derived.JoinedTies
import Derived.KernelRfl
namespace Go.Proofs.Ytijpdeanbkodkaa
/- THE CELL 'sum', in the pinned program and in every row, IS THE sha256 OF THE DUMP (.gsa) THAT YtijpdeanbkodkaaProg.lean LOADS. Nothing in Lean hashes anything: it is a label: what it is worth is what the hold of that sum in a sandbox is worth. -/
noncomputable def Try.pinned : Pinned := { name := "ytijpdeanbkodkaa", sum := "860c8f4b3e4a3d0f8fbd8035b5f6c40a8e01c0fc2979baf85cad3b23e49897e5", checked := Try.checked }
namespace Rows
def none {H : Type} : Left H := { results := [], args := [] }

/-- 'handofflaw01.DiceDraws': WHATEVER THE INPUT: true; the input reads as it did. -/
def diceDrawsSpec : ChangeSpec := { name := "diceDraws", fn := fun _ => fun
  | [d1, d2] => { results := [.lit (.bool true)], args := [d1, d2] }
  | _ => none }
def diceDrawsRow : OpenClaim := { program := "ytijpdeanbkodkaa", sum := "860c8f4b3e4a3d0f8fbd8035b5f6c40a8e01c0fc2979baf85cad3b23e49897e5", func := "handoff/handofflaw01.DiceDraws", spec := "diceDraws", apart := false }
def DiceDrawsSaid : Prop := diceDrawsRow.holds Try.pinned (OpenSpec.ofChange diceDrawsSpec)

/-- ITS FALSE NEIGHBOUR: 'it returns false'. Refute it at one input. -/
def diceDrawsWrong : ChangeSpec := { name := "diceDraws", fn := fun _ => fun
  | [d1, d2] => { results := [.lit (.bool false)], args := [d1, d2] }
  | _ => none }
def DiceDrawsWrongFalsely : Prop := diceDrawsRow.holds Try.pinned (OpenSpec.ofChange diceDrawsWrong)

/-- 'handofflaw01.DiceKeeps': WHATEVER THE INPUT: true; the input reads as it did. -/
def diceKeepsSpec : ChangeSpec := { name := "diceKeeps", fn := fun _ => fun
  | [d1, d2, d3] => { results := [.lit (.bool true)], args := [d1, d2, d3] }
  | _ => none }
def diceKeepsRow : OpenClaim := { program := "ytijpdeanbkodkaa", sum := "860c8f4b3e4a3d0f8fbd8035b5f6c40a8e01c0fc2979baf85cad3b23e49897e5", func := "handoff/handofflaw01.DiceKeeps", spec := "diceKeeps", apart := false }
def DiceKeepsSaid : Prop := diceKeepsRow.holds Try.pinned (OpenSpec.ofChange diceKeepsSpec)

/-- ITS FALSE NEIGHBOUR: 'it returns false'. Refute it at one input. -/
def diceKeepsWrong : ChangeSpec := { name := "diceKeeps", fn := fun _ => fun
  | [d1, d2, d3] => { results := [.lit (.bool false)], args := [d1, d2, d3] }
  | _ => none }
def DiceKeepsWrongFalsely : Prop := diceKeepsRow.holds Try.pinned (OpenSpec.ofChange diceKeepsWrong)

/-- 'handofflaw07.LatchOne': WHATEVER THE INPUT: true; the input reads as it did. -/
def latchOneSpec : ChangeSpec := { name := "latchOne", fn := fun _ => fun
  | [d] => { results := [.lit (.bool true)], args := [d] }
  | _ => none }
def latchOneRow : OpenClaim := { program := "ytijpdeanbkodkaa", sum := "860c8f4b3e4a3d0f8fbd8035b5f6c40a8e01c0fc2979baf85cad3b23e49897e5", func := "handoff/handofflaw07.LatchOne", spec := "latchOne", apart := false }
def LatchOneSaid : Prop := latchOneRow.holds Try.pinned (OpenSpec.ofChange latchOneSpec)

/-- ITS FALSE NEIGHBOUR: 'it returns false'. Refute it at one input. -/
def latchOneWrong : ChangeSpec := { name := "latchOne", fn := fun _ => fun
  | [d] => { results := [.lit (.bool false)], args := [d] }
  | _ => none }
def LatchOneWrongFalsely : Prop := latchOneRow.holds Try.pinned (OpenSpec.ofChange latchOneWrong)

/-- 'handofflaw07.LatchRuns': WHATEVER THE INPUT: true; the input reads as it did. -/
def latchRunsSpec : ChangeSpec := { name := "latchRuns", fn := fun _ => fun
  | [d1, d2] => { results := [.lit (.bool true)], args := [d1, d2] }
  | _ => none }
def latchRunsRow : OpenClaim := { program := "ytijpdeanbkodkaa", sum := "860c8f4b3e4a3d0f8fbd8035b5f6c40a8e01c0fc2979baf85cad3b23e49897e5", func := "handoff/handofflaw07.LatchRuns", spec := "latchRuns", apart := false }
def LatchRunsSaid : Prop := latchRunsRow.holds Try.pinned (OpenSpec.ofChange latchRunsSpec)

/-- ITS FALSE NEIGHBOUR: 'it returns false'. Refute it at one input. -/
def latchRunsWrong : ChangeSpec := { name := "latchRuns", fn := fun _ => fun
  | [d1, d2] => { results := [.lit (.bool false)], args := [d1, d2] }
  | _ => none }
def LatchRunsWrongFalsely : Prop := latchRunsRow.holds Try.pinned (OpenSpec.ofChange latchRunsWrong)

/-- 'handofflaw08.BenchWakes': WHATEVER THE INPUT: true; the input reads as it did. -/
def benchWakesSpec : ChangeSpec := { name := "benchWakes", fn := fun _ => fun
  | [d] => { results := [.lit (.bool true)], args := [d] }
  | _ => none }
def benchWakesRow : OpenClaim := { program := "ytijpdeanbkodkaa", sum := "860c8f4b3e4a3d0f8fbd8035b5f6c40a8e01c0fc2979baf85cad3b23e49897e5", func := "handoff/handofflaw08.BenchWakes", spec := "benchWakes", apart := false }
def BenchWakesSaid : Prop := benchWakesRow.holds Try.pinned (OpenSpec.ofChange benchWakesSpec)

/-- ITS FALSE NEIGHBOUR: 'it returns false'. Refute it at one input. -/
def benchWakesWrong : ChangeSpec := { name := "benchWakes", fn := fun _ => fun
  | [d] => { results := [.lit (.bool false)], args := [d] }
  | _ => none }
def BenchWakesWrongFalsely : Prop := benchWakesRow.holds Try.pinned (OpenSpec.ofChange benchWakesWrong)

/-- 'handofflaw04.RingRows': WHATEVER THE INPUT: true; the input reads as it did. -/
def ringRowsSpec : ChangeSpec := { name := "ringRows", fn := fun _ => fun
  | [d1, d2, d3] => { results := [.lit (.bool true)], args := [d1, d2, d3] }
  | _ => none }
def ringRowsRow : OpenClaim := { program := "ytijpdeanbkodkaa", sum := "860c8f4b3e4a3d0f8fbd8035b5f6c40a8e01c0fc2979baf85cad3b23e49897e5", func := "handoff/handofflaw04.RingRows", spec := "ringRows", apart := false }
def RingRowsSaid : Prop := ringRowsRow.holds Try.pinned (OpenSpec.ofChange ringRowsSpec)

/-- ITS FALSE NEIGHBOUR: 'it returns false'. Refute it at one input. -/
def ringRowsWrong : ChangeSpec := { name := "ringRows", fn := fun _ => fun
  | [d1, d2, d3] => { results := [.lit (.bool false)], args := [d1, d2, d3] }
  | _ => none }
def RingRowsWrongFalsely : Prop := ringRowsRow.holds Try.pinned (OpenSpec.ofChange ringRowsWrong)

/-- 'handofflaw04.RingNew': WHATEVER THE INPUT: true; the input reads as it did. -/
def ringNewSpec : ChangeSpec := { name := "ringNew", fn := fun _ => fun
  | [d1, d2] => { results := [.lit (.bool true)], args := [d1, d2] }
  | _ => none }
def ringNewRow : OpenClaim := { program := "ytijpdeanbkodkaa", sum := "860c8f4b3e4a3d0f8fbd8035b5f6c40a8e01c0fc2979baf85cad3b23e49897e5", func := "handoff/handofflaw04.RingNew", spec := "ringNew", apart := false }
def RingNewSaid : Prop := ringNewRow.holds Try.pinned (OpenSpec.ofChange ringNewSpec)

/-- ITS FALSE NEIGHBOUR: 'it returns false'. Refute it at one input. -/
def ringNewWrong : ChangeSpec := { name := "ringNew", fn := fun _ => fun
  | [d1, d2] => { results := [.lit (.bool false)], args := [d1, d2] }
  | _ => none }
def RingNewWrongFalsely : Prop := ringNewRow.holds Try.pinned (OpenSpec.ofChange ringNewWrong)

/-- 'handofflaw08.BenchRuns': WHATEVER THE INPUT: true; the input reads as it did. -/
def benchRunsSpec : ChangeSpec := { name := "benchRuns", fn := fun _ => fun
  | [d1, d2] => { results := [.lit (.bool true)], args := [d1, d2] }
  | _ => none }
def benchRunsRow : OpenClaim := { program := "ytijpdeanbkodkaa", sum := "860c8f4b3e4a3d0f8fbd8035b5f6c40a8e01c0fc2979baf85cad3b23e49897e5", func := "handoff/handofflaw08.BenchRuns", spec := "benchRuns", apart := false }
def BenchRunsSaid : Prop := benchRunsRow.holds Try.pinned (OpenSpec.ofChange benchRunsSpec)

/-- ITS FALSE NEIGHBOUR: 'it returns false'. Refute it at one input. -/
def benchRunsWrong : ChangeSpec := { name := "benchRuns", fn := fun _ => fun
  | [d1, d2] => { results := [.lit (.bool false)], args := [d1, d2] }
  | _ => none }
def BenchRunsWrongFalsely : Prop := benchRunsRow.holds Try.pinned (OpenSpec.ofChange benchRunsWrong)

/-- 'handofflaw04.RingRuns': WHATEVER THE INPUT: true; the input reads as it did. -/
def ringRunsSpec : ChangeSpec := { name := "ringRuns", fn := fun _ => fun
  | [d1, d2, d3] => { results := [.lit (.bool true)], args := [d1, d2, d3] }
  | _ => none }
def ringRunsRow : OpenClaim := { program := "ytijpdeanbkodkaa", sum := "860c8f4b3e4a3d0f8fbd8035b5f6c40a8e01c0fc2979baf85cad3b23e49897e5", func := "handoff/handofflaw04.RingRuns", spec := "ringRuns", apart := false }
def RingRunsSaid : Prop := ringRunsRow.holds Try.pinned (OpenSpec.ofChange ringRunsSpec)

/-- ITS FALSE NEIGHBOUR: 'it returns false'. Refute it at one input. -/
def ringRunsWrong : ChangeSpec := { name := "ringRuns", fn := fun _ => fun
  | [d1, d2, d3] => { results := [.lit (.bool false)], args := [d1, d2, d3] }
  | _ => none }
def RingRunsWrongFalsely : Prop := ringRunsRow.holds Try.pinned (OpenSpec.ofChange ringRunsWrong)

/-- 'handofflaw06.QueueNew': WHATEVER THE INPUT: true; the input reads as it did. -/
def queueNewSpec : ChangeSpec := { name := "queueNew", fn := fun _ => fun
  | [d1, d2] => { results := [.lit (.bool true)], args := [d1, d2] }
  | _ => none }
def queueNewRow : OpenClaim := { program := "ytijpdeanbkodkaa", sum := "860c8f4b3e4a3d0f8fbd8035b5f6c40a8e01c0fc2979baf85cad3b23e49897e5", func := "handoff/handofflaw06.QueueNew", spec := "queueNew", apart := false }
def QueueNewSaid : Prop := queueNewRow.holds Try.pinned (OpenSpec.ofChange queueNewSpec)

/-- ITS FALSE NEIGHBOUR: 'it returns false'. Refute it at one input. -/
def queueNewWrong : ChangeSpec := { name := "queueNew", fn := fun _ => fun
  | [d1, d2] => { results := [.lit (.bool false)], args := [d1, d2] }
  | _ => none }
def QueueNewWrongFalsely : Prop := queueNewRow.holds Try.pinned (OpenSpec.ofChange queueNewWrong)

/-- 'handofflaw06.QueueRuns': WHATEVER THE INPUT: true; the input reads as it did. -/
def queueRunsSpec : ChangeSpec := { name := "queueRuns", fn := fun _ => fun
  | [d1, d2, d3] => { results := [.lit (.bool true)], args := [d1, d2, d3] }
  | _ => none }
def queueRunsRow : OpenClaim := { program := "ytijpdeanbkodkaa", sum := "860c8f4b3e4a3d0f8fbd8035b5f6c40a8e01c0fc2979baf85cad3b23e49897e5", func := "handoff/handofflaw06.QueueRuns", spec := "queueRuns", apart := false }
def QueueRunsSaid : Prop := queueRunsRow.holds Try.pinned (OpenSpec.ofChange queueRunsSpec)

/-- ITS FALSE NEIGHBOUR: 'it returns false'. Refute it at one input. -/
def queueRunsWrong : ChangeSpec := { name := "queueRuns", fn := fun _ => fun
  | [d1, d2, d3] => { results := [.lit (.bool false)], args := [d1, d2, d3] }
  | _ => none }
def QueueRunsWrongFalsely : Prop := queueRunsRow.holds Try.pinned (OpenSpec.ofChange queueRunsWrong)

/-- 'handofflaw06.QueueRows': WHATEVER THE INPUT: true; the input reads as it did. -/
def queueRowsSpec : ChangeSpec := { name := "queueRows", fn := fun _ => fun
  | [d1, d2] => { results := [.lit (.bool true)], args := [d1, d2] }
  | _ => none }
def queueRowsRow : OpenClaim := { program := "ytijpdeanbkodkaa", sum := "860c8f4b3e4a3d0f8fbd8035b5f6c40a8e01c0fc2979baf85cad3b23e49897e5", func := "handoff/handofflaw06.QueueRows", spec := "queueRows", apart := false }
def QueueRowsSaid : Prop := queueRowsRow.holds Try.pinned (OpenSpec.ofChange queueRowsSpec)

/-- ITS FALSE NEIGHBOUR: 'it returns false'. Refute it at one input. -/
def queueRowsWrong : ChangeSpec := { name := "queueRows", fn := fun _ => fun
  | [d1, d2] => { results := [.lit (.bool false)], args := [d1, d2] }
  | _ => none }
def QueueRowsWrongFalsely : Prop := queueRowsRow.holds Try.pinned (OpenSpec.ofChange queueRowsWrong)

/- THE SECOND FORM. 'bulk': how many values and letters a reading holds, each counted each time it is reached (what is shared counts as often as it is met; a slice's spare places count too). A statement '..UptoSaid' is the law's where the arguments, and the package variables that the reading takes, are together of bulk at most 1048576: NARROWER than '..Said'. Prove '..Said' where nothing that the law and all that it calls make is longer than what came in: it says more and counts as full. Else prove '..UptoSaid'. A law counts once. -/
mutual
def uptoBulk {H : Type} : DataW H → Nat
  | .lit (.string bytes) => bytes.length + 1
  | .lit _ => 1
  | .nil => 1
  | .ptr d => uptoBulk d + 1
  | .slice elems spare => uptoBulkAll elems + uptoBulkAll spare + 1
  | .agg parts => uptoBulkAll parts + 1
  | .iface _ d => uptoBulk d + 1
  | .map entries => uptoBulkEntries entries + 1
  | .held _ => 1
def uptoBulkAll {H : Type} : List (DataW H) → Nat
  | [] => 0
  | d :: r => uptoBulk d + uptoBulkAll r
def uptoBulkEntries {H : Type} : List (Lit × DataW H) → Nat
  | [] => 0
  | x :: r => uptoBulkEntry x + uptoBulkEntries r
def uptoBulkEntry {H : Type} : Lit × DataW H → Nat
  | (.string bytes, d) => bytes.length + uptoBulk d + 1
  | (_, d) => uptoBulk d + 1
 end
def uptoSmall : (H : Type) → List (DataW H) → Bool := fun _ ds => decide (uptoBulkAll ds ≤ 1048576)
def OpenSpec.upto (s : _root_.Go.ChangeSpec) : _root_.Go.OpenSpec := { _root_.Go.OpenSpec.ofChange s with cond := some uptoSmall }

/-- 'handofflaw01.DiceDraws', WHERE WHAT IT READS IS OF BULK AT MOST 1048576: true; the input reads as it did. -/
def diceDrawsUptoRow : OpenClaim := { program := "ytijpdeanbkodkaa", sum := "860c8f4b3e4a3d0f8fbd8035b5f6c40a8e01c0fc2979baf85cad3b23e49897e5", func := "handoff/handofflaw01.DiceDraws", spec := "diceDraws", apart := false, narrowed := true }
def DiceDrawsUptoSaid : Prop := diceDrawsUptoRow.holds Try.pinned (OpenSpec.upto diceDrawsSpec)

/-- 'handofflaw01.DiceKeeps', WHERE WHAT IT READS IS OF BULK AT MOST 1048576: true; the input reads as it did. -/
def diceKeepsUptoRow : OpenClaim := { program := "ytijpdeanbkodkaa", sum := "860c8f4b3e4a3d0f8fbd8035b5f6c40a8e01c0fc2979baf85cad3b23e49897e5", func := "handoff/handofflaw01.DiceKeeps", spec := "diceKeeps", apart := false, narrowed := true }
def DiceKeepsUptoSaid : Prop := diceKeepsUptoRow.holds Try.pinned (OpenSpec.upto diceKeepsSpec)

/-- 'handofflaw07.LatchOne', WHERE WHAT IT READS IS OF BULK AT MOST 1048576: true; the input reads as it did. -/
def latchOneUptoRow : OpenClaim := { program := "ytijpdeanbkodkaa", sum := "860c8f4b3e4a3d0f8fbd8035b5f6c40a8e01c0fc2979baf85cad3b23e49897e5", func := "handoff/handofflaw07.LatchOne", spec := "latchOne", apart := false, narrowed := true }
def LatchOneUptoSaid : Prop := latchOneUptoRow.holds Try.pinned (OpenSpec.upto latchOneSpec)

/-- 'handofflaw07.LatchRuns', WHERE WHAT IT READS IS OF BULK AT MOST 1048576: true; the input reads as it did. -/
def latchRunsUptoRow : OpenClaim := { program := "ytijpdeanbkodkaa", sum := "860c8f4b3e4a3d0f8fbd8035b5f6c40a8e01c0fc2979baf85cad3b23e49897e5", func := "handoff/handofflaw07.LatchRuns", spec := "latchRuns", apart := false, narrowed := true }
def LatchRunsUptoSaid : Prop := latchRunsUptoRow.holds Try.pinned (OpenSpec.upto latchRunsSpec)

/-- 'handofflaw08.BenchWakes', WHERE WHAT IT READS IS OF BULK AT MOST 1048576: true; the input reads as it did. -/
def benchWakesUptoRow : OpenClaim := { program := "ytijpdeanbkodkaa", sum := "860c8f4b3e4a3d0f8fbd8035b5f6c40a8e01c0fc2979baf85cad3b23e49897e5", func := "handoff/handofflaw08.BenchWakes", spec := "benchWakes", apart := false, narrowed := true }
def BenchWakesUptoSaid : Prop := benchWakesUptoRow.holds Try.pinned (OpenSpec.upto benchWakesSpec)

/-- 'handofflaw04.RingRows', WHERE WHAT IT READS IS OF BULK AT MOST 1048576: true; the input reads as it did. -/
def ringRowsUptoRow : OpenClaim := { program := "ytijpdeanbkodkaa", sum := "860c8f4b3e4a3d0f8fbd8035b5f6c40a8e01c0fc2979baf85cad3b23e49897e5", func := "handoff/handofflaw04.RingRows", spec := "ringRows", apart := false, narrowed := true }
def RingRowsUptoSaid : Prop := ringRowsUptoRow.holds Try.pinned (OpenSpec.upto ringRowsSpec)

/-- 'handofflaw04.RingNew', WHERE WHAT IT READS IS OF BULK AT MOST 1048576: true; the input reads as it did. -/
def ringNewUptoRow : OpenClaim := { program := "ytijpdeanbkodkaa", sum := "860c8f4b3e4a3d0f8fbd8035b5f6c40a8e01c0fc2979baf85cad3b23e49897e5", func := "handoff/handofflaw04.RingNew", spec := "ringNew", apart := false, narrowed := true }
def RingNewUptoSaid : Prop := ringNewUptoRow.holds Try.pinned (OpenSpec.upto ringNewSpec)

/-- 'handofflaw08.BenchRuns', WHERE WHAT IT READS IS OF BULK AT MOST 1048576: true; the input reads as it did. -/
def benchRunsUptoRow : OpenClaim := { program := "ytijpdeanbkodkaa", sum := "860c8f4b3e4a3d0f8fbd8035b5f6c40a8e01c0fc2979baf85cad3b23e49897e5", func := "handoff/handofflaw08.BenchRuns", spec := "benchRuns", apart := false, narrowed := true }
def BenchRunsUptoSaid : Prop := benchRunsUptoRow.holds Try.pinned (OpenSpec.upto benchRunsSpec)

/-- 'handofflaw04.RingRuns', WHERE WHAT IT READS IS OF BULK AT MOST 1048576: true; the input reads as it did. -/
def ringRunsUptoRow : OpenClaim := { program := "ytijpdeanbkodkaa", sum := "860c8f4b3e4a3d0f8fbd8035b5f6c40a8e01c0fc2979baf85cad3b23e49897e5", func := "handoff/handofflaw04.RingRuns", spec := "ringRuns", apart := false, narrowed := true }
def RingRunsUptoSaid : Prop := ringRunsUptoRow.holds Try.pinned (OpenSpec.upto ringRunsSpec)

/-- 'handofflaw06.QueueNew', WHERE WHAT IT READS IS OF BULK AT MOST 1048576: true; the input reads as it did. -/
def queueNewUptoRow : OpenClaim := { program := "ytijpdeanbkodkaa", sum := "860c8f4b3e4a3d0f8fbd8035b5f6c40a8e01c0fc2979baf85cad3b23e49897e5", func := "handoff/handofflaw06.QueueNew", spec := "queueNew", apart := false, narrowed := true }
def QueueNewUptoSaid : Prop := queueNewUptoRow.holds Try.pinned (OpenSpec.upto queueNewSpec)

/-- 'handofflaw06.QueueRuns', WHERE WHAT IT READS IS OF BULK AT MOST 1048576: true; the input reads as it did. -/
def queueRunsUptoRow : OpenClaim := { program := "ytijpdeanbkodkaa", sum := "860c8f4b3e4a3d0f8fbd8035b5f6c40a8e01c0fc2979baf85cad3b23e49897e5", func := "handoff/handofflaw06.QueueRuns", spec := "queueRuns", apart := false, narrowed := true }
def QueueRunsUptoSaid : Prop := queueRunsUptoRow.holds Try.pinned (OpenSpec.upto queueRunsSpec)

/-- 'handofflaw06.QueueRows', WHERE WHAT IT READS IS OF BULK AT MOST 1048576: true; the input reads as it did. -/
def queueRowsUptoRow : OpenClaim := { program := "ytijpdeanbkodkaa", sum := "860c8f4b3e4a3d0f8fbd8035b5f6c40a8e01c0fc2979baf85cad3b23e49897e5", func := "handoff/handofflaw06.QueueRows", spec := "queueRows", apart := false, narrowed := true }
def QueueRowsUptoSaid : Prop := queueRowsUptoRow.holds Try.pinned (OpenSpec.upto queueRowsSpec)

end Rows
end Go.Proofs.Ytijpdeanbkodkaa
