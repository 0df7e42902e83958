/-
  No cell of these rows narrows 'for every input' (looked for: loops, veiled, ifaces, maps, wideKeys, modest, calm, conditions, laid).
  DERIVED. THE GIVEN ROWS OF THIS SEAT. 12 by the template 'for every input the law returns true; each argument reads behind the call as it read before'; 0 by the template 'total and deterministic' (their statements: YthpapgbpmkgfeaaTotals.lean).
  GIVEN WITH THE SEED: the statements are not yours to turn. If you find one false, say at which input.
  Laid BY PROGRAM, IN A SANDBOX (cutbox-rows.mjs): the forced cells as the released guide's own fill.sh prints them over the translation 2aec65fe3974fd1a… (all of the seat's roots in one cut). By AI agents, Wed Nov 11 2026. No macro, syntax, notation, axiom, sorry.
-/
import Derived.Test.YthpapgbpmkgfeaaChecked
import GoSem.Claim
import GoSem.ClaimJoined
import GoSem.ClaimMapViews
import Derived.JoinedTies
import Derived.KernelRfl
namespace Go.Proofs.Ythpapgbpmkgfeaa
/- THE CELL 'sum', in the pinned program and in every row, IS THE sha256 OF THE DUMP (.gsa) THAT YthpapgbpmkgfeaaProg.lean LOADS. Nothing in Lean hashes anything: it is a label: what it is worth is what the hold of that sum in a sandbox is worth. -/
noncomputable def Try.pinned : Pinned := { name := "ythpapgbpmkgfeaa", sum := "2aec65fe3974fd1ab6caa125c8c65044221608868c6803e2861ab896d0811a91", checked := Try.checked }
namespace Rows
def none {H : Type} : Left H := { results := [], args := [] }

/-- 'handshakerlaw06.WritesTells': WHATEVER THE INPUT: true; the input reads as it did. -/
def writesTellsSpec : ChangeSpec := { name := "writesTells", fn := fun _ => fun
  | [d1, d2, d3] => { results := [.lit (.bool true)], args := [d1, d2, d3] }
  | _ => none }
def writesTellsRow : OpenClaim := { program := "ythpapgbpmkgfeaa", sum := "2aec65fe3974fd1ab6caa125c8c65044221608868c6803e2861ab896d0811a91", func := "handshaker/handshakerlaw06.WritesTells", spec := "writesTells", unfollowed := true, recurses := true, apart := false }
def WritesTellsSaid : Prop := writesTellsRow.holds Try.pinned (OpenSpec.ofChange writesTellsSpec)

/-- ITS FALSE NEIGHBOUR: 'it returns false'. Refute it at one input. -/
def writesTellsWrong : ChangeSpec := { name := "writesTells", fn := fun _ => fun
  | [d1, d2, d3] => { results := [.lit (.bool false)], args := [d1, d2, d3] }
  | _ => none }
def WritesTellsWrongFalsely : Prop := writesTellsRow.holds Try.pinned (OpenSpec.ofChange writesTellsWrong)

/-- 'handshakerlaw06.WritesBack': WHATEVER THE INPUT: true; the input reads as it did. -/
def writesBackSpec : ChangeSpec := { name := "writesBack", fn := fun _ => fun
  | [d1, d2, d3] => { results := [.lit (.bool true)], args := [d1, d2, d3] }
  | _ => none }
def writesBackRow : OpenClaim := { program := "ythpapgbpmkgfeaa", sum := "2aec65fe3974fd1ab6caa125c8c65044221608868c6803e2861ab896d0811a91", func := "handshaker/handshakerlaw06.WritesBack", spec := "writesBack", unfollowed := true, recurses := true, apart := false }
def WritesBackSaid : Prop := writesBackRow.holds Try.pinned (OpenSpec.ofChange writesBackSpec)

/-- ITS FALSE NEIGHBOUR: 'it returns false'. Refute it at one input. -/
def writesBackWrong : ChangeSpec := { name := "writesBack", fn := fun _ => fun
  | [d1, d2, d3] => { results := [.lit (.bool false)], args := [d1, d2, d3] }
  | _ => none }
def WritesBackWrongFalsely : Prop := writesBackRow.holds Try.pinned (OpenSpec.ofChange writesBackWrong)

/-- 'handshakerlaw06.WritesFills': WHATEVER THE INPUT: true; the input reads as it did. -/
def writesFillsSpec : ChangeSpec := { name := "writesFills", fn := fun _ => fun
  | [d1, d2] => { results := [.lit (.bool true)], args := [d1, d2] }
  | _ => none }
def writesFillsRow : OpenClaim := { program := "ythpapgbpmkgfeaa", sum := "2aec65fe3974fd1ab6caa125c8c65044221608868c6803e2861ab896d0811a91", func := "handshaker/handshakerlaw06.WritesFills", spec := "writesFills", unfollowed := true, recurses := true, apart := false }
def WritesFillsSaid : Prop := writesFillsRow.holds Try.pinned (OpenSpec.ofChange writesFillsSpec)

/-- ITS FALSE NEIGHBOUR: 'it returns false'. Refute it at one input. -/
def writesFillsWrong : ChangeSpec := { name := "writesFills", fn := fun _ => fun
  | [d1, d2] => { results := [.lit (.bool false)], args := [d1, d2] }
  | _ => none }
def WritesFillsWrongFalsely : Prop := writesFillsRow.holds Try.pinned (OpenSpec.ofChange writesFillsWrong)

/-- 'handshakerlaw06.WritesKeeps': WHATEVER THE INPUT: true; the input reads as it did. -/
def writesKeepsSpec : ChangeSpec := { name := "writesKeeps", fn := fun _ => fun
  | [d1, d2] => { results := [.lit (.bool true)], args := [d1, d2] }
  | _ => none }
def writesKeepsRow : OpenClaim := { program := "ythpapgbpmkgfeaa", sum := "2aec65fe3974fd1ab6caa125c8c65044221608868c6803e2861ab896d0811a91", func := "handshaker/handshakerlaw06.WritesKeeps", spec := "writesKeeps", unfollowed := true, recurses := true, apart := false }
def WritesKeepsSaid : Prop := writesKeepsRow.holds Try.pinned (OpenSpec.ofChange writesKeepsSpec)

/-- ITS FALSE NEIGHBOUR: 'it returns false'. Refute it at one input. -/
def writesKeepsWrong : ChangeSpec := { name := "writesKeeps", fn := fun _ => fun
  | [d1, d2] => { results := [.lit (.bool false)], args := [d1, d2] }
  | _ => none }
def WritesKeepsWrongFalsely : Prop := writesKeepsRow.holds Try.pinned (OpenSpec.ofChange writesKeepsWrong)

/-- 'handshakerlaw06.WritesOther': WHATEVER THE INPUT: true; the input reads as it did. -/
def writesOtherSpec : ChangeSpec := { name := "writesOther", fn := fun _ => fun
  | [d1, d2, d3] => { results := [.lit (.bool true)], args := [d1, d2, d3] }
  | _ => none }
def writesOtherRow : OpenClaim := { program := "ythpapgbpmkgfeaa", sum := "2aec65fe3974fd1ab6caa125c8c65044221608868c6803e2861ab896d0811a91", func := "handshaker/handshakerlaw06.WritesOther", spec := "writesOther", unfollowed := true, recurses := true, apart := false }
def WritesOtherSaid : Prop := writesOtherRow.holds Try.pinned (OpenSpec.ofChange writesOtherSpec)

/-- ITS FALSE NEIGHBOUR: 'it returns false'. Refute it at one input. -/
def writesOtherWrong : ChangeSpec := { name := "writesOther", fn := fun _ => fun
  | [d1, d2, d3] => { results := [.lit (.bool false)], args := [d1, d2, d3] }
  | _ => none }
def WritesOtherWrongFalsely : Prop := writesOtherRow.holds Try.pinned (OpenSpec.ofChange writesOtherWrong)

/-- 'handshakerlaw06.WritesLast': WHATEVER THE INPUT: true; the input reads as it did. -/
def writesLastSpec : ChangeSpec := { name := "writesLast", fn := fun _ => fun
  | [d1, d2] => { results := [.lit (.bool true)], args := [d1, d2] }
  | _ => none }
def writesLastRow : OpenClaim := { program := "ythpapgbpmkgfeaa", sum := "2aec65fe3974fd1ab6caa125c8c65044221608868c6803e2861ab896d0811a91", func := "handshaker/handshakerlaw06.WritesLast", spec := "writesLast", unfollowed := true, recurses := true, apart := false }
def WritesLastSaid : Prop := writesLastRow.holds Try.pinned (OpenSpec.ofChange writesLastSpec)

/-- ITS FALSE NEIGHBOUR: 'it returns false'. Refute it at one input. -/
def writesLastWrong : ChangeSpec := { name := "writesLast", fn := fun _ => fun
  | [d1, d2] => { results := [.lit (.bool false)], args := [d1, d2] }
  | _ => none }
def WritesLastWrongFalsely : Prop := writesLastRow.holds Try.pinned (OpenSpec.ofChange writesLastWrong)

/-- 'handshakerlaw04.TickTells': WHATEVER THE INPUT: true; the input reads as it did. -/
def tickTellsSpec : ChangeSpec := { name := "tickTells", fn := fun _ => fun
  | [d1, d2, d3] => { results := [.lit (.bool true)], args := [d1, d2, d3] }
  | _ => none }
def tickTellsRow : OpenClaim := { program := "ythpapgbpmkgfeaa", sum := "2aec65fe3974fd1ab6caa125c8c65044221608868c6803e2861ab896d0811a91", func := "handshaker/handshakerlaw04.TickTells", spec := "tickTells", unfollowed := true, recurses := true, apart := false }
def TickTellsSaid : Prop := tickTellsRow.holds Try.pinned (OpenSpec.ofChange tickTellsSpec)

/-- ITS FALSE NEIGHBOUR: 'it returns false'. Refute it at one input. -/
def tickTellsWrong : ChangeSpec := { name := "tickTells", fn := fun _ => fun
  | [d1, d2, d3] => { results := [.lit (.bool false)], args := [d1, d2, d3] }
  | _ => none }
def TickTellsWrongFalsely : Prop := tickTellsRow.holds Try.pinned (OpenSpec.ofChange tickTellsWrong)

/-- 'handshakerlaw04.TickDue': WHATEVER THE INPUT: true; the input reads as it did. -/
def tickDueSpec : ChangeSpec := { name := "tickDue", fn := fun _ => fun
  | [d1, d2, d3] => { results := [.lit (.bool true)], args := [d1, d2, d3] }
  | _ => none }
def tickDueRow : OpenClaim := { program := "ythpapgbpmkgfeaa", sum := "2aec65fe3974fd1ab6caa125c8c65044221608868c6803e2861ab896d0811a91", func := "handshaker/handshakerlaw04.TickDue", spec := "tickDue", unfollowed := true, recurses := true, apart := false }
def TickDueSaid : Prop := tickDueRow.holds Try.pinned (OpenSpec.ofChange tickDueSpec)

/-- ITS FALSE NEIGHBOUR: 'it returns false'. Refute it at one input. -/
def tickDueWrong : ChangeSpec := { name := "tickDue", fn := fun _ => fun
  | [d1, d2, d3] => { results := [.lit (.bool false)], args := [d1, d2, d3] }
  | _ => none }
def TickDueWrongFalsely : Prop := tickDueRow.holds Try.pinned (OpenSpec.ofChange tickDueWrong)

/-- 'handshakerlaw04.TickSteps': WHATEVER THE INPUT: true; the input reads as it did. -/
def tickStepsSpec : ChangeSpec := { name := "tickSteps", fn := fun _ => fun
  | [d1, d2] => { results := [.lit (.bool true)], args := [d1, d2] }
  | _ => none }
def tickStepsRow : OpenClaim := { program := "ythpapgbpmkgfeaa", sum := "2aec65fe3974fd1ab6caa125c8c65044221608868c6803e2861ab896d0811a91", func := "handshaker/handshakerlaw04.TickSteps", spec := "tickSteps", unfollowed := true, recurses := true, apart := false }
def TickStepsSaid : Prop := tickStepsRow.holds Try.pinned (OpenSpec.ofChange tickStepsSpec)

/-- ITS FALSE NEIGHBOUR: 'it returns false'. Refute it at one input. -/
def tickStepsWrong : ChangeSpec := { name := "tickSteps", fn := fun _ => fun
  | [d1, d2] => { results := [.lit (.bool false)], args := [d1, d2] }
  | _ => none }
def TickStepsWrongFalsely : Prop := tickStepsRow.holds Try.pinned (OpenSpec.ofChange tickStepsWrong)

/-- 'handshakerlaw04.TickFirst': WHATEVER THE INPUT: true; the input reads as it did. -/
def tickFirstSpec : ChangeSpec := { name := "tickFirst", fn := fun _ => fun
  | [d] => { results := [.lit (.bool true)], args := [d] }
  | _ => none }
def tickFirstRow : OpenClaim := { program := "ythpapgbpmkgfeaa", sum := "2aec65fe3974fd1ab6caa125c8c65044221608868c6803e2861ab896d0811a91", func := "handshaker/handshakerlaw04.TickFirst", spec := "tickFirst", unfollowed := true, recurses := true, apart := false }
def TickFirstSaid : Prop := tickFirstRow.holds Try.pinned (OpenSpec.ofChange tickFirstSpec)

/-- ITS FALSE NEIGHBOUR: 'it returns false'. Refute it at one input. -/
def tickFirstWrong : ChangeSpec := { name := "tickFirst", fn := fun _ => fun
  | [d] => { results := [.lit (.bool false)], args := [d] }
  | _ => none }
def TickFirstWrongFalsely : Prop := tickFirstRow.holds Try.pinned (OpenSpec.ofChange tickFirstWrong)

/-- 'handshakerlaw04.TickOrder': WHATEVER THE INPUT: true; the input reads as it did. -/
def tickOrderSpec : ChangeSpec := { name := "tickOrder", fn := fun _ => fun
  | [d1, d2, d3] => { results := [.lit (.bool true)], args := [d1, d2, d3] }
  | _ => none }
def tickOrderRow : OpenClaim := { program := "ythpapgbpmkgfeaa", sum := "2aec65fe3974fd1ab6caa125c8c65044221608868c6803e2861ab896d0811a91", func := "handshaker/handshakerlaw04.TickOrder", spec := "tickOrder", unfollowed := true, recurses := true, apart := false }
def TickOrderSaid : Prop := tickOrderRow.holds Try.pinned (OpenSpec.ofChange tickOrderSpec)

/-- ITS FALSE NEIGHBOUR: 'it returns false'. Refute it at one input. -/
def tickOrderWrong : ChangeSpec := { name := "tickOrder", fn := fun _ => fun
  | [d1, d2, d3] => { results := [.lit (.bool false)], args := [d1, d2, d3] }
  | _ => none }
def TickOrderWrongFalsely : Prop := tickOrderRow.holds Try.pinned (OpenSpec.ofChange tickOrderWrong)

/-- 'handshakerlaw04.TickBack': WHATEVER THE INPUT: true; the input reads as it did. -/
def tickBackSpec : ChangeSpec := { name := "tickBack", fn := fun _ => fun
  | [d1, d2] => { results := [.lit (.bool true)], args := [d1, d2] }
  | _ => none }
def tickBackRow : OpenClaim := { program := "ythpapgbpmkgfeaa", sum := "2aec65fe3974fd1ab6caa125c8c65044221608868c6803e2861ab896d0811a91", func := "handshaker/handshakerlaw04.TickBack", spec := "tickBack", unfollowed := true, recurses := true, apart := false }
def TickBackSaid : Prop := tickBackRow.holds Try.pinned (OpenSpec.ofChange tickBackSpec)

/-- ITS FALSE NEIGHBOUR: 'it returns false'. Refute it at one input. -/
def tickBackWrong : ChangeSpec := { name := "tickBack", fn := fun _ => fun
  | [d1, d2] => { results := [.lit (.bool false)], args := [d1, d2] }
  | _ => none }
def TickBackWrongFalsely : Prop := tickBackRow.holds Try.pinned (OpenSpec.ofChange tickBackWrong)

/- THE SECOND FORM. 'bulk': how many values and letters a reading holds, each counted each time it is reached (what is shared counts as often as it is met; a slice's spare places count too). A statement '..UptoSaid' is the law's where the arguments, and the package variables that the reading takes, are together of bulk at most 1048576: NARROWER than '..Said'. Prove '..Said' where nothing that the law and all that it calls make is longer than what came in: it says more and counts as full. Else prove '..UptoSaid'. A law counts once. -/
mutual
def uptoBulk {H : Type} : DataW H → Nat
  | .lit (.string bytes) => bytes.length + 1
  | .lit _ => 1
  | .nil => 1
  | .ptr d => uptoBulk d + 1
  | .slice elems spare => uptoBulkAll elems + uptoBulkAll spare + 1
  | .agg parts => uptoBulkAll parts + 1
  | .iface _ d => uptoBulk d + 1
  | .map entries => uptoBulkEntries entries + 1
  | .held _ => 1
def uptoBulkAll {H : Type} : List (DataW H) → Nat
  | [] => 0
  | d :: r => uptoBulk d + uptoBulkAll r
def uptoBulkEntries {H : Type} : List (Lit × DataW H) → Nat
  | [] => 0
  | x :: r => uptoBulkEntry x + uptoBulkEntries r
def uptoBulkEntry {H : Type} : Lit × DataW H → Nat
  | (.string bytes, d) => bytes.length + uptoBulk d + 1
  | (_, d) => uptoBulk d + 1
 end
def uptoSmall : (H : Type) → List (DataW H) → Bool := fun _ ds => decide (uptoBulkAll ds ≤ 1048576)
def OpenSpec.upto (s : _root_.Go.ChangeSpec) : _root_.Go.OpenSpec := { _root_.Go.OpenSpec.ofChange s with cond := some uptoSmall }

/-- 'handshakerlaw06.WritesTells', WHERE WHAT IT READS IS OF BULK AT MOST 1048576: true; the input reads as it did. -/
def writesTellsUptoRow : OpenClaim := { program := "ythpapgbpmkgfeaa", sum := "2aec65fe3974fd1ab6caa125c8c65044221608868c6803e2861ab896d0811a91", func := "handshaker/handshakerlaw06.WritesTells", spec := "writesTells", unfollowed := true, recurses := true, apart := false, narrowed := true }
def WritesTellsUptoSaid : Prop := writesTellsUptoRow.holds Try.pinned (OpenSpec.upto writesTellsSpec)

/-- 'handshakerlaw06.WritesBack', WHERE WHAT IT READS IS OF BULK AT MOST 1048576: true; the input reads as it did. -/
def writesBackUptoRow : OpenClaim := { program := "ythpapgbpmkgfeaa", sum := "2aec65fe3974fd1ab6caa125c8c65044221608868c6803e2861ab896d0811a91", func := "handshaker/handshakerlaw06.WritesBack", spec := "writesBack", unfollowed := true, recurses := true, apart := false, narrowed := true }
def WritesBackUptoSaid : Prop := writesBackUptoRow.holds Try.pinned (OpenSpec.upto writesBackSpec)

/-- 'handshakerlaw06.WritesFills', WHERE WHAT IT READS IS OF BULK AT MOST 1048576: true; the input reads as it did. -/
def writesFillsUptoRow : OpenClaim := { program := "ythpapgbpmkgfeaa", sum := "2aec65fe3974fd1ab6caa125c8c65044221608868c6803e2861ab896d0811a91", func := "handshaker/handshakerlaw06.WritesFills", spec := "writesFills", unfollowed := true, recurses := true, apart := false, narrowed := true }
def WritesFillsUptoSaid : Prop := writesFillsUptoRow.holds Try.pinned (OpenSpec.upto writesFillsSpec)

/-- 'handshakerlaw06.WritesKeeps', WHERE WHAT IT READS IS OF BULK AT MOST 1048576: true; the input reads as it did. -/
def writesKeepsUptoRow : OpenClaim := { program := "ythpapgbpmkgfeaa", sum := "2aec65fe3974fd1ab6caa125c8c65044221608868c6803e2861ab896d0811a91", func := "handshaker/handshakerlaw06.WritesKeeps", spec := "writesKeeps", unfollowed := true, recurses := true, apart := false, narrowed := true }
def WritesKeepsUptoSaid : Prop := writesKeepsUptoRow.holds Try.pinned (OpenSpec.upto writesKeepsSpec)

/-- 'handshakerlaw06.WritesOther', WHERE WHAT IT READS IS OF BULK AT MOST 1048576: true; the input reads as it did. -/
def writesOtherUptoRow : OpenClaim := { program := "ythpapgbpmkgfeaa", sum := "2aec65fe3974fd1ab6caa125c8c65044221608868c6803e2861ab896d0811a91", func := "handshaker/handshakerlaw06.WritesOther", spec := "writesOther", unfollowed := true, recurses := true, apart := false, narrowed := true }
def WritesOtherUptoSaid : Prop := writesOtherUptoRow.holds Try.pinned (OpenSpec.upto writesOtherSpec)

/-- 'handshakerlaw06.WritesLast', WHERE WHAT IT READS IS OF BULK AT MOST 1048576: true; the input reads as it did. -/
def writesLastUptoRow : OpenClaim := { program := "ythpapgbpmkgfeaa", sum := "2aec65fe3974fd1ab6caa125c8c65044221608868c6803e2861ab896d0811a91", func := "handshaker/handshakerlaw06.WritesLast", spec := "writesLast", unfollowed := true, recurses := true, apart := false, narrowed := true }
def WritesLastUptoSaid : Prop := writesLastUptoRow.holds Try.pinned (OpenSpec.upto writesLastSpec)

/-- 'handshakerlaw04.TickTells', WHERE WHAT IT READS IS OF BULK AT MOST 1048576: true; the input reads as it did. -/
def tickTellsUptoRow : OpenClaim := { program := "ythpapgbpmkgfeaa", sum := "2aec65fe3974fd1ab6caa125c8c65044221608868c6803e2861ab896d0811a91", func := "handshaker/handshakerlaw04.TickTells", spec := "tickTells", unfollowed := true, recurses := true, apart := false, narrowed := true }
def TickTellsUptoSaid : Prop := tickTellsUptoRow.holds Try.pinned (OpenSpec.upto tickTellsSpec)

/-- 'handshakerlaw04.TickDue', WHERE WHAT IT READS IS OF BULK AT MOST 1048576: true; the input reads as it did. -/
def tickDueUptoRow : OpenClaim := { program := "ythpapgbpmkgfeaa", sum := "2aec65fe3974fd1ab6caa125c8c65044221608868c6803e2861ab896d0811a91", func := "handshaker/handshakerlaw04.TickDue", spec := "tickDue", unfollowed := true, recurses := true, apart := false, narrowed := true }
def TickDueUptoSaid : Prop := tickDueUptoRow.holds Try.pinned (OpenSpec.upto tickDueSpec)

/-- 'handshakerlaw04.TickSteps', WHERE WHAT IT READS IS OF BULK AT MOST 1048576: true; the input reads as it did. -/
def tickStepsUptoRow : OpenClaim := { program := "ythpapgbpmkgfeaa", sum := "2aec65fe3974fd1ab6caa125c8c65044221608868c6803e2861ab896d0811a91", func := "handshaker/handshakerlaw04.TickSteps", spec := "tickSteps", unfollowed := true, recurses := true, apart := false, narrowed := true }
def TickStepsUptoSaid : Prop := tickStepsUptoRow.holds Try.pinned (OpenSpec.upto tickStepsSpec)

/-- 'handshakerlaw04.TickFirst', WHERE WHAT IT READS IS OF BULK AT MOST 1048576: true; the input reads as it did. -/
def tickFirstUptoRow : OpenClaim := { program := "ythpapgbpmkgfeaa", sum := "2aec65fe3974fd1ab6caa125c8c65044221608868c6803e2861ab896d0811a91", func := "handshaker/handshakerlaw04.TickFirst", spec := "tickFirst", unfollowed := true, recurses := true, apart := false, narrowed := true }
def TickFirstUptoSaid : Prop := tickFirstUptoRow.holds Try.pinned (OpenSpec.upto tickFirstSpec)

/-- 'handshakerlaw04.TickOrder', WHERE WHAT IT READS IS OF BULK AT MOST 1048576: true; the input reads as it did. -/
def tickOrderUptoRow : OpenClaim := { program := "ythpapgbpmkgfeaa", sum := "2aec65fe3974fd1ab6caa125c8c65044221608868c6803e2861ab896d0811a91", func := "handshaker/handshakerlaw04.TickOrder", spec := "tickOrder", unfollowed := true, recurses := true, apart := false, narrowed := true }
def TickOrderUptoSaid : Prop := tickOrderUptoRow.holds Try.pinned (OpenSpec.upto tickOrderSpec)

/-- 'handshakerlaw04.TickBack', WHERE WHAT IT READS IS OF BULK AT MOST 1048576: true; the input reads as it did. -/
def tickBackUptoRow : OpenClaim := { program := "ythpapgbpmkgfeaa", sum := "2aec65fe3974fd1ab6caa125c8c65044221608868c6803e2861ab896d0811a91", func := "handshaker/handshakerlaw04.TickBack", spec := "tickBack", unfollowed := true, recurses := true, apart := false, narrowed := true }
def TickBackUptoSaid : Prop := tickBackUptoRow.holds Try.pinned (OpenSpec.upto tickBackSpec)

end Rows
end Go.Proofs.Ythpapgbpmkgfeaa
