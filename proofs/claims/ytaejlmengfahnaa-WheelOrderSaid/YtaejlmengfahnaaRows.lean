/-
  No cell of these rows narrows 'for every input' (looked for: loops, veiled, ifaces, maps, wideKeys, modest, calm, conditions, laid).
  DERIVED. THE GIVEN ROWS OF THIS SEAT. 5 by the template 'for every input the law returns true; each argument reads behind the call as it read before'; 0 by the template 'total and deterministic' (their statements: YtaejlmengfahnaaTotals.lean).
  GIVEN WITH THE SEED: the statements are not yours to turn. If you find one false, say at which input.
  Laid BY PROGRAM, IN A SANDBOX (cutbox-rows.mjs): the forced cells as the released guide's own fill.sh prints them over the translation 864311caeaf1ec01… (all of the seat's roots in one cut). By AI agents, Wed Nov 11 2026. No macro, syntax, notation, axiom, sorry.
-/
import Derived.Test.YtaejlmengfahnaaChecked
import GoSem.Claim
import GoSem.ClaimJoined
import GoSem.ClaimMapViews
import Derived.JoinedTies
import Derived.KernelRfl
namespace Go.Proofs.Ytaejlmengfahnaa
/- THE CELL 'sum', in the pinned program and in every row, IS THE sha256 OF THE DUMP (.gsa) THAT YtaejlmengfahnaaProg.lean LOADS. Nothing in Lean hashes anything: it is a label: what it is worth is what the hold of that sum in a sandbox is worth. -/
noncomputable def Try.pinned : Pinned := { name := "ytaejlmengfahnaa", sum := "864311caeaf1ec0173999905f0eaf52dc8aeeee274527a6a9d2f3aec5b795adb", checked := Try.checked }
namespace Rows
def none {H : Type} : Left H := { results := [], args := [] }

/-- 'handshakerlaw17.WheelTells': WHATEVER THE INPUT: true; the input reads as it did. -/
def wheelTellsSpec : ChangeSpec := { name := "wheelTells", fn := fun _ => fun
  | [d1, d2, d3] => { results := [.lit (.bool true)], args := [d1, d2, d3] }
  | _ => none }
def wheelTellsRow : OpenClaim := { program := "ytaejlmengfahnaa", sum := "864311caeaf1ec0173999905f0eaf52dc8aeeee274527a6a9d2f3aec5b795adb", func := "handshaker/handshakerlaw17.WheelTells", spec := "wheelTells", inPlace := ["slices.overlaps[handshaker/wheel.Item]"], unfollowed := true, recurses := true, apart := false }
def WheelTellsSaid : Prop := wheelTellsRow.holds Try.pinned (OpenSpec.ofChange wheelTellsSpec)

/-- ITS FALSE NEIGHBOUR: 'it returns false'. Refute it at one input. -/
def wheelTellsWrong : ChangeSpec := { name := "wheelTells", fn := fun _ => fun
  | [d1, d2, d3] => { results := [.lit (.bool false)], args := [d1, d2, d3] }
  | _ => none }
def WheelTellsWrongFalsely : Prop := wheelTellsRow.holds Try.pinned (OpenSpec.ofChange wheelTellsWrong)

/-- 'handshakerlaw17.WheelSteps': WHATEVER THE INPUT: true; the input reads as it did. -/
def wheelStepsSpec : ChangeSpec := { name := "wheelSteps", fn := fun _ => fun
  | [d1, d2] => { results := [.lit (.bool true)], args := [d1, d2] }
  | _ => none }
def wheelStepsRow : OpenClaim := { program := "ytaejlmengfahnaa", sum := "864311caeaf1ec0173999905f0eaf52dc8aeeee274527a6a9d2f3aec5b795adb", func := "handshaker/handshakerlaw17.WheelSteps", spec := "wheelSteps", inPlace := ["slices.overlaps[handshaker/wheel.Item]"], unfollowed := true, recurses := true, apart := false }
def WheelStepsSaid : Prop := wheelStepsRow.holds Try.pinned (OpenSpec.ofChange wheelStepsSpec)

/-- ITS FALSE NEIGHBOUR: 'it returns false'. Refute it at one input. -/
def wheelStepsWrong : ChangeSpec := { name := "wheelSteps", fn := fun _ => fun
  | [d1, d2] => { results := [.lit (.bool false)], args := [d1, d2] }
  | _ => none }
def WheelStepsWrongFalsely : Prop := wheelStepsRow.holds Try.pinned (OpenSpec.ofChange wheelStepsWrong)

/-- 'handshakerlaw17.WheelSure': WHATEVER THE INPUT: true; the input reads as it did. -/
def wheelSureSpec : ChangeSpec := { name := "wheelSure", fn := fun _ => fun
  | [d1, d2, d3, d4, d5] => { results := [.lit (.bool true)], args := [d1, d2, d3, d4, d5] }
  | _ => none }
def wheelSureRow : OpenClaim := { program := "ytaejlmengfahnaa", sum := "864311caeaf1ec0173999905f0eaf52dc8aeeee274527a6a9d2f3aec5b795adb", func := "handshaker/handshakerlaw17.WheelSure", spec := "wheelSure", inPlace := ["slices.overlaps[handshaker/wheel.Item]"], unfollowed := true, recurses := true, apart := false }
def WheelSureSaid : Prop := wheelSureRow.holds Try.pinned (OpenSpec.ofChange wheelSureSpec)

/-- ITS FALSE NEIGHBOUR: 'it returns false'. Refute it at one input. -/
def wheelSureWrong : ChangeSpec := { name := "wheelSure", fn := fun _ => fun
  | [d1, d2, d3, d4, d5] => { results := [.lit (.bool false)], args := [d1, d2, d3, d4, d5] }
  | _ => none }
def WheelSureWrongFalsely : Prop := wheelSureRow.holds Try.pinned (OpenSpec.ofChange wheelSureWrong)

/-- 'handshakerlaw17.WheelItems': WHATEVER THE INPUT: true; the input reads as it did. -/
def wheelItemsSpec : ChangeSpec := { name := "wheelItems", fn := fun _ => fun
  | [d1, d2, d3] => { results := [.lit (.bool true)], args := [d1, d2, d3] }
  | _ => none }
def wheelItemsRow : OpenClaim := { program := "ytaejlmengfahnaa", sum := "864311caeaf1ec0173999905f0eaf52dc8aeeee274527a6a9d2f3aec5b795adb", func := "handshaker/handshakerlaw17.WheelItems", spec := "wheelItems", inPlace := ["slices.overlaps[handshaker/wheel.Item]"], unfollowed := true, recurses := true, apart := false }
def WheelItemsSaid : Prop := wheelItemsRow.holds Try.pinned (OpenSpec.ofChange wheelItemsSpec)

/-- ITS FALSE NEIGHBOUR: 'it returns false'. Refute it at one input. -/
def wheelItemsWrong : ChangeSpec := { name := "wheelItems", fn := fun _ => fun
  | [d1, d2, d3] => { results := [.lit (.bool false)], args := [d1, d2, d3] }
  | _ => none }
def WheelItemsWrongFalsely : Prop := wheelItemsRow.holds Try.pinned (OpenSpec.ofChange wheelItemsWrong)

/-- 'handshakerlaw17.WheelOrder': WHATEVER THE INPUT: true; the input reads as it did. -/
def wheelOrderSpec : ChangeSpec := { name := "wheelOrder", fn := fun _ => fun
  | [d1, d2, d3] => { results := [.lit (.bool true)], args := [d1, d2, d3] }
  | _ => none }
def wheelOrderRow : OpenClaim := { program := "ytaejlmengfahnaa", sum := "864311caeaf1ec0173999905f0eaf52dc8aeeee274527a6a9d2f3aec5b795adb", func := "handshaker/handshakerlaw17.WheelOrder", spec := "wheelOrder", inPlace := ["slices.overlaps[handshaker/wheel.Item]"], unfollowed := true, recurses := true, apart := false }
def WheelOrderSaid : Prop := wheelOrderRow.holds Try.pinned (OpenSpec.ofChange wheelOrderSpec)

/-- ITS FALSE NEIGHBOUR: 'it returns false'. Refute it at one input. -/
def wheelOrderWrong : ChangeSpec := { name := "wheelOrder", fn := fun _ => fun
  | [d1, d2, d3] => { results := [.lit (.bool false)], args := [d1, d2, d3] }
  | _ => none }
def WheelOrderWrongFalsely : Prop := wheelOrderRow.holds Try.pinned (OpenSpec.ofChange wheelOrderWrong)

/- THE SECOND FORM. 'bulk': how many values and letters a reading holds, each counted each time it is reached (what is shared counts as often as it is met; a slice's spare places count too). A statement '..UptoSaid' is the law's where the arguments, and the package variables that the reading takes, are together of bulk at most 1048576: NARROWER than '..Said'. Prove '..Said' where nothing that the law and all that it calls make is longer than what came in: it says more and counts as full. Else prove '..UptoSaid'. A law counts once. -/
mutual
def uptoBulk {H : Type} : DataW H → Nat
  | .lit (.string bytes) => bytes.length + 1
  | .lit _ => 1
  | .nil => 1
  | .ptr d => uptoBulk d + 1
  | .slice elems spare => uptoBulkAll elems + uptoBulkAll spare + 1
  | .agg parts => uptoBulkAll parts + 1
  | .iface _ d => uptoBulk d + 1
  | .map entries => uptoBulkEntries entries + 1
  | .held _ => 1
def uptoBulkAll {H : Type} : List (DataW H) → Nat
  | [] => 0
  | d :: r => uptoBulk d + uptoBulkAll r
def uptoBulkEntries {H : Type} : List (Lit × DataW H) → Nat
  | [] => 0
  | x :: r => uptoBulkEntry x + uptoBulkEntries r
def uptoBulkEntry {H : Type} : Lit × DataW H → Nat
  | (.string bytes, d) => bytes.length + uptoBulk d + 1
  | (_, d) => uptoBulk d + 1
 end
def uptoSmall : (H : Type) → List (DataW H) → Bool := fun _ ds => decide (uptoBulkAll ds ≤ 1048576)
def OpenSpec.upto (s : _root_.Go.ChangeSpec) : _root_.Go.OpenSpec := { _root_.Go.OpenSpec.ofChange s with cond := some uptoSmall }

/-- 'handshakerlaw17.WheelTells', WHERE WHAT IT READS IS OF BULK AT MOST 1048576: true; the input reads as it did. -/
def wheelTellsUptoRow : OpenClaim := { program := "ytaejlmengfahnaa", sum := "864311caeaf1ec0173999905f0eaf52dc8aeeee274527a6a9d2f3aec5b795adb", func := "handshaker/handshakerlaw17.WheelTells", spec := "wheelTells", inPlace := ["slices.overlaps[handshaker/wheel.Item]"], unfollowed := true, recurses := true, apart := false, narrowed := true }
def WheelTellsUptoSaid : Prop := wheelTellsUptoRow.holds Try.pinned (OpenSpec.upto wheelTellsSpec)

/-- 'handshakerlaw17.WheelSteps', WHERE WHAT IT READS IS OF BULK AT MOST 1048576: true; the input reads as it did. -/
def wheelStepsUptoRow : OpenClaim := { program := "ytaejlmengfahnaa", sum := "864311caeaf1ec0173999905f0eaf52dc8aeeee274527a6a9d2f3aec5b795adb", func := "handshaker/handshakerlaw17.WheelSteps", spec := "wheelSteps", inPlace := ["slices.overlaps[handshaker/wheel.Item]"], unfollowed := true, recurses := true, apart := false, narrowed := true }
def WheelStepsUptoSaid : Prop := wheelStepsUptoRow.holds Try.pinned (OpenSpec.upto wheelStepsSpec)

/-- 'handshakerlaw17.WheelSure', WHERE WHAT IT READS IS OF BULK AT MOST 1048576: true; the input reads as it did. -/
def wheelSureUptoRow : OpenClaim := { program := "ytaejlmengfahnaa", sum := "864311caeaf1ec0173999905f0eaf52dc8aeeee274527a6a9d2f3aec5b795adb", func := "handshaker/handshakerlaw17.WheelSure", spec := "wheelSure", inPlace := ["slices.overlaps[handshaker/wheel.Item]"], unfollowed := true, recurses := true, apart := false, narrowed := true }
def WheelSureUptoSaid : Prop := wheelSureUptoRow.holds Try.pinned (OpenSpec.upto wheelSureSpec)

/-- 'handshakerlaw17.WheelItems', WHERE WHAT IT READS IS OF BULK AT MOST 1048576: true; the input reads as it did. -/
def wheelItemsUptoRow : OpenClaim := { program := "ytaejlmengfahnaa", sum := "864311caeaf1ec0173999905f0eaf52dc8aeeee274527a6a9d2f3aec5b795adb", func := "handshaker/handshakerlaw17.WheelItems", spec := "wheelItems", inPlace := ["slices.overlaps[handshaker/wheel.Item]"], unfollowed := true, recurses := true, apart := false, narrowed := true }
def WheelItemsUptoSaid : Prop := wheelItemsUptoRow.holds Try.pinned (OpenSpec.upto wheelItemsSpec)

/-- 'handshakerlaw17.WheelOrder', WHERE WHAT IT READS IS OF BULK AT MOST 1048576: true; the input reads as it did. -/
def wheelOrderUptoRow : OpenClaim := { program := "ytaejlmengfahnaa", sum := "864311caeaf1ec0173999905f0eaf52dc8aeeee274527a6a9d2f3aec5b795adb", func := "handshaker/handshakerlaw17.WheelOrder", spec := "wheelOrder", inPlace := ["slices.overlaps[handshaker/wheel.Item]"], unfollowed := true, recurses := true, apart := false, narrowed := true }
def WheelOrderUptoSaid : Prop := wheelOrderUptoRow.holds Try.pinned (OpenSpec.upto wheelOrderSpec)

end Rows
end Go.Proofs.Ytaejlmengfahnaa
