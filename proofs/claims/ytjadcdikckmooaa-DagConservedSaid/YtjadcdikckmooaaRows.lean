/-
  No cell of these rows narrows 'for every input' (looked for: loops, veiled, ifaces, maps, wideKeys, modest, calm, conditions, laid).
  DERIVED. THE GIVEN ROWS OF THIS SEAT. 8 by the template 'for every input the law returns true; each argument reads behind the call as it read before'; 0 by the template 'total and deterministic' (their statements: YtjadcdikckmooaaTotals.lean).
  GIVEN WITH THE SEED: the statements are not yours to turn. If you find one false, say at which input.
  Laid BY PROGRAM, IN A SANDBOX (cutbox-rows.mjs): the forced cells as the released guide's own fill.sh prints them over the translation 60f2a04a0343b1cb… (all of the seat's roots in one cut). By AI agents, Wed Nov 11 2026. No macro, syntax, notation, axiom, sorry.
-/
import Derived.Test.YtjadcdikckmooaaChecked
import GoSem.Claim
import GoSem.ClaimJoined
import GoSem.ClaimMapViews
import Derived.JoinedTies
import Derived.KernelRfl
namespace Go.Proofs.Ytjadcdikckmooaa
/- THE CELL 'sum', in the pinned program and in every row, IS THE sha256 OF THE DUMP (.gsa) THAT YtjadcdikckmooaaProg.lean LOADS. Nothing in Lean hashes anything: it is a label: what it is worth is what the hold of that sum in a sandbox is worth. -/
noncomputable def Try.pinned : Pinned := { name := "ytjadcdikckmooaa", sum := "60f2a04a0343b1cb6f96e20836bf1232f373e70c6e6c009753e7cc4af6a55dc3", checked := Try.checked }
namespace Rows
def none {H : Type} : Left H := { results := [], args := [] }

/-- 'waypointlaw12.DagNext': WHATEVER THE INPUT: true; the input reads as it did. -/
def dagNextSpec : ChangeSpec := { name := "dagNext", fn := fun _ => fun
  | [d1, d2, d3] => { results := [.lit (.bool true)], args := [d1, d2, d3] }
  | _ => none }
def dagNextRow : OpenClaim := { program := "ytjadcdikckmooaa", sum := "60f2a04a0343b1cb6f96e20836bf1232f373e70c6e6c009753e7cc4af6a55dc3", func := "waypoint/waypointlaw12.DagNext", spec := "dagNext", unfollowed := true, recurses := true, named := ["math/bits.overflowError"], apart := false }
def DagNextSaid : Prop := dagNextRow.holds Try.pinned (OpenSpec.ofChange dagNextSpec)

/-- ITS FALSE NEIGHBOUR: 'it returns false'. Refute it at one input. -/
def dagNextWrong : ChangeSpec := { name := "dagNext", fn := fun _ => fun
  | [d1, d2, d3] => { results := [.lit (.bool false)], args := [d1, d2, d3] }
  | _ => none }
def DagNextWrongFalsely : Prop := dagNextRow.holds Try.pinned (OpenSpec.ofChange dagNextWrong)

/-- 'waypointlaw12.DagOrder': WHATEVER THE INPUT: true; the input reads as it did. -/
def dagOrderSpec : ChangeSpec := { name := "dagOrder", fn := fun _ => fun
  | [d1, d2, d3] => { results := [.lit (.bool true)], args := [d1, d2, d3] }
  | _ => none }
def dagOrderRow : OpenClaim := { program := "ytjadcdikckmooaa", sum := "60f2a04a0343b1cb6f96e20836bf1232f373e70c6e6c009753e7cc4af6a55dc3", func := "waypoint/waypointlaw12.DagOrder", spec := "dagOrder", unfollowed := true, recurses := true, named := ["math/bits.overflowError"], apart := false }
def DagOrderSaid : Prop := dagOrderRow.holds Try.pinned (OpenSpec.ofChange dagOrderSpec)

/-- ITS FALSE NEIGHBOUR: 'it returns false'. Refute it at one input. -/
def dagOrderWrong : ChangeSpec := { name := "dagOrder", fn := fun _ => fun
  | [d1, d2, d3] => { results := [.lit (.bool false)], args := [d1, d2, d3] }
  | _ => none }
def DagOrderWrongFalsely : Prop := dagOrderRow.holds Try.pinned (OpenSpec.ofChange dagOrderWrong)

/-- 'waypointlaw12.DagFollowed': WHATEVER THE INPUT: true; the input reads as it did. -/
def dagFollowedSpec : ChangeSpec := { name := "dagFollowed", fn := fun _ => fun
  | [d1, d2, d3, d4] => { results := [.lit (.bool true)], args := [d1, d2, d3, d4] }
  | _ => none }
def dagFollowedRow : OpenClaim := { program := "ytjadcdikckmooaa", sum := "60f2a04a0343b1cb6f96e20836bf1232f373e70c6e6c009753e7cc4af6a55dc3", func := "waypoint/waypointlaw12.DagFollowed", spec := "dagFollowed", unfollowed := true, recurses := true, named := ["math/bits.overflowError"], apart := false }
def DagFollowedSaid : Prop := dagFollowedRow.holds Try.pinned (OpenSpec.ofChange dagFollowedSpec)

/-- ITS FALSE NEIGHBOUR: 'it returns false'. Refute it at one input. -/
def dagFollowedWrong : ChangeSpec := { name := "dagFollowed", fn := fun _ => fun
  | [d1, d2, d3, d4] => { results := [.lit (.bool false)], args := [d1, d2, d3, d4] }
  | _ => none }
def DagFollowedWrongFalsely : Prop := dagFollowedRow.holds Try.pinned (OpenSpec.ofChange dagFollowedWrong)

/-- 'waypointlaw12.DagConserved': WHATEVER THE INPUT: true; the input reads as it did. -/
def dagConservedSpec : ChangeSpec := { name := "dagConserved", fn := fun _ => fun
  | [d1, d2, d3] => { results := [.lit (.bool true)], args := [d1, d2, d3] }
  | _ => none }
def dagConservedRow : OpenClaim := { program := "ytjadcdikckmooaa", sum := "60f2a04a0343b1cb6f96e20836bf1232f373e70c6e6c009753e7cc4af6a55dc3", func := "waypoint/waypointlaw12.DagConserved", spec := "dagConserved", unfollowed := true, recurses := true, named := ["math/bits.overflowError"], apart := false }
def DagConservedSaid : Prop := dagConservedRow.holds Try.pinned (OpenSpec.ofChange dagConservedSpec)

/-- ITS FALSE NEIGHBOUR: 'it returns false'. Refute it at one input. -/
def dagConservedWrong : ChangeSpec := { name := "dagConserved", fn := fun _ => fun
  | [d1, d2, d3] => { results := [.lit (.bool false)], args := [d1, d2, d3] }
  | _ => none }
def DagConservedWrongFalsely : Prop := dagConservedRow.holds Try.pinned (OpenSpec.ofChange dagConservedWrong)

/-- 'waypointlaw12.DagSums': WHATEVER THE INPUT: true; the input reads as it did. -/
def dagSumsSpec : ChangeSpec := { name := "dagSums", fn := fun _ => fun
  | [d1, d2, d3] => { results := [.lit (.bool true)], args := [d1, d2, d3] }
  | _ => none }
def dagSumsRow : OpenClaim := { program := "ytjadcdikckmooaa", sum := "60f2a04a0343b1cb6f96e20836bf1232f373e70c6e6c009753e7cc4af6a55dc3", func := "waypoint/waypointlaw12.DagSums", spec := "dagSums", unfollowed := true, recurses := true, named := ["math/bits.overflowError"], apart := false }
def DagSumsSaid : Prop := dagSumsRow.holds Try.pinned (OpenSpec.ofChange dagSumsSpec)

/-- ITS FALSE NEIGHBOUR: 'it returns false'. Refute it at one input. -/
def dagSumsWrong : ChangeSpec := { name := "dagSums", fn := fun _ => fun
  | [d1, d2, d3] => { results := [.lit (.bool false)], args := [d1, d2, d3] }
  | _ => none }
def DagSumsWrongFalsely : Prop := dagSumsRow.holds Try.pinned (OpenSpec.ofChange dagSumsWrong)

/-- 'waypointlaw12.DagCount': WHATEVER THE INPUT: true; the input reads as it did. -/
def dagCountSpec : ChangeSpec := { name := "dagCount", fn := fun _ => fun
  | [d1, d2, d3] => { results := [.lit (.bool true)], args := [d1, d2, d3] }
  | _ => none }
def dagCountRow : OpenClaim := { program := "ytjadcdikckmooaa", sum := "60f2a04a0343b1cb6f96e20836bf1232f373e70c6e6c009753e7cc4af6a55dc3", func := "waypoint/waypointlaw12.DagCount", spec := "dagCount", unfollowed := true, recurses := true, named := ["math/bits.overflowError"], apart := false }
def DagCountSaid : Prop := dagCountRow.holds Try.pinned (OpenSpec.ofChange dagCountSpec)

/-- ITS FALSE NEIGHBOUR: 'it returns false'. Refute it at one input. -/
def dagCountWrong : ChangeSpec := { name := "dagCount", fn := fun _ => fun
  | [d1, d2, d3] => { results := [.lit (.bool false)], args := [d1, d2, d3] }
  | _ => none }
def DagCountWrongFalsely : Prop := dagCountRow.holds Try.pinned (OpenSpec.ofChange dagCountWrong)

/-- 'waypointlaw12.DagParts': WHATEVER THE INPUT: true; the input reads as it did. -/
def dagPartsSpec : ChangeSpec := { name := "dagParts", fn := fun _ => fun
  | [d1, d2, d3] => { results := [.lit (.bool true)], args := [d1, d2, d3] }
  | _ => none }
def dagPartsRow : OpenClaim := { program := "ytjadcdikckmooaa", sum := "60f2a04a0343b1cb6f96e20836bf1232f373e70c6e6c009753e7cc4af6a55dc3", func := "waypoint/waypointlaw12.DagParts", spec := "dagParts", unfollowed := true, recurses := true, named := ["math/bits.overflowError"], apart := false }
def DagPartsSaid : Prop := dagPartsRow.holds Try.pinned (OpenSpec.ofChange dagPartsSpec)

/-- ITS FALSE NEIGHBOUR: 'it returns false'. Refute it at one input. -/
def dagPartsWrong : ChangeSpec := { name := "dagParts", fn := fun _ => fun
  | [d1, d2, d3] => { results := [.lit (.bool false)], args := [d1, d2, d3] }
  | _ => none }
def DagPartsWrongFalsely : Prop := dagPartsRow.holds Try.pinned (OpenSpec.ofChange dagPartsWrong)

/-- 'waypointlaw12.DagRemains': WHATEVER THE INPUT: true; the input reads as it did. -/
def dagRemainsSpec : ChangeSpec := { name := "dagRemains", fn := fun _ => fun
  | [d1, d2, d3, d4] => { results := [.lit (.bool true)], args := [d1, d2, d3, d4] }
  | _ => none }
def dagRemainsRow : OpenClaim := { program := "ytjadcdikckmooaa", sum := "60f2a04a0343b1cb6f96e20836bf1232f373e70c6e6c009753e7cc4af6a55dc3", func := "waypoint/waypointlaw12.DagRemains", spec := "dagRemains", unfollowed := true, recurses := true, named := ["math/bits.overflowError"], apart := false }
def DagRemainsSaid : Prop := dagRemainsRow.holds Try.pinned (OpenSpec.ofChange dagRemainsSpec)

/-- ITS FALSE NEIGHBOUR: 'it returns false'. Refute it at one input. -/
def dagRemainsWrong : ChangeSpec := { name := "dagRemains", fn := fun _ => fun
  | [d1, d2, d3, d4] => { results := [.lit (.bool false)], args := [d1, d2, d3, d4] }
  | _ => none }
def DagRemainsWrongFalsely : Prop := dagRemainsRow.holds Try.pinned (OpenSpec.ofChange dagRemainsWrong)

/- THE SECOND FORM. 'bulk': how many values and letters a reading holds, each counted each time it is reached (what is shared counts as often as it is met; a slice's spare places count too). A statement '..UptoSaid' is the law's where the arguments, and the package variables that the reading takes, are together of bulk at most 1048576: NARROWER than '..Said'. Prove '..Said' where nothing that the law and all that it calls make is longer than what came in: it says more and counts as full. Else prove '..UptoSaid'. A law counts once. -/
mutual
def uptoBulk {H : Type} : DataW H → Nat
  | .lit (.string bytes) => bytes.length + 1
  | .lit _ => 1
  | .nil => 1
  | .ptr d => uptoBulk d + 1
  | .slice elems spare => uptoBulkAll elems + uptoBulkAll spare + 1
  | .agg parts => uptoBulkAll parts + 1
  | .iface _ d => uptoBulk d + 1
  | .map entries => uptoBulkEntries entries + 1
  | .held _ => 1
def uptoBulkAll {H : Type} : List (DataW H) → Nat
  | [] => 0
  | d :: r => uptoBulk d + uptoBulkAll r
def uptoBulkEntries {H : Type} : List (Lit × DataW H) → Nat
  | [] => 0
  | x :: r => uptoBulkEntry x + uptoBulkEntries r
def uptoBulkEntry {H : Type} : Lit × DataW H → Nat
  | (.string bytes, d) => bytes.length + uptoBulk d + 1
  | (_, d) => uptoBulk d + 1
 end
def uptoSmall : (H : Type) → List (DataW H) → Bool := fun _ ds => decide (uptoBulkAll ds ≤ 1048576)
def OpenSpec.upto (s : _root_.Go.ChangeSpec) : _root_.Go.OpenSpec := { _root_.Go.OpenSpec.ofChange s with cond := some uptoSmall }

/-- 'waypointlaw12.DagNext', WHERE WHAT IT READS IS OF BULK AT MOST 1048576: true; the input reads as it did. -/
def dagNextUptoRow : OpenClaim := { program := "ytjadcdikckmooaa", sum := "60f2a04a0343b1cb6f96e20836bf1232f373e70c6e6c009753e7cc4af6a55dc3", func := "waypoint/waypointlaw12.DagNext", spec := "dagNext", unfollowed := true, recurses := true, named := ["math/bits.overflowError"], apart := false, narrowed := true }
def DagNextUptoSaid : Prop := dagNextUptoRow.holds Try.pinned (OpenSpec.upto dagNextSpec)

/-- 'waypointlaw12.DagOrder', WHERE WHAT IT READS IS OF BULK AT MOST 1048576: true; the input reads as it did. -/
def dagOrderUptoRow : OpenClaim := { program := "ytjadcdikckmooaa", sum := "60f2a04a0343b1cb6f96e20836bf1232f373e70c6e6c009753e7cc4af6a55dc3", func := "waypoint/waypointlaw12.DagOrder", spec := "dagOrder", unfollowed := true, recurses := true, named := ["math/bits.overflowError"], apart := false, narrowed := true }
def DagOrderUptoSaid : Prop := dagOrderUptoRow.holds Try.pinned (OpenSpec.upto dagOrderSpec)

/-- 'waypointlaw12.DagFollowed', WHERE WHAT IT READS IS OF BULK AT MOST 1048576: true; the input reads as it did. -/
def dagFollowedUptoRow : OpenClaim := { program := "ytjadcdikckmooaa", sum := "60f2a04a0343b1cb6f96e20836bf1232f373e70c6e6c009753e7cc4af6a55dc3", func := "waypoint/waypointlaw12.DagFollowed", spec := "dagFollowed", unfollowed := true, recurses := true, named := ["math/bits.overflowError"], apart := false, narrowed := true }
def DagFollowedUptoSaid : Prop := dagFollowedUptoRow.holds Try.pinned (OpenSpec.upto dagFollowedSpec)

/-- 'waypointlaw12.DagConserved', WHERE WHAT IT READS IS OF BULK AT MOST 1048576: true; the input reads as it did. -/
def dagConservedUptoRow : OpenClaim := { program := "ytjadcdikckmooaa", sum := "60f2a04a0343b1cb6f96e20836bf1232f373e70c6e6c009753e7cc4af6a55dc3", func := "waypoint/waypointlaw12.DagConserved", spec := "dagConserved", unfollowed := true, recurses := true, named := ["math/bits.overflowError"], apart := false, narrowed := true }
def DagConservedUptoSaid : Prop := dagConservedUptoRow.holds Try.pinned (OpenSpec.upto dagConservedSpec)

/-- 'waypointlaw12.DagSums', WHERE WHAT IT READS IS OF BULK AT MOST 1048576: true; the input reads as it did. -/
def dagSumsUptoRow : OpenClaim := { program := "ytjadcdikckmooaa", sum := "60f2a04a0343b1cb6f96e20836bf1232f373e70c6e6c009753e7cc4af6a55dc3", func := "waypoint/waypointlaw12.DagSums", spec := "dagSums", unfollowed := true, recurses := true, named := ["math/bits.overflowError"], apart := false, narrowed := true }
def DagSumsUptoSaid : Prop := dagSumsUptoRow.holds Try.pinned (OpenSpec.upto dagSumsSpec)

/-- 'waypointlaw12.DagCount', WHERE WHAT IT READS IS OF BULK AT MOST 1048576: true; the input reads as it did. -/
def dagCountUptoRow : OpenClaim := { program := "ytjadcdikckmooaa", sum := "60f2a04a0343b1cb6f96e20836bf1232f373e70c6e6c009753e7cc4af6a55dc3", func := "waypoint/waypointlaw12.DagCount", spec := "dagCount", unfollowed := true, recurses := true, named := ["math/bits.overflowError"], apart := false, narrowed := true }
def DagCountUptoSaid : Prop := dagCountUptoRow.holds Try.pinned (OpenSpec.upto dagCountSpec)

/-- 'waypointlaw12.DagParts', WHERE WHAT IT READS IS OF BULK AT MOST 1048576: true; the input reads as it did. -/
def dagPartsUptoRow : OpenClaim := { program := "ytjadcdikckmooaa", sum := "60f2a04a0343b1cb6f96e20836bf1232f373e70c6e6c009753e7cc4af6a55dc3", func := "waypoint/waypointlaw12.DagParts", spec := "dagParts", unfollowed := true, recurses := true, named := ["math/bits.overflowError"], apart := false, narrowed := true }
def DagPartsUptoSaid : Prop := dagPartsUptoRow.holds Try.pinned (OpenSpec.upto dagPartsSpec)

/-- 'waypointlaw12.DagRemains', WHERE WHAT IT READS IS OF BULK AT MOST 1048576: true; the input reads as it did. -/
def dagRemainsUptoRow : OpenClaim := { program := "ytjadcdikckmooaa", sum := "60f2a04a0343b1cb6f96e20836bf1232f373e70c6e6c009753e7cc4af6a55dc3", func := "waypoint/waypointlaw12.DagRemains", spec := "dagRemains", unfollowed := true, recurses := true, named := ["math/bits.overflowError"], apart := false, narrowed := true }
def DagRemainsUptoSaid : Prop := dagRemainsUptoRow.holds Try.pinned (OpenSpec.upto dagRemainsSpec)

end Rows
end Go.Proofs.Ytjadcdikckmooaa
