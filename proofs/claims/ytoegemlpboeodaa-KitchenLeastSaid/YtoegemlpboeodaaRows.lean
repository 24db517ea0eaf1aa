/-
  No cell of these rows narrows 'for every input' (looked for: loops, veiled, ifaces, maps, wideKeys, modest, calm, conditions, laid).
  DERIVED. THE GIVEN ROWS OF THIS SEAT. 14 by the template 'for every input the law returns true; each argument reads behind the call as it read before'; 0 by the template 'total and deterministic' (their statements: YtoegemlpboeodaaTotals.lean).
  GIVEN WITH THE SEED: the statements are not yours to turn. If you find one false, say at which input.
  Laid BY PROGRAM, IN A SANDBOX (cutbox-rows.mjs): the forced cells as the released guide's own fill.sh prints them over the translation 87273d1dc5c4cbb1… (all of the seat's roots in one cut). By AI agents, Wed Nov 11 2026. No macro, syntax, notation, axiom, sorry.
-/
import Derived.Test.YtoegemlpboeodaaChecked
import GoSem.Claim
import GoSem.ClaimJoined
import GoSem.ClaimMapViews
import Derived.JoinedTies
import Derived.KernelRfl
namespace Go.Proofs.Ytoegemlpboeodaa
/- THE CELL 'sum', in the pinned program and in every row, IS THE sha256 OF THE DUMP (.gsa) THAT YtoegemlpboeodaaProg.lean LOADS. Nothing in Lean hashes anything: it is a label: what it is worth is what the hold of that sum in a sandbox is worth. -/
noncomputable def Try.pinned : Pinned := { name := "ytoegemlpboeodaa", sum := "87273d1dc5c4cbb1c0b8abeb2126a802dcf23f850f26da8d3dbf96035e429f00", checked := Try.checked }
namespace Rows
def none {H : Type} : Left H := { results := [], args := [] }

/-- 'canteenlaw07.KitchenJoins': WHATEVER THE INPUT: true; the input reads as it did. -/
def kitchenJoinsSpec : ChangeSpec := { name := "kitchenJoins", fn := fun _ => fun
  | [d1, d2, d3] => { results := [.lit (.bool true)], args := [d1, d2, d3] }
  | _ => none }
def kitchenJoinsRow : OpenClaim := { program := "ytoegemlpboeodaa", sum := "87273d1dc5c4cbb1c0b8abeb2126a802dcf23f850f26da8d3dbf96035e429f00", func := "canteen/canteenlaw07.KitchenJoins", spec := "kitchenJoins", unfollowed := true, recurses := true, apart := false }
def KitchenJoinsSaid : Prop := kitchenJoinsRow.holds Try.pinned (OpenSpec.ofChange kitchenJoinsSpec)

/-- ITS FALSE NEIGHBOUR: 'it returns false'. Refute it at one input. -/
def kitchenJoinsWrong : ChangeSpec := { name := "kitchenJoins", fn := fun _ => fun
  | [d1, d2, d3] => { results := [.lit (.bool false)], args := [d1, d2, d3] }
  | _ => none }
def KitchenJoinsWrongFalsely : Prop := kitchenJoinsRow.holds Try.pinned (OpenSpec.ofChange kitchenJoinsWrong)

/-- 'canteenlaw07.KitchenBefore': WHATEVER THE INPUT: true; the input reads as it did. -/
def kitchenBeforeSpec : ChangeSpec := { name := "kitchenBefore", fn := fun _ => fun
  | [d1, d2] => { results := [.lit (.bool true)], args := [d1, d2] }
  | _ => none }
def kitchenBeforeRow : OpenClaim := { program := "ytoegemlpboeodaa", sum := "87273d1dc5c4cbb1c0b8abeb2126a802dcf23f850f26da8d3dbf96035e429f00", func := "canteen/canteenlaw07.KitchenBefore", spec := "kitchenBefore", unfollowed := true, recurses := true, apart := false }
def KitchenBeforeSaid : Prop := kitchenBeforeRow.holds Try.pinned (OpenSpec.ofChange kitchenBeforeSpec)

/-- ITS FALSE NEIGHBOUR: 'it returns false'. Refute it at one input. -/
def kitchenBeforeWrong : ChangeSpec := { name := "kitchenBefore", fn := fun _ => fun
  | [d1, d2] => { results := [.lit (.bool false)], args := [d1, d2] }
  | _ => none }
def KitchenBeforeWrongFalsely : Prop := kitchenBeforeRow.holds Try.pinned (OpenSpec.ofChange kitchenBeforeWrong)

/-- 'canteenlaw07.KitchenHeats': WHATEVER THE INPUT: true; the input reads as it did. -/
def kitchenHeatsSpec : ChangeSpec := { name := "kitchenHeats", fn := fun _ => fun
  | [d] => { results := [.lit (.bool true)], args := [d] }
  | _ => none }
def kitchenHeatsRow : OpenClaim := { program := "ytoegemlpboeodaa", sum := "87273d1dc5c4cbb1c0b8abeb2126a802dcf23f850f26da8d3dbf96035e429f00", func := "canteen/canteenlaw07.KitchenHeats", spec := "kitchenHeats", unfollowed := true, recurses := true, apart := false }
def KitchenHeatsSaid : Prop := kitchenHeatsRow.holds Try.pinned (OpenSpec.ofChange kitchenHeatsSpec)

/-- ITS FALSE NEIGHBOUR: 'it returns false'. Refute it at one input. -/
def kitchenHeatsWrong : ChangeSpec := { name := "kitchenHeats", fn := fun _ => fun
  | [d] => { results := [.lit (.bool false)], args := [d] }
  | _ => none }
def KitchenHeatsWrongFalsely : Prop := kitchenHeatsRow.holds Try.pinned (OpenSpec.ofChange kitchenHeatsWrong)

/-- 'canteenlaw07.KitchenBounds': WHATEVER THE INPUT: true; the input reads as it did. -/
def kitchenBoundsSpec : ChangeSpec := { name := "kitchenBounds", fn := fun _ => fun
  | [d1, d2] => { results := [.lit (.bool true)], args := [d1, d2] }
  | _ => none }
def kitchenBoundsRow : OpenClaim := { program := "ytoegemlpboeodaa", sum := "87273d1dc5c4cbb1c0b8abeb2126a802dcf23f850f26da8d3dbf96035e429f00", func := "canteen/canteenlaw07.KitchenBounds", spec := "kitchenBounds", unfollowed := true, recurses := true, apart := false }
def KitchenBoundsSaid : Prop := kitchenBoundsRow.holds Try.pinned (OpenSpec.ofChange kitchenBoundsSpec)

/-- ITS FALSE NEIGHBOUR: 'it returns false'. Refute it at one input. -/
def kitchenBoundsWrong : ChangeSpec := { name := "kitchenBounds", fn := fun _ => fun
  | [d1, d2] => { results := [.lit (.bool false)], args := [d1, d2] }
  | _ => none }
def KitchenBoundsWrongFalsely : Prop := kitchenBoundsRow.holds Try.pinned (OpenSpec.ofChange kitchenBoundsWrong)

/-- 'canteenlaw07.KitchenSteps': WHATEVER THE INPUT: true; the input reads as it did. -/
def kitchenStepsSpec : ChangeSpec := { name := "kitchenSteps", fn := fun _ => fun
  | [d] => { results := [.lit (.bool true)], args := [d] }
  | _ => none }
def kitchenStepsRow : OpenClaim := { program := "ytoegemlpboeodaa", sum := "87273d1dc5c4cbb1c0b8abeb2126a802dcf23f850f26da8d3dbf96035e429f00", func := "canteen/canteenlaw07.KitchenSteps", spec := "kitchenSteps", unfollowed := true, recurses := true, apart := false }
def KitchenStepsSaid : Prop := kitchenStepsRow.holds Try.pinned (OpenSpec.ofChange kitchenStepsSpec)

/-- ITS FALSE NEIGHBOUR: 'it returns false'. Refute it at one input. -/
def kitchenStepsWrong : ChangeSpec := { name := "kitchenSteps", fn := fun _ => fun
  | [d] => { results := [.lit (.bool false)], args := [d] }
  | _ => none }
def KitchenStepsWrongFalsely : Prop := kitchenStepsRow.holds Try.pinned (OpenSpec.ofChange kitchenStepsWrong)

/-- 'canteenlaw07.KitchenCritical': WHATEVER THE INPUT: true; the input reads as it did. -/
def kitchenCriticalSpec : ChangeSpec := { name := "kitchenCritical", fn := fun _ => fun
  | [d1, d2] => { results := [.lit (.bool true)], args := [d1, d2] }
  | _ => none }
def kitchenCriticalRow : OpenClaim := { program := "ytoegemlpboeodaa", sum := "87273d1dc5c4cbb1c0b8abeb2126a802dcf23f850f26da8d3dbf96035e429f00", func := "canteen/canteenlaw07.KitchenCritical", spec := "kitchenCritical", unfollowed := true, recurses := true, apart := false }
def KitchenCriticalSaid : Prop := kitchenCriticalRow.holds Try.pinned (OpenSpec.ofChange kitchenCriticalSpec)

/-- ITS FALSE NEIGHBOUR: 'it returns false'. Refute it at one input. -/
def kitchenCriticalWrong : ChangeSpec := { name := "kitchenCritical", fn := fun _ => fun
  | [d1, d2] => { results := [.lit (.bool false)], args := [d1, d2] }
  | _ => none }
def KitchenCriticalWrongFalsely : Prop := kitchenCriticalRow.holds Try.pinned (OpenSpec.ofChange kitchenCriticalWrong)

/-- 'canteenlaw07.KitchenHolds': WHATEVER THE INPUT: true; the input reads as it did. -/
def kitchenHoldsSpec : ChangeSpec := { name := "kitchenHolds", fn := fun _ => fun
  | [d] => { results := [.lit (.bool true)], args := [d] }
  | _ => none }
def kitchenHoldsRow : OpenClaim := { program := "ytoegemlpboeodaa", sum := "87273d1dc5c4cbb1c0b8abeb2126a802dcf23f850f26da8d3dbf96035e429f00", func := "canteen/canteenlaw07.KitchenHolds", spec := "kitchenHolds", unfollowed := true, recurses := true, apart := false }
def KitchenHoldsSaid : Prop := kitchenHoldsRow.holds Try.pinned (OpenSpec.ofChange kitchenHoldsSpec)

/-- ITS FALSE NEIGHBOUR: 'it returns false'. Refute it at one input. -/
def kitchenHoldsWrong : ChangeSpec := { name := "kitchenHolds", fn := fun _ => fun
  | [d] => { results := [.lit (.bool false)], args := [d] }
  | _ => none }
def KitchenHoldsWrongFalsely : Prop := kitchenHoldsRow.holds Try.pinned (OpenSpec.ofChange kitchenHoldsWrong)

/-- 'canteenlaw07.KitchenLate': WHATEVER THE INPUT: true; the input reads as it did. -/
def kitchenLateSpec : ChangeSpec := { name := "kitchenLate", fn := fun _ => fun
  | [d1, d2, d3] => { results := [.lit (.bool true)], args := [d1, d2, d3] }
  | _ => none }
def kitchenLateRow : OpenClaim := { program := "ytoegemlpboeodaa", sum := "87273d1dc5c4cbb1c0b8abeb2126a802dcf23f850f26da8d3dbf96035e429f00", func := "canteen/canteenlaw07.KitchenLate", spec := "kitchenLate", unfollowed := true, recurses := true, apart := false }
def KitchenLateSaid : Prop := kitchenLateRow.holds Try.pinned (OpenSpec.ofChange kitchenLateSpec)

/-- ITS FALSE NEIGHBOUR: 'it returns false'. Refute it at one input. -/
def kitchenLateWrong : ChangeSpec := { name := "kitchenLate", fn := fun _ => fun
  | [d1, d2, d3] => { results := [.lit (.bool false)], args := [d1, d2, d3] }
  | _ => none }
def KitchenLateWrongFalsely : Prop := kitchenLateRow.holds Try.pinned (OpenSpec.ofChange kitchenLateWrong)

/-- 'canteenlaw07.KitchenRuns': WHATEVER THE INPUT: true; the input reads as it did. -/
def kitchenRunsSpec : ChangeSpec := { name := "kitchenRuns", fn := fun _ => fun
  | [d1, d2] => { results := [.lit (.bool true)], args := [d1, d2] }
  | _ => none }
def kitchenRunsRow : OpenClaim := { program := "ytoegemlpboeodaa", sum := "87273d1dc5c4cbb1c0b8abeb2126a802dcf23f850f26da8d3dbf96035e429f00", func := "canteen/canteenlaw07.KitchenRuns", spec := "kitchenRuns", unfollowed := true, recurses := true, apart := false }
def KitchenRunsSaid : Prop := kitchenRunsRow.holds Try.pinned (OpenSpec.ofChange kitchenRunsSpec)

/-- ITS FALSE NEIGHBOUR: 'it returns false'. Refute it at one input. -/
def kitchenRunsWrong : ChangeSpec := { name := "kitchenRuns", fn := fun _ => fun
  | [d1, d2] => { results := [.lit (.bool false)], args := [d1, d2] }
  | _ => none }
def KitchenRunsWrongFalsely : Prop := kitchenRunsRow.holds Try.pinned (OpenSpec.ofChange kitchenRunsWrong)

/-- 'canteenlaw07.KitchenMore': WHATEVER THE INPUT: true; the input reads as it did. -/
def kitchenMoreSpec : ChangeSpec := { name := "kitchenMore", fn := fun _ => fun
  | [d1, d2] => { results := [.lit (.bool true)], args := [d1, d2] }
  | _ => none }
def kitchenMoreRow : OpenClaim := { program := "ytoegemlpboeodaa", sum := "87273d1dc5c4cbb1c0b8abeb2126a802dcf23f850f26da8d3dbf96035e429f00", func := "canteen/canteenlaw07.KitchenMore", spec := "kitchenMore", unfollowed := true, recurses := true, apart := false }
def KitchenMoreSaid : Prop := kitchenMoreRow.holds Try.pinned (OpenSpec.ofChange kitchenMoreSpec)

/-- ITS FALSE NEIGHBOUR: 'it returns false'. Refute it at one input. -/
def kitchenMoreWrong : ChangeSpec := { name := "kitchenMore", fn := fun _ => fun
  | [d1, d2] => { results := [.lit (.bool false)], args := [d1, d2] }
  | _ => none }
def KitchenMoreWrongFalsely : Prop := kitchenMoreRow.holds Try.pinned (OpenSpec.ofChange kitchenMoreWrong)

/-- 'canteenlaw07.KitchenLeast': WHATEVER THE INPUT: true; the input reads as it did. -/
def kitchenLeastSpec : ChangeSpec := { name := "kitchenLeast", fn := fun _ => fun
  | [d] => { results := [.lit (.bool true)], args := [d] }
  | _ => none }
def kitchenLeastRow : OpenClaim := { program := "ytoegemlpboeodaa", sum := "87273d1dc5c4cbb1c0b8abeb2126a802dcf23f850f26da8d3dbf96035e429f00", func := "canteen/canteenlaw07.KitchenLeast", spec := "kitchenLeast", unfollowed := true, recurses := true, apart := false }
def KitchenLeastSaid : Prop := kitchenLeastRow.holds Try.pinned (OpenSpec.ofChange kitchenLeastSpec)

/-- ITS FALSE NEIGHBOUR: 'it returns false'. Refute it at one input. -/
def kitchenLeastWrong : ChangeSpec := { name := "kitchenLeast", fn := fun _ => fun
  | [d] => { results := [.lit (.bool false)], args := [d] }
  | _ => none }
def KitchenLeastWrongFalsely : Prop := kitchenLeastRow.holds Try.pinned (OpenSpec.ofChange kitchenLeastWrong)

/-- 'canteenlaw07.KitchenReverses': WHATEVER THE INPUT: true; the input reads as it did. -/
def kitchenReversesSpec : ChangeSpec := { name := "kitchenReverses", fn := fun _ => fun
  | [d1, d2] => { results := [.lit (.bool true)], args := [d1, d2] }
  | _ => none }
def kitchenReversesRow : OpenClaim := { program := "ytoegemlpboeodaa", sum := "87273d1dc5c4cbb1c0b8abeb2126a802dcf23f850f26da8d3dbf96035e429f00", func := "canteen/canteenlaw07.KitchenReverses", spec := "kitchenReverses", unfollowed := true, recurses := true, apart := false }
def KitchenReversesSaid : Prop := kitchenReversesRow.holds Try.pinned (OpenSpec.ofChange kitchenReversesSpec)

/-- ITS FALSE NEIGHBOUR: 'it returns false'. Refute it at one input. -/
def kitchenReversesWrong : ChangeSpec := { name := "kitchenReverses", fn := fun _ => fun
  | [d1, d2] => { results := [.lit (.bool false)], args := [d1, d2] }
  | _ => none }
def KitchenReversesWrongFalsely : Prop := kitchenReversesRow.holds Try.pinned (OpenSpec.ofChange kitchenReversesWrong)

/-- 'canteenlaw07.KitchenSorted': WHATEVER THE INPUT: true; the input reads as it did. -/
def kitchenSortedSpec : ChangeSpec := { name := "kitchenSorted", fn := fun _ => fun
  | [d1, d2] => { results := [.lit (.bool true)], args := [d1, d2] }
  | _ => none }
def kitchenSortedRow : OpenClaim := { program := "ytoegemlpboeodaa", sum := "87273d1dc5c4cbb1c0b8abeb2126a802dcf23f850f26da8d3dbf96035e429f00", func := "canteen/canteenlaw07.KitchenSorted", spec := "kitchenSorted", unfollowed := true, recurses := true, apart := false }
def KitchenSortedSaid : Prop := kitchenSortedRow.holds Try.pinned (OpenSpec.ofChange kitchenSortedSpec)

/-- ITS FALSE NEIGHBOUR: 'it returns false'. Refute it at one input. -/
def kitchenSortedWrong : ChangeSpec := { name := "kitchenSorted", fn := fun _ => fun
  | [d1, d2] => { results := [.lit (.bool false)], args := [d1, d2] }
  | _ => none }
def KitchenSortedWrongFalsely : Prop := kitchenSortedRow.holds Try.pinned (OpenSpec.ofChange kitchenSortedWrong)

/-- 'canteentop.TopKitchen': WHATEVER THE INPUT: true; the input reads as it did. -/
def topKitchenSpec : ChangeSpec := { name := "topKitchen", fn := fun _ => fun
  | [d1, d2] => { results := [.lit (.bool true)], args := [d1, d2] }
  | _ => none }
def topKitchenRow : OpenClaim := { program := "ytoegemlpboeodaa", sum := "87273d1dc5c4cbb1c0b8abeb2126a802dcf23f850f26da8d3dbf96035e429f00", func := "canteen/canteentop.TopKitchen", spec := "topKitchen", unfollowed := true, recurses := true, apart := false }
def TopKitchenSaid : Prop := topKitchenRow.holds Try.pinned (OpenSpec.ofChange topKitchenSpec)

/-- ITS FALSE NEIGHBOUR: 'it returns false'. Refute it at one input. -/
def topKitchenWrong : ChangeSpec := { name := "topKitchen", fn := fun _ => fun
  | [d1, d2] => { results := [.lit (.bool false)], args := [d1, d2] }
  | _ => none }
def TopKitchenWrongFalsely : Prop := topKitchenRow.holds Try.pinned (OpenSpec.ofChange topKitchenWrong)

/- THE SECOND FORM. 'bulk': how many values and letters a reading holds, each counted each time it is reached (what is shared counts as often as it is met; a slice's spare places count too). A statement '..UptoSaid' is the law's where the arguments, and the package variables that the reading takes, are together of bulk at most 1048576: NARROWER than '..Said'. Prove '..Said' where nothing that the law and all that it calls make is longer than what came in: it says more and counts as full. Else prove '..UptoSaid'. A law counts once. -/
mutual
def uptoBulk {H : Type} : DataW H → Nat
  | .lit (.string bytes) => bytes.length + 1
  | .lit _ => 1
  | .nil => 1
  | .ptr d => uptoBulk d + 1
  | .slice elems spare => uptoBulkAll elems + uptoBulkAll spare + 1
  | .agg parts => uptoBulkAll parts + 1
  | .iface _ d => uptoBulk d + 1
  | .map entries => uptoBulkEntries entries + 1
  | .held _ => 1
def uptoBulkAll {H : Type} : List (DataW H) → Nat
  | [] => 0
  | d :: r => uptoBulk d + uptoBulkAll r
def uptoBulkEntries {H : Type} : List (Lit × DataW H) → Nat
  | [] => 0
  | x :: r => uptoBulkEntry x + uptoBulkEntries r
def uptoBulkEntry {H : Type} : Lit × DataW H → Nat
  | (.string bytes, d) => bytes.length + uptoBulk d + 1
  | (_, d) => uptoBulk d + 1
 end
def uptoSmall : (H : Type) → List (DataW H) → Bool := fun _ ds => decide (uptoBulkAll ds ≤ 1048576)
def OpenSpec.upto (s : _root_.Go.ChangeSpec) : _root_.Go.OpenSpec := { _root_.Go.OpenSpec.ofChange s with cond := some uptoSmall }

/-- 'canteenlaw07.KitchenJoins', WHERE WHAT IT READS IS OF BULK AT MOST 1048576: true; the input reads as it did. -/
def kitchenJoinsUptoRow : OpenClaim := { program := "ytoegemlpboeodaa", sum := "87273d1dc5c4cbb1c0b8abeb2126a802dcf23f850f26da8d3dbf96035e429f00", func := "canteen/canteenlaw07.KitchenJoins", spec := "kitchenJoins", unfollowed := true, recurses := true, apart := false, narrowed := true }
def KitchenJoinsUptoSaid : Prop := kitchenJoinsUptoRow.holds Try.pinned (OpenSpec.upto kitchenJoinsSpec)

/-- 'canteenlaw07.KitchenBefore', WHERE WHAT IT READS IS OF BULK AT MOST 1048576: true; the input reads as it did. -/
def kitchenBeforeUptoRow : OpenClaim := { program := "ytoegemlpboeodaa", sum := "87273d1dc5c4cbb1c0b8abeb2126a802dcf23f850f26da8d3dbf96035e429f00", func := "canteen/canteenlaw07.KitchenBefore", spec := "kitchenBefore", unfollowed := true, recurses := true, apart := false, narrowed := true }
def KitchenBeforeUptoSaid : Prop := kitchenBeforeUptoRow.holds Try.pinned (OpenSpec.upto kitchenBeforeSpec)

/-- 'canteenlaw07.KitchenHeats', WHERE WHAT IT READS IS OF BULK AT MOST 1048576: true; the input reads as it did. -/
def kitchenHeatsUptoRow : OpenClaim := { program := "ytoegemlpboeodaa", sum := "87273d1dc5c4cbb1c0b8abeb2126a802dcf23f850f26da8d3dbf96035e429f00", func := "canteen/canteenlaw07.KitchenHeats", spec := "kitchenHeats", unfollowed := true, recurses := true, apart := false, narrowed := true }
def KitchenHeatsUptoSaid : Prop := kitchenHeatsUptoRow.holds Try.pinned (OpenSpec.upto kitchenHeatsSpec)

/-- 'canteenlaw07.KitchenBounds', WHERE WHAT IT READS IS OF BULK AT MOST 1048576: true; the input reads as it did. -/
def kitchenBoundsUptoRow : OpenClaim := { program := "ytoegemlpboeodaa", sum := "87273d1dc5c4cbb1c0b8abeb2126a802dcf23f850f26da8d3dbf96035e429f00", func := "canteen/canteenlaw07.KitchenBounds", spec := "kitchenBounds", unfollowed := true, recurses := true, apart := false, narrowed := true }
def KitchenBoundsUptoSaid : Prop := kitchenBoundsUptoRow.holds Try.pinned (OpenSpec.upto kitchenBoundsSpec)

/-- 'canteenlaw07.KitchenSteps', WHERE WHAT IT READS IS OF BULK AT MOST 1048576: true; the input reads as it did. -/
def kitchenStepsUptoRow : OpenClaim := { program := "ytoegemlpboeodaa", sum := "87273d1dc5c4cbb1c0b8abeb2126a802dcf23f850f26da8d3dbf96035e429f00", func := "canteen/canteenlaw07.KitchenSteps", spec := "kitchenSteps", unfollowed := true, recurses := true, apart := false, narrowed := true }
def KitchenStepsUptoSaid : Prop := kitchenStepsUptoRow.holds Try.pinned (OpenSpec.upto kitchenStepsSpec)

/-- 'canteenlaw07.KitchenCritical', WHERE WHAT IT READS IS OF BULK AT MOST 1048576: true; the input reads as it did. -/
def kitchenCriticalUptoRow : OpenClaim := { program := "ytoegemlpboeodaa", sum := "87273d1dc5c4cbb1c0b8abeb2126a802dcf23f850f26da8d3dbf96035e429f00", func := "canteen/canteenlaw07.KitchenCritical", spec := "kitchenCritical", unfollowed := true, recurses := true, apart := false, narrowed := true }
def KitchenCriticalUptoSaid : Prop := kitchenCriticalUptoRow.holds Try.pinned (OpenSpec.upto kitchenCriticalSpec)

/-- 'canteenlaw07.KitchenHolds', WHERE WHAT IT READS IS OF BULK AT MOST 1048576: true; the input reads as it did. -/
def kitchenHoldsUptoRow : OpenClaim := { program := "ytoegemlpboeodaa", sum := "87273d1dc5c4cbb1c0b8abeb2126a802dcf23f850f26da8d3dbf96035e429f00", func := "canteen/canteenlaw07.KitchenHolds", spec := "kitchenHolds", unfollowed := true, recurses := true, apart := false, narrowed := true }
def KitchenHoldsUptoSaid : Prop := kitchenHoldsUptoRow.holds Try.pinned (OpenSpec.upto kitchenHoldsSpec)

/-- 'canteenlaw07.KitchenLate', WHERE WHAT IT READS IS OF BULK AT MOST 1048576: true; the input reads as it did. -/
def kitchenLateUptoRow : OpenClaim := { program := "ytoegemlpboeodaa", sum := "87273d1dc5c4cbb1c0b8abeb2126a802dcf23f850f26da8d3dbf96035e429f00", func := "canteen/canteenlaw07.KitchenLate", spec := "kitchenLate", unfollowed := true, recurses := true, apart := false, narrowed := true }
def KitchenLateUptoSaid : Prop := kitchenLateUptoRow.holds Try.pinned (OpenSpec.upto kitchenLateSpec)

/-- 'canteenlaw07.KitchenRuns', WHERE WHAT IT READS IS OF BULK AT MOST 1048576: true; the input reads as it did. -/
def kitchenRunsUptoRow : OpenClaim := { program := "ytoegemlpboeodaa", sum := "87273d1dc5c4cbb1c0b8abeb2126a802dcf23f850f26da8d3dbf96035e429f00", func := "canteen/canteenlaw07.KitchenRuns", spec := "kitchenRuns", unfollowed := true, recurses := true, apart := false, narrowed := true }
def KitchenRunsUptoSaid : Prop := kitchenRunsUptoRow.holds Try.pinned (OpenSpec.upto kitchenRunsSpec)

/-- 'canteenlaw07.KitchenMore', WHERE WHAT IT READS IS OF BULK AT MOST 1048576: true; the input reads as it did. -/
def kitchenMoreUptoRow : OpenClaim := { program := "ytoegemlpboeodaa", sum := "87273d1dc5c4cbb1c0b8abeb2126a802dcf23f850f26da8d3dbf96035e429f00", func := "canteen/canteenlaw07.KitchenMore", spec := "kitchenMore", unfollowed := true, recurses := true, apart := false, narrowed := true }
def KitchenMoreUptoSaid : Prop := kitchenMoreUptoRow.holds Try.pinned (OpenSpec.upto kitchenMoreSpec)

/-- 'canteenlaw07.KitchenLeast', WHERE WHAT IT READS IS OF BULK AT MOST 1048576: true; the input reads as it did. -/
def kitchenLeastUptoRow : OpenClaim := { program := "ytoegemlpboeodaa", sum := "87273d1dc5c4cbb1c0b8abeb2126a802dcf23f850f26da8d3dbf96035e429f00", func := "canteen/canteenlaw07.KitchenLeast", spec := "kitchenLeast", unfollowed := true, recurses := true, apart := false, narrowed := true }
def KitchenLeastUptoSaid : Prop := kitchenLeastUptoRow.holds Try.pinned (OpenSpec.upto kitchenLeastSpec)

/-- 'canteenlaw07.KitchenReverses', WHERE WHAT IT READS IS OF BULK AT MOST 1048576: true; the input reads as it did. -/
def kitchenReversesUptoRow : OpenClaim := { program := "ytoegemlpboeodaa", sum := "87273d1dc5c4cbb1c0b8abeb2126a802dcf23f850f26da8d3dbf96035e429f00", func := "canteen/canteenlaw07.KitchenReverses", spec := "kitchenReverses", unfollowed := true, recurses := true, apart := false, narrowed := true }
def KitchenReversesUptoSaid : Prop := kitchenReversesUptoRow.holds Try.pinned (OpenSpec.upto kitchenReversesSpec)

/-- 'canteenlaw07.KitchenSorted', WHERE WHAT IT READS IS OF BULK AT MOST 1048576: true; the input reads as it did. -/
def kitchenSortedUptoRow : OpenClaim := { program := "ytoegemlpboeodaa", sum := "87273d1dc5c4cbb1c0b8abeb2126a802dcf23f850f26da8d3dbf96035e429f00", func := "canteen/canteenlaw07.KitchenSorted", spec := "kitchenSorted", unfollowed := true, recurses := true, apart := false, narrowed := true }
def KitchenSortedUptoSaid : Prop := kitchenSortedUptoRow.holds Try.pinned (OpenSpec.upto kitchenSortedSpec)

/-- 'canteentop.TopKitchen', WHERE WHAT IT READS IS OF BULK AT MOST 1048576: true; the input reads as it did. -/
def topKitchenUptoRow : OpenClaim := { program := "ytoegemlpboeodaa", sum := "87273d1dc5c4cbb1c0b8abeb2126a802dcf23f850f26da8d3dbf96035e429f00", func := "canteen/canteentop.TopKitchen", spec := "topKitchen", unfollowed := true, recurses := true, apart := false, narrowed := true }
def TopKitchenUptoSaid : Prop := topKitchenUptoRow.holds Try.pinned (OpenSpec.upto topKitchenSpec)

end Rows
end Go.Proofs.Ytoegemlpboeodaa
