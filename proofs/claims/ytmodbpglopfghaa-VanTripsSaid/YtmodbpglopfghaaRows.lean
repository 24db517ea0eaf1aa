/-
  No cell of these rows narrows 'for every input' (looked for: loops, veiled, ifaces, maps, wideKeys, modest, calm, conditions, laid).
  DERIVED. THE GIVEN ROWS OF THIS SEAT. 14 by the template 'for every input the law returns true; each argument reads behind the call as it read before'; 0 by the template 'total and deterministic' (their statements: YtmodbpglopfghaaTotals.lean).
  GIVEN WITH THE SEED: the statements are not yours to turn. If you find one false, say at which input.
  Laid BY PROGRAM, IN A SANDBOX (cutbox-rows.mjs): the forced cells as the released guide's own fill.sh prints them over the translation 70df7e34182048af… (all of the seat's roots in one cut). By AI agents, Wed Nov 11 2026. No macro, syntax, notation, axiom, sorry.
-/
import Derived.Test.YtmodbpglopfghaaChecked
import GoSem.Claim
import GoSem.ClaimJoined
import GoSem.ClaimMapViews
import Derived.JoinedTies
import Derived.KernelRfl
namespace Go.Proofs.Ytmodbpglopfghaa
/- THE CELL 'sum', in the pinned program and in every row, IS THE sha256 OF THE DUMP (.gsa) THAT YtmodbpglopfghaaProg.lean LOADS. Nothing in Lean hashes anything: it is a label: what it is worth is what the hold of that sum in a sandbox is worth. -/
noncomputable def Try.pinned : Pinned := { name := "ytmodbpglopfghaa", sum := "70df7e34182048afae4d8abaeb12822e82eab35d2bb2d98db3cbbc7ab8c1e701", checked := Try.checked }
namespace Rows
def none {H : Type} : Left H := { results := [], args := [] }

/-- 'canteenlaw08.VanTrees': WHATEVER THE INPUT: true; the input reads as it did. -/
def vanTreesSpec : ChangeSpec := { name := "vanTrees", fn := fun _ => fun
  | [d] => { results := [.lit (.bool true)], args := [d] }
  | _ => none }
def vanTreesRow : OpenClaim := { program := "ytmodbpglopfghaa", sum := "70df7e34182048afae4d8abaeb12822e82eab35d2bb2d98db3cbbc7ab8c1e701", func := "canteen/canteenlaw08.VanTrees", spec := "vanTrees", unfollowed := true, recurses := true, plainKeys := false, apart := false }
def VanTreesSaid : Prop := vanTreesRow.holds Try.pinned (OpenSpec.ofChange vanTreesSpec)

/-- ITS FALSE NEIGHBOUR: 'it returns false'. Refute it at one input. -/
def vanTreesWrong : ChangeSpec := { name := "vanTrees", fn := fun _ => fun
  | [d] => { results := [.lit (.bool false)], args := [d] }
  | _ => none }
def VanTreesWrongFalsely : Prop := vanTreesRow.holds Try.pinned (OpenSpec.ofChange vanTreesWrong)

/-- 'canteenlaw08.VanBounds': WHATEVER THE INPUT: true; the input reads as it did. -/
def vanBoundsSpec : ChangeSpec := { name := "vanBounds", fn := fun _ => fun
  | [d1, d2] => { results := [.lit (.bool true)], args := [d1, d2] }
  | _ => none }
def vanBoundsRow : OpenClaim := { program := "ytmodbpglopfghaa", sum := "70df7e34182048afae4d8abaeb12822e82eab35d2bb2d98db3cbbc7ab8c1e701", func := "canteen/canteenlaw08.VanBounds", spec := "vanBounds", unfollowed := true, recurses := true, plainKeys := false, apart := false }
def VanBoundsSaid : Prop := vanBoundsRow.holds Try.pinned (OpenSpec.ofChange vanBoundsSpec)

/-- ITS FALSE NEIGHBOUR: 'it returns false'. Refute it at one input. -/
def vanBoundsWrong : ChangeSpec := { name := "vanBounds", fn := fun _ => fun
  | [d1, d2] => { results := [.lit (.bool false)], args := [d1, d2] }
  | _ => none }
def VanBoundsWrongFalsely : Prop := vanBoundsRow.holds Try.pinned (OpenSpec.ofChange vanBoundsWrong)

/-- 'canteenlaw08.VanImproves': WHATEVER THE INPUT: true; the input reads as it did. -/
def vanImprovesSpec : ChangeSpec := { name := "vanImproves", fn := fun _ => fun
  | [d1, d2] => { results := [.lit (.bool true)], args := [d1, d2] }
  | _ => none }
def vanImprovesRow : OpenClaim := { program := "ytmodbpglopfghaa", sum := "70df7e34182048afae4d8abaeb12822e82eab35d2bb2d98db3cbbc7ab8c1e701", func := "canteen/canteenlaw08.VanImproves", spec := "vanImproves", unfollowed := true, recurses := true, plainKeys := false, apart := false }
def VanImprovesSaid : Prop := vanImprovesRow.holds Try.pinned (OpenSpec.ofChange vanImprovesSpec)

/-- ITS FALSE NEIGHBOUR: 'it returns false'. Refute it at one input. -/
def vanImprovesWrong : ChangeSpec := { name := "vanImproves", fn := fun _ => fun
  | [d1, d2] => { results := [.lit (.bool false)], args := [d1, d2] }
  | _ => none }
def VanImprovesWrongFalsely : Prop := vanImprovesRow.holds Try.pinned (OpenSpec.ofChange vanImprovesWrong)

/-- 'canteenlaw08.VanShortest': WHATEVER THE INPUT: true; the input reads as it did. -/
def vanShortestSpec : ChangeSpec := { name := "vanShortest", fn := fun _ => fun
  | [d] => { results := [.lit (.bool true)], args := [d] }
  | _ => none }
def vanShortestRow : OpenClaim := { program := "ytmodbpglopfghaa", sum := "70df7e34182048afae4d8abaeb12822e82eab35d2bb2d98db3cbbc7ab8c1e701", func := "canteen/canteenlaw08.VanShortest", spec := "vanShortest", unfollowed := true, recurses := true, plainKeys := false, apart := false }
def VanShortestSaid : Prop := vanShortestRow.holds Try.pinned (OpenSpec.ofChange vanShortestSpec)

/-- ITS FALSE NEIGHBOUR: 'it returns false'. Refute it at one input. -/
def vanShortestWrong : ChangeSpec := { name := "vanShortest", fn := fun _ => fun
  | [d] => { results := [.lit (.bool false)], args := [d] }
  | _ => none }
def VanShortestWrongFalsely : Prop := vanShortestRow.holds Try.pinned (OpenSpec.ofChange vanShortestWrong)

/-- 'canteenlaw08.VanLengths': WHATEVER THE INPUT: true; the input reads as it did. -/
def vanLengthsSpec : ChangeSpec := { name := "vanLengths", fn := fun _ => fun
  | [d1, d2] => { results := [.lit (.bool true)], args := [d1, d2] }
  | _ => none }
def vanLengthsRow : OpenClaim := { program := "ytmodbpglopfghaa", sum := "70df7e34182048afae4d8abaeb12822e82eab35d2bb2d98db3cbbc7ab8c1e701", func := "canteen/canteenlaw08.VanLengths", spec := "vanLengths", unfollowed := true, recurses := true, plainKeys := false, apart := false }
def VanLengthsSaid : Prop := vanLengthsRow.holds Try.pinned (OpenSpec.ofChange vanLengthsSpec)

/-- ITS FALSE NEIGHBOUR: 'it returns false'. Refute it at one input. -/
def vanLengthsWrong : ChangeSpec := { name := "vanLengths", fn := fun _ => fun
  | [d1, d2] => { results := [.lit (.bool false)], args := [d1, d2] }
  | _ => none }
def VanLengthsWrongFalsely : Prop := vanLengthsRow.holds Try.pinned (OpenSpec.ofChange vanLengthsWrong)

/-- 'canteenlaw08.VanRounds': WHATEVER THE INPUT: true; the input reads as it did. -/
def vanRoundsSpec : ChangeSpec := { name := "vanRounds", fn := fun _ => fun
  | [d1, d2] => { results := [.lit (.bool true)], args := [d1, d2] }
  | _ => none }
def vanRoundsRow : OpenClaim := { program := "ytmodbpglopfghaa", sum := "70df7e34182048afae4d8abaeb12822e82eab35d2bb2d98db3cbbc7ab8c1e701", func := "canteen/canteenlaw08.VanRounds", spec := "vanRounds", unfollowed := true, recurses := true, plainKeys := false, apart := false }
def VanRoundsSaid : Prop := vanRoundsRow.holds Try.pinned (OpenSpec.ofChange vanRoundsSpec)

/-- ITS FALSE NEIGHBOUR: 'it returns false'. Refute it at one input. -/
def vanRoundsWrong : ChangeSpec := { name := "vanRounds", fn := fun _ => fun
  | [d1, d2] => { results := [.lit (.bool false)], args := [d1, d2] }
  | _ => none }
def VanRoundsWrongFalsely : Prop := vanRoundsRow.holds Try.pinned (OpenSpec.ofChange vanRoundsWrong)

/-- 'canteenlaw08.VanLeaves': WHATEVER THE INPUT: true; the input reads as it did. -/
def vanLeavesSpec : ChangeSpec := { name := "vanLeaves", fn := fun _ => fun
  | [d1, d2, d3] => { results := [.lit (.bool true)], args := [d1, d2, d3] }
  | _ => none }
def vanLeavesRow : OpenClaim := { program := "ytmodbpglopfghaa", sum := "70df7e34182048afae4d8abaeb12822e82eab35d2bb2d98db3cbbc7ab8c1e701", func := "canteen/canteenlaw08.VanLeaves", spec := "vanLeaves", unfollowed := true, recurses := true, plainKeys := false, apart := false }
def VanLeavesSaid : Prop := vanLeavesRow.holds Try.pinned (OpenSpec.ofChange vanLeavesSpec)

/-- ITS FALSE NEIGHBOUR: 'it returns false'. Refute it at one input. -/
def vanLeavesWrong : ChangeSpec := { name := "vanLeaves", fn := fun _ => fun
  | [d1, d2, d3] => { results := [.lit (.bool false)], args := [d1, d2, d3] }
  | _ => none }
def VanLeavesWrongFalsely : Prop := vanLeavesRow.holds Try.pinned (OpenSpec.ofChange vanLeavesWrong)

/-- 'canteenlaw08.VanDrives': WHATEVER THE INPUT: true; the input reads as it did. -/
def vanDrivesSpec : ChangeSpec := { name := "vanDrives", fn := fun _ => fun
  | [d1, d2] => { results := [.lit (.bool true)], args := [d1, d2] }
  | _ => none }
def vanDrivesRow : OpenClaim := { program := "ytmodbpglopfghaa", sum := "70df7e34182048afae4d8abaeb12822e82eab35d2bb2d98db3cbbc7ab8c1e701", func := "canteen/canteenlaw08.VanDrives", spec := "vanDrives", unfollowed := true, recurses := true, plainKeys := false, apart := false }
def VanDrivesSaid : Prop := vanDrivesRow.holds Try.pinned (OpenSpec.ofChange vanDrivesSpec)

/-- ITS FALSE NEIGHBOUR: 'it returns false'. Refute it at one input. -/
def vanDrivesWrong : ChangeSpec := { name := "vanDrives", fn := fun _ => fun
  | [d1, d2] => { results := [.lit (.bool false)], args := [d1, d2] }
  | _ => none }
def VanDrivesWrongFalsely : Prop := vanDrivesRow.holds Try.pinned (OpenSpec.ofChange vanDrivesWrong)

/-- 'canteenlaw08.VanEarliest': WHATEVER THE INPUT: true; the input reads as it did. -/
def vanEarliestSpec : ChangeSpec := { name := "vanEarliest", fn := fun _ => fun
  | [d1, d2] => { results := [.lit (.bool true)], args := [d1, d2] }
  | _ => none }
def vanEarliestRow : OpenClaim := { program := "ytmodbpglopfghaa", sum := "70df7e34182048afae4d8abaeb12822e82eab35d2bb2d98db3cbbc7ab8c1e701", func := "canteen/canteenlaw08.VanEarliest", spec := "vanEarliest", unfollowed := true, recurses := true, plainKeys := false, apart := false }
def VanEarliestSaid : Prop := vanEarliestRow.holds Try.pinned (OpenSpec.ofChange vanEarliestSpec)

/-- ITS FALSE NEIGHBOUR: 'it returns false'. Refute it at one input. -/
def vanEarliestWrong : ChangeSpec := { name := "vanEarliest", fn := fun _ => fun
  | [d1, d2] => { results := [.lit (.bool false)], args := [d1, d2] }
  | _ => none }
def VanEarliestWrongFalsely : Prop := vanEarliestRow.holds Try.pinned (OpenSpec.ofChange vanEarliestWrong)

/-- 'canteenlaw08.VanChecks': WHATEVER THE INPUT: true; the input reads as it did. -/
def vanChecksSpec : ChangeSpec := { name := "vanChecks", fn := fun _ => fun
  | [d1, d2] => { results := [.lit (.bool true)], args := [d1, d2] }
  | _ => none }
def vanChecksRow : OpenClaim := { program := "ytmodbpglopfghaa", sum := "70df7e34182048afae4d8abaeb12822e82eab35d2bb2d98db3cbbc7ab8c1e701", func := "canteen/canteenlaw08.VanChecks", spec := "vanChecks", unfollowed := true, recurses := true, plainKeys := false, apart := false }
def VanChecksSaid : Prop := vanChecksRow.holds Try.pinned (OpenSpec.ofChange vanChecksSpec)

/-- ITS FALSE NEIGHBOUR: 'it returns false'. Refute it at one input. -/
def vanChecksWrong : ChangeSpec := { name := "vanChecks", fn := fun _ => fun
  | [d1, d2] => { results := [.lit (.bool false)], args := [d1, d2] }
  | _ => none }
def VanChecksWrongFalsely : Prop := vanChecksRow.holds Try.pinned (OpenSpec.ofChange vanChecksWrong)

/-- 'canteenlaw08.VanDirects': WHATEVER THE INPUT: true; the input reads as it did. -/
def vanDirectsSpec : ChangeSpec := { name := "vanDirects", fn := fun _ => fun
  | [d1, d2] => { results := [.lit (.bool true)], args := [d1, d2] }
  | _ => none }
def vanDirectsRow : OpenClaim := { program := "ytmodbpglopfghaa", sum := "70df7e34182048afae4d8abaeb12822e82eab35d2bb2d98db3cbbc7ab8c1e701", func := "canteen/canteenlaw08.VanDirects", spec := "vanDirects", unfollowed := true, recurses := true, plainKeys := false, apart := false }
def VanDirectsSaid : Prop := vanDirectsRow.holds Try.pinned (OpenSpec.ofChange vanDirectsSpec)

/-- ITS FALSE NEIGHBOUR: 'it returns false'. Refute it at one input. -/
def vanDirectsWrong : ChangeSpec := { name := "vanDirects", fn := fun _ => fun
  | [d1, d2] => { results := [.lit (.bool false)], args := [d1, d2] }
  | _ => none }
def VanDirectsWrongFalsely : Prop := vanDirectsRow.holds Try.pinned (OpenSpec.ofChange vanDirectsWrong)

/-- 'canteenlaw08.VanLatest': WHATEVER THE INPUT: true; the input reads as it did. -/
def vanLatestSpec : ChangeSpec := { name := "vanLatest", fn := fun _ => fun
  | [d1, d2] => { results := [.lit (.bool true)], args := [d1, d2] }
  | _ => none }
def vanLatestRow : OpenClaim := { program := "ytmodbpglopfghaa", sum := "70df7e34182048afae4d8abaeb12822e82eab35d2bb2d98db3cbbc7ab8c1e701", func := "canteen/canteenlaw08.VanLatest", spec := "vanLatest", unfollowed := true, recurses := true, plainKeys := false, apart := false }
def VanLatestSaid : Prop := vanLatestRow.holds Try.pinned (OpenSpec.ofChange vanLatestSpec)

/-- ITS FALSE NEIGHBOUR: 'it returns false'. Refute it at one input. -/
def vanLatestWrong : ChangeSpec := { name := "vanLatest", fn := fun _ => fun
  | [d1, d2] => { results := [.lit (.bool false)], args := [d1, d2] }
  | _ => none }
def VanLatestWrongFalsely : Prop := vanLatestRow.holds Try.pinned (OpenSpec.ofChange vanLatestWrong)

/-- 'canteenlaw08.VanTrips': WHATEVER THE INPUT: true; the input reads as it did. -/
def vanTripsSpec : ChangeSpec := { name := "vanTrips", fn := fun _ => fun
  | [d1, d2, d3] => { results := [.lit (.bool true)], args := [d1, d2, d3] }
  | _ => none }
def vanTripsRow : OpenClaim := { program := "ytmodbpglopfghaa", sum := "70df7e34182048afae4d8abaeb12822e82eab35d2bb2d98db3cbbc7ab8c1e701", func := "canteen/canteenlaw08.VanTrips", spec := "vanTrips", unfollowed := true, recurses := true, plainKeys := false, apart := false }
def VanTripsSaid : Prop := vanTripsRow.holds Try.pinned (OpenSpec.ofChange vanTripsSpec)

/-- ITS FALSE NEIGHBOUR: 'it returns false'. Refute it at one input. -/
def vanTripsWrong : ChangeSpec := { name := "vanTrips", fn := fun _ => fun
  | [d1, d2, d3] => { results := [.lit (.bool false)], args := [d1, d2, d3] }
  | _ => none }
def VanTripsWrongFalsely : Prop := vanTripsRow.holds Try.pinned (OpenSpec.ofChange vanTripsWrong)

/-- 'canteentop.TopTours': WHATEVER THE INPUT: true; the input reads as it did. -/
def topToursSpec : ChangeSpec := { name := "topTours", fn := fun _ => fun
  | [d1, d2, d3] => { results := [.lit (.bool true)], args := [d1, d2, d3] }
  | _ => none }
def topToursRow : OpenClaim := { program := "ytmodbpglopfghaa", sum := "70df7e34182048afae4d8abaeb12822e82eab35d2bb2d98db3cbbc7ab8c1e701", func := "canteen/canteentop.TopTours", spec := "topTours", unfollowed := true, recurses := true, plainKeys := false, apart := false }
def TopToursSaid : Prop := topToursRow.holds Try.pinned (OpenSpec.ofChange topToursSpec)

/-- ITS FALSE NEIGHBOUR: 'it returns false'. Refute it at one input. -/
def topToursWrong : ChangeSpec := { name := "topTours", fn := fun _ => fun
  | [d1, d2, d3] => { results := [.lit (.bool false)], args := [d1, d2, d3] }
  | _ => none }
def TopToursWrongFalsely : Prop := topToursRow.holds Try.pinned (OpenSpec.ofChange topToursWrong)

/- THE SECOND FORM. 'bulk': how many values and letters a reading holds, each counted each time it is reached (what is shared counts as often as it is met; a slice's spare places count too). A statement '..UptoSaid' is the law's where the arguments, and the package variables that the reading takes, are together of bulk at most 1048576: NARROWER than '..Said'. Prove '..Said' where nothing that the law and all that it calls make is longer than what came in: it says more and counts as full. Else prove '..UptoSaid'. A law counts once. -/
mutual
def uptoBulk {H : Type} : DataW H → Nat
  | .lit (.string bytes) => bytes.length + 1
  | .lit _ => 1
  | .nil => 1
  | .ptr d => uptoBulk d + 1
  | .slice elems spare => uptoBulkAll elems + uptoBulkAll spare + 1
  | .agg parts => uptoBulkAll parts + 1
  | .iface _ d => uptoBulk d + 1
  | .map entries => uptoBulkEntries entries + 1
  | .held _ => 1
def uptoBulkAll {H : Type} : List (DataW H) → Nat
  | [] => 0
  | d :: r => uptoBulk d + uptoBulkAll r
def uptoBulkEntries {H : Type} : List (Lit × DataW H) → Nat
  | [] => 0
  | x :: r => uptoBulkEntry x + uptoBulkEntries r
def uptoBulkEntry {H : Type} : Lit × DataW H → Nat
  | (.string bytes, d) => bytes.length + uptoBulk d + 1
  | (_, d) => uptoBulk d + 1
 end
def uptoSmall : (H : Type) → List (DataW H) → Bool := fun _ ds => decide (uptoBulkAll ds ≤ 1048576)
def OpenSpec.upto (s : _root_.Go.ChangeSpec) : _root_.Go.OpenSpec := { _root_.Go.OpenSpec.ofChange s with cond := some uptoSmall }

/-- 'canteenlaw08.VanTrees', WHERE WHAT IT READS IS OF BULK AT MOST 1048576: true; the input reads as it did. -/
def vanTreesUptoRow : OpenClaim := { program := "ytmodbpglopfghaa", sum := "70df7e34182048afae4d8abaeb12822e82eab35d2bb2d98db3cbbc7ab8c1e701", func := "canteen/canteenlaw08.VanTrees", spec := "vanTrees", unfollowed := true, recurses := true, plainKeys := false, apart := false, narrowed := true }
def VanTreesUptoSaid : Prop := vanTreesUptoRow.holds Try.pinned (OpenSpec.upto vanTreesSpec)

/-- 'canteenlaw08.VanBounds', WHERE WHAT IT READS IS OF BULK AT MOST 1048576: true; the input reads as it did. -/
def vanBoundsUptoRow : OpenClaim := { program := "ytmodbpglopfghaa", sum := "70df7e34182048afae4d8abaeb12822e82eab35d2bb2d98db3cbbc7ab8c1e701", func := "canteen/canteenlaw08.VanBounds", spec := "vanBounds", unfollowed := true, recurses := true, plainKeys := false, apart := false, narrowed := true }
def VanBoundsUptoSaid : Prop := vanBoundsUptoRow.holds Try.pinned (OpenSpec.upto vanBoundsSpec)

/-- 'canteenlaw08.VanImproves', WHERE WHAT IT READS IS OF BULK AT MOST 1048576: true; the input reads as it did. -/
def vanImprovesUptoRow : OpenClaim := { program := "ytmodbpglopfghaa", sum := "70df7e34182048afae4d8abaeb12822e82eab35d2bb2d98db3cbbc7ab8c1e701", func := "canteen/canteenlaw08.VanImproves", spec := "vanImproves", unfollowed := true, recurses := true, plainKeys := false, apart := false, narrowed := true }
def VanImprovesUptoSaid : Prop := vanImprovesUptoRow.holds Try.pinned (OpenSpec.upto vanImprovesSpec)

/-- 'canteenlaw08.VanShortest', WHERE WHAT IT READS IS OF BULK AT MOST 1048576: true; the input reads as it did. -/
def vanShortestUptoRow : OpenClaim := { program := "ytmodbpglopfghaa", sum := "70df7e34182048afae4d8abaeb12822e82eab35d2bb2d98db3cbbc7ab8c1e701", func := "canteen/canteenlaw08.VanShortest", spec := "vanShortest", unfollowed := true, recurses := true, plainKeys := false, apart := false, narrowed := true }
def VanShortestUptoSaid : Prop := vanShortestUptoRow.holds Try.pinned (OpenSpec.upto vanShortestSpec)

/-- 'canteenlaw08.VanLengths', WHERE WHAT IT READS IS OF BULK AT MOST 1048576: true; the input reads as it did. -/
def vanLengthsUptoRow : OpenClaim := { program := "ytmodbpglopfghaa", sum := "70df7e34182048afae4d8abaeb12822e82eab35d2bb2d98db3cbbc7ab8c1e701", func := "canteen/canteenlaw08.VanLengths", spec := "vanLengths", unfollowed := true, recurses := true, plainKeys := false, apart := false, narrowed := true }
def VanLengthsUptoSaid : Prop := vanLengthsUptoRow.holds Try.pinned (OpenSpec.upto vanLengthsSpec)

/-- 'canteenlaw08.VanRounds', WHERE WHAT IT READS IS OF BULK AT MOST 1048576: true; the input reads as it did. -/
def vanRoundsUptoRow : OpenClaim := { program := "ytmodbpglopfghaa", sum := "70df7e34182048afae4d8abaeb12822e82eab35d2bb2d98db3cbbc7ab8c1e701", func := "canteen/canteenlaw08.VanRounds", spec := "vanRounds", unfollowed := true, recurses := true, plainKeys := false, apart := false, narrowed := true }
def VanRoundsUptoSaid : Prop := vanRoundsUptoRow.holds Try.pinned (OpenSpec.upto vanRoundsSpec)

/-- 'canteenlaw08.VanLeaves', WHERE WHAT IT READS IS OF BULK AT MOST 1048576: true; the input reads as it did. -/
def vanLeavesUptoRow : OpenClaim := { program := "ytmodbpglopfghaa", sum := "70df7e34182048afae4d8abaeb12822e82eab35d2bb2d98db3cbbc7ab8c1e701", func := "canteen/canteenlaw08.VanLeaves", spec := "vanLeaves", unfollowed := true, recurses := true, plainKeys := false, apart := false, narrowed := true }
def VanLeavesUptoSaid : Prop := vanLeavesUptoRow.holds Try.pinned (OpenSpec.upto vanLeavesSpec)

/-- 'canteenlaw08.VanDrives', WHERE WHAT IT READS IS OF BULK AT MOST 1048576: true; the input reads as it did. -/
def vanDrivesUptoRow : OpenClaim := { program := "ytmodbpglopfghaa", sum := "70df7e34182048afae4d8abaeb12822e82eab35d2bb2d98db3cbbc7ab8c1e701", func := "canteen/canteenlaw08.VanDrives", spec := "vanDrives", unfollowed := true, recurses := true, plainKeys := false, apart := false, narrowed := true }
def VanDrivesUptoSaid : Prop := vanDrivesUptoRow.holds Try.pinned (OpenSpec.upto vanDrivesSpec)

/-- 'canteenlaw08.VanEarliest', WHERE WHAT IT READS IS OF BULK AT MOST 1048576: true; the input reads as it did. -/
def vanEarliestUptoRow : OpenClaim := { program := "ytmodbpglopfghaa", sum := "70df7e34182048afae4d8abaeb12822e82eab35d2bb2d98db3cbbc7ab8c1e701", func := "canteen/canteenlaw08.VanEarliest", spec := "vanEarliest", unfollowed := true, recurses := true, plainKeys := false, apart := false, narrowed := true }
def VanEarliestUptoSaid : Prop := vanEarliestUptoRow.holds Try.pinned (OpenSpec.upto vanEarliestSpec)

/-- 'canteenlaw08.VanChecks', WHERE WHAT IT READS IS OF BULK AT MOST 1048576: true; the input reads as it did. -/
def vanChecksUptoRow : OpenClaim := { program := "ytmodbpglopfghaa", sum := "70df7e34182048afae4d8abaeb12822e82eab35d2bb2d98db3cbbc7ab8c1e701", func := "canteen/canteenlaw08.VanChecks", spec := "vanChecks", unfollowed := true, recurses := true, plainKeys := false, apart := false, narrowed := true }
def VanChecksUptoSaid : Prop := vanChecksUptoRow.holds Try.pinned (OpenSpec.upto vanChecksSpec)

/-- 'canteenlaw08.VanDirects', WHERE WHAT IT READS IS OF BULK AT MOST 1048576: true; the input reads as it did. -/
def vanDirectsUptoRow : OpenClaim := { program := "ytmodbpglopfghaa", sum := "70df7e34182048afae4d8abaeb12822e82eab35d2bb2d98db3cbbc7ab8c1e701", func := "canteen/canteenlaw08.VanDirects", spec := "vanDirects", unfollowed := true, recurses := true, plainKeys := false, apart := false, narrowed := true }
def VanDirectsUptoSaid : Prop := vanDirectsUptoRow.holds Try.pinned (OpenSpec.upto vanDirectsSpec)

/-- 'canteenlaw08.VanLatest', WHERE WHAT IT READS IS OF BULK AT MOST 1048576: true; the input reads as it did. -/
def vanLatestUptoRow : OpenClaim := { program := "ytmodbpglopfghaa", sum := "70df7e34182048afae4d8abaeb12822e82eab35d2bb2d98db3cbbc7ab8c1e701", func := "canteen/canteenlaw08.VanLatest", spec := "vanLatest", unfollowed := true, recurses := true, plainKeys := false, apart := false, narrowed := true }
def VanLatestUptoSaid : Prop := vanLatestUptoRow.holds Try.pinned (OpenSpec.upto vanLatestSpec)

/-- 'canteenlaw08.VanTrips', WHERE WHAT IT READS IS OF BULK AT MOST 1048576: true; the input reads as it did. -/
def vanTripsUptoRow : OpenClaim := { program := "ytmodbpglopfghaa", sum := "70df7e34182048afae4d8abaeb12822e82eab35d2bb2d98db3cbbc7ab8c1e701", func := "canteen/canteenlaw08.VanTrips", spec := "vanTrips", unfollowed := true, recurses := true, plainKeys := false, apart := false, narrowed := true }
def VanTripsUptoSaid : Prop := vanTripsUptoRow.holds Try.pinned (OpenSpec.upto vanTripsSpec)

/-- 'canteentop.TopTours', WHERE WHAT IT READS IS OF BULK AT MOST 1048576: true; the input reads as it did. -/
def topToursUptoRow : OpenClaim := { program := "ytmodbpglopfghaa", sum := "70df7e34182048afae4d8abaeb12822e82eab35d2bb2d98db3cbbc7ab8c1e701", func := "canteen/canteentop.TopTours", spec := "topTours", unfollowed := true, recurses := true, plainKeys := false, apart := false, narrowed := true }
def TopToursUptoSaid : Prop := topToursUptoRow.holds Try.pinned (OpenSpec.upto topToursSpec)

end Rows
end Go.Proofs.Ytmodbpglopfghaa
