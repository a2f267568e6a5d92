/-
  No cell of these rows narrows 'for every input' (looked for: loops, veiled, ifaces, maps, wideKeys, modest, calm, conditions, laid).
  DERIVED. THE GIVEN ROWS OF THIS SEAT. 9 by the template 'for every input the law returns true; each argument reads behind the call as it read before'; 0 by the template 'total and deterministic' (their statements: YtmonbigaldamfaaTotals.lean).
  GIVEN WITH THE SEED: the statements are not yours to turn. If you find one false, say at which input.
  Laid BY PROGRAM, IN A SANDBOX (cutbox-rows.mjs): the forced cells as the released guide's own fill.sh prints them over the translation 0cf9ed5682ae8d5e… (all of the seat's roots in one cut). By AI agents, Wed Nov 11 2026. No macro, syntax, notation, axiom, sorry.
-/
import Derived.Test.YtmonbigaldamfaaChecked
import GoSem.Claim
import GoSem.ClaimJoined
import GoSem.ClaimMapViews
import Derived.JoinedTies
import Derived.KernelRfl
namespace Go.Proofs.Ytmonbigaldamfaa
/- THE CELL 'sum', in the pinned program and in every row, IS THE sha256 OF THE DUMP (.gsa) THAT YtmonbigaldamfaaProg.lean LOADS. Nothing in Lean hashes anything: it is a label: what it is worth is what the hold of that sum in a sandbox is worth. -/
noncomputable def Try.pinned : Pinned := { name := "ytmonbigaldamfaa", sum := "0cf9ed5682ae8d5e2d4dbf5362cf4026957ccf546a4de5591909de400e77c476", checked := Try.checked }
namespace Rows
def none {H : Type} : Left H := { results := [], args := [] }

/-- 'osmosislaw13.ViewAgrees': WHATEVER THE INPUT: true; the input reads as it did. -/
def viewAgreesSpec : ChangeSpec := { name := "viewAgrees", fn := fun _ => fun
  | [d1, d2] => { results := [.lit (.bool true)], args := [d1, d2] }
  | _ => none }
def viewAgreesRow : OpenClaim := { program := "ytmonbigaldamfaa", sum := "0cf9ed5682ae8d5e2d4dbf5362cf4026957ccf546a4de5591909de400e77c476", func := "osmosis/osmosislaw13.ViewAgrees", spec := "viewAgrees", apart := false }
def ViewAgreesSaid : Prop := viewAgreesRow.holds Try.pinned (OpenSpec.ofChange viewAgreesSpec)

/-- ITS FALSE NEIGHBOUR: 'it returns false'. Refute it at one input. -/
def viewAgreesWrong : ChangeSpec := { name := "viewAgrees", fn := fun _ => fun
  | [d1, d2] => { results := [.lit (.bool false)], args := [d1, d2] }
  | _ => none }
def ViewAgreesWrongFalsely : Prop := viewAgreesRow.holds Try.pinned (OpenSpec.ofChange viewAgreesWrong)

/-- 'osmosislaw13.ViewApart': WHATEVER THE INPUT: true; the input reads as it did. -/
def viewApartSpec : ChangeSpec := { name := "viewApart", fn := fun _ => fun
  | [d] => { results := [.lit (.bool true)], args := [d] }
  | _ => none }
def viewApartRow : OpenClaim := { program := "ytmonbigaldamfaa", sum := "0cf9ed5682ae8d5e2d4dbf5362cf4026957ccf546a4de5591909de400e77c476", func := "osmosis/osmosislaw13.ViewApart", spec := "viewApart", apart := false }
def ViewApartSaid : Prop := viewApartRow.holds Try.pinned (OpenSpec.ofChange viewApartSpec)

/-- ITS FALSE NEIGHBOUR: 'it returns false'. Refute it at one input. -/
def viewApartWrong : ChangeSpec := { name := "viewApart", fn := fun _ => fun
  | [d] => { results := [.lit (.bool false)], args := [d] }
  | _ => none }
def ViewApartWrongFalsely : Prop := viewApartRow.holds Try.pinned (OpenSpec.ofChange viewApartWrong)

/-- 'osmosislaw14.RingBoth': WHATEVER THE INPUT: true; the input reads as it did. -/
def ringBothSpec : ChangeSpec := { name := "ringBoth", fn := fun _ => fun
  | [d1, d2] => { results := [.lit (.bool true)], args := [d1, d2] }
  | _ => none }
def ringBothRow : OpenClaim := { program := "ytmonbigaldamfaa", sum := "0cf9ed5682ae8d5e2d4dbf5362cf4026957ccf546a4de5591909de400e77c476", func := "osmosis/osmosislaw14.RingBoth", spec := "ringBoth", unfollowed := true, recurses := true, apart := false }
def RingBothSaid : Prop := ringBothRow.holds Try.pinned (OpenSpec.ofChange ringBothSpec)

/-- ITS FALSE NEIGHBOUR: 'it returns false'. Refute it at one input. -/
def ringBothWrong : ChangeSpec := { name := "ringBoth", fn := fun _ => fun
  | [d1, d2] => { results := [.lit (.bool false)], args := [d1, d2] }
  | _ => none }
def RingBothWrongFalsely : Prop := ringBothRow.holds Try.pinned (OpenSpec.ofChange ringBothWrong)

/-- 'osmosislaw14.RingTells': WHATEVER THE INPUT: true; the input reads as it did. -/
def ringTellsSpec : ChangeSpec := { name := "ringTells", fn := fun _ => fun
  | [d1, d2, d3, d4] => { results := [.lit (.bool true)], args := [d1, d2, d3, d4] }
  | _ => none }
def ringTellsRow : OpenClaim := { program := "ytmonbigaldamfaa", sum := "0cf9ed5682ae8d5e2d4dbf5362cf4026957ccf546a4de5591909de400e77c476", func := "osmosis/osmosislaw14.RingTells", spec := "ringTells", unfollowed := true, recurses := true, apart := false }
def RingTellsSaid : Prop := ringTellsRow.holds Try.pinned (OpenSpec.ofChange ringTellsSpec)

/-- ITS FALSE NEIGHBOUR: 'it returns false'. Refute it at one input. -/
def ringTellsWrong : ChangeSpec := { name := "ringTells", fn := fun _ => fun
  | [d1, d2, d3, d4] => { results := [.lit (.bool false)], args := [d1, d2, d3, d4] }
  | _ => none }
def RingTellsWrongFalsely : Prop := ringTellsRow.holds Try.pinned (OpenSpec.ofChange ringTellsWrong)

/-- 'osmosislaw14.RingTargets': WHATEVER THE INPUT: true; the input reads as it did. -/
def ringTargetsSpec : ChangeSpec := { name := "ringTargets", fn := fun _ => fun
  | [d1, d2] => { results := [.lit (.bool true)], args := [d1, d2] }
  | _ => none }
def ringTargetsRow : OpenClaim := { program := "ytmonbigaldamfaa", sum := "0cf9ed5682ae8d5e2d4dbf5362cf4026957ccf546a4de5591909de400e77c476", func := "osmosis/osmosislaw14.RingTargets", spec := "ringTargets", unfollowed := true, recurses := true, apart := false }
def RingTargetsSaid : Prop := ringTargetsRow.holds Try.pinned (OpenSpec.ofChange ringTargetsSpec)

/-- ITS FALSE NEIGHBOUR: 'it returns false'. Refute it at one input. -/
def ringTargetsWrong : ChangeSpec := { name := "ringTargets", fn := fun _ => fun
  | [d1, d2] => { results := [.lit (.bool false)], args := [d1, d2] }
  | _ => none }
def RingTargetsWrongFalsely : Prop := ringTargetsRow.holds Try.pinned (OpenSpec.ofChange ringTargetsWrong)

/-- 'osmosislaw14.RingStill': WHATEVER THE INPUT: true; the input reads as it did. -/
def ringStillSpec : ChangeSpec := { name := "ringStill", fn := fun _ => fun
  | [d1, d2, d3, d4, d5] => { results := [.lit (.bool true)], args := [d1, d2, d3, d4, d5] }
  | _ => none }
def ringStillRow : OpenClaim := { program := "ytmonbigaldamfaa", sum := "0cf9ed5682ae8d5e2d4dbf5362cf4026957ccf546a4de5591909de400e77c476", func := "osmosis/osmosislaw14.RingStill", spec := "ringStill", unfollowed := true, recurses := true, apart := false }
def RingStillSaid : Prop := ringStillRow.holds Try.pinned (OpenSpec.ofChange ringStillSpec)

/-- ITS FALSE NEIGHBOUR: 'it returns false'. Refute it at one input. -/
def ringStillWrong : ChangeSpec := { name := "ringStill", fn := fun _ => fun
  | [d1, d2, d3, d4, d5] => { results := [.lit (.bool false)], args := [d1, d2, d3, d4, d5] }
  | _ => none }
def RingStillWrongFalsely : Prop := ringStillRow.holds Try.pinned (OpenSpec.ofChange ringStillWrong)

/-- 'osmosislaw15.DonorTells': WHATEVER THE INPUT: true; the input reads as it did. -/
def donorTellsSpec : ChangeSpec := { name := "donorTells", fn := fun _ => fun
  | [d1, d2, d3, d4, d5, d6, d7, d8] => { results := [.lit (.bool true)], args := [d1, d2, d3, d4, d5, d6, d7, d8] }
  | _ => none }
def donorTellsRow : OpenClaim := { program := "ytmonbigaldamfaa", sum := "0cf9ed5682ae8d5e2d4dbf5362cf4026957ccf546a4de5591909de400e77c476", func := "osmosis/osmosislaw15.DonorTells", spec := "donorTells", unfollowed := true, recurses := true, apart := false }
def DonorTellsSaid : Prop := donorTellsRow.holds Try.pinned (OpenSpec.ofChange donorTellsSpec)

/-- ITS FALSE NEIGHBOUR: 'it returns false'. Refute it at one input. -/
def donorTellsWrong : ChangeSpec := { name := "donorTells", fn := fun _ => fun
  | [d1, d2, d3, d4, d5, d6, d7, d8] => { results := [.lit (.bool false)], args := [d1, d2, d3, d4, d5, d6, d7, d8] }
  | _ => none }
def DonorTellsWrongFalsely : Prop := donorTellsRow.holds Try.pinned (OpenSpec.ofChange donorTellsWrong)

/-- 'osmosislaw15.DonorBest': WHATEVER THE INPUT: true; the input reads as it did. -/
def donorBestSpec : ChangeSpec := { name := "donorBest", fn := fun _ => fun
  | [d1, d2, d3] => { results := [.lit (.bool true)], args := [d1, d2, d3] }
  | _ => none }
def donorBestRow : OpenClaim := { program := "ytmonbigaldamfaa", sum := "0cf9ed5682ae8d5e2d4dbf5362cf4026957ccf546a4de5591909de400e77c476", func := "osmosis/osmosislaw15.DonorBest", spec := "donorBest", unfollowed := true, recurses := true, apart := false }
def DonorBestSaid : Prop := donorBestRow.holds Try.pinned (OpenSpec.ofChange donorBestSpec)

/-- ITS FALSE NEIGHBOUR: 'it returns false'. Refute it at one input. -/
def donorBestWrong : ChangeSpec := { name := "donorBest", fn := fun _ => fun
  | [d1, d2, d3] => { results := [.lit (.bool false)], args := [d1, d2, d3] }
  | _ => none }
def DonorBestWrongFalsely : Prop := donorBestRow.holds Try.pinned (OpenSpec.ofChange donorBestWrong)

/-- 'osmosislaw15.DonorEnds': WHATEVER THE INPUT: true; the input reads as it did. -/
def donorEndsSpec : ChangeSpec := { name := "donorEnds", fn := fun _ => fun
  | [d1, d2, d3, d4] => { results := [.lit (.bool true)], args := [d1, d2, d3, d4] }
  | _ => none }
def donorEndsRow : OpenClaim := { program := "ytmonbigaldamfaa", sum := "0cf9ed5682ae8d5e2d4dbf5362cf4026957ccf546a4de5591909de400e77c476", func := "osmosis/osmosislaw15.DonorEnds", spec := "donorEnds", unfollowed := true, recurses := true, apart := false }
def DonorEndsSaid : Prop := donorEndsRow.holds Try.pinned (OpenSpec.ofChange donorEndsSpec)

/-- ITS FALSE NEIGHBOUR: 'it returns false'. Refute it at one input. -/
def donorEndsWrong : ChangeSpec := { name := "donorEnds", fn := fun _ => fun
  | [d1, d2, d3, d4] => { results := [.lit (.bool false)], args := [d1, d2, d3, d4] }
  | _ => none }
def DonorEndsWrongFalsely : Prop := donorEndsRow.holds Try.pinned (OpenSpec.ofChange donorEndsWrong)

/- THE SECOND FORM. 'bulk': how many values and letters a reading holds, each counted each time it is reached (what is shared counts as often as it is met; a slice's spare places count too). A statement '..UptoSaid' is the law's where the arguments, and the package variables that the reading takes, are together of bulk at most 1048576: NARROWER than '..Said'. Prove '..Said' where nothing that the law and all that it calls make is longer than what came in: it says more and counts as full. Else prove '..UptoSaid'. A law counts once. -/
mutual
def uptoBulk {H : Type} : DataW H → Nat
  | .lit (.string bytes) => bytes.length + 1
  | .lit _ => 1
  | .nil => 1
  | .ptr d => uptoBulk d + 1
  | .slice elems spare => uptoBulkAll elems + uptoBulkAll spare + 1
  | .agg parts => uptoBulkAll parts + 1
  | .iface _ d => uptoBulk d + 1
  | .map entries => uptoBulkEntries entries + 1
  | .held _ => 1
def uptoBulkAll {H : Type} : List (DataW H) → Nat
  | [] => 0
  | d :: r => uptoBulk d + uptoBulkAll r
def uptoBulkEntries {H : Type} : List (Lit × DataW H) → Nat
  | [] => 0
  | x :: r => uptoBulkEntry x + uptoBulkEntries r
def uptoBulkEntry {H : Type} : Lit × DataW H → Nat
  | (.string bytes, d) => bytes.length + uptoBulk d + 1
  | (_, d) => uptoBulk d + 1
 end
def uptoSmall : (H : Type) → List (DataW H) → Bool := fun _ ds => decide (uptoBulkAll ds ≤ 1048576)
def OpenSpec.upto (s : _root_.Go.ChangeSpec) : _root_.Go.OpenSpec := { _root_.Go.OpenSpec.ofChange s with cond := some uptoSmall }

/-- 'osmosislaw13.ViewAgrees', WHERE WHAT IT READS IS OF BULK AT MOST 1048576: true; the input reads as it did. -/
def viewAgreesUptoRow : OpenClaim := { program := "ytmonbigaldamfaa", sum := "0cf9ed5682ae8d5e2d4dbf5362cf4026957ccf546a4de5591909de400e77c476", func := "osmosis/osmosislaw13.ViewAgrees", spec := "viewAgrees", apart := false, narrowed := true }
def ViewAgreesUptoSaid : Prop := viewAgreesUptoRow.holds Try.pinned (OpenSpec.upto viewAgreesSpec)

/-- 'osmosislaw13.ViewApart', WHERE WHAT IT READS IS OF BULK AT MOST 1048576: true; the input reads as it did. -/
def viewApartUptoRow : OpenClaim := { program := "ytmonbigaldamfaa", sum := "0cf9ed5682ae8d5e2d4dbf5362cf4026957ccf546a4de5591909de400e77c476", func := "osmosis/osmosislaw13.ViewApart", spec := "viewApart", apart := false, narrowed := true }
def ViewApartUptoSaid : Prop := viewApartUptoRow.holds Try.pinned (OpenSpec.upto viewApartSpec)

/-- 'osmosislaw14.RingBoth', WHERE WHAT IT READS IS OF BULK AT MOST 1048576: true; the input reads as it did. -/
def ringBothUptoRow : OpenClaim := { program := "ytmonbigaldamfaa", sum := "0cf9ed5682ae8d5e2d4dbf5362cf4026957ccf546a4de5591909de400e77c476", func := "osmosis/osmosislaw14.RingBoth", spec := "ringBoth", unfollowed := true, recurses := true, apart := false, narrowed := true }
def RingBothUptoSaid : Prop := ringBothUptoRow.holds Try.pinned (OpenSpec.upto ringBothSpec)

/-- 'osmosislaw14.RingTells', WHERE WHAT IT READS IS OF BULK AT MOST 1048576: true; the input reads as it did. -/
def ringTellsUptoRow : OpenClaim := { program := "ytmonbigaldamfaa", sum := "0cf9ed5682ae8d5e2d4dbf5362cf4026957ccf546a4de5591909de400e77c476", func := "osmosis/osmosislaw14.RingTells", spec := "ringTells", unfollowed := true, recurses := true, apart := false, narrowed := true }
def RingTellsUptoSaid : Prop := ringTellsUptoRow.holds Try.pinned (OpenSpec.upto ringTellsSpec)

/-- 'osmosislaw14.RingTargets', WHERE WHAT IT READS IS OF BULK AT MOST 1048576: true; the input reads as it did. -/
def ringTargetsUptoRow : OpenClaim := { program := "ytmonbigaldamfaa", sum := "0cf9ed5682ae8d5e2d4dbf5362cf4026957ccf546a4de5591909de400e77c476", func := "osmosis/osmosislaw14.RingTargets", spec := "ringTargets", unfollowed := true, recurses := true, apart := false, narrowed := true }
def RingTargetsUptoSaid : Prop := ringTargetsUptoRow.holds Try.pinned (OpenSpec.upto ringTargetsSpec)

/-- 'osmosislaw14.RingStill', WHERE WHAT IT READS IS OF BULK AT MOST 1048576: true; the input reads as it did. -/
def ringStillUptoRow : OpenClaim := { program := "ytmonbigaldamfaa", sum := "0cf9ed5682ae8d5e2d4dbf5362cf4026957ccf546a4de5591909de400e77c476", func := "osmosis/osmosislaw14.RingStill", spec := "ringStill", unfollowed := true, recurses := true, apart := false, narrowed := true }
def RingStillUptoSaid : Prop := ringStillUptoRow.holds Try.pinned (OpenSpec.upto ringStillSpec)

/-- 'osmosislaw15.DonorTells', WHERE WHAT IT READS IS OF BULK AT MOST 1048576: true; the input reads as it did. -/
def donorTellsUptoRow : OpenClaim := { program := "ytmonbigaldamfaa", sum := "0cf9ed5682ae8d5e2d4dbf5362cf4026957ccf546a4de5591909de400e77c476", func := "osmosis/osmosislaw15.DonorTells", spec := "donorTells", unfollowed := true, recurses := true, apart := false, narrowed := true }
def DonorTellsUptoSaid : Prop := donorTellsUptoRow.holds Try.pinned (OpenSpec.upto donorTellsSpec)

/-- 'osmosislaw15.DonorBest', WHERE WHAT IT READS IS OF BULK AT MOST 1048576: true; the input reads as it did. -/
def donorBestUptoRow : OpenClaim := { program := "ytmonbigaldamfaa", sum := "0cf9ed5682ae8d5e2d4dbf5362cf4026957ccf546a4de5591909de400e77c476", func := "osmosis/osmosislaw15.DonorBest", spec := "donorBest", unfollowed := true, recurses := true, apart := false, narrowed := true }
def DonorBestUptoSaid : Prop := donorBestUptoRow.holds Try.pinned (OpenSpec.upto donorBestSpec)

/-- 'osmosislaw15.DonorEnds', WHERE WHAT IT READS IS OF BULK AT MOST 1048576: true; the input reads as it did. -/
def donorEndsUptoRow : OpenClaim := { program := "ytmonbigaldamfaa", sum := "0cf9ed5682ae8d5e2d4dbf5362cf4026957ccf546a4de5591909de400e77c476", func := "osmosis/osmosislaw15.DonorEnds", spec := "donorEnds", unfollowed := true, recurses := true, apart := false, narrowed := true }
def DonorEndsUptoSaid : Prop := donorEndsUptoRow.holds Try.pinned (OpenSpec.upto donorEndsSpec)

end Rows
end Go.Proofs.Ytmonbigaldamfaa
