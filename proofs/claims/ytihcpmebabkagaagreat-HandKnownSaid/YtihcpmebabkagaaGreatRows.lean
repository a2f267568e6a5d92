/-
  No cell of these rows narrows 'for every input' (looked for: loops, veiled, ifaces, maps, wideKeys, modest, calm, conditions, laid).
  DERIVED. THE GIVEN ROWS OF THIS SEAT. 6 by the template 'for every input the law returns true; each argument reads behind the call as it read before'; 0 by the template 'total and deterministic' (their statements: YtihcpmebabkagaaGreatTotals.lean).
  GIVEN WITH THE SEED: the statements are not yours to turn. If you find one false, say at which input.
  Laid BY PROGRAM, IN A SANDBOX (cutbox-rows.mjs): the forced cells as the released guide's own fill.sh prints them over the translation a42e1bb99d7784b1… (all of the seat's roots in one cut). By AI agents, Wed Nov 11 2026. No macro, syntax, notation, axiom, sorry.
-/
import Derived.Test.YtihcpmebabkagaaGreatChecked
import GoSem.Claim
import GoSem.ClaimJoined
import GoSem.ClaimMapViews
import Derived.JoinedTies
import Derived.KernelRfl
namespace Go.Proofs.YtihcpmebabkagaaGreat
/- THE CELL 'sum', in the pinned program and in every row, IS THE sha256 OF THE DUMP (.gsa) THAT YtihcpmebabkagaaGreatProg.lean LOADS. Nothing in Lean hashes anything: it is a label: what it is worth is what the hold of that sum in a sandbox is worth. -/
noncomputable def Tryz.pinned : Pinned := { name := "ytihcpmebabkagaagreat", sum := "a42e1bb99d7784b1a7700af586ae8e688edd243e00860d8e543ba10ba7cc312d", checked := Tryz.checked }
namespace Rows
def none {H : Type} : Left H := { results := [], args := [] }

/-- 'osmosislaw20.HandKnown': WHATEVER THE INPUT: true; the input reads as it did. -/
def handKnownSpec : ChangeSpec := { name := "handKnown", fn := fun _ => fun
  | [] => { results := [.lit (.bool true)], args := [] }
  | _ => none }
def handKnownRow : OpenClaim := { program := "ytihcpmebabkagaagreat", sum := "a42e1bb99d7784b1a7700af586ae8e688edd243e00860d8e543ba10ba7cc312d", func := "osmosis/osmosislaw20.HandKnown", spec := "handKnown", inPlace := ["slices.overlaps[osmosis/api.Pair]"], unfollowed := true, recurses := true, plainKeys := false, apart := false }
def HandKnownSaid : Prop := handKnownRow.holds Tryz.pinned (OpenSpec.ofChange handKnownSpec)

/-- ITS FALSE NEIGHBOUR: 'it returns false'. Refute it at one input. -/
def handKnownWrong : ChangeSpec := { name := "handKnown", fn := fun _ => fun
  | [] => { results := [.lit (.bool false)], args := [] }
  | _ => none }
def HandKnownWrongFalsely : Prop := handKnownRow.holds Tryz.pinned (OpenSpec.ofChange handKnownWrong)

/-- 'osmosislaw20.HandTells': WHATEVER THE INPUT: true; the input reads as it did. -/
def handTellsSpec : ChangeSpec := { name := "handTells", fn := fun _ => fun
  | [d1, d2] => { results := [.lit (.bool true)], args := [d1, d2] }
  | _ => none }
def handTellsRow : OpenClaim := { program := "ytihcpmebabkagaagreat", sum := "a42e1bb99d7784b1a7700af586ae8e688edd243e00860d8e543ba10ba7cc312d", func := "osmosis/osmosislaw20.HandTells", spec := "handTells", inPlace := ["slices.overlaps[osmosis/api.Pair]"], unfollowed := true, recurses := true, plainKeys := false, apart := false }
def HandTellsSaid : Prop := handTellsRow.holds Tryz.pinned (OpenSpec.ofChange handTellsSpec)

/-- ITS FALSE NEIGHBOUR: 'it returns false'. Refute it at one input. -/
def handTellsWrong : ChangeSpec := { name := "handTells", fn := fun _ => fun
  | [d1, d2] => { results := [.lit (.bool false)], args := [d1, d2] }
  | _ => none }
def HandTellsWrongFalsely : Prop := handTellsRow.holds Tryz.pinned (OpenSpec.ofChange handTellsWrong)

/-- 'osmosislaw20.HandOne': WHATEVER THE INPUT: true; the input reads as it did. -/
def handOneSpec : ChangeSpec := { name := "handOne", fn := fun _ => fun
  | [d1, d2] => { results := [.lit (.bool true)], args := [d1, d2] }
  | _ => none }
def handOneRow : OpenClaim := { program := "ytihcpmebabkagaagreat", sum := "a42e1bb99d7784b1a7700af586ae8e688edd243e00860d8e543ba10ba7cc312d", func := "osmosis/osmosislaw20.HandOne", spec := "handOne", inPlace := ["slices.overlaps[osmosis/api.Pair]"], unfollowed := true, recurses := true, plainKeys := false, apart := false }
def HandOneSaid : Prop := handOneRow.holds Tryz.pinned (OpenSpec.ofChange handOneSpec)

/-- ITS FALSE NEIGHBOUR: 'it returns false'. Refute it at one input. -/
def handOneWrong : ChangeSpec := { name := "handOne", fn := fun _ => fun
  | [d1, d2] => { results := [.lit (.bool false)], args := [d1, d2] }
  | _ => none }
def HandOneWrongFalsely : Prop := handOneRow.holds Tryz.pinned (OpenSpec.ofChange handOneWrong)

/-- 'osmosislaw20.HandMoves': WHATEVER THE INPUT: true; the input reads as it did. -/
def handMovesSpec : ChangeSpec := { name := "handMoves", fn := fun _ => fun
  | [d1, d2] => { results := [.lit (.bool true)], args := [d1, d2] }
  | _ => none }
def handMovesRow : OpenClaim := { program := "ytihcpmebabkagaagreat", sum := "a42e1bb99d7784b1a7700af586ae8e688edd243e00860d8e543ba10ba7cc312d", func := "osmosis/osmosislaw20.HandMoves", spec := "handMoves", inPlace := ["slices.overlaps[osmosis/api.Pair]"], unfollowed := true, recurses := true, plainKeys := false, apart := false }
def HandMovesSaid : Prop := handMovesRow.holds Tryz.pinned (OpenSpec.ofChange handMovesSpec)

/-- ITS FALSE NEIGHBOUR: 'it returns false'. Refute it at one input. -/
def handMovesWrong : ChangeSpec := { name := "handMoves", fn := fun _ => fun
  | [d1, d2] => { results := [.lit (.bool false)], args := [d1, d2] }
  | _ => none }
def HandMovesWrongFalsely : Prop := handMovesRow.holds Tryz.pinned (OpenSpec.ofChange handMovesWrong)

/-- 'osmosislaw20.HandBusy': WHATEVER THE INPUT: true; the input reads as it did. -/
def handBusySpec : ChangeSpec := { name := "handBusy", fn := fun _ => fun
  | [d1, d2, d3, d4] => { results := [.lit (.bool true)], args := [d1, d2, d3, d4] }
  | _ => none }
def handBusyRow : OpenClaim := { program := "ytihcpmebabkagaagreat", sum := "a42e1bb99d7784b1a7700af586ae8e688edd243e00860d8e543ba10ba7cc312d", func := "osmosis/osmosislaw20.HandBusy", spec := "handBusy", inPlace := ["slices.overlaps[osmosis/api.Pair]"], unfollowed := true, recurses := true, plainKeys := false, apart := false }
def HandBusySaid : Prop := handBusyRow.holds Tryz.pinned (OpenSpec.ofChange handBusySpec)

/-- ITS FALSE NEIGHBOUR: 'it returns false'. Refute it at one input. -/
def handBusyWrong : ChangeSpec := { name := "handBusy", fn := fun _ => fun
  | [d1, d2, d3, d4] => { results := [.lit (.bool false)], args := [d1, d2, d3, d4] }
  | _ => none }
def HandBusyWrongFalsely : Prop := handBusyRow.holds Tryz.pinned (OpenSpec.ofChange handBusyWrong)

/-- 'osmosislaw20.HandOffers': WHATEVER THE INPUT: true; the input reads as it did. -/
def handOffersSpec : ChangeSpec := { name := "handOffers", fn := fun _ => fun
  | [d1, d2, d3, d4] => { results := [.lit (.bool true)], args := [d1, d2, d3, d4] }
  | _ => none }
def handOffersRow : OpenClaim := { program := "ytihcpmebabkagaagreat", sum := "a42e1bb99d7784b1a7700af586ae8e688edd243e00860d8e543ba10ba7cc312d", func := "osmosis/osmosislaw20.HandOffers", spec := "handOffers", inPlace := ["slices.overlaps[osmosis/api.Pair]"], unfollowed := true, recurses := true, plainKeys := false, apart := false }
def HandOffersSaid : Prop := handOffersRow.holds Tryz.pinned (OpenSpec.ofChange handOffersSpec)

/-- ITS FALSE NEIGHBOUR: 'it returns false'. Refute it at one input. -/
def handOffersWrong : ChangeSpec := { name := "handOffers", fn := fun _ => fun
  | [d1, d2, d3, d4] => { results := [.lit (.bool false)], args := [d1, d2, d3, d4] }
  | _ => none }
def HandOffersWrongFalsely : Prop := handOffersRow.holds Tryz.pinned (OpenSpec.ofChange handOffersWrong)

/- THE SECOND FORM. 'bulk': how many values and letters a reading holds, each counted each time it is reached (what is shared counts as often as it is met; a slice's spare places count too). A statement '..UptoSaid' is the law's where the arguments, and the package variables that the reading takes, are together of bulk at most 1048576: NARROWER than '..Said'. Prove '..Said' where nothing that the law and all that it calls make is longer than what came in: it says more and counts as full. Else prove '..UptoSaid'. A law counts once. -/
mutual
def uptoBulk {H : Type} : DataW H → Nat
  | .lit (.string bytes) => bytes.length + 1
  | .lit _ => 1
  | .nil => 1
  | .ptr d => uptoBulk d + 1
  | .slice elems spare => uptoBulkAll elems + uptoBulkAll spare + 1
  | .agg parts => uptoBulkAll parts + 1
  | .iface _ d => uptoBulk d + 1
  | .map entries => uptoBulkEntries entries + 1
  | .held _ => 1
def uptoBulkAll {H : Type} : List (DataW H) → Nat
  | [] => 0
  | d :: r => uptoBulk d + uptoBulkAll r
def uptoBulkEntries {H : Type} : List (Lit × DataW H) → Nat
  | [] => 0
  | x :: r => uptoBulkEntry x + uptoBulkEntries r
def uptoBulkEntry {H : Type} : Lit × DataW H → Nat
  | (.string bytes, d) => bytes.length + uptoBulk d + 1
  | (_, d) => uptoBulk d + 1
 end
def uptoSmall : (H : Type) → List (DataW H) → Bool := fun _ ds => decide (uptoBulkAll ds ≤ 1048576)
def OpenSpec.upto (s : _root_.Go.ChangeSpec) : _root_.Go.OpenSpec := { _root_.Go.OpenSpec.ofChange s with cond := some uptoSmall }

/-- 'osmosislaw20.HandKnown', WHERE WHAT IT READS IS OF BULK AT MOST 1048576: true; the input reads as it did. -/
def handKnownUptoRow : OpenClaim := { program := "ytihcpmebabkagaagreat", sum := "a42e1bb99d7784b1a7700af586ae8e688edd243e00860d8e543ba10ba7cc312d", func := "osmosis/osmosislaw20.HandKnown", spec := "handKnown", inPlace := ["slices.overlaps[osmosis/api.Pair]"], unfollowed := true, recurses := true, plainKeys := false, apart := false, narrowed := true }
def HandKnownUptoSaid : Prop := handKnownUptoRow.holds Tryz.pinned (OpenSpec.upto handKnownSpec)

/-- 'osmosislaw20.HandTells', WHERE WHAT IT READS IS OF BULK AT MOST 1048576: true; the input reads as it did. -/
def handTellsUptoRow : OpenClaim := { program := "ytihcpmebabkagaagreat", sum := "a42e1bb99d7784b1a7700af586ae8e688edd243e00860d8e543ba10ba7cc312d", func := "osmosis/osmosislaw20.HandTells", spec := "handTells", inPlace := ["slices.overlaps[osmosis/api.Pair]"], unfollowed := true, recurses := true, plainKeys := false, apart := false, narrowed := true }
def HandTellsUptoSaid : Prop := handTellsUptoRow.holds Tryz.pinned (OpenSpec.upto handTellsSpec)

/-- 'osmosislaw20.HandOne', WHERE WHAT IT READS IS OF BULK AT MOST 1048576: true; the input reads as it did. -/
def handOneUptoRow : OpenClaim := { program := "ytihcpmebabkagaagreat", sum := "a42e1bb99d7784b1a7700af586ae8e688edd243e00860d8e543ba10ba7cc312d", func := "osmosis/osmosislaw20.HandOne", spec := "handOne", inPlace := ["slices.overlaps[osmosis/api.Pair]"], unfollowed := true, recurses := true, plainKeys := false, apart := false, narrowed := true }
def HandOneUptoSaid : Prop := handOneUptoRow.holds Tryz.pinned (OpenSpec.upto handOneSpec)

/-- 'osmosislaw20.HandMoves', WHERE WHAT IT READS IS OF BULK AT MOST 1048576: true; the input reads as it did. -/
def handMovesUptoRow : OpenClaim := { program := "ytihcpmebabkagaagreat", sum := "a42e1bb99d7784b1a7700af586ae8e688edd243e00860d8e543ba10ba7cc312d", func := "osmosis/osmosislaw20.HandMoves", spec := "handMoves", inPlace := ["slices.overlaps[osmosis/api.Pair]"], unfollowed := true, recurses := true, plainKeys := false, apart := false, narrowed := true }
def HandMovesUptoSaid : Prop := handMovesUptoRow.holds Tryz.pinned (OpenSpec.upto handMovesSpec)

/-- 'osmosislaw20.HandBusy', WHERE WHAT IT READS IS OF BULK AT MOST 1048576: true; the input reads as it did. -/
def handBusyUptoRow : OpenClaim := { program := "ytihcpmebabkagaagreat", sum := "a42e1bb99d7784b1a7700af586ae8e688edd243e00860d8e543ba10ba7cc312d", func := "osmosis/osmosislaw20.HandBusy", spec := "handBusy", inPlace := ["slices.overlaps[osmosis/api.Pair]"], unfollowed := true, recurses := true, plainKeys := false, apart := false, narrowed := true }
def HandBusyUptoSaid : Prop := handBusyUptoRow.holds Tryz.pinned (OpenSpec.upto handBusySpec)

/-- 'osmosislaw20.HandOffers', WHERE WHAT IT READS IS OF BULK AT MOST 1048576: true; the input reads as it did. -/
def handOffersUptoRow : OpenClaim := { program := "ytihcpmebabkagaagreat", sum := "a42e1bb99d7784b1a7700af586ae8e688edd243e00860d8e543ba10ba7cc312d", func := "osmosis/osmosislaw20.HandOffers", spec := "handOffers", inPlace := ["slices.overlaps[osmosis/api.Pair]"], unfollowed := true, recurses := true, plainKeys := false, apart := false, narrowed := true }
def HandOffersUptoSaid : Prop := handOffersUptoRow.holds Tryz.pinned (OpenSpec.upto handOffersSpec)

end Rows
end Go.Proofs.YtihcpmebabkagaaGreat
