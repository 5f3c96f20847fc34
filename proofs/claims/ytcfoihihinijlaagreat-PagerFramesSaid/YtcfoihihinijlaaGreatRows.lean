/-
  No cell of these rows narrows 'for every input' (looked for: loops, veiled, ifaces, maps, wideKeys, modest, calm, conditions, laid).
  DERIVED. THE GIVEN ROWS OF THIS SEAT. 7 by the template 'for every input the law returns true; each argument reads behind the call as it read before'; 0 by the template 'total and deterministic' (their statements: YtcfoihihinijlaaGreatTotals.lean).
  GIVEN WITH THE SEED: the statements are not yours to turn. If you find one false, say at which input.
  Laid BY PROGRAM, IN A SANDBOX (cutbox-rows.mjs): the forced cells as the released guide's own fill.sh prints them over the translation b0bec35065d5dcb1… (all of the seat's roots in one cut). By AI agents, Wed Nov 11 2026. No macro, syntax, notation, axiom, sorry.
-/
import Derived.Test.YtcfoihihinijlaaGreatChecked
import GoSem.Claim
import GoSem.ClaimJoined
import GoSem.ClaimMapViews
import Derived.JoinedTies
import Derived.KernelRfl
namespace Go.Proofs.YtcfoihihinijlaaGreat
/- THE CELL 'sum', in the pinned program and in every row, IS THE sha256 OF THE DUMP (.gsa) THAT YtcfoihihinijlaaGreatProg.lean LOADS. Nothing in Lean hashes anything: it is a label: what it is worth is what the hold of that sum in a sandbox is worth. -/
noncomputable def Tryz.pinned : Pinned := { name := "ytcfoihihinijlaagreat", sum := "b0bec35065d5dcb1ae56d2e4193b04b226fa4a01d4a7240d8b5d71b25421b461", checked := Tryz.checked }
namespace Rows
def none {H : Type} : Left H := { results := [], args := [] }

/-- 'dowserlaw06.PagerAgain': WHATEVER THE INPUT: true; the input reads as it did. -/
def pagerAgainSpec : ChangeSpec := { name := "pagerAgain", fn := fun _ => fun
  | [d1, d2] => { results := [.lit (.bool true)], args := [d1, d2] }
  | _ => none }
def pagerAgainRow : OpenClaim := { program := "ytcfoihihinijlaagreat", sum := "b0bec35065d5dcb1ae56d2e4193b04b226fa4a01d4a7240d8b5d71b25421b461", func := "dowser/dowserlaw06.PagerAgain", spec := "pagerAgain", unfollowed := true, recurses := true, apart := false }
def PagerAgainSaid : Prop := pagerAgainRow.holds Tryz.pinned (OpenSpec.ofChange pagerAgainSpec)

/-- ITS FALSE NEIGHBOUR: 'it returns false'. Refute it at one input. -/
def pagerAgainWrong : ChangeSpec := { name := "pagerAgain", fn := fun _ => fun
  | [d1, d2] => { results := [.lit (.bool false)], args := [d1, d2] }
  | _ => none }
def PagerAgainWrongFalsely : Prop := pagerAgainRow.holds Tryz.pinned (OpenSpec.ofChange pagerAgainWrong)

/-- 'dowserlaw06.PagerFrames': WHATEVER THE INPUT: true; the input reads as it did. -/
def pagerFramesSpec : ChangeSpec := { name := "pagerFrames", fn := fun _ => fun
  | [d1, d2, d3] => { results := [.lit (.bool true)], args := [d1, d2, d3] }
  | _ => none }
def pagerFramesRow : OpenClaim := { program := "ytcfoihihinijlaagreat", sum := "b0bec35065d5dcb1ae56d2e4193b04b226fa4a01d4a7240d8b5d71b25421b461", func := "dowser/dowserlaw06.PagerFrames", spec := "pagerFrames", unfollowed := true, recurses := true, apart := false }
def PagerFramesSaid : Prop := pagerFramesRow.holds Tryz.pinned (OpenSpec.ofChange pagerFramesSpec)

/-- ITS FALSE NEIGHBOUR: 'it returns false'. Refute it at one input. -/
def pagerFramesWrong : ChangeSpec := { name := "pagerFrames", fn := fun _ => fun
  | [d1, d2, d3] => { results := [.lit (.bool false)], args := [d1, d2, d3] }
  | _ => none }
def PagerFramesWrongFalsely : Prop := pagerFramesRow.holds Tryz.pinned (OpenSpec.ofChange pagerFramesWrong)

/-- 'dowserlaw09.TreeApart': WHATEVER THE INPUT: true; the input reads as it did. -/
def treeApartSpec : ChangeSpec := { name := "treeApart", fn := fun _ => fun
  | [d1, d2] => { results := [.lit (.bool true)], args := [d1, d2] }
  | _ => none }
def treeApartRow : OpenClaim := { program := "ytcfoihihinijlaagreat", sum := "b0bec35065d5dcb1ae56d2e4193b04b226fa4a01d4a7240d8b5d71b25421b461", func := "dowser/dowserlaw09.TreeApart", spec := "treeApart", inPlace := ["internal/bytealg.Compare", "slices.overlaps[dowser/api.Entry]", "slices.overlaps[int]"], unfollowed := true, recurses := true, apart := false }
def TreeApartSaid : Prop := treeApartRow.holds Tryz.pinned (OpenSpec.ofChange treeApartSpec)

/-- ITS FALSE NEIGHBOUR: 'it returns false'. Refute it at one input. -/
def treeApartWrong : ChangeSpec := { name := "treeApart", fn := fun _ => fun
  | [d1, d2] => { results := [.lit (.bool false)], args := [d1, d2] }
  | _ => none }
def TreeApartWrongFalsely : Prop := treeApartRow.holds Tryz.pinned (OpenSpec.ofChange treeApartWrong)

/-- 'dowserlaw09.TreeFills': WHATEVER THE INPUT: true; the input reads as it did. -/
def treeFillsSpec : ChangeSpec := { name := "treeFills", fn := fun _ => fun
  | [d1, d2, d3] => { results := [.lit (.bool true)], args := [d1, d2, d3] }
  | _ => none }
def treeFillsRow : OpenClaim := { program := "ytcfoihihinijlaagreat", sum := "b0bec35065d5dcb1ae56d2e4193b04b226fa4a01d4a7240d8b5d71b25421b461", func := "dowser/dowserlaw09.TreeFills", spec := "treeFills", inPlace := ["internal/bytealg.Compare", "slices.overlaps[dowser/api.Entry]", "slices.overlaps[int]"], unfollowed := true, recurses := true, apart := false }
def TreeFillsSaid : Prop := treeFillsRow.holds Tryz.pinned (OpenSpec.ofChange treeFillsSpec)

/-- ITS FALSE NEIGHBOUR: 'it returns false'. Refute it at one input. -/
def treeFillsWrong : ChangeSpec := { name := "treeFills", fn := fun _ => fun
  | [d1, d2, d3] => { results := [.lit (.bool false)], args := [d1, d2, d3] }
  | _ => none }
def TreeFillsWrongFalsely : Prop := treeFillsRow.holds Tryz.pinned (OpenSpec.ofChange treeFillsWrong)

/-- 'dowserlaw09.TreeOdd': WHATEVER THE INPUT: true; the input reads as it did. -/
def treeOddSpec : ChangeSpec := { name := "treeOdd", fn := fun _ => fun
  | [d1, d2, d3] => { results := [.lit (.bool true)], args := [d1, d2, d3] }
  | _ => none }
def treeOddRow : OpenClaim := { program := "ytcfoihihinijlaagreat", sum := "b0bec35065d5dcb1ae56d2e4193b04b226fa4a01d4a7240d8b5d71b25421b461", func := "dowser/dowserlaw09.TreeOdd", spec := "treeOdd", inPlace := ["internal/bytealg.Compare", "slices.overlaps[dowser/api.Entry]", "slices.overlaps[int]"], unfollowed := true, recurses := true, apart := false }
def TreeOddSaid : Prop := treeOddRow.holds Tryz.pinned (OpenSpec.ofChange treeOddSpec)

/-- ITS FALSE NEIGHBOUR: 'it returns false'. Refute it at one input. -/
def treeOddWrong : ChangeSpec := { name := "treeOdd", fn := fun _ => fun
  | [d1, d2, d3] => { results := [.lit (.bool false)], args := [d1, d2, d3] }
  | _ => none }
def TreeOddWrongFalsely : Prop := treeOddRow.holds Tryz.pinned (OpenSpec.ofChange treeOddWrong)

/-- 'dowserlaw09.TreeRoom': WHATEVER THE INPUT: true; the input reads as it did. -/
def treeRoomSpec : ChangeSpec := { name := "treeRoom", fn := fun _ => fun
  | [d1, d2] => { results := [.lit (.bool true)], args := [d1, d2] }
  | _ => none }
def treeRoomRow : OpenClaim := { program := "ytcfoihihinijlaagreat", sum := "b0bec35065d5dcb1ae56d2e4193b04b226fa4a01d4a7240d8b5d71b25421b461", func := "dowser/dowserlaw09.TreeRoom", spec := "treeRoom", inPlace := ["internal/bytealg.Compare", "slices.overlaps[dowser/api.Entry]", "slices.overlaps[int]"], unfollowed := true, recurses := true, apart := false }
def TreeRoomSaid : Prop := treeRoomRow.holds Tryz.pinned (OpenSpec.ofChange treeRoomSpec)

/-- ITS FALSE NEIGHBOUR: 'it returns false'. Refute it at one input. -/
def treeRoomWrong : ChangeSpec := { name := "treeRoom", fn := fun _ => fun
  | [d1, d2] => { results := [.lit (.bool false)], args := [d1, d2] }
  | _ => none }
def TreeRoomWrongFalsely : Prop := treeRoomRow.holds Tryz.pinned (OpenSpec.ofChange treeRoomWrong)

/-- 'dowserlaw09.TreePlays': WHATEVER THE INPUT: true; the input reads as it did. -/
def treePlaysSpec : ChangeSpec := { name := "treePlays", fn := fun _ => fun
  | [d] => { results := [.lit (.bool true)], args := [d] }
  | _ => none }
def treePlaysRow : OpenClaim := { program := "ytcfoihihinijlaagreat", sum := "b0bec35065d5dcb1ae56d2e4193b04b226fa4a01d4a7240d8b5d71b25421b461", func := "dowser/dowserlaw09.TreePlays", spec := "treePlays", inPlace := ["internal/bytealg.Compare", "slices.overlaps[dowser/api.Entry]", "slices.overlaps[int]"], unfollowed := true, recurses := true, apart := false }
def TreePlaysSaid : Prop := treePlaysRow.holds Tryz.pinned (OpenSpec.ofChange treePlaysSpec)

/-- ITS FALSE NEIGHBOUR: 'it returns false'. Refute it at one input. -/
def treePlaysWrong : ChangeSpec := { name := "treePlays", fn := fun _ => fun
  | [d] => { results := [.lit (.bool false)], args := [d] }
  | _ => none }
def TreePlaysWrongFalsely : Prop := treePlaysRow.holds Tryz.pinned (OpenSpec.ofChange treePlaysWrong)

/- THE SECOND FORM. 'bulk': how many values and letters a reading holds, each counted each time it is reached (what is shared counts as often as it is met; a slice's spare places count too). A statement '..UptoSaid' is the law's where the arguments, and the package variables that the reading takes, are together of bulk at most 1048576: NARROWER than '..Said'. Prove '..Said' where nothing that the law and all that it calls make is longer than what came in: it says more and counts as full. Else prove '..UptoSaid'. A law counts once. -/
mutual
def uptoBulk {H : Type} : DataW H → Nat
  | .lit (.string bytes) => bytes.length + 1
  | .lit _ => 1
  | .nil => 1
  | .ptr d => uptoBulk d + 1
  | .slice elems spare => uptoBulkAll elems + uptoBulkAll spare + 1
  | .agg parts => uptoBulkAll parts + 1
  | .iface _ d => uptoBulk d + 1
  | .map entries => uptoBulkEntries entries + 1
  | .held _ => 1
def uptoBulkAll {H : Type} : List (DataW H) → Nat
  | [] => 0
  | d :: r => uptoBulk d + uptoBulkAll r
def uptoBulkEntries {H : Type} : List (Lit × DataW H) → Nat
  | [] => 0
  | x :: r => uptoBulkEntry x + uptoBulkEntries r
def uptoBulkEntry {H : Type} : Lit × DataW H → Nat
  | (.string bytes, d) => bytes.length + uptoBulk d + 1
  | (_, d) => uptoBulk d + 1
 end
def uptoSmall : (H : Type) → List (DataW H) → Bool := fun _ ds => decide (uptoBulkAll ds ≤ 1048576)
def OpenSpec.upto (s : _root_.Go.ChangeSpec) : _root_.Go.OpenSpec := { _root_.Go.OpenSpec.ofChange s with cond := some uptoSmall }

/-- 'dowserlaw06.PagerAgain', WHERE WHAT IT READS IS OF BULK AT MOST 1048576: true; the input reads as it did. -/
def pagerAgainUptoRow : OpenClaim := { program := "ytcfoihihinijlaagreat", sum := "b0bec35065d5dcb1ae56d2e4193b04b226fa4a01d4a7240d8b5d71b25421b461", func := "dowser/dowserlaw06.PagerAgain", spec := "pagerAgain", unfollowed := true, recurses := true, apart := false, narrowed := true }
def PagerAgainUptoSaid : Prop := pagerAgainUptoRow.holds Tryz.pinned (OpenSpec.upto pagerAgainSpec)

/-- 'dowserlaw06.PagerFrames', WHERE WHAT IT READS IS OF BULK AT MOST 1048576: true; the input reads as it did. -/
def pagerFramesUptoRow : OpenClaim := { program := "ytcfoihihinijlaagreat", sum := "b0bec35065d5dcb1ae56d2e4193b04b226fa4a01d4a7240d8b5d71b25421b461", func := "dowser/dowserlaw06.PagerFrames", spec := "pagerFrames", unfollowed := true, recurses := true, apart := false, narrowed := true }
def PagerFramesUptoSaid : Prop := pagerFramesUptoRow.holds Tryz.pinned (OpenSpec.upto pagerFramesSpec)

/-- 'dowserlaw09.TreeApart', WHERE WHAT IT READS IS OF BULK AT MOST 1048576: true; the input reads as it did. -/
def treeApartUptoRow : OpenClaim := { program := "ytcfoihihinijlaagreat", sum := "b0bec35065d5dcb1ae56d2e4193b04b226fa4a01d4a7240d8b5d71b25421b461", func := "dowser/dowserlaw09.TreeApart", spec := "treeApart", inPlace := ["internal/bytealg.Compare", "slices.overlaps[dowser/api.Entry]", "slices.overlaps[int]"], unfollowed := true, recurses := true, apart := false, narrowed := true }
def TreeApartUptoSaid : Prop := treeApartUptoRow.holds Tryz.pinned (OpenSpec.upto treeApartSpec)

/-- 'dowserlaw09.TreeFills', WHERE WHAT IT READS IS OF BULK AT MOST 1048576: true; the input reads as it did. -/
def treeFillsUptoRow : OpenClaim := { program := "ytcfoihihinijlaagreat", sum := "b0bec35065d5dcb1ae56d2e4193b04b226fa4a01d4a7240d8b5d71b25421b461", func := "dowser/dowserlaw09.TreeFills", spec := "treeFills", inPlace := ["internal/bytealg.Compare", "slices.overlaps[dowser/api.Entry]", "slices.overlaps[int]"], unfollowed := true, recurses := true, apart := false, narrowed := true }
def TreeFillsUptoSaid : Prop := treeFillsUptoRow.holds Tryz.pinned (OpenSpec.upto treeFillsSpec)

/-- 'dowserlaw09.TreeOdd', WHERE WHAT IT READS IS OF BULK AT MOST 1048576: true; the input reads as it did. -/
def treeOddUptoRow : OpenClaim := { program := "ytcfoihihinijlaagreat", sum := "b0bec35065d5dcb1ae56d2e4193b04b226fa4a01d4a7240d8b5d71b25421b461", func := "dowser/dowserlaw09.TreeOdd", spec := "treeOdd", inPlace := ["internal/bytealg.Compare", "slices.overlaps[dowser/api.Entry]", "slices.overlaps[int]"], unfollowed := true, recurses := true, apart := false, narrowed := true }
def TreeOddUptoSaid : Prop := treeOddUptoRow.holds Tryz.pinned (OpenSpec.upto treeOddSpec)

/-- 'dowserlaw09.TreeRoom', WHERE WHAT IT READS IS OF BULK AT MOST 1048576: true; the input reads as it did. -/
def treeRoomUptoRow : OpenClaim := { program := "ytcfoihihinijlaagreat", sum := "b0bec35065d5dcb1ae56d2e4193b04b226fa4a01d4a7240d8b5d71b25421b461", func := "dowser/dowserlaw09.TreeRoom", spec := "treeRoom", inPlace := ["internal/bytealg.Compare", "slices.overlaps[dowser/api.Entry]", "slices.overlaps[int]"], unfollowed := true, recurses := true, apart := false, narrowed := true }
def TreeRoomUptoSaid : Prop := treeRoomUptoRow.holds Tryz.pinned (OpenSpec.upto treeRoomSpec)

/-- 'dowserlaw09.TreePlays', WHERE WHAT IT READS IS OF BULK AT MOST 1048576: true; the input reads as it did. -/
def treePlaysUptoRow : OpenClaim := { program := "ytcfoihihinijlaagreat", sum := "b0bec35065d5dcb1ae56d2e4193b04b226fa4a01d4a7240d8b5d71b25421b461", func := "dowser/dowserlaw09.TreePlays", spec := "treePlays", inPlace := ["internal/bytealg.Compare", "slices.overlaps[dowser/api.Entry]", "slices.overlaps[int]"], unfollowed := true, recurses := true, apart := false, narrowed := true }
def TreePlaysUptoSaid : Prop := treePlaysUptoRow.holds Tryz.pinned (OpenSpec.upto treePlaysSpec)

end Rows
end Go.Proofs.YtcfoihihinijlaaGreat
