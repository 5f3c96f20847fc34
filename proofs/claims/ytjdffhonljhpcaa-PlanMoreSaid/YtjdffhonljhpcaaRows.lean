/-
  NARROWER THAN 'FOR EVERY INPUT', by the rows' own cells (each row's printed sentence says how): PlanMore: loops · StatsGuesses: loops.
  DERIVED. THE GIVEN ROWS OF THIS SEAT. 5 by the template 'for every input the law returns true; each argument reads behind the call as it read before'; 0 by the template 'total and deterministic' (their statements: YtjdffhonljhpcaaTotals.lean).
  GIVEN WITH THE SEED: the statements are not yours to turn. If you find one false, say at which input.
  Laid BY PROGRAM, IN A SANDBOX (cutbox-rows.mjs): the forced cells as the released guide's own fill.sh prints them over the translation d950e7107e29c29f… (all of the seat's roots in one cut). By AI agents, Wed Nov 11 2026. No macro, syntax, notation, axiom, sorry.
-/
import Derived.Test.YtjdffhonljhpcaaChecked
import GoSem.Claim
import GoSem.ClaimJoined
import GoSem.ClaimMapViews
import Derived.JoinedTies
import Derived.KernelRfl
namespace Go.Proofs.Ytjdffhonljhpcaa
/- THE CELL 'sum', in the pinned program and in every row, IS THE sha256 OF THE DUMP (.gsa) THAT YtjdffhonljhpcaaProg.lean LOADS. Nothing in Lean hashes anything: it is a label: what it is worth is what the hold of that sum in a sandbox is worth. -/
noncomputable def Try.pinned : Pinned := { name := "ytjdffhonljhpcaa", sum := "d950e7107e29c29fd6b7cd12898788cdcd154134210fe3aa2a9f0a6b42ea15fa", checked := Try.checked }
namespace Rows
def none {H : Type} : Left H := { results := [], args := [] }

/-- 'dowserlaw15.StatsBounds': WHATEVER THE INPUT: true; the input reads as it did. -/
def statsBoundsSpec : ChangeSpec := { name := "statsBounds", fn := fun _ => fun
  | [d] => { results := [.lit (.bool true)], args := [d] }
  | _ => none }
def statsBoundsRow : OpenClaim := { program := "ytjdffhonljhpcaa", sum := "d950e7107e29c29fd6b7cd12898788cdcd154134210fe3aa2a9f0a6b42ea15fa", func := "dowser/dowserlaw15.StatsBounds", spec := "statsBounds", inPlace := ["math.Float64frombits", "internal/bytealg.abigen_runtime_cmpstring"], unfollowed := true, recurses := true, apart := false }
def StatsBoundsSaid : Prop := statsBoundsRow.holds Try.pinned (OpenSpec.ofChange statsBoundsSpec)

/-- ITS FALSE NEIGHBOUR: 'it returns false'. Refute it at one input. -/
def statsBoundsWrong : ChangeSpec := { name := "statsBounds", fn := fun _ => fun
  | [d] => { results := [.lit (.bool false)], args := [d] }
  | _ => none }
def StatsBoundsWrongFalsely : Prop := statsBoundsRow.holds Try.pinned (OpenSpec.ofChange statsBoundsWrong)

/-- 'dowserlaw15.StatsTurned': WHATEVER THE INPUT: true; the input reads as it did. -/
def statsTurnedSpec : ChangeSpec := { name := "statsTurned", fn := fun _ => fun
  | [d1, d2] => { results := [.lit (.bool true)], args := [d1, d2] }
  | _ => none }
def statsTurnedRow : OpenClaim := { program := "ytjdffhonljhpcaa", sum := "d950e7107e29c29fd6b7cd12898788cdcd154134210fe3aa2a9f0a6b42ea15fa", func := "dowser/dowserlaw15.StatsTurned", spec := "statsTurned", inPlace := ["math.Float64frombits", "internal/bytealg.abigen_runtime_cmpstring"], unfollowed := true, recurses := true, apart := false }
def StatsTurnedSaid : Prop := statsTurnedRow.holds Try.pinned (OpenSpec.ofChange statsTurnedSpec)

/-- ITS FALSE NEIGHBOUR: 'it returns false'. Refute it at one input. -/
def statsTurnedWrong : ChangeSpec := { name := "statsTurned", fn := fun _ => fun
  | [d1, d2] => { results := [.lit (.bool false)], args := [d1, d2] }
  | _ => none }
def StatsTurnedWrongFalsely : Prop := statsTurnedRow.holds Try.pinned (OpenSpec.ofChange statsTurnedWrong)

/-- 'dowserlaw15.StatsShares': WHATEVER THE INPUT: true; the input reads as it did. -/
def statsSharesSpec : ChangeSpec := { name := "statsShares", fn := fun _ => fun
  | [d1, d2, d3] => { results := [.lit (.bool true)], args := [d1, d2, d3] }
  | _ => none }
def statsSharesRow : OpenClaim := { program := "ytjdffhonljhpcaa", sum := "d950e7107e29c29fd6b7cd12898788cdcd154134210fe3aa2a9f0a6b42ea15fa", func := "dowser/dowserlaw15.StatsShares", spec := "statsShares", inPlace := ["math.Float64frombits", "internal/bytealg.abigen_runtime_cmpstring"], unfollowed := true, recurses := true, apart := false }
def StatsSharesSaid : Prop := statsSharesRow.holds Try.pinned (OpenSpec.ofChange statsSharesSpec)

/-- ITS FALSE NEIGHBOUR: 'it returns false'. Refute it at one input. -/
def statsSharesWrong : ChangeSpec := { name := "statsShares", fn := fun _ => fun
  | [d1, d2, d3] => { results := [.lit (.bool false)], args := [d1, d2, d3] }
  | _ => none }
def StatsSharesWrongFalsely : Prop := statsSharesRow.holds Try.pinned (OpenSpec.ofChange statsSharesWrong)

/-- 'dowserlaw17.PlanMore': WHATEVER THE INPUT: true; the input reads as it did. -/
def planMoreSpec : ChangeSpec := { name := "planMore", fn := fun _ => fun
  | [d1, d2, d3] => { results := [.lit (.bool true)], args := [d1, d2, d3] }
  | _ => none }
def planMoreRow : OpenClaim := { program := "ytjdffhonljhpcaa", sum := "d950e7107e29c29fd6b7cd12898788cdcd154134210fe3aa2a9f0a6b42ea15fa", func := "dowser/dowserlaw17.PlanMore", spec := "planMore", inPlace := ["math.Float64frombits", "internal/bytealg.abigen_runtime_cmpstring"], unfollowed := true, recurses := true, loops := true, apart := false }
def PlanMoreSaid : Prop := planMoreRow.holds Try.pinned (OpenSpec.ofChange planMoreSpec)

/-- ITS FALSE NEIGHBOUR: 'it returns false'. Refute it at one input. -/
def planMoreWrong : ChangeSpec := { name := "planMore", fn := fun _ => fun
  | [d1, d2, d3] => { results := [.lit (.bool false)], args := [d1, d2, d3] }
  | _ => none }
def PlanMoreWrongFalsely : Prop := planMoreRow.holds Try.pinned (OpenSpec.ofChange planMoreWrong)

/-- 'dowserlaw15.StatsGuesses': WHATEVER THE INPUT: true; the input reads as it did. -/
def statsGuessesSpec : ChangeSpec := { name := "statsGuesses", fn := fun _ => fun
  | [d1, d2, d3] => { results := [.lit (.bool true)], args := [d1, d2, d3] }
  | _ => none }
def statsGuessesRow : OpenClaim := { program := "ytjdffhonljhpcaa", sum := "d950e7107e29c29fd6b7cd12898788cdcd154134210fe3aa2a9f0a6b42ea15fa", func := "dowser/dowserlaw15.StatsGuesses", spec := "statsGuesses", inPlace := ["math.Float64frombits", "internal/bytealg.abigen_runtime_cmpstring", "math.Float64bits"], unfollowed := true, recurses := true, loops := true, apart := false }
def StatsGuessesSaid : Prop := statsGuessesRow.holds Try.pinned (OpenSpec.ofChange statsGuessesSpec)

/-- ITS FALSE NEIGHBOUR: 'it returns false'. Refute it at one input. -/
def statsGuessesWrong : ChangeSpec := { name := "statsGuesses", fn := fun _ => fun
  | [d1, d2, d3] => { results := [.lit (.bool false)], args := [d1, d2, d3] }
  | _ => none }
def StatsGuessesWrongFalsely : Prop := statsGuessesRow.holds Try.pinned (OpenSpec.ofChange statsGuessesWrong)

/- THE SECOND FORM. 'bulk': how many values and letters a reading holds, each counted each time it is reached (what is shared counts as often as it is met; a slice's spare places count too). A statement '..UptoSaid' is the law's where the arguments, and the package variables that the reading takes, are together of bulk at most 1048576: NARROWER than '..Said'. Prove '..Said' where nothing that the law and all that it calls make is longer than what came in: it says more and counts as full. Else prove '..UptoSaid'. A law counts once. -/
mutual
def uptoBulk {H : Type} : DataW H → Nat
  | .lit (.string bytes) => bytes.length + 1
  | .lit _ => 1
  | .nil => 1
  | .ptr d => uptoBulk d + 1
  | .slice elems spare => uptoBulkAll elems + uptoBulkAll spare + 1
  | .agg parts => uptoBulkAll parts + 1
  | .iface _ d => uptoBulk d + 1
  | .map entries => uptoBulkEntries entries + 1
  | .held _ => 1
def uptoBulkAll {H : Type} : List (DataW H) → Nat
  | [] => 0
  | d :: r => uptoBulk d + uptoBulkAll r
def uptoBulkEntries {H : Type} : List (Lit × DataW H) → Nat
  | [] => 0
  | x :: r => uptoBulkEntry x + uptoBulkEntries r
def uptoBulkEntry {H : Type} : Lit × DataW H → Nat
  | (.string bytes, d) => bytes.length + uptoBulk d + 1
  | (_, d) => uptoBulk d + 1
 end
def uptoSmall : (H : Type) → List (DataW H) → Bool := fun _ ds => decide (uptoBulkAll ds ≤ 1048576)
def OpenSpec.upto (s : _root_.Go.ChangeSpec) : _root_.Go.OpenSpec := { _root_.Go.OpenSpec.ofChange s with cond := some uptoSmall }

/-- 'dowserlaw15.StatsBounds', WHERE WHAT IT READS IS OF BULK AT MOST 1048576: true; the input reads as it did. -/
def statsBoundsUptoRow : OpenClaim := { program := "ytjdffhonljhpcaa", sum := "d950e7107e29c29fd6b7cd12898788cdcd154134210fe3aa2a9f0a6b42ea15fa", func := "dowser/dowserlaw15.StatsBounds", spec := "statsBounds", inPlace := ["math.Float64frombits", "internal/bytealg.abigen_runtime_cmpstring"], unfollowed := true, recurses := true, apart := false, narrowed := true }
def StatsBoundsUptoSaid : Prop := statsBoundsUptoRow.holds Try.pinned (OpenSpec.upto statsBoundsSpec)

/-- 'dowserlaw15.StatsTurned', WHERE WHAT IT READS IS OF BULK AT MOST 1048576: true; the input reads as it did. -/
def statsTurnedUptoRow : OpenClaim := { program := "ytjdffhonljhpcaa", sum := "d950e7107e29c29fd6b7cd12898788cdcd154134210fe3aa2a9f0a6b42ea15fa", func := "dowser/dowserlaw15.StatsTurned", spec := "statsTurned", inPlace := ["math.Float64frombits", "internal/bytealg.abigen_runtime_cmpstring"], unfollowed := true, recurses := true, apart := false, narrowed := true }
def StatsTurnedUptoSaid : Prop := statsTurnedUptoRow.holds Try.pinned (OpenSpec.upto statsTurnedSpec)

/-- 'dowserlaw15.StatsShares', WHERE WHAT IT READS IS OF BULK AT MOST 1048576: true; the input reads as it did. -/
def statsSharesUptoRow : OpenClaim := { program := "ytjdffhonljhpcaa", sum := "d950e7107e29c29fd6b7cd12898788cdcd154134210fe3aa2a9f0a6b42ea15fa", func := "dowser/dowserlaw15.StatsShares", spec := "statsShares", inPlace := ["math.Float64frombits", "internal/bytealg.abigen_runtime_cmpstring"], unfollowed := true, recurses := true, apart := false, narrowed := true }
def StatsSharesUptoSaid : Prop := statsSharesUptoRow.holds Try.pinned (OpenSpec.upto statsSharesSpec)

/-- 'dowserlaw17.PlanMore', WHERE WHAT IT READS IS OF BULK AT MOST 1048576: true; the input reads as it did. -/
def planMoreUptoRow : OpenClaim := { program := "ytjdffhonljhpcaa", sum := "d950e7107e29c29fd6b7cd12898788cdcd154134210fe3aa2a9f0a6b42ea15fa", func := "dowser/dowserlaw17.PlanMore", spec := "planMore", inPlace := ["math.Float64frombits", "internal/bytealg.abigen_runtime_cmpstring"], unfollowed := true, recurses := true, loops := true, apart := false, narrowed := true }
def PlanMoreUptoSaid : Prop := planMoreUptoRow.holds Try.pinned (OpenSpec.upto planMoreSpec)

/-- 'dowserlaw15.StatsGuesses', WHERE WHAT IT READS IS OF BULK AT MOST 1048576: true; the input reads as it did. -/
def statsGuessesUptoRow : OpenClaim := { program := "ytjdffhonljhpcaa", sum := "d950e7107e29c29fd6b7cd12898788cdcd154134210fe3aa2a9f0a6b42ea15fa", func := "dowser/dowserlaw15.StatsGuesses", spec := "statsGuesses", inPlace := ["math.Float64frombits", "internal/bytealg.abigen_runtime_cmpstring", "math.Float64bits"], unfollowed := true, recurses := true, loops := true, apart := false, narrowed := true }
def StatsGuessesUptoSaid : Prop := statsGuessesUptoRow.holds Try.pinned (OpenSpec.upto statsGuessesSpec)

end Rows
end Go.Proofs.Ytjdffhonljhpcaa
