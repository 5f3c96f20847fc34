/-
  NARROWER THAN 'FOR EVERY INPUT', by the rows' own cells (each row's printed sentence says how): KeyOrders: laid · KeyIDs: laid · KeyAfter: laid · KeyApart: laid · KeyReads: laid · KeyWrites: laid.
  DERIVED. THE GIVEN ROWS OF THIS SEAT. 6 by the template 'for every input the law returns true; each argument reads behind the call as it read before'; 0 by the template 'total and deterministic' (their statements: YtknfnhmkiooifaaDoorTotals.lean).
  GIVEN WITH THE SEED: the statements are not yours to turn. If you find one false, say at which input.
  Laid BY PROGRAM, IN A SANDBOX (cutbox-rows.mjs): the forced cells as the released guide's own fill.sh prints them over the translation 90e938e750d6664d… (all of the seat's roots in one cut). By AI agents, Wed Nov 11 2026. No macro, syntax, notation, axiom, sorry.
-/
import Derived.Test.YtknfnhmkiooifaaDoorChecked
import GoSem.PinnedTables
import GoSem.Claim
import GoSem.ClaimJoined
import GoSem.ClaimMapViews
import Derived.JoinedTies
import Derived.KernelRfl
namespace Go.Proofs.YtknfnhmkiooifaaDoor
/- THE CELL 'sum', in the pinned program and in every row, IS THE sha256 OF THE DUMP (.gsa) THAT YtknfnhmkiooifaaDoorProg.lean LOADS. Nothing in Lean hashes anything: it is a label: what it is worth is what the hold of that sum in a sandbox is worth. -/
noncomputable def Tryd.pinned : Pinned := { name := "ytknfnhmkiooifaadoor", sum := "90e938e750d6664d578a1593aa199c53af809fe4e5a45a47ec207b880a1abda2", checked := Tryd.checked }
namespace Rows
def none {H : Type} : Left H := { results := [], args := [] }

/- WHAT THE LISTED PACKAGE-LEVEL VARIABLES READ AS WHEN THE CALL BEGINS. Each datum BY PROGRAM (the guide's laid-datum.mjs) off the statement by which the dump's own 'gosem.cut.vars' lays the variable. In a bare row this is a premise. The card (YtknfnhmkiooifaaDoorCards.lean) ties it to the program's text. -/
def laid_unicode_utf8_acceptRanges {H : Type} : DataW H := .agg [.agg [.lit (.int .u8 128), .lit (.int .u8 191)], .agg [.lit (.int .u8 160), .lit (.int .u8 191)], .agg [.lit (.int .u8 128), .lit (.int .u8 159)], .agg [.lit (.int .u8 144), .lit (.int .u8 191)], .agg [.lit (.int .u8 128), .lit (.int .u8 143)], .agg [.lit (.int .u8 0), .lit (.int .u8 0)], .agg [.lit (.int .u8 0), .lit (.int .u8 0)], .agg [.lit (.int .u8 0), .lit (.int .u8 0)], .agg [.lit (.int .u8 0), .lit (.int .u8 0)], .agg [.lit (.int .u8 0), .lit (.int .u8 0)], .agg [.lit (.int .u8 0), .lit (.int .u8 0)], .agg [.lit (.int .u8 0), .lit (.int .u8 0)], .agg [.lit (.int .u8 0), .lit (.int .u8 0)], .agg [.lit (.int .u8 0), .lit (.int .u8 0)], .agg [.lit (.int .u8 0), .lit (.int .u8 0)], .agg [.lit (.int .u8 0), .lit (.int .u8 0)]]
/-- One of Go's own tables, pinned by name: the form's constant. -/
def laid_unicode_utf8_first : DataW Unit := Go.Pinned.utf8First

/-- 'dowserlaw08.KeyOrders': WHATEVER THE INPUT: true; the input reads as it did. -/
def keyOrdersSpec : ChangeSpec := { name := "keyOrders", fn := fun _ => fun
  | [d1, d2] => { results := [.lit (.bool true)], args := [d1, d2] }
  | _ => none }
def keyOrdersRow : OpenClaim := { program := "ytknfnhmkiooifaadoor", sum := "90e938e750d6664d578a1593aa199c53af809fe4e5a45a47ec207b880a1abda2", func := "dowser/dowserlaw08.KeyOrders", spec := "keyOrders", inPlace := ["math.Float64frombits", "math.Float64bits", "internal/bytealg.Count", "internal/bytealg.IndexByte", "internal/bytealg.Index"], named := ["internal/bytealg.MaxLen", "unicode/utf8.first", "unicode/utf8.acceptRanges"], apart := false, laid := [("unicode/utf8.acceptRanges", laid_unicode_utf8_acceptRanges), ("unicode/utf8.first", laid_unicode_utf8_first)] }
def KeyOrdersSaid : Prop := keyOrdersRow.holds Tryd.pinned (OpenSpec.ofChange keyOrdersSpec)

/-- ITS FALSE NEIGHBOUR: 'it returns false'. Refute it at one input. -/
def keyOrdersWrong : ChangeSpec := { name := "keyOrders", fn := fun _ => fun
  | [d1, d2] => { results := [.lit (.bool false)], args := [d1, d2] }
  | _ => none }
def KeyOrdersWrongFalsely : Prop := keyOrdersRow.holds Tryd.pinned (OpenSpec.ofChange keyOrdersWrong)

/-- 'dowserlaw08.KeyIDs': WHATEVER THE INPUT: true; the input reads as it did. -/
def keyIDsSpec : ChangeSpec := { name := "keyIDs", fn := fun _ => fun
  | [d1, d2, d3] => { results := [.lit (.bool true)], args := [d1, d2, d3] }
  | _ => none }
def keyIDsRow : OpenClaim := { program := "ytknfnhmkiooifaadoor", sum := "90e938e750d6664d578a1593aa199c53af809fe4e5a45a47ec207b880a1abda2", func := "dowser/dowserlaw08.KeyIDs", spec := "keyIDs", inPlace := ["math.Float64frombits", "math.Float64bits", "internal/bytealg.Count", "internal/bytealg.IndexByte", "internal/bytealg.Index"], named := ["internal/bytealg.MaxLen", "unicode/utf8.first", "unicode/utf8.acceptRanges"], apart := false, laid := [("unicode/utf8.acceptRanges", laid_unicode_utf8_acceptRanges), ("unicode/utf8.first", laid_unicode_utf8_first)] }
def KeyIDsSaid : Prop := keyIDsRow.holds Tryd.pinned (OpenSpec.ofChange keyIDsSpec)

/-- ITS FALSE NEIGHBOUR: 'it returns false'. Refute it at one input. -/
def keyIDsWrong : ChangeSpec := { name := "keyIDs", fn := fun _ => fun
  | [d1, d2, d3] => { results := [.lit (.bool false)], args := [d1, d2, d3] }
  | _ => none }
def KeyIDsWrongFalsely : Prop := keyIDsRow.holds Tryd.pinned (OpenSpec.ofChange keyIDsWrong)

/-- 'dowserlaw08.KeyAfter': WHATEVER THE INPUT: true; the input reads as it did. -/
def keyAfterSpec : ChangeSpec := { name := "keyAfter", fn := fun _ => fun
  | [d1, d2] => { results := [.lit (.bool true)], args := [d1, d2] }
  | _ => none }
def keyAfterRow : OpenClaim := { program := "ytknfnhmkiooifaadoor", sum := "90e938e750d6664d578a1593aa199c53af809fe4e5a45a47ec207b880a1abda2", func := "dowser/dowserlaw08.KeyAfter", spec := "keyAfter", inPlace := ["math.Float64frombits", "math.Float64bits", "internal/bytealg.Count", "internal/bytealg.IndexByte", "internal/bytealg.Index"], named := ["internal/bytealg.MaxLen", "unicode/utf8.first", "unicode/utf8.acceptRanges"], apart := false, laid := [("unicode/utf8.acceptRanges", laid_unicode_utf8_acceptRanges), ("unicode/utf8.first", laid_unicode_utf8_first)] }
def KeyAfterSaid : Prop := keyAfterRow.holds Tryd.pinned (OpenSpec.ofChange keyAfterSpec)

/-- ITS FALSE NEIGHBOUR: 'it returns false'. Refute it at one input. -/
def keyAfterWrong : ChangeSpec := { name := "keyAfter", fn := fun _ => fun
  | [d1, d2] => { results := [.lit (.bool false)], args := [d1, d2] }
  | _ => none }
def KeyAfterWrongFalsely : Prop := keyAfterRow.holds Tryd.pinned (OpenSpec.ofChange keyAfterWrong)

/-- 'dowserlaw08.KeyApart': WHATEVER THE INPUT: true; the input reads as it did. -/
def keyApartSpec : ChangeSpec := { name := "keyApart", fn := fun _ => fun
  | [d1, d2] => { results := [.lit (.bool true)], args := [d1, d2] }
  | _ => none }
def keyApartRow : OpenClaim := { program := "ytknfnhmkiooifaadoor", sum := "90e938e750d6664d578a1593aa199c53af809fe4e5a45a47ec207b880a1abda2", func := "dowser/dowserlaw08.KeyApart", spec := "keyApart", inPlace := ["math.Float64frombits", "math.Float64bits", "internal/bytealg.Count", "internal/bytealg.IndexByte", "internal/bytealg.Index"], named := ["internal/bytealg.MaxLen", "unicode/utf8.first", "unicode/utf8.acceptRanges"], apart := false, laid := [("unicode/utf8.acceptRanges", laid_unicode_utf8_acceptRanges), ("unicode/utf8.first", laid_unicode_utf8_first)] }
def KeyApartSaid : Prop := keyApartRow.holds Tryd.pinned (OpenSpec.ofChange keyApartSpec)

/-- ITS FALSE NEIGHBOUR: 'it returns false'. Refute it at one input. -/
def keyApartWrong : ChangeSpec := { name := "keyApart", fn := fun _ => fun
  | [d1, d2] => { results := [.lit (.bool false)], args := [d1, d2] }
  | _ => none }
def KeyApartWrongFalsely : Prop := keyApartRow.holds Tryd.pinned (OpenSpec.ofChange keyApartWrong)

/-- 'dowserlaw08.KeyReads': WHATEVER THE INPUT: true; the input reads as it did. -/
def keyReadsSpec : ChangeSpec := { name := "keyReads", fn := fun _ => fun
  | [d1, d2] => { results := [.lit (.bool true)], args := [d1, d2] }
  | _ => none }
def keyReadsRow : OpenClaim := { program := "ytknfnhmkiooifaadoor", sum := "90e938e750d6664d578a1593aa199c53af809fe4e5a45a47ec207b880a1abda2", func := "dowser/dowserlaw08.KeyReads", spec := "keyReads", inPlace := ["math.Float64frombits", "math.Float64bits", "internal/bytealg.Count", "internal/bytealg.IndexByte", "internal/bytealg.Index"], unfollowed := true, recurses := true, named := ["internal/bytealg.MaxLen", "unicode/utf8.first", "unicode/utf8.acceptRanges"], apart := false, laid := [("unicode/utf8.acceptRanges", laid_unicode_utf8_acceptRanges), ("unicode/utf8.first", laid_unicode_utf8_first)] }
def KeyReadsSaid : Prop := keyReadsRow.holds Tryd.pinned (OpenSpec.ofChange keyReadsSpec)

/-- ITS FALSE NEIGHBOUR: 'it returns false'. Refute it at one input. -/
def keyReadsWrong : ChangeSpec := { name := "keyReads", fn := fun _ => fun
  | [d1, d2] => { results := [.lit (.bool false)], args := [d1, d2] }
  | _ => none }
def KeyReadsWrongFalsely : Prop := keyReadsRow.holds Tryd.pinned (OpenSpec.ofChange keyReadsWrong)

/-- 'dowserlaw08.KeyWrites': WHATEVER THE INPUT: true; the input reads as it did. -/
def keyWritesSpec : ChangeSpec := { name := "keyWrites", fn := fun _ => fun
  | [d1, d2] => { results := [.lit (.bool true)], args := [d1, d2] }
  | _ => none }
def keyWritesRow : OpenClaim := { program := "ytknfnhmkiooifaadoor", sum := "90e938e750d6664d578a1593aa199c53af809fe4e5a45a47ec207b880a1abda2", func := "dowser/dowserlaw08.KeyWrites", spec := "keyWrites", inPlace := ["math.Float64frombits", "math.Float64bits", "internal/bytealg.Count", "internal/bytealg.IndexByte", "internal/bytealg.Index"], unfollowed := true, recurses := true, named := ["internal/bytealg.MaxLen", "unicode/utf8.first", "unicode/utf8.acceptRanges"], apart := false, laid := [("unicode/utf8.acceptRanges", laid_unicode_utf8_acceptRanges), ("unicode/utf8.first", laid_unicode_utf8_first)] }
def KeyWritesSaid : Prop := keyWritesRow.holds Tryd.pinned (OpenSpec.ofChange keyWritesSpec)

/-- ITS FALSE NEIGHBOUR: 'it returns false'. Refute it at one input. -/
def keyWritesWrong : ChangeSpec := { name := "keyWrites", fn := fun _ => fun
  | [d1, d2] => { results := [.lit (.bool false)], args := [d1, d2] }
  | _ => none }
def KeyWritesWrongFalsely : Prop := keyWritesRow.holds Tryd.pinned (OpenSpec.ofChange keyWritesWrong)

/- THE SECOND FORM. 'bulk': how many values and letters a reading holds, each counted each time it is reached (what is shared counts as often as it is met; a slice's spare places count too). A statement '..UptoSaid' is the law's where the arguments, and the package variables that the reading takes, are together of bulk at most 1048576: NARROWER than '..Said'. Prove '..Said' where nothing that the law and all that it calls make is longer than what came in: it says more and counts as full. Else prove '..UptoSaid'. A law counts once. -/
mutual
def uptoBulk {H : Type} : DataW H → Nat
  | .lit (.string bytes) => bytes.length + 1
  | .lit _ => 1
  | .nil => 1
  | .ptr d => uptoBulk d + 1
  | .slice elems spare => uptoBulkAll elems + uptoBulkAll spare + 1
  | .agg parts => uptoBulkAll parts + 1
  | .iface _ d => uptoBulk d + 1
  | .map entries => uptoBulkEntries entries + 1
  | .held _ => 1
def uptoBulkAll {H : Type} : List (DataW H) → Nat
  | [] => 0
  | d :: r => uptoBulk d + uptoBulkAll r
def uptoBulkEntries {H : Type} : List (Lit × DataW H) → Nat
  | [] => 0
  | x :: r => uptoBulkEntry x + uptoBulkEntries r
def uptoBulkEntry {H : Type} : Lit × DataW H → Nat
  | (.string bytes, d) => bytes.length + uptoBulk d + 1
  | (_, d) => uptoBulk d + 1
 end
def uptoSmall : (H : Type) → List (DataW H) → Bool := fun _ ds => decide (uptoBulkAll ds ≤ 1048576)
def OpenSpec.upto (s : _root_.Go.ChangeSpec) : _root_.Go.OpenSpec := { _root_.Go.OpenSpec.ofChange s with cond := some uptoSmall }

/-- 'dowserlaw08.KeyOrders', WHERE WHAT IT READS IS OF BULK AT MOST 1048576: true; the input reads as it did. -/
def keyOrdersUptoRow : OpenClaim := { program := "ytknfnhmkiooifaadoor", sum := "90e938e750d6664d578a1593aa199c53af809fe4e5a45a47ec207b880a1abda2", func := "dowser/dowserlaw08.KeyOrders", spec := "keyOrders", inPlace := ["math.Float64frombits", "math.Float64bits", "internal/bytealg.Count", "internal/bytealg.IndexByte", "internal/bytealg.Index"], named := ["internal/bytealg.MaxLen", "unicode/utf8.first", "unicode/utf8.acceptRanges"], apart := false, laid := [("unicode/utf8.acceptRanges", laid_unicode_utf8_acceptRanges), ("unicode/utf8.first", laid_unicode_utf8_first)], narrowed := true }
def KeyOrdersUptoSaid : Prop := keyOrdersUptoRow.holds Tryd.pinned (OpenSpec.upto keyOrdersSpec)

/-- 'dowserlaw08.KeyIDs', WHERE WHAT IT READS IS OF BULK AT MOST 1048576: true; the input reads as it did. -/
def keyIDsUptoRow : OpenClaim := { program := "ytknfnhmkiooifaadoor", sum := "90e938e750d6664d578a1593aa199c53af809fe4e5a45a47ec207b880a1abda2", func := "dowser/dowserlaw08.KeyIDs", spec := "keyIDs", inPlace := ["math.Float64frombits", "math.Float64bits", "internal/bytealg.Count", "internal/bytealg.IndexByte", "internal/bytealg.Index"], named := ["internal/bytealg.MaxLen", "unicode/utf8.first", "unicode/utf8.acceptRanges"], apart := false, laid := [("unicode/utf8.acceptRanges", laid_unicode_utf8_acceptRanges), ("unicode/utf8.first", laid_unicode_utf8_first)], narrowed := true }
def KeyIDsUptoSaid : Prop := keyIDsUptoRow.holds Tryd.pinned (OpenSpec.upto keyIDsSpec)

/-- 'dowserlaw08.KeyAfter', WHERE WHAT IT READS IS OF BULK AT MOST 1048576: true; the input reads as it did. -/
def keyAfterUptoRow : OpenClaim := { program := "ytknfnhmkiooifaadoor", sum := "90e938e750d6664d578a1593aa199c53af809fe4e5a45a47ec207b880a1abda2", func := "dowser/dowserlaw08.KeyAfter", spec := "keyAfter", inPlace := ["math.Float64frombits", "math.Float64bits", "internal/bytealg.Count", "internal/bytealg.IndexByte", "internal/bytealg.Index"], named := ["internal/bytealg.MaxLen", "unicode/utf8.first", "unicode/utf8.acceptRanges"], apart := false, laid := [("unicode/utf8.acceptRanges", laid_unicode_utf8_acceptRanges), ("unicode/utf8.first", laid_unicode_utf8_first)], narrowed := true }
def KeyAfterUptoSaid : Prop := keyAfterUptoRow.holds Tryd.pinned (OpenSpec.upto keyAfterSpec)

/-- 'dowserlaw08.KeyApart', WHERE WHAT IT READS IS OF BULK AT MOST 1048576: true; the input reads as it did. -/
def keyApartUptoRow : OpenClaim := { program := "ytknfnhmkiooifaadoor", sum := "90e938e750d6664d578a1593aa199c53af809fe4e5a45a47ec207b880a1abda2", func := "dowser/dowserlaw08.KeyApart", spec := "keyApart", inPlace := ["math.Float64frombits", "math.Float64bits", "internal/bytealg.Count", "internal/bytealg.IndexByte", "internal/bytealg.Index"], named := ["internal/bytealg.MaxLen", "unicode/utf8.first", "unicode/utf8.acceptRanges"], apart := false, laid := [("unicode/utf8.acceptRanges", laid_unicode_utf8_acceptRanges), ("unicode/utf8.first", laid_unicode_utf8_first)], narrowed := true }
def KeyApartUptoSaid : Prop := keyApartUptoRow.holds Tryd.pinned (OpenSpec.upto keyApartSpec)

/-- 'dowserlaw08.KeyReads', WHERE WHAT IT READS IS OF BULK AT MOST 1048576: true; the input reads as it did. -/
def keyReadsUptoRow : OpenClaim := { program := "ytknfnhmkiooifaadoor", sum := "90e938e750d6664d578a1593aa199c53af809fe4e5a45a47ec207b880a1abda2", func := "dowser/dowserlaw08.KeyReads", spec := "keyReads", inPlace := ["math.Float64frombits", "math.Float64bits", "internal/bytealg.Count", "internal/bytealg.IndexByte", "internal/bytealg.Index"], unfollowed := true, recurses := true, named := ["internal/bytealg.MaxLen", "unicode/utf8.first", "unicode/utf8.acceptRanges"], apart := false, laid := [("unicode/utf8.acceptRanges", laid_unicode_utf8_acceptRanges), ("unicode/utf8.first", laid_unicode_utf8_first)], narrowed := true }
def KeyReadsUptoSaid : Prop := keyReadsUptoRow.holds Tryd.pinned (OpenSpec.upto keyReadsSpec)

/-- 'dowserlaw08.KeyWrites', WHERE WHAT IT READS IS OF BULK AT MOST 1048576: true; the input reads as it did. -/
def keyWritesUptoRow : OpenClaim := { program := "ytknfnhmkiooifaadoor", sum := "90e938e750d6664d578a1593aa199c53af809fe4e5a45a47ec207b880a1abda2", func := "dowser/dowserlaw08.KeyWrites", spec := "keyWrites", inPlace := ["math.Float64frombits", "math.Float64bits", "internal/bytealg.Count", "internal/bytealg.IndexByte", "internal/bytealg.Index"], unfollowed := true, recurses := true, named := ["internal/bytealg.MaxLen", "unicode/utf8.first", "unicode/utf8.acceptRanges"], apart := false, laid := [("unicode/utf8.acceptRanges", laid_unicode_utf8_acceptRanges), ("unicode/utf8.first", laid_unicode_utf8_first)], narrowed := true }
def KeyWritesUptoSaid : Prop := keyWritesUptoRow.holds Tryd.pinned (OpenSpec.upto keyWritesSpec)

end Rows
end Go.Proofs.YtknfnhmkiooifaaDoor
