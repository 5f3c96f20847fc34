/-
  Texts of a proof, one behind the other (each with its own head).
-/
import Derived.Test.YtjdffhonljhpcaaGreatPartAnonmplec
import Derived.Lib.BytesEntry
import Derived.Lib.IndexLaws
import Derived.Laws.Externs
import Derived.Laws.CopyOwn
section
/-
  bytes.Count, bytes.Index, bytes.Replace and bytes.ReplaceAll at a byte 0, for which 0 255 is put.
-/
namespace Go.Proofs.YtjdffhonljhpcaaGreat
set_option linter.unusedSimpArgs false
set_option linter.unusedVariables false
open Go.RowKit

/-! What is put for a byte 0 -/
end Go.Proofs.YtjdffhonljhpcaaGreat
end

