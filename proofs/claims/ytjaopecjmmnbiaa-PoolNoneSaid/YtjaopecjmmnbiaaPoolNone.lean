/-
  The walk of dowserlaw05.PoolNone.
-/
import Derived.Test.YtjaopecjmmnbiaaPoolLives
namespace Go.Proofs.Ytjaopecjmmnbiaa
set_option linter.unusedSimpArgs false
set_option linter.unusedVariables false
open Go.RowKit Go.Maps

set_option maxRecDepth 20000 in
set_option maxHeartbeats 1000000 in
theorem poolNone_walk (w : World) (n : Int) (_wf : (Lit.int .i64 n).wf = true) (A : Option Addr) (c : Nat) (l : List UInt8) (_br : BRow w A l) (_lc : l.length ≤ c) (_cm : c ≤ maxLen) :
    Calls Try.prog 7 #[.int .i64 n, .slice A l.length c] w fun e w' => e = .returned (.bool true) ∧ Below w.heap.size w w' := by
  go_enter Try.func7, Try.ntmps7
  go_wp2_with fail
  refine (lives_any w).mono ?_
  rintro e w1 ⟨rfl, hB⟩
  have HB := Lib.hid hB
  clear hB
  go_wp2_with fail
  refine (get_nil w1 n).mono ?_
  rintro e w2 ⟨rfl, rfl⟩
  go_wp2_with fail
  refine (counts_nil w1).mono ?_
  rintro e w2 ⟨rfl, rfl⟩
  go_wp2_with fail
  refine (put_nil w1 n A l.length c).mono ?_
  rintro e w2 ⟨rfl, rfl⟩
  go_wp2_with fail
  refine (drop_nil w1 n).mono ?_
  rintro e w2 ⟨rfl, rfl⟩
  go_wp2_with fail
  refine (pages_nil w1).mono ?_
  rintro e w2 ⟨rfl, rfl⟩
  go_wp2_with fail
  go_ret
  exact ⟨rfl, HB.out⟩
end Go.Proofs.Ytjaopecjmmnbiaa
