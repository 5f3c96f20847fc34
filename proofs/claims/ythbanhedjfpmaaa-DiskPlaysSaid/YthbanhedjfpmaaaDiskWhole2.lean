/-
  The walk of DiskWhole, whatever comes in.
-/
import Derived.Test.YthbanhedjfpmaaaDiskWhole
namespace Go.Proofs.Ythbanhedjfpmaaa
set_option linter.unusedSimpArgs false
set_option linter.unusedVariables false
open Go.RowKit

set_option maxRecDepth 20000 in
set_option maxHeartbeats 1000000 in
theorem diskWhole_walk (w : World) (v1 : Value) (s1 : ScriptD w v1) (all : Bool) :
    Calls Try.prog 4 #[v1, .bool all] w fun e w' => e = .returned (.bool true) ∧ Below w.heap.size w w' := by
  obtain ⟨A1, c1, L1, rfl, hr1, hf1, -, -⟩ := s1
  have HF1 := Lib.hid (fun w' (hb : Below w.heap.size w w') => fits_any w' 1 A1 c1 L1 (hr1.below hb) (fun o ho => ⟨(hf1 o ho).s, Nat.le_trans (hf1 o ho).len (hf1 o ho).cap⟩))
  cases h1 : fitsD 1 L1 with
  | true => exact diskWhole_fit w A1 c1 L1 hr1 hf1 all h1
  | false =>
    rw [h1] at HF1
    clear hr1 hf1 h1
    go_enter Try.func4, Try.ntmps4
    go_wp2_with fail
    refine (lives_any w).mono ?_
    rintro e w1 ⟨rfl, hB⟩
    have HB1 := Lib.hid hB
    clear hB
    go_wp2_with fail
    refine (HF1.out w1 HB1.out).mono ?_
    rintro e w2 ⟨rfl, hB⟩
    have HB2 := Lib.hid (HB1.out.trans (hB.mono HB1.out.size))
    clear hB HB1
    go_wp2_with fail
    refine (lives_any w2).mono ?_
    rintro e w9 ⟨rfl, hB⟩
    have HB9 := Lib.hid (HB2.out.trans (hB.mono HB2.out.size))
    clear hB
    go_wp2_with fail
    go_ret
    exact ⟨rfl, HB9.out⟩
end Go.Proofs.Ythbanhedjfpmaaa
