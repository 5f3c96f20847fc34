/-
  The walk of DiskPlays, whatever comes in.
-/
import Derived.Test.YthbanhedjfpmaaaDiskPlays
namespace Go.Proofs.Ythbanhedjfpmaaa
set_option linter.unusedSimpArgs false
set_option linter.unusedVariables false
open Go.RowKit

set_option maxRecDepth 20000 in
set_option maxHeartbeats 1000000 in
theorem diskPlays_walk (w : World) (n : Int) (_wn : (Lit.int .i64 n).wf = true) (v1 : Value) (s1 : ScriptD w v1) :
    Calls Try.prog 6 #[.int .i64 n, v1] w fun e w' => e = .returned (.bool true) ∧ Below w.heap.size w w' := by
  obtain ⟨A1, c1, L1, rfl, hr1, hf1, -, -⟩ := s1
  have HF1 := Lib.hid (fun w' (hb : Below w.heap.size w w') => fits_any w' n A1 c1 L1 (hr1.below hb) (fun o ho => ⟨(hf1 o ho).s, Nat.le_trans (hf1 o ho).len (hf1 o ho).cap⟩))
  cases h1 : fitsD n L1 with
  | true =>
    obtain ⟨hn, -, -⟩ := fitsD_all h1
    obtain ⟨m, rfl⟩ : ∃ m : Nat, n = (m : Int) := ⟨n.toNat, by omega⟩
    exact diskPlays_fit w m A1 c1 L1 hr1 hf1 h1
  | false =>
    rw [h1] at HF1
    clear hr1 hf1 h1
    go_enter Try.func6, Try.ntmps6
    go_wp2_with fail
    refine (lives_any w).mono ?_
    rintro e w1 ⟨rfl, hB⟩
    have HB1 := Lib.hid hB
    clear hB
    go_wp2_with fail
    refine (HF1.out w1 HB1.out).mono ?_
    rintro e w2 ⟨rfl, hB⟩
    have HB2 := Lib.hid (HB1.out.trans (hB.mono HB1.out.size))
    clear hB HB1
    go_wp2_with fail
    refine (lives_any w2).mono ?_
    rintro e w9 ⟨rfl, hB⟩
    have HB9 := Lib.hid (HB2.out.trans (hB.mono HB2.out.size))
    clear hB
    go_wp2_with fail
    go_ret
    exact ⟨rfl, HB9.out⟩
end Go.Proofs.Ythbanhedjfpmaaa
