/-
  Parts of disk's Write: the write that is built, Clip.
-/
import Derived.Test.YthbanhedjfpmaaaDiskStrike
import Derived.Test.YthbanhedjfpmaaaBuild
namespace Go.Proofs.Ythbanhedjfpmaaa
set_option linter.unusedSimpArgs false
set_option linter.unusedVariables false
open Go.RowKit

theorem infoInt : (Try.prog.info? 3).map (·.size) = some 1 := by kernel_rfl
theorem sizeOfDW (w : World) : (sizeOf 3).run Try.prog w = .ok 1 w ∧ (sizeOf 95).run Try.prog w = .ok 512 w := by
  constructor
  · cases hq : Try.prog.info? 3 with
    | none => have := infoInt; rw [hq] at this; cases this
    | some i => have := infoInt; rw [hq] at this; simp [sizeOf, typeInfo, hq]; simpa using this
  · cases hq : Try.prog.info? 95 with
    | none => have := infoArr; rw [hq] at this; cases this
    | some i => have := infoArr; rw [hq] at this; simp [sizeOf, typeInfo, hq]; simpa using this
theorem build_write (w : World) (n : Int) : (Instr.build 97 #[(0, .int .i64 n)]).run Try.prog w = .ok (.agg (Value.int .i64 n :: zBytes 512).toArray) w := by
  obtain ⟨h1, h2⟩ := sizeOfDW w
  have hf : Instr.fill (fun x => ([(0, 1), (1, 512)] : List (Nat × Nat))[x]?) eDW.zero.cells [(0, .int .i64 n)] = some (Value.int .i64 n :: zBytes 512).toArray := by
    unfold Instr.fill
    simp only [List.getElem?_cons_zero]
    rw [if_neg (by rw [eDW.zsz]; exact (by decide : ¬(decide ((1 : Nat) ≠ 1) || decide (0 + 1 > 513)) = true))]
    unfold Instr.fill
    have := fold_set_arr (.int .i64 n) eDW.zero.cells 0
    rw [this]
    rfl
  simp only [Instr.build, Sem.run_bind, zeroDW, Result.andThen_ok, run_underlying Try.underlying97]
  simp [List.mapM_cons, Sem.run_bind, h1, h2, hf]

set_option maxHeartbeats 400000 in
theorem clip_any (w : World) (A : Option Addr) (n c : Nat) (hn : n ≤ c) (hc : c ≤ maxLen) (h0 : A = none → c = 0) :
    Calls Try.prog 48 #[.slice A n c] w fun e w' => e = .returned (.slice A n n) ∧ w = w' := by
  unfold maxLen at hc
  cases A with
  | none =>
    obtain rfl := h0 rfl
    obtain rfl : n = 0 := by omega
    go_enter Try.func48, Try.ntmps48
    go_wp2_with fail
    go_ret
    exact ⟨rfl, rfl⟩
  | some a =>
    have hni : (n : Int) ≤ (c : Int) := by omega
    clear h0
    go_enter Try.func48, Try.ntmps48
    go_wp2_with fail
    go_ret
    exact ⟨rfl, rfl⟩
end Go.Proofs.Ythbanhedjfpmaaa
