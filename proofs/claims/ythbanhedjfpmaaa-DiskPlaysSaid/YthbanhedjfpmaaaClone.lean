/-
  The contract of slices.Clone of bytes.
-/
import Derived.Test.YthbanhedjfpmaaaBase
namespace Go.Proofs.Ythbanhedjfpmaaa
set_option linter.unusedSimpArgs false
set_option linter.unusedVariables false
open Go.RowKit

set_option maxHeartbeats 400000 in
theorem clone_any (w : World) (A : Option Addr) (c : Nat) (l : List UInt8) (hr : BRow w A l) (hl : l.length ≤ 1000000) :
    Calls Try.prog 50 #[.slice A l.length c] w (RetB w l) := by
  cases A with
  | none =>
    have hl0 : l = [] := by
      cases l with
      | nil => rfl
      | cons x l => obtain ⟨b, o, h, _⟩ := hr (by simp); cases h
    subst hl0
    have hq := Lib.run_eql_slice_nil (P := Try.prog) w 33 5 none 0 c 0 0 Try.underlying33
    go_enter Try.func50, Try.ntmps50
    go_wp2_with fail
    go_ret
    exact ⟨none, 0, rfl, BOwn.nil _ _, Below.refl _ _⟩
  | some a =>
    have hq := Lib.run_eql_slice_nil (P := Try.prog) w 33 5 (some a) l.length c 0 0 Try.underlying33
    go_enter Try.func50, Try.ntmps50
    have hoe : BOwn (w.alloc (.cells #[] 5)) w.heap.size (some ⟨w.heap.size, 0, none⟩) 0 [] := BOwn.new w [] (by simp) (Nat.le_refl _)
    go_wp2_with (at_builtin; refine wpList_append_bytes rfl (.tmp 5) (.tmp 6) rfl _ rfl hoe rfl _ rfl (hr.alloc _) rfl (by simp; omega) (by simp) ?_; intro A3 c3 w3 ho3 hb3 _ _)
    go_ret
    rw [List.nil_append] at ho3
    exact ⟨A3, c3, by simp, ho3, ((Below.refl _ _).alloc (Nat.le_refl _) _).trans hb3⟩

end Go.Proofs.Ythbanhedjfpmaaa
