/-
  The contracts of slices.Clone of falls, of writes, of blocks; of disk's Plan; of the methods of a nil disk.
-/
import Derived.Test.YthbanhedjfpmaaaDisk1
namespace Go.Proofs.Ythbanhedjfpmaaa
set_option linter.unusedSimpArgs false
set_option linter.unusedVariables false
open Go.RowKit

/-- What a call answers that hands back a new row and leaves all that was there alone. -/
def RetE {α : Type} (E : Elem α) (W : World) (L : List α) (e : Ending) (w' : World) : Prop :=
  ∃ A c, e = .returned (.slice A L.length c) ∧ EOwn E w' W.heap.size A c L ∧ Below W.heap.size W w'
theorem ERow.none_nil {α : Type} {E : Elem α} {w : World} {L : List α} (h : ERow E w none L) : L = [] := by
  cases L with
  | nil => rfl
  | cons x L => obtain ⟨b, o, h, _⟩ := h (by simp); cases h

set_option maxRecDepth 20000 in
set_option maxHeartbeats 400000 in
theorem clonef_any (w : World) (A : Option Addr) (c : Nat) (L : List DF) (hr : ERow eDF w A L) (hl : L.length ≤ 1000000) : Calls Try.prog 53 #[.slice A L.length c] w (RetE eDF w L) := by
  cases A with
  | none =>
    have hl0 := hr.none_nil
    subst hl0
    have hq := Lib.run_eql_slice_nil (P := Try.prog) w 34 25 none 0 c 0 0 Try.underlying34
    go_enter Try.func53, Try.ntmps53
    go_wp2_with fail
    go_ret
    exact ⟨none, 0, rfl, EOwn.nil _ _, Below.refl _ _⟩
  | some a =>
    have hq := Lib.run_eql_slice_nil (P := Try.prog) w 34 25 (some a) L.length c 0 0 Try.underlying34
    have HR := Lib.hid (hr.below (fresh1 (w := w) (a := []) (t := 25) rfl).2.2)
    clear hr
    go_enter Try.func53, Try.ntmps53
    go_wp2_with (at_builtin; refine wpList_append_elems eDF rfl (.tmp 5) (.tmp 6) rfl 0 rfl ((fresh1 rfl).1.own eDF (B := w.heap.size) [] rfl (by simp) (Nat.le_refl _)) rfl _ rfl HR.out rfl (by simp; omega) (by simp) ?_; intro A3 c3 w3 ho3 hb3 _ _)
    go_ret
    rw [List.nil_append] at ho3
    exact ⟨A3, c3, by simp, ho3, ((Below.refl _ _).alloc (Nat.le_refl _) _).trans hb3⟩
set_option maxRecDepth 20000 in
set_option maxHeartbeats 400000 in
theorem clonew_any (w : World) (A : Option Addr) (c : Nat) (L : List DW) (hr : ERow eDW w A L) (hl : L.length ≤ 1000000) : Calls Try.prog 52 #[.slice A L.length c] w (RetE eDW w L) := by
  cases A with
  | none =>
    have hl0 := hr.none_nil
    subst hl0
    have hq := Lib.run_eql_slice_nil (P := Try.prog) w 91 97 none 0 c 0 0 Try.underlying91
    go_enter Try.func52, Try.ntmps52
    go_wp2_with fail
    go_ret
    exact ⟨none, 0, rfl, EOwn.nil _ _, Below.refl _ _⟩
  | some a =>
    have hq := Lib.run_eql_slice_nil (P := Try.prog) w 91 97 (some a) L.length c 0 0 Try.underlying91
    have HR := Lib.hid (hr.below (fresh1 (w := w) (a := []) (t := 97) rfl).2.2)
    clear hr
    go_enter Try.func52, Try.ntmps52
    go_wp2_with (at_builtin; refine wpList_append_elems eDW rfl (.tmp 5) (.tmp 6) rfl 0 rfl ((fresh1 rfl).1.own eDW (B := w.heap.size) [] rfl (by simp) (Nat.le_refl _)) rfl _ rfl HR.out rfl (by simp; omega) (by simp) ?_; intro A3 c3 w3 ho3 hb3 _ _)
    go_ret
    rw [List.nil_append] at ho3
    exact ⟨A3, c3, by simp, ho3, ((Below.refl _ _).alloc (Nat.le_refl _) _).trans hb3⟩
set_option maxRecDepth 20000 in
set_option maxHeartbeats 400000 in
theorem cloneb_any (w : World) (A : Option Addr) (c : Nat) (L : List DB) (hr : ERow eDB w A L) (hl : L.length ≤ 1000000) : Calls Try.prog 51 #[.slice A L.length c] w (RetE eDB w L) := by
  cases A with
  | none =>
    have hl0 := hr.none_nil
    subst hl0
    have hq := Lib.run_eql_slice_nil (P := Try.prog) w 90 99 none 0 c 0 0 Try.underlying90
    go_enter Try.func51, Try.ntmps51
    go_wp2_with fail
    go_ret
    exact ⟨none, 0, rfl, EOwn.nil _ _, Below.refl _ _⟩
  | some a =>
    have hq := Lib.run_eql_slice_nil (P := Try.prog) w 90 99 (some a) L.length c 0 0 Try.underlying90
    have HR := Lib.hid (hr.below (fresh1 (w := w) (a := []) (t := 99) rfl).2.2)
    clear hr
    go_enter Try.func51, Try.ntmps51
    go_wp2_with (at_builtin; refine wpList_append_elems eDB rfl (.tmp 5) (.tmp 6) rfl 0 rfl ((fresh1 rfl).1.own eDB (B := w.heap.size) [] rfl (by simp) (Nat.le_refl _)) rfl _ rfl HR.out rfl (by simp; omega) (by simp) ?_; intro A3 c3 w3 ho3 hb3 _ _)
    go_ret
    rw [List.nil_append] at ho3
    exact ⟨A3, c3, by simp, ho3, ((Below.refl _ _).alloc (Nat.le_refl _) _).trans hb3⟩

set_option maxRecDepth 20000 in
set_option maxHeartbeats 1000000 in
theorem plan_any (w : World) (B : Nat) (k : KB) (d : DS) (h : DiskAt w B k d) (A : Option Addr) (c : Nat) (L : List DF) (hr : ERow eDF w A L) (hl : L.length ≤ 1000000) :
    Calls Try.prog 24 #[.pointer (some ⟨k.gd, 0, none⟩), .slice A L.length c] w fun e w' => e = .returned (.tuple #[]) ∧ DiskAt w' B k { d with falls := L } ∧ w.grownBy w' (some k.gd) := by
  have HC := Lib.hid (clonef_any w A c L hr hl)
  have HH := Lib.hid h
  obtain ⟨hne, hlt, hlt2, hB⟩ := h.head
  clear h hr
  go_enter Try.func24, Try.ntmps24
  go_wp2_with fail
  refine HC.out.mono ?_
  intro e w1 hI
  obtain ⟨A1, c1, rfl, ho1, hb1⟩ := hI
  obtain ⟨⟨cb, np, cp, nf, cf, Ap, Af, rfl, rfl, h3, h4, h5, h6, h7, h8, h9, h10, h11⟩, lo⟩ := HH.out.below hb1
  have hc := h6.c5
  have HS := Lib.hid (And.intro h6 (And.intro h7 (And.intro h8 (And.intro ho1 hb1))))
  clear h6 h7 h8 h9 ho1 hb1
  go_wp2_with fail
  obtain ⟨h6, h7, h8, ho1, hb1⟩ := HS.out
  go_end0
  refine ⟨rfl, ⟨⟨cb, _, cp, _, c1, Ap, A1, rfl, rfl, h3, h4, h5, h6.set 2 (.slice A1 L.length c1), ?_, ?_, ?_, h10, ?_⟩, lo⟩, (grown_of_below hb1 _).set_ ⟨k.gd, 2, none⟩ rfl _⟩
  · exact h7.set _ (fun a ha => by obtain rfl := Option.some.inj ha; exact fun e => hne e.symm) _
  · exact h8.keep2 (by simp) (fun a ha _ => heap_setCell_other w1 ⟨k.gd, 2, none⟩ _ _ (fun e => h10 a ha (.inl e)))
  · exact (ho1.mono (show B ≤ w.heap.size by omega)).keep2 (by simp) (fun a ha _ => heap_setCell_other w1 ⟨k.gd, 2, none⟩ _ _ (fun e => by have h := (ho1.block a ha).1; rw [e] at h; simp only at h; omega))
  · intro a ha ho
    have h := (ho1.block a ha).1
    rcases ho with e | e <;> omega

/-! A nil disk -/
set_option maxHeartbeats 400000 in
theorem down_nil (w : World) : Calls Try.prog 25 #[.pointer none] w fun e w' => e = .returned (.bool true) ∧ w = w' := by
  go_enter Try.func25, Try.ntmps25
  go_wp2_with fail
  go_ret
  exact ⟨rfl, rfl⟩
set_option maxHeartbeats 400000 in
theorem up_nil (w : World) : Calls Try.prog 20 #[.pointer none] w fun e w' => e = .returned (.bool false) ∧ w = w' := by
  go_enter Try.func20, Try.ntmps20
  go_wp2_with fail
  go_ret
  exact ⟨rfl, rfl⟩
set_option maxHeartbeats 400000 in
theorem pending_nil (w : World) : Calls Try.prog 22 #[.pointer none] w fun e w' => e = .returned (.int .i64 0) ∧ w = w' := by
  go_enter Try.func22, Try.ntmps22
  go_wp2_with fail
  go_ret
  exact ⟨rfl, rfl⟩
set_option maxHeartbeats 400000 in
theorem changes_nil (w : World) : Calls Try.prog 26 #[.pointer none] w fun e w' => e = .returned (.int .i64 0) ∧ w = w' := by
  go_enter Try.func26, Try.ntmps26
  go_wp2_with fail
  go_ret
  exact ⟨rfl, rfl⟩
set_option maxHeartbeats 400000 in
theorem blocks_nil (w : World) : Calls Try.prog 27 #[.pointer none] w fun e w' => e = .returned (.int .i64 0) ∧ w = w' := by
  go_enter Try.func27, Try.ntmps27
  go_wp2_with fail
  go_ret
  exact ⟨rfl, rfl⟩
set_option maxHeartbeats 400000 in
theorem dclone_nil (w : World) : Calls Try.prog 23 #[.pointer none] w fun e w' => e = .returned (.pointer none) ∧ w = w' := by
  go_enter Try.func23, Try.ntmps23
  go_wp2_with fail
  go_ret
  exact ⟨rfl, rfl⟩
set_option maxHeartbeats 400000 in
theorem has_nil (w : World) (i : Int) : Calls Try.prog 47 #[.pointer none, .int .i64 i] w fun e w' => e = .returned (.int .i64 6) ∧ w = w' := by
  go_enter Try.func47, Try.ntmps47
  go_wp2_with fail
  refine (down_nil w).mono ?_
  rintro e w1 ⟨rfl, rfl⟩
  go_wp2_with fail
  go_ret
  exact ⟨rfl, rfl⟩
set_option maxHeartbeats 400000 in
theorem read_nil (w : World) (i : Int) : Calls Try.prog 21 #[.pointer none, .int .i64 i] w fun e w' => e = .returned (.tuple #[.slice none 0 0, .int .i64 6]) ∧ w = w' := by
  go_enter Try.func21, Try.ntmps21
  go_wp2_with fail
  refine (has_nil w i).mono ?_
  rintro e w1 ⟨rfl, rfl⟩
  go_wp2_with fail
  go_ret2
  exact ⟨rfl, rfl⟩
set_option maxHeartbeats 400000 in
theorem write_nil (w : World) (i : Int) (A : Option Addr) (l c : Nat) : Calls Try.prog 17 #[.pointer none, .int .i64 i, .slice A l c] w fun e w' => e = .returned (.int .i64 6) ∧ w = w' := by
  go_enter Try.func17, Try.ntmps17
  go_wp2_with fail
  refine (has_nil w i).mono ?_
  rintro e w1 ⟨rfl, rfl⟩
  go_wp2_with fail
  go_ret
  exact ⟨rfl, rfl⟩
set_option maxHeartbeats 400000 in
theorem flush_nil (w : World) : Calls Try.prog 18 #[.pointer none] w fun e w' => e = .returned (.int .i64 6) ∧ w = w' := by
  go_enter Try.func18, Try.ntmps18
  go_wp2_with fail
  refine (down_nil w).mono ?_
  rintro e w1 ⟨rfl, rfl⟩
  go_wp2_with fail
  go_ret
  exact ⟨rfl, rfl⟩
set_option maxHeartbeats 400000 in
theorem plan_nil (w : World) (A : Option Addr) (l c : Nat) : Calls Try.prog 24 #[.pointer none, .slice A l c] w fun e w' => e = .returned (.tuple #[]) ∧ Below w.heap.size w w' := by
  go_enter Try.func24, Try.ntmps24
  go_wp2_with fail
  refine bodyPost_end (v := .tuple #[]) ?_ ?_ ?_
  · exact results_none rfl _ _ _
  · rfl
  · exact ⟨rfl, Below.refl _ _⟩
set_option maxHeartbeats 400000 in
theorem crash_nil (w : World) (a k t : Int) : Calls Try.prog 19 #[.pointer none, .agg #[.int .i64 a, .int .u64 k, .int .i64 t]] w fun e w' => e = .returned (.tuple #[]) ∧ Below w.heap.size w w' := by
  go_enter Try.func19, Try.ntmps19
  go_wp2_with fail
  refine (down_nil _).mono ?_
  rintro e w1 ⟨rfl, rfl⟩
  go_wp2_with fail
  exact bodyPost_ret (v := .tuple #[]) (results_none rfl _ _ _) rfl ⟨rfl, (Below.refl _ _).alloc (Nat.le_refl _) _⟩
end Go.Proofs.Ythbanhedjfpmaaa
