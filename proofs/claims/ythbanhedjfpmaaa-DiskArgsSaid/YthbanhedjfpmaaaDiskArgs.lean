/-
  The walk of DiskArgs.
-/
import Derived.Test.YthbanhedjfpmaaaDiskLives
namespace Go.Proofs.Ythbanhedjfpmaaa
set_option linter.unusedSimpArgs false
set_option linter.unusedVariables false
open Go.RowKit

set_option maxRecDepth 20000 in
set_option maxHeartbeats 1000000 in
theorem diskArgs_refused (w : World) (n i : Int) (h : n < 1 ∨ 4096 < n) :
    Calls Try.prog 7 #[.int .i64 n, .int .i64 i] w fun e w' => e = .returned (.bool true) ∧ Below w.heap.size w w' := by
  go_enter Try.func7, Try.ntmps7
  go_wp2_with fail
  refine (lives_any w).mono ?_
  rintro e w0 ⟨rfl, hB⟩
  have HB := Lib.hid hB
  clear hB
  go_wp2_with fail
  refine (dnew_refused w0 n h).mono ?_
  rintro e w1 ⟨rfl, rfl⟩
  go_wp2_with fail
  refine (read_nil w0 i).mono ?_
  rintro e w8 ⟨rfl, rfl⟩
  go_wp2_with fail
  refine (fill_any w0 1 []).mono ?_
  rintro e w2 ⟨A, c, rfl, -, hb⟩
  have HF := Lib.hid hb
  clear hb
  go_wp2_with fail
  refine (write_nil w2 i A 512 c).mono ?_
  rintro e w8 ⟨rfl, rfl⟩
  go_wp2_with fail
  refine (flush_nil w2).mono ?_
  rintro e w8 ⟨rfl, rfl⟩
  go_wp2_with fail
  refine (up_nil w2).mono ?_
  rintro e w8 ⟨rfl, rfl⟩
  go_wp2_with fail
  refine (down_nil w2).mono ?_
  rintro e w8 ⟨rfl, rfl⟩
  go_wp2_with fail
  refine (pending_nil w2).mono ?_
  rintro e w8 ⟨rfl, rfl⟩
  go_wp2_with fail
  refine (changes_nil w2).mono ?_
  rintro e w8 ⟨rfl, rfl⟩
  go_wp2_with fail
  refine (blocks_nil w2).mono ?_
  rintro e w8 ⟨rfl, rfl⟩
  go_wp2_with fail
  refine (dclone_nil w2).mono ?_
  rintro e w8 ⟨rfl, rfl⟩
  go_wp2_with fail
  refine (plan_nil w2 none 0 0).mono ?_
  rintro e w3 ⟨rfl, hb⟩
  have HP := Lib.hid hb
  clear hb
  go_wp2_with fail
  refine (crash_nil w3 0 0 0).mono ?_
  rintro e w4 ⟨rfl, hb⟩
  have HB4 : Hid (Below (w0).heap.size w0 w4) := (HF.out.trans (HP.out.mono HF.out.size)).trans (hb.mono (Nat.le_trans HF.out.size HP.out.size))
  clear hb HF HP
  by_cases h1 : n < 1
  · go_wp2_with fail
    go_ret
    exact ⟨rfl, HB.out.trans (HB4.out.mono HB.out.size)⟩
  · have h2 : 4096 < n := by omega
    go_wp2_with fail
    go_ret
    exact ⟨rfl, HB.out.trans (HB4.out.mono HB.out.size)⟩
set_option maxRecDepth 20000 in
set_option maxHeartbeats 1000000 in
theorem diskArgs_out (w : World) (n : Nat) (i : Int) (h0 : 0 < n) (hn : n ≤ 4096) (hi : i < 0 ∨ (n : Int) ≤ i) :
    Calls Try.prog 7 #[.int .i64 (n : Int), .int .i64 i] w fun e w' => e = .returned (.bool true) ∧ Below w.heap.size w w' := by
  have hlo : ¬ (n : Int) < 1 := by omega
  have hhi : ¬ (4096 : Int) < (n : Int) := by omega
  go_enter Try.func7, Try.ntmps7
  go_wp2_with fail
  refine (lives_any w).mono ?_
  rintro e w0 ⟨rfl, hB⟩
  have HB := Lib.hid hB
  clear hB
  go_wp2_with fail
  refine (DL.new (w0 := w) n h0 hn HB.out).mono ?_
  rintro e w1 ⟨k, rfl, hL, -⟩
  have HL := Lib.hid hL
  clear hL HB
  go_wp2_with fail
  refine (read_nil w1 i).mono ?_
  rintro e w8 ⟨rfl, rfl⟩
  go_wp2_with fail
  refine (fill_any w1 1 []).mono ?_
  rintro e w2 ⟨A, c, rfl, -, hb⟩
  have HF := Lib.hid hb
  clear hb
  go_wp2_with fail
  refine (write_nil w2 i A 512 c).mono ?_
  rintro e w8 ⟨rfl, rfl⟩
  go_wp2_with fail
  refine (flush_nil w2).mono ?_
  rintro e w8 ⟨rfl, rfl⟩
  go_wp2_with fail
  refine (up_nil w2).mono ?_
  rintro e w8 ⟨rfl, rfl⟩
  go_wp2_with fail
  refine (down_nil w2).mono ?_
  rintro e w8 ⟨rfl, rfl⟩
  go_wp2_with fail
  refine (pending_nil w2).mono ?_
  rintro e w8 ⟨rfl, rfl⟩
  go_wp2_with fail
  refine (changes_nil w2).mono ?_
  rintro e w8 ⟨rfl, rfl⟩
  go_wp2_with fail
  refine (blocks_nil w2).mono ?_
  rintro e w8 ⟨rfl, rfl⟩
  go_wp2_with fail
  refine (dclone_nil w2).mono ?_
  rintro e w8 ⟨rfl, rfl⟩
  go_wp2_with fail
  refine (plan_nil w2 none 0 0).mono ?_
  rintro e w3 ⟨rfl, hb⟩
  have HP := Lib.hid hb
  clear hb
  go_wp2_with fail
  refine (crash_nil w3 0 0 0).mono ?_
  rintro e w4 ⟨rfl, hb⟩
  have HB4 : Hid (Below (w1).heap.size w1 w4) := (HF.out.trans (HP.out.mono HF.out.size)).trans (hb.mono (Nat.le_trans HF.out.size HP.out.size))
  clear hb HF HP
  have HL4 := Lib.hid (HL.out.below HB4.out)
  clear HL HB4
  have hwhy : (DS.new n).why i = 2 := by
    unfold DS.why
    rw [if_neg (by simp [DS.new]), if_pos (by simpa [DS.new] using hi)]
  have HR := Lib.hid (read_bad w4 _ k (DS.new n) HL4.out.at_ i (by rw [hwhy]; decide))
  rw [hwhy] at HR
  have hwr : ∀ l, (DS.new n).write i l = (DS.new n, 2) := fun l => by unfold DS.write; rw [if_pos (by rw [hwhy]; decide), hwhy]
  have HW := Lib.hid hwr
  clear hwr hwhy
  go_wp2_with fail
  refine HR.out.mono ?_
  rintro e w8 ⟨rfl, rfl⟩
  by_cases hi0 : i < 0
  · skip
    go_wp2_with fail
    refine (fill_any w4 1 []).mono ?_
    rintro e w5 ⟨A, c, rfl, ho, hb⟩
    have HL5 := Lib.hid (And.intro (HL4.out.below hb) ho.row)
    clear ho hb HL4
    go_wp2_with fail
    refine (HL5.out.1.writeB (by decide) i A c _ (fillL_length _ _) HL5.out.2).mono ?_
    rw [HW.out]
    rintro e w6 ⟨rfl, hL6, -⟩
    have HL6 := Lib.hid hL6
    clear hL6 HL5
    go_wp2_with fail
    refine (changes_any w6 _ k _ HL6.out.at_).mono ?_
    rintro e w8 ⟨rfl, rfl⟩
    go_wp2_with fail
    go_ret
    exact ⟨rfl, HL6.out.bel⟩
  · have hi1 : (n : Int) ≤ i := by omega
    go_wp2_with fail
    refine (fill_any w4 1 []).mono ?_
    rintro e w5 ⟨A, c, rfl, ho, hb⟩
    have HL5 := Lib.hid (And.intro (HL4.out.below hb) ho.row)
    clear ho hb HL4
    go_wp2_with fail
    refine (HL5.out.1.writeB (by decide) i A c _ (fillL_length _ _) HL5.out.2).mono ?_
    rw [HW.out]
    rintro e w6 ⟨rfl, hL6, -⟩
    have HL6 := Lib.hid hL6
    clear hL6 HL5
    go_wp2_with fail
    refine (changes_any w6 _ k _ HL6.out.at_).mono ?_
    rintro e w8 ⟨rfl, rfl⟩
    go_wp2_with fail
    go_ret
    exact ⟨rfl, HL6.out.bel⟩
end Go.Proofs.Ythbanhedjfpmaaa
