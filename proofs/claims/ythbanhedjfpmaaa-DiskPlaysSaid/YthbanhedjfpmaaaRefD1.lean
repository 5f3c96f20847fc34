/-
  The document's disk: Why, Now, Crash.
-/
import Derived.Test.YthbanhedjfpmaaaRefD0
namespace Go.Proofs.Ythbanhedjfpmaaa
set_option linter.unusedSimpArgs false
set_option linter.unusedVariables false
open Go.RowKit

/-- A disk as the document has it. -/
def DS.rx (d : DS) : RX := ⟨d.blocks.map (·.sure.l), d.pending.map fun x => (x.at_, x.b.l), d.falls, d.changes, d.down⟩
set_option maxHeartbeats 1000000 in
theorem refwhy_any (S : Nat → Prop) (w : World) (d : DS) (c : List Value) (h : RefX S w c d.rx) (i : Int) : Calls Try.prog 55 #[.agg c.toArray, .int .i64 i] w fun e w' => e = .returned (.int .i64 (d.why i)) ∧ Below w.heap.size w w' := by
  obtain ⟨As, cs, Ap, cp, Af, cf, rfl, -, -, -⟩ := h
  simp only [DS.rx, List.length_map]
  cases hd : d.down with
  | true =>
    have HE : Hid (d.why i = 6) := by show _ = _; unfold DS.why; rw [if_pos hd]
    clear hd
    go_enter Try.func55, Try.ntmps55
    go_wp2_with fail
    go_ret
    rw [HE.out]
    exact ⟨rfl, Below.alloc1 _ _⟩
  | false =>
    by_cases hi : i < 0 ∨ (d.blocks.length : Int) ≤ i
    · have HE : Hid (d.why i = 2) := by show _ = _; unfold DS.why; rw [if_neg (by simp [hd]), if_pos hi]
      clear hd
      rcases hi with hi | hi
      · go_enter Try.func55, Try.ntmps55
        go_wp2_with fail
        go_ret
        rw [HE.out]
        exact ⟨rfl, Below.alloc1 _ _⟩
      · have h0 : ¬ i < 0 := by omega
        go_enter Try.func55, Try.ntmps55
        go_wp2_with fail
        go_ret
        rw [HE.out]
        exact ⟨rfl, Below.alloc1 _ _⟩
    · have HE : Hid (d.why i = 0) := by show _ = _; unfold DS.why; rw [if_neg (by simp [hd]), if_neg hi]
      have h0 : ¬ i < 0 := by omega
      have h1 : ¬ (d.blocks.length : Int) ≤ i := by omega
      clear hd hi
      go_enter Try.func55, Try.ntmps55
      go_wp2_with fail
      go_ret
      rw [HE.out]
      exact ⟨rfl, Below.alloc1 _ _⟩
/-- The last of the writes to block i. -/
def lastW (i : Nat) (s : List UInt8) (ws : List DW) : List UInt8 := ws.foldl (fun s x => if x.at_ = (i : Int) then x.b.l else s) s
theorem lastW_take (i : Nat) (s : List UInt8) (ws : List DW) (k : Nat) (hk : k < ws.length) : lastW i s (ws.take (k + 1)) = if ws[k].at_ = (i : Int) then ws[k].b.l else lastW i s (ws.take k) := by
  unfold lastW
  rw [List.take_succ_eq_append_getElem hk, List.foldl_append]
  rfl
set_option maxHeartbeats 1000000 in
theorem refnow_any (S : Nat → Prop) (w : World) (d : DS) (c : List Value) (h : RefX S w c d.rx) (i : Nat) (hi : i < d.blocks.length) (hp : d.pending.length ≤ 1000000) :
    Calls Try.prog 30 #[.agg c.toArray, .int .i64 i] w fun e w' => e = .returned (txt (lastW i d.blocks[i].sure.l d.pending)) ∧ Below w.heap.size w w' := by
  obtain ⟨As, cs, Ap, cp, Af, cf, rfl, h1, h2, -⟩ := h
  simp only [DS.rx, List.length_map] at h1 h2 ⊢
  have HP := Lib.hid h2.1
  obtain ⟨b, o, rfl, hb, hc⟩ := str_at h1.1 (i := i) (by simpa using hi)
  simp only [List.getElem_map] at hc
  have hii : (i : Int) < (d.blocks.length : Int) := by omega
  clear h1 h2
  go_enter Try.func30, Try.ntmps30
  go_upto_region 1 with (fail)
  generalize hW0 : World.alloc w (.cells _ _) = W
  obtain ⟨ba0, hz0, hB0⟩ := fresh1 hW0
  clear hW0
  have HB0 := Lib.hid hB0
  have hcW := (hB0.cell (p := ⟨b, o + i, none⟩) hb).trans hc
  have hcc := ba0.c5
  have HPW := Lib.hid (HP.out.below hB0)
  clear hB0 ba0 hc
  go_wp2_with fail
  clear hcW
  go_loop [5, 6] (fun sv iv => ∃ k : Nat, k ≤ d.pending.length ∧ iv = .int .i64 k ∧ sv = .string ⟨(lastW i d.blocks[i].sure.l (d.pending.take k)).toArray⟩) (fun _ iv => d.pending.length - (intOf iv).toNat)
  case atStart => exact ⟨0, by omega, rfl, rfl⟩
  case round =>
    obtain ⟨k, hk, rfl, rfl⟩ := hrel
    by_cases hlt : k < d.pending.length
    · have hkk : (k : Int) < (d.pending.length : Int) := by omega
      obtain ⟨b2, o2, rfl, hb2, hc1, hc2⟩ := rw_at HPW.out (i := k) (by simpa using hlt)
      simp only [List.getElem_map] at hc1 hc2
      have HT := Lib.hid (lastW_take i d.blocks[i].sure.l d.pending k hlt)
      generalize d.pending[k] = q at hc1 hc2 HT
      by_cases heq : q.at_ = (i : Int)
      · have hbq : (q.at_ == (i : Int)) = true := by simpa using heq
        have HT2 : Hid (lastW i d.blocks[i].sure.l (d.pending.take (k + 1)) = q.b.l) := by show _ = _; rw [HT.out, if_pos heq]
        clear heq
        go_wp2_with fail
        go_round
        case rel => exact ⟨k + 1, by omega, by go_num, by rw [HT2.out]⟩
        case measure => simp [intOf]; omega
      · have hbq : (q.at_ == (i : Int)) = false := by simpa using heq
        have HT2 : Hid (lastW i d.blocks[i].sure.l (d.pending.take (k + 1)) = lastW i d.blocks[i].sure.l (d.pending.take k)) := by show _ = _; rw [HT.out, if_neg heq]
        clear heq
        go_wp2_with fail
        go_round
        case rel => exact ⟨k + 1, by omega, by go_num, by rw [HT2.out]⟩
        case measure => simp [intOf]; omega
    · obtain rfl : k = d.pending.length := by omega
      have hkk : ¬ (d.pending.length : Int) < (d.pending.length : Int) := by omega
      go_wp2_with fail
      go_ret
      exact ⟨rfl, HB0.out⟩
end Go.Proofs.Ythbanhedjfpmaaa
