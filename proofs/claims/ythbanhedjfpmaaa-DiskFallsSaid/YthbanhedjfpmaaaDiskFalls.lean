/-
  The walk of DiskFalls.
-/
import Derived.Test.YthbanhedjfpmaaaDiskLives
namespace Go.Proofs.Ythbanhedjfpmaaa
set_option linter.unusedSimpArgs false
set_option linter.unusedVariables false
open Go.RowKit

/-- What a change makes of a disk with one planned fall. -/
structure Fell (d : DS) (f : DF) (r : DS × Int) : Prop where
  two : r.2 = if f.at_ = (d.changes : Int) then 6 else 0
  down : r.1.down = decide (f.at_ = (d.changes : Int))
  falls : r.1.falls = [f]
  changes : r.1.changes = d.changes + 1
  len : r.1.blocks.length = d.blocks.length
theorem strike_one {d : DS} {f : DF} (hf : d.falls = [f]) (hd : d.down = false) : Fell d f d.strike := by
  unfold DS.strike
  rw [hf]
  by_cases h : f.at_ = (d.changes : Int)
  · rw [List.find?_cons_of_pos (by simpa using h)]
    unfold DS.crash
    refine ⟨?_, ?_, ?_, ?_, ?_⟩ <;> simp [h, hd, hf, hitAll_length]
  · rw [List.find?_cons_of_neg (by simpa using h)]
    refine ⟨?_, ?_, ?_, ?_, ?_⟩ <;> simp [h, hd, hf]
theorem write_one {d : DS} {f : DF} (hf : d.falls = [f]) (hd : d.down = false) {i : Int} (h0 : 0 ≤ i) (h1 : i < d.blocks.length) {l : List UInt8} (hl : l.length = 512) : Fell d f (d.write i l) := by
  have hw : d.why i = 0 := by unfold DS.why; rw [if_neg (by simp [hd]), if_neg (by omega)]
  unfold DS.write
  rw [if_neg (by simp [hw]), dif_pos hl]
  unfold DS.put
  have := strike_one (d := { d with blocks := d.blocks.set i.toNat { (d.blocks.getD i.toNat default) with now := ⟨l, hl⟩ }, pending := d.pending ++ [⟨(i.toNat : Int), ⟨l, hl⟩⟩] }) hf hd
  exact ⟨this.two, this.down, this.falls, this.changes, by rw [this.len]; simp⟩
theorem flush_one {d : DS} {f : DF} (hf : d.falls = [f]) (hd : d.down = false) : Fell d f d.flush := by
  have h := strike_one hf hd
  unfold DS.flush
  rw [if_neg (by simp [hd])]
  by_cases he : d.strike.2 = 0
  · rw [if_neg (by simp [he])]
    exact ⟨he ▸ h.two, h.down, h.falls, h.changes, by simp [DS.settled, sureAll_length]; exact h.len⟩
  · rw [if_pos he]; exact h
/-- The disk before change i. -/
structure Falling (w0 w : World) (k : KB) (f : DF) (i : Nat) (d : DS) : Prop where
  dl : DL w0 w k d i
  falls : d.falls = [f]
  down : d.down = false
  changes : d.changes = i
  len : d.blocks.length = 4
theorem byte_of_int (x : Int) (h0 : 0 ≤ x) (h1 : x < 256) : ∃ c : UInt8, x = (c.toNat : Int) := ⟨UInt8.ofNat x.toNat, by simp; omega⟩
set_option maxRecDepth 20000 in
set_option maxHeartbeats 1000000 in
theorem diskFalls_fit (w : World) (at_ : Int) (n keep : Nat) (hn : n ≤ 40) (hk : keep < 18446744073709551616) :
    Calls Try.prog 5 #[.int .i64 at_, .int .i64 (n : Int), .int .u64 (keep : Nat)] w fun e w' => e = .returned (.bool true) ∧ Below w.heap.size w w' := by
  have hn0 : ¬ (n : Int) < 0 := by omega
  have hn1 : ¬ (40 : Int) < (n : Int) := by omega
  go_enter Try.func5, Try.ntmps5
  go_wp2_with fail
  refine (lives_any w).mono ?_
  rintro e w0 ⟨rfl, hB⟩
  have HB := Lib.hid hB
  clear hB
  go_wp2_with fail
  refine (DL.new (w0 := w) 4 (by decide) (by decide) HB.out).mono ?_
  rintro e w1 ⟨k, rfl, hL, -⟩
  have HL := Lib.hid hL
  clear hL HB
  go_wp2_with fail
  have hrow : ERow eDF (w1.alloc (.cells #[.int .i64 at_, .int .u64 (keep : Nat), .int .i64 0] 25)) (some ⟨w1.heap.size, 0, none⟩) [⟨at_, keep, 0⟩] := ERow.lit eDF w1 ⟨at_, keep, 0⟩ _ rfl _ rfl
  have HPL := Lib.hid ((HL.out.below ((Below.refl _ _).alloc (Nat.le_refl _) _)).plan _ 1 [⟨at_, keep, 0⟩] hrow (by simp) (fun f hf => by
    simp only [List.mem_singleton] at hf
    subst hf
    exact ⟨hk, by show (-9223372036854775808 : Int) ≤ 0; decide, by show (0 : Int) ≤ 9223372036854775807; decide⟩))
  clear hrow HL
  refine HPL.out.mono ?_
  rintro e w2 ⟨rfl, hL2, -⟩
  have HI : Hid (Falling w w2 k ⟨at_, keep, 0⟩ 0 { DS.new 4 with falls := [⟨at_, keep, 0⟩] }) := ⟨hL2, rfl, rfl, rfl, rfl⟩
  clear hL2 HPL
  go_wp2_with fail
  go_loopw [33] (fun iv wr => ∃ i : Nat, i ≤ n ∧ iv = .int .i64 i ∧ ∃ d, Hid (Falling w wr k ⟨at_, keep, 0⟩ i d)) (fun iv _ => n - (intOf iv).toNat)
  case atStart => exact ⟨0, by omega, rfl, _, HI.out⟩
  case round =>
    obtain ⟨i, hi, rfl, d, HJ⟩ := hrel
    clear HI
    by_cases hlt : i < n
    · have hii : (i : Int) < (n : Int) := by omega
      have hi40 : i < 40 := by omega
      by_cases h3 : i % 3 = 2
      · have hm : ((i : Int).tmod 3 == 2) = true := by
          rw [Int.tmod_eq_emod_of_nonneg (by omega)]
          simp; omega
        go_wp2_with fail
        have HFe := Lib.hid (flush_one HJ.out.falls HJ.out.down)
        refine (HJ.out.dl.flush (by omega)).mono ?_
        generalize d.flush = r at HFe ⊢
        rintro e w3 ⟨rfl, hL3, -⟩
        obtain ⟨d', ev⟩ := r
        have htwo : ev = if at_ = (i : Int) then 6 else 0 := by have := HFe.out.two; rw [HJ.out.changes] at this; exact this
        have hdown : d'.down = decide (at_ = (i : Int)) := by have := HFe.out.down; rw [HJ.out.changes] at this; exact this
        have HD := Lib.hid (down_any w3 _ k d' hL3.at_)
        have HU := Lib.hid hL3.up
        rw [hdown] at HD HU
        have HF2 : Hid (d'.falls = [⟨at_, keep, 0⟩] ∧ d'.changes = i + 1 ∧ d'.blocks.length = 4) := ⟨HFe.out.falls, by rw [HFe.out.changes, HJ.out.changes], HFe.out.len.trans HJ.out.len⟩
        clear hL3 HFe hdown HJ
        by_cases hat : at_ = (i : Int)
        · rw [if_pos hat] at htwo
          rw [decide_eq_true hat] at HD HU
          subst htwo
          have heq : ((i : Int) == at_) = true := by simpa using hat.symm
          have hne : ((i : Int) != at_) = false := by simpa using hat.symm
          clear hat
          go_wp2_with fail
          refine HD.out.mono ?_
          rintro e w8 ⟨rfl, rfl⟩
          go_wp2_with fail
          refine HU.out.mono ?_
          rintro e w5 ⟨rfl, hL5, -⟩
          have HN5 : Hid (Falling w w5 k ⟨at_, keep, 0⟩ (i + 1) { d' with down := false }) := ⟨hL5, HF2.out.1, rfl, HF2.out.2.1, HF2.out.2.2⟩
          clear hL5
          go_wp2_with fail
          go_roundw
          case rel => exact ⟨i + 1, by omega, by go_num, _, HN5.out⟩
          case measure => simp [intOf]; omega
        · rw [if_neg hat] at htwo
          rw [decide_eq_false hat] at HD HU
          subst htwo
          have heq : ((i : Int) == at_) = false := by simpa using fun h => hat h.symm
          have hne : ((i : Int) != at_) = true := by simpa using fun h => hat h.symm
          clear hat
          go_wp2_with fail
          refine HD.out.mono ?_
          rintro e w8 ⟨rfl, rfl⟩
          go_wp2_with fail
          refine HU.out.mono ?_
          rintro e w5 ⟨rfl, hL5, -⟩
          have HN5 : Hid (Falling w w5 k ⟨at_, keep, 0⟩ (i + 1) { d' with down := false }) := ⟨hL5, HF2.out.1, rfl, HF2.out.2.1, HF2.out.2.2⟩
          clear hL5
          go_wp2_with fail
          go_roundw
          case rel => exact ⟨i + 1, by omega, by go_num, _, HN5.out⟩
          case measure => simp [intOf]; omega
      · have hm : ((i : Int).tmod 3 == 2) = false := by
          rw [Int.tmod_eq_emod_of_nonneg (by omega)]
          simp; omega
        go_wp2_with fail
        obtain ⟨b, hbi⟩ := byte_of_int (i : Int) (by omega) (by omega)
        have HFI := Lib.hid (fill_any wr b [])
        rw [← hbi] at HFI
        clear hbi
        refine HFI.out.mono ?_
        rintro e w2 ⟨A, c, rfl, ho, hb⟩
        have HL2 := Lib.hid (And.intro (HJ.out.dl.below hb) ho.row)
        have HFe := Lib.hid (write_one (i := (i : Int).tmod 4) HJ.out.falls HJ.out.down (by rw [Int.tmod_eq_emod_of_nonneg (by omega)]; omega) (by rw [HJ.out.len, Int.tmod_eq_emod_of_nonneg (by omega)]; omega) (fillL_length b []))
        have HWR := Lib.hid (HL2.out.1.writeB (by omega) ((i : Int).tmod 4) A c _ (fillL_length _ _) HL2.out.2)
        clear ho hb HFI
        go_wp2_with fail
        refine HWR.out.mono ?_
        generalize d.write _ _ = r at HFe ⊢
        rintro e w3 ⟨rfl, hL3, -⟩
        obtain ⟨d', ev⟩ := r
        have htwo : ev = if at_ = (i : Int) then 6 else 0 := by have := HFe.out.two; rw [HJ.out.changes] at this; exact this
        have hdown : d'.down = decide (at_ = (i : Int)) := by have := HFe.out.down; rw [HJ.out.changes] at this; exact this
        have HD := Lib.hid (down_any w3 _ k d' hL3.at_)
        have HU := Lib.hid hL3.up
        rw [hdown] at HD HU
        have HF2 : Hid (d'.falls = [⟨at_, keep, 0⟩] ∧ d'.changes = i + 1 ∧ d'.blocks.length = 4) := ⟨HFe.out.falls, by rw [HFe.out.changes, HJ.out.changes], HFe.out.len.trans HJ.out.len⟩
        clear hL3 HFe hdown HJ
        by_cases hat : at_ = (i : Int)
        · rw [if_pos hat] at htwo
          rw [decide_eq_true hat] at HD HU
          subst htwo
          have heq : ((i : Int) == at_) = true := by simpa using hat.symm
          have hne : ((i : Int) != at_) = false := by simpa using hat.symm
          clear hat
          go_wp2_with fail
          refine HD.out.mono ?_
          rintro e w8 ⟨rfl, rfl⟩
          go_wp2_with fail
          refine HU.out.mono ?_
          rintro e w5 ⟨rfl, hL5, -⟩
          have HN5 : Hid (Falling w w5 k ⟨at_, keep, 0⟩ (i + 1) { d' with down := false }) := ⟨hL5, HF2.out.1, rfl, HF2.out.2.1, HF2.out.2.2⟩
          clear hL5
          go_wp2_with fail
          go_roundw
          case rel => exact ⟨i + 1, by omega, by go_num, _, HN5.out⟩
          case measure => simp [intOf]; omega
        · rw [if_neg hat] at htwo
          rw [decide_eq_false hat] at HD HU
          subst htwo
          have heq : ((i : Int) == at_) = false := by simpa using fun h => hat h.symm
          have hne : ((i : Int) != at_) = true := by simpa using fun h => hat h.symm
          clear hat
          go_wp2_with fail
          refine HD.out.mono ?_
          rintro e w8 ⟨rfl, rfl⟩
          go_wp2_with fail
          refine HU.out.mono ?_
          rintro e w5 ⟨rfl, hL5, -⟩
          have HN5 : Hid (Falling w w5 k ⟨at_, keep, 0⟩ (i + 1) { d' with down := false }) := ⟨hL5, HF2.out.1, rfl, HF2.out.2.1, HF2.out.2.2⟩
          clear hL5
          go_wp2_with fail
          go_roundw
          case rel => exact ⟨i + 1, by omega, by go_num, _, HN5.out⟩
          case measure => simp [intOf]; omega
    · obtain rfl : i = n := by omega
      have hii : ¬ (i : Int) < (i : Int) := by omega
      have HC := Lib.hid (changes_any wr _ k d HJ.out.dl.at_)
      rw [HJ.out.changes] at HC
      go_wp2_with fail
      refine HC.out.mono ?_
      rintro e w8 ⟨rfl, rfl⟩
      go_wp2_with fail
      go_ret
      exact ⟨rfl, HJ.out.dl.bel⟩
set_option maxHeartbeats 400000 in
theorem diskFalls_unfit (w : World) (at_ n keep : Int) (h : n < 0 ∨ 40 < n) :
    Calls Try.prog 5 #[.int .i64 at_, .int .i64 n, .int .u64 keep] w fun e w' => e = .returned (.bool true) ∧ Below w.heap.size w w' := by
  by_cases h0 : n < 0
  · skip
    go_enter Try.func5, Try.ntmps5
    go_wp2_with fail
    refine (lives_any w).mono ?_
    rintro e w0 ⟨rfl, hB⟩
    have HB := Lib.hid hB
    clear hB
    go_wp2_with fail
    refine (lives_any w0).mono ?_
    rintro e w1 ⟨rfl, hB⟩
    have HB1 : Hid (Below w.heap.size w w1) := HB.out.trans (hB.mono HB.out.size)
    clear hB
    go_wp2_with fail
    go_ret
    exact ⟨rfl, HB1.out⟩
  · have h1 : 40 < n := by omega
    go_enter Try.func5, Try.ntmps5
    go_wp2_with fail
    refine (lives_any w).mono ?_
    rintro e w0 ⟨rfl, hB⟩
    have HB := Lib.hid hB
    clear hB
    go_wp2_with fail
    refine (lives_any w0).mono ?_
    rintro e w1 ⟨rfl, hB⟩
    have HB1 : Hid (Below w.heap.size w w1) := HB.out.trans (hB.mono HB.out.size)
    clear hB
    go_wp2_with fail
    go_ret
    exact ⟨rfl, HB1.out⟩
theorem diskFalls_walk (w : World) (at_ : Int) (_wa : (Lit.int .i64 at_).wf = true) (n : Int) (_wn : (Lit.int .i64 n).wf = true) (keep : Int) (wk : (Lit.int .u64 keep).wf = true) :
    Calls Try.prog 5 #[.int .i64 at_, .int .i64 n, .int .u64 keep] w fun e w' => e = .returned (.bool true) ∧ Below w.heap.size w w' := by
  by_cases h : n < 0 ∨ 40 < n
  · exact diskFalls_unfit w at_ n keep h
  · obtain ⟨m, rfl⟩ : ∃ m : Nat, n = (m : Int) := ⟨n.toNat, by omega⟩
    have hk : 0 ≤ keep ∧ keep < 18446744073709551616 := by
      have h := wk
      simp [Lit.wf] at h
      exact ⟨h.1, Int.lt_of_le_of_lt h.2 (by decide)⟩
    obtain ⟨q, rfl⟩ : ∃ q : Nat, keep = (q : Int) := ⟨keep.toNat, by omega⟩
    exact diskFalls_fit w at_ m q (by omega) (by omega)
end Go.Proofs.Ythbanhedjfpmaaa
