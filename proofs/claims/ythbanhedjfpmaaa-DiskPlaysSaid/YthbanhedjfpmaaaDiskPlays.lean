/-
  The walk of DiskPlays.
-/
import Derived.Test.YthbanhedjfpmaaaPlay4
namespace Go.Proofs.Ythbanhedjfpmaaa
set_option linter.unusedSimpArgs false
set_option linter.unusedVariables false
open Go.RowKit

theorem play_any (w0 w : World) (k : KB) (d : DS) (n : Nat) (q : OpD) (c : List Value) (hL : DL w0 w k d n) (hX : RefX k.own w c d.rx) (hN : NowOk d) (hn : n < 1000) (hq : q.Fine w0) (hfs : q.fs.length ≤ 1000) :
    Calls Try.prog 29 #[.pointer (some ⟨k.gd, 0, none⟩), .agg c.toArray, .agg (eOpD.code q).toArray] w (PlayOk w0 w k d n) := by
  have h0 : 0 ≤ IntKind.u64.wrap q.k := by simp [IntKind.wrap, IntKind.signed, IntKind.bits]; omega
  have h7 : (IntKind.u64.wrap q.k).tmod 7 = IntKind.u64.wrap q.k % 7 := Int.tmod_eq_emod_of_nonneg h0
  have hc : (IntKind.u64.wrap q.k).tmod 7 = 0 ∨ (IntKind.u64.wrap q.k).tmod 7 = 1 ∨ (IntKind.u64.wrap q.k).tmod 7 = 2 ∨ (IntKind.u64.wrap q.k).tmod 7 = 3 ∨ (IntKind.u64.wrap q.k).tmod 7 = 4 ∨ (IntKind.u64.wrap q.k).tmod 7 = 5 ∨ (IntKind.u64.wrap q.k).tmod 7 = 6 := by
    rw [h7]
    generalize IntKind.u64.wrap q.k = y at h0
    omega
  rcases hc with h | h | h | h | h | h | h
  · exact play0 w0 w k d n q c hL hX hN hn h
  · exact play1 w0 w k d n q c hL hX hN hn h
  · by_cases hw : d.why q.at_ = 0
    · exact play2_ok w0 w k d n q c hL hX hN h hw
    · exact play2_bad w0 w k d n q c hL hX hN h hw
  · exact play3 w0 w k d n q c hL hX hN hq.f h
  · exact play4 w0 w k d n q c hL hX hN h
  · exact play5 w0 w k d n q c hL hX hN hq hfs h
  · exact play6 w0 w k d n q c hL hX hN hn h
theorem rx_new (n : Nat) : (DS.new n).rx = RX.fresh n := by
  unfold DS.new DS.rx RX.fresh
  simp only [List.map_replicate, List.map_nil]
  rfl
theorem fitsD_all {n : Int} {L : List OpD} (h : fitsD n L = true) : 1 ≤ n ∧ n ≤ 12 ∧ ∀ o ∈ L, o.s.length ≤ 600 ∧ o.fs.length ≤ 20 := by
  unfold fitsD at h
  simp only [Bool.and_eq_true, decide_eq_true_eq, List.all_eq_true] at h
  exact ⟨h.1.1.1, h.1.1.2, fun o ho => by have := h.2 o ho; simpa [OpD.fit] using this⟩
set_option maxRecDepth 20000 in
set_option maxHeartbeats 2000000 in
theorem diskPlays_fit (w : World) (n : Nat) (A1 : Option Addr) (c1 : Nat) (L1 : List OpD) (hr1 : ERow eOpD w A1 L1) (hf1 : ∀ o ∈ L1, o.Fine w) (h1 : fitsD n L1 = true) :
    Calls Try.prog 6 #[.int .i64 n, .slice A1 L1.length c1] w fun e w' => e = .returned (.bool true) ∧ Below w.heap.size w w' := by
  have HF1 := Lib.hid (fun w' (hb : Below w.heap.size w w') => fits_any w' n A1 c1 L1 (hr1.below hb) (fun o ho => ⟨(hf1 o ho).s, Nat.le_trans (hf1 o ho).len (hf1 o ho).cap⟩))
  have hl1 := fitsD_len h1
  obtain ⟨hn1, hn2, hall⟩ := fitsD_all h1
  rw [h1] at HF1
  have HR := Lib.hid (And.intro hr1 (And.intro hf1 hall))
  clear hr1 hf1 h1 hall
  go_enter Try.func6, Try.ntmps6
  go_wp2_with fail
  refine (lives_any w).mono ?_
  rintro e w1 ⟨rfl, hB⟩
  have HB1 := Lib.hid hB
  clear hB
  go_wp2_with fail
  refine (HF1.out w1 HB1.out).mono ?_
  rintro e w3 ⟨rfl, hB⟩
  have HB3 := Lib.hid (HB1.out.trans (hB.mono HB1.out.size))
  clear hB HB1
  go_wp2_with fail
  refine (DL.new (w0 := w) n (by omega) (by omega) HB3.out).mono ?_
  rintro e w4 ⟨k, rfl, hL, -⟩
  have HL := Lib.hid hL
  have hbk := blocks_any w4 _ k _ hL.at_
  rw [show (DS.new n).blocks.length = n from by simp [DS.new]] at hbk
  have HBK := Lib.hid hbk
  clear hL HB3 HF1 hbk
  go_wp2_with fail
  refine HBK.out.mono ?_
  rintro e w5 ⟨rfl, rfl⟩
  have hne : ((n : Int) != (n : Int)) = false := by simp
  go_wp2_with fail
  refine (refnew_any k.own w4 HL.out.own_lt n (by omega)).mono ?_
  rintro e w5 ⟨c5, rfl, hx5, hb5⟩
  have H5 : Hid (DL w w5 k (DS.new n) 0 ∧ RefX k.own w5 c5 (DS.new n).rx ∧ NowOk (DS.new n) ∧ (DS.new n).blocks.length = n) := ⟨HL.out.below hb5, by rw [rx_new]; exact hx5, NowOk.fresh n, by simp [DS.new]⟩
  obtain ⟨As, cs, Ap, cp, Af, cf, rfl⟩ := hx5.open_
  clear hx5 hb5 HL HBK
  go_upto_region 7 with (fail)
  generalize hW6 : World.alloc w5 (.cells _ _) = W6
  obtain ⟨ba6, hz6, hB6⟩ := fresh1 hW6
  clear hW6
  have H6 : Hid (DL w W6 k (DS.new n) 0 ∧ RefX k.own W6 _ (DS.new n).rx ∧ Blk W6 w5.heap.size 54 _ ∧ NowOk (DS.new n) ∧ (DS.new n).blocks.length = n) := ⟨H5.out.1.below hB6, H5.out.2.1.below hB6, ba6, H5.out.2.2⟩
  have hgw := H5.out.1.bel.size
  clear ba6 hB6 H5
  obtain ⟨gx, hgx⟩ : ∃ gx, gx = w5.heap.size := ⟨_, rfl⟩
  rw [← hgx] at H6 hgw ⊢
  clear hgx hz6
  go_wp2_with fail
  go_loopw [41] (fun iv wr => ∃ i : Nat, i ≤ L1.length ∧ iv = .int .i64 i ∧ ∃ d c', Hid (DL w wr k d i ∧ RefX k.own wr c' d.rx ∧ Blk wr gx 54 c' ∧ NowOk d ∧ d.blocks.length = n)) (fun iv _ => L1.length - (intOf iv).toNat)
  case atStart => exact ⟨0, by omega, rfl, _, _, H6.out⟩
  case round =>
    obtain ⟨i, hi, rfl, d, c', HJ⟩ := hrel
    clear H6
    obtain ⟨As, cs, Ap, cp, Af, cf, rfl⟩ := HJ.out.2.1.open_
    by_cases hlt : i < L1.length
    · have hii : (i : Int) < (L1.length : Int) := by omega
      obtain ⟨b, o, rfl, hb, hcc⟩ := opd_at (HR.out.1.below HJ.out.1.bel) hlt
      have HQ := Lib.hid (And.intro (HR.out.2.1 L1[i] (List.getElem_mem hlt)) (HR.out.2.2 L1[i] (List.getElem_mem hlt)))
      generalize L1[i] = q at hcc HQ
      unfold txt at hcc
      go_upto_region 10 with (fail)
      generalize hW7 : World.alloc wr (.cells _ _) = W7
      obtain ⟨ba7, hz7, hB7⟩ := fresh1 hW7
      clear hW7
      have H7 := Lib.hid (And.intro (HJ.out.1.below hB7) (And.intro (HJ.out.2.1.below hB7) (And.intro (HJ.out.2.2.1.below hB7) (And.intro HJ.out.2.2.2.1 HJ.out.2.2.2.2))))
      have HP := Lib.hid (play_any w W7 k d i q _ H7.out.1 H7.out.2.1 H7.out.2.2.2.1 (by omega) HQ.out.1 (by have := HQ.out.2.2; omega))
      have hcx := H7.out.2.2.1.c5
      have hcq := And.intro (ba7.cell 0) (And.intro (ba7.cell 1) (And.intro (ba7.cell 2) (And.intro (ba7.cell 3) (And.intro (ba7.cell 4) (And.intro (ba7.cell 5) (And.intro (ba7.cell 6) (And.intro (ba7.cell 7) (ba7.cell 8))))))))
      simp only [List.getElem?_cons_zero, List.getElem?_cons_succ] at hcq
      clear ba7 hB7 hcc HJ
      go_wp2_with fail
      refine HP.out.mono ?_
      rintro e w8 ⟨d8, c8, rfl, hL8, hK8, hX8, hN8, hlen8⟩
      have H8 : Hid (DL w w8 k d8 (i + 1) ∧ RefX k.own w8 c8 d8.rx ∧ Blk w8 gx 54 [.slice As d.rx.sure.length cs, .slice Ap d.rx.pend.length cp, .slice Af d.rx.falls.length cf, .int .i64 (d.rx.ch : Nat), .bool d.rx.down] ∧ NowOk d8 ∧ d8.blocks.length = n) :=
        ⟨hL8, hX8, H7.out.2.2.1.kept hK8 (H7.out.1.at_.notOwn H7.out.2.2.1 nd_rx), hN8, by rw [hlen8]; exact H7.out.2.2.2.2⟩
      obtain ⟨As8, cs8, Ap8, cp8, Af8, cf8, rfl⟩ := hX8.open_
      clear hcx hcq hL8 hK8 hX8 hN8 hlen8 H7 HP
      have hcx := H8.out.2.2.1.c5
      go_upto_region 12 with (fail)
      have hgs := grown_setCells w8 gx 0 [.slice As8 d8.rx.sure.length cs8, .slice Ap8 d8.rx.pend.length cp8, .slice Af8 d8.rx.falls.length cf8, .int .i64 (d8.rx.ch : Nat), .bool d8.rx.down]
      have H9 : Hid (DL w (w8.setCells gx 0 [.slice As8 d8.rx.sure.length cs8, .slice Ap8 d8.rx.pend.length cp8, .slice Af8 d8.rx.falls.length cf8, .int .i64 (d8.rx.ch : Nat), .bool d8.rx.down]) k d8 (i + 1) ∧ RefX k.own (w8.setCells gx 0 [.slice As8 d8.rx.sure.length cs8, .slice Ap8 d8.rx.pend.length cp8, .slice Af8 d8.rx.falls.length cf8, .int .i64 (d8.rx.ch : Nat), .bool d8.rx.down]) _ d8.rx ∧
          Blk (w8.setCells gx 0 [.slice As8 d8.rx.sure.length cs8, .slice Ap8 d8.rx.pend.length cp8, .slice Af8 d8.rx.falls.length cf8, .int .i64 (d8.rx.ch : Nat), .bool d8.rx.down]) gx 54 [.slice As8 d8.rx.sure.length cs8, .slice Ap8 d8.rx.pend.length cp8, .slice Af8 d8.rx.falls.length cf8, .int .i64 (d8.rx.ch : Nat), .bool d8.rx.down] ∧ NowOk d8 ∧ d8.blocks.length = n) :=
        ⟨H8.out.1.other H8.out.2.2.1 nd_rx hgs hgw, H8.out.2.1.keptG H8.out.2.2.1 hgs, H8.out.2.2.1.setAll _ rfl, H8.out.2.2.2⟩
      have hpe : d8.pending.length = d8.rx.pend.length := by simp [DS.rx]
      have HPE := Lib.hid hpe
      clear hcx hgs H8 hpe
      simp only [World.setCells, Nat.zero_add, Nat.reduceAdd] at H9
      generalize (((((World.setCell w8 _ _).setCell _ _).setCell _ _).setCell _ _).setCell _ _) = W9 at H9 ⊢
      have HB9 := Lib.hid ((Below.alloc1 W9 (.cells #[.slice As8 d8.rx.sure.length cs8, .slice Ap8 d8.rx.pend.length cp8, .slice Af8 d8.rx.falls.length cf8, .int .i64 (d8.rx.ch : Nat), .bool d8.rx.down] 54)).drewR)
      generalize (World.alloc W9 _) = W10 at HB9 ⊢
      have H10 := Lib.hid (And.intro (H9.out.1.below HB9.out) (And.intro (H9.out.2.1.below HB9.out) (And.intro (H9.out.2.2.1.below HB9.out) H9.out.2.2.2)))
      have hcx : _ := (Blk.below (w' := W10.drew) H9.out.2.2.1 HB9.out).c5
      have HD : Hid (Calls Try.prog 25 #[.pointer (some ⟨k.gd, 0, none⟩)] W10.drew fun e w' => e = .returned (.bool d8.rx.down) ∧ W10.drew = w') := down_any W10.drew _ k d8 H10.out.1.at_
      have hpn := pending_any W10.drew _ k d8 H10.out.1.at_
      rw [HPE.out] at hpn
      have HPN := Lib.hid hpn
      have HCH : Hid (Calls Try.prog 26 #[.pointer (some ⟨k.gd, 0, none⟩)] W10.drew fun e w' => e = .returned (.int .i64 (d8.rx.ch : Nat)) ∧ W10.drew = w') := changes_any W10.drew _ k d8 H10.out.1.at_
      clear hpn H9 HB9
      generalize hx8 : d8.rx = x8 at H10 HD HPN HCH hcx ⊢
      have HXE := Lib.hid hx8
      clear hx8
      refine wp_region_plan (.take 0 (.take 1 (.take 2 (.take 3 (.take 5 (.take 6 (.run 4 [5, 6] (.take 7 (.take 8 (.take 9 (.take 10 (.take 12 (.take 13 (.take 14 (.run 11 [12, 13, 14] (.take 15 (.take 16 (.take 17 (.take 18 (.take 20 (.take 21 (.run 19 [20, 21] (.take 22 (.take 23 .fin)))))))))))))))))))))))) (by kernel_rfl) (by kernel_rfl) (by kernel_rfl) (by kernel_rfl) ?_
      simp only [walk, again, sel, List.getElem?_toArray, List.getElem?_cons_zero, List.getElem?_cons_succ]
      repeat (intro Z hZ; go_wp2_with (fail))
      refine HD.out.mono ?_
      rintro e w11 ⟨rfl, rfl⟩
      go_wp2_with fail
      repeat (intro Z hZ; go_wp2_with (fail))
      refine HPN.out.mono ?_
      rintro e w11 ⟨rfl, rfl⟩
      go_wp2_with fail
      repeat (intro Z hZ; go_wp2_with (fail))
      refine HCH.out.mono ?_
      rintro e w11 ⟨rfl, rfl⟩
      go_wp2_with fail
      repeat (intro Z hZ; go_wp2_with (fail))
      go_roundw
      case rel => exact ⟨i + 1, by omega, by go_num, d8, _, by rw [HXE.out]; exact H10.out⟩
      case measure => simp [intOf]; omega
    · obtain rfl : i = L1.length := by omega
      have hii : ¬ (L1.length : Int) < (L1.length : Int) := by omega
      have HU := Lib.hid HJ.out.1.up
      clear hlt
      go_wp2_with fail
      refine HU.out.mono ?_
      rintro e w7 ⟨rfl, hL7, hK7⟩
      have H7 : Hid (DL w w7 k { d with down := false } L1.length ∧ RefX k.own w7 [.slice As d.rx.sure.length cs, .slice Ap d.rx.pend.length cp, .slice Af d.rx.falls.length cf, .int .i64 (d.rx.ch : Nat), .bool d.rx.down] d.rx ∧ Blk w7 gx 54 [.slice As d.rx.sure.length cs, .slice Ap d.rx.pend.length cp, .slice Af d.rx.falls.length cf, .int .i64 (d.rx.ch : Nat), .bool d.rx.down] ∧ NowOk d ∧ d.blocks.length = n) :=
        ⟨hL7, HJ.out.2.1.kept hK7, HJ.out.2.2.1.kept hK7 (HJ.out.1.at_.notOwn HJ.out.2.2.1 nd_rx), HJ.out.2.2.2⟩
      have hcx := H7.out.2.2.1.c5
      clear hL7 hK7 HU HJ
      go_upto_region 17 with (fail)
      have H8 : Hid (DL w (w7.setCell ⟨gx, 4, none⟩ (.bool false)) k { d with down := false } L1.length ∧ RefX k.own (w7.setCell ⟨gx, 4, none⟩ (.bool false)) [.slice As d.rx.sure.length cs, .slice Ap d.rx.pend.length cp, .slice Af d.rx.falls.length cf, .int .i64 (d.rx.ch : Nat), .bool false] ({ d with down := false } : DS).rx ∧ Blk (w7.setCell ⟨gx, 4, none⟩ (.bool false)) gx 54 [.slice As d.rx.sure.length cs, .slice Ap d.rx.pend.length cp, .slice Af d.rx.falls.length cf, .int .i64 (d.rx.ch : Nat), .bool false] ∧ NowOk ({ d with down := false } : DS) ∧ d.blocks.length = n) := by
        obtain ⟨r1, r2, r3, -, -, -⟩ := (H7.out.2.1.keptG H7.out.2.2.1 (grown_store w7 gx 4 (.bool false))).rows
        exact ⟨H7.out.1.other H7.out.2.2.1 nd_rx (grown_store _ _ _ _) hgw, ⟨As, cs, Ap, cp, Af, cf, rfl, r1, r2, r3⟩, H7.out.2.2.1.set 4 _, H7.out.2.2.2.1, H7.out.2.2.2.2⟩
      clear hcx H7
      generalize (World.setCell w7 _ _) = W8 at H8 ⊢
      generalize d.rx = x at H8 ⊢
      have hdn : ({ d with down := false } : DS).down = false := rfl
      have hbl : ({ d with down := false } : DS).blocks.length = n := H8.out.2.2.2.2
      generalize ({ d with down := false } : DS) = d3 at H8 hdn hbl
      have HDN := Lib.hid (And.intro hdn hbl)
      clear hdn hbl
      go_wp2_with fail
      go_loopw [82] (fun iv wr => ∃ i : Nat, i ≤ n ∧ iv = .int .i64 i ∧ Hid (DL w wr k d3 L1.length ∧ RefX k.own wr [.slice As x.sure.length cs, .slice Ap x.pend.length cp, .slice Af x.falls.length cf, .int .i64 (x.ch : Nat), .bool false] d3.rx ∧ Blk wr gx 54 [.slice As x.sure.length cs, .slice Ap x.pend.length cp, .slice Af x.falls.length cf, .int .i64 (x.ch : Nat), .bool false])) (fun iv _ => n - (intOf iv).toNat)
      case atStart => exact ⟨0, by omega, rfl, H8.out.1, H8.out.2.1, H8.out.2.2.1⟩
      case round =>
        obtain ⟨i, hi, rfl, HK⟩ := hrel
        by_cases hlt : i < n
        · have hii : (i : Int) < (n : Int) := by omega
          have hil : i < d3.blocks.length := by rw [HDN.out.2]; exact hlt
          have HRD := Lib.hid (read_ok wr _ k d3 HK.out.1.at_ i hil HDN.out.1)
          have HNW := Lib.hid (H8.out.2.2.2.1 i hil)
          have HP := Lib.hid HK.out.1.good.p1
          have HH5 := Lib.hid d3.blocks[i].now.h
          have HRN : Hid (∀ w', RefX k.own w' [.slice As x.sure.length cs, .slice Ap x.pend.length cp, .slice Af x.falls.length cf, .int .i64 (x.ch : Nat), .bool false] d3.rx → Calls Try.prog 30 #[.agg #[.slice As x.sure.length cs, .slice Ap x.pend.length cp, .slice Af x.falls.length cf, .int .i64 (x.ch : Nat), .bool false], .int .i64 i] w' fun e w'' => e = .returned (.string ⟨d3.blocks[i].now.l.toArray⟩) ∧ Below w'.heap.size w' w'') := fun w' h => by
            have := refnow_any k.own w' d3 _ h i hil HP.out
            rw [← HNW.out] at this
            exact this
          generalize d3.blocks[i].now.l = nl at HRD HRN HH5
          go_wp2_with fail
          refine HRD.out.mono ?_
          rintro e w9 ⟨A9, c9, rfl, ho9, hb9⟩
          have H9 := Lib.hid (And.intro (HK.out.1.below (hb9.drewR)) (And.intro (HK.out.2.1.below hb9.drewR) (And.intro (HK.out.2.2.below hb9.drewR) ho9.drew)))
          have hcx := H9.out.2.2.1.c5
          have hcv := run_string_bytes w9.drew c9 H9.out.2.2.2.row
          rw [HH5.out] at hcv
          unfold txt at hcv
          have HCN := Lib.hid (HRN.out w9.drew H9.out.2.1)
          clear ho9 hb9 HRD HK
          go_wp2_with fail
          refine wp_region_plan (.take 0 (.take 1 (.take 2 (.take 3 (.take 4 (.take 5 (.take 6 (.run 7 [3, 4] (.take 8 (.take 9 .fin)))))))))) (by kernel_rfl) (by kernel_rfl) (by kernel_rfl) (by kernel_rfl) ?_
          simp only [walk, again, sel, List.getElem?_toArray, List.getElem?_cons_zero, List.getElem?_cons_succ]
          repeat (intro Z hZ; go_wp2_with (fail))
          refine HCN.out.mono ?_
          rintro e w10 ⟨rfl, hb10⟩
          have H10 := Lib.hid (And.intro (H9.out.1.below hb10) (And.intro (H9.out.2.1.below hb10) (H9.out.2.2.1.below hb10)))
          clear hcv hcx
          have hcv := run_string_bytes w10 c9 (H9.out.2.2.2.row.below hb10)
          rw [HH5.out] at hcv
          unfold txt at hcv
          clear hb10 HCN HRN
          go_wp2_with fail
          repeat (intro Z hZ; go_wp2_with (fail))
          go_roundw
          case rel => exact ⟨i + 1, by omega, by go_num, H10.out⟩
          case measure => simp [intOf]; omega
        · obtain rfl : i = n := by omega
          have hii : ¬ (i : Int) < (i : Int) := by omega
          go_wp2_with fail
          go_ret
          exact ⟨rfl, HK.out.1.bel⟩
end Go.Proofs.Ythbanhedjfpmaaa
