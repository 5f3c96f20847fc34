/-
  One thing that is done to a disk and to the document's: read, clone.
-/
import Derived.Test.YthbanhedjfpmaaaPlay1
namespace Go.Proofs.Ythbanhedjfpmaaa
set_option linter.unusedSimpArgs false
set_option linter.unusedVariables false
open Go.RowKit

set_option maxRecDepth 20000 in
set_option maxHeartbeats 2000000 in
theorem play2_bad (w0 w : World) (k : KB) (d : DS) (n : Nat) (q : OpD) (c : List Value) (hL : DL w0 w k d n) (hX : RefX k.own w c d.rx) (hN : NowOk d) (ht : (IntKind.u64.wrap q.k).tmod 7 = 2) (hw : d.why q.at_ ≠ 0) :
    Calls Try.prog 29 #[.pointer (some ⟨k.gd, 0, none⟩), .agg c.toArray, .agg (eOpD.code q).toArray] w (PlayOk w0 w k d n) := by
  have HL := Lib.hid (And.intro hL (And.intro hX hN))
  have hown := Lib.hid hL.own_lt
  have h0w := hL.bel.size
  obtain ⟨As, cs, Ap, cp, Af, cf, rfl⟩ := hX.open_
  have HT := Lib.hid ht
  clear hL hX hN ht
  simp only [eOpD]
  go_enter Try.func29, Try.ntmps29
  go_upto_region 1 with (fail)
  generalize hW0 : (((World.alloc w (.cells _ _)).alloc (.cells _ _)).alloc (.cells _ _)) = W
  obtain ⟨ba0, bb0, bc0, hz0, hB0⟩ := fresh3 hW0
  clear hW0
  have HB := Lib.hid (And.intro ba0 (And.intro bb0 (And.intro bc0 hB0)))
  have HLW : Hid (DL w0 W k d n ∧ RefX k.own W [.slice As d.rx.sure.length cs, .slice Ap d.rx.pend.length cp, .slice Af d.rx.falls.length cf, .int .i64 (d.rx.ch : Nat), .bool d.rx.down] d.rx ∧ NowOk d) := ⟨HL.out.1.below hB0, HL.out.2.1.below hB0, HL.out.2.2⟩
  have HX5 := Lib.hid ba0.c5
  have HQ := Lib.hid bb0
  have hk0 := bb0.cell 0
  simp only [List.getElem?_cons_zero] at hk0
  clear ba0 bb0 bc0 hB0
  go_upto_region 2 with (fail)
  clear hk0
  rw [HT.out]
  have HF := Lib.hid (read_bad W _ k d HLW.out.1.at_ q.at_ hw)
  have HR := Lib.hid (refwhy_any k.own W d _ HLW.out.2.1 q.at_)
  have hne : (d.why q.at_ != 0) = true := by simpa using hw
  generalize d.why q.at_ = y at HF HR hne
  rw [show d.rx.down = d.down from rfl] at HB HLW HL HX5 HR ⊢
  have HRX := Lib.hid (rfl : d.rx = d.rx)
  generalize hx : d.rx = x at HB HLW HL HX5 HR HRX ⊢
  have HXE := Lib.hid hx
  clear hx hw
  have hq1 := HQ.out.cell 1
  simp only [List.getElem?_cons_zero, List.getElem?_cons_succ] at hq1
  have hcc := And.intro HX5.out HB.out.2.2.1.c5
  go_wp2_with fail
  refine HF.out.mono ?_
  rintro e w3 ⟨rfl, rfl⟩
  go_wp2_with fail
  refine HR.out.mono ?_
  rintro e w4 ⟨rfl, hb4⟩
  have H4 : Hid (PState w0 w w4 k d n d _ ∧ Blk w4 (w.heap.size + 1 + 1) 54 [.slice none 0 0, .slice none 0 0, .slice none 0 0, .int .i64 0, .bool false]) :=
    ⟨⟨(HLW.out.1.below hb4).more (Nat.le_succ _), (Keeps.of_below HB.out.2.2.2).belowR hb4, by rw [HXE.out]; exact HLW.out.2.1.below hb4, HLW.out.2.2, rfl⟩, HB.out.2.2.1.below hb4⟩
  clear hcc
  have hcc := And.intro (HB.out.1.below hb4).c5 H4.out.2.c5
  clear hb4 hq1
  go_wp2_with fail
  refine ret_set5n H4.out.2 rfl rfl rfl rfl rfl (fun W hW => load_rx hW) fun W2 hW hg => ?_
  exact H4.out.1.fin H4.out.2 (by omega) h0w hg rfl
set_option maxRecDepth 20000 in
set_option maxHeartbeats 2000000 in
theorem play2_ok (w0 w : World) (k : KB) (d : DS) (n : Nat) (q : OpD) (c : List Value) (hL : DL w0 w k d n) (hX : RefX k.own w c d.rx) (hN : NowOk d) (ht : (IntKind.u64.wrap q.k).tmod 7 = 2) (hw : d.why q.at_ = 0) :
    Calls Try.prog 29 #[.pointer (some ⟨k.gd, 0, none⟩), .agg c.toArray, .agg (eOpD.code q).toArray] w (PlayOk w0 w k d n) := by
  have HL := Lib.hid (And.intro hL (And.intro hX hN))
  have hown := Lib.hid hL.own_lt
  have h0w := hL.bel.size
  obtain ⟨As, cs, Ap, cp, Af, cf, rfl⟩ := hX.open_
  have HT := Lib.hid ht
  clear hL hX hN ht
  simp only [eOpD]
  go_enter Try.func29, Try.ntmps29
  go_upto_region 1 with (fail)
  generalize hW0 : (((World.alloc w (.cells _ _)).alloc (.cells _ _)).alloc (.cells _ _)) = W
  obtain ⟨ba0, bb0, bc0, hz0, hB0⟩ := fresh3 hW0
  clear hW0
  have HB := Lib.hid (And.intro ba0 (And.intro bb0 (And.intro bc0 hB0)))
  have HLW : Hid (DL w0 W k d n ∧ RefX k.own W [.slice As d.rx.sure.length cs, .slice Ap d.rx.pend.length cp, .slice Af d.rx.falls.length cf, .int .i64 (d.rx.ch : Nat), .bool d.rx.down] d.rx ∧ NowOk d) := ⟨HL.out.1.below hB0, HL.out.2.1.below hB0, HL.out.2.2⟩
  have HX5 := Lib.hid ba0.c5
  have HQ := Lib.hid bb0
  have hk0 := bb0.cell 0
  simp only [List.getElem?_cons_zero] at hk0
  clear ba0 bb0 bc0 hB0
  go_upto_region 2 with (fail)
  clear hk0
  rw [HT.out]
  obtain ⟨hdn, hi0, hi1⟩ := why_zero hw
  obtain ⟨i, hi⟩ : ∃ i : Nat, q.at_ = (i : Int) := ⟨q.at_.toNat, by omega⟩
  have hil : i < d.blocks.length := by omega
  have HF := Lib.hid (read_ok W _ k d HLW.out.1.at_ i hil hdn)
  have hrw : ∀ w', RefX k.own w' [.slice As d.rx.sure.length cs, .slice Ap d.rx.pend.length cp, .slice Af d.rx.falls.length cf, .int .i64 (d.rx.ch : Nat), .bool d.rx.down] d.rx → Calls Try.prog 55 #[.agg #[.slice As d.rx.sure.length cs, .slice Ap d.rx.pend.length cp, .slice Af d.rx.falls.length cf, .int .i64 (d.rx.ch : Nat), .bool d.rx.down], .int .i64 i] w' fun e w'' => e = .returned (.int .i64 0) ∧ Below w'.heap.size w' w'' := fun w' h => by
    have := refwhy_any k.own w' d _ h i
    rw [← hi, hw, hi] at this
    exact this
  have HNW := Lib.hid (HLW.out.2.2 i hil)
  have HP := Lib.hid HLW.out.1.good.p1
  have HH5 := Lib.hid d.blocks[i].now.h
  have HRN : Hid (∀ w', RefX k.own w' [.slice As d.rx.sure.length cs, .slice Ap d.rx.pend.length cp, .slice Af d.rx.falls.length cf, .int .i64 (d.rx.ch : Nat), .bool d.rx.down] d.rx → Calls Try.prog 30 #[.agg #[.slice As d.rx.sure.length cs, .slice Ap d.rx.pend.length cp, .slice Af d.rx.falls.length cf, .int .i64 (d.rx.ch : Nat), .bool d.rx.down], .int .i64 i] w' fun e w'' => e = .returned (txt d.blocks[i].now.l) ∧ Below w'.heap.size w' w'') := fun w' h => by
    have := refnow_any k.own w' d _ h i hil HP.out
    rw [← HNW.out] at this
    exact this
  rw [show d.rx.down = d.down from rfl] at HB HLW HL HX5 hrw HRN ⊢
  have HR := Lib.hid hrw
  clear hrw
  rw [hi] at HQ HB ⊢
  generalize d.blocks[i].now.l = nl at HF HRN HH5
  generalize hx : d.rx = x at HB HLW HL HX5 HR HRN ⊢
  have HXE := Lib.hid hx
  clear hx hw hi0 hi1 hdn
  have hq1 := HQ.out.cell 1
  simp only [List.getElem?_cons_zero, List.getElem?_cons_succ] at hq1
  go_wp2_with fail
  refine HF.out.mono ?_
  rintro e w3 ⟨A3, c3, rfl, ho3, hb3⟩
  have H3 := Lib.hid (And.intro ho3 hb3)
  have HX3 := Lib.hid (HLW.out.2.1.below hb3)
  have HC := Lib.hid (HR.out w3 HX3.out)
  have hcc := (HB.out.1.below hb3).c5
  clear hq1
  have hq1 := (HB.out.2.1.below hb3).cell 1
  simp only [List.getElem?_cons_zero, List.getElem?_cons_succ] at hq1
  clear ho3 hb3 HR hi
  go_wp2_with fail
  refine HC.out.mono ?_
  rintro e w4 ⟨rfl, hb4⟩
  have H4 := Lib.hid (And.intro (H3.out.1.below hb4) (And.intro (H3.out.2.then hb4) (HX3.out.below hb4)))
  have H4d : Hid (PState w0 w w4.drew k d n d _ ∧ Blk w4.drew (w.heap.size + 1 + 1) 54 [.slice none 0 0, .slice none 0 0, .slice none 0 0, .int .i64 0, .bool false]) :=
    ⟨⟨(HLW.out.1.below (H4.out.2.1.then (below_drew w4))).more (Nat.le_succ _), ((Keeps.of_below HB.out.2.2.2).belowR H4.out.2.1).belowR (below_drew w4), by rw [HXE.out]; exact H4.out.2.2.below (below_drew w4), HLW.out.2.2, rfl⟩, (HB.out.2.2.1.below H4.out.2.1).drew⟩
  have hcv := run_string_bytes w4.drew c3 H4.out.1.row.drew
  rw [HH5.out] at hcv
  unfold txt at hcv HRN
  clear hcc hq1 HC hb4
  have hcc := And.intro (HB.out.1.below H4.out.2.1).c5 H4d.out.2.c5
  have hq1 := (HB.out.2.1.below H4.out.2.1).cell 1
  simp only [List.getElem?_cons_zero, List.getElem?_cons_succ] at hq1
  have HCN := Lib.hid (HRN.out w4.drew (H4.out.2.2.below (below_drew w4)))
  go_wp2_with fail
  refine wp_region_plan (.take 0 (.take 1 (.take 2 (.take 3 (.take 4 (.take 5 (.take 6 (.take 7 (.take 8 (.run 9 [0, 4, 5] (.take 10 (.take 11 (.run 12 [4, 5, 10, 11] (.take 13 .fin)))))))))))))) (by kernel_rfl) (by kernel_rfl) (by kernel_rfl) (by kernel_rfl) ?_
  simp only [walk, again, sel, List.getElem?_toArray, List.getElem?_cons_zero, List.getElem?_cons_succ]
  repeat (intro Z hZ; go_wp2_with (fail))
  refine HCN.out.mono ?_
  rintro e w5 ⟨rfl, hb5⟩
  have H5 : Hid (PState w0 w w5 k d n d _ ∧ Blk w5 (w.heap.size + 1 + 1) 54 [.slice none 0 0, .slice none 0 0, .slice none 0 0, .int .i64 0, .bool false]) := ⟨H4d.out.1.below hb5, H4d.out.2.below hb5⟩
  have ho5 := H4.out.1.drew.below hb5
  have hne5 : A3.map (·.block) ≠ some (w.heap.size + 1 + 1) := by
    rcases ho5.form with ⟨rfl, -⟩ | ⟨g, rfl, hg, -⟩
    · simp
    · simp; omega
  have hcv6 := run_string_bytes (w5.setCells (w.heap.size + 1 + 1) 0 [.slice As x.sure.length cs, .slice Ap x.pend.length cp, .slice Af x.falls.length cf, .int .i64 (x.ch : Nat), .bool d.down]) c3 (ho5.kept (grown_setCells _ _ _ _) (.inr hne5)).row
  simp only [World.setCells, Nat.zero_add, Nat.reduceAdd] at hcv6
  clear hcv
  have hcv := run_string_bytes w5 c3 ho5.row
  rw [HH5.out] at hcv hcv6
  unfold txt at hcv hcv6
  clear hcc hq1 HCN
  have hcc := And.intro ((HB.out.1.below (H4.out.2.1.then (below_drew w4))).below hb5).c5 H5.out.2.c5
  clear ho5 hb5
  go_wp2_with fail
  repeat (intro Z hZ; go_wp2_with (fail))
  refine ret_set5n H5.out.2 rfl rfl rfl rfl rfl (fun W hW => load_rx hW) fun W2 hW hg => ?_
  exact H5.out.1.fin H5.out.2 (by omega) h0w hg rfl
set_option maxRecDepth 20000 in
set_option maxHeartbeats 2000000 in
theorem play6 (w0 w : World) (k : KB) (d : DS) (n : Nat) (q : OpD) (c : List Value) (hL : DL w0 w k d n) (hX : RefX k.own w c d.rx) (hN : NowOk d) (hn : n < 1000) (ht : (IntKind.u64.wrap q.k).tmod 7 = 6) :
    Calls Try.prog 29 #[.pointer (some ⟨k.gd, 0, none⟩), .agg c.toArray, .agg (eOpD.code q).toArray] w (PlayOk w0 w k d n) := by
  have HL := Lib.hid (And.intro hL (And.intro hX hN))
  have hown := Lib.hid hL.own_lt
  have h0w := hL.bel.size
  obtain ⟨As, cs, Ap, cp, Af, cf, rfl⟩ := hX.open_
  have HT := Lib.hid ht
  clear hL hX hN ht
  simp only [eOpD]
  go_enter Try.func29, Try.ntmps29
  go_upto_region 1 with (fail)
  generalize hW0 : (((World.alloc w (.cells _ _)).alloc (.cells _ _)).alloc (.cells _ _)) = W
  obtain ⟨ba0, bb0, bc0, hz0, hB0⟩ := fresh3 hW0
  clear hW0
  have HB := Lib.hid (And.intro ba0 (And.intro bb0 (And.intro bc0 hB0)))
  have HLW : Hid (DL w0 W k d n ∧ RefX k.own W [.slice As d.rx.sure.length cs, .slice Ap d.rx.pend.length cp, .slice Af d.rx.falls.length cf, .int .i64 (d.rx.ch : Nat), .bool d.rx.down] d.rx ∧ NowOk d) := ⟨HL.out.1.below hB0, HL.out.2.1.below hB0, HL.out.2.2⟩
  have HX5 := Lib.hid ba0.c5
  have HQ := Lib.hid bb0
  have hk0 := bb0.cell 0
  simp only [List.getElem?_cons_zero] at hk0
  clear ba0 bb0 bc0 hB0
  go_upto_region 2 with (fail)
  clear hk0
  rw [HT.out]
  have HF := Lib.hid HLW.out.1.clone
  generalize hx : d.rx = x at HB HLW HL HX5 ⊢
  have HXE := Lib.hid hx
  clear hx
  go_wp2_with fail
  refine HF.out.mono ?_
  rintro e w3 ⟨k2, rfl, hS, hb3⟩
  have H3 : Hid (DL W w3 k2 d n ∧ Below W.heap.size W w3) := ⟨⟨hS.at2, hS.dl.good, hS.dl.ch, hS.dl.pe, hb3⟩, hb3⟩
  have hq := HB.out.2.1.below hb3
  have hq1 := And.intro (hq.cell 1) (hq.cell 2)
  simp only [List.getElem?_cons_zero, List.getElem?_cons_succ, bv] at hq1
  clear hS hb3 HF hq
  go_wp2_with fail
  refine wp_region_plan (.take 0 (.take 1 (.take 2 (.take 3 (.take 4 (.run 5 [0, 1, 2] (.run 6 [] .fin))))))) (by kernel_rfl) (by kernel_rfl) (by kernel_rfl) (by kernel_rfl) ?_
  simp only [walk, again, sel, List.getElem?_toArray, List.getElem?_cons_zero, List.getElem?_cons_succ]
  repeat (intro Z hZ; go_wp2_with (fail))
  refine (fill_any w3.drew q.c [99, 108, 111, 110, 101]).mono ?_
  rintro e w7 ⟨A7, c7, rfl, ho7, hb7⟩
  have hl7 := fillL_length q.c [99, 108, 111, 110, 101]
  have HL7 := Lib.hid ((H3.out.1.below (below_drew w3)).below hb7)
  have hcw := HL7.out.write (by omega) q.at_ A7 c7 _ ho7.row
  rw [hl7] at hcw
  have HW := Lib.hid hcw
  have hq7 := (((HB.out.2.1.below H3.out.2).drew).below hb7)
  clear hq1
  have hq1 := And.intro (hq7.cell 1) (hq7.cell 2)
  simp only [List.getElem?_cons_zero, List.getElem?_cons_succ, bv] at hq1
  generalize d.write q.at_ (fillL q.c [99, 108, 111, 110, 101]) = wr at HW
  obtain ⟨d8, e8⟩ := wr
  simp only at HW
  clear ho7 hb7 hcw hl7 hq7
  go_wp2_with fail
  repeat (intro Z hZ; go_wp2_with (fail))
  refine HW.out.mono ?_
  rintro e w8 ⟨rfl, hL8, -⟩
  have HF8 := Lib.hid (hL8.flush (by omega))
  clear hL8 hq1 HL7 HW
  go_wp2_with fail
  repeat (intro Z hZ; go_wp2_with (fail))
  refine HF8.out.mono ?_
  rintro e w9 ⟨rfl, hL9, -⟩
  have hb9 : Below W.heap.size W w9 := hL9.bel
  have H9 : Hid (PState w0 w w9 k d n d _ ∧ Blk w9 (w.heap.size + 1 + 1) 54 [.slice none 0 0, .slice none 0 0, .slice none 0 0, .int .i64 0, .bool false]) :=
    ⟨⟨(HLW.out.1.below hb9).more (Nat.le_succ _), (Keeps.of_below HB.out.2.2.2).belowR hb9, by rw [HXE.out]; exact HLW.out.2.1.below hb9, HLW.out.2.2, rfl⟩, HB.out.2.2.1.below hb9⟩
  have hcc := And.intro (HB.out.1.below hb9).c5 H9.out.2.c5
  clear hL9 hb9 HF8
  go_wp2_with fail
  refine ret_set5n H9.out.2 rfl rfl rfl rfl rfl (fun W hW => load_rx hW) fun W2 hW hg => ?_
  exact H9.out.1.fin H9.out.2 (by omega) h0w hg rfl
end Go.Proofs.Ythbanhedjfpmaaa
