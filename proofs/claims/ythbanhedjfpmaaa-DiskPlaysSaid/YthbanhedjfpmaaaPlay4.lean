/-
  One thing that is done to a disk and to the document's: a write.
-/
import Derived.Test.YthbanhedjfpmaaaPlay3
namespace Go.Proofs.Ythbanhedjfpmaaa
set_option linter.unusedSimpArgs false
set_option linter.unusedVariables false
open Go.RowKit

set_option maxRecDepth 20000 in
set_option maxHeartbeats 2000000 in
theorem play0 (w0 w : World) (k : KB) (d : DS) (n : Nat) (q : OpD) (c : List Value) (hL : DL w0 w k d n) (hX : RefX k.own w c d.rx) (hN : NowOk d) (hn : n < 1000) (ht : (IntKind.u64.wrap q.k).tmod 7 = 0) :
    Calls Try.prog 29 #[.pointer (some ⟨k.gd, 0, none⟩), .agg c.toArray, .agg (eOpD.code q).toArray] w (PlayOk w0 w k d n) := by
  have HL := Lib.hid (And.intro hL (And.intro hX hN))
  have hown := Lib.hid hL.own_lt
  have h0w := hL.bel.size
  obtain ⟨As, cs, Ap, cp, Af, cf, rfl⟩ := hX.open_
  have HT := Lib.hid ht
  clear hL hX hN ht
  simp only [eOpD]
  go_enter Try.func29, Try.ntmps29
  go_upto_region 1 with (fail)
  generalize hW0 : (((World.alloc w (.cells _ _)).alloc (.cells _ _)).alloc (.cells _ _)) = W
  obtain ⟨ba0, bb0, bc0, hz0, hB0⟩ := fresh3 hW0
  clear hW0
  have HB := Lib.hid (And.intro ba0 (And.intro bb0 (And.intro bc0 hB0)))
  have HLW : Hid (DL w0 W k d n ∧ RefX k.own W [.slice As d.rx.sure.length cs, .slice Ap d.rx.pend.length cp, .slice Af d.rx.falls.length cf, .int .i64 (d.rx.ch : Nat), .bool d.rx.down] d.rx ∧ NowOk d) := ⟨HL.out.1.below hB0, HL.out.2.1.below hB0, HL.out.2.2⟩
  have HX5 := Lib.hid ba0.c5
  have HQ := Lib.hid bb0
  have hk0 := bb0.cell 0
  simp only [List.getElem?_cons_zero] at hk0
  clear ba0 bb0 bc0 hB0
  go_upto_region 2 with (fail)
  clear hk0
  rw [HT.out]
  have hq1 := And.intro (HQ.out.cell 2) (And.intro (HQ.out.cell 3) (HQ.out.cell 4))
  simp only [List.getElem?_cons_zero, List.getElem?_cons_succ, bv] at hq1
  have HFL := Lib.hid (fill_any W q.c q.s)
  go_wp2_with fail
  refine HFL.out.mono ?_
  rintro e w7 ⟨A7, c7, rfl, ho7, hb7⟩
  have hl7 := fillL_length q.c q.s
  have H7 := Lib.hid (And.intro ho7 hb7)
  clear hq1
  have hq1 := (HB.out.2.1.below hb7).cell 4
  simp only [List.getElem?_cons_zero, List.getElem?_cons_succ] at hq1
  clear ho7 hb7 HFL
  cases hlg : q.long with
  | false =>
    rw [hlg] at hq1
    go_upto_region 6 with (fail)
    clear hq1 hlg
    generalize hlb : fillL q.c q.s = lb at H7 hl7
    obtain ⟨hob, hbb⟩ := H7.out
    have hln : lb.length = 512 := hl7
    clear hl7 hlb
    generalize A7 = Ab at hob H7 ⊢
    generalize c7 = cb at hob H7 ⊢
    have HLN := Lib.hid hln
    have HO := Lib.hid (And.intro hob hbb)
    have hcw := (HLW.out.1.below hbb).write (by omega) q.at_ Ab cb lb hob.row
    have HR : Hid (∀ w' : World, RefX k.own w' [.slice As d.rx.sure.length cs, .slice Ap d.rx.pend.length cp, .slice Af d.rx.falls.length cf, .int .i64 (d.rx.ch : Nat), .bool d.rx.down] d.rx → w.heap.size ≤ w'.heap.size → Calls Try.prog 35 #[.agg #[.slice As d.rx.sure.length cs, .slice Ap d.rx.pend.length cp, .slice Af d.rx.falls.length cf, .int .i64 (d.rx.ch : Nat), .bool d.rx.down], .int .i64 q.at_, .string ⟨lb.toArray⟩] w' (RetXN k.own w' ((d.write q.at_ lb).1.rx, (d.write q.at_ lb).2))) :=
      fun w' hx hz => refput_any k.own w' (fun j hj => Nat.lt_of_lt_of_le (hown.out j hj) hz) d _ hx HLW.out.1.good (by have := HLW.out.1.ch; omega) (by have := HLW.out.1.pe; omega) q.at_ lb (by rw [HLN.out]; decide)
    have HN : Hid (NowOk (d.write q.at_ lb).1 ∧ (d.write q.at_ lb).1.blocks.length = d.blocks.length) := ⟨HLW.out.2.2.write _ _, write_length d _ _⟩
    rw [hln] at hcw
    have HW := Lib.hid hcw
    generalize d.write q.at_ lb = wr at HW HR HN
    obtain ⟨d2, ev⟩ := wr
    simp only at HW HR HN
    generalize d.rx = x at HB HLW HL HX5 HR ⊢
    have hq1 := (HB.out.2.1.below hbb).cell 1
    simp only [List.getElem?_cons_zero, List.getElem?_cons_succ] at hq1
    clear hcw hob hbb hln
    go_wp2_with fail
    refine HW.out.mono ?_
    rintro e w9 ⟨rfl, hL9, hK9⟩
    have hKb : Keeps W w9 k.own := (Keeps.of_below HO.out.2).trans hK9
    have hno : ∀ j, j < 3 → ¬ k.own (w.heap.size + j) := fun j _ ho => by have := hown.out _ ho; omega
    have hx9 := HB.out.1.kept hKb (hno 0 (by decide))
    have hq9 := HB.out.2.1.kept hKb (hno 1 (by decide))
    have H9 := Lib.hid (And.intro hL9 (And.intro hKb (And.intro (HLW.out.2.1.kept hKb) (And.intro (HB.out.2.2.1.kept hKb (hno 2 (by decide))) (HLW.out.1.new_kept HO.out.1 hK9)))))
    have HC := Lib.hid (HR.out w9 H9.out.2.2.1 (Nat.le_trans HB.out.2.2.2.size hKb.size))
    have hcc := hx9.c5
    clear hq1
    have hq1 := hq9.cell 1
    simp only [List.getElem?_cons_zero, List.getElem?_cons_succ] at hq1
    have hcv := run_string_bytes w9 cb H9.out.2.2.2.2.row
    rw [HLN.out] at hcv
    unfold txt at hcv
    clear hL9 hK9 hKb hx9 hq9 HR HW hno
    go_wp2_with fail
    refine HC.out.mono ?_
    rintro e w10 ⟨c10, rfl, hx10, hb10⟩
    have H10 : Hid (PState w0 w w10 k d n d2 c10 ∧ Blk w10 (w.heap.size + 1 + 1) 54 [.slice none 0 0, .slice none 0 0, .slice none 0 0, .int .i64 0, .bool false] ∧ BOwn w10 W.heap.size Ab cb lb) := ⟨⟨H9.out.1.below hb10, ((Keeps.of_below HB.out.2.2.2).trans H9.out.2.1).belowR hb10, hx10, HN.out.1, HN.out.2⟩, H9.out.2.2.2.1.below hb10, H9.out.2.2.2.2.below hb10⟩
    obtain ⟨As4, cs4, Ap4, cp4, Af4, cf4, rfl⟩ := hx10.open_
    clear hcc hq1 hcv HC hb10 hx10 H9
    go_upto_region 8 with (fail)
    generalize hW5 : World.alloc w10 (.cells _ _) = W5
    obtain ⟨ba5, hz5, hB5⟩ := fresh1 hW5
    clear hW5
    have H5 : Hid (PState w0 w W5 k d n d2 _ ∧ Blk W5 (w.heap.size + 1 + 1) 54 [.slice none 0 0, .slice none 0 0, .slice none 0 0, .int .i64 0, .bool false] ∧ BOwn W5 W.heap.size Ab cb lb ∧ Blk W5 w10.heap.size 54 [.slice As4 d2.rx.sure.length cs4, .slice Ap4 d2.rx.pend.length cp4, .slice Af4 d2.rx.falls.length cf4, .int .i64 (d2.rx.ch : Nat), .bool d2.rx.down]) := ⟨H10.out.1.below hB5, H10.out.2.1.below hB5, H10.out.2.2.below hB5, ba5⟩
    clear ba5 hB5 H10
    obtain ⟨gy, hgy⟩ : ∃ gy, gy = w10.heap.size := ⟨_, rfl⟩
    rw [← hgy] at H5 ⊢
    clear hgy hz5
    generalize d2.rx = x2 at H5 ⊢
    go_wp2_with fail
    go_loopw [55] (fun iv wr => ∃ i : Nat, i ≤ 512 ∧ iv = .int .i64 i ∧ ∃ l', Hid (PState w0 w wr k d n d2 [.slice As4 x2.sure.length cs4, .slice Ap4 x2.pend.length cp4, .slice Af4 x2.falls.length cf4, .int .i64 (x2.ch : Nat), .bool x2.down] ∧ Blk wr (w.heap.size + 1 + 1) 54 [.slice none 0 0, .slice none 0 0, .slice none 0 0, .int .i64 0, .bool false] ∧ BOwn wr W.heap.size Ab cb l' ∧ Blk wr gy 54 [.slice As4 x2.sure.length cs4, .slice Ap4 x2.pend.length cp4, .slice Af4 x2.falls.length cf4, .int .i64 (x2.ch : Nat), .bool x2.down] ∧ l'.length = 512)) (fun iv _ => 512 - (intOf iv).toNat)
    case atStart => exact ⟨0, by omega, rfl, lb, H5.out.1, H5.out.2.1, H5.out.2.2.1, H5.out.2.2.2, HLN.out⟩
    case round =>
      obtain ⟨i, hi, rfl, l', HJ⟩ := hrel
      clear H5
      by_cases hlt : i < 512
      · have hii : (i : Int) < 512 := by omega
        have hil : i < l'.length := by rw [HJ.out.2.2.2.2]; exact hlt
        obtain ⟨g, rfl⟩ : ∃ g, Ab = some ⟨g, 0, none⟩ := by
          rcases HJ.out.2.2.1.form with ⟨_, _, h⟩ | ⟨g, h, _⟩
          · rw [h] at hil; simp at hil
          · exact ⟨g, h⟩
        have hgW := (HJ.out.2.2.1.block _ rfl).1
        have hcell := HJ.out.2.2.1.cell hil
        have hfr := HJ.out.2.2.1.free i
        have hglt := (HJ.out.2.2.1.block _ rfl).2
        simp only at hglt hgW
        go_wp2_with fail
        go_roundw
        case rel =>
          obtain ⟨p1, p2, p3, p4, p5⟩ := HJ.out
          have hk := p3.kind _ rfl
          have hgs := grown_store wr g i (.int .u8 (((l'[i].toNat : Int) + 1) % 256))
          refine ⟨i + 1, by omega, by go_num, l'.set i (UInt8.ofNat (l'[i].toNat + 1)), ⟨p1.dl.otherK hk nd_u8 hgs (Nat.le_trans HLW.out.1.bel.size hgW), p1.kp.set ⟨g, i, none⟩ (.inr (by have := HB.out.2.2.2.size; simp only; omega)) _, p1.rx.setByte hcell, p1.now, p1.len⟩, p2.otherK hk (by decide) hgs, p3.store i _ _ (bump_byte _), p4.otherK hk (by decide) hgs, by rw [List.length_set]; exact p5⟩
        case measure => simp [intOf]; omega
      · obtain rfl : i = 512 := by omega
        have hcc := And.intro HJ.out.2.2.2.1.c5 HJ.out.2.1.c5
        go_wp2_with fail
        refine ret_set5n HJ.out.2.1 rfl rfl rfl rfl rfl (fun W hW => load_rx hW) fun W2 hW hg => ?_
        exact HJ.out.1.fin HJ.out.2.1 (by omega) h0w hg rfl
  | true =>
    rw [hlg] at hq1
    have HL7 := Lib.hid hl7
    clear hl7
    go_upto_region 6 with (at_builtin; refine wpList_append_bytes rfl (.tmp 36) (.tmp 37) rfl 512 rfl (H7.out.1.below (fresh1 rfl).2.2) HL7.out.symm 1 rfl (BRow.one w7 0 _ _ rfl) rfl (by rw [HL7.out]; decide) (by have := H7.out.2.size; simp; omega) ?_; intro A8 c8 w8 ho8 hb8 _ _)
    have hln : (fillL q.c q.s ++ [0]).length = 513 := by rw [List.length_append, HL7.out]; rfl
    rw [show (fillL q.c q.s).length + 1 = 513 from by rw [HL7.out]]
    have hob := ho8
    have hbb := H7.out.2.trans ((Below.alloc1 w7 _).mono H7.out.2.size |>.trans hb8)
    clear ho8 hb8 hq1 hlg H7 HL7
    generalize fillL q.c q.s ++ [0] = lb at hob hln
    generalize A8 = Ab at hob ⊢
    generalize c8 = cb at hob ⊢
    have HLN := Lib.hid hln
    have HO := Lib.hid (And.intro hob hbb)
    have hcw := (HLW.out.1.below hbb).write (by omega) q.at_ Ab cb lb hob.row
    have HR : Hid (∀ w' : World, RefX k.own w' [.slice As d.rx.sure.length cs, .slice Ap d.rx.pend.length cp, .slice Af d.rx.falls.length cf, .int .i64 (d.rx.ch : Nat), .bool d.rx.down] d.rx → w.heap.size ≤ w'.heap.size → Calls Try.prog 35 #[.agg #[.slice As d.rx.sure.length cs, .slice Ap d.rx.pend.length cp, .slice Af d.rx.falls.length cf, .int .i64 (d.rx.ch : Nat), .bool d.rx.down], .int .i64 q.at_, .string ⟨lb.toArray⟩] w' (RetXN k.own w' ((d.write q.at_ lb).1.rx, (d.write q.at_ lb).2))) :=
      fun w' hx hz => refput_any k.own w' (fun j hj => Nat.lt_of_lt_of_le (hown.out j hj) hz) d _ hx HLW.out.1.good (by have := HLW.out.1.ch; omega) (by have := HLW.out.1.pe; omega) q.at_ lb (by rw [HLN.out]; decide)
    have HN : Hid (NowOk (d.write q.at_ lb).1 ∧ (d.write q.at_ lb).1.blocks.length = d.blocks.length) := ⟨HLW.out.2.2.write _ _, write_length d _ _⟩
    rw [hln] at hcw
    have HW := Lib.hid hcw
    generalize d.write q.at_ lb = wr at HW HR HN
    obtain ⟨d2, ev⟩ := wr
    simp only at HW HR HN
    generalize d.rx = x at HB HLW HL HX5 HR ⊢
    have hq1 := (HB.out.2.1.below hbb).cell 1
    simp only [List.getElem?_cons_zero, List.getElem?_cons_succ] at hq1
    clear hcw hob hbb hln
    go_wp2_with fail
    refine HW.out.mono ?_
    rintro e w9 ⟨rfl, hL9, hK9⟩
    have hKb : Keeps W w9 k.own := (Keeps.of_below HO.out.2).trans hK9
    have hno : ∀ j, j < 3 → ¬ k.own (w.heap.size + j) := fun j _ ho => by have := hown.out _ ho; omega
    have hx9 := HB.out.1.kept hKb (hno 0 (by decide))
    have hq9 := HB.out.2.1.kept hKb (hno 1 (by decide))
    have H9 := Lib.hid (And.intro hL9 (And.intro hKb (And.intro (HLW.out.2.1.kept hKb) (And.intro (HB.out.2.2.1.kept hKb (hno 2 (by decide))) (HLW.out.1.new_kept HO.out.1 hK9)))))
    have HC := Lib.hid (HR.out w9 H9.out.2.2.1 (Nat.le_trans HB.out.2.2.2.size hKb.size))
    have hcc := hx9.c5
    clear hq1
    have hq1 := hq9.cell 1
    simp only [List.getElem?_cons_zero, List.getElem?_cons_succ] at hq1
    have hcv := run_string_bytes w9 cb H9.out.2.2.2.2.row
    rw [HLN.out] at hcv
    unfold txt at hcv
    clear hL9 hK9 hKb hx9 hq9 HR HW hno
    go_wp2_with fail
    refine HC.out.mono ?_
    rintro e w10 ⟨c10, rfl, hx10, hb10⟩
    have H10 : Hid (PState w0 w w10 k d n d2 c10 ∧ Blk w10 (w.heap.size + 1 + 1) 54 [.slice none 0 0, .slice none 0 0, .slice none 0 0, .int .i64 0, .bool false] ∧ BOwn w10 W.heap.size Ab cb lb) := ⟨⟨H9.out.1.below hb10, ((Keeps.of_below HB.out.2.2.2).trans H9.out.2.1).belowR hb10, hx10, HN.out.1, HN.out.2⟩, H9.out.2.2.2.1.below hb10, H9.out.2.2.2.2.below hb10⟩
    obtain ⟨As4, cs4, Ap4, cp4, Af4, cf4, rfl⟩ := hx10.open_
    clear hcc hq1 hcv HC hb10 hx10 H9
    go_upto_region 8 with (fail)
    generalize hW5 : World.alloc w10 (.cells _ _) = W5
    obtain ⟨ba5, hz5, hB5⟩ := fresh1 hW5
    clear hW5
    have H5 : Hid (PState w0 w W5 k d n d2 _ ∧ Blk W5 (w.heap.size + 1 + 1) 54 [.slice none 0 0, .slice none 0 0, .slice none 0 0, .int .i64 0, .bool false] ∧ BOwn W5 W.heap.size Ab cb lb ∧ Blk W5 w10.heap.size 54 [.slice As4 d2.rx.sure.length cs4, .slice Ap4 d2.rx.pend.length cp4, .slice Af4 d2.rx.falls.length cf4, .int .i64 (d2.rx.ch : Nat), .bool d2.rx.down]) := ⟨H10.out.1.below hB5, H10.out.2.1.below hB5, H10.out.2.2.below hB5, ba5⟩
    clear ba5 hB5 H10
    obtain ⟨gy, hgy⟩ : ∃ gy, gy = w10.heap.size := ⟨_, rfl⟩
    rw [← hgy] at H5 ⊢
    clear hgy hz5
    generalize d2.rx = x2 at H5 ⊢
    go_wp2_with fail
    go_loopw [55] (fun iv wr => ∃ i : Nat, i ≤ 513 ∧ iv = .int .i64 i ∧ ∃ l', Hid (PState w0 w wr k d n d2 [.slice As4 x2.sure.length cs4, .slice Ap4 x2.pend.length cp4, .slice Af4 x2.falls.length cf4, .int .i64 (x2.ch : Nat), .bool x2.down] ∧ Blk wr (w.heap.size + 1 + 1) 54 [.slice none 0 0, .slice none 0 0, .slice none 0 0, .int .i64 0, .bool false] ∧ BOwn wr W.heap.size Ab cb l' ∧ Blk wr gy 54 [.slice As4 x2.sure.length cs4, .slice Ap4 x2.pend.length cp4, .slice Af4 x2.falls.length cf4, .int .i64 (x2.ch : Nat), .bool x2.down] ∧ l'.length = 513)) (fun iv _ => 513 - (intOf iv).toNat)
    case atStart => exact ⟨0, by omega, rfl, lb, H5.out.1, H5.out.2.1, H5.out.2.2.1, H5.out.2.2.2, HLN.out⟩
    case round =>
      obtain ⟨i, hi, rfl, l', HJ⟩ := hrel
      clear H5
      by_cases hlt : i < 513
      · have hii : (i : Int) < 513 := by omega
        have hil : i < l'.length := by rw [HJ.out.2.2.2.2]; exact hlt
        obtain ⟨g, rfl⟩ : ∃ g, Ab = some ⟨g, 0, none⟩ := by
          rcases HJ.out.2.2.1.form with ⟨_, _, h⟩ | ⟨g, h, _⟩
          · rw [h] at hil; simp at hil
          · exact ⟨g, h⟩
        have hgW := (HJ.out.2.2.1.block _ rfl).1
        have hcell := HJ.out.2.2.1.cell hil
        have hfr := HJ.out.2.2.1.free i
        have hglt := (HJ.out.2.2.1.block _ rfl).2
        simp only at hglt hgW
        go_wp2_with fail
        go_roundw
        case rel =>
          obtain ⟨p1, p2, p3, p4, p5⟩ := HJ.out
          have hk := p3.kind _ rfl
          have hgs := grown_store wr g i (.int .u8 (((l'[i].toNat : Int) + 1) % 256))
          refine ⟨i + 1, by omega, by go_num, l'.set i (UInt8.ofNat (l'[i].toNat + 1)), ⟨p1.dl.otherK hk nd_u8 hgs (Nat.le_trans HLW.out.1.bel.size hgW), p1.kp.set ⟨g, i, none⟩ (.inr (by have := HB.out.2.2.2.size; simp only; omega)) _, p1.rx.setByte hcell, p1.now, p1.len⟩, p2.otherK hk (by decide) hgs, p3.store i _ _ (bump_byte _), p4.otherK hk (by decide) hgs, by rw [List.length_set]; exact p5⟩
        case measure => simp [intOf]; omega
      · obtain rfl : i = 513 := by omega
        have hcc := And.intro HJ.out.2.2.2.1.c5 HJ.out.2.1.c5
        go_wp2_with fail
        refine ret_set5n HJ.out.2.1 rfl rfl rfl rfl rfl (fun W hW => load_rx hW) fun W2 hW hg => ?_
        exact HJ.out.1.fin HJ.out.2.1 (by omega) h0w hg rfl
end Go.Proofs.Ythbanhedjfpmaaa
