/-
  One thing that is done to a disk and to the document's: flush, read, crash, up, plan, clone.
-/
import Derived.Test.YthbanhedjfpmaaaPlay0
namespace Go.Proofs.Ythbanhedjfpmaaa
set_option linter.unusedSimpArgs false
set_option linter.unusedVariables false
open Go.RowKit

theorem nd_rx : notDisk 54 := by refine ⟨?_, ?_, ?_, ?_⟩ <;> decide
theorem Keeps.grownNew {w w1 w2 : World} {S : Nat → Prop} {g : Nat} (h : Keeps w w1 S) (hg : w1.grownBy w2 (some g)) (hlo : w.heap.size ≤ g) : Keeps w w2 S :=
  ⟨hg.os.trans h.os, hg.tape.trans h.tape, hg.output.trans h.output, Nat.le_trans h.size hg.size, fun i hi hn => (hg.block i (Nat.lt_of_lt_of_le hi h.size) (by simp only [ne_eq, Option.some.injEq]; omega)).trans (h.block i hi hn)⟩
theorem Keeps.belowR {w w1 w2 : World} {S : Nat → Prop} (h : Keeps w w1 S) (hb : Below w1.heap.size w1 w2) : Keeps w w2 S := h.trans (Keeps.of_below hb)
/-- What holds when the answer is about to be given. -/
structure PState (w0 w w4 : World) (k : KB) (d : DS) (n : Nat) (d' : DS) (c' : List Value) : Prop where
  dl : DL w0 w4 k d' (n + 1)
  kp : Keeps w w4 k.own
  rx : RefX k.own w4 c' d'.rx
  now : NowOk d'
  len : d'.blocks.length = d.blocks.length
section
variable {w0 w w4 w5 : World} {k : KB} {d d' : DS} {n g : Nat} {c' : List Value}
theorem PState.below (h : PState w0 w w4 k d n d' c') (hb : Below w4.heap.size w4 w5) : PState w0 w w5 k d n d' c' := ⟨h.dl.below hb, h.kp.belowR hb, h.rx.below hb, h.now, h.len⟩
theorem PState.fin (h : PState w0 w w4 k d n d' c') {a1 b1 c1 : Option Addr} {a2 a3 b2 b3 c2 c3 : Nat} {m : Int} {b : Bool} (hb : Blk w4 g 54 [.slice a1 a2 a3, .slice b1 b2 b3, .slice c1 c2 c3, .int .i64 m, .bool b]) (hlo : w.heap.size ≤ g) (h0 : w0.heap.size ≤ w.heap.size)
    (hg : w4.grownBy w5 (some g)) {e : Ending} (he : e = .returned (.tuple #[.agg c'.toArray, .bool true])) : PlayOk w0 w k d n e w5 :=
  ⟨d', c', he, h.dl.other hb nd_rx hg (by omega), h.kp.grownNew hg hlo, h.rx.keptG hb hg, h.now, h.len⟩
end
theorem head5 (d : DS) : d.rx.down = d.down := rfl
set_option maxRecDepth 20000 in
set_option maxHeartbeats 2000000 in
theorem play1 (w0 w : World) (k : KB) (d : DS) (n : Nat) (q : OpD) (c : List Value) (hL : DL w0 w k d n) (hX : RefX k.own w c d.rx) (hN : NowOk d) (hn : n < 1000) (ht : (IntKind.u64.wrap q.k).tmod 7 = 1) :
    Calls Try.prog 29 #[.pointer (some ⟨k.gd, 0, none⟩), .agg c.toArray, .agg (eOpD.code q).toArray] w (PlayOk w0 w k d n) := by
  have HL := Lib.hid (And.intro hL (And.intro hX hN))
  have hown := Lib.hid hL.own_lt
  have h0w := hL.bel.size
  obtain ⟨As, cs, Ap, cp, Af, cf, rfl⟩ := hX.open_
  have HT := Lib.hid ht
  clear hL hX hN ht
  simp only [eOpD]
  go_enter Try.func29, Try.ntmps29
  go_upto_region 1 with (fail)
  generalize hW0 : (((World.alloc w (.cells _ _)).alloc (.cells _ _)).alloc (.cells _ _)) = W
  obtain ⟨ba0, bb0, bc0, hz0, hB0⟩ := fresh3 hW0
  clear hW0
  have HB := Lib.hid (And.intro ba0 (And.intro bb0 (And.intro bc0 hB0)))
  have HLW : Hid (DL w0 W k d n ∧ RefX k.own W [.slice As d.rx.sure.length cs, .slice Ap d.rx.pend.length cp, .slice Af d.rx.falls.length cf, .int .i64 (d.rx.ch : Nat), .bool d.rx.down] d.rx ∧ NowOk d) := ⟨HL.out.1.below hB0, HL.out.2.1.below hB0, HL.out.2.2⟩
  have HX5 := Lib.hid ba0.c5
  have HQ := Lib.hid bb0
  have hk0 := bb0.cell 0
  simp only [List.getElem?_cons_zero] at hk0
  clear ba0 bb0 bc0 hB0
  go_upto_region 2 with (fail)
  clear hk0
  rw [HT.out]
  have HF := Lib.hid (HLW.out.1.flush (by omega))
  have HR : Hid (∀ w' : World, RefX k.own w' [.slice As d.rx.sure.length cs, .slice Ap d.rx.pend.length cp, .slice Af d.rx.falls.length cf, .int .i64 (d.rx.ch : Nat), .bool d.rx.down] d.rx → w.heap.size ≤ w'.heap.size → Calls Try.prog 54 #[.agg #[.slice As d.rx.sure.length cs, .slice Ap d.rx.pend.length cp, .slice Af d.rx.falls.length cf, .int .i64 (d.rx.ch : Nat), .bool d.rx.down]] w' (RetXN k.own w' (d.flush.1.rx, d.flush.2))) :=
    fun w' hx hz => refflush_any k.own w' (fun j hj => Nat.lt_of_lt_of_le (hown.out j hj) hz) d _ hx HLW.out.1.good (by have := HLW.out.1.ch; omega)
  have HN : Hid (NowOk d.flush.1 ∧ d.flush.1.blocks.length = d.blocks.length) := ⟨HLW.out.2.2.flush HLW.out.1.good, flush_length d⟩
  generalize d.flush = fl at HF HR HN
  obtain ⟨d2, ev⟩ := fl
  simp only at HF HR HN
  generalize d.rx = x at HB HLW HL HX5 HR ⊢
  go_wp2_with fail
  refine HF.out.mono ?_
  rintro e w3 ⟨rfl, hL3, hK3⟩
  have hKw : Keeps w w3 k.own := (Keeps.of_below HB.out.2.2.2).trans hK3
  have H3 := Lib.hid (And.intro (HB.out.1.kept hK3 (fun h => by have := hown.out _ h; omega)) (And.intro (HB.out.2.2.1.kept hK3 (fun h => by have := hown.out _ h; omega)) (And.intro hL3 (And.intro hKw (HLW.out.2.1.kept hK3)))))
  have hcc3 := H3.out.1.c5
  have HC := Lib.hid (HR.out w3 H3.out.2.2.2.2 hKw.size)
  clear hL3 hK3 hKw HF HR
  go_wp2_with fail
  refine HC.out.mono ?_
  rintro e w4 ⟨c4, rfl, hx4, hb4⟩
  have H4 : Hid (PState w0 w w4 k d n d2 c4 ∧ Blk w4 (w.heap.size + 1 + 1) 54 [.slice none 0 0, .slice none 0 0, .slice none 0 0, .int .i64 0, .bool false]) := ⟨⟨H3.out.2.2.1.below hb4, H3.out.2.2.2.1.belowR hb4, hx4, HN.out.1, HN.out.2⟩, H3.out.2.1.below hb4⟩
  obtain ⟨As4, cs4, Ap4, cp4, Af4, cf4, rfl⟩ := hx4.open_
  clear hcc3 HC hb4 hx4 H3
  go_upto_region 17 with (fail)
  generalize hW5 : World.alloc w4 (.cells _ _) = W5
  obtain ⟨ba5, hz5, hB5⟩ := fresh1 hW5
  clear hW5
  have H5 : Hid (PState w0 w W5 k d n d2 _ ∧ Blk W5 (w.heap.size + 1 + 1) 54 [.slice none 0 0, .slice none 0 0, .slice none 0 0, .int .i64 0, .bool false]) := ⟨H4.out.1.below hB5, H4.out.2.below hB5⟩
  have hcc5 := And.intro ba5.c5 H5.out.2.c5
  clear ba5 hB5 H4
  go_wp2_with fail
  refine ret_set5n H5.out.2 rfl rfl rfl rfl rfl (fun W hW => load_rx hW) fun W2 hW hg => ?_
  exact H5.out.1.fin H5.out.2 (by omega) h0w hg rfl
set_option maxRecDepth 20000 in
set_option maxHeartbeats 2000000 in
theorem play3 (w0 w : World) (k : KB) (d : DS) (n : Nat) (q : OpD) (c : List Value) (hL : DL w0 w k d n) (hX : RefX k.own w c d.rx) (hN : NowOk d) (hf : q.f.Fine) (ht : (IntKind.u64.wrap q.k).tmod 7 = 3) :
    Calls Try.prog 29 #[.pointer (some ⟨k.gd, 0, none⟩), .agg c.toArray, .agg (eOpD.code q).toArray] w (PlayOk w0 w k d n) := by
  have HL := Lib.hid (And.intro hL (And.intro hX hN))
  have hown := Lib.hid hL.own_lt
  have h0w := hL.bel.size
  obtain ⟨As, cs, Ap, cp, Af, cf, rfl⟩ := hX.open_
  have HT := Lib.hid ht
  clear hL hX hN ht
  simp only [eOpD]
  go_enter Try.func29, Try.ntmps29
  go_upto_region 1 with (fail)
  generalize hW0 : (((World.alloc w (.cells _ _)).alloc (.cells _ _)).alloc (.cells _ _)) = W
  obtain ⟨ba0, bb0, bc0, hz0, hB0⟩ := fresh3 hW0
  clear hW0
  have HB := Lib.hid (And.intro ba0 (And.intro bb0 (And.intro bc0 hB0)))
  have HLW : Hid (DL w0 W k d n ∧ RefX k.own W [.slice As d.rx.sure.length cs, .slice Ap d.rx.pend.length cp, .slice Af d.rx.falls.length cf, .int .i64 (d.rx.ch : Nat), .bool d.rx.down] d.rx ∧ NowOk d) := ⟨HL.out.1.below hB0, HL.out.2.1.below hB0, HL.out.2.2⟩
  have HX5 := Lib.hid ba0.c5
  have HQ := Lib.hid bb0
  have hk0 := bb0.cell 0
  simp only [List.getElem?_cons_zero] at hk0
  clear ba0 bb0 bc0 hB0
  go_upto_region 2 with (fail)
  clear hk0
  rw [HT.out]
  have HF := Lib.hid (HLW.out.1.crash q.f hf.1)
  have HR : Hid (∀ w' : World, RefX k.own w' [.slice As d.rx.sure.length cs, .slice Ap d.rx.pend.length cp, .slice Af d.rx.falls.length cf, .int .i64 (d.rx.ch : Nat), .bool d.rx.down] d.rx → w.heap.size ≤ w'.heap.size → Calls Try.prog 56 #[.agg #[.slice As d.rx.sure.length cs, .slice Ap d.rx.pend.length cp, .slice Af d.rx.falls.length cf, .int .i64 (d.rx.ch : Nat), .bool d.rx.down], .agg #[.int .i64 q.f.at_, .int .u64 (q.f.keep : Nat), .int .i64 q.f.torn]] w' (RetX k.own w' (d.crash q.f).rx)) :=
    fun w' hx hz => refcrash_any k.own w' (fun j hj => Nat.lt_of_lt_of_le (hown.out j hj) hz) d _ hx HLW.out.1.good q.f hf.1
  have HN : Hid (NowOk (d.crash q.f) ∧ (d.crash q.f).blocks.length = d.blocks.length) := ⟨HLW.out.2.2.crash q.f, crash_length d q.f⟩
  generalize d.crash q.f = d2 at HF HR HN
  generalize d.rx = x at HB HLW HL HX5 HR ⊢
  have hq5 := And.intro (HQ.out.cell 5) (And.intro (HQ.out.cell 6) (HQ.out.cell 7))
  simp only [List.getElem?_cons_zero, List.getElem?_cons_succ] at hq5
  go_wp2_with fail
  refine HF.out.mono ?_
  rintro e w3 ⟨rfl, hL3, hK3⟩
  have hKw : Keeps w w3 k.own := (Keeps.of_below HB.out.2.2.2).trans hK3
  have H3 := Lib.hid (And.intro (HB.out.1.kept hK3 (fun h => by have := hown.out _ h; omega)) (And.intro (HB.out.2.2.1.kept hK3 (fun h => by have := hown.out _ h; omega)) (And.intro hL3 (And.intro hKw (HLW.out.2.1.kept hK3)))))
  have hq3 := HB.out.2.1.kept hK3 (fun h => by have := hown.out _ h; omega)
  clear hq5
  have hq5 := And.intro (hq3.cell 5) (And.intro (hq3.cell 6) (hq3.cell 7))
  simp only [List.getElem?_cons_zero, List.getElem?_cons_succ] at hq5
  have hcc3 := And.intro H3.out.1.c5 H3.out.2.1.c5
  have HC := Lib.hid (HR.out w3 H3.out.2.2.2.2 hKw.size)
  clear hL3 hK3 hKw HF HR hq3
  go_wp2_with fail
  refine HC.out.mono ?_
  rintro e w4 ⟨c4, rfl, hx4, hb4⟩
  have H4 : Hid (PState w0 w w4 k d n d2 c4 ∧ Blk w4 (w.heap.size + 1 + 1) 54 [.slice none 0 0, .slice none 0 0, .slice none 0 0, .int .i64 0, .bool false]) := ⟨⟨(H3.out.2.2.1.below hb4).more (Nat.le_succ _), H3.out.2.2.2.1.belowR hb4, hx4, HN.out.1, HN.out.2⟩, H3.out.2.1.below hb4⟩
  obtain ⟨As4, cs4, Ap4, cp4, Af4, cf4, rfl⟩ := hx4.open_
  have hcc4 := H4.out.2.c5
  clear hcc3 HC hb4 hx4 H3 hq5
  go_wp2_with fail
  refine ret_set5n H4.out.2 rfl rfl rfl rfl rfl (fun W hW => load_rx hW) fun W2 hW hg => ?_
  exact H4.out.1.fin H4.out.2 (by omega) h0w hg rfl
set_option maxRecDepth 20000 in
set_option maxHeartbeats 2000000 in
theorem play4 (w0 w : World) (k : KB) (d : DS) (n : Nat) (q : OpD) (c : List Value) (hL : DL w0 w k d n) (hX : RefX k.own w c d.rx) (hN : NowOk d) (ht : (IntKind.u64.wrap q.k).tmod 7 = 4) :
    Calls Try.prog 29 #[.pointer (some ⟨k.gd, 0, none⟩), .agg c.toArray, .agg (eOpD.code q).toArray] w (PlayOk w0 w k d n) := by
  have HL := Lib.hid (And.intro hL (And.intro hX hN))
  have hown := Lib.hid hL.own_lt
  have h0w := hL.bel.size
  obtain ⟨As, cs, Ap, cp, Af, cf, rfl⟩ := hX.open_
  have HT := Lib.hid ht
  clear hL hX hN ht
  simp only [eOpD]
  go_enter Try.func29, Try.ntmps29
  go_upto_region 1 with (fail)
  generalize hW0 : (((World.alloc w (.cells _ _)).alloc (.cells _ _)).alloc (.cells _ _)) = W
  obtain ⟨ba0, bb0, bc0, hz0, hB0⟩ := fresh3 hW0
  clear hW0
  have HB := Lib.hid (And.intro ba0 (And.intro bb0 (And.intro bc0 hB0)))
  have HLW : Hid (DL w0 W k d n ∧ RefX k.own W [.slice As d.rx.sure.length cs, .slice Ap d.rx.pend.length cp, .slice Af d.rx.falls.length cf, .int .i64 (d.rx.ch : Nat), .bool d.rx.down] d.rx ∧ NowOk d) := ⟨HL.out.1.below hB0, HL.out.2.1.below hB0, HL.out.2.2⟩
  have HX5 := Lib.hid ba0.c5
  have HQ := Lib.hid bb0
  have hk0 := bb0.cell 0
  simp only [List.getElem?_cons_zero] at hk0
  clear ba0 bb0 bc0 hB0
  go_upto_region 2 with (fail)
  clear hk0
  rw [HT.out]
  rw [show d.rx.down = d.down from rfl] at HB HLW HL HX5 ⊢
  have HXD : Hid (∀ w', RefX k.own w' [.slice As d.rx.sure.length cs, .slice Ap d.rx.pend.length cp, .slice Af d.rx.falls.length cf, .int .i64 (d.rx.ch : Nat), .bool d.down] d.rx → RefX k.own w' [.slice As d.rx.sure.length cs, .slice Ap d.rx.pend.length cp, .slice Af d.rx.falls.length cf, .int .i64 (d.rx.ch : Nat), .bool false] ({ d with down := false } : DS).rx) := fun w' h => by
    obtain ⟨r1, r2, r3, -, -, -⟩ := h.rows
    exact ⟨As, cs, Ap, cp, Af, cf, rfl, r1, r2, r3⟩
  have HN : Hid (NowOk ({ d with down := false } : DS)) := HLW.out.2.2
  generalize d.rx = x at HB HLW HL HX5 HXD ⊢
  have hcc0 := HX5.out
  go_upto_region 30 with (fail)
  have H5 : Hid (DL w0 (W.setCell ⟨w.heap.size, 4, none⟩ (.bool false)) k d n ∧ RefX k.own (W.setCell ⟨w.heap.size, 4, none⟩ (.bool false)) [.slice As x.sure.length cs, .slice Ap x.pend.length cp, .slice Af x.falls.length cf, .int .i64 (x.ch : Nat), .bool d.down] x ∧
      Blk (W.setCell ⟨w.heap.size, 4, none⟩ (.bool false)) w.heap.size 54 [.slice As x.sure.length cs, .slice Ap x.pend.length cp, .slice Af x.falls.length cf, .int .i64 (x.ch : Nat), .bool false] ∧ Blk (W.setCell ⟨w.heap.size, 4, none⟩ (.bool false)) (w.heap.size + 1 + 1) 54 [.slice none 0 0, .slice none 0 0, .slice none 0 0, .int .i64 0, .bool false] ∧ Keeps w (W.setCell ⟨w.heap.size, 4, none⟩ (.bool false)) k.own) :=
    ⟨HLW.out.1.other HB.out.1 nd_rx (grown_store _ _ _ _) h0w, HLW.out.2.1.keptG HB.out.1 (grown_store _ _ _ _), HB.out.1.set 4 _, HB.out.2.2.1.other ⟨w.heap.size, 4, none⟩ (by simp; omega) _, (Keeps.of_below HB.out.2.2.2).set ⟨w.heap.size, 4, none⟩ (.inr (Nat.le_refl _)) _⟩
  clear HX5 hcc0
  generalize (World.setCell W _ _) = W5 at H5 ⊢
  have hcc5 := And.intro H5.out.2.2.1.c5 H5.out.2.2.2.1.c5
  have HU := Lib.hid ((H5.out.1.below (below_drew W5)).up)
  refine wp_region_plan (.take 0 (.take 1 (.take 3 (.run 2 [0, 3] (.take 4 (.run 5 [3, 4] (.take 6 .fin))))))) (by kernel_rfl) (by kernel_rfl) (by kernel_rfl) (by kernel_rfl) ?_
  simp only [walk, again, sel, List.getElem?_toArray, List.getElem?_cons_zero, List.getElem?_cons_succ]
  repeat (intro Z hZ; go_wp2_with (fail))
  refine HU.out.mono ?_
  rintro e w6 ⟨rfl, hL6, hK6⟩
  have hK5 : Keeps W5 w6 k.own := (Keeps.of_below (below_drew W5)).trans hK6
  have H6 : Hid (PState w0 w w6 k d n { d with down := false } _ ∧ Blk w6 (w.heap.size + 1 + 1) 54 [.slice none 0 0, .slice none 0 0, .slice none 0 0, .int .i64 0, .bool false]) :=
    ⟨⟨hL6.more (Nat.le_succ _), H5.out.2.2.2.2.trans hK5, HXD.out w6 (H5.out.2.1.kept hK5), HN.out, rfl⟩, H5.out.2.2.2.1.kept hK5 (fun h => by have := hown.out _ h; omega)⟩
  have hx6 := H5.out.2.2.1.kept hK5 (fun h => by have := hown.out _ h; omega)
  have hcc6 := And.intro hx6.c5 H6.out.2.c5
  clear hcc5 hL6 hK6 hK5 HU hx6
  go_wp2_with fail
  repeat (intro Z hZ; go_wp2_with (fail))
  refine ret_set5n H6.out.2 rfl rfl rfl rfl rfl (fun W hW => load_rx hW) fun W2 hW hg => ?_
  exact H6.out.1.fin H6.out.2 (by omega) h0w hg rfl
end Go.Proofs.Ythbanhedjfpmaaa
