/-
  Texts of a proof, one behind the other (each with its own head).
-/
import Derived.Test.YthbanhedjfpmaaaPartEljilongi
section
/-
  One thing is done to both: the power fails or comes, a fall is planned, the journal is opened.
-/
namespace Go.Proofs.Ythbanhedjfpmaaa
set_option linter.unusedSimpArgs false
set_option linter.unusedVariables false
open Go.RowKit

theorem RefX.setDown {S : Nat → Prop} {w : World} {a b c n : Value} {u v : Bool} {x : RX} (h : RefX S w [a, b, c, n, .bool u] x) : RefX S w [a, b, c, n, .bool v] { x with down := v } := by
  obtain ⟨As, cs, Ap, cp, Af, cf, e, h1, h2, h3⟩ := h
  simp only [List.cons.injEq, and_true] at e
  obtain ⟨rfl, rfl, rfl, rfl, -⟩ := e
  exact ⟨As, cs, Ap, cp, Af, cf, rfl, h1, h2, h3⟩
theorem RefX.setFalls {S : Nat → Prop} {w : World} {a b c n u : Value} {x : RX} (h : RefX S w [a, b, c, n, u] x) {A : Option Addr} {cf' m : Nat} {L : List DF} (hm : m = L.length) (hr : RowX S eDF w A L) : RefX S w [a, b, .slice A m cf', n, u] { x with falls := L } := by
  obtain ⟨As, cs, Ap, cp, Af, cf, e, h1, h2, h3⟩ := h
  simp only [List.cons.injEq, and_true] at e
  obtain ⟨rfl, rfl, -, rfl, rfl⟩ := e
  subst hm
  exact ⟨As, cs, Ap, cp, A, cf', rfl, h1, h2, hr⟩
set_option maxRecDepth 20000 in
set_option maxHeartbeats 2000000 in
theorem bstep4 (w0 w : World) (k : KB) (gb : Nat) (d : DS) (l : LS) (n : Nat) (H : BotOk w0 w k gb d l n) (hn : n + 1010 < 80000) (q : OpW) (blocks : Nat) (h3 : 3 ≤ blocks) (h1000 : blocks ≤ 1000) (hin : l.at_ + blocks ≤ d.blocks.length) (hk : (IntKind.u64.wrap q.k).tmod 5 = 4) :
    Calls Try.prog 46 #[.pointer (some ⟨gb, 0, none⟩), .agg #[.int .i64 q.k, .slice q.A q.ps.length q.cap, .int .i64 q.f.at_, .int .u64 (q.f.keep : Nat), .int .i64 q.f.torn], .int .i64 (blocks : Nat)] w (Stepped w0 k gb d l n) := by
  obtain ⟨hN, lp, c, o, hB, hcase⟩ := H
  obtain ⟨As, cs, Ap, cp, Af, cf, rfl⟩ := hB.rx.open_
  have hw0 : 0 ≤ IntKind.u64.wrap q.k := by simp [IntKind.wrap, IntKind.signed, IntKind.bits]; omega
  have hk5 : IntKind.u64.wrap q.k % 5 = 4 := by rw [← Int.tmod_eq_emod_of_nonneg hw0]; exact hk
  have HN := Lib.hid hN
  have HIN := Lib.hid hin
  have H0 := Lib.hid hB
  clear hB hcase hN hin
  go_enter Try.func46, Try.ntmps46
  go_upto_region 1 with (fail)
  generalize hW1 : World.alloc w (.cells _ _) = W1
  obtain ⟨ba1, hz1, hB1⟩ := fresh1 hW1
  clear hW1
  have H1 := Lib.hid (H0.out.below hB1)
  have hx0 := ba1.cell 0
  simp only [List.getElem?_cons_zero, List.getElem?_cons_succ] at hx0
  have hc := H1.out.blk.c13
  clear ba1 hB1 hz1 H0
  go_wp2_with fail
  refine H1.out.dl.up.mono ?_
  rintro e w2 ⟨rfl, hL2, hK2⟩
  have H2 := Lib.hid (H1.out.prog hL2 hK2 fun i hi => ⟨.inl hi, fun e => H1.out.own (e ▸ hi)⟩)
  clear hL2 hK2 hx0 hc H1
  have hc := H2.out.blk.c13
  go_upto_region 5 with (fail)
  have H6 : Hid (BotAt w0 (w2.setCells gb 6 [.bool false]) k gb o { d with down := false } lp [.slice As d.rx.sure.length cs, .slice Ap d.rx.pend.length cp, .slice Af d.rx.falls.length cf, .int .i64 (d.rx.ch : Nat), .bool false] ({ d with down := false } : DS).rx l n ∧ NowAt { d with down := false }) := ⟨H2.out.store 6 [.bool false] rfl H2.out.rx.setDown, HN.out.up false⟩
  have HLN : Hid (({ d with down := false } : DS).blocks.length = d.blocks.length) := rfl
  simp only [World.setCells] at H6
  clear H2
  generalize (World.setCell w2 _ _) = W6 at H6 ⊢
  generalize hd3 : ({ d with down := false } : DS) = d3 at H6 HLN
  have HO := Lib.hid (bopen_any w0 W6 k gb o d3 lp _ l n H6.out.1 H6.out.2 (by omega) blocks h3 h1000 (by rw [HLN.out]; exact HIN.out))
  clear hc
  go_wp2_with fail
  refine HO.out.mono ?_
  rintro e w8 ⟨rfl, l8, hb8, hat8, -⟩
  go_wp2_with fail
  go_ret
  refine ⟨rfl, ((d3).openW l.at_ ((blocks - 2) * 512)).d, l8, ?_, hat8, by rw [openW_length, HLN.out]⟩
  obtain ⟨q1, lp8, c8, o8, q2, q3⟩ := hb8
  exact ⟨q1, lp8, c8, o8, q2.more (by omega), q3⟩
set_option maxRecDepth 20000 in
set_option maxHeartbeats 2000000 in
theorem bstep2 (w0 w : World) (k : KB) (gb : Nat) (d : DS) (l : LS) (n : Nat) (H : BotOk w0 w k gb d l n) (hn : n + 1010 < 80000) (q : OpW) (hf : q.f.Fine) (blocks : Nat) (h3 : 3 ≤ blocks) (h1000 : blocks ≤ 1000) (hin : l.at_ + blocks ≤ d.blocks.length) (hk : (IntKind.u64.wrap q.k).tmod 5 = 2) :
    Calls Try.prog 46 #[.pointer (some ⟨gb, 0, none⟩), .agg #[.int .i64 q.k, .slice q.A q.ps.length q.cap, .int .i64 q.f.at_, .int .u64 (q.f.keep : Nat), .int .i64 q.f.torn], .int .i64 (blocks : Nat)] w (Stepped w0 k gb d l n) := by
  obtain ⟨hN, lp, c, o, hB, hcase⟩ := H
  obtain ⟨As, cs, Ap, cp, Af, cf, rfl⟩ := hB.rx.open_
  have hw0 : 0 ≤ IntKind.u64.wrap q.k := by simp [IntKind.wrap, IntKind.signed, IntKind.bits]; omega
  have hk5 : IntKind.u64.wrap q.k % 5 = 2 := by rw [← Int.tmod_eq_emod_of_nonneg hw0]; exact hk
  have HN := Lib.hid hN
  have HIN := Lib.hid hin
  have HF := Lib.hid hf
  have H0 : Hid (BotAt w0 w k gb o d lp [.slice As d.rx.sure.length cs, .slice Ap d.rx.pend.length cp, .slice Af d.rx.falls.length cf, .int .i64 (d.rx.ch : Nat), .bool d.rx.down] d.rx l n ∧ (∀ i, inB k gb o i → i < w.heap.size)) := ⟨hB, hB.lt (JCase.lt hcase)⟩
  clear hB hcase hN hin hf
  go_enter Try.func46, Try.ntmps46
  go_upto_region 1 with (fail)
  generalize hW1 : World.alloc w (.cells _ _) = W1
  obtain ⟨ba1, hz1, hB1⟩ := fresh1 hW1
  clear hW1
  have H1 := Lib.hid (H0.out.1.below hB1)
  have HBX := Lib.hid (And.intro ba1 hB1.size)
  have hx0 := ba1.cell 0
  have hx2 := ba1.cell 2
  have hx3 := ba1.cell 3
  have hx4 := ba1.cell 4
  have hxl := ba1.lt
  simp only [List.getElem?_cons_zero, List.getElem?_cons_succ] at hx0 hx2 hx3 hx4
  have hc := H1.out.blk.c13
  clear ba1 hB1 hz1
  go_wp2_with fail
  refine wp_region_plan (.take 0 (.take 1 (.take 2 (.take 3 (.take 4 (.take 5 (.run 6 [] .fin))))))) (by kernel_rfl) (by kernel_rfl) (by kernel_rfl) (by kernel_rfl) ?_
  repeat' (first | (refine hZ _ _ ?_; clear hZ) | (refine hZ _ ?_; clear hZ) | (refine hZ ?_; clear hZ) | rw [again_nil] | rw [walk_fin] | ((first | rw [walk_take] | rw [walk_run] | rw [again_cons]); intro Z hZ; simp only [sel, List.getElem?_toArray, List.getElem?_cons_zero, List.getElem?_cons_succ]; go_wp2_with (fail)))
  refine ((H1.out.below (below_drew W1)).dl.crash q.f HF.out.1).mono ?_
  rintro e w2 ⟨rfl, hL2, hK2⟩
  have H2 := Lib.hid ((H1.out.below (below_drew W1)).prog hL2 hK2 fun i hi => ⟨.inl hi, fun e => H1.out.own (e ▸ hi)⟩)
  have HB2 : Hid (Blk w2 w.heap.size 66 [.int .i64 q.k, .slice q.A q.ps.length q.cap, .int .i64 q.f.at_, .int .u64 (q.f.keep : Nat), .int .i64 q.f.torn]) := (HBX.out.1.below (below_drew W1)).kept hK2 (fun hi => by have := H0.out.2 _ (.inl hi); omega)
  have HLT : Hid (∀ i, inB k gb o i → i < w2.heap.size) := fun i hi => Nat.lt_of_lt_of_le (H0.out.2 i hi) (Nat.le_trans HBX.out.2 hK2.size)
  have HGD := Lib.hid H1.out.dl.good
  clear hL2 hK2 hx0 hx2 hx3 hx4 hxl hc H1 HBX
  have hc := H2.out.blk.c13
  have hx2 := HB2.out.cell 2
  have hx3 := HB2.out.cell 3
  have hx4 := HB2.out.cell 4
  have hxl := HB2.out.lt
  simp only [List.getElem?_cons_zero, List.getElem?_cons_succ] at hx2 hx3 hx4
  go_wp2_with fail
  repeat' (first | (refine hZ _ _ ?_; clear hZ) | (refine hZ _ ?_; clear hZ) | (refine hZ ?_; clear hZ) | rw [again_nil] | rw [walk_fin] | ((first | rw [walk_take] | rw [walk_run] | rw [again_cons]); intro Z hZ; simp only [sel, List.getElem?_toArray, List.getElem?_cons_zero, List.getElem?_cons_succ]; go_wp2_with (fail)))
  go_wp2_with fail
  refine H2.out.dl.up.mono ?_
  rintro e w3 ⟨rfl, hL3, hK3⟩
  have H3 := Lib.hid (H2.out.prog hL3 hK3 fun i hi => ⟨.inl hi, fun e => H2.out.own (e ▸ hi)⟩)
  have HB3 := Lib.hid (HB2.out.kept hK3 (fun hi => by have := H0.out.2 _ (.inl hi); omega))
  have HLT3 : Hid (∀ i, inB k gb o i → i < w3.heap.size) := fun i hi => Nat.lt_of_lt_of_le (HLT.out i hi) hK3.size
  clear hL3 hK3 hx2 hx3 hx4 hxl hc H2 HB2 HLT
  have hc := H3.out.blk.c13
  have hx2 := HB3.out.cell 2
  have hx3 := HB3.out.cell 3
  have hx4 := HB3.out.cell 4
  have hxl := HB3.out.lt
  simp only [List.getElem?_cons_zero, List.getElem?_cons_succ] at hx2 hx3 hx4
  go_wp2_with fail
  refine wp_region_plan (.take 0 (.take 1 (.take 2 (.take 3 (.take 4 (.take 5 (.take 6 (.take 7 (.run 8 [0] (.take 9 (.take 10 (.take 11 (.run 12 [] .fin))))))))))))) (by kernel_rfl) (by kernel_rfl) (by kernel_rfl) (by kernel_rfl) ?_
  repeat' (first | (refine hZ _ _ ?_; clear hZ) | (refine hZ _ ?_; clear hZ) | (refine hZ ?_; clear hZ) | rw [again_nil] | rw [walk_fin] | ((first | rw [walk_take] | rw [walk_run] | rw [again_cons]); intro Z hZ; simp only [sel, List.getElem?_toArray, List.getElem?_cons_zero, List.getElem?_cons_succ]; go_wp2_with (fail)))
  refine (refcrash_any (inB k gb o) w3.drew HLT3.out d _ (H3.out.below (below_drew w3)).rx HGD.out q.f HF.out.1).mono ?_
  rintro e w4 ⟨c4, rfl, hx, hb4⟩
  have H4 := Lib.hid (And.intro ((H3.out.below (below_drew w3)).below hb4) hx)
  obtain ⟨As4, cs4, Ap4, cp4, Af4, cf4, rfl⟩ := hx.open_
  clear hx hb4 hc hx2 hx3 hx4 hxl H3 HB3
  have hc := H4.out.1.blk.c13
  go_wp2_with fail
  repeat' (first | (refine hZ _ _ ?_; clear hZ) | (refine hZ _ ?_; clear hZ) | (refine hZ ?_; clear hZ) | rw [again_nil] | rw [walk_fin] | ((first | rw [walk_take] | rw [walk_run] | rw [again_cons]); intro Z hZ; simp only [sel, List.getElem?_toArray, List.getElem?_cons_zero, List.getElem?_cons_succ]; go_wp2_with (fail)))
  have H5 : Hid (BotAt w0 (w4.setCells gb 2 [.slice As4 (d.crash q.f).rx.sure.length cs4, .slice Ap4 (d.crash q.f).rx.pend.length cp4, .slice Af4 (d.crash q.f).rx.falls.length cf4, .int .i64 ((d.crash q.f).rx.ch : Nat), .bool (d.crash q.f).rx.down]) k gb o { d.crash q.f with down := false } lp [.slice As4 (d.crash q.f).rx.sure.length cs4, .slice Ap4 (d.crash q.f).rx.pend.length cp4, .slice Af4 (d.crash q.f).rx.falls.length cf4, .int .i64 ((d.crash q.f).rx.ch : Nat), .bool (d.crash q.f).rx.down] (d.crash q.f).rx l n) := H4.out.1.store 2 [.slice As4 (d.crash q.f).rx.sure.length cs4, .slice Ap4 (d.crash q.f).rx.pend.length cp4, .slice Af4 (d.crash q.f).rx.falls.length cf4, .int .i64 ((d.crash q.f).rx.ch : Nat), .bool (d.crash q.f).rx.down] rfl H4.out.2
  clear hc H4
  simp only [World.setCells, Nat.reduceAdd] at H5
  generalize (((((World.setCell w4 _ _).setCell _ _).setCell _ _).setCell _ _).setCell _ _) = W5 at H5 ⊢
  have hc := H5.out.blk.c13
  go_upto_region 17 with (fail)
  have H6 : Hid (BotAt w0 (W5.setCells gb 6 [.bool false]) k gb o { d.crash q.f with down := false } lp [.slice As4 (d.crash q.f).rx.sure.length cs4, .slice Ap4 (d.crash q.f).rx.pend.length cp4, .slice Af4 (d.crash q.f).rx.falls.length cf4, .int .i64 ((d.crash q.f).rx.ch : Nat), .bool false] ({ d.crash q.f with down := false } : DS).rx l n ∧ NowAt { d.crash q.f with down := false }) := ⟨H5.out.store 6 [.bool false] rfl H5.out.rx.setDown, (HN.out.crash q.f).up false⟩
  have HLN : Hid (({ d.crash q.f with down := false } : DS).blocks.length = d.blocks.length) := crash_length d q.f
  simp only [World.setCells] at H6
  clear H5
  generalize (World.setCell W5 _ _) = W6 at H6 ⊢
  generalize hd3 : ({ d.crash q.f with down := false } : DS) = d3 at H6 HLN
  have HO := Lib.hid (bopen_any w0 W6 k gb o d3 lp _ l n H6.out.1 H6.out.2 (by omega) blocks h3 h1000 (by rw [HLN.out]; exact HIN.out))
  clear hc
  go_wp2_with fail
  refine HO.out.mono ?_
  rintro e w8 ⟨rfl, l8, hb8, hat8, -⟩
  go_wp2_with fail
  go_ret
  refine ⟨rfl, ((d3).openW l.at_ ((blocks - 2) * 512)).d, l8, ?_, hat8, by rw [openW_length, HLN.out]⟩
  obtain ⟨q1, lp8, c8, o8, q2, q3⟩ := hb8
  exact ⟨q1, lp8, c8, o8, q2.more (by omega), q3⟩
set_option maxRecDepth 20000 in
set_option maxHeartbeats 2000000 in
theorem bstep3 (w0 w : World) (k : KB) (gb : Nat) (d : DS) (l : LS) (n : Nat) (H : BotOk w0 w k gb d l n) (hn : n + 1010 < 80000) (q : OpW) (hf : q.f.Fine) (blocks : Nat) (hk : (IntKind.u64.wrap q.k).tmod 5 = 3) :
    Calls Try.prog 46 #[.pointer (some ⟨gb, 0, none⟩), .agg #[.int .i64 q.k, .slice q.A q.ps.length q.cap, .int .i64 q.f.at_, .int .u64 (q.f.keep : Nat), .int .i64 q.f.torn], .int .i64 (blocks : Nat)] w (Stepped w0 k gb d l n) := by
  obtain ⟨hN, lp, c, o, hB, hcase⟩ := H
  obtain ⟨As, cs, Ap, cp, Af, cf, rfl⟩ := hB.rx.open_
  have hw0 : 0 ≤ IntKind.u64.wrap q.k := by simp [IntKind.wrap, IntKind.signed, IntKind.bits]; omega
  have hk5 : IntKind.u64.wrap q.k % 5 = 3 := by rw [← Int.tmod_eq_emod_of_nonneg hw0]; exact hk
  have hw9 : 0 ≤ IntKind.u64.wrap q.f.at_ := by simp [IntKind.wrap, IntKind.signed, IntKind.bits]; omega
  have h9 : (IntKind.u64.wrap q.f.at_).tmod 9 = IntKind.u64.wrap q.f.at_ % 9 := Int.tmod_eq_emod_of_nonneg hw9
  have hm0 : 0 ≤ IntKind.u64.wrap q.f.at_ % 9 ∧ IntKind.u64.wrap q.f.at_ % 9 < 9 := by omega
  have hch : d.changes ≤ 80000 := by have := hB.dl.ch; omega
  have HN := Lib.hid hN
  have HF := Lib.hid hf
  have H0 : Hid (BotAt w0 w k gb o d lp [.slice As d.rx.sure.length cs, .slice Ap d.rx.pend.length cp, .slice Af d.rx.falls.length cf, .int .i64 (d.rx.ch : Nat), .bool d.rx.down] d.rx l n ∧ JCase w0 w k gb o l lp) := ⟨hB, hcase⟩
  clear hB hcase hN hf
  go_enter Try.func46, Try.ntmps46
  go_upto_region 1 with (fail)
  generalize hW1 : World.alloc w (.cells _ _) = W1
  obtain ⟨ba1, hz1, hB1⟩ := fresh1 hW1
  clear hW1
  have H1 : Hid (BotAt w0 W1 k gb o d lp [.slice As d.rx.sure.length cs, .slice Ap d.rx.pend.length cp, .slice Af d.rx.falls.length cf, .int .i64 (d.rx.ch : Nat), .bool d.rx.down] d.rx l n ∧ JCase w0 W1 k gb o l lp) := ⟨H0.out.1.below hB1, H0.out.2.below hB1⟩
  have hx0 := ba1.cell 0
  have hx2 := ba1.cell 2
  have hx3 := ba1.cell 3
  have hx4 := ba1.cell 4
  have hxl := ba1.lt
  simp only [List.getElem?_cons_zero, List.getElem?_cons_succ] at hx0 hx2 hx3 hx4
  clear ba1 hB1 hz1 H0
  go_upto_region 20 with (fail)
  generalize hW2 : World.alloc W1 (.cells _ _) = W2
  obtain ⟨ba2, hz2, hB2⟩ := fresh1 hW2
  clear hW2
  have H2 : Hid (Blk W2 W1.heap.size 25 [.int .i64 q.f.at_, .int .u64 (q.f.keep : Nat), .int .i64 q.f.torn] ∧ Below W1.heap.size W1 W2) := ⟨ba2, hB2⟩
  have hf0 := ba2.cell 0
  have hf1 := ba2.cell 1
  have hf2 := ba2.cell 2
  have hf3 := ba2.free 0
  have hfl := ba2.lt
  simp only [List.getElem?_cons_zero, List.getElem?_cons_succ] at hf0 hf1 hf2
  have hc := (H1.out.1.below hB2).blk.c13
  have HCH := Lib.hid (changes_any W2.drew _ k d ((H1.out.1.below hB2).dl.at_.below (below_drew W2)))
  clear ba2 hB2 hz2 hx0 hx2 hx3 hx4 hxl
  go_wp2_with fail
  refine wp_region_plan (.take 0 (.take 1 (.take 2 (.take 3 (.take 5 (.take 6 (.take 7 (.take 8 (.take 9 (.run 4 [5, 6, 7, 8, 9] (.take 10 (.take 11 (.run 12 [] .fin))))))))))))) (by kernel_rfl) (by kernel_rfl) (by kernel_rfl) (by kernel_rfl) ?_
  repeat' (first | (refine hZ _ _ ?_; clear hZ) | (refine hZ _ ?_; clear hZ) | (refine hZ ?_; clear hZ) | rw [again_nil] | rw [walk_fin] | ((first | rw [walk_take] | rw [walk_run] | rw [again_cons]); intro Z hZ; simp only [sel, List.getElem?_toArray, List.getElem?_cons_zero, List.getElem?_cons_succ]; go_wp2_with (fail)))
  refine HCH.out.mono ?_
  rintro e w3 ⟨rfl, rfl⟩
  go_wp2_with fail
  repeat' (first | (refine hZ _ _ ?_; clear hZ) | (refine hZ _ ?_; clear hZ) | (refine hZ ?_; clear hZ) | rw [again_nil] | rw [walk_fin] | ((first | rw [walk_take] | rw [walk_run] | rw [again_cons]); intro Z hZ; simp only [sel, List.getElem?_toArray, List.getElem?_cons_zero, List.getElem?_cons_succ]; go_wp2_with (fail)))
  have hf' : q.f.keep < 18446744073709551616 ∧ (-9223372036854775808 ≤ q.f.torn ∧ q.f.torn ≤ 9223372036854775807) := ⟨HF.out.1, HF.out.2⟩
  obtain ⟨at', hat'⟩ : ∃ a : Int, a = (d.changes : Int) + IntKind.u64.wrap q.f.at_ % 9 := ⟨_, rfl⟩
  have H3 : Hid (BotAt w0 (W2.setCell ⟨W1.heap.size, 0, none⟩ (.int .i64 at')).drew k gb o d lp [.slice As d.rx.sure.length cs, .slice Ap d.rx.pend.length cp, .slice Af d.rx.falls.length cf, .int .i64 (d.rx.ch : Nat), .bool d.rx.down] d.rx l n ∧ JCase w0 (W2.setCell ⟨W1.heap.size, 0, none⟩ (.int .i64 at')).drew k gb o l lp ∧
      Blk (W2.setCell ⟨W1.heap.size, 0, none⟩ (.int .i64 at')).drew W1.heap.size 25 [.int .i64 at', .int .u64 (q.f.keep : Nat), .int .i64 q.f.torn]) := by
    have hb3 : Below W1.heap.size W1 (W2.setCell ⟨W1.heap.size, 0, none⟩ (.int .i64 at')).drew := (H2.out.2.setCell (p := ⟨W1.heap.size, 0, none⟩) (Nat.le_refl _) _).drewR
    exact ⟨H1.out.1.below hb3, H1.out.2.below hb3, (H2.out.1.set 0 _).below (Below.refl _ _).drewR⟩
  have HN1 : Hid (∀ i, inB k gb o i → i ≠ W1.heap.size) := fun i hi e => by have := H1.out.1.lt H1.out.2.lt i hi; omega
  rw [← hat']
  generalize hgf : W1.heap.size = gf at H3 HN1 ⊢
  clear hc hf0 hf1 hf2 hf3 hfl hat' HCH H1 H2 hw0 hk5 hw9 h9 hm0
  generalize (World.setCell _ _ _).drew = W3 at H3 ⊢
  have hc := H3.out.1.blk.c13
  have hf0 := H3.out.2.2.cell 0
  have hf1 := H3.out.2.2.cell 1
  have hf2 := H3.out.2.2.cell 2
  have hfl := H3.out.2.2.lt
  simp only [List.getElem?_cons_zero, List.getElem?_cons_succ] at hf0 hf1 hf2
  go_wp2_with fail
  refine wp_region_plan (.take 0 (.take 1 (.take 2 (.take 3 (.take 4 (.run 5 [0, 1, 2, 3] (.run 6 [] .fin))))))) (by kernel_rfl) (by kernel_rfl) (by kernel_rfl) (by kernel_rfl) ?_
  repeat' (first | (refine hZ _ _ ?_; clear hZ) | (refine hZ _ ?_; clear hZ) | (refine hZ ?_; clear hZ) | rw [again_nil] | rw [walk_fin] | ((first | rw [walk_take] | rw [walk_run] | rw [again_cons]); intro Z hZ; simp only [sel, List.getElem?_toArray, List.getElem?_cons_zero, List.getElem?_cons_succ]; go_wp2_with (fail)))
  have hbp : Below W3.heap.size W3 (W3.alloc (.cells #[.int .i64 at', .int .u64 (q.f.keep : Nat), .int .i64 q.f.torn] 25)).drew := (Below.alloc1 W3 _).drewR
  have hrow : ERow eDF (W3.alloc (.cells #[.int .i64 at', .int .u64 (q.f.keep : Nat), .int .i64 q.f.torn] 25)).drew (some ⟨W3.heap.size, 0, none⟩) [⟨at', q.f.keep, q.f.torn⟩] := (ERow.lit eDF _ ⟨at', q.f.keep, q.f.torn⟩ #[.int .i64 at', .int .u64 (q.f.keep : Nat), .int .i64 q.f.torn] rfl _ rfl).below (Below.refl _ _).drewR
  have H4 : Hid (BotAt w0 (W3.alloc (.cells #[.int .i64 at', .int .u64 (q.f.keep : Nat), .int .i64 q.f.torn] 25)).drew k gb o d lp [.slice As d.rx.sure.length cs, .slice Ap d.rx.pend.length cp, .slice Af d.rx.falls.length cf, .int .i64 (d.rx.ch : Nat), .bool d.rx.down] d.rx l n ∧ JCase w0 (W3.alloc (.cells #[.int .i64 at', .int .u64 (q.f.keep : Nat), .int .i64 q.f.torn] 25)).drew k gb o l lp ∧
      Blk (W3.alloc (.cells #[.int .i64 at', .int .u64 (q.f.keep : Nat), .int .i64 q.f.torn] 25)).drew gf 25 [.int .i64 at', .int .u64 (q.f.keep : Nat), .int .i64 q.f.torn]) := ⟨H3.out.1.below hbp, H3.out.2.1.below hbp, H3.out.2.2.below hbp⟩
  clear hbp hc hf0 hf1 hf2 hfl H3
  generalize hss : W3.heap.size = ss at hrow H4 ⊢
  generalize (World.alloc _ _).drew = W4 at hrow H4 ⊢
  refine (H4.out.1.dl.plan (some ⟨ss, 0, none⟩) 1 [⟨at', q.f.keep, q.f.torn⟩] hrow (by simp) (by intro x hx; simp at hx; subst hx; exact hf')).mono ?_
  rintro e w5 ⟨rfl, hL5, hK5⟩
  have H5 : Hid (BotAt w0 w5 k gb o { d with falls := [⟨at', q.f.keep, q.f.torn⟩] } lp [.slice As d.rx.sure.length cs, .slice Ap d.rx.pend.length cp, .slice Af d.rx.falls.length cf, .int .i64 (d.rx.ch : Nat), .bool d.rx.down] d.rx l n ∧ JCase w0 w5 k gb o l lp ∧
      Blk w5 gf 25 [.int .i64 at', .int .u64 (q.f.keep : Nat), .int .i64 q.f.torn]) := ⟨H4.out.1.prog hL5 hK5 fun i hi => ⟨.inl hi, fun e => H4.out.1.own (e ▸ hi)⟩, H4.out.2.1.disk hK5, H4.out.2.2.kept hK5 (fun h => HN1.out gf (.inl h) rfl)⟩
  clear hrow hL5 hK5 H4
  have hc := H5.out.1.blk.c13
  have hf0 := H5.out.2.2.cell 0
  have hf1 := H5.out.2.2.cell 1
  have hf2 := H5.out.2.2.cell 2
  have hfl := H5.out.2.2.lt
  simp only [List.getElem?_cons_zero, List.getElem?_cons_succ] at hf0 hf1 hf2
  go_wp2_with fail
  repeat' (first | (refine hZ _ _ ?_; clear hZ) | (refine hZ _ ?_; clear hZ) | (refine hZ ?_; clear hZ) | rw [again_nil] | rw [walk_fin] | ((first | rw [walk_take] | rw [walk_run] | rw [again_cons]); intro Z hZ; simp only [sel, List.getElem?_toArray, List.getElem?_cons_zero, List.getElem?_cons_succ]; go_wp2_with (fail)))
  go_upto_region 23 with (fail)
  have hbq : Below w5.heap.size w5 (w5.alloc (.cells #[.int .i64 at', .int .u64 (q.f.keep : Nat), .int .i64 q.f.torn] 25)) := Below.alloc1 w5 _
  have hrow : ERow eDF (w5.alloc (.cells #[.int .i64 at', .int .u64 (q.f.keep : Nat), .int .i64 q.f.torn] 25)) (some ⟨w5.heap.size, 0, none⟩) [⟨at', q.f.keep, q.f.torn⟩] := ERow.lit eDF _ ⟨at', q.f.keep, q.f.torn⟩ #[.int .i64 at', .int .u64 (q.f.keep : Nat), .int .i64 q.f.torn] rfl _ rfl
  rw [← World.setCell_alloc_past _ _ _ _ H5.out.1.blk.lt]
  have H6 : Hid (BotAt w0 (w5.alloc (.cells #[.int .i64 at', .int .u64 (q.f.keep : Nat), .int .i64 q.f.torn] 25)) k gb o { d with falls := [⟨at', q.f.keep, q.f.torn⟩] } lp [.slice As d.rx.sure.length cs, .slice Ap d.rx.pend.length cp, .slice Af d.rx.falls.length cf, .int .i64 (d.rx.ch : Nat), .bool d.rx.down] d.rx l n ∧ JCase w0 (w5.alloc (.cells #[.int .i64 at', .int .u64 (q.f.keep : Nat), .int .i64 q.f.torn] 25)) k gb o l lp ∧ (∀ i, inB k gb o i → i ≠ w5.heap.size)) :=
    ⟨H5.out.1.below hbq, H5.out.2.1.below hbq, fun i hi e => by have := H5.out.1.lt H5.out.2.1.lt i hi; omega⟩
  clear hbq hc hf0 hf1 hf2 hfl H5 HN1
  generalize w5.heap.size = ss5 at hrow H6 ⊢
  generalize (World.alloc w5 _) = W6 at hrow H6 ⊢
  have H7 : Hid (BotOk w0 (W6.setCells gb 4 [.slice (some ⟨ss5, 0, none⟩) 1 1]) k gb { d with falls := [⟨at', q.f.keep, q.f.torn⟩] } l n) := by
    have g6 := grown_setCells W6 gb 4 [.slice (some ⟨ss5, 0, none⟩) 1 1]
    refine ⟨HN.out.plan _, lp, _, o, H6.out.1.store 4 [.slice (some ⟨ss5, 0, none⟩) 1 1] rfl (H6.out.1.rx.setFalls (L := [⟨at', q.f.keep, q.f.torn⟩]) (cf' := 1) (m := 1) rfl ⟨hrow, fun _ a ha hs => ?_⟩), H6.out.2.1.store H6.out.1.blk g6⟩
    obtain rfl := Option.some.inj ha
    exact H6.out.2.2 _ hs rfl
  simp only [World.setCells] at H7
  clear hrow H6
  generalize hdd : ({ d with falls := [⟨at', q.f.keep, q.f.torn⟩] } : DS) = dd at H7
  have HDL : Hid (dd.blocks.length = d.blocks.length) := by rw [← hdd]; exact Lib.hid rfl
  clear hdd
  generalize (World.setCell W6 _ _) = W7 at H7 ⊢
  have HLK := Lib.hid (blike_any w0 W7 k gb dd l _ H7.out)
  go_wp2_with fail
  refine HLK.out.mono ?_
  rintro e w7 ⟨rfl, hb7⟩
  have H8 : Hid (BotOk w0 w7 k gb dd l (n + 1010)) := by
    obtain ⟨h1, lp', c', o', h2, h3⟩ := H7.out
    exact ⟨h1, lp', c', o', (h2.below hb7).more (by omega), JCase.below h3 hb7⟩
  clear hb7 HLK H7
  go_wp2_with fail
  go_ret
  exact ⟨rfl, _, _, H8.out, rfl, HDL.out⟩
end Go.Proofs.Ythbanhedjfpmaaa
end

section
/-
  The walk of WalPlays.
-/
namespace Go.Proofs.Ythbanhedjfpmaaa
set_option linter.unusedSimpArgs false
set_option linter.unusedVariables false
open Go.RowKit

theorem bstep_any (w0 w : World) (k : KB) (gb : Nat) (d : DS) (l : LS) (n : Nat) (H : BotOk w0 w k gb d l n) (hn : n + 1010 < 80000) (q : OpW) (hq : q.Fine w0) (h6 : q.ps.length ≤ 6) (hp3 : ∀ p ∈ q.ps, p.l.length ≤ 3000) (blocks : Nat) (h3 : 3 ≤ blocks) (h1000 : blocks ≤ 1000) (hin : l.at_ + blocks ≤ d.blocks.length) :
    Calls Try.prog 46 #[.pointer (some ⟨gb, 0, none⟩), .agg #[.int .i64 q.k, .slice q.A q.ps.length q.cap, .int .i64 q.f.at_, .int .u64 (q.f.keep : Nat), .int .i64 q.f.torn], .int .i64 (blocks : Nat)] w (Stepped w0 k gb d l n) := by
  have h0 : 0 ≤ IntKind.u64.wrap q.k := by simp [IntKind.wrap, IntKind.signed, IntKind.bits]; omega
  have h5 : (IntKind.u64.wrap q.k).tmod 5 = IntKind.u64.wrap q.k % 5 := Int.tmod_eq_emod_of_nonneg h0
  have hc : (IntKind.u64.wrap q.k).tmod 5 = 0 ∨ (IntKind.u64.wrap q.k).tmod 5 = 1 ∨ (IntKind.u64.wrap q.k).tmod 5 = 2 ∨ (IntKind.u64.wrap q.k).tmod 5 = 3 ∨ (IntKind.u64.wrap q.k).tmod 5 = 4 := by
    rw [h5]
    generalize IntKind.u64.wrap q.k = y at h0
    omega
  rcases hc with h | h | h | h | h
  · exact bstep0 w0 w k gb d l n H hn q hq h6 hp3 blocks h
  · exact bstep1 w0 w k gb d l n H hn q blocks h
  · exact bstep2 w0 w k gb d l n H hn q hq.f blocks h3 h1000 hin h
  · exact bstep3 w0 w k gb d l n H hn q hq.f blocks h
  · exact bstep4 w0 w k gb d l n H hn q blocks h3 h1000 hin h
theorem fitsW_all {n : Int} {L : List OpW} (h : fitsW n L = true) : (3 ≤ n ∧ n ≤ 7 ∧ L.length ≤ 30) ∧ ∀ o ∈ L, o.ps.length ≤ 6 ∧ ∀ p ∈ o.ps, p.l.length ≤ 3000 := by
  unfold fitsW at h
  simp only [Bool.and_eq_true, decide_eq_true_eq, List.all_eq_true] at h
  refine ⟨⟨h.1.1.1, h.1.1.2, h.1.2⟩, fun o ho => ?_⟩
  have h2 := h.2 o ho
  unfold OpW.fit short3 at h2
  simpa only [Bool.and_eq_true, decide_eq_true_eq, List.all_eq_true] using h2
theorem rx_fresh (n : Nat) : (DS.new n).rx = RX.fresh n := by
  unfold DS.new DS.rx RX.fresh
  simp only [List.map_replicate, List.map_nil]
  rfl
theorem BotOk.below {w0 w w' : World} {k : KB} {gb : Nat} {d : DS} {l : LS} {n : Nat} (h : BotOk w0 w k gb d l n) (hb : Below w.heap.size w w') : BotOk w0 w' k gb d l n := by
  obtain ⟨h1, lp, c, o, h2, h3⟩ := h
  exact ⟨h1, lp, c, o, h2.below hb, JCase.below h3 hb⟩
theorem BotOk.bel {w0 w : World} {k : KB} {gb : Nat} {d : DS} {l : LS} {n : Nat} (h : BotOk w0 w k gb d l n) : Below w0.heap.size w0 w := by
  obtain ⟨h1, lp, c, o, h2, h3⟩ := h
  exact h2.dl.bel
set_option maxRecDepth 20000 in
set_option maxHeartbeats 4000000 in
theorem walPlays_fit (w : World) (n : Nat) (fr : Bool) (A1 : Option Addr) (c1 : Nat) (L1 : List OpW) (hr1 : ERow eOpW w A1 L1) (hf1 : ∀ o ∈ L1, o.Fine w) (h1 : fitsW n L1 = true) :
    Calls Try.prog 12 #[.int .i64 n, .bool fr, .slice A1 L1.length c1] w fun e w' => e = .returned (.bool true) ∧ Below w.heap.size w w' := by
  have HF1 := Lib.hid (fun w' (hb : Below w.heap.size w w') => wfits_any w' n A1 c1 L1 (hr1.below hb) (fun o ho => (hf1 o ho).ps.below hb))
  obtain ⟨⟨hn1, hn2, hl1⟩, hall⟩ := fitsW_all h1
  rw [h1] at HF1
  have HR := Lib.hid (And.intro hr1 (And.intro hf1 hall))
  clear hr1 hf1 h1 hall
  go_enter Try.func12, Try.ntmps12
  go_wp2_with fail
  refine (wlives_any w).mono ?_
  rintro e w1 ⟨rfl, hB⟩
  have HB1 := Lib.hid hB
  clear hB
  go_wp2_with fail
  refine (HF1.out w1 HB1.out).mono ?_
  rintro e w3 ⟨rfl, hB⟩
  have HB3 := Lib.hid (HB1.out.trans (hB.mono HB1.out.size))
  clear hB HB1
  cases fr with
  | false =>
    go_wp2_with fail
    have hD := DL.new (w0 := w) (n) (by omega) (by omega) HB3.out
    try rw [show ((n + 2 : Nat) : Int) = (n : Int) + 2 from rfl] at hD
    refine hD.mono ?_
    rintro e w4 ⟨k, rfl, hL, -⟩
    have HL := Lib.hid hL
    clear hL HB3 HF1 hD
    have hX := refnew_any k.own w4 HL.out.own_lt (n) (by omega)
    try rw [show ((n + 2 : Nat) : Int) = (n : Int) + 2 from rfl] at hX
    have HX := Lib.hid hX
    clear hX
    go_wp2_with fail
    refine HX.out.mono ?_
    rintro e w5 ⟨c5, rfl, hx5, hb5⟩
    have H5 : Hid (DL w w5 k (DS.new (n)) 0 ∧ RefX k.own w5 c5 (DS.new (n)).rx) := ⟨HL.out.below hb5, by rw [rx_fresh]; exact hx5⟩
    obtain ⟨As, cs, Ap, cp, Af, cf, rfl⟩ := hx5.open_
    clear hx5 hb5 HL HX
    go_upto_region 8 with (fail)
    generalize hW6 : World.alloc w5 (.cells _ _) = W6
    obtain ⟨ba6, hz6, hB6⟩ := fresh1 hW6
    clear hW6
    have H6 : Hid (BotAt w W6 k w5.heap.size none (DS.new (n)) none _ (DS.new (n)).rx ⟨0, 0, 0, [], 0, false⟩ 0) := ⟨H5.out.1.below hB6, ba6, (H5.out.2.extend (fun i hi => by
      rcases hi with hi | hi | hi
      · exact .inl hi
      · exact .inr (Nat.le_of_eq hi.symm)
      · cases hi)).below hB6, H5.out.1.bel.size, fun h => Nat.lt_irrefl _ (H5.out.1.own_lt _ h)⟩
    obtain ⟨gx, hgx⟩ : ∃ gx, gx = w5.heap.size := ⟨_, rfl⟩
    rw [← hgx] at H6 ⊢
    clear ba6 hB6 H5 hz6 hgx
    have HOP := Lib.hid (bopen_any w W6 k gx none (DS.new (n)) none _ ⟨0, 0, 0, [], 0, false⟩ 0 H6.out (NowAt.fresh _) (by decide) n (by omega) (by omega) (by simp [DS.new] <;> omega))
    have hln : (DS.new (n)).blocks.length = n := by simp [DS.new]
    have HLN := Lib.hid hln
    clear hln
    go_wp2_with fail
    refine HOP.out.mono ?_
    rintro e w7 ⟨rfl, l7, hb7, hat7, -⟩
    have H7 : ∃ d l, Hid (BotOk w w7 k gx d l 2 ∧ l.at_ = 0 ∧ d.blocks.length = n) := ⟨_, l7, hb7, hat7, by rw [openW_length]; exact HLN.out⟩
    clear hb7 hat7 HOP H6
    go_wp2_with fail
    go_loopw [48] (fun iv wr => ∃ i : Nat, i ≤ L1.length ∧ iv = .int .i64 i ∧ ∃ d l, Hid (BotOk w wr k gx d l (2 + i * 1010) ∧ l.at_ = 0 ∧ d.blocks.length = n)) (fun iv _ => L1.length - (intOf iv).toNat)
    case atStart => exact ⟨0, by omega, rfl, H7⟩
    case round =>
      obtain ⟨i, hi, rfl, d, l, HJ⟩ := hrel
      clear H7
      by_cases hlt : i < L1.length
      · have hii : (i : Int) < (L1.length : Int) := by omega
        obtain ⟨b, o, rfl, hb, hcc⟩ := opw_at (HR.out.1.below HJ.out.1.bel) hlt
        have HQ := Lib.hid (And.intro (HR.out.2.1 L1[i] (List.getElem_mem hlt)) (HR.out.2.2 L1[i] (List.getElem_mem hlt)))
        generalize L1[i] = q at hcc HQ
        go_upto_region 13 with (fail)
        generalize hW7 : World.alloc wr (.cells _ _) = W7
        obtain ⟨ba7, hz7, hB7⟩ := fresh1 hW7
        clear hW7
        have HP := Lib.hid (bstep_any w W7 k gx d l _ (HJ.out.1.below hB7) (by omega) q HQ.out.1 HQ.out.2.1 HQ.out.2.2 n (by omega) (by omega) (by have h1 := HJ.out.2.1; have h2 := HJ.out.2.2; omega))
        have hcq := And.intro (ba7.cell 0) (And.intro (ba7.cell 1) (And.intro (ba7.cell 2) (And.intro (ba7.cell 3) (ba7.cell 4))))
        simp only [List.getElem?_cons_zero, List.getElem?_cons_succ] at hcq
        clear ba7 hB7 hcc hz7
        go_wp2_with fail
        refine HP.out.mono ?_
        rintro e w8 ⟨rfl, d8, l8, hb8, ha8, hl8⟩
        have H8 : Hid (BotOk w w8 k gx d8 l8 (2 + (i + 1) * 1010) ∧ l8.at_ = 0 ∧ d8.blocks.length = n) := ⟨by rw [show 2 + (i + 1) * 1010 = 2 + i * 1010 + 1010 by omega]; exact hb8, by rw [ha8]; exact HJ.out.2.1, by rw [hl8]; exact HJ.out.2.2⟩
        clear hb8 ha8 hl8 HP hcq HJ
        go_wp2_with fail
        go_roundw
        case rel => exact ⟨i + 1, by omega, by go_num, d8, l8, H8⟩
        case measure => simp [intOf]; omega
      · obtain rfl : i = L1.length := by omega
        have hii : ¬ (L1.length : Int) < (L1.length : Int) := by omega
        obtain ⟨nn, hnn⟩ : ∃ nn, nn = 2 + L1.length * 1010 := ⟨_, rfl⟩
        rw [← hnn] at HJ
        obtain ⟨⟨hN, lp, c, o, hB, hcase⟩, -, hlen⟩ := HJ.out
        obtain ⟨As, cs, Ap, cp, Af, cf, rfl⟩ := hB.rx.open_
        have HB := Lib.hid hB
        have HN := Lib.hid (And.intro hN hlen)
        clear hlt hB hcase hN hlen HJ hnn
        have hc := HB.out.blk.c13
        go_wp2_with fail
        refine HB.out.dl.up.mono ?_
        rintro e w8 ⟨rfl, hL8, hK8⟩
        have H8 := Lib.hid (HB.out.prog hL8 hK8 fun i hi => ⟨.inl hi, fun e => HB.out.own (e ▸ hi)⟩)
        clear hL8 hK8 hc HB
        have hc := H8.out.blk.c13
        go_upto_region 18 with (fail)
        have H9 : Hid (BotAt w (w8.setCells gx 6 [.bool false]) k gx o { d with down := false } lp [.slice As d.rx.sure.length cs, .slice Ap d.rx.pend.length cp, .slice Af d.rx.falls.length cf, .int .i64 (d.rx.ch : Nat), .bool false] ({ d with down := false } : DS).rx l nn) := H8.out.store 6 [.bool false] rfl H8.out.rx.setDown
        have HND : Hid (NowAt ({ d with down := false } : DS) ∧ ({ d with down := false } : DS).down = false ∧ ({ d with down := false } : DS).blocks.length = n) := ⟨HN.out.1.up false, rfl, HN.out.2⟩
        simp only [World.setCells] at H9
        clear hc H8 HN
        generalize (World.setCell w8 _ _) = W9 at H9 ⊢
        generalize d.rx = x at H9
        generalize ({ d with down := false } : DS) = d3 at H9 HND
        go_wp2_with fail
        go_loopw [71] (fun iv wr => ∃ i : Nat, i ≤ n ∧ iv = .int .i64 i ∧ Hid (BotAt w wr k gx o d3 lp [.slice As x.sure.length cs, .slice Ap x.pend.length cp, .slice Af x.falls.length cf, .int .i64 (x.ch : Nat), .bool false] d3.rx l nn)) (fun iv _ => n - (intOf iv).toNat)
        case atStart => exact ⟨0, by omega, rfl, H9⟩
        case round =>
          obtain ⟨i, hi, rfl, HK⟩ := hrel
          clear H9
          by_cases hlt : i < n
          · have hii : (i : Int) < (n : Int) + 0 := by omega
            try rw [Int.add_zero] at hii
            have hil : i < d3.blocks.length := by rw [HND.out.2.2]; exact hlt
            have HRD := Lib.hid (read_ok wr _ k d3 HK.out.dl.at_ i hil HND.out.2.1)
            have HNW := Lib.hid (HND.out.1.now i hil)
            have HP := Lib.hid HK.out.dl.good.p1
            have HH5 := Lib.hid d3.blocks[i].now.h
            have HRN : Hid (∀ w', RefX (inB k gx o) w' [.slice As x.sure.length cs, .slice Ap x.pend.length cp, .slice Af x.falls.length cf, .int .i64 (x.ch : Nat), .bool false] d3.rx → Calls Try.prog 30 #[.agg #[.slice As x.sure.length cs, .slice Ap x.pend.length cp, .slice Af x.falls.length cf, .int .i64 (x.ch : Nat), .bool false], .int .i64 i] w' fun e w'' => e = .returned (.string ⟨d3.blocks[i].now.l.toArray⟩) ∧ Below w'.heap.size w' w'') := fun w' h => by
              have := refnow_any (inB k gx o) w' d3 _ h i hil HP.out
              rw [← HNW.out] at this
              exact this
            generalize d3.blocks[i].now.l = nl at HRD HRN HH5
            have hc := HK.out.blk.c13
            go_wp2_with fail
            refine HRD.out.mono ?_
            rintro e w9 ⟨A9, c9, rfl, ho9, hb9⟩
            have H10 := Lib.hid (And.intro (HK.out.below hb9.drewR) ho9.drew)
            clear hc ho9 hb9 HRD HK
            have hc := H10.out.1.blk.c13
            have hcv := run_string_bytes w9.drew c9 H10.out.2.row
            rw [HH5.out] at hcv
            unfold txt at hcv
            have HCN := Lib.hid (HRN.out w9.drew H10.out.1.rx)
            go_wp2_with fail
            refine wp_region_plan (.take 0 (.take 1 (.take 2 (.take 3 (.take 4 (.take 5 (.take 6 (.take 7 (.take 8 (.take 9 (.take 10 (.run 11 [3, 4] (.take 12 (.take 13 .fin)))))))))))))) (by kernel_rfl) (by kernel_rfl) (by kernel_rfl) (by kernel_rfl) ?_
            repeat' (first | (refine hZ _ _ ?_; clear hZ) | (refine hZ _ ?_; clear hZ) | (refine hZ ?_; clear hZ) | rw [again_nil] | rw [walk_fin] | ((first | rw [walk_take] | rw [walk_run] | rw [again_cons]); intro Z hZ; simp only [sel, List.getElem?_toArray, List.getElem?_cons_zero, List.getElem?_cons_succ]; go_wp2_with (fail)))
            refine HCN.out.mono ?_
            rintro e w10 ⟨rfl, hb10⟩
            have H11 := Lib.hid (H10.out.1.below hb10)
            clear hcv hc
            have hcv := run_string_bytes w10 c9 (H10.out.2.row.below hb10)
            rw [HH5.out] at hcv
            unfold txt at hcv
            clear hb10 HCN HRN
            go_wp2_with fail
            repeat' (first | (refine hZ _ _ ?_; clear hZ) | (refine hZ _ ?_; clear hZ) | (refine hZ ?_; clear hZ) | rw [again_nil] | rw [walk_fin] | ((first | rw [walk_take] | rw [walk_run] | rw [again_cons]); intro Z hZ; simp only [sel, List.getElem?_toArray, List.getElem?_cons_zero, List.getElem?_cons_succ]; go_wp2_with (fail)))
            go_wp2_with fail
            go_roundw
            case rel => exact ⟨i + 1, by omega, by go_num, H11⟩
            case measure => simp [intOf]; omega
          · have hii : ¬ (i : Int) < (n : Int) + 0 := by omega
            try rw [Int.add_zero] at hii
            go_wp2_with fail
            go_ret
            exact ⟨rfl, HK.out.dl.bel⟩
  | true =>
    go_wp2_with fail
    have hD := DL.new (w0 := w) (n + 2) (by omega) (by omega) HB3.out
    try rw [show ((n + 2 : Nat) : Int) = (n : Int) + 2 from rfl] at hD
    refine hD.mono ?_
    rintro e w4 ⟨k, rfl, hL, -⟩
    have HL := Lib.hid hL
    clear hL HB3 HF1 hD
    have hX := refnew_any k.own w4 HL.out.own_lt (n + 2) (by omega)
    try rw [show ((n + 2 : Nat) : Int) = (n : Int) + 2 from rfl] at hX
    have HX := Lib.hid hX
    clear hX
    go_wp2_with fail
    refine HX.out.mono ?_
    rintro e w5 ⟨c5, rfl, hx5, hb5⟩
    have H5 : Hid (DL w w5 k (DS.new (n + 2)) 0 ∧ RefX k.own w5 c5 (DS.new (n + 2)).rx) := ⟨HL.out.below hb5, by rw [rx_fresh]; exact hx5⟩
    obtain ⟨As, cs, Ap, cp, Af, cf, rfl⟩ := hx5.open_
    clear hx5 hb5 HL HX
    go_upto_region 8 with (fail)
    generalize hW6 : World.alloc w5 (.cells _ _) = W6
    obtain ⟨ba6, hz6, hB6⟩ := fresh1 hW6
    clear hW6
    have H6 : Hid (BotAt w W6 k w5.heap.size none (DS.new (n + 2)) none _ (DS.new (n + 2)).rx ⟨2, 0, 0, [], 0, false⟩ 0) := ⟨H5.out.1.below hB6, ba6, (H5.out.2.extend (fun i hi => by
      rcases hi with hi | hi | hi
      · exact .inl hi
      · exact .inr (Nat.le_of_eq hi.symm)
      · cases hi)).below hB6, H5.out.1.bel.size, fun h => Nat.lt_irrefl _ (H5.out.1.own_lt _ h)⟩
    obtain ⟨gx, hgx⟩ : ∃ gx, gx = w5.heap.size := ⟨_, rfl⟩
    rw [← hgx] at H6 ⊢
    clear ba6 hB6 H5 hz6 hgx
    have HOP := Lib.hid (bopen_any w W6 k gx none (DS.new (n + 2)) none _ ⟨2, 0, 0, [], 0, false⟩ 0 H6.out (NowAt.fresh _) (by decide) n (by omega) (by omega) (by simp [DS.new] <;> omega))
    have hln : (DS.new (n + 2)).blocks.length = n + 2 := by simp [DS.new]
    have HLN := Lib.hid hln
    clear hln
    go_wp2_with fail
    refine HOP.out.mono ?_
    rintro e w7 ⟨rfl, l7, hb7, hat7, -⟩
    have H7 : ∃ d l, Hid (BotOk w w7 k gx d l 2 ∧ l.at_ = 2 ∧ d.blocks.length = n + 2) := ⟨_, l7, hb7, hat7, by rw [openW_length]; exact HLN.out⟩
    clear hb7 hat7 HOP H6
    go_wp2_with fail
    go_loopw [48] (fun iv wr => ∃ i : Nat, i ≤ L1.length ∧ iv = .int .i64 i ∧ ∃ d l, Hid (BotOk w wr k gx d l (2 + i * 1010) ∧ l.at_ = 2 ∧ d.blocks.length = n + 2)) (fun iv _ => L1.length - (intOf iv).toNat)
    case atStart => exact ⟨0, by omega, rfl, H7⟩
    case round =>
      obtain ⟨i, hi, rfl, d, l, HJ⟩ := hrel
      clear H7
      by_cases hlt : i < L1.length
      · have hii : (i : Int) < (L1.length : Int) := by omega
        obtain ⟨b, o, rfl, hb, hcc⟩ := opw_at (HR.out.1.below HJ.out.1.bel) hlt
        have HQ := Lib.hid (And.intro (HR.out.2.1 L1[i] (List.getElem_mem hlt)) (HR.out.2.2 L1[i] (List.getElem_mem hlt)))
        generalize L1[i] = q at hcc HQ
        go_upto_region 13 with (fail)
        generalize hW7 : World.alloc wr (.cells _ _) = W7
        obtain ⟨ba7, hz7, hB7⟩ := fresh1 hW7
        clear hW7
        have HP := Lib.hid (bstep_any w W7 k gx d l _ (HJ.out.1.below hB7) (by omega) q HQ.out.1 HQ.out.2.1 HQ.out.2.2 n (by omega) (by omega) (by have h1 := HJ.out.2.1; have h2 := HJ.out.2.2; omega))
        have hcq := And.intro (ba7.cell 0) (And.intro (ba7.cell 1) (And.intro (ba7.cell 2) (And.intro (ba7.cell 3) (ba7.cell 4))))
        simp only [List.getElem?_cons_zero, List.getElem?_cons_succ] at hcq
        clear ba7 hB7 hcc hz7
        go_wp2_with fail
        refine HP.out.mono ?_
        rintro e w8 ⟨rfl, d8, l8, hb8, ha8, hl8⟩
        have H8 : Hid (BotOk w w8 k gx d8 l8 (2 + (i + 1) * 1010) ∧ l8.at_ = 2 ∧ d8.blocks.length = n + 2) := ⟨by rw [show 2 + (i + 1) * 1010 = 2 + i * 1010 + 1010 by omega]; exact hb8, by rw [ha8]; exact HJ.out.2.1, by rw [hl8]; exact HJ.out.2.2⟩
        clear hb8 ha8 hl8 HP hcq HJ
        go_wp2_with fail
        go_roundw
        case rel => exact ⟨i + 1, by omega, by go_num, d8, l8, H8⟩
        case measure => simp [intOf]; omega
      · obtain rfl : i = L1.length := by omega
        have hii : ¬ (L1.length : Int) < (L1.length : Int) := by omega
        obtain ⟨nn, hnn⟩ : ∃ nn, nn = 2 + L1.length * 1010 := ⟨_, rfl⟩
        rw [← hnn] at HJ
        obtain ⟨⟨hN, lp, c, o, hB, hcase⟩, -, hlen⟩ := HJ.out
        obtain ⟨As, cs, Ap, cp, Af, cf, rfl⟩ := hB.rx.open_
        have HB := Lib.hid hB
        have HN := Lib.hid (And.intro hN hlen)
        clear hlt hB hcase hN hlen HJ hnn
        have hc := HB.out.blk.c13
        go_wp2_with fail
        refine HB.out.dl.up.mono ?_
        rintro e w8 ⟨rfl, hL8, hK8⟩
        have H8 := Lib.hid (HB.out.prog hL8 hK8 fun i hi => ⟨.inl hi, fun e => HB.out.own (e ▸ hi)⟩)
        clear hL8 hK8 hc HB
        have hc := H8.out.blk.c13
        go_upto_region 18 with (fail)
        have H9 : Hid (BotAt w (w8.setCells gx 6 [.bool false]) k gx o { d with down := false } lp [.slice As d.rx.sure.length cs, .slice Ap d.rx.pend.length cp, .slice Af d.rx.falls.length cf, .int .i64 (d.rx.ch : Nat), .bool false] ({ d with down := false } : DS).rx l nn) := H8.out.store 6 [.bool false] rfl H8.out.rx.setDown
        have HND : Hid (NowAt ({ d with down := false } : DS) ∧ ({ d with down := false } : DS).down = false ∧ ({ d with down := false } : DS).blocks.length = n + 2) := ⟨HN.out.1.up false, rfl, HN.out.2⟩
        simp only [World.setCells] at H9
        clear hc H8 HN
        generalize (World.setCell w8 _ _) = W9 at H9 ⊢
        generalize d.rx = x at H9
        generalize ({ d with down := false } : DS) = d3 at H9 HND
        go_wp2_with fail
        go_loopw [71] (fun iv wr => ∃ i : Nat, i ≤ n + 2 ∧ iv = .int .i64 i ∧ Hid (BotAt w wr k gx o d3 lp [.slice As x.sure.length cs, .slice Ap x.pend.length cp, .slice Af x.falls.length cf, .int .i64 (x.ch : Nat), .bool false] d3.rx l nn)) (fun iv _ => n + 2 - (intOf iv).toNat)
        case atStart => exact ⟨0, by omega, rfl, H9⟩
        case round =>
          obtain ⟨i, hi, rfl, HK⟩ := hrel
          clear H9
          by_cases hlt : i < n + 2
          · have hii : (i : Int) < (n : Int) + 2 := by omega
            try rw [Int.add_zero] at hii
            have hil : i < d3.blocks.length := by rw [HND.out.2.2]; exact hlt
            have HRD := Lib.hid (read_ok wr _ k d3 HK.out.dl.at_ i hil HND.out.2.1)
            have HNW := Lib.hid (HND.out.1.now i hil)
            have HP := Lib.hid HK.out.dl.good.p1
            have HH5 := Lib.hid d3.blocks[i].now.h
            have HRN : Hid (∀ w', RefX (inB k gx o) w' [.slice As x.sure.length cs, .slice Ap x.pend.length cp, .slice Af x.falls.length cf, .int .i64 (x.ch : Nat), .bool false] d3.rx → Calls Try.prog 30 #[.agg #[.slice As x.sure.length cs, .slice Ap x.pend.length cp, .slice Af x.falls.length cf, .int .i64 (x.ch : Nat), .bool false], .int .i64 i] w' fun e w'' => e = .returned (.string ⟨d3.blocks[i].now.l.toArray⟩) ∧ Below w'.heap.size w' w'') := fun w' h => by
              have := refnow_any (inB k gx o) w' d3 _ h i hil HP.out
              rw [← HNW.out] at this
              exact this
            generalize d3.blocks[i].now.l = nl at HRD HRN HH5
            have hc := HK.out.blk.c13
            go_wp2_with fail
            refine HRD.out.mono ?_
            rintro e w9 ⟨A9, c9, rfl, ho9, hb9⟩
            have H10 := Lib.hid (And.intro (HK.out.below hb9.drewR) ho9.drew)
            clear hc ho9 hb9 HRD HK
            have hc := H10.out.1.blk.c13
            have hcv := run_string_bytes w9.drew c9 H10.out.2.row
            rw [HH5.out] at hcv
            unfold txt at hcv
            have HCN := Lib.hid (HRN.out w9.drew H10.out.1.rx)
            go_wp2_with fail
            refine wp_region_plan (.take 0 (.take 1 (.take 2 (.take 3 (.take 4 (.take 5 (.take 6 (.take 7 (.take 8 (.take 9 (.take 10 (.run 11 [3, 4] (.take 12 (.take 13 .fin)))))))))))))) (by kernel_rfl) (by kernel_rfl) (by kernel_rfl) (by kernel_rfl) ?_
            repeat' (first | (refine hZ _ _ ?_; clear hZ) | (refine hZ _ ?_; clear hZ) | (refine hZ ?_; clear hZ) | rw [again_nil] | rw [walk_fin] | ((first | rw [walk_take] | rw [walk_run] | rw [again_cons]); intro Z hZ; simp only [sel, List.getElem?_toArray, List.getElem?_cons_zero, List.getElem?_cons_succ]; go_wp2_with (fail)))
            refine HCN.out.mono ?_
            rintro e w10 ⟨rfl, hb10⟩
            have H11 := Lib.hid (H10.out.1.below hb10)
            clear hcv hc
            have hcv := run_string_bytes w10 c9 (H10.out.2.row.below hb10)
            rw [HH5.out] at hcv
            unfold txt at hcv
            clear hb10 HCN HRN
            go_wp2_with fail
            repeat' (first | (refine hZ _ _ ?_; clear hZ) | (refine hZ _ ?_; clear hZ) | (refine hZ ?_; clear hZ) | rw [again_nil] | rw [walk_fin] | ((first | rw [walk_take] | rw [walk_run] | rw [again_cons]); intro Z hZ; simp only [sel, List.getElem?_toArray, List.getElem?_cons_zero, List.getElem?_cons_succ]; go_wp2_with (fail)))
            go_wp2_with fail
            go_roundw
            case rel => exact ⟨i + 1, by omega, by go_num, H11⟩
            case measure => simp [intOf]; omega
          · have hii : ¬ (i : Int) < (n : Int) + 2 := by omega
            try rw [Int.add_zero] at hii
            go_wp2_with fail
            go_ret
            exact ⟨rfl, HK.out.dl.bel⟩
end Go.Proofs.Ythbanhedjfpmaaa
end

section
/-
  The walk of WalPlays, whatever comes in.
-/
namespace Go.Proofs.Ythbanhedjfpmaaa
set_option linter.unusedSimpArgs false
set_option linter.unusedVariables false
open Go.RowKit

set_option maxRecDepth 20000 in
set_option maxHeartbeats 1000000 in
theorem walPlays_walk (w : World) (n : Int) (_wn : (Lit.int .i64 n).wf = true) (fr : Bool) (v1 : Value) (s1 : ScriptW w v1) :
    Calls Try.prog 12 #[.int .i64 n, .bool fr, v1] w fun e w' => e = .returned (.bool true) ∧ Below w.heap.size w w' := by
  obtain ⟨A1, c1, L1, rfl, hr1, hf1, -, -⟩ := s1
  have HF1 := Lib.hid (fun w' (hb : Below w.heap.size w w') => wfits_any w' n A1 c1 L1 (hr1.below hb) (fun o ho => (hf1 o ho).ps.below hb))
  cases h1 : fitsW n L1 with
  | true =>
    obtain ⟨⟨hn, -, -⟩, -⟩ := fitsW_all h1
    obtain ⟨m, rfl⟩ : ∃ m : Nat, n = (m : Int) := ⟨n.toNat, by omega⟩
    exact walPlays_fit w m fr A1 c1 L1 hr1 hf1 h1
  | false =>
    rw [h1] at HF1
    clear hr1 hf1 h1
    go_enter Try.func12, Try.ntmps12
    go_wp2_with fail
    refine (wlives_any w).mono ?_
    rintro e w1 ⟨rfl, hB⟩
    have HB1 := Lib.hid hB
    clear hB
    go_wp2_with fail
    refine (HF1.out w1 HB1.out).mono ?_
    rintro e w2 ⟨rfl, hB⟩
    have HB2 := Lib.hid (HB1.out.trans (hB.mono HB1.out.size))
    clear hB HB1
    go_wp2_with fail
    refine (wlives_any w2).mono ?_
    rintro e w9 ⟨rfl, hB⟩
    have HB9 := Lib.hid (HB2.out.trans (hB.mono HB2.out.size))
    clear hB
    go_wp2_with fail
    go_ret
    exact ⟨rfl, HB9.out⟩
end Go.Proofs.Ythbanhedjfpmaaa
end

