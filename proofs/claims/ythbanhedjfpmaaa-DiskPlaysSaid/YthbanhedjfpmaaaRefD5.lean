/-
  The document's disk: Flush.
-/
import Derived.Test.YthbanhedjfpmaaaRefD4
namespace Go.Proofs.Ythbanhedjfpmaaa
set_option linter.unusedSimpArgs false
set_option linter.unusedVariables false
open Go.RowKit

theorem rx_settled (s : DS) : s.settled.rx = ⟨sureOf (sureAll s.pending s.blocks), [], s.falls, s.changes, s.down⟩ := rfl
theorem RefX.setSure {S : Nat → Prop} {w : World} {As A7 : Option Addr} {n cs c7 : Nat} {p f ch dn : Value} {x : RX} (h : RefX S w [.slice As n cs, p, f, ch, dn] x) {L : List (List UInt8)} (hL : L.length = n) (hr : RowX S eStr w A7 L) : RefX S w [.slice A7 n c7, p, f, ch, dn] { x with sure := L } := by
  obtain ⟨As', cs', Ap, cp, Af, cf, e, h2, h3, h4⟩ := h
  simp only [List.cons.injEq, and_true] at e
  obtain ⟨-, rfl, rfl, rfl, rfl⟩ := e
  exact ⟨A7, c7, Ap, cp, Af, cf, by simp [hL], hr, h3, h4⟩
theorem RefX.rows {S : Nat → Prop} {w : World} {As Ap Af : Option Addr} {n m k cs cp cf : Nat} {ch dn : Value} {x : RX} (h : RefX S w [.slice As n cs, .slice Ap m cp, .slice Af k cf, ch, dn] x) : RowX S eStr w As x.sure ∧ RowX S eRW w Ap x.pend ∧ RowX S eDF w Af x.falls ∧ n = x.sure.length ∧ m = x.pend.length ∧ k = x.falls.length := by
  obtain ⟨As', cs', Ap', cp', Af', cf', e, h2, h3, h4⟩ := h
  simp only [List.cons.injEq, Value.slice.injEq, and_true] at e
  obtain ⟨⟨rfl, rfl, rfl⟩, ⟨rfl, rfl, rfl⟩, ⟨rfl, rfl, rfl⟩, rfl, rfl⟩ := e
  exact ⟨h2, h3, h4, rfl, rfl, rfl⟩
set_option maxRecDepth 20000 in
set_option maxHeartbeats 2000000 in
theorem refflush_any (S : Nat → Prop) (w : World) (hS : ∀ i, S i → i < w.heap.size) (d : DS) (c : List Value) (h : RefX S w c d.rx) (hG : DGood d) (hch : d.changes < 1000000000) :
    Calls Try.prog 54 #[.agg c.toArray] w (RetXN S w (d.flush.1.rx, d.flush.2)) := by
  have HR := Lib.hid h
  obtain ⟨As, cs, Ap, cp, Af, cf, rfl⟩ := h.open_
  clear h
  cases hd : d.down with
  | true =>
    have HE : Hid (d.flush = (d, 6)) := by show _ = _; unfold DS.flush; rw [if_pos hd]
    have hdx : d.rx.down = true := hd
    rw [hdx] at HR ⊢
    generalize hX : d.rx = x at HR
    clear hd hdx
    go_enter Try.func54, Try.ntmps54
    go_upto_region 1 with (fail)
    generalize hW0 : ((World.alloc w (.cells _ _)).alloc (.cells _ _)) = W
    obtain ⟨ba0, bb0, hz0, hB0⟩ := fresh2 hW0
    clear hW0
    have HB := Lib.hid (And.intro ba0 (And.intro bb0 hB0))
    have hcc := And.intro ba0.c5 bb0.c5
    clear ba0 bb0 hB0
    go_wp2_with fail
    refine ret_set5n HB.out.2.1 rfl rfl rfl rfl rfl (fun W hW => load_rx hW) fun W2 hW hg => ?_
    rw [HE.out, hX]
    exact ⟨_, rfl, (HR.out.below HB.out.2.2).keptG HB.out.2.1 hg, below_of_grown HB.out.2.2 hg (by omega) HB.out.2.2.size⟩
  | false =>
    have HF : Hid (d.flush = if d.strike.2 ≠ 0 then d.strike else (d.strike.1.settled, 0)) := by show _ = _; unfold DS.flush; rw [if_neg (by simp [hd])]
    have HG := Lib.hid hG.strike
    have HST : Hid (∀ w' : World, Below w.heap.size w w' → Calls Try.prog 60 #[.agg #[.slice As d.rx.sure.length cs, .slice Ap d.rx.pend.length cp, .slice Af d.rx.falls.length cf, .int .i64 (d.rx.ch : Nat), .bool d.rx.down]] w' (RetXN S w' (d.strike.1.rx, d.strike.2))) := fun w' hb => refstrike_any S w' (fun j hj => Nat.lt_of_lt_of_le (hS j hj) hb.size) d _ (HR.out.below hb) hG hch
    have hdx : d.rx.down = false := hd
    rw [hdx] at HR HST ⊢
    generalize d.flush = fl at HF
    generalize d.strike = s at HF HG HST
    obtain ⟨s, ev⟩ := s
    simp only at HF HG HST
    generalize d.rx = x at HR HST
    clear hd hdx hG hch
    go_enter Try.func54, Try.ntmps54
    go_upto_region 1 with (fail)
    generalize hW0 : ((World.alloc w (.cells _ _)).alloc (.cells _ _)) = W
    obtain ⟨ba0, bb0, hz0, hB0⟩ := fresh2 hW0
    clear hW0
    have HB := Lib.hid (And.intro ba0 (And.intro bb0 hB0))
    have hcc := And.intro ba0.c5 bb0.c5
    have HC := Lib.hid (HST.out W hB0)
    clear ba0 bb0 hB0 HST
    go_wp2_with fail
    refine HC.out.mono ?_
    rintro e w2 ⟨c2, rfl, hx2, hb2⟩
    have H2 := Lib.hid (And.intro (HB.out.2.1.below hb2) (And.intro (HB.out.2.2.then hb2) hx2))
    obtain ⟨As2, cs2, Ap2, cp2, Af2, cf2, rfl⟩ := hx2.open_
    clear hcc hb2 HC hx2 HB
    go_upto_region 4 with (fail)
    generalize hW3 : World.alloc w2 (.cells _ _) = W3
    obtain ⟨ba3, hz3, hB3⟩ := fresh1 hW3
    clear hW3
    have H3 := Lib.hid (And.intro (H2.out.1.below hB3) (And.intro (H2.out.2.1.then hB3) (And.intro ba3 (H2.out.2.2.below hB3))))
    have hz2 := H2.out.1.lt
    clear ba3 hB3 H2
    by_cases hev : ev = 0
    · subst hev
      have HFE : Hid (fl = (s.settled, 0)) := by show _ = _; rw [HF.out, if_neg (by simp)]
      have hp1 := HG.out.p1
      have hb1 := HG.out.b1
      obtain ⟨G, hG⟩ : ∃ G, G = w2.heap.size := ⟨_, rfl⟩
      rw [← hG] at H3 hz2 ⊢
      have hsl : s.rx.sure.length = s.blocks.length := by simp [DS.rx]
      have hpl : s.rx.pend.length = s.pending.length := by simp [DS.rx]
      rw [hsl, hpl] at H3
      have HE0 : Hid ({ s.rx with sure := sureOf (sureAll (s.pending.take 0) s.blocks) } = s.rx) := rfl
      have HSX : Hid (s.falls = s.rx.falls ∧ s.changes = s.rx.ch ∧ s.down = s.rx.down) := ⟨rfl, rfl, rfl⟩
      have HPX : Hid (s.rx.pend = s.pending.map fun x => (x.at_, x.b.l)) := rfl
      rw [hsl, hpl]
      clear hsl hpl hG hz3 HF
      generalize s.rx = sx at H3 HE0 HPX HSX ⊢
      go_wp2_with fail
      go_loopw [6] (fun iv wr => ∃ i : Nat, i ≤ s.pending.length ∧ iv = .int .i64 i ∧ ∃ As cs, Hid (Blk wr (w.heap.size + 1) 54 [.slice none 0 0, .slice none 0 0, .slice none 0 0, .int .i64 0, .bool false] ∧ Below w.heap.size w wr ∧ Blk wr G 54 [.slice As s.blocks.length cs, .slice Ap2 s.pending.length cp2, .slice Af2 sx.falls.length cf2, .int .i64 (sx.ch : Nat), .bool sx.down] ∧
        RefX S wr [.slice As s.blocks.length cs, .slice Ap2 s.pending.length cp2, .slice Af2 sx.falls.length cf2, .int .i64 (sx.ch : Nat), .bool sx.down] { sx with sure := sureOf (sureAll (s.pending.take i) s.blocks) })) (fun iv _ => s.pending.length - (intOf iv).toNat)
      case atStart => exact ⟨0, by omega, rfl, As2, cs2, by rw [HE0.out]; exact H3.out⟩
      case round =>
        obtain ⟨i, hi, rfl, As, cs, HJ⟩ := hrel
        clear H3
        have hcc := HJ.out.2.2.1.c5
        obtain ⟨q1, q2, q3, -, -, -⟩ := HJ.out.2.2.2.rows
        by_cases hlt : i < s.pending.length
        · have hii : (i : Int) < (s.pending.length : Int) := by omega
          rw [show ({ sx with sure := sureOf (sureAll (s.pending.take i) s.blocks) } : RX).pend = s.pending.map fun x => (x.at_, x.b.l) from HPX.out] at q2
          obtain ⟨bp, op, rfl, hbp, hc1, hc2⟩ := rw_at q2.1 (i := i) (by simpa using hlt)
          simp only [List.getElem_map] at hc1 hc2
          have hat := HG.out.at_ s.pending[i] (List.getElem_mem hlt)
          have HTK := Lib.hid (sureAll_take s.pending i s.blocks hlt)
          have hLlen : (sureAll (s.pending.take i) s.blocks).length = s.blocks.length := sureAll_length ..
          generalize s.pending[i] = p at hc1 hc2 hat HTK
          obtain ⟨pat, pb⟩ := p
          simp only at hat hc1 hc2
          obtain ⟨m, rfl⟩ : ∃ m : Nat, pat = (m : Int) := ⟨pat.toNat, by omega⟩
          have HTK2 : Hid (sureOf (sureAll (s.pending.take (i + 1)) s.blocks) = (sureOf (sureAll (s.pending.take i) s.blocks)).set m pb.l) := by
            show _ = _
            rw [HTK.out, Int.toNat_natCast, sureOf_set]
          generalize sureAll (s.pending.take i) s.blocks = Li at HJ HTK2 hLlen q1
          have hlen : (sureOf Li).length = s.blocks.length := by unfold sureOf; rw [List.length_map, hLlen]
          have hcw := with_any wr.drew As cs (sureOf Li) (m : Int) pb.l (q1.below (below_drew wr)).1 (by omega) (by omega) (by omega)
          rw [hlen] at hcw
          have HCW := Lib.hid hcw
          have HLN := Lib.hid hlen
          clear hcw hlen q1 q2 q3 HTK
          go_wp2_with fail
          refine wp_region_plan (.take 0 (.take 1 (.take 2 (.take 3 (.take 4 (.take 5 (.take 6 (.take 7 (.take 8 (.take 9 (.take 10 (.take 11 (.take 12 (.take 13 (.run 14 [] (.take 15 (.run 16 [] .fin))))))))))))))))) (by kernel_rfl) (by kernel_rfl) (by kernel_rfl) (by kernel_rfl) ?_
          simp only [walk, again, sel, List.getElem?_toArray, List.getElem?_cons_zero, List.getElem?_cons_succ]
          repeat (intro Z hZ; go_wp2_with (fail))
          refine HCW.out.mono ?_
          rintro e w7 ⟨A7, c7, rfl, ho7, hb7⟩
          rw [List.length_set, HLN.out]
          have hb := (below_drew wr).trans hb7
          have H7 := Lib.hid (And.intro (HJ.out.1.below hb) (And.intro (HJ.out.2.1.then hb) (And.intro (HJ.out.2.2.1.below hb) ((HJ.out.2.2.2.below hb).setSure (c7 := c7) (L := (sureOf Li).set m pb.l) (by rw [List.length_set, HLN.out]) (RowX.own ho7 (fun j hj => Nat.lt_of_lt_of_le (hS j hj) HJ.out.2.1.size))))))
          have hcc7 := H7.out.2.2.1.c5
          clear ho7 hb7 hb HCW hcc hc1 hc2
          go_wp2_with fail
          repeat (intro Z hZ; go_wp2_with (fail))
          go_roundw
          case rel =>
            obtain ⟨g1, g2, g3, g4⟩ := H7.out
            refine ⟨i + 1, by omega, by go_num, A7, c7, g1.other ⟨G, 0, none⟩ (by simp; omega) _, g2.setCell (p := ⟨G, 0, none⟩) (by simp only; omega) _, g3.set0, ?_⟩
            rw [HTK2.out]
            exact g4.keptG g3 (grown_store _ _ _ _)
          case measure => simp [intOf]; omega
        · obtain rfl : i = s.pending.length := by omega
          have hii : ¬ (s.pending.length : Int) < (s.pending.length : Int) := by omega
          have hcr := HJ.out.1.c5
          clear q1 q2 q3
          have H8 : Hid (Blk (wr.setCell ⟨G, 1, none⟩ (.slice none 0 0)) (w.heap.size + 1) 54 [.slice none 0 0, .slice none 0 0, .slice none 0 0, .int .i64 0, .bool false] ∧ Below w.heap.size w (wr.setCell ⟨G, 1, none⟩ (.slice none 0 0)) ∧ Blk (wr.setCell ⟨G, 1, none⟩ (.slice none 0 0)) G 54 [.slice As s.blocks.length cs, .slice none 0 0, .slice Af2 sx.falls.length cf2, .int .i64 (sx.ch : Nat), .bool sx.down] ∧
              RefX S (wr.setCell ⟨G, 1, none⟩ (.slice none 0 0)) [.slice As s.blocks.length cs, .slice none 0 0, .slice Af2 sx.falls.length cf2, .int .i64 (sx.ch : Nat), .bool sx.down] ⟨sureOf (sureAll s.pending s.blocks), [], sx.falls, sx.ch, sx.down⟩) := by
            obtain ⟨g1, g2, g3, g4⟩ := HJ.out
            rw [List.take_length] at g4
            refine ⟨g1.other ⟨G, 1, none⟩ (by simp; omega) _, g2.setCell (p := ⟨G, 1, none⟩) (by simp only; omega) _, g3.set1, ?_⟩
            obtain ⟨r1, r2, r3, e1, e2, e3⟩ := (g4.keptG g3 (grown_store wr G 1 (.slice none 0 0))).rows
            exact ⟨As, cs, none, 0, Af2, cf2, by rw [e1]; rfl, r1, RowX.nil, r3⟩
          go_upto_region 11 with (fail)
          generalize (World.setCell wr _ _) = W8 at H8 ⊢
          have hcc8 := And.intro H8.out.2.2.1.c5 H8.out.1.c5
          clear hcc hcr HJ
          go_wp2_with fail
          refine ret_set5n H8.out.1 rfl rfl rfl rfl rfl (fun W hW => load_rx hW) fun W2 hW hg => ?_
          rw [HFE.out]
          show RetXN S w (s.settled.rx, 0) _ _
          rw [rx_settled, HSX.out.1, HSX.out.2.1, HSX.out.2.2]
          exact ⟨_, rfl, H8.out.2.2.2.keptG H8.out.1 hg, below_of_grown H8.out.2.1 hg (by omega) H8.out.2.1.size⟩
    · have HFE : Hid (fl = (s, ev)) := by show _ = _; rw [HF.out, if_pos hev]
      have hne : (ev != 0) = true := by simpa using hev
      generalize hX : s.rx = sx at H3
      have hcc := And.intro H3.out.2.2.1.c5 H3.out.1.c5
      clear hev HF
      go_wp2_with fail
      refine ret_set5n H3.out.1 rfl rfl rfl rfl rfl (fun W hW => load_rx hW) fun W2 hW hg => ?_
      rw [HFE.out]
      show RetXN S w (s.rx, ev) _ _
      rw [hX]
      exact ⟨_, rfl, H3.out.2.2.2.keptG H3.out.1 hg, below_of_grown H3.out.2.1 hg (by omega) H3.out.2.1.size⟩
end Go.Proofs.Ythbanhedjfpmaaa
