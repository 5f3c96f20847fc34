/-
  The document's disk: Put, Flush.
-/
import Derived.Test.YthbanhedjfpmaaaRefD3
namespace Go.Proofs.Ythbanhedjfpmaaa
set_option linter.unusedSimpArgs false
set_option linter.unusedVariables false
open Go.RowKit

theorem RefX.open_ {S : Nat → Prop} {w : World} {c : List Value} {x : RX} (h : RefX S w c x) : ∃ As cs Ap cp Af cf, c = [.slice As x.sure.length cs, .slice Ap x.pend.length cp, .slice Af x.falls.length cf, .int .i64 (x.ch : Nat), .bool x.down] := by
  obtain ⟨As, cs, Ap, cp, Af, cf, e, -⟩ := h
  exact ⟨As, cs, Ap, cp, Af, cf, e⟩
theorem rx_set_now (d : DS) (i : Nat) (b : B512) : (d.blocks.set i { (d.blocks.getD i default) with now := b }).map (·.sure.l) = d.blocks.map (·.sure.l) := by
  rw [List.map_set]
  by_cases h : i < d.blocks.length
  · have e : ({ (d.blocks.getD i default) with now := b } : DB).sure.l = (d.blocks.map (·.sure.l))[i]'(by simpa using h) := by simp [h]
    rw [e, List.set_getElem_self]
  · exact List.set_eq_of_length_le (by simp; omega)
set_option maxRecDepth 20000 in
set_option maxHeartbeats 2000000 in
theorem refput_any (S : Nat → Prop) (w : World) (hS : ∀ i, S i → i < w.heap.size) (d : DS) (c : List Value) (h : RefX S w c d.rx) (hG : DGood d) (hch : d.changes < 1000000000) (hpl : d.pending.length < 1000000) (i : Int) (l : List UInt8) (hl : l.length ≤ 1000000) :
    Calls Try.prog 35 #[.agg c.toArray, .int .i64 i, .string ⟨l.toArray⟩] w (RetXN S w ((d.write i l).1.rx, (d.write i l).2)) := by
  have HR := Lib.hid h
  obtain ⟨As, cs, Ap, cp, Af, cf, rfl⟩ := h.open_
  have HW : Hid (∀ w', Below w.heap.size w w' → Calls Try.prog 55 #[.agg #[.slice As d.rx.sure.length cs, .slice Ap d.rx.pend.length cp, .slice Af d.rx.falls.length cf, .int .i64 (d.rx.ch : Nat), .bool d.rx.down], .int .i64 i] w' fun e w2 => e = .returned (.int .i64 (d.why i)) ∧ Below w'.heap.size w' w2) := fun w' hb => refwhy_any S w' d _ (HR.out.below hb) i
  clear h
  by_cases hw : d.why i = 0
  · by_cases h512 : l.length = 512
    · have hE : d.write i l = d.put i.toNat ⟨l, h512⟩ := by unfold DS.write; rw [if_neg (by simp [hw]), dif_pos h512]
      obtain ⟨hdn, hi0, hi1⟩ := why_zero hw
      have HG : Hid (DGood { d with blocks := d.blocks.set i.toNat { (d.blocks.getD i.toNat default) with now := ⟨l, h512⟩ }, pending := d.pending ++ [⟨(i.toNat : Int), ⟨l, h512⟩⟩] }) := by
        refine ⟨by simpa using hG.b0, by simpa using hG.b1, by simp; omega, hG.f1, fun x hx => ?_, hG.fk⟩
        simp only [List.length_set]
        rcases List.mem_append.1 hx with h' | h'
        · exact hG.at_ x h'
        · simp only [List.mem_singleton] at h'
          subst h'
          exact ⟨by show (0 : Int) ≤ (i.toNat : Int); omega, by show ((i.toNat : Nat) : Int) < _; omega⟩
      have hx : ({ d with blocks := d.blocks.set i.toNat { (d.blocks.getD i.toNat default) with now := ⟨l, h512⟩ }, pending := d.pending ++ [⟨(i.toNat : Int), ⟨l, h512⟩⟩] } : DS).rx = { d.rx with pend := d.rx.pend ++ [(i, l)] } := by
        simp only [DS.rx, rx_set_now, List.map_append, List.map_cons, List.map_nil]
        rw [show ((i.toNat : Nat) : Int) = i from by omega]
      have HE : Hid (d.write i l = ({ d with blocks := d.blocks.set i.toNat { (d.blocks.getD i.toNat default) with now := ⟨l, h512⟩ }, pending := d.pending ++ [⟨(i.toNat : Int), ⟨l, h512⟩⟩] } : DS).strike) := hE
      rw [hw] at HW
      generalize hdd : ({ d with blocks := d.blocks.set i.toNat { (d.blocks.getD i.toNat default) with now := ⟨l, h512⟩ }, pending := d.pending ++ [⟨(i.toNat : Int), ⟨l, h512⟩⟩] } : DS) = dd at HG HE hx
      have hcd : dd.changes = d.changes := by rw [← hdd]
      have HX := Lib.hid hx
      have HCD := Lib.hid hcd
      have hplx : d.rx.pend.length < 1000000 := by simpa [DS.rx] using hpl
      have h512i : (l.length : Int) = 512 := by omega
      have H512 := Lib.hid h512
      clear hE hw hx hcd hdd h512i
      generalize hX : d.rx = x at HR HW HX hplx
      clear hX
      have hne : ((l.length : Int) != 512) = false := by rw [H512.out]; rfl
      go_enter Try.func35, Try.ntmps35
      go_upto_region 1 with (fail)
      generalize hW0 : ((World.alloc w (.cells _ _)).alloc (.cells _ _)) = W
      obtain ⟨ba0, bb0, hz0, hB0⟩ := fresh2 hW0
      clear hW0
      have HB := Lib.hid (And.intro ba0 (And.intro bb0 hB0))
      have hcc := ba0.c5
      have hWW := HW.out W hB0
      have HWW := Lib.hid hWW
      clear ba0 bb0 hB0 HW hWW
      go_wp2_with fail
      refine HWW.out.mono ?_
      rintro e w1 ⟨rfl, hb1⟩
      have H1 := Lib.hid (And.intro (HB.out.1.below hb1) (And.intro (HB.out.2.1.below hb1) (And.intro (HB.out.2.2.then hb1) (HR.out.below (HB.out.2.2.then hb1)))))
      have hcc1 := H1.out.1.c5
      clear hb1 HWW hcc
      go_upto_region 6 with (fail)
      obtain ⟨As', cs', Ap', cp', Af', cf', heq, -, hpr, -⟩ := H1.out.2.2.2
      simp only [List.cons.injEq, Value.slice.injEq, and_true, true_and] at heq
      obtain ⟨⟨-, -⟩, ⟨rfl, -⟩, -⟩ := heq
      have HPR := Lib.hid hpr.1
      clear hpr
      go_upto_region 7 with (first
        | (at_builtin; refine wpList_append_elems eRW rfl (.tmp 20) (.tmp 22) rfl 0 rfl ((fresh1 rfl).1.own eRW (B := w1.heap.size) [] rfl (by simp) (Nat.le_refl _)) rfl _ rfl (HPR.out.below (fresh1 rfl).2.2) rfl (by simp; omega) (by simp) ?_; intro A3 c3 w3 ho3 hb3 _ _; have H3 := Lib.hid (And.intro ho3 ((Below.alloc1 w1 _).trans hb3)); have hcc3 := (H1.out.1.below H3.out.2).c5; clear ho3 hb3 hcc1)
        | (at_builtin; refine wpList_append_elems eRW rfl (.tmp 23) (.tmp 27) rfl _ rfl (H3.out.1.below (fresh1 rfl).2.2) rfl _ rfl ((fresh1 rfl).1.row eRW [(i, l)] rfl (by simp [maxLen])) rfl (by simp; omega) (by have := H3.out.2.size; simp; omega) ?_; intro A4 c4 w4 ho4 hb4 _ _; have H4 := Lib.hid (And.intro ho4 (H3.out.2.trans (((Below.alloc1 w3 _).mono H3.out.2.size).trans hb4))); have hcc4 := (H1.out.1.below H4.out.2).c5; clear ho4 hb4 hcc3))
      have hX5 : RefX S (w4.setCell ⟨w.heap.size, 1, none⟩ (.slice A4 (x.pend.length + 1) c4)) [.slice As x.sure.length cs, .slice A4 (x.pend.length + 1) c4, .slice Af x.falls.length cf, .int .i64 (x.ch : Nat), .bool x.down] dd.rx := by
        obtain ⟨As2, cs2, Ap2, cp2, Af2, cf2, e2, q1, q2, q3⟩ := HR.out
        simp only [List.cons.injEq, Value.slice.injEq, and_true, true_and] at e2
        obtain ⟨⟨rfl, rfl⟩, -, ⟨rfl, rfl⟩⟩ := e2
        have hb4 : Below w.heap.size w (w4.setCell ⟨w.heap.size, 1, none⟩ (.slice A4 (x.pend.length + 1) c4)) := (H1.out.2.2.1.then H4.out.2).setCell (p := ⟨w.heap.size, 1, none⟩) (Nat.le_refl _) _
        rw [HX.out]
        refine ⟨As, cs, A4, c4, Af, cf, by simp, q1.below hb4, ?_, q3.below hb4⟩
        have h5 := H4.out.1.set ⟨w.heap.size, 1, none⟩ (fun a ha => by have := (H4.out.1.block a ha).1; have := H1.out.1.lt; simp only; omega) (.slice A4 (x.pend.length + 1) c4)
        exact RowX.own h5 (fun j hj => Nat.lt_of_lt_of_le (hS j hj) H1.out.2.2.1.size)
      have H5 : Hid (Blk (w4.setCell ⟨w.heap.size, 1, none⟩ (.slice A4 (x.pend.length + 1) c4)) w.heap.size 54 [.slice As x.sure.length cs, .slice A4 (x.pend.length + 1) c4, .slice Af x.falls.length cf, .int .i64 (x.ch : Nat), .bool x.down] ∧ Blk (w4.setCell ⟨w.heap.size, 1, none⟩ (.slice A4 (x.pend.length + 1) c4)) (w.heap.size + 1) 54 [.slice none 0 0, .slice none 0 0, .slice none 0 0, .int .i64 0, .bool false] ∧ Below w.heap.size w (w4.setCell ⟨w.heap.size, 1, none⟩ (.slice A4 (x.pend.length + 1) c4)) ∧
          RefX S (w4.setCell ⟨w.heap.size, 1, none⟩ (.slice A4 (x.pend.length + 1) c4)) [.slice As x.sure.length cs, .slice A4 (x.pend.length + 1) c4, .slice Af x.falls.length cf, .int .i64 (x.ch : Nat), .bool x.down] dd.rx) :=
        ⟨(H1.out.1.below H4.out.2).set1, (H1.out.2.1.below H4.out.2).other ⟨w.heap.size, 1, none⟩ (by simp) _, (H1.out.2.2.1.then H4.out.2).setCell (p := ⟨w.heap.size, 1, none⟩) (Nat.le_refl _) _, hX5⟩
      clear hX5 hcc4 H4 H3 HPR
      generalize (World.setCell w4 _ _) = W5 at H5 ⊢
      have hcc5 := H5.out.1.c5
      have HC := Lib.hid (refstrike_any S W5 (fun j hj => Nat.lt_of_lt_of_le (hS j hj) H5.out.2.2.1.size) dd _ H5.out.2.2.2 HG.out (by rw [HCD.out]; exact hch))
      go_wp2_with fail
      refine HC.out.mono ?_
      rintro e w7 ⟨c7, rfl, hx7, hb7⟩
      have HX7 := Lib.hid (And.intro (H5.out.2.1.below hb7) (And.intro (H5.out.2.2.1.then hb7) hx7))
      obtain ⟨As7, cs7, Ap7, cp7, Af7, cf7, rfl⟩ := hx7.open_
      have hcc7 := HX7.out.1.c5
      clear hcc5 hb7 HC hx7
      go_wp2_with fail
      refine ret_set5n HX7.out.1 rfl rfl rfl rfl rfl (fun W hW => load_rx hW) fun W2 hW hg => ?_
      rw [HE.out]
      exact ⟨_, rfl, HX7.out.2.2.keptG HX7.out.1 hg, below_of_grown HX7.out.2.1 hg (by omega) HX7.out.2.1.size⟩
    · have HE : Hid (d.write i l = (d, 1)) := by show _ = _; unfold DS.write; rw [if_neg (by simp [hw]), dif_neg h512]
      rw [hw] at HW
      have hne : ((l.length : Int) != 512) = true := by simp; omega
      generalize hX : d.rx = x at HR HW
      clear hw h512
      go_enter Try.func35, Try.ntmps35
      go_upto_region 1 with (fail)
      generalize hW0 : ((World.alloc w (.cells _ _)).alloc (.cells _ _)) = W
      obtain ⟨ba0, bb0, hz0, hB0⟩ := fresh2 hW0
      clear hW0
      have HB := Lib.hid (And.intro ba0 (And.intro bb0 hB0))
      have hcc := ba0.c5
      have hWW := HW.out W hB0
      have HWW := Lib.hid hWW
      clear ba0 bb0 hB0 HW hWW
      go_wp2_with fail
      refine HWW.out.mono ?_
      rintro e w1 ⟨rfl, hb1⟩
      have H1 := Lib.hid (And.intro (HB.out.2.1.below hb1) (And.intro (HB.out.2.2.then hb1) (HR.out.below (HB.out.2.2.then hb1))))
      have hcc1 := And.intro (HB.out.1.below hb1).c5 H1.out.1.c5
      clear hb1 HWW hcc
      go_wp2_with fail
      refine ret_set5n H1.out.1 rfl rfl rfl rfl rfl (fun W hW => load_rx hW) fun W2 hW hg => ?_
      rw [HE.out, hX]
      exact ⟨_, rfl, H1.out.2.2.keptG H1.out.1 hg, below_of_grown H1.out.2.1 hg (by omega) H1.out.2.1.size⟩
  · have HE : Hid (d.write i l = (d, d.why i)) := by show _ = _; unfold DS.write; rw [if_pos hw]
    have hne : (d.why i != 0) = true := by simpa using hw
    generalize d.why i = y at HW hne HE
    generalize hX : d.rx = x at HR HW
    clear hw
    go_enter Try.func35, Try.ntmps35
    go_upto_region 1 with (fail)
    generalize hW0 : ((World.alloc w (.cells _ _)).alloc (.cells _ _)) = W
    obtain ⟨ba0, bb0, hz0, hB0⟩ := fresh2 hW0
    clear hW0
    have HB := Lib.hid (And.intro ba0 (And.intro bb0 hB0))
    have hcc := ba0.c5
    have hWW := HW.out W hB0
    have HWW := Lib.hid hWW
    clear ba0 bb0 hB0 HW hWW
    go_wp2_with fail
    refine HWW.out.mono ?_
    rintro e w1 ⟨rfl, hb1⟩
    have H1 := Lib.hid (And.intro (HB.out.2.1.below hb1) (And.intro (HB.out.2.2.then hb1) (HR.out.below (HB.out.2.2.then hb1))))
    have hcc1 := And.intro (HB.out.1.below hb1).c5 H1.out.1.c5
    clear hb1 HWW hcc
    go_wp2_with fail
    refine ret_set5n H1.out.1 rfl rfl rfl rfl rfl (fun W hW => load_rx hW) fun W2 hW hg => ?_
    rw [HE.out, hX]
    exact ⟨_, rfl, H1.out.2.2.keptG H1.out.1 hg, below_of_grown H1.out.2.1 hg (by omega) H1.out.2.1.size⟩
end Go.Proofs.Ythbanhedjfpmaaa
