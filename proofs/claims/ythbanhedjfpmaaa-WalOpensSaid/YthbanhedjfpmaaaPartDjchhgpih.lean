/-
  Texts of a proof, one behind the other (each with its own head).
-/
import Derived.Test.YthbanhedjfpmaaaPartCifboeoap
section
/-
  The document's disk: Put, Flush.
-/
namespace Go.Proofs.Ythbanhedjfpmaaa
set_option linter.unusedSimpArgs false
set_option linter.unusedVariables false
open Go.RowKit

theorem RefX.open_ {S : Nat → Prop} {w : World} {c : List Value} {x : RX} (h : RefX S w c x) : ∃ As cs Ap cp Af cf, c = [.slice As x.sure.length cs, .slice Ap x.pend.length cp, .slice Af x.falls.length cf, .int .i64 (x.ch : Nat), .bool x.down] := by
  obtain ⟨As, cs, Ap, cp, Af, cf, e, -⟩ := h
  exact ⟨As, cs, Ap, cp, Af, cf, e⟩
theorem rx_set_now (d : DS) (i : Nat) (b : B512) : (d.blocks.set i { (d.blocks.getD i default) with now := b }).map (·.sure.l) = d.blocks.map (·.sure.l) := by
  rw [List.map_set]
  by_cases h : i < d.blocks.length
  · have e : ({ (d.blocks.getD i default) with now := b } : DB).sure.l = (d.blocks.map (·.sure.l))[i]'(by simpa using h) := by simp [h]
    rw [e, List.set_getElem_self]
  · exact List.set_eq_of_length_le (by simp; omega)
set_option maxRecDepth 20000 in
set_option maxHeartbeats 2000000 in
theorem refput_any (S : Nat → Prop) (w : World) (hS : ∀ i, S i → i < w.heap.size) (d : DS) (c : List Value) (h : RefX S w c d.rx) (hG : DGood d) (hch : d.changes < 1000000000) (hpl : d.pending.length < 1000000) (i : Int) (l : List UInt8) (hl : l.length ≤ 1000000) :
    Calls Try.prog 35 #[.agg c.toArray, .int .i64 i, .string ⟨l.toArray⟩] w (RetXN S w ((d.write i l).1.rx, (d.write i l).2)) := by
  have HR := Lib.hid h
  obtain ⟨As, cs, Ap, cp, Af, cf, rfl⟩ := h.open_
  have HW : Hid (∀ w', Below w.heap.size w w' → Calls Try.prog 55 #[.agg #[.slice As d.rx.sure.length cs, .slice Ap d.rx.pend.length cp, .slice Af d.rx.falls.length cf, .int .i64 (d.rx.ch : Nat), .bool d.rx.down], .int .i64 i] w' fun e w2 => e = .returned (.int .i64 (d.why i)) ∧ Below w'.heap.size w' w2) := fun w' hb => refwhy_any S w' d _ (HR.out.below hb) i
  clear h
  by_cases hw : d.why i = 0
  · by_cases h512 : l.length = 512
    · have hE : d.write i l = d.put i.toNat ⟨l, h512⟩ := by unfold DS.write; rw [if_neg (by simp [hw]), dif_pos h512]
      obtain ⟨hdn, hi0, hi1⟩ := why_zero hw
      have HG : Hid (DGood { d with blocks := d.blocks.set i.toNat { (d.blocks.getD i.toNat default) with now := ⟨l, h512⟩ }, pending := d.pending ++ [⟨(i.toNat : Int), ⟨l, h512⟩⟩] }) := by
        refine ⟨by simpa using hG.b0, by simpa using hG.b1, by simp; omega, hG.f1, fun x hx => ?_, hG.fk⟩
        simp only [List.length_set]
        rcases List.mem_append.1 hx with h' | h'
        · exact hG.at_ x h'
        · simp only [List.mem_singleton] at h'
          subst h'
          exact ⟨by show (0 : Int) ≤ (i.toNat : Int); omega, by show ((i.toNat : Nat) : Int) < _; omega⟩
      have hx : ({ d with blocks := d.blocks.set i.toNat { (d.blocks.getD i.toNat default) with now := ⟨l, h512⟩ }, pending := d.pending ++ [⟨(i.toNat : Int), ⟨l, h512⟩⟩] } : DS).rx = { d.rx with pend := d.rx.pend ++ [(i, l)] } := by
        simp only [DS.rx, rx_set_now, List.map_append, List.map_cons, List.map_nil]
        rw [show ((i.toNat : Nat) : Int) = i from by omega]
      have HE : Hid (d.write i l = ({ d with blocks := d.blocks.set i.toNat { (d.blocks.getD i.toNat default) with now := ⟨l, h512⟩ }, pending := d.pending ++ [⟨(i.toNat : Int), ⟨l, h512⟩⟩] } : DS).strike) := hE
      rw [hw] at HW
      generalize hdd : ({ d with blocks := d.blocks.set i.toNat { (d.blocks.getD i.toNat default) with now := ⟨l, h512⟩ }, pending := d.pending ++ [⟨(i.toNat : Int), ⟨l, h512⟩⟩] } : DS) = dd at HG HE hx
      have hcd : dd.changes = d.changes := by rw [← hdd]
      have HX := Lib.hid hx
      have HCD := Lib.hid hcd
      have hplx : d.rx.pend.length < 1000000 := by simpa [DS.rx] using hpl
      have h512i : (l.length : Int) = 512 := by omega
      have H512 := Lib.hid h512
      clear hE hw hx hcd hdd h512i
      generalize hX : d.rx = x at HR HW HX hplx
      clear hX
      have hne : ((l.length : Int) != 512) = false := by rw [H512.out]; rfl
      go_enter Try.func35, Try.ntmps35
      go_upto_region 1 with (fail)
      generalize hW0 : ((World.alloc w (.cells _ _)).alloc (.cells _ _)) = W
      obtain ⟨ba0, bb0, hz0, hB0⟩ := fresh2 hW0
      clear hW0
      have HB := Lib.hid (And.intro ba0 (And.intro bb0 hB0))
      have hcc := ba0.c5
      have hWW := HW.out W hB0
      have HWW := Lib.hid hWW
      clear ba0 bb0 hB0 HW hWW
      go_wp2_with fail
      refine HWW.out.mono ?_
      rintro e w1 ⟨rfl, hb1⟩
      have H1 := Lib.hid (And.intro (HB.out.1.below hb1) (And.intro (HB.out.2.1.below hb1) (And.intro (HB.out.2.2.then hb1) (HR.out.below (HB.out.2.2.then hb1)))))
      have hcc1 := H1.out.1.c5
      clear hb1 HWW hcc
      go_upto_region 6 with (fail)
      obtain ⟨As', cs', Ap', cp', Af', cf', heq, -, hpr, -⟩ := H1.out.2.2.2
      simp only [List.cons.injEq, Value.slice.injEq, and_true, true_and] at heq
      obtain ⟨⟨-, -⟩, ⟨rfl, -⟩, -⟩ := heq
      have HPR := Lib.hid hpr.1
      clear hpr
      go_upto_region 7 with (first
        | (at_builtin; refine wpList_append_elems eRW rfl (.tmp 20) (.tmp 22) rfl 0 rfl ((fresh1 rfl).1.own eRW (B := w1.heap.size) [] rfl (by simp) (Nat.le_refl _)) rfl _ rfl (HPR.out.below (fresh1 rfl).2.2) rfl (by simp; omega) (by simp) ?_; intro A3 c3 w3 ho3 hb3 _ _; have H3 := Lib.hid (And.intro ho3 ((Below.alloc1 w1 _).trans hb3)); have hcc3 := (H1.out.1.below H3.out.2).c5; clear ho3 hb3 hcc1)
        | (at_builtin; refine wpList_append_elems eRW rfl (.tmp 23) (.tmp 27) rfl _ rfl (H3.out.1.below (fresh1 rfl).2.2) rfl _ rfl ((fresh1 rfl).1.row eRW [(i, l)] rfl (by simp [maxLen])) rfl (by simp; omega) (by have := H3.out.2.size; simp; omega) ?_; intro A4 c4 w4 ho4 hb4 _ _; have H4 := Lib.hid (And.intro ho4 (H3.out.2.trans (((Below.alloc1 w3 _).mono H3.out.2.size).trans hb4))); have hcc4 := (H1.out.1.below H4.out.2).c5; clear ho4 hb4 hcc3))
      have hX5 : RefX S (w4.setCell ⟨w.heap.size, 1, none⟩ (.slice A4 (x.pend.length + 1) c4)) [.slice As x.sure.length cs, .slice A4 (x.pend.length + 1) c4, .slice Af x.falls.length cf, .int .i64 (x.ch : Nat), .bool x.down] dd.rx := by
        obtain ⟨As2, cs2, Ap2, cp2, Af2, cf2, e2, q1, q2, q3⟩ := HR.out
        simp only [List.cons.injEq, Value.slice.injEq, and_true, true_and] at e2
        obtain ⟨⟨rfl, rfl⟩, -, ⟨rfl, rfl⟩⟩ := e2
        have hb4 : Below w.heap.size w (w4.setCell ⟨w.heap.size, 1, none⟩ (.slice A4 (x.pend.length + 1) c4)) := (H1.out.2.2.1.then H4.out.2).setCell (p := ⟨w.heap.size, 1, none⟩) (Nat.le_refl _) _
        rw [HX.out]
        refine ⟨As, cs, A4, c4, Af, cf, by simp, q1.below hb4, ?_, q3.below hb4⟩
        have h5 := H4.out.1.set ⟨w.heap.size, 1, none⟩ (fun a ha => by have := (H4.out.1.block a ha).1; have := H1.out.1.lt; simp only; omega) (.slice A4 (x.pend.length + 1) c4)
        exact RowX.own h5 (fun j hj => Nat.lt_of_lt_of_le (hS j hj) H1.out.2.2.1.size)
      have H5 : Hid (Blk (w4.setCell ⟨w.heap.size, 1, none⟩ (.slice A4 (x.pend.length + 1) c4)) w.heap.size 54 [.slice As x.sure.length cs, .slice A4 (x.pend.length + 1) c4, .slice Af x.falls.length cf, .int .i64 (x.ch : Nat), .bool x.down] ∧ Blk (w4.setCell ⟨w.heap.size, 1, none⟩ (.slice A4 (x.pend.length + 1) c4)) (w.heap.size + 1) 54 [.slice none 0 0, .slice none 0 0, .slice none 0 0, .int .i64 0, .bool false] ∧ Below w.heap.size w (w4.setCell ⟨w.heap.size, 1, none⟩ (.slice A4 (x.pend.length + 1) c4)) ∧
          RefX S (w4.setCell ⟨w.heap.size, 1, none⟩ (.slice A4 (x.pend.length + 1) c4)) [.slice As x.sure.length cs, .slice A4 (x.pend.length + 1) c4, .slice Af x.falls.length cf, .int .i64 (x.ch : Nat), .bool x.down] dd.rx) :=
        ⟨(H1.out.1.below H4.out.2).set1, (H1.out.2.1.below H4.out.2).other ⟨w.heap.size, 1, none⟩ (by simp) _, (H1.out.2.2.1.then H4.out.2).setCell (p := ⟨w.heap.size, 1, none⟩) (Nat.le_refl _) _, hX5⟩
      clear hX5 hcc4 H4 H3 HPR
      generalize (World.setCell w4 _ _) = W5 at H5 ⊢
      have hcc5 := H5.out.1.c5
      have HC := Lib.hid (refstrike_any S W5 (fun j hj => Nat.lt_of_lt_of_le (hS j hj) H5.out.2.2.1.size) dd _ H5.out.2.2.2 HG.out (by rw [HCD.out]; exact hch))
      go_wp2_with fail
      refine HC.out.mono ?_
      rintro e w7 ⟨c7, rfl, hx7, hb7⟩
      have HX7 := Lib.hid (And.intro (H5.out.2.1.below hb7) (And.intro (H5.out.2.2.1.then hb7) hx7))
      obtain ⟨As7, cs7, Ap7, cp7, Af7, cf7, rfl⟩ := hx7.open_
      have hcc7 := HX7.out.1.c5
      clear hcc5 hb7 HC hx7
      go_wp2_with fail
      refine ret_set5n HX7.out.1 rfl rfl rfl rfl rfl (fun W hW => load_rx hW) fun W2 hW hg => ?_
      rw [HE.out]
      exact ⟨_, rfl, HX7.out.2.2.keptG HX7.out.1 hg, below_of_grown HX7.out.2.1 hg (by omega) HX7.out.2.1.size⟩
    · have HE : Hid (d.write i l = (d, 1)) := by show _ = _; unfold DS.write; rw [if_neg (by simp [hw]), dif_neg h512]
      rw [hw] at HW
      have hne : ((l.length : Int) != 512) = true := by simp; omega
      generalize hX : d.rx = x at HR HW
      clear hw h512
      go_enter Try.func35, Try.ntmps35
      go_upto_region 1 with (fail)
      generalize hW0 : ((World.alloc w (.cells _ _)).alloc (.cells _ _)) = W
      obtain ⟨ba0, bb0, hz0, hB0⟩ := fresh2 hW0
      clear hW0
      have HB := Lib.hid (And.intro ba0 (And.intro bb0 hB0))
      have hcc := ba0.c5
      have hWW := HW.out W hB0
      have HWW := Lib.hid hWW
      clear ba0 bb0 hB0 HW hWW
      go_wp2_with fail
      refine HWW.out.mono ?_
      rintro e w1 ⟨rfl, hb1⟩
      have H1 := Lib.hid (And.intro (HB.out.2.1.below hb1) (And.intro (HB.out.2.2.then hb1) (HR.out.below (HB.out.2.2.then hb1))))
      have hcc1 := And.intro (HB.out.1.below hb1).c5 H1.out.1.c5
      clear hb1 HWW hcc
      go_wp2_with fail
      refine ret_set5n H1.out.1 rfl rfl rfl rfl rfl (fun W hW => load_rx hW) fun W2 hW hg => ?_
      rw [HE.out, hX]
      exact ⟨_, rfl, H1.out.2.2.keptG H1.out.1 hg, below_of_grown H1.out.2.1 hg (by omega) H1.out.2.1.size⟩
  · have HE : Hid (d.write i l = (d, d.why i)) := by show _ = _; unfold DS.write; rw [if_pos hw]
    have hne : (d.why i != 0) = true := by simpa using hw
    generalize d.why i = y at HW hne HE
    generalize hX : d.rx = x at HR HW
    clear hw
    go_enter Try.func35, Try.ntmps35
    go_upto_region 1 with (fail)
    generalize hW0 : ((World.alloc w (.cells _ _)).alloc (.cells _ _)) = W
    obtain ⟨ba0, bb0, hz0, hB0⟩ := fresh2 hW0
    clear hW0
    have HB := Lib.hid (And.intro ba0 (And.intro bb0 hB0))
    have hcc := ba0.c5
    have hWW := HW.out W hB0
    have HWW := Lib.hid hWW
    clear ba0 bb0 hB0 HW hWW
    go_wp2_with fail
    refine HWW.out.mono ?_
    rintro e w1 ⟨rfl, hb1⟩
    have H1 := Lib.hid (And.intro (HB.out.2.1.below hb1) (And.intro (HB.out.2.2.then hb1) (HR.out.below (HB.out.2.2.then hb1))))
    have hcc1 := And.intro (HB.out.1.below hb1).c5 H1.out.1.c5
    clear hb1 HWW hcc
    go_wp2_with fail
    refine ret_set5n H1.out.1 rfl rfl rfl rfl rfl (fun W hW => load_rx hW) fun W2 hW hg => ?_
    rw [HE.out, hX]
    exact ⟨_, rfl, H1.out.2.2.keptG H1.out.1 hg, below_of_grown H1.out.2.1 hg (by omega) H1.out.2.1.size⟩
end Go.Proofs.Ythbanhedjfpmaaa
end

section
/-
  The document's disk: Flush.
-/
namespace Go.Proofs.Ythbanhedjfpmaaa
set_option linter.unusedSimpArgs false
set_option linter.unusedVariables false
open Go.RowKit

theorem rx_settled (s : DS) : s.settled.rx = ⟨sureOf (sureAll s.pending s.blocks), [], s.falls, s.changes, s.down⟩ := rfl
theorem RefX.setSure {S : Nat → Prop} {w : World} {As A7 : Option Addr} {n cs c7 : Nat} {p f ch dn : Value} {x : RX} (h : RefX S w [.slice As n cs, p, f, ch, dn] x) {L : List (List UInt8)} (hL : L.length = n) (hr : RowX S eStr w A7 L) : RefX S w [.slice A7 n c7, p, f, ch, dn] { x with sure := L } := by
  obtain ⟨As', cs', Ap, cp, Af, cf, e, h2, h3, h4⟩ := h
  simp only [List.cons.injEq, and_true] at e
  obtain ⟨-, rfl, rfl, rfl, rfl⟩ := e
  exact ⟨A7, c7, Ap, cp, Af, cf, by simp [hL], hr, h3, h4⟩
theorem RefX.rows {S : Nat → Prop} {w : World} {As Ap Af : Option Addr} {n m k cs cp cf : Nat} {ch dn : Value} {x : RX} (h : RefX S w [.slice As n cs, .slice Ap m cp, .slice Af k cf, ch, dn] x) : RowX S eStr w As x.sure ∧ RowX S eRW w Ap x.pend ∧ RowX S eDF w Af x.falls ∧ n = x.sure.length ∧ m = x.pend.length ∧ k = x.falls.length := by
  obtain ⟨As', cs', Ap', cp', Af', cf', e, h2, h3, h4⟩ := h
  simp only [List.cons.injEq, Value.slice.injEq, and_true] at e
  obtain ⟨⟨rfl, rfl, rfl⟩, ⟨rfl, rfl, rfl⟩, ⟨rfl, rfl, rfl⟩, rfl, rfl⟩ := e
  exact ⟨h2, h3, h4, rfl, rfl, rfl⟩
set_option maxRecDepth 20000 in
set_option maxHeartbeats 2000000 in
theorem refflush_any (S : Nat → Prop) (w : World) (hS : ∀ i, S i → i < w.heap.size) (d : DS) (c : List Value) (h : RefX S w c d.rx) (hG : DGood d) (hch : d.changes < 1000000000) :
    Calls Try.prog 54 #[.agg c.toArray] w (RetXN S w (d.flush.1.rx, d.flush.2)) := by
  have HR := Lib.hid h
  obtain ⟨As, cs, Ap, cp, Af, cf, rfl⟩ := h.open_
  clear h
  cases hd : d.down with
  | true =>
    have HE : Hid (d.flush = (d, 6)) := by show _ = _; unfold DS.flush; rw [if_pos hd]
    have hdx : d.rx.down = true := hd
    rw [hdx] at HR ⊢
    generalize hX : d.rx = x at HR
    clear hd hdx
    go_enter Try.func54, Try.ntmps54
    go_upto_region 1 with (fail)
    generalize hW0 : ((World.alloc w (.cells _ _)).alloc (.cells _ _)) = W
    obtain ⟨ba0, bb0, hz0, hB0⟩ := fresh2 hW0
    clear hW0
    have HB := Lib.hid (And.intro ba0 (And.intro bb0 hB0))
    have hcc := And.intro ba0.c5 bb0.c5
    clear ba0 bb0 hB0
    go_wp2_with fail
    refine ret_set5n HB.out.2.1 rfl rfl rfl rfl rfl (fun W hW => load_rx hW) fun W2 hW hg => ?_
    rw [HE.out, hX]
    exact ⟨_, rfl, (HR.out.below HB.out.2.2).keptG HB.out.2.1 hg, below_of_grown HB.out.2.2 hg (by omega) HB.out.2.2.size⟩
  | false =>
    have HF : Hid (d.flush = if d.strike.2 ≠ 0 then d.strike else (d.strike.1.settled, 0)) := by show _ = _; unfold DS.flush; rw [if_neg (by simp [hd])]
    have HG := Lib.hid hG.strike
    have HST : Hid (∀ w' : World, Below w.heap.size w w' → Calls Try.prog 60 #[.agg #[.slice As d.rx.sure.length cs, .slice Ap d.rx.pend.length cp, .slice Af d.rx.falls.length cf, .int .i64 (d.rx.ch : Nat), .bool d.rx.down]] w' (RetXN S w' (d.strike.1.rx, d.strike.2))) := fun w' hb => refstrike_any S w' (fun j hj => Nat.lt_of_lt_of_le (hS j hj) hb.size) d _ (HR.out.below hb) hG hch
    have hdx : d.rx.down = false := hd
    rw [hdx] at HR HST ⊢
    generalize d.flush = fl at HF
    generalize d.strike = s at HF HG HST
    obtain ⟨s, ev⟩ := s
    simp only at HF HG HST
    generalize d.rx = x at HR HST
    clear hd hdx hG hch
    go_enter Try.func54, Try.ntmps54
    go_upto_region 1 with (fail)
    generalize hW0 : ((World.alloc w (.cells _ _)).alloc (.cells _ _)) = W
    obtain ⟨ba0, bb0, hz0, hB0⟩ := fresh2 hW0
    clear hW0
    have HB := Lib.hid (And.intro ba0 (And.intro bb0 hB0))
    have hcc := And.intro ba0.c5 bb0.c5
    have HC := Lib.hid (HST.out W hB0)
    clear ba0 bb0 hB0 HST
    go_wp2_with fail
    refine HC.out.mono ?_
    rintro e w2 ⟨c2, rfl, hx2, hb2⟩
    have H2 := Lib.hid (And.intro (HB.out.2.1.below hb2) (And.intro (HB.out.2.2.then hb2) hx2))
    obtain ⟨As2, cs2, Ap2, cp2, Af2, cf2, rfl⟩ := hx2.open_
    clear hcc hb2 HC hx2 HB
    go_upto_region 4 with (fail)
    generalize hW3 : World.alloc w2 (.cells _ _) = W3
    obtain ⟨ba3, hz3, hB3⟩ := fresh1 hW3
    clear hW3
    have H3 := Lib.hid (And.intro (H2.out.1.below hB3) (And.intro (H2.out.2.1.then hB3) (And.intro ba3 (H2.out.2.2.below hB3))))
    have hz2 := H2.out.1.lt
    clear ba3 hB3 H2
    by_cases hev : ev = 0
    · subst hev
      have HFE : Hid (fl = (s.settled, 0)) := by show _ = _; rw [HF.out, if_neg (by simp)]
      have hp1 := HG.out.p1
      have hb1 := HG.out.b1
      obtain ⟨G, hG⟩ : ∃ G, G = w2.heap.size := ⟨_, rfl⟩
      rw [← hG] at H3 hz2 ⊢
      have hsl : s.rx.sure.length = s.blocks.length := by simp [DS.rx]
      have hpl : s.rx.pend.length = s.pending.length := by simp [DS.rx]
      rw [hsl, hpl] at H3
      have HE0 : Hid ({ s.rx with sure := sureOf (sureAll (s.pending.take 0) s.blocks) } = s.rx) := rfl
      have HSX : Hid (s.falls = s.rx.falls ∧ s.changes = s.rx.ch ∧ s.down = s.rx.down) := ⟨rfl, rfl, rfl⟩
      have HPX : Hid (s.rx.pend = s.pending.map fun x => (x.at_, x.b.l)) := rfl
      rw [hsl, hpl]
      clear hsl hpl hG hz3 HF
      generalize s.rx = sx at H3 HE0 HPX HSX ⊢
      go_wp2_with fail
      go_loopw [6] (fun iv wr => ∃ i : Nat, i ≤ s.pending.length ∧ iv = .int .i64 i ∧ ∃ As cs, Hid (Blk wr (w.heap.size + 1) 54 [.slice none 0 0, .slice none 0 0, .slice none 0 0, .int .i64 0, .bool false] ∧ Below w.heap.size w wr ∧ Blk wr G 54 [.slice As s.blocks.length cs, .slice Ap2 s.pending.length cp2, .slice Af2 sx.falls.length cf2, .int .i64 (sx.ch : Nat), .bool sx.down] ∧
        RefX S wr [.slice As s.blocks.length cs, .slice Ap2 s.pending.length cp2, .slice Af2 sx.falls.length cf2, .int .i64 (sx.ch : Nat), .bool sx.down] { sx with sure := sureOf (sureAll (s.pending.take i) s.blocks) })) (fun iv _ => s.pending.length - (intOf iv).toNat)
      case atStart => exact ⟨0, by omega, rfl, As2, cs2, by rw [HE0.out]; exact H3.out⟩
      case round =>
        obtain ⟨i, hi, rfl, As, cs, HJ⟩ := hrel
        clear H3
        have hcc := HJ.out.2.2.1.c5
        obtain ⟨q1, q2, q3, -, -, -⟩ := HJ.out.2.2.2.rows
        by_cases hlt : i < s.pending.length
        · have hii : (i : Int) < (s.pending.length : Int) := by omega
          rw [show ({ sx with sure := sureOf (sureAll (s.pending.take i) s.blocks) } : RX).pend = s.pending.map fun x => (x.at_, x.b.l) from HPX.out] at q2
          obtain ⟨bp, op, rfl, hbp, hc1, hc2⟩ := rw_at q2.1 (i := i) (by simpa using hlt)
          simp only [List.getElem_map] at hc1 hc2
          have hat := HG.out.at_ s.pending[i] (List.getElem_mem hlt)
          have HTK := Lib.hid (sureAll_take s.pending i s.blocks hlt)
          have hLlen : (sureAll (s.pending.take i) s.blocks).length = s.blocks.length := sureAll_length ..
          generalize s.pending[i] = p at hc1 hc2 hat HTK
          obtain ⟨pat, pb⟩ := p
          simp only at hat hc1 hc2
          obtain ⟨m, rfl⟩ : ∃ m : Nat, pat = (m : Int) := ⟨pat.toNat, by omega⟩
          have HTK2 : Hid (sureOf (sureAll (s.pending.take (i + 1)) s.blocks) = (sureOf (sureAll (s.pending.take i) s.blocks)).set m pb.l) := by
            show _ = _
            rw [HTK.out, Int.toNat_natCast, sureOf_set]
          generalize sureAll (s.pending.take i) s.blocks = Li at HJ HTK2 hLlen q1
          have hlen : (sureOf Li).length = s.blocks.length := by unfold sureOf; rw [List.length_map, hLlen]
          have hcw := with_any wr.drew As cs (sureOf Li) (m : Int) pb.l (q1.below (below_drew wr)).1 (by omega) (by omega) (by omega)
          rw [hlen] at hcw
          have HCW := Lib.hid hcw
          have HLN := Lib.hid hlen
          clear hcw hlen q1 q2 q3 HTK
          go_wp2_with fail
          refine wp_region_plan (.take 0 (.take 1 (.take 2 (.take 3 (.take 4 (.take 5 (.take 6 (.take 7 (.take 8 (.take 9 (.take 10 (.take 11 (.take 12 (.take 13 (.run 14 [] (.take 15 (.run 16 [] .fin))))))))))))))))) (by kernel_rfl) (by kernel_rfl) (by kernel_rfl) (by kernel_rfl) ?_
          simp only [walk, again, sel, List.getElem?_toArray, List.getElem?_cons_zero, List.getElem?_cons_succ]
          repeat ((with_reducible intro Z hZ); go_wp2_with (fail))
          refine HCW.out.mono ?_
          rintro e w7 ⟨A7, c7, rfl, ho7, hb7⟩
          rw [List.length_set, HLN.out]
          have hb := (below_drew wr).trans hb7
          have H7 := Lib.hid (And.intro (HJ.out.1.below hb) (And.intro (HJ.out.2.1.then hb) (And.intro (HJ.out.2.2.1.below hb) ((HJ.out.2.2.2.below hb).setSure (c7 := c7) (L := (sureOf Li).set m pb.l) (by rw [List.length_set, HLN.out]) (RowX.own ho7 (fun j hj => Nat.lt_of_lt_of_le (hS j hj) HJ.out.2.1.size))))))
          have hcc7 := H7.out.2.2.1.c5
          clear ho7 hb7 hb HCW hcc hc1 hc2
          go_wp2_with fail
          repeat ((with_reducible intro Z hZ); go_wp2_with (fail))
          go_roundw
          case rel =>
            obtain ⟨g1, g2, g3, g4⟩ := H7.out
            refine ⟨i + 1, by omega, by go_num, A7, c7, g1.other ⟨G, 0, none⟩ (by simp; omega) _, g2.setCell (p := ⟨G, 0, none⟩) (by simp only; omega) _, g3.set0, ?_⟩
            rw [HTK2.out]
            exact g4.keptG g3 (grown_store _ _ _ _)
          case measure => simp [intOf]; omega
        · obtain rfl : i = s.pending.length := by omega
          have hii : ¬ (s.pending.length : Int) < (s.pending.length : Int) := by omega
          have hcr := HJ.out.1.c5
          clear q1 q2 q3
          have H8 : Hid (Blk (wr.setCell ⟨G, 1, none⟩ (.slice none 0 0)) (w.heap.size + 1) 54 [.slice none 0 0, .slice none 0 0, .slice none 0 0, .int .i64 0, .bool false] ∧ Below w.heap.size w (wr.setCell ⟨G, 1, none⟩ (.slice none 0 0)) ∧ Blk (wr.setCell ⟨G, 1, none⟩ (.slice none 0 0)) G 54 [.slice As s.blocks.length cs, .slice none 0 0, .slice Af2 sx.falls.length cf2, .int .i64 (sx.ch : Nat), .bool sx.down] ∧
              RefX S (wr.setCell ⟨G, 1, none⟩ (.slice none 0 0)) [.slice As s.blocks.length cs, .slice none 0 0, .slice Af2 sx.falls.length cf2, .int .i64 (sx.ch : Nat), .bool sx.down] ⟨sureOf (sureAll s.pending s.blocks), [], sx.falls, sx.ch, sx.down⟩) := by
            obtain ⟨g1, g2, g3, g4⟩ := HJ.out
            rw [List.take_length] at g4
            refine ⟨g1.other ⟨G, 1, none⟩ (by simp; omega) _, g2.setCell (p := ⟨G, 1, none⟩) (by simp only; omega) _, g3.set1, ?_⟩
            obtain ⟨r1, r2, r3, e1, e2, e3⟩ := (g4.keptG g3 (grown_store wr G 1 (.slice none 0 0))).rows
            exact ⟨As, cs, none, 0, Af2, cf2, by rw [e1]; rfl, r1, RowX.nil, r3⟩
          go_upto_region 11 with (fail)
          generalize (World.setCell wr _ _) = W8 at H8 ⊢
          have hcc8 := And.intro H8.out.2.2.1.c5 H8.out.1.c5
          clear hcc hcr HJ
          go_wp2_with fail
          refine ret_set5n H8.out.1 rfl rfl rfl rfl rfl (fun W hW => load_rx hW) fun W2 hW hg => ?_
          rw [HFE.out]
          show RetXN S w (s.settled.rx, 0) _ _
          rw [rx_settled, HSX.out.1, HSX.out.2.1, HSX.out.2.2]
          exact ⟨_, rfl, H8.out.2.2.2.keptG H8.out.1 hg, below_of_grown H8.out.2.1 hg (by omega) H8.out.2.1.size⟩
    · have HFE : Hid (fl = (s, ev)) := by show _ = _; rw [HF.out, if_pos hev]
      have hne : (ev != 0) = true := by simpa using hev
      generalize hX : s.rx = sx at H3
      have hcc := And.intro H3.out.2.2.1.c5 H3.out.1.c5
      clear hev HF
      go_wp2_with fail
      refine ret_set5n H3.out.1 rfl rfl rfl rfl rfl (fun W hW => load_rx hW) fun W2 hW hg => ?_
      rw [HFE.out]
      show RetXN S w (s.rx, ev) _ _
      rw [hX]
      exact ⟨_, rfl, H3.out.2.2.2.keptG H3.out.1 hg, below_of_grown H3.out.2.1 hg (by omega) H3.out.2.1.size⟩
end Go.Proofs.Ythbanhedjfpmaaa
end

section
/-
  DiskPlays: what holds of a disk and the document's between two things that are done.
-/
namespace Go.Proofs.Ythbanhedjfpmaaa
set_option linter.unusedSimpArgs false
set_option linter.unusedVariables false
open Go.RowKit

/-- What is now there is the last of the writes, or what is sure. -/
def NowOk (d : DS) : Prop := ∀ i (h : i < d.blocks.length), d.blocks[i].now.l = lastW i d.blocks[i].sure.l d.pending
theorem lastW_snoc (i : Nat) (s : List UInt8) (ws : List DW) (x : DW) : lastW i s (ws ++ [x]) = if x.at_ = (i : Int) then x.b.l else lastW i s ws := by
  unfold lastW; rw [List.foldl_append]; rfl
theorem NowOk.crash {d : DS} (h : NowOk d) (f : DF) : NowOk (d.crash f) := by
  unfold DS.crash
  split
  · exact h
  · intro i hi
    simp only [List.getElem_map]
    rfl
theorem NowOk.tick {d : DS} (h : NowOk d) (n : Nat) : NowOk { d with changes := n } := h
theorem NowOk.strike {d : DS} (h : NowOk d) : NowOk d.strike.1 := by
  unfold DS.strike
  split
  · exact (h.tick _).crash _
  · exact h.tick _
theorem NowOk.write {d : DS} (h : NowOk d) (i : Int) (l : List UInt8) : NowOk (d.write i l).1 := by
  unfold DS.write
  split
  · exact h
  · rename_i hw
    split
    · rename_i hl
      unfold DS.put
      refine NowOk.strike ?_
      obtain ⟨-, h0, h1⟩ := why_zero (Classical.not_not.1 hw)
      intro j hj
      simp only [List.length_set] at hj
      rw [lastW_snoc]
      have hlt : i.toNat < d.blocks.length := by omega
      by_cases e : i.toNat = j
      · subst e
        simp [hlt]
      · simp only [List.getElem_set_ne e]
        rw [if_neg (by simp; omega)]
        exact h j hj
    · exact h
theorem sureAll_last : ∀ (ws : List DW) (L : List DB) (i : Nat) (h : i < L.length), (∀ x ∈ ws, 0 ≤ x.at_) → ((sureAll ws L)[i]'(by rw [sureAll_length]; exact h)).sure.l = lastW i L[i].sure.l ws
  | [], _, _, _, _ => rfl
  | x :: ws, L, i, h, hp => by
    have hx := hp x (by simp)
    simp only [sureAll]
    rw [sureAll_last ws _ i (by simpa using h) (fun y hy => hp y (by simp [hy]))]
    unfold lastW
    rw [List.foldl_cons]
    congr 1
    by_cases e : x.at_.toNat = i
    · subst e
      rw [if_pos (by omega)]
      simp
    · rw [if_neg (by omega)]
      simp [List.getElem_set_ne e]
theorem NowOk.settled {d : DS} (h : NowOk d) (hG : DGood d) : NowOk d.settled := by
  intro i hi
  have hi' : i < d.blocks.length := by simpa [DS.settled, sureAll_length] using hi
  have h1 := sureAll_last d.pending d.blocks i hi' (fun x hx => (hG.at_ x hx).1)
  have h2 := sureAll_now d.pending d.blocks i
  have hl : i < (sureAll d.pending d.blocks).length := by rw [sureAll_length]; exact hi'
  simp only [List.getD_eq_getElem?_getD, List.getElem?_eq_getElem hl, List.getElem?_eq_getElem hi', Option.getD_some] at h2
  show ((sureAll d.pending d.blocks)[i]'hl).now.l = ((sureAll d.pending d.blocks)[i]'hl).sure.l
  rw [h1, h2]
  exact h i hi'
theorem NowOk.flush {d : DS} (h : NowOk d) (hG : DGood d) : NowOk d.flush.1 := by
  unfold DS.flush
  split
  · exact h
  · split
    · exact h.strike
    · exact h.strike.settled hG.strike
theorem NowOk.fresh (n : Nat) : NowOk (DS.new n) := by
  intro i hi
  have e : (DS.new n).blocks[i] = ⟨B512.zero, B512.zero⟩ := by simp [DS.new]
  rw [e]
  rfl
theorem write_length (d : DS) (i : Int) (l : List UInt8) : (d.write i l).1.blocks.length = d.blocks.length := by
  have hs : ∀ d : DS, d.strike.1.blocks.length = d.blocks.length := fun d => by
    unfold DS.strike
    split
    · rw [crash_length]
    · rfl
  unfold DS.write
  split
  · rfl
  · split
    · unfold DS.put; rw [hs]; simp
    · rfl
theorem flush_length (d : DS) : d.flush.1.blocks.length = d.blocks.length := by
  have hs : d.strike.1.blocks.length = d.blocks.length := by
    unfold DS.strike
    split
    · rw [crash_length]
    · rfl
  unfold DS.flush
  split
  · rfl
  · split
    · exact hs
    · rw [show d.strike.1.settled.blocks = sureAll d.strike.1.pending d.strike.1.blocks from rfl, sureAll_length]; exact hs

section
variable {S : Nat → Prop} {w0 w w' : World} {B : Nat} {k : KB} {d : DS} {n g : Nat} {c : List Value} {x : RX}
theorem RefX.kept (h : RefX S w c x) (hk : Keeps w w' S) : RefX S w' c x := by
  obtain ⟨As, cs, Ap, cp, Af, cf, h1, h2, h3, h4⟩ := h
  exact ⟨As, cs, Ap, cp, Af, cf, h1, h2.kept hk, h3.kept hk, h4.kept hk⟩
theorem RefX.setByte (h : RefX S w c x) {p : Addr} {m : Int} {u : Value} (hc : w.cell? p = some (.int .u8 m)) : RefX S (w.setCell p u) c x := by
  obtain ⟨As, cs, Ap, cp, Af, cf, h1, h2, h3, h4⟩ := h
  exact ⟨As, cs, Ap, cp, Af, cf, h1, h2.setCellV hc (fun x => by simp [eStr, txt]), h3.setCellV hc (fun x => by simp [eRW, txt]), h4.setCellV hc (fun x => by simp [eDF])⟩
/-- A block of another kind turns. -/
theorem EOwn.otherK {α : Type} {E : Elem α} {c : Nat} {A : Option Addr} {L : List α} {T : TypeId} (h : EOwn E w B A c L) (hk : ∃ cur, w.heap[g]? = some (.cells cur T (0, 0))) (hne : T ≠ E.e) (hg : w.grownBy w' (some g)) : EOwn E w' B A c L :=
  h.keep fun a ha => by
    obtain ⟨cur, hk2⟩ := h.kind a ha
    obtain ⟨cur', hk⟩ := hk
    refine hg.block _ (h.block a ha).2 ?_
    simp only [ne_eq, Option.some.injEq]
    rintro rfl
    rw [hk] at hk2
    simp only [Option.some.injEq, Obj.cells.injEq] at hk2
    exact hne hk2.2.1
theorem Blk.otherK {T T' : TypeId} {cs : List Value} {g' : Nat} (h : Blk w g' T' cs) (hk : ∃ cur, w.heap[g]? = some (.cells cur T (0, 0))) (hne : T ≠ T') (hg : w.grownBy w' (some g)) : Blk w' g' T' cs := by
  obtain ⟨cur', hk⟩ := hk
  refine h.grown hg ?_
  simp only [ne_eq, Option.some.injEq]
  rintro rfl
  unfold Blk at h
  rw [hk] at h
  simp only [Option.some.injEq, Obj.cells.injEq] at h
  exact hne h.2.1
theorem DiskAt.otherK {T : TypeId} (h : DiskAt w B k d) (hk : ∃ cur, w.heap[g]? = some (.cells cur T (0, 0))) (hT : notDisk T) (hg : w.grownBy w' (some g)) : DiskAt w' B k d := by
  obtain ⟨t1, t2, t3, t4⟩ := hT
  obtain ⟨⟨cb, np, cp, nf, cf, Ap, Af, h1, h2, h3, h4, h5, h6, h7, h8, h9, h10, h11⟩, lo⟩ := h
  exact ⟨⟨cb, np, cp, nf, cf, Ap, Af, h1, h2, h3, h4, h5, h6.otherK hk t1 hg, h7.otherK hk t2 hg, h8.otherK hk t3 hg, h9.otherK hk t4 hg, h10, h11⟩, lo⟩
theorem DL.otherK {T : TypeId} (h : DL w0 w k d n) (hk : ∃ cur, w.heap[g]? = some (.cells cur T (0, 0))) (hT : notDisk T) (hg : w.grownBy w' (some g)) (hlo : w0.heap.size ≤ g) : DL w0 w' k d n :=
  ⟨h.at_.otherK hk hT hg, h.good, h.ch, h.pe, (Keeps.of_grown hg).below h.bel h.bel.size (fun i hi => by subst hi; exact hlo)⟩
theorem BOwn.kind {c : Nat} {A : Option Addr} {l : List UInt8} (h : BOwn w B A c l) : ∀ a, A = some a → ∃ cur, w.heap[a.block]? = some (.cells cur 5 (0, 0)) := by
  intro a ha
  rcases h.2 with ⟨hv, h0⟩ | ⟨g, cap, cur, hv, hb, hg, hn, hm, _⟩
  · simp only [Value.slice.injEq] at hv
    rw [ha] at hv
    cases hv.1
  · simp only [Value.slice.injEq] at hv
    rw [ha] at hv
    obtain rfl := Option.some.inj hv.1
    exact ⟨_, hg⟩
end
theorem nd_u8 : notDisk 5 := by refine ⟨?_, ?_, ?_, ?_⟩ <;> decide
/-- Behind one thing that was done. -/
def PlayOk (w0 w : World) (k : KB) (d : DS) (n : Nat) (e : Ending) (w' : World) : Prop := ∃ d' c', e = .returned (.tuple #[.agg c'.toArray, .bool true]) ∧ DL w0 w' k d' (n + 1) ∧ Keeps w w' k.own ∧ RefX k.own w' c' d'.rx ∧ NowOk d' ∧ d'.blocks.length = d.blocks.length
set_option maxHeartbeats 1000000 in
theorem plan_apart (w : World) (B : Nat) (k : KB) (d : DS) (h : DiskAt w B k d) (A : Option Addr) (c : Nat) (L : List DF) (hr : ERow eDF w A L) (hl : L.length ≤ 1000000) :
    Calls Try.prog 24 #[.pointer (some ⟨k.gd, 0, none⟩), .slice A L.length c] w fun e w' => e = .returned (.tuple #[]) ∧ w.grownBy w' (some k.gd) ∧ DiskAt w' B k { d with falls := L } ∧
      ∀ g, g < w.heap.size → (∃ cur, w'.heap[g]? = some (.cells cur eDF.e (0, 0))) → ∀ W', w'.grownBy W' (some g) → DiskAt W' B k { d with falls := L } := by
  have HC := Lib.hid (clonef_any w A c L hr hl)
  have HH := Lib.hid h
  obtain ⟨hne, hlt, hlt2, hB⟩ := h.head
  clear h hr
  go_enter Try.func24, Try.ntmps24
  go_wp2_with fail
  refine HC.out.mono ?_
  intro e w1 hI
  obtain ⟨A1, c1, rfl, ho1, hb1⟩ := hI
  obtain ⟨⟨cb, np, cp, nf, cf, Ap, Af, rfl, rfl, h3, h4, h5, h6, h7, h8, h9, h10, h11⟩, lo⟩ := HH.out.below hb1
  have hc := h6.c5
  have HS := Lib.hid (And.intro h6 (And.intro h7 (And.intro h8 (And.intro ho1 hb1))))
  clear h6 h7 h8 h9 ho1 hb1
  go_wp2_with fail
  obtain ⟨h6, h7, h8, ho1, hb1⟩ := HS.out
  go_end0
  have k6 := h6.set 2 (.slice A1 L.length c1)
  have k7 := h7.set ⟨k.gd, 2, none⟩ (fun a ha => by obtain rfl := Option.some.inj ha; exact fun e => hne e.symm) (.slice A1 L.length c1)
  have k8 := h8.keep2 (w' := w1.setCell ⟨k.gd, 2, none⟩ (.slice A1 L.length c1)) (by simp) (fun a ha _ => heap_setCell_other w1 ⟨k.gd, 2, none⟩ _ _ (fun e => h10 a ha (.inl e)))
  have k9 := ho1.keep2 (w' := w1.setCell ⟨k.gd, 2, none⟩ (.slice A1 L.length c1)) (by simp) (fun a ha _ => heap_setCell_other w1 ⟨k.gd, 2, none⟩ _ _ (fun e => by have h := (ho1.block a ha).1; rw [e] at h; simp only at h; omega))
  have kA : ∀ a, A1 = some a → ¬ k.own a.block := by
    intro a ha ho
    have h := (ho1.block a ha).1
    rcases ho with e | e <;> omega
  refine ⟨rfl, (grown_of_below hb1 _).set_ ⟨k.gd, 2, none⟩ rfl _, ⟨⟨cb, _, cp, _, c1, Ap, A1, rfl, rfl, h3, h4, h5, k6, k7, k8, k9.mono (by omega), h10, kA⟩, lo⟩, fun g hg hk W' hgW => ?_⟩
  refine ⟨⟨cb, _, cp, _, c1, Ap, A1, rfl, rfl, h3, h4, h5, k6.otherK hk (by decide) hgW, k7.otherK hk (by decide) hgW, k8.otherK hk (by decide) hgW, ?_, h10, kA⟩, lo⟩
  refine (k9.keep fun a ha => hgW.block _ (k9.block a ha).2 ?_).mono (by omega)
  simp only [ne_eq, Option.some.injEq]
  intro e
  have := (k9.block a ha).1
  omega
end Go.Proofs.Ythbanhedjfpmaaa
end

section
/-
  The journal, plain, where no fall is planned: what stays true from call to call.
-/
namespace Go.Proofs.Ythbanhedjfpmaaa
set_option linter.unusedSimpArgs false
set_option linter.unusedVariables false
open Go.RowKit

/-- A disk of N blocks that is up, for which no fall is planned. -/
structure Still (d : DS) (N : Nat) : Prop where
  falls : d.falls = []
  down : d.down = false
  len : d.blocks.length = N
theorem Still.block_write {d : DS} {N : Nat} (h : Still d N) {m : Nat} (hm : m < N) {l : List UInt8} (hl : l.length = 512) (i : Nat) :
    (d.write (m : Int) l).1.block i = if i = m then l else d.block i := by
  have hm' : m < d.blocks.length := by rw [h.len]; exact hm
  rw [write_plain h.falls h.down hm' hl]
  unfold DS.block
  by_cases e : i = m
  · subst e; simp [hm']
  · rw [if_neg e]; simp [List.getElem?_set_ne (fun h => e h.symm)]
theorem Still.write {d : DS} {N : Nat} (h : Still d N) {m : Nat} (hm : m < N) {l : List UInt8} (hl : l.length = 512) :
    (d.write (m : Int) l).2 = 0 ∧ Still (d.write (m : Int) l).1 N ∧ (d.write (m : Int) l).1.changes = d.changes + 1 := by
  rw [write_plain h.falls h.down (by rw [h.len]; exact hm) hl]
  exact ⟨rfl, ⟨h.falls, h.down, by simp [h.len]⟩, rfl⟩
theorem Still.flush {d : DS} {N : Nat} (h : Still d N) :
    d.flush.2 = 0 ∧ Still d.flush.1 N ∧ d.flush.1.changes = d.changes + 1 ∧ d.flush.1.pending = [] ∧ ∀ i, d.flush.1.block i = d.block i := by
  rw [flush_plain h.falls h.down]
  exact ⟨rfl, ⟨h.falls, h.down, by simp [DS.settled, sureAll_length, h.len]⟩, rfl, rfl, fun i => congrArg B512.l (sureAll_now _ _ i)⟩
theorem Still.head {d : DS} {N : Nat} (h : Still d N) {at_ : Nat} (hN : at_ + 2 ≤ N) (seq n : Nat) :
    (d.head at_ seq n).2 = 0 ∧ Still (d.head at_ seq n).1 N ∧ (d.head at_ seq n).1.changes = d.changes + 2 ∧ (d.head at_ seq n).1.pending = [] ∧ ∀ i, (d.head at_ seq n).1.block i = if i = at_ + seq % 2 then Wal.headL seq n else d.block i := by
  have hm : at_ + seq % 2 < N := by have := Nat.mod_lt seq (by decide : 0 < 2); omega
  have h1 := h.write hm (Wal.headL_length seq n)
  have h2 := h.block_write hm (Wal.headL_length seq n)
  have h3 := h1.2.1.flush
  have e : d.head at_ seq n = (d.write ((at_ + seq % 2 : Nat) : Int) (Wal.headL seq n)).1.flush := by
    unfold DS.head
    rw [if_neg (by rw [h1.1]; simp)]
  rw [e]
  exact ⟨h3.1, h3.2.1, by rw [h3.2.2.1, h1.2.2], h3.2.2.2.1, fun i => by rw [h3.2.2.2.2, h2]⟩
theorem lay_nought (at_ : Nat) (all : List UInt8) (i : Nat) (d : DS) : DS.lay at_ all 0 i d = (d, 0) := by rw [DS.lay]
theorem lay_done (at_ : Nat) (all : List UInt8) (f i : Nat) (d : DS) (h : all.length ≤ i * 512) : DS.lay at_ all f i d = (d, 0) := by
  cases f with
  | zero => exact lay_nought _ _ _ _
  | succ f => rw [DS.lay, if_pos h]
theorem lay_step (at_ : Nat) (all : List UInt8) (f i : Nat) (d : DS) (h : i * 512 < all.length) : DS.lay at_ all (f + 1) i d =
    if (d.write ((at_ + 2 + i : Nat) : Int) (padB all i)).2 ≠ 0 then d.write ((at_ + 2 + i : Nat) : Int) (padB all i) else DS.lay at_ all f (i + 1) (d.write ((at_ + 2 + i : Nat) : Int) (padB all i)).1 := by
  rw [DS.lay, if_neg (by omega)]
/-- The blocks that an Add writes. -/
theorem Still.lay {at_ N : Nat} {all : List UInt8} (hN : at_ + 2 + (all.length + 511) / 512 ≤ N) (f : Nat) : ∀ (i : Nat) (d : DS), Still d N → all.length ≤ (f + i) * 512 →
    (DS.lay at_ all f i d).2 = 0 ∧ Still (DS.lay at_ all f i d).1 N ∧ ∀ j, (DS.lay at_ all f i d).1.block j = if at_ + 2 + i ≤ j ∧ (j - (at_ + 2)) * 512 < all.length then padB all (j - (at_ + 2)) else d.block j := by
  induction f with
  | zero =>
    intro i d h hf
    rw [lay_nought]
    exact ⟨rfl, h, fun j => (if_neg (fun h2 => by have h3 := h2.1; have h4 := h2.2; clear h2 h hN; rw [Nat.zero_add] at hf; omega)).symm⟩
  | succ f ih =>
    intro i d h hf
    by_cases hl : all.length ≤ i * 512
    · rw [lay_done _ _ _ _ _ hl]
      exact ⟨rfl, h, fun j => by rw [if_neg (by omega)]⟩
    · have hm : at_ + 2 + i < N := by omega
      have hf2 : all.length ≤ (f + (i + 1)) * 512 := by rw [show f + (i + 1) = f + 1 + i from by rw [Nat.add_assoc, Nat.add_comm 1 i]]; exact hf
      have h1 := h.write hm (padB_length all i)
      have h2 := h.block_write hm (padB_length all i)
      rw [lay_step _ _ _ _ _ (by omega), if_neg (by rw [h1.1]; simp)]
      obtain ⟨g1, g2, g3⟩ := ih (i + 1) _ h1.2.1 hf2
      refine ⟨g1, g2, fun j => ?_⟩
      rw [g3, h2]
      by_cases e : j = at_ + 2 + i
      · subst e
        rw [if_neg (by omega), if_pos rfl, if_pos (by omega)]
        congr 1
        omega
      · rw [if_neg e]
        by_cases e2 : at_ + 2 + (i + 1) ≤ j ∧ (j - (at_ + 2)) * 512 < all.length
        · rw [if_pos e2, if_pos (by omega)]
        · rw [if_neg e2, if_neg (by omega)]
/-- A block has the bytes number i * 512 and on of all. -/
def Agrees (all : List UInt8) (i : Nat) (b : List UInt8) : Prop := ∀ j, j < 512 → i * 512 + j < all.length → b[j]? = all[i * 512 + j]?
theorem agrees_pad (all : List UInt8) (i : Nat) : Agrees all i (padB all i) := by
  intro j hj hl
  unfold padB
  rw [List.getElem?_append_left (by simp; omega), List.getElem?_take_of_lt hj, List.getElem?_drop]
theorem Agrees.front {data more b : List UInt8} {i : Nat} (h : Agrees (data ++ more) i b) : Agrees data i b := by
  intro j hj hl
  rw [h j hj (by rw [List.length_append]; omega), List.getElem?_append_left hl]
theorem Agrees.over {all b s : List UInt8} {i : Nat} (hb : Agrees all i b) (hs : Agrees all i s) (hl : b.length = 512) (n : Nat) : Agrees all i (b.take n ++ s.drop n) := by
  intro j hj hk
  by_cases h : j < n
  · rw [List.getElem?_append_left (by simp; omega), List.getElem?_take_of_lt h]
    exact hb j hj hk
  · by_cases hn : n ≤ 512
    · rw [List.getElem?_append_right (by simp; omega), List.getElem?_drop, List.length_take, hl, Nat.min_eq_left hn, show n + (j - n) = j from by omega]
      exact hs j hj hk
    · omega
theorem bytes_get (d : DS) (at_ : Nat) : ∀ (n i j : Nat), i < n → j < 512 → (d.bytes at_ n)[i * 512 + j]? = (d.block (at_ + i))[j]?
  | 0, i, j, h, _ => by omega
  | n + 1, i, j, h, hj => by
    rw [DS.bytes_succ]
    by_cases e : i = n
    · subst e
      rw [List.getElem?_append_right (by rw [DS.bytes_length]; omega), DS.bytes_length]
      congr 1
      omega
    · rw [List.getElem?_append_left (by rw [DS.bytes_length]; omega)]
      exact bytes_get d at_ n i j (by omega) hj
theorem body_agrees {d : DS} {at_ : Nat} {data : List UInt8} (h : ∀ i, Agrees data i (d.block (at_ + 2 + i))) : d.body at_ data.length = data := by
  refine List.ext_getElem? fun k => ?_
  by_cases hk : k < data.length
  · unfold DS.body
    rw [List.getElem?_take_of_lt hk]
    have e : k = (k / 512) * 512 + k % 512 := by omega
    have h1 := bytes_get d (at_ + 2) ((data.length + 511) / 512) (k / 512) (k % 512) (by omega) (Nat.mod_lt _ (by decide))
    have h2 := h (k / 512) (k % 512) (Nat.mod_lt _ (by decide)) (by omega)
    rw [← e] at h1 h2
    rw [h1, h2]
  · rw [List.getElem?_eq_none (by rw [DS.body_length]; omega), List.getElem?_eq_none (by omega)]
/-- A head's number stands in its second half too. -/
theorem right_second {b : List UInt8} (hb : b.length = 512) (room : Nat) : (Wal.right b room).1 ≤ Wal.lo (Wal.cut b 40 8) := by
  rw [Wal.right_doc hb]
  split
  · exact Nat.zero_le _
  · rename_i h
    simp only [not_or] at h
    have := Classical.not_not.1 h.2.2.2.1
    simp only
    omega
theorem headL_second (seq n : Nat) (hs : seq ≤ Wal.last62) : Wal.lo (Wal.cut (Wal.headL seq n) 40 8) = seq := by
  have h1 : Wal.cut (Wal.headL seq n) 40 8 = Wal.hi8 seq := by
    unfold Wal.headL
    rw [Wal.cut_append _ _ _ _ (by rw [Wal.head48_length]; omega)]
    unfold Wal.head48
    rw [Wal.cut_right _ _ _ _ (by rw [Wal.half_length]; omega), Wal.half_length]
    exact (Wal.half_parts n seq).2.2
  rw [h1, Wal.lo_hi8 _ (Nat.lt_of_le_of_lt hs (by decide))]
theorem pick_of {d : DS} {at_ seq room n : Nat} (hs : 1 ≤ seq ∧ seq ≤ Wal.last62) (h1 : d.block (at_ + seq % 2) = Wal.headL seq n) (hn : n ≤ room) (hr : room ≤ 511000) (h2 : (Wal.right (d.block (at_ + (seq + 1) % 2)) room).1 < seq) : d.pick at_ room = (seq, n) := by
  have hr1 : Wal.right (d.block (at_ + seq % 2)) room = (seq, n) := by
    rw [h1]
    exact Wal.right_head _ hs.1 hs.2 hn (by omega)
  unfold DS.pick
  rcases Nat.mod_two_eq_zero_or_one seq with e | e
  · have e2 : (seq + 1) % 2 = 1 := by omega
    rw [e2] at h2
    rw [e, Nat.add_zero] at hr1
    rw [hr1, if_neg (by simp only; omega)]
  · have e2 : (seq + 1) % 2 = 0 := by omega
    rw [e2, Nat.add_zero] at h2
    rw [e] at hr1
    rw [hr1, if_pos (by simpa using h2)]
/-- The disk, and the journal on it, in which these records stand. -/
structure JOk (d : DS) (l : LS) (R : List (List UInt8)) (N : Nat) : Prop where
  still : Still d N
  fits : l.at_ + 2 + (l.room + 511) / 512 ≤ N
  good : LGood l
  sq : 1 ≤ l.seq
  head : d.block (l.at_ + l.seq % 2) = Wal.headL l.seq l.data.length
  other : Wal.lo (Wal.cut (d.block (l.at_ + (l.seq + 1) % 2)) 40 8) < l.seq
  agrees : ∀ i, Agrees l.data i (d.block (l.at_ + 2 + i))
  data : l.data = Wal.frames R
  few : ∀ s ∈ R, s.length < 18446744073709551616
  count : l.count = R.length
  whole : l.broken = false
  pend : d.pending = []
theorem JOk.open_ {d : DS} {l : LS} {R : List (List UInt8)} {N : Nat} (h : JOk d l R N) : d.openW l.at_ l.room = ⟨d, l, R, 0⟩ := by
  have hp := pick_of ⟨h.sq, h.good.seq⟩ h.head h.good.data h.good.room (Nat.lt_of_le_of_lt (right_second (DS.block_length _ _) _) h.other)
  have hb := body_agrees h.agrees
  have hr : Wal.records l.data = (R, 0) := by rw [h.data]; exact Wal.records_frames R h.few
  have h1 := h.sq
  unfold DS.openW
  rw [if_neg (by rw [h.still.down]; simp), hp]
  simp only
  rw [if_neg (by omega), hb, hr, if_neg (by simp)]
  obtain ⟨at_, room, seq, data, count, broken⟩ := l
  have e1 := h.count
  have e2 := h.whole
  simp only at e1 e2
  subst e1 e2
  rfl
theorem zero_second : Wal.lo (Wal.cut (List.replicate 512 (0 : UInt8)) 40 8) = 0 := by decide +kernel
theorem zero_right (room : Nat) : Wal.right (List.replicate 512 (0 : UInt8)) room = (0, 0) := by
  have := right_second (b := List.replicate 512 (0 : UInt8)) List.length_replicate room
  rw [zero_second] at this
  exact right_zero _ _ (by omega)
theorem new_block (n i : Nat) : (DS.new n).block i = List.replicate 512 (0 : UInt8) := by
  show ((List.replicate n (⟨B512.zero, B512.zero⟩ : DB)).getD i default).now.l = _
  rw [List.getD_eq_getElem?_getD, List.getElem?_replicate]
  split <;> rfl
theorem new_still (n : Nat) : Still (DS.new n) n := ⟨rfl, rfl, by simp [DS.new]⟩
/-- A new disk is opened. -/
theorem open_new {n at_ room : Nat} (hN : at_ + 2 + (room + 511) / 512 ≤ n) (ha : at_ ≤ 5000) (hr : room ≤ 511000) :
    (DS.new n).openW at_ room = ⟨((DS.new n).head at_ 1 0).1, ⟨at_, room, 1, [], 0, false⟩, [], 0⟩ ∧ JOk ((DS.new n).head at_ 1 0).1 ⟨at_, room, 1, [], 0, false⟩ [] n ∧ ((DS.new n).head at_ 1 0).1.changes = 2 := by
  obtain ⟨h1, h2, h3, h4, h5⟩ := (new_still n).head (at_ := at_) (by omega) 1 0
  refine ⟨?_, ⟨h2, hN, ⟨ha, hr, by show 1 ≤ Wal.last62; decide, Nat.zero_le _, Nat.le_refl _⟩, Nat.le_refl _, ?_, ?_, ?_, rfl, fun s hs => by simp at hs, rfl, rfl, h4⟩, h3⟩
  · have hp : (DS.new n).pick at_ room = (0, 0) := by
      unfold DS.pick
      rw [new_block, new_block, zero_right]
      rfl
    unfold DS.openW
    rw [if_neg (by simp [DS.new]), hp, if_pos rfl, h1, if_neg (by simp)]
  · show _ = Wal.headL 1 0
    rw [h5, if_pos rfl]
  · show Wal.lo (Wal.cut (DS.block _ (at_ + (1 + 1) % 2)) 40 8) < 1
    rw [h5, if_neg (by omega), new_block, zero_second]
    decide
  · intro i j _ hl
    simp at hl
/-- What is added stands behind the others. -/
theorem JOk.add {d : DS} {l : LS} {R recs : List (List UInt8)} {N : Nat} (h : JOk d l R N) (hne : recs ≠ []) (hs : l.seq < Wal.last62) (hfit : (l.data ++ Wal.frames recs).length ≤ l.room) (hfew : ∀ s ∈ recs, s.length < 18446744073709551616) (hcount : l.count + recs.length ≤ (l.data ++ Wal.frames recs).length) :
    ∃ d', d.add l recs = ⟨d', { l with seq := l.seq + 1, data := l.data ++ Wal.frames recs, count := l.count + recs.length }, 0⟩ ∧ JOk d' { l with seq := l.seq + 1, data := l.data ++ Wal.frames recs, count := l.count + recs.length } (R ++ recs) N := by
  obtain ⟨all, hall⟩ : ∃ all, all = l.data ++ Wal.frames recs := ⟨_, rfl⟩
  rw [← hall] at hfit hcount ⊢
  have hN := h.fits
  obtain ⟨a1, a2, a3⟩ := Still.lay (at_ := l.at_) (N := N) (all := all) (by omega) all.length (l.data.length / 512) d h.still (by omega)
  obtain ⟨b1, b2, b3, b4, b5⟩ := a2.flush
  obtain ⟨c1, c2, c3, c4, c5⟩ := b2.head (at_ := l.at_) (by omega) (l.seq + 1) all.length
  refine ⟨((DS.lay l.at_ all all.length (l.data.length / 512) d).1.flush.1.head l.at_ (l.seq + 1) all.length).1, ?_, ?_⟩
  · unfold DS.add
    rw [if_neg (by rw [h.whole]; simp), if_neg hne, ← hall, if_neg (by omega)]
    unfold DS.addW
    rw [if_neg (by rw [a1]; simp), if_neg (by rw [b1]; simp), if_neg (by rw [c1]; simp)]
  · have hhead : ∀ j, j < l.at_ + 2 → (DS.lay l.at_ all all.length (l.data.length / 512) d).1.flush.1.block j = d.block j := fun j hj => by
      rw [b5, a3, if_neg (by omega)]
    refine ⟨c2, h.fits, ⟨h.good.at_, h.good.room, by show l.seq + 1 ≤ _; omega, hfit, hcount⟩, by show 1 ≤ l.seq + 1; omega, ?_, ?_, ?_, by show all = _; rw [hall, h.data, Wal.frames_append], ?_, by show l.count + _ = _; rw [h.count, List.length_append], h.whole, c4⟩
    · show DS.block _ (l.at_ + (l.seq + 1) % 2) = Wal.headL (l.seq + 1) all.length
      rw [c5, if_pos rfl]
    · show Wal.lo (Wal.cut (DS.block _ (l.at_ + (l.seq + 1 + 1) % 2)) 40 8) < l.seq + 1
      have e : (l.seq + 1 + 1) % 2 = l.seq % 2 := by omega
      rw [e, c5, if_neg (by omega), hhead _ (by omega), h.head, headL_second _ _ h.good.seq]
      omega
    · intro i
      show Agrees all i (DS.block _ (l.at_ + 2 + i))
      rw [c5, if_neg (by omega), b5, a3]
      by_cases e : l.at_ + 2 + l.data.length / 512 ≤ l.at_ + 2 + i ∧ (l.at_ + 2 + i - (l.at_ + 2)) * 512 < all.length
      · rw [if_pos e, show l.at_ + 2 + i - (l.at_ + 2) = i from by omega]
        exact agrees_pad all i
      · rw [if_neg e]
        intro j hj hl
        have h1 := h.agrees i j hj
        have h2 : i * 512 + j < l.data.length := by omega
        rw [h1 h2, hall, List.getElem?_append_left h2]
    · intro s hs
      rcases List.mem_append.1 hs with h' | h'
      · exact h.few s h'
      · exact hfew s h'
theorem JOk.full {d : DS} {l : LS} {R recs : List (List UInt8)} {N : Nat} (h : JOk d l R N) (hne : recs ≠ []) (hfit : l.room < (l.data ++ Wal.frames recs).length) : d.add l recs = ⟨d, l, 40⟩ := by
  unfold DS.add
  rw [if_neg (by rw [h.whole]; simp), if_neg hne, if_pos (.inl hfit)]
theorem JOk.none {d : DS} {l : LS} {R : List (List UInt8)} {N : Nat} (h : JOk d l R N) : d.add l [] = ⟨d, l, 0⟩ := by
  unfold DS.add
  rw [if_neg (by rw [h.whole]; simp), if_pos rfl]
/-- It is emptied. -/
theorem JOk.reset {d : DS} {l : LS} {R : List (List UInt8)} {N : Nat} (h : JOk d l R N) (hs : l.seq < Wal.last62) :
    ∃ d', d.reset l = ⟨d', { l with seq := l.seq + 1, data := [], count := 0 }, 0⟩ ∧ JOk d' { l with seq := l.seq + 1, data := [], count := 0 } [] N := by
  have hN := h.fits
  obtain ⟨c1, c2, c3, c4, c5⟩ := h.still.head (at_ := l.at_) (by omega) (l.seq + 1) 0
  refine ⟨(d.head l.at_ (l.seq + 1) 0).1, ?_, ?_⟩
  · unfold DS.reset
    rw [if_neg (by rw [h.whole]; simp), if_neg (by omega), if_neg (by rw [c1]; simp)]
  · refine ⟨c2, h.fits, ⟨h.good.at_, h.good.room, by show l.seq + 1 ≤ _; omega, Nat.zero_le _, Nat.le_refl _⟩, by show 1 ≤ l.seq + 1; omega, ?_, ?_, ?_, rfl, fun s hs => by simp at hs, rfl, h.whole, c4⟩
    · show DS.block _ (l.at_ + (l.seq + 1) % 2) = Wal.headL (l.seq + 1) 0
      rw [c5, if_pos rfl]
    · show Wal.lo (Wal.cut (DS.block _ (l.at_ + (l.seq + 1 + 1) % 2)) 40 8) < l.seq + 1
      have e : (l.seq + 1 + 1) % 2 = l.seq % 2 := by omega
      rw [e, c5, if_neg (by omega), h.head, headL_second _ _ h.good.seq]
      omega
    · intro i j _ hl
      simp at hl
end Go.Proofs.Ythbanhedjfpmaaa
end

section
/-
  The contract of the journal's Add.
-/
namespace Go.Proofs.Ythbanhedjfpmaaa
set_option linter.unusedSimpArgs false
set_option linter.unusedVariables false
open Go.RowKit

theorem frames_take (ps : List Part) (i : Nat) (h : i < ps.length) : Wal.frames ((ps.take (i + 1)).map (·.l)) = Wal.frames ((ps.take i).map (·.l)) ++ Wal.frame ps[i].l := by
  rw [List.take_succ_eq_append_getElem h, List.map_append, Wal.frames_append]
  simp [Wal.frames]
theorem frames_le (ps : List Part) (i : Nat) (h : i < ps.length) : (Wal.frames ((ps.take i).map (·.l))).length + ps[i].l.length + 5 ≤ (Wal.frames (ps.map (·.l))).length := by
  have e : ps = ps.take (i + 1) ++ ps.drop (i + 1) := (List.take_append_drop _ _).symm
  have h1 : (Wal.frames (ps.map (·.l))).length = (Wal.frames ((ps.take (i + 1)).map (·.l))).length + (Wal.frames ((ps.drop (i + 1)).map (·.l))).length := by
    rw [← List.length_append, ← Wal.frames_append, ← List.map_append, ← e]
  rw [frames_take ps i h, List.length_append] at h1
  have := (Wal.frame_length ps[i].l).1
  omega
theorem frames_many : ∀ (L : List (List UInt8)), L.length ≤ (Wal.frames L).length
  | [] => Nat.le_refl _
  | s :: L => by
    have := frames_many L
    have h := (Wal.frame_length s).1
    rw [Wal.frames_cons, List.length_append, List.length_cons]
    omega
theorem pad_copy (all : List UInt8) (i : Nat) : ((all.drop (i * 512)).take (List.replicate 512 (0 : UInt8)).length) ++ (List.replicate 512 (0 : UInt8)).drop ((all.drop (i * 512)).take (List.replicate 512 (0 : UInt8)).length).length = padB all i := by
  rw [List.length_replicate, List.drop_replicate]
  rfl
set_option maxRecDepth 100000 in
set_option maxHeartbeats 4000000 in
theorem wadd_any (w0 w : World) (k : KB) (g n : Nat) (d : DS) (l : LS) (H : WL w0 w k g d l n) (hn : n + 1010 < 1000000) (A : Option Addr) (c : Nat) (ps : List Part) (hr : ERow ePart w A ps) (hp : ∀ p ∈ ps, p.ok w) (hps : ps.length ≤ 1000000) :
    Calls Try.prog 39 #[.pointer (some ⟨g, 0, none⟩), .slice A ps.length c] w (ChangeOk w0 w k g (n + 1010) (d.add l (ps.map (·.l)))) := by
  have H0 := Lib.hid H
  have HBR := Lib.hid (wbroken_any w _ k g l H.log)
  have hsq := H.log.good.seq
  have hrm := H.log.good.room
  have hdl := H.log.good.data
  have HW := Lib.hid (seq_wrap hsq)
  obtain ⟨A0, c0, hc, hc2, hbx, hdc, -⟩ := H.log.cells
  have HCL := Lib.hid (clone_any w A0 c0 l.data hbx.row (by omega))
  have HRP := Lib.hid (And.intro hr hp)
  have HSQ := Lib.hid hsq
  have HD : Hid (d.add l (ps.map (·.l)) = if l.broken = true then ⟨d, l, 3⟩ else if ps.map (·.l) = [] then ⟨d, l, 0⟩
    else if l.room < (l.data ++ Wal.frames (ps.map (·.l))).length ∨ l.seq = Wal.last62 then ⟨d, l, 40⟩ else d.addW l (l.data ++ Wal.frames (ps.map (·.l))) (ps.map (·.l)).length) := rfl
  clear H hsq hr hp hbx
  rcases Classical.em (l.broken = true) with hb | hb
  · rw [if_pos hb] at HD
    rw [hb] at HBR
    clear hb
    go_enter Try.func39, Try.ntmps39
    go_wp2_with fail
    refine HBR.out.mono ?_
    rintro e w1 ⟨rfl, rfl⟩
    go_wp2_with fail
    go_ret
    exact change_ok HD.out (H0.out.more (by omega)) (Keeps.refl _ _)
  have hb0 : l.broken = false := by simpa using hb
  rw [if_neg hb] at HD
  rw [hb0] at HBR
  clear hb hb0
  rcases Nat.eq_zero_or_pos ps.length with hp0 | hp0
  · obtain rfl := List.eq_nil_of_length_eq_zero hp0
    have HE : Hid (d.add l (([] : List Part).map (·.l)) = ⟨d, l, 0⟩) := by have := HD.out; simp only [List.map_nil, if_true] at this ⊢; exact this
    clear HD
    go_enter Try.func39, Try.ntmps39
    go_wp2_with fail
    refine HBR.out.mono ?_
    rintro e w1 ⟨rfl, rfl⟩
    go_wp2_with fail
    go_ret
    exact change_ok HE.out (H0.out.more (by omega)) (Keeps.refl _ _)
  have hpz : ((ps.length : Int) == 0) = false := by rw [beq_eq_false_iff_ne]; omega
  rw [if_neg (by intro h; have := congrArg List.length h; rw [List.length_map, List.length_nil] at this; omega)] at HD
  go_enter Try.func39, Try.ntmps39
  go_wp2_with fail
  refine HBR.out.mono ?_
  rintro e w1 ⟨rfl, rfl⟩
  go_wp2_with fail
  refine HCL.out.mono ?_
  rintro e w1 ⟨A1, c1, rfl, ho1, hb1⟩
  have H1 := Lib.hid (And.intro ho1 hb1)
  clear HBR HCL ho1 hb1
  go_wp2_with fail
  clear hc hc2
  go_loopw [5, 25] (fun av iv wq => ∃ (i : Nat) (all : List UInt8) (Aa : Option Addr) (ca : Nat), i ≤ ps.length ∧ iv = .int .i64 (i : Nat) ∧ av = .slice Aa all.length ca ∧ all.length ≤ l.room + 14 ∧ Hid (all = l.data ++ Wal.frames ((ps.take i).map (·.l)) ∧ BOwn wq w.heap.size Aa ca all ∧ Below w.heap.size w wq)) (fun _ iv _ => ps.length - (intOf iv).toNat)
  case atStart => exact ⟨0, l.data, A1, c1, Nat.zero_le _, rfl, rfl, by omega, by simp [Wal.frames], H1.out⟩
  case round =>
    obtain ⟨i, all, Aa, ca, hi, rfl, rfl, hal, HJ⟩ := hrel
    clear H1
    have HWQ := Lib.hid (H0.out.below HJ.out.2.2)
    obtain ⟨A2, c2, hc, hc2, -⟩ := HWQ.out.log.cells
    rcases Nat.lt_or_ge i ps.length with hlt | hge
    · obtain ⟨b, o, rfl, hb, hcp⟩ := (HRP.out.1.below HJ.out.2.2).at_ hlt
      have hce := hcp 0 _ rfl
      rw [show (i * ePart.sz + 0) = i from Nat.mul_one i] at hce
      have HOK := Lib.hid (HRP.out.2 ps[i] (List.getElem_mem hlt))
      have HFT := Lib.hid (frames_take ps i hlt)
      have HFL := Lib.hid (frames_le ps i hlt)
      have hii : (i : Int) < (ps.length : Int) := by omega
      generalize ps[i] = p at hce HOK HFT HFL
      obtain ⟨pA, pc, pl⟩ := p
      simp only [Part.v] at hce
      simp only at HFL HFT
      have hpl := HOK.out.2
      simp only at hpl
      clear hcp
      rcases Int.lt_or_le ((l.room : Int) - (all.length : Int)) (pl.length : Int) with hbig | hbig
      · have hlong : l.room < (l.data ++ Wal.frames (ps.map (·.l))).length := by
          have h1 := HFL.out
          have h2 := congrArg List.length HJ.out.1
          rw [List.length_append] at h2 ⊢
          omega
        have HE : Hid (d.add l (ps.map (·.l)) = ⟨d, l, 40⟩) := by show _ = _; rw [HD.out, if_pos (.inl hlong)]
        clear HD hlong
        go_wp2_with fail
        go_ret
        exact change_ok HE.out (HWQ.out.more (by omega)) (Keeps.of_below HJ.out.2.2)
      · have HFR := Lib.hid (frame_any wr pA pc pl (HOK.out.1.below HJ.out.2.2) (by omega))
        go_wp2_with fail
        refine HFR.out.mono ?_
        rintro e w5 ⟨A5, c5, rfl, ho5, hb5⟩
        have H5 := Lib.hid (And.intro (HJ.out.2.1.below hb5) (And.intro (HJ.out.2.2.trans (hb5.mono HJ.out.2.2.size)) ho5.row))
        have hfl2 := (Wal.frame_length pl).2
        clear ho5 hb5 HFR hc hc2
        go_wp2_with (at_builtin; refine wpList_append_bytes rfl (.tmp 39) (.tmp 41) rfl _ rfl H5.out.1 rfl _ rfl H5.out.2.2 rfl (by omega) H5.out.2.1.size ?_; intro A6 c6 w6 ho6 hb6 _ _)
        go_roundw
        case rel => exact ⟨i + 1, all ++ Wal.frame pl, A6, c6, by omega, by go_num, by rw [List.length_append], by rw [List.length_append]; omega, by rw [HFT.out, HJ.out.1, List.append_assoc], ho6, H5.out.2.1.trans hb6⟩
        case measure => simp [intOf]; omega
    · obtain rfl : i = ps.length := by omega
      have hii : ¬ ((ps.length : Nat) : Int) < ((ps.length : Nat) : Int) := by omega
      have hall : all = l.data ++ Wal.frames (ps.map (·.l)) := by rw [HJ.out.1, List.take_length]
      rw [← hall] at HD
      have HMN : Hid (l.count + ps.length ≤ all.length) := by
        show _ ≤ _
        have h1 := HWQ.out.log.good.count
        have h2 := frames_many (ps.map (·.l))
        rw [hall, List.length_append]
        simp at h2
        omega
      have HA := Lib.hid hall
      clear hall hge hi
      rcases Nat.lt_or_ge l.room all.length with hlong | hfit
      · have HE : Hid (d.add l (ps.map (·.l)) = ⟨d, l, 40⟩) := by show _ = _; rw [HD.out, if_pos (.inl hlong)]
        clear HD
        go_wp2_with fail
        go_ret
        exact change_ok HE.out (HWQ.out.more (by omega)) (Keeps.of_below HJ.out.2.2)
      · rcases Classical.em (l.seq = Wal.last62) with hs | hs
        · have hs1 : ((l.seq : Int) == 4611686018427387904) = true := by rw [hs]; decide
          have HE : Hid (d.add l (ps.map (·.l)) = ⟨d, l, 40⟩) := by show _ = _; rw [HD.out, if_pos (.inr hs)]
          clear HD hs
          go_wp2_with fail
          go_ret
          exact change_ok HE.out (HWQ.out.more (by omega)) (Keeps.of_below HJ.out.2.2)
        · have hs1 := seq_last hs
          rw [if_neg (by rintro (h | h); omega; exact hs h)] at HD
          have HS := Lib.hid (seq_next HSQ.out hs)
          clear hs
          have hi0 : l.data.length / 512 ≤ 998 := by omega
          have HI0 := Lib.hid hi0
          have HPM : Hid ((ps.map (·.l)).length = ps.length) := List.length_map ..
          rw [HPM.out] at HD
          have HU : Hid (d.addW l all ps.length = d.addW l all ps.length) := rfl
          clear hi0 HU
          go_wp2_with fail
          have HB0 := Lib.hid HJ.out.2
          clear hc hc2 HJ
          obtain ⟨wo, rfl⟩ : ∃ wo : World, wo = wr := ⟨_, rfl⟩
          go_loopw [8] (fun iv wq => ∃ (i : Nat) (dd : DS), iv = .int .i64 (i : Nat) ∧ i ≤ 999 ∧ Hid (DS.lay l.at_ all all.length (l.data.length / 512) d = DS.lay l.at_ all (all.length + l.data.length / 512 - i) i dd ∧ l.data.length / 512 ≤ i ∧ WL w0 wq k g dd l (n + i) ∧ BOwn wq w.heap.size Aa ca all ∧ Keeps w wq (ownL k g))) (fun iv _ => 1000 - (intOf iv).toNat)
          case atStart =>
            refine ⟨l.data.length / 512, d, by simp, by have := HI0.out; omega, ?_, Nat.le_refl _, HWQ.out.more (by omega), HB0.out.1, Keeps.of_below HB0.out.2⟩
            rw [Nat.add_sub_cancel]
          case round =>
            obtain ⟨i, dd, rfl, hi, HJ⟩ := hrel
            obtain ⟨A2, c2, hc, hc2, -⟩ := HJ.out.2.2.1.log.cells
            rcases Nat.lt_or_ge (i * 512) all.length with hlt | hge
            · have hii : (i : Int) * 512 < (all.length : Int) := by omega
              obtain ⟨f, hf⟩ : ∃ f, all.length + l.data.length / 512 - i = f + 1 := ⟨all.length + l.data.length / 512 - i - 1, by have := HJ.out.2.1; omega⟩
              have HF := Lib.hid hf
              have HLS := HJ.out.1
              rw [hf, lay_step _ _ _ _ _ hlt] at HLS
              have HLY := Lib.hid HLS
              obtain ⟨As, cs, hsl, hrs, hcs1, hcs2, -⟩ := cut_l HJ.out.2.2.2.1.row ca ((i : Int) * 512) (i * 512) (by omega) (by omega) HJ.out.2.2.2.1.cap
              have HRS := Lib.hid hrs
              have hdl2 : (all.drop (i * 512)).length = all.length - i * 512 := List.length_drop ..
              have HDL := Lib.hid hdl2
              clear hf HLS hrs hdl2
              have HZ : Hid ((List.replicate 512 (0 : UInt8)).length = 512) := List.length_replicate
              go_wp2_with (first
                | (at_make; refine wpList_make_zeros rfl (.const (.int .i64 512)) (.const (.int .i64 512)) rfl _ _ _ _ 512 rfl rfl rfl rfl (by decide) (Nat.le_refl _) ?_; intro w5 ho5 hb5; have HRS5 := Lib.hid (And.intro ho5 (And.intro hb5 (HRS.out.below hb5))); clear ho5 hb5)
                | (refine wpList_copy_bytes0 (o := ⟨some 77, _, _, _, _, _⟩) rfl (.tmp 72) (.tmp 76) rfl 512 _ rfl rfl HZ.out.symm HDL.out.symm HRS5.out.1 HRS5.out.2.2 ?_; intro w6 ho6 hg6))
              rw [pad_copy] at ho6
              have H6 : Hid (BOwn w6 wr.heap.size (some ⟨wr.heap.size, 0, none⟩) 512 (padB all i) ∧ Below wr.heap.size wr w6) := ⟨ho6, HRS5.out.2.1.grown hg6 HRS5.out.2.1.size (fun k hk => by simp at hk; omega)⟩
              clear ho6 hg6 HRS5 HRS hsl hc hc2
              have HW6 := Lib.hid (And.intro (HJ.out.2.2.1.below H6.out.2.drewR) (And.intro (HJ.out.2.2.2.1.below H6.out.2.drewR) (HJ.out.2.2.2.2.then H6.out.2.drewR)))
              obtain ⟨A2, c2, hc, hc2, -⟩ := HW6.out.1.log.cells
              have hwr := HW6.out.1.dl.write (by omega) ((l.at_ : Int) + 2 + (i : Int)) (some ⟨wr.heap.size, 0, none⟩) 512 (padB all i) H6.out.1.row.drew
              rw [padB_length] at hwr
              have HWR := Lib.hid hwr
              have hix : ((l.at_ + 2 + i : Nat) : Int) = (l.at_ : Int) + 2 + (i : Int) := by omega
              rw [hix] at HLY
              have hat := HW6.out.1.log.good.at_
              clear hwr hix
              generalize dd.write ((l.at_ : Int) + 2 + (i : Int)) (padB all i) = r at HWR HLY
              obtain ⟨d7, e7⟩ := r
              refine wp_region_plan (.take 0 (.take 1 (.take 2 (.take 3 (.take 4 (.take 5 (.take 6 (.take 7 (.take 8 (.take 9 (.take 10 (.take 11 (.run 12 [] (.take 13 .fin)))))))))))))) (by kernel_rfl) (by kernel_rfl) (by kernel_rfl) (by kernel_rfl) ?_
              simp only [walk, again, sel, List.getElem?_toArray, List.getElem?_cons_zero, List.getElem?_cons_succ]
              repeat ((with_reducible intro Z hZ); go_wp2_with (fail))
              refine HWR.out.mono ?_
              rintro e w7 ⟨rfl, hL7, hK7⟩
              have HW7 := Lib.hid (And.intro (HW6.out.1.disk hL7 hK7) (And.intro (HW6.out.2.1.keptK hK7 (fun a ha hs => by
                have h1 := (HW6.out.2.1.block a ha).1
                have h2 := H0.out.dl.own_lt _ hs
                omega)) (HW6.out.2.2.trans hK7.own2)))
              clear hL7 hK7 hc hc2 HW6 HWR
              obtain ⟨A2, c2, hc, hc2, -⟩ := HW7.out.1.log.cells
              rcases Classical.em (e7 = 0) with he | he
              · subst he
                rw [if_neg (by simp)] at HLY
                go_wp2_with fail
                repeat ((with_reducible intro Z hZ); go_wp2_with (fail))
                go_wp2_with fail
                go_roundw
                case rel =>
                  refine ⟨i + 1, d7, by go_num, by omega, ?_, by have := HJ.out.2.1; omega, HW7.out.1, HW7.out.2⟩
                  rw [HLY.out]
                  show DS.lay l.at_ all f (i + 1) d7 = _
                  congr 1
                  have := HF.out; omega
                case measure => simp [intOf]; omega
              · have he1 : (e7 != 0) = true := by simpa using he
                rw [if_pos he] at HLY
                have HE : Hid (d.add l (ps.map (·.l)) = ⟨d7, { l with broken := true }, e7⟩) := by
                  show _ = _
                  rw [HD.out]
                  unfold DS.addW
                  rw [HLY.out, if_pos he]
                clear he HD HLY
                go_wp2_with fail
                repeat ((with_reducible intro Z hZ); go_wp2_with (fail))
                go_wp2_with fail
                go_ret
                exact change_ok HE.out ((HW7.out.1.store (grown_store _ _ _ _) HW7.out.1.log.setBroken).more (by omega)) (keeps_store HW7.out.2.2 (grown_store _ _ _ _))
            · have hii : ¬ (i : Int) * 512 < (all.length : Int) := by omega
              have HLD : Hid (DS.lay l.at_ all all.length (l.data.length / 512) d = (dd, 0)) := by show _ = _; rw [HJ.out.1, lay_done _ _ _ _ _ hge]
              have HF := Lib.hid (HJ.out.2.2.1.dl.flush (by omega))
              have HD2 : Hid (d.add l (ps.map (·.l)) = if dd.flush.2 ≠ 0 then ⟨dd.flush.1, { l with broken := true }, dd.flush.2⟩
                  else if (dd.flush.1.head l.at_ (l.seq + 1) all.length).2 ≠ 0 then ⟨(dd.flush.1.head l.at_ (l.seq + 1) all.length).1, { l with broken := true }, (dd.flush.1.head l.at_ (l.seq + 1) all.length).2⟩
                  else ⟨(dd.flush.1.head l.at_ (l.seq + 1) all.length).1, { l with seq := l.seq + 1, data := all, count := l.count + ps.length }, 0⟩) := by
                show _ = _
                rw [HD.out]
                unfold DS.addW
                rw [HLD.out, if_neg (by simp)]
              clear HD HLD hge
              generalize dd.flush = r at HF HD2
              obtain ⟨d5, e5⟩ := r
              go_wp2_with fail
              refine HF.out.mono ?_
              rintro e w7 ⟨rfl, hL7, hK7⟩
              have HW7 := Lib.hid (And.intro (HJ.out.2.2.1.disk hL7 hK7) (And.intro (HJ.out.2.2.2.1.keptK hK7 (fun a ha hs => by
                have h1 := (HJ.out.2.2.2.1.block a ha).1
                have h2 := H0.out.dl.own_lt _ hs
                omega)) (HJ.out.2.2.2.2.trans hK7.own2)))
              clear hL7 hK7 hc hc2 HF
              obtain ⟨A2, c2, hc, hc2, -⟩ := HW7.out.1.log.cells
              rcases Classical.em (e5 = 0) with he | he
              · subst he
                rw [if_neg (by simp)] at HD2
                have hh := head_any w0 w7 k g (n + i + 1) d5 l HW7.out.1 (by omega) (l.seq + 1) all.length HS.out (by omega)
                unfold HeadOk at hh
                simp only [Int.natCast_add, Int.natCast_one] at hh
                have HH := Lib.hid hh
                clear hh
                generalize d5.head l.at_ (l.seq + 1) all.length = r at HH HD2
                obtain ⟨d8, e8⟩ := r
                have hw := HW.out
                go_wp2_with fail
                refine HH.out.mono ?_
                rintro e w8 ⟨rfl, hw8, hk8⟩
                have HW8 := Lib.hid (And.intro hw8 (And.intro (HW7.out.2.1.keptK hk8 (fun a ha hs => by
                  have h1 := (HW7.out.2.1.block a ha).1
                  rcases hs with hs | hs
                  · have h2 := H0.out.dl.own_lt _ hs
                    omega
                  · obtain ⟨cs9, hb9⟩ := H0.out.log.blk
                    have h2 := hb9.lt
                    omega)) (HW7.out.2.2.trans hk8)))
                clear hw8 hk8 hc hc2 HH
                have hcl : l.count + ps.length ≤ 1000000 := by have := HMN.out; omega
                obtain ⟨A2, c2, hc, hc2, -⟩ := HW8.out.1.log.cells
                unfold LS.headed at HW8
                rcases Classical.em (e8 = 0) with he | he
                · subst he
                  rw [if_neg (by simp)] at HD2
                  rw [if_pos rfl] at HW8
                  simp only [LS.headed, if_true] at hc
                  go_wp2_with fail
                  go_ret
                  have hcp := HW8.out.2.1.cap
                  have hcm : ca ≤ maxLen := by
                    rcases HW8.out.2.1.form with ⟨-, rfl, -⟩ | ⟨_, -, -, -, -, h⟩
                    · exact Nat.zero_le _
                    · exact h
                  have hBX : BRowX k.own w8 Aa all := BRowX.own HW8.out.2.1 H0.out.dl.own_lt
                  have hset := HW8.out.1.log.setData (A := Aa) (c := ca) (b := all) (n := l.count + ps.length) hBX hcp hcm (by show all.length ≤ l.room; omega) HMN.out
                  refine change_ok HD2.out ((HW8.out.1.store ((grown_store _ _ _ _).set_ ⟨g, 5, none⟩ rfl _) hset).more (by omega)) (keeps_store HW8.out.2.2 ((grown_store _ _ _ _).set_ ⟨g, 5, none⟩ rfl _))
                · have he1 : (e8 != 0) = true := by simpa using he
                  rw [if_pos he] at HD2
                  rw [if_neg he] at HW8
                  have HE := Lib.hid he
                  clear he
                  go_wp2_with fail
                  go_ret
                  exact change_ok HD2.out (HW8.out.1.more (by omega)) HW8.out.2.2
              · have he1 : (e5 != 0) = true := by simpa using he
                rw [if_pos he] at HD2
                clear he
                go_wp2_with fail
                go_ret
                exact change_ok HD2.out ((HW7.out.1.store (grown_store _ _ _ _) HW7.out.1.log.setBroken).more (by omega)) (keeps_store HW7.out.2.2 (grown_store _ _ _ _))
end Go.Proofs.Ythbanhedjfpmaaa
end

section
/-
  The contract of wal.Open.
-/
namespace Go.Proofs.Ythbanhedjfpmaaa
set_option linter.unusedSimpArgs false
set_option linter.unusedVariables false
open Go.RowKit

/-- What an opening answers. -/
def OpenOk (w0 w : World) (k : KB) (n : Nat) (r : OR) (e : Ending) (w' : World) : Prop :=
  (r.e = 0 → ∃ g A c ps, e = .returned (.tuple #[.pointer (some ⟨g, 0, none⟩), .slice A (List.length ps) c, .int .i64 0]) ∧ w.heap.size ≤ g ∧ WL w0 w' k g r.d r.l (n + 2) ∧ EOwn ePart w' w.heap.size A c ps ∧ PartsX k.own w' ps r.recs ∧ Keeps w w' k.own) ∧
  (r.e ≠ 0 → e = .returned (.tuple #[.pointer none, .slice none 0 0, .int .i64 r.e]) ∧ DL w0 w' k r.d (n + 2) ∧ Keeps w w' k.own)
theorem open_bad {w0 w w' : World} {k : KB} {n : Nat} {r : OR} {c : Int} (h : r.e = c) (hc : c ≠ 0) (hd : DL w0 w' k r.d (n + 2)) (hk : Keeps w w' k.own) : OpenOk w0 w k n r (.returned (.tuple #[.pointer none, .slice none 0 0, .int .i64 c])) w' := by
  subst h
  exact ⟨fun h => absurd h hc, fun _ => ⟨rfl, hd, hk⟩⟩
set_option maxRecDepth 100000 in
set_option maxHeartbeats 4000000 in
theorem open_any (w0 w : World) (k : KB) (d : DS) (n : Nat) (hL : DL w0 w k d n) (hn : n + 2 < 1000000) (at_ blocks : Nat) (h3 : 3 ≤ blocks) (h1000 : blocks ≤ 1000) (hin : at_ + blocks ≤ d.blocks.length) :
    Calls Try.prog 38 #[.pointer (some ⟨k.gd, 0, none⟩), .int .i64 (at_ : Nat), .int .i64 (blocks : Nat)] w (OpenOk w0 w k n (d.openW at_ ((blocks - 2) * 512))) := by
  have H0 := Lib.hid hL
  have hb1 := hL.good.b1
  have HB := Lib.hid (blocks_any w _ k d hL.at_)
  obtain ⟨room, hroom⟩ : ∃ room, room = (blocks - 2) * 512 := ⟨_, rfl⟩
  rw [← hroom]
  have hr1 : (blocks : Int) * 512 - 1024 = (room : Int) := by omega
  have hrm : room ≤ 511000 := by omega
  have hat : at_ ≤ 5000 := by omega
  have hf0 : ¬ (at_ : Int) < 0 := by omega
  have hf1 : ¬ (blocks : Int) < 3 := by omega
  have hf2 : ¬ (d.blocks.length : Int) < (blocks : Int) := by omega
  have hf3 : ¬ (d.blocks.length : Int) - (blocks : Int) < (at_ : Int) := by omega
  have hr2 : ((blocks : Int) - 2) * 512 = (room : Int) := by omega
  have hq1 : decide (d.blocks.length < blocks) = false := by simp; omega
  have hq2 : decide ((d.blocks.length : Int) - (blocks : Int) < (at_ : Int)) = false := by simp; omega
  clear hL
  go_enter Try.func38, Try.ntmps38
  go_wp2_with fail
  refine HB.out.mono ?_
  rintro e w1 ⟨rfl, rfl⟩
  go_wp2_with fail
  refine HB.out.mono ?_
  rintro e w1 ⟨rfl, rfl⟩
  clear HB
  go_wp2_with fail
  clear hf0 hf1 hf2 hf3 hq1 hq2
  simp only [show ((blocks - 2 : Nat) : Int) * 512 = (room : Int) from by omega]
  have HROOM := Lib.hid hroom
  clear hroom hr1 hr2
  generalize hW1 : World.alloc w (.cells _ _) = W1
  obtain ⟨ba1, hz1, hB1⟩ := fresh1 hW1
  clear hW1
  have HK0 := Lib.hid H0.out.own_lt
  have HW : Hid (WL w0 W1 k w.heap.size d ⟨at_, room, 0, [], 0, false⟩ n) := ⟨H0.out.below hB1, LogAt.fresh ba1 H0.out.bel.size HK0.out hat hrm⟩
  have HB1 := Lib.hid hB1
  clear ba1 hz1 hB1
  obtain ⟨g, hg⟩ : ∃ g, g = w.heap.size := ⟨_, rfl⟩
  rw [← hg] at HW ⊢
  have HG := Lib.hid hg
  clear hg
  have HIN := Lib.hid hin
  cases hd : d.down with
  | true =>
    have HWY : Hid (d.why (at_ : Int) = 6) := by show _ = _; unfold DS.why; rw [if_pos hd]
    have HO : Hid (d.openW at_ room = ⟨d, .dead at_ room, [], 6⟩) := by show _ = _; unfold DS.openW; rw [if_pos hd]
    clear hd
    go_loopw [54] (fun iv wr => iv = .int .i64 0 ∧ Hid (wr = W1)) (fun iv _ => 2 - (intOf iv).toNat)
    case atStart => exact ⟨rfl, rfl⟩
    case round =>
      obtain ⟨rfl, HR⟩ := hrel
      have hrd := read_bad wr _ k d (by rw [HR.out]; exact HW.out.dl.at_) (at_ : Int) (by rw [HWY.out]; decide)
      rw [HWY.out] at hrd
      have HRD := Lib.hid hrd
      clear hrd
      go_wp2_with fail
      refine HRD.out.mono ?_
      rintro e w2 ⟨rfl, rfl⟩
      go_wp2_with fail
      go_ret3
      rw [HO.out, HR.out]
      exact open_bad rfl (by decide) (HW.out.dl.more (by omega)) (Keeps.of_below HB1.out)
  | false =>
    have HD := Lib.hid hd
    have HO : Hid (d.openW at_ room = if (d.pick at_ room).1 = 0 then
        (if (d.head at_ 1 0).2 ≠ 0 then ⟨(d.head at_ 1 0).1, .dead at_ room, [], (d.head at_ 1 0).2⟩ else ⟨(d.head at_ 1 0).1, ⟨at_, room, 1, [], 0, false⟩, [], 0⟩)
      else (if (Wal.records (d.body at_ (d.pick at_ room).2)).2 ≠ 0 then ⟨d, .dead at_ room, [], (Wal.records (d.body at_ (d.pick at_ room).2)).2⟩
        else ⟨d, ⟨at_, room, (d.pick at_ room).1, d.body at_ (d.pick at_ room).2, (Wal.records (d.body at_ (d.pick at_ room).2)).1.length, false⟩, (Wal.records (d.body at_ (d.pick at_ room).2)).1, 0⟩)) := by
      show _ = _; unfold DS.openW; rw [if_neg (by rw [hd]; decide)]
    clear hd
    go_loopw [10, 54] (fun nv iv wr => ∃ i m : Nat, i ≤ 2 ∧ iv = .int .i64 i ∧ nv = .int .i64 (m : Nat) ∧ Hid (m = (d.picks at_ room i).2 ∧ WL w0 wr k g d ⟨at_, room, (d.picks at_ room i).1, [], 0, false⟩ n ∧ Below w.heap.size w wr)) (fun _ iv _ => 2 - (intOf iv).toNat)
    case atStart => exact ⟨0, 0, by omega, rfl, rfl, rfl, HW.out, HB1.out⟩
    case round =>
      obtain ⟨i, m, hi, rfl, rfl, HJ⟩ := hrel
      clear HW HB1
      rcases Nat.lt_or_ge i 2 with hlt | hge
      · have hii : (i : Int) < 2 := by omega
        have hbl : at_ + i < d.blocks.length := by have := HIN.out; omega
        have HRD := Lib.hid (read_blk wr _ k d HJ.out.2.1.dl.at_ (at_ + i) hbl HD.out ((at_ : Int) + (i : Int)) (by omega))
        have HPS : Hid (d.picks at_ room (i + 1) = if (d.picks at_ room i).1 < (Wal.right (d.block (at_ + i)) room).1 then Wal.right (d.block (at_ + i)) room else d.picks at_ room i) := rfl
        have HPL := Lib.hid (d.picks_le at_ room i)
        go_wp2_with fail
        refine HRD.out.mono ?_
        rintro e w2 ⟨A2, c2, rfl, ho2, hb2⟩
        have HRT := Lib.hid (right_any w2 A2 c2 (d.block (at_ + i)) ho2.row (DS.block_length _ _) (by have := ho2.cap; rw [DS.block_length] at this; exact this) room (by omega))
        have H2 := Lib.hid (And.intro (HJ.out.2.1.below hb2) (HJ.out.2.2.trans (hb2.mono HJ.out.2.2.size)))
        obtain ⟨A0, c0, hc, hc2, -⟩ := H2.out.1.log.cells
        have HRL := Lib.hid (Wal.right_le (d.block (at_ + i)) room)
        generalize Wal.right (d.block (at_ + i)) room = rr at HRT HPS HRL
        obtain ⟨s1, m1⟩ := rr
        generalize hpp : d.picks at_ room i = pp at HPS hc H2 HPL HJ
        obtain ⟨s0, m0⟩ := pp
        have HPP := Lib.hid hpp
        clear ho2 hb2 HRD hpp
        simp only at hc HRT HPS HRL HPL
        go_wp2_with fail
        refine HRT.out.mono ?_
        rintro e w3 ⟨rfl, hb3⟩
        have H3 := Lib.hid (And.intro (H2.out.1.below hb3) (H2.out.2.trans (hb3.mono H2.out.2.size)))
        clear hb3 HRT hc hc2 H2
        obtain ⟨A0, c0, hc, hc2, -⟩ := H3.out.1.log.cells
        rcases Nat.lt_or_ge s0 s1 with hss | hss
        · have hs1 : (s0 : Int) < (s1 : Int) := by omega
          have HP1 : Hid (d.picks at_ room (i + 1) = (s1, m1)) := by show _ = _; rw [HPS.out, if_pos hss]
          clear hss
          go_wp2_with fail
          go_roundw
          case rel => exact ⟨i + 1, m1, by omega, by go_num, rfl, by rw [HP1.out], by rw [HP1.out]; exact H3.out.1.store (grown_store _ _ _ _) (H3.out.1.log.setSeq HRL.out.2), H3.out.2.setCell (p := ⟨g, 3, none⟩) (by rw [HG.out]; exact Nat.le_refl _) _⟩
          case measure => simp [intOf]; omega
        · have hs1 : ¬ (s0 : Int) < (s1 : Int) := by omega
          have HP1 : Hid (d.picks at_ room (i + 1) = (s0, m0)) := by show _ = _; rw [HPS.out, if_neg (by omega)]
          clear hss
          go_wp2_with fail
          go_roundw
          case rel => exact ⟨i + 1, m, by omega, by go_num, rfl, by rw [HP1.out]; exact HJ.out.1, by rw [HP1.out]; exact H3.out.1, H3.out.2⟩
          case measure => simp [intOf]; omega
      · obtain rfl : i = 2 := by omega
        rw [DS.picks_two] at HJ
        have hpr : (d.pick at_ room).2 ≤ room := by have := (d.picks_le at_ room 2).1; rwa [DS.picks_two] at this
        generalize d.pick at_ room = pp at HJ HO hpr
        obtain ⟨s1, m1⟩ := pp
        simp only at HJ HO hpr
        obtain rfl : m = m1 := HJ.out.1
        obtain ⟨A0, c0, hc, hc2, -⟩ := HJ.out.2.1.log.cells
        simp only at hc
        clear hi hge
        rcases Nat.eq_zero_or_pos s1 with hs | hs
        · subst hs
          rw [if_pos rfl] at HO
          have HH := Lib.hid (head_any w0 wr k g n d _ HJ.out.2.1 hn 1 0 (by decide) (by omega))
          unfold HeadOk LS.headed at HH
          simp only at HH
          generalize d.head at_ 1 0 = rr at HH HO
          obtain ⟨d2, e2⟩ := rr
          go_wp2_with fail
          refine HH.out.mono ?_
          rintro e w3 ⟨rfl, hw3, hk3⟩
          have HK3 := Lib.hid (keeps_new HJ.out.2.2 hk3 (by rw [HG.out]; exact Nat.le_refl _))
          have HW3 := Lib.hid hw3
          clear HH hw3 hk3 hc hc2
          rcases Classical.em (e2 = 0) with he | he
          · subst he
            rw [if_neg (by simp)] at HO
            rw [if_pos rfl] at HW3
            go_wp2_with fail
            go_ret3
            rw [HO.out]
            exact ⟨fun _ => ⟨g, none, 0, [], rfl, by rw [HG.out]; exact Nat.le_refl _, HW3.out, EOwn.nil _ _, ⟨rfl, fun p hp => by cases hp⟩, HK3.out⟩, fun h => absurd rfl h⟩
          · have he1 : (e2 != 0) = true := by simpa using he
            rw [if_pos he] at HO
            have HE := Lib.hid he
            clear he
            go_wp2_with fail
            go_ret3
            rw [HO.out]
            exact open_bad rfl HE.out HW3.out.dl HK3.out
        · have hs0 : ((s1 : Int) == 0) = false := by simp; omega
          rw [if_neg (by omega)] at HO
          go_wp2_with fail
          have HJ2 := Lib.hid HJ.out.2
          clear HJ hc hc2 hs hs0
          obtain ⟨wo, rfl⟩ : ∃ wo : World, wo = wr := ⟨_, rfl⟩
          go_loopw [17, 18] (fun av iv wq => ∃ (j q : Nat) (Aa : Option Addr) (ca : Nat), iv = .int .i64 (q : Nat) ∧ av = .slice Aa q ca ∧ q = j * 512 ∧ q < m + 512 ∧ Hid (BOwn wq wo.heap.size Aa ca (d.bytes (at_ + 2) j) ∧ Below wo.heap.size wo wq)) (fun _ iv _ => m + 512 - (intOf iv).toNat)
          case atStart => exact ⟨0, 0, none, 0, rfl, rfl, rfl, by omega, BOwn.nil _ _, Below.refl _ _⟩
          case round =>
            obtain ⟨j, q, Aa, ca, rfl, rfl, hqj, hqm, HJ⟩ := hrel
            have HWQ := Lib.hid (HJ2.out.1.below HJ.out.2)
            rcases Nat.lt_or_ge q m with hlt | hge
            · have hii : (q : Int) < (m : Int) := by omega
              have hbl : at_ + 2 + j < d.blocks.length := by have := HIN.out; have := HROOM.out; omega
              have HRD := Lib.hid (read_blk wr _ k d HWQ.out.dl.at_ (at_ + 2 + j) hbl HD.out ((at_ : Int) + 2 + (j : Int)) (by omega))
              have hqd : (q : Int) / 512 = (j : Int) := by omega
              have hql : q = (d.bytes (at_ + 2) j).length := by rw [DS.bytes_length]; exact hqj
              have HQ := Lib.hid (And.intro hqj hql)
              have hq6 : q ≤ 512000 := by omega
              clear hqj hql
              go_wp2_with fail
              refine HRD.out.mono ?_
              rintro e w5 ⟨A5, c5, rfl, ho5, hb5⟩
              have H5 := Lib.hid (And.intro (HJ.out.1.below hb5) (And.intro (HJ.out.2.trans (hb5.mono HJ.out.2.size)) ho5.row))
              clear ho5 hb5 HRD HJ
              have HBL := Lib.hid (DS.block_length d (at_ + 2 + j))
              go_wp2_with (at_builtin; refine wpList_append_bytes rfl (.tmp 118) (.tmp 119) rfl q rfl H5.out.1 HQ.out.2 512 rfl H5.out.2.2 HBL.out.symm (by rw [← HQ.out.2, HBL.out]; omega) H5.out.2.1.size ?_; intro A6 c6 w6 ho6 hb6 _ _)
              go_roundw
              case rel => exact ⟨j + 1, q + 512, A6, c6, by go_num, by rw [← HQ.out.2, HBL.out], by have := HQ.out.1; omega, by omega, by rw [DS.bytes_succ]; exact ho6, H5.out.2.1.trans hb6⟩
              case measure => simp [intOf]; omega
            · have hii : ¬ (q : Int) < (m : Int) := by omega
              have HBY : Hid (d.body at_ m = (d.bytes (at_ + 2) j).take m) := by
                show _ = _
                unfold DS.body
                rw [show (m + 511) / 512 = j from by omega]
              have hca := HJ.out.1.cap
              rw [DS.bytes_length, ← hqj] at hca
              have hsl := cut_h Aa q ca (m : Int) m rfl (by omega)
              have HCP := Lib.hid (bclip_any wr Aa m ca (by omega))
              obtain ⟨A0, c0, hc, hc2, -⟩ := HWQ.out.log.cells
              simp only at hc
              have HLN := Lib.hid (d.body_length at_ m)
              have HBX : Hid (BRowX k.own wr Aa (d.body at_ m)) := by
                rw [HBY.out]
                refine ⟨HJ.out.1.row.take m, fun _ a ha => ⟨fun hs => ?_, HJ.out.1.u8 a ha⟩⟩
                have h1 := (HJ.out.1.block a ha).1
                have h2 := HJ2.out.1.dl.own_lt _ hs
                omega
              have HBB : Hid (Below w.heap.size w wr) := HJ2.out.2.trans (HJ.out.2.mono HJ2.out.2.size)
              have hml : m ≤ maxLen := by unfold maxLen; omega
              have HML := Lib.hid hml
              clear hqj hml HJ HBY
              go_wp2_with fail
              refine HCP.out.mono ?_
              rintro e w5 ⟨⟨A5, rfl, rfl⟩, rfl⟩
              go_wp2_with fail
              have HL4 : Hid (WL w0 (wr.setCell ⟨g, 4, none⟩ (.slice A5 m m)) k g d ⟨at_, room, s1, d.body at_ m, 0, false⟩ n ∧ Below w.heap.size w (wr.setCell ⟨g, 4, none⟩ (.slice A5 m m)) ∧ BRow (wr.setCell ⟨g, 4, none⟩ (.slice A5 m m)) A5 (d.body at_ m)) := by
                have := HWQ.out.log.set4 (A := A5) (c := m) (b := d.body at_ m) HBX.out (by rw [HLN.out]; exact Nat.le_refl _) HML.out (by rw [HLN.out]; exact hpr) (Nat.zero_le _)
                rw [HLN.out] at this
                obtain ⟨cs, hbk⟩ := HWQ.out.log.blk
                exact ⟨HWQ.out.store (grown_store _ _ _ _) this, HBB.out.setCell (p := ⟨g, 4, none⟩) (by rw [HG.out]; exact Nat.le_refl _) _, (HBX.out.blk hbk (by decide) (grown_store _ _ _ _)).row⟩
              clear hc hc2 hsl
              generalize (World.setCell wr ⟨g, 4, none⟩ (.slice A5 m m)) = w6 at HL4 ⊢
              have hpa := parse_any k.own w6 HL4.out.1.dl.own_lt A5 m (d.body at_ m) HL4.out.2.2 (by rw [HLN.out]; omega) (by rw [HLN.out]; exact Nat.le_refl _) (by have := HML.out; unfold maxLen at this; exact this)
              rw [HLN.out] at hpa
              have HPA := Lib.hid hpa
              have HRL := Lib.hid (records_length (d.body at_ m))
              clear hpa
              generalize Wal.records (d.body at_ m) = rr at HPA HO HRL
              obtain ⟨rs, e7⟩ := rr
              simp only at HO HRL
              refine HPA.out.mono ?_
              rintro e w7 ⟨A7, c7, ps, rfl, ho7, hp7, hb7⟩
              have H7 := Lib.hid (And.intro (HL4.out.1.below hb7) (And.intro (HL4.out.2.1.trans (hb7.mono HL4.out.2.1.size)) (And.intro (ho7.mono HL4.out.2.1.size) hp7)))
              have hpl : ps.length = rs.length := by
                have hp1 : ps.map (·.l) = rs := hp7.1
                rw [← hp1]; simp
              have HPL := Lib.hid hpl
              clear ho7 hp7 hb7 HPA hpl
              obtain ⟨A0, c0, hc, hc2, -⟩ := H7.out.1.log.cells
              simp only at hc
              rcases Classical.em (e7 = 0) with he | he
              · subst he
                rw [if_neg (by simp)] at HO
                go_wp2_with fail
                go_ret3
                rw [HO.out]
                obtain ⟨cs, hbk⟩ := H7.out.1.log.blk
                refine ⟨fun _ => ⟨g, A7, c7, ps, rfl, by rw [HG.out]; exact Nat.le_refl _, ?_, ?_, ?_, ?_⟩, fun h => absurd rfl h⟩
                · have := H7.out.1.log.set5 (n := rs.length) HRL.out
                  rw [← HPL.out] at this ⊢
                  exact ⟨(H7.out.1.store (grown_store _ _ _ _) this).dl.more (by omega), this⟩
                · exact H7.out.2.2.1.keptG hbk (by decide) (grown_store _ _ _ _)
                · exact H7.out.2.2.2.keepB (by simp) fun i hu _ => heap_setCell_other _ _ _ _ (by
                    rintro rfl
                    obtain ⟨cur, fr, hq⟩ := hu
                    rw [hbk] at hq
                    simp only [Option.some.injEq, Obj.cells.injEq] at hq
                    exact absurd hq.2.1 (by decide))
                · exact Keeps.of_below (H7.out.2.1.setCell (p := ⟨g, 5, none⟩) (by rw [HG.out]; exact Nat.le_refl _) _)
              · have he1 : (e7 != 0) = true := by simpa using he
                rw [if_pos he] at HO
                have HE := Lib.hid he
                clear he
                go_wp2_with fail
                go_ret3
                rw [HO.out]
                exact open_bad rfl HE.out (H7.out.1.dl.more (by omega)) (Keeps.of_below H7.out.2.1)
end Go.Proofs.Ythbanhedjfpmaaa
end

section
/-
  The journal's laws: 'lives' is true.
-/
namespace Go.Proofs.Ythbanhedjfpmaaa
set_option linter.unusedSimpArgs false
set_option linter.unusedVariables false
open Go.RowKit

theorem parts_nil {S : Nat → Prop} {w : World} {ps : List Part} (h : PartsX S w ps []) : ps = [] := by
  have := h.1
  cases ps with
  | nil => rfl
  | cons p ps => simp at this
theorem ERow.two {w : World} (p q : Part) (g : Nat) (hg : g = w.heap.size) : ERow ePart (w.alloc (.cells #[p.v, q.v] ePart.e)) (some ⟨g, 0, none⟩) [p, q] := by
  subst hg
  exact (EOwn.new (B := 0) w [p, q] (by simp [maxLen]) (Nat.zero_le _) #[p.v, q.v] rfl).row
set_option maxRecDepth 20000 in
set_option maxHeartbeats 1000000 in
theorem wlives_any (w : World) : Calls Try.prog 31 #[] w fun e w' => e = .returned (.bool true) ∧ Below w.heap.size w w' := by
  have kc := run_const_bytes
  go_enter Try.func31, Try.ntmps31
  go_wp2_with fail
  refine (DL.new (w0 := w) 4 (by decide) (by decide) (Below.refl _ _)).mono ?_
  rintro e w1 ⟨k, rfl, hL1, -⟩
  have HL1 := Lib.hid hL1
  clear hL1
  go_wp2_with fail
  obtain ⟨ho, hj, -⟩ := open_new (n := 4) (at_ := 1) (room := 512) (by decide) (by decide) (by decide)
  have hop := open_any w w1 k (DS.new 4) 0 HL1.out (by decide) 1 3 (by decide) (by decide) (by decide)
  rw [show (3 - 2) * 512 = 512 from rfl, ho] at hop
  refine hop.mono ?_
  rintro e w2 ⟨h0, -⟩
  obtain ⟨g, A, c, ps, rfl, hg, hw, ho2, hp, hk⟩ := h0 rfl
  obtain rfl := parts_nil hp
  generalize ((DS.new 4).head 1 1 0).1 = d1 at hj hw
  have HJ := Lib.hid hj
  have HW := Lib.hid hw
  clear hop h0 ho hj hw ho2 hp hk HL1
  simp only [List.length_nil]
  go_wp2_with fail
  clear kc
  have H3 : Hid (WL w ((w2.alloc (.cells #[.int .u8 97, .int .u8 98] 5 (2, 3))).alloc (.cells #[.slice (some ⟨w2.heap.size, 0, none⟩) 2 2, .slice none 0 0] 33)) k g d1 ⟨1, 512, 1, [], 0, false⟩ (0 + 2) ∧ ERow ePart ((w2.alloc (.cells #[.int .u8 97, .int .u8 98] 5 (2, 3))).alloc (.cells #[.slice (some ⟨w2.heap.size, 0, none⟩) 2 2, .slice none 0 0] 33)) (some ⟨w2.heap.size + 1, 0, none⟩) [⟨some ⟨w2.heap.size, 0, none⟩, 2, [97, 98]⟩, ⟨none, 0, []⟩] ∧
      (∀ p ∈ [(⟨some ⟨w2.heap.size, 0, none⟩, 2, [97, 98]⟩ : Part), ⟨none, 0, []⟩], p.ok ((w2.alloc (.cells #[.int .u8 97, .int .u8 98] 5 (2, 3))).alloc (.cells #[.slice (some ⟨w2.heap.size, 0, none⟩) 2 2, .slice none 0 0] 33)))) := by
    refine ⟨HW.out.below ((Below.alloc1 _ _).then (Below.alloc1 _ _)), ERow.two ⟨some ⟨w2.heap.size, 0, none⟩, 2, [97, 98]⟩ ⟨none, 0, []⟩ _ (by simp), fun p hp => ?_⟩
    simp only [List.mem_cons, List.not_mem_nil, or_false] at hp
    rcases hp with rfl | rfl
    · exact ⟨BRow.below (w := w2.alloc (.cells #[.int .u8 97, .int .u8 98] 5 (2, 3))) (Row.newMark w2 [.int .u8 97, .int .u8 98] _ _) (Below.alloc1 _ _), by simp⟩
    · exact ⟨BRow.nil, by decide⟩
  generalize ((w2.alloc _).alloc _) = w3 at H3 ⊢
  obtain ⟨d4, h4, hj4⟩ := HJ.out.add (recs := [[97, 98], []]) (by simp) (by decide) (by decide +kernel) (by intro s hs; simp at hs; rcases hs with rfl | rfl <;> decide) (by decide +kernel)
  have hadd := wadd_any w w3 k g (0 + 2) _ _ H3.out.1 (by decide) (some ⟨w2.heap.size + 1, 0, none⟩) 2 [⟨some ⟨w2.heap.size, 0, none⟩, 2, [97, 98]⟩, ⟨none, 0, []⟩] H3.out.2.1 H3.out.2.2 (by simp)
  simp only [List.map_cons, List.map_nil] at hadd
  rw [h4] at hadd
  refine hadd.mono ?_
  rintro e w5 ⟨rfl, hw5, hk5⟩
  have HJ5 := Lib.hid hj4
  have HW5 := Lib.hid hw5
  clear hadd h4 hj4 hw5 hk5 H3 HW HJ
  simp only at HW5
  go_wp2_with fail
  have hop := open_any w w5 k d4 _ HW5.out.dl (by decide) 1 3 (by decide) (by decide) (by rw [HJ5.out.still.len]; decide)
  have hjo := HJ5.out.open_
  simp only at hjo
  rw [show (3 - 2) * 512 = 512 from rfl, hjo] at hop
  refine hop.mono ?_
  rintro e w6 ⟨h0, -⟩
  obtain ⟨g6, A6, c6, ps6, rfl, hg6, hw6, ho6, hp6, hk6⟩ := h0 rfl
  have HL6 := Lib.hid (And.intro (HW5.out.log.kept hk6) hw6.dl.bel)
  have HB6 := Lib.hid hw6
  have hm : ps6.map (·.l) = [[97, 98], []] := hp6.1
  obtain ⟨p, q, rfl⟩ : ∃ p q, ps6 = [p, q] := by
    have := congrArg List.length hm
    rcases ps6 with _ | ⟨p, _ | ⟨q, _ | ⟨r, t⟩⟩⟩ <;> simp at this
    exact ⟨p, q, rfl⟩
  simp only [List.map_cons, List.map_nil, List.cons.injEq, and_true] at hm
  obtain ⟨hpl, hql⟩ := hm
  have hP := hp6.2 p (by simp)
  obtain ⟨b6, o6, rfl, hb6, hc6⟩ := ho6.row.at_ (j := 0) (by simp)
  obtain ⟨b6', o6', e6, -, hc7⟩ := ho6.row.at_ (j := 1) (by simp)
  simp only [Option.some.injEq, Addr.mk.injEq] at e6
  obtain ⟨rfl, rfl, -⟩ := e6
  have hx0 := hc6 0 _ rfl
  have hx1 := hc7 0 _ rfl
  have hcv := run_string_bytes w6 p.c hP.1.1
  simp only [List.getElem_cons_zero, List.getElem_cons_succ, Part.v, show (ePart.sz : Nat) = 1 from rfl] at hx0 hx1
  rw [hpl] at hx0 hcv
  rw [hql] at hx1
  simp only [List.length_cons, List.length_nil, Nat.zero_add, Nat.reduceAdd, Nat.zero_mul, Nat.add_zero, Nat.one_mul] at hx0 hx1 hcv
  unfold txt at hcv
  have HRM := Lib.hid (wroom_any w6 _ k g _ HL6.out.1)
  have HLN := Lib.hid (fun W hW => wlen_any W _ k g _ (HL6.out.1.below (w' := W) hW))
  have hfl : (Wal.frames [[97, 98], []]).length = 12 := by decide +kernel
  simp only [List.nil_append, hfl] at HRM
  clear hop hjo h0 ho6 hp6 hk6 hw6 hP hc6 hc7 HW5 HJ5
  simp only [List.length_cons, List.length_nil, Nat.zero_add, Nat.reduceAdd]
  go_wp2_with fail
  refine HRM.out.mono ?_
  rintro e w7 ⟨rfl, rfl⟩
  go_wp2_with fail
  refine (HLN.out _ (Below.refl _ _).drewR).mono ?_
  rintro e w7 ⟨rfl, rfl⟩
  go_wp2_with fail
  go_ret
  exact ⟨rfl, HL6.out.2.drewR⟩
end Go.Proofs.Ythbanhedjfpmaaa
end

section
/-
  The laws' small functions: the texts of bytes, whether they are the same, whether a script fits.
-/
namespace Go.Proofs.Ythbanhedjfpmaaa
set_option linter.unusedSimpArgs false
set_option linter.unusedVariables false
open Go.RowKit

theorem str_lit {w : World} (l : List UInt8) (g : Nat) (hg : g = w.heap.size) : ERow eStr (w.alloc (.cells #[txt l] eStr.e)) (some ⟨g, 0, none⟩) [l] := ERow.lit eStr w l #[txt l] rfl g hg
theorem part_cell {w : World} {A : Option Addr} {ps : List Part} (h : ERow ePart w A ps) {i : Nat} (hi : i < ps.length) : ∃ b o, A = some ⟨b, o, none⟩ ∧ b < w.heap.size ∧ w.cell? ⟨b, o + i, none⟩ = some (.slice ps[i].a ps[i].l.length ps[i].c) := by
  obtain ⟨b, o, e, hb, hc⟩ := h.at_ hi
  have := hc 0 _ rfl
  rw [show i * ePart.sz + 0 = i from Nat.mul_one i] at this
  exact ⟨b, o, e, hb, this⟩
/-- The texts of bytes, in a row of the call's own. -/
def RetTexts (w : World) (n : Nat) (L : List (List UInt8)) (e : Ending) (w' : World) : Prop := ∃ A c, e = .returned (.slice A n c) ∧ EOwn eStr w' w.heap.size A c L ∧ Below w.heap.size w w'
set_option maxRecDepth 20000 in
set_option maxHeartbeats 1000000 in
theorem texts_any (w : World) (A : Option Addr) (c : Nat) (ps : List Part) (hr : ERow ePart w A ps) (hp : ∀ p ∈ ps, p.ok w) (hn : ps.length ≤ 1000000) :
    Calls Try.prog 41 #[.slice A ps.length c] w (RetTexts w ps.length (ps.map (·.l))) := by
  have HR := Lib.hid (And.intro hr hp)
  clear hr hp
  go_enter Try.func41, Try.ntmps41
  go_wp2_with fail
  go_loopw [3, 8] (fun av iv wq => ∃ (i : Nat) (Aa : Option Addr) (ca : Nat), i ≤ ps.length ∧ iv = .int .i64 (i : Nat) ∧ av = .slice Aa i ca ∧ Hid (EOwn eStr wq w.heap.size Aa ca ((ps.take i).map (·.l)) ∧ Below w.heap.size w wq)) (fun _ iv _ => ps.length - (intOf iv).toNat)
  case atStart => exact ⟨0, none, 0, Nat.zero_le _, rfl, rfl, EOwn.nil _ _, Below.refl _ _⟩
  case round =>
    obtain ⟨i, Aa, ca, hi, rfl, rfl, HJ⟩ := hrel
    rcases Nat.lt_or_ge i ps.length with hlt | hge
    · have hii : (i : Int) < (ps.length : Int) := by omega
      obtain ⟨b, o, rfl, hb, hce⟩ := part_cell (HR.out.1.below HJ.out.2) hlt
      have HOK := Lib.hid (HR.out.2 ps[i] (List.getElem_mem hlt))
      have HT : Hid ((ps.take (i + 1)).map (·.l) = (ps.take i).map (·.l) ++ [ps[i].l]) := by show _ = _; rw [List.take_succ_eq_append_getElem hlt, List.map_append]; rfl
      generalize ps[i] = p at hce HOK HT
      have hcv := run_string_bytes wr p.c (HOK.out.1.below HJ.out.2)
      have HL : Hid (i = ((ps.take i).map (·.l)).length) := by show _ = _; rw [List.length_map, List.length_take, Nat.min_eq_left (by omega)]
      unfold txt at hcv
      go_wp2_with (at_builtin; refine wpList_append_elems eStr rfl (.tmp 12) (.tmp 15) rfl i rfl (HJ.out.1.below (Below.alloc1 _ _)) HL.out 1 rfl (str_lit p.l _ rfl) rfl (by rw [← HL.out]; simp; omega) (by have := HJ.out.2.size; simp; omega) ?_; intro A3 c3 w3 ho3 hb3 _ _; rw [← HL.out])
      go_roundw
      case rel => exact ⟨i + 1, A3, c3, by omega, by go_num, rfl, by rw [HT.out]; exact ho3, HJ.out.2.trans (((Below.alloc1 _ _).mono HJ.out.2.size).trans hb3)⟩
      case measure => simp [intOf]; omega
    · obtain rfl : i = ps.length := by omega
      have hii : ¬ ((ps.length : Nat) : Int) < ((ps.length : Nat) : Int) := by omega
      go_wp2_with fail
      go_ret
      have := HJ.out
      rw [List.take_length] at this
      exact ⟨Aa, ca, rfl, this⟩
set_option maxRecDepth 20000 in
set_option maxHeartbeats 1000000 in
theorem same_any (w : World) (A : Option Addr) (c : Nat) (ps : List Part) (hr : ERow ePart w A ps) (hp : ∀ p ∈ ps, p.ok w) (As : Option Addr) (cs : Nat) (L : List (List UInt8)) (hs : ERow eStr w As L) (hn : L.length ≤ 1000000) :
    Calls Try.prog 42 #[.slice A ps.length c, .slice As L.length cs] w fun e w' => e = .returned (.bool (decide (ps.map (·.l) = L))) ∧ w = w' := by
  have HR := Lib.hid (And.intro hr (And.intro hp hs))
  clear hr hp hs
  rcases Classical.em (ps.length = L.length) with hl | hl
  · have hne : ((ps.length : Int) != (L.length : Int)) = false := by simp [hl]
    go_enter Try.func42, Try.ntmps42
    go_wp2_with fail
    go_loopw [14] (fun iv wq => ∃ (i : Nat), i ≤ L.length ∧ iv = .int .i64 (i : Nat) ∧ Hid (wq = w ∧ (ps.take i).map (·.l) = L.take i)) (fun iv _ => L.length - (intOf iv).toNat)
    case atStart => exact ⟨0, Nat.zero_le _, rfl, rfl, by simp⟩
    case round =>
      obtain ⟨i, hi, rfl, HJ⟩ := hrel
      obtain rfl : wr = w := HJ.out.1
      rcases Nat.lt_or_ge i L.length with hlt | hge
      · have hii : (i : Int) < (L.length : Int) := by omega
        have hlp : i < ps.length := by omega
        have hi2 : (i : Int) < (ps.length : Int) := by omega
        obtain ⟨b, o, rfl, hb, hce⟩ := part_cell HR.out.1 hlp
        obtain ⟨b2, o2, rfl, hb2, hce2⟩ := str_at HR.out.2.2 hlt
        have HOK := Lib.hid (HR.out.2.1 ps[i] (List.getElem_mem hlp))
        have HT : Hid ((ps.take (i + 1)).map (·.l) = L.take i ++ [ps[i].l] ∧ L.take (i + 1) = L.take i ++ [L[i]]) := ⟨by rw [List.take_succ_eq_append_getElem hlp, List.map_append, HJ.out.2]; rfl, List.take_succ_eq_append_getElem hlt⟩
        have HF : Hid (ps[i].l ≠ L[i] → ps.map (·.l) ≠ L) := fun h e => h (by
          have : (ps.map (·.l))[i]'(by rw [List.length_map]; exact hlp) = L[i] := by simp only [e]
          simpa using this)
        generalize ps[i] = p at hce HOK HT HF
        generalize L[i] = t at hce2 HT HF
        have hcv := run_string_bytes wr p.c HOK.out.1
        unfold txt at hcv
        rcases Classical.em (p.l = t) with he | he
        · subst he
          go_wp2_with fail
          go_roundw
          case rel => exact ⟨i + 1, by omega, by go_num, ⟨trivial, by rw [HT.out.1, HT.out.2]⟩⟩
          case measure => simp [intOf]; omega
        · have HX : Hid (decide (ps.map (·.l) = L) = false) := by show _ = _; simpa using HF.out he
          have hbq : (p.l == t) = false := by simpa using he
          go_wp2_with fail
          go_ret
          exact ⟨by rw [HX.out]; rfl, rfl⟩
      · obtain rfl : i = L.length := by omega
        have hii : ¬ ((L.length : Nat) : Int) < ((L.length : Nat) : Int) := by omega
        have HX : Hid (decide (ps.map (·.l) = L) = true) := by
          have := HJ.out.2
          rw [List.take_length, List.take_of_length_le (by omega)] at this
          show _ = _
          simpa using this
        go_wp2_with fail
        go_ret
        exact ⟨by rw [HX.out]; rfl, rfl⟩
  · have hne : ((ps.length : Int) != (L.length : Int)) = true := by simp; omega
    have HX : Hid (decide (ps.map (·.l) = L) = false) := by
      have : ps.map (·.l) ≠ L := fun e => hl (by rw [← e, List.length_map])
      show _ = _
      simpa using this
    clear hl
    go_enter Try.func42, Try.ntmps42
    go_wp2_with fail
    go_ret
    exact ⟨by rw [HX.out]; rfl, rfl⟩
end Go.Proofs.Ythbanhedjfpmaaa
end

section
/-
  The Ops of dowserlaw04, and rows of bytes, that came in; whether a script fits.
-/
namespace Go.Proofs.Ythbanhedjfpmaaa
set_option linter.unusedSimpArgs false
set_option linter.unusedVariables false
open Go.RowKit Go.Deep Go.WideShapes Go.ChangeShapes

structure OpW where
  k : Int
  A : Option Addr
  cap : Nat
  ps : List Part
  f : DF
instance : Inhabited Part := ⟨⟨none, 0, []⟩⟩
instance : Inhabited OpW := ⟨⟨0, none, 0, [], ⟨0, 0, 0⟩⟩⟩
def eOpW : Elem OpW where
  e := 66
  t := 67
  sz := 5
  bytes := 56
  zero := .agg #[.int .i64 0, .slice none 0 0, .int .i64 0, .int .u64 0, .int .i64 0]
  code := fun o => [.int .i64 o.k, .slice o.A o.ps.length o.cap, .int .i64 o.f.at_, .int .u64 (o.f.keep : Nat), .int .i64 o.f.torn]
  pos := by decide
  few := by decide
  len := fun _ => rfl
  one := by
    intro x u hu
    simp at hu
    rcases hu with rfl | rfl | rfl | rfl | rfl <;> rfl
  zsz := rfl
  info := by kernel_rfl
  under := Try.underlying67
/-- Texts that came in. -/
structure PartsIn (w : World) (A : Option Addr) (c : Nat) (ps : List Part) : Prop where
  row : ERow ePart w A ps
  ok : ∀ p ∈ ps, p.ok w
  len : ps.length ≤ c
  cap : c ≤ maxLen
theorem PartsIn.below {w w' : World} {A : Option Addr} {c : Nat} {ps : List Part} (h : PartsIn w A c ps) (hb : Below w.heap.size w w') : PartsIn w' A c ps :=
  ⟨h.row.below hb, fun p hp => ⟨(h.ok p hp).1.below hb, (h.ok p hp).2⟩, h.len, h.cap⟩
structure OpW.Fine (w : World) (o : OpW) : Prop where
  k : i64B o.k
  ps : PartsIn w o.A o.cap o.ps
  at_ : i64B o.f.at_
  f : o.f.Fine
def ScriptW (w : World) (v : Value) : Prop := ∃ A c L, v = .slice A (List.length L) c ∧ ERow eOpW w A L ∧ (∀ o ∈ L, o.Fine w) ∧ L.length ≤ c ∧ c ≤ maxLen
def PartsW (w : World) (v : Value) : Prop := ∃ A c ps, v = .slice A (List.length ps) c ∧ PartsIn w A c ps
def FallW (v : Value) : Prop := ∃ f : DF, v = .agg (eDF.code f).toArray ∧ f.Fine ∧ i64B f.at_
section
variable {H : Type} {enc : TypeId × Value → H} {w : World} {base : Nat} {spare : Nat → Bool} {held : Bool} {fuel : Nat} {cs : List Value} {x : DataW H × List MemPlace}
set_option maxRecDepth 20000 in
theorem open_fallB (h : DataW.trod enc Try.prog w base spare held fuel 25 cs = some x) (hlen : cs.length = 3) : ∃ f : DF, cs = eDF.code f ∧ f.Fine ∧ i64B f.at_ := by
  obtain ⟨xs, k, rfl, rfl, _, hxl, hfs⟩ := DataW.trod_struct Try.underlying25 h
  match xs, hxl, cs, hlen with
  | [y0, y1, y2], _, [v0, v1, v2], _ =>
    have g0 := hfs 0 _ rfl
    have g1 := hfs 1 _ rfl
    have g2 := hfs 2 _ rfl
    obtain ⟨n0, e0, b0⟩ := open_i64 Try.underlying3 (by simpa using g0)
    obtain ⟨n1, e1, b1⟩ := open_u64 Try.underlying23 (by simpa using g1)
    obtain ⟨n2, e2, b2⟩ := open_i64 Try.underlying3 (by simpa using g2)
    have q3 : Try.prog.cellsOf 3 = 1 := by kernel_rfl
    have q4 : Try.prog.cellsOf 23 = 1 := by kernel_rfl
    have e0' : v0 = .int .i64 n0 := by simpa [q3] using e0
    have e1' : v1 = .int .u64 (n1 : Int) := by simpa [q4] using e1
    have e2' : v2 = .int .i64 n2 := by simpa [q3] using e2
    subst e0' e1' e2'
    exact ⟨⟨n0, n1, n2⟩, rfl, ⟨b1, b2⟩, b0⟩
theorem open_part (h : DataW.trod enc Try.prog w base spare held fuel 33 cs = some x) : ∃ p : Part, cs = ePart.code p ∧ p.ok w := by
  obtain ⟨A, l, c, e, hr, hl, hm⟩ := open_bytes h
  exact ⟨⟨A, c, l⟩, e, hr, by unfold maxLen at hm; show l.length ≤ _; omega⟩
theorem open_parts (h : DataW.trod enc Try.prog w base spare held fuel 63 cs = some x) : ∃ A c ps, cs = [.slice A (List.length ps) c] ∧ PartsIn w A c ps := by
  obtain ⟨A, L, c, e, r, d, l, m⟩ := open_elems ePart (by kernel_rfl) (Part.ok w) (fun fuel cs x h _ => open_part h) h
  exact ⟨A, c, L, e, r, d, l, m⟩
set_option maxRecDepth 20000 in
theorem open_opw (h : DataW.trod enc Try.prog w base spare held fuel 66 cs = some x) (hlen : cs.length = 5) : ∃ o : OpW, cs = eOpW.code o ∧ o.Fine w := by
  obtain ⟨xs, k, rfl, rfl, _, hxl, hfs⟩ := DataW.trod_struct Try.underlying66 h
  match xs, hxl, cs, hlen with
  | [y0, y1, y2], _, [v0, v1, v2, v3, v4], _ =>
    have g0 := hfs 0 _ rfl
    have g1 := hfs 1 _ rfl
    have g2 := hfs 2 _ rfl
    have q3 : Try.prog.cellsOf 3 = 1 := by kernel_rfl
    have q4 : Try.prog.cellsOf 63 = 1 := by kernel_rfl
    have q7 : Try.prog.cellsOf 25 = 3 := by kernel_rfl
    obtain ⟨n0, e0, b0⟩ := open_i64 Try.underlying3 (by simpa using g0)
    obtain ⟨A, c, ps, e1, b1⟩ := open_parts (by simpa using g1)
    obtain ⟨n5, e5, b5, b6⟩ := open_fallB (by simpa using g2) (by simp [q7])
    have e0' : v0 = .int .i64 n0 := by simpa [q3] using e0
    have e1' : v1 = .slice A ps.length c := by simpa [q4] using e1
    have e5' : [v2, v3, v4] = eDF.code n5 := by simpa [q7] using e5
    subst e0' e1'
    obtain ⟨f0, f1, f2⟩ := n5
    simp [eDF] at e5'
    obtain ⟨rfl, rfl, rfl⟩ := e5'
    exact ⟨⟨n0, A, c, ps, ⟨f0, f1, f2⟩⟩, rfl, b0, b1, b6, b5⟩
end
set_option maxRecDepth 20000 in
theorem opw_in {H : Type} {enc : TypeId × Value → H} {w : World} {base : Nat} {v : Value} {d : DataW H} {p : List MemPlace}
    (_hv : Value.okWide Try.prog w .any base 67 v) (h : DataW.Trod enc Try.prog w 0 (fun _ => true) true 67 v d p) : ScriptW w v := by
  obtain ⟨a0, len0, cap0, rfl⟩ := okWide_slice Try.underlying67 _hv
  obtain ⟨fuel, hf⟩ := h
  obtain ⟨A, L, c, h1, h2, h3, h4, h5⟩ := open_elems eOpW (by kernel_rfl) (OpW.Fine w) (fun fuel cs x h hlen => open_opw h hlen) hf
  simp [Value.cells] at h1
  obtain ⟨rfl, rfl, rfl⟩ := h1
  exact ⟨_, _, L, rfl, h2, h3, h4, h5⟩
set_option maxRecDepth 20000 in
theorem parts_in {H : Type} {enc : TypeId × Value → H} {w : World} {base : Nat} {v : Value} {d : DataW H} {p : List MemPlace}
    (_hv : Value.okWide Try.prog w .any base 63 v) (h : DataW.Trod enc Try.prog w 0 (fun _ => true) true 63 v d p) : PartsW w v := by
  obtain ⟨a0, len0, cap0, rfl⟩ := okWide_slice Try.underlying63 _hv
  obtain ⟨fuel, hf⟩ := h
  obtain ⟨A, c, ps, h1, h2⟩ := open_parts hf
  simp [Value.cells] at h1
  obtain ⟨rfl, rfl, rfl⟩ := h1
  exact ⟨_, _, ps, rfl, h2⟩

theorem opw_at {w : World} {A : Option Addr} {L : List OpW} (h : ERow eOpW w A L) {i : Nat} (hi : i < L.length) : ∃ b o, A = some ⟨b, o, none⟩ ∧ b < w.heap.size ∧
    (w.cell? ⟨b, o + i * 5, none⟩ = some (.int .i64 L[i].k) ∧ w.cell? ⟨b, o + i * 5 + 1, none⟩ = some (.slice L[i].A L[i].ps.length L[i].cap) ∧ w.cell? ⟨b, o + i * 5 + 2, none⟩ = some (.int .i64 L[i].f.at_) ∧
    w.cell? ⟨b, o + i * 5 + 3, none⟩ = some (.int .u64 (L[i].f.keep : Nat)) ∧ w.cell? ⟨b, o + i * 5 + 4, none⟩ = some (.int .i64 L[i].f.torn)) := by
  obtain ⟨b, o, e, hb, hc⟩ := h.at_ hi
  exact ⟨b, o, e, hb, hc 0 _ rfl, hc 1 _ rfl, hc 2 _ rfl, hc 3 _ rfl, hc 4 _ rfl⟩
def short3 (p : Part) : Bool := decide (p.l.length ≤ 3000)
def OpW.fit (o : OpW) : Bool := decide (o.ps.length ≤ 6) && o.ps.all short3
def fitsW (n : Int) (L : List OpW) : Bool := decide (3 ≤ n) && decide (n ≤ 7) && decide (L.length ≤ 30) && L.all OpW.fit
def Tells (w : World) (b : Bool) (e : Ending) (w' : World) : Prop := e = .returned (.bool b) ∧ Below w.heap.size w w'
set_option maxRecDepth 20000 in
set_option maxHeartbeats 1000000 in
theorem wfits_no (w : World) (n : Int) (A : Option Addr) (c : Nat) (L : List OpW) (h : n < 3 ∨ 7 < n ∨ 30 < L.length) :
    Calls Try.prog 32 #[.int .i64 n, .slice A L.length c] w fun e w' => e = .returned (.bool false) ∧ w = w' := by
  by_cases h1 : n < 3
  · go_enter Try.func32, Try.ntmps32
    go_wp2_with fail
    go_ret
    exact ⟨rfl, rfl⟩
  · by_cases h2 : 7 < n
    · go_enter Try.func32, Try.ntmps32
      go_wp2_with fail
      go_ret
      exact ⟨rfl, rfl⟩
    · have h3 : (30 : Int) < (L.length : Int) := by omega
      go_enter Try.func32, Try.ntmps32
      go_wp2_with fail
      go_ret
      exact ⟨rfl, rfl⟩
set_option maxRecDepth 20000 in
set_option maxHeartbeats 2000000 in
theorem wfits_any (w : World) (n : Int) (A : Option Addr) (c : Nat) (L : List OpW) (hr : ERow eOpW w A L) (hf : ∀ o ∈ L, PartsIn w o.A o.cap o.ps) :
    Calls Try.prog 32 #[.int .i64 n, .slice A L.length c] w (Tells w (fitsW n L)) := by
  by_cases hno : n < 3 ∨ 7 < n ∨ 30 < L.length
  · refine (wfits_no w n A c L hno).mono fun e w' ⟨he, hw⟩ => ⟨?_, hw ▸ Below.refl _ _⟩
    have : fitsW n L = false := by
      unfold fitsW
      rcases hno with h | h | h
      · rw [decide_eq_false (show ¬ 3 ≤ n by omega)]; simp
      · rw [decide_eq_false (show ¬ n ≤ 7 by omega)]; simp
      · rw [decide_eq_false (show ¬ L.length ≤ 30 by omega)]; simp
    rw [this]; exact he
  · have h1 : ¬ n < 3 := by omega
    have h2 : ¬ 7 < n := by omega
    have h3 : ¬ (30 : Int) < (L.length : Int) := by omega
    have h60 : L.length ≤ 30 := by omega
    have hE : fitsW n L = L.all OpW.fit := by
      unfold fitsW
      rw [decide_eq_true (show 3 ≤ n by omega), decide_eq_true (show n ≤ 7 by omega), decide_eq_true (show L.length ≤ 30 by omega)]; simp
    have HE := Lib.hid hE
    have HR := Lib.hid hr
    have HF := Lib.hid hf
    clear hr hf hno hE
    go_enter Try.func32, Try.ntmps32
    go_wp2_with fail
    go_loopw [22] (fun iv wr => ∃ i : Nat, i ≤ L.length ∧ iv = .int .i64 i ∧ Hid (L.all OpW.fit = (L.drop i).all OpW.fit ∧ Below w.heap.size w wr)) (fun iv _ => L.length - (intOf iv).toNat)
    case atStart => exact ⟨0, by omega, rfl, by simp, Below.refl _ _⟩
    case round =>
      obtain ⟨i, hi, rfl, HS⟩ := hrel
      by_cases hlt : i < L.length
      · obtain ⟨b, o, rfl, hb, hcc⟩ := opw_at (HR.out.below HS.out.2) hlt
        have hlti : (i : Int) < (L.length : Int) := by omega
        have hz := HS.out.2.size
        have HP := Lib.hid (HF.out L[i] (List.getElem_mem hlt))
        have HD : Hid ((L.drop i).all OpW.fit = (L[i].fit && (L.drop (i + 1)).all OpW.fit)) := by
          show _ = _
          rw [List.drop_eq_getElem_cons hlt, List.all_cons]
        generalize L[i] = q at hcc HP HD
        by_cases h6 : 6 < q.ps.length
        · have h6i : (6 : Int) < (q.ps.length : Int) := by omega
          have HDE : Hid (q.fit = false) := by show _ = _; unfold OpW.fit; rw [decide_eq_false (by omega)]; simp
          go_wp2_with fail
          go_ret
          rw [HE.out, HS.out.1, HD.out, HDE.out]
          exact ⟨by simp, HS.out.2.alloc hz _⟩
        · have h6i : ¬ (6 : Int) < (q.ps.length : Int) := by omega
          have HQ : Hid (q.fit = q.ps.all short3) := by show _ = _; unfold OpW.fit; rw [decide_eq_true (show q.ps.length ≤ 6 by omega)]; simp
          have hq6 : q.ps.length ≤ 6 := by omega
          clear h6
          go_wp2_with fail
          generalize hW1 : World.alloc wr (.cells _ _) = W1
          obtain ⟨ba1, hz1, hB1⟩ := fresh1 hW1
          clear hW1
          have HB1 := Lib.hid (HS.out.2.trans (hB1.mono hz))
          have HK1 := Lib.hid (ba1.cell 1)
          clear hB1 ba1 hz1 hcc hb
          go_loopw [33] (fun jv wr => ∃ j : Nat, j ≤ q.ps.length ∧ jv = .int .i64 j ∧ Hid (q.ps.all short3 = (q.ps.drop j).all short3 ∧ wr = W1)) (fun jv _ => q.ps.length - (intOf jv).toNat)
          case atStart => exact ⟨0, by omega, rfl, by simp, rfl⟩
          case round =>
            obtain ⟨j, hj, rfl, HJ⟩ := hrel
            obtain rfl : wr = W1 := HJ.out.2
            by_cases hjl : j < q.ps.length
            · obtain ⟨b2, o2, hqa, hb2, hc2⟩ := part_cell (HP.out.row.below HB1.out) hjl
              have hjli : (j : Int) < (q.ps.length : Int) := by omega
              have hok := (HP.out.ok q.ps[j] (List.getElem_mem hjl)).2
              have HDJ : Hid ((q.ps.drop j).all short3 = (short3 q.ps[j] && (q.ps.drop (j + 1)).all short3)) := by
                show _ = _
                rw [List.drop_eq_getElem_cons hjl, List.all_cons]
              generalize q.ps[j] = p at hc2 HDJ hok
              rw [hqa]
              by_cases h3 : 3000 < p.l.length
              · have h3i : (3000 : Int) < (p.l.length : Int) := by omega
                have HDE : Hid (short3 p = false) := by show _ = _; unfold short3; rw [decide_eq_false (by omega)]
                go_wp2_with fail
                go_ret
                rw [HE.out, HS.out.1, HD.out, HQ.out, HJ.out.1, HDJ.out, HDE.out]
                exact ⟨by simp, HB1.out⟩
              · have h3i : ¬ (3000 : Int) < (p.l.length : Int) := by omega
                have HDE : Hid (short3 p = true) := by show _ = _; unfold short3; rw [decide_eq_true (by omega)]
                go_wp2_with fail
                go_roundw
                case rel => exact ⟨j + 1, by omega, by go_num, ⟨by rw [HJ.out.1, HDJ.out, HDE.out]; simp, trivial⟩⟩
                case measure => simp [intOf]; omega
            · have hjli : ¬ (j : Int) < (q.ps.length : Int) := by omega
              have HQ2 : Hid (q.fit = true) := by show _ = _; rw [HQ.out, HJ.out.1, List.drop_eq_nil_of_le (by omega)]; rfl
              go_wp2_with fail
              go_roundw
              case rel => exact ⟨i + 1, by omega, by go_num, by rw [HS.out.1, HD.out, HQ2.out]; simp, HB1.out⟩
              case measure => simp [intOf]; omega
      · have hlti : ¬ (i : Int) < (L.length : Int) := by omega
        go_wp2_with fail
        go_ret
        rw [HE.out, HS.out.1, List.drop_eq_nil_of_le (by omega)]
        exact ⟨rfl, HS.out.2⟩
end Go.Proofs.Ythbanhedjfpmaaa
end

section
/-
  What is now there is what was written last: so behind each of the journal's calls too.
-/
namespace Go.Proofs.Ythbanhedjfpmaaa
set_option linter.unusedSimpArgs false
set_option linter.unusedVariables false
open Go.RowKit

structure NowAt (d : DS) : Prop where
  now : NowOk d
  at_ : ∀ w ∈ d.pending, 0 ≤ w.at_
theorem nowok_settled {d : DS} (h : NowOk d) (hat : ∀ w ∈ d.pending, 0 ≤ w.at_) : NowOk d.settled := by
  intro i hi
  have hi' : i < d.blocks.length := by simpa [DS.settled, sureAll_length] using hi
  have h1 := sureAll_last d.pending d.blocks i hi' hat
  have h2 := sureAll_now d.pending d.blocks i
  have hl : i < (sureAll d.pending d.blocks).length := by rw [sureAll_length]; exact hi'
  simp only [List.getD_eq_getElem?_getD, List.getElem?_eq_getElem hl, List.getElem?_eq_getElem hi', Option.getD_some] at h2
  show ((sureAll d.pending d.blocks)[i]'hl).now.l = ((sureAll d.pending d.blocks)[i]'hl).sure.l
  rw [h1, h2]
  exact h i hi'
theorem NowAt.crash {d : DS} (h : NowAt d) (f : DF) : NowAt (d.crash f) := ⟨h.now.crash f, by
  unfold DS.crash
  split
  · exact h.at_
  · intro w hw; cases hw⟩
theorem NowAt.tick {d : DS} (h : NowAt d) (n : Nat) : NowAt { d with changes := n } := ⟨h.now.tick n, h.at_⟩
theorem NowAt.up {d : DS} (h : NowAt d) (b : Bool) : NowAt { d with down := b } := ⟨h.now, h.at_⟩
theorem NowAt.plan {d : DS} (h : NowAt d) (L : List DF) : NowAt { d with falls := L } := ⟨h.now, h.at_⟩
theorem NowAt.strike {d : DS} (h : NowAt d) : NowAt d.strike.1 := by
  unfold DS.strike
  split
  · exact (h.tick _).crash _
  · exact h.tick _
theorem NowAt.write {d : DS} (h : NowAt d) (i : Int) (l : List UInt8) : NowAt (d.write i l).1 := by
  refine ⟨h.now.write i l, ?_⟩
  unfold DS.write
  split
  · exact h.at_
  · split
    · rename_i hw hl
      unfold DS.put
      have : ∀ d' : DS, (∀ w ∈ d'.pending, 0 ≤ w.at_) → ∀ w ∈ d'.strike.1.pending, 0 ≤ w.at_ := fun d' h' => by
        unfold DS.strike
        split
        · unfold DS.crash
          split
          · exact h'
          · intro w hw; cases hw
        · exact h'
      refine this _ fun w hw => ?_
      rcases List.mem_append.1 hw with h' | h'
      · exact h.at_ w h'
      · simp only [List.mem_singleton] at h'
        subst h'
        exact Int.natCast_nonneg _
    · exact h.at_
theorem NowAt.flush {d : DS} (h : NowAt d) : NowAt d.flush.1 := by
  unfold DS.flush
  split
  · exact h
  · split
    · exact h.strike
    · exact ⟨nowok_settled h.strike.now h.strike.at_, fun w hw => by cases hw⟩
theorem NowAt.head {d : DS} (h : NowAt d) (at_ seq n : Nat) : NowAt (d.head at_ seq n).1 := by
  unfold DS.head
  split
  · exact h.write _ _
  · exact (h.write _ _).flush
theorem NowAt.lay {at_ : Nat} {all : List UInt8} : ∀ (f i : Nat) {d : DS}, NowAt d → NowAt (DS.lay at_ all f i d).1
  | 0, _, _, h => h
  | f + 1, i, d, h => by
    unfold DS.lay
    split
    · exact h
    · split
      · exact h.write _ _
      · exact NowAt.lay f (i + 1) (h.write _ _)
theorem NowAt.addW {d : DS} (h : NowAt d) (l : LS) (all : List UInt8) (n : Nat) : NowAt (d.addW l all n).d := by
  unfold DS.addW
  split
  · exact NowAt.lay _ _ h
  · split
    · exact (NowAt.lay _ _ h).flush
    · split
      · exact (NowAt.lay _ _ h).flush.head _ _ _
      · exact (NowAt.lay _ _ h).flush.head _ _ _
theorem NowAt.add {d : DS} (h : NowAt d) (l : LS) (recs : List (List UInt8)) : NowAt (d.add l recs).d := by
  unfold DS.add
  split
  · exact h
  · split
    · exact h
    · split
      · exact h
      · exact h.addW _ _ _
theorem NowAt.reset {d : DS} (h : NowAt d) (l : LS) : NowAt (d.reset l).d := by
  unfold DS.reset
  split
  · exact h
  · split
    · exact h
    · split
      · exact h.head _ _ _
      · exact h.head _ _ _
theorem NowAt.openW {d : DS} (h : NowAt d) (at_ room : Nat) : NowAt (d.openW at_ room).d := by
  unfold DS.openW
  split
  · exact h
  · split
    · split
      · exact h.head _ _ _
      · exact h.head _ _ _
    · split
      · exact h
      · exact h
theorem head_length (d : DS) (at_ seq n : Nat) : (d.head at_ seq n).1.blocks.length = d.blocks.length := by
  unfold DS.head
  split
  · exact write_length _ _ _
  · rw [flush_length, write_length]
theorem lay_length {at_ : Nat} {all : List UInt8} : ∀ (f i : Nat) (d : DS), (DS.lay at_ all f i d).1.blocks.length = d.blocks.length
  | 0, _, _ => by rw [DS.lay]
  | f + 1, i, d => by
    unfold DS.lay
    split
    · rfl
    · split
      · exact write_length _ _ _
      · rw [lay_length f (i + 1), write_length]
theorem addW_length (d : DS) (l : LS) (all : List UInt8) (n : Nat) : (d.addW l all n).d.blocks.length = d.blocks.length := by
  unfold DS.addW
  split
  · exact lay_length _ _ _
  · split
    · rw [flush_length]; exact lay_length _ _ _
    · split
      · rw [head_length, flush_length]; exact lay_length _ _ _
      · show (DS.head _ _ _ _).1.blocks.length = _
        rw [head_length, flush_length]; exact lay_length _ _ _
theorem add_length (d : DS) (l : LS) (recs : List (List UInt8)) : (d.add l recs).d.blocks.length = d.blocks.length := by
  unfold DS.add
  split
  · rfl
  · split
    · rfl
    · split
      · rfl
      · exact addW_length _ _ _ _
theorem reset_length (d : DS) (l : LS) : (d.reset l).d.blocks.length = d.blocks.length := by
  unfold DS.reset
  split
  · rfl
  · split
    · rfl
    · split
      · exact head_length _ _ _ _
      · exact head_length _ _ _ _
theorem openW_length (d : DS) (at_ room : Nat) : (d.openW at_ room).d.blocks.length = d.blocks.length := by
  unfold DS.openW
  split
  · rfl
  · split
    · split
      · exact head_length _ _ _ _
      · exact head_length _ _ _ _
    · split
      · rfl
      · rfl
theorem NowAt.fresh (n : Nat) : NowAt (DS.new n) := ⟨NowOk.fresh n, fun w hw => by cases hw⟩
end Go.Proofs.Ythbanhedjfpmaaa
end

section
/-
  An Add and a loss of power, plain: what stays is what stood there, or all of it.
-/
namespace Go.Proofs.Ythbanhedjfpmaaa
set_option linter.unusedSimpArgs false
set_option linter.unusedVariables false
open Go.RowKit

/-- Block i as it surely is. -/
def DS.sureB (d : DS) (i : Nat) : List UInt8 := (d.blocks.getD i default).sure.l
theorem DS.sureB_length (d : DS) (i : Nat) : (d.sureB i).length = 512 := (d.blocks.getD i default).sure.h
theorem nowok_sure {d : DS} (h : NowOk d) (hp : d.pending = []) (i : Nat) (hi : i < d.blocks.length) : d.block i = d.sureB i := by
  have := h i hi
  rw [hp] at this
  unfold DS.block DS.sureB
  simp only [List.getD_eq_getElem?_getD, List.getElem?_eq_getElem hi, Option.getD_some]
  exact this
theorem crash_block {d : DS} (hd : d.down = false) (f : DF) (i : Nat) (hi : i < d.blocks.length) : (d.crash f).block i = ((hitAll f ((d.pending.length : Int) - 1) d.pending 0 d.blocks).getD i default).sure.l := by
  unfold DS.crash
  rw [if_neg (by simp [hd])]
  unfold DS.block
  have hlen : i < (hitAll f ((d.pending.length : Int) - 1) d.pending 0 d.blocks).length := by rw [hitAll_length]; exact hi
  simp [hlen]
theorem crash_apart {d : DS} (hd : d.down = false) (f : DF) {i : Nat} (hi : i < d.blocks.length) (h : ∀ w ∈ d.pending, w.at_.toNat ≠ i) : (d.crash f).block i = d.sureB i := by
  rw [crash_block hd f i hi, hitAll_other f _ i d.pending 0 d.blocks h]
  rfl
theorem hitAll_ind {P : Nat → List UInt8 → Prop} (f : DF) (m : Int) (hov : ∀ i (b s : B512) n, P i b.l → P i s.l → P i (b.over s n).l) : ∀ (ws : List DW) (k : Nat) (L : List DB), (∀ w ∈ ws, P w.at_.toNat w.b.l) → (∀ i, i < L.length → P i (L.getD i default).sure.l) →
    ∀ i, i < L.length → P i ((hitAll f m ws k L).getD i default).sure.l
  | [], _, _, _, hL => hL
  | w :: ws, k, L, hw, hL => by
    intro i hi
    rw [hitAll]
    refine hitAll_ind f m hov ws (k + 1) _ (fun x hx => hw x (List.mem_cons_of_mem _ hx)) (fun j hj => ?_) i (by rw [List.length_set]; exact hi)
    rw [List.length_set] at hj
    by_cases e : w.at_.toNat = j
    · subst e
      have e2 : ∀ c : DB, (L.set w.at_.toNat c).getD w.at_.toNat default = c := fun c => by simp [hj]
      rw [e2]
      have h1 := hw w List.mem_cons_self
      have h2 := hL _ hj
      unfold DB.hit
      split
      · exact h1
      · split
        · exact hov _ _ _ _ h1 h2
        · exact h2
    · have e2 : ∀ c : DB, (L.set w.at_.toNat c).getD j default = L.getD j default := fun c => by simp [List.getElem?_set_ne e]
      rw [e2]
      exact hL j hj
/-- Where one fall is planned. -/
theorem strike_one {d : DS} {f : DF} (h : d.falls = [f]) : d.strike = if f.at_ = (d.changes : Int) then (({ d with changes := d.changes + 1 } : DS).crash f, 6) else ({ d with changes := d.changes + 1 }, 0) := by
  unfold DS.strike
  rw [h]
  by_cases e : f.at_ = (d.changes : Int)
  · rw [if_pos e, List.find?_cons_of_pos (by simpa using e)]
  · rw [if_neg e, List.find?_cons_of_neg (by simpa using e)]
    rfl
/-- The disk behind a write. -/
def DS.wrote (d : DS) (m : Nat) (b : B512) : DS := { d with blocks := d.blocks.set m { (d.blocks.getD m default) with now := b }, pending := d.pending ++ [⟨(m : Int), b⟩], changes := d.changes + 1 }
theorem write_one {d : DS} {f : DF} (hf : d.falls = [f]) (hd : d.down = false) {m : Nat} (hm : m < d.blocks.length) {l : List UInt8} (hl : l.length = 512) :
    d.write (m : Int) l = if f.at_ = (d.changes : Int) then ((d.wrote m ⟨l, hl⟩).crash f, 6) else (d.wrote m ⟨l, hl⟩, 0) := by
  have hw : d.why (m : Int) = 0 := by unfold DS.why; rw [if_neg (by simp [hd]), if_neg (by omega)]
  unfold DS.write
  rw [if_neg (by simp [hw]), dif_pos hl]
  unfold DS.put
  rw [strike_one (f := f) (by exact hf), Int.toNat_natCast]
  rfl
theorem flush_one {d : DS} {f : DF} (hf : d.falls = [f]) (hd : d.down = false) :
    d.flush = if f.at_ = (d.changes : Int) then (({ d with changes := d.changes + 1 } : DS).crash f, 6) else (({ d with changes := d.changes + 1 } : DS).settled, 0) := by
  unfold DS.flush
  rw [if_neg (by simp [hd]), strike_one hf]
  by_cases e : f.at_ = (d.changes : Int)
  · rw [if_pos e, if_pos e, if_pos (by simp)]
  · rw [if_neg e, if_neg e, if_neg (by simp)]
theorem wrote_block {d : DS} {m : Nat} (hm : m < d.blocks.length) (b : B512) (i : Nat) : (d.wrote m b).block i = if i = m then b.l else d.block i := by
  unfold DS.block DS.wrote
  by_cases e : i = m
  · subst e; simp [hm]
  · rw [if_neg e]; simp [List.getElem?_set_ne (fun h => e h.symm)]
theorem wrote_sure {d : DS} {m : Nat} (b : B512) (i : Nat) : (d.wrote m b).sureB i = d.sureB i := by
  unfold DS.sureB DS.wrote
  by_cases e : i = m
  · subst e
    by_cases h : i < d.blocks.length
    · simp [h]
    · simp [h]
  · simp [List.getElem?_set_ne (fun h => e h.symm)]
theorem NowOk.wrote {d : DS} (h : NowOk d) {m : Nat} (hd : d.down = false) (hm : m < d.blocks.length) (b : B512) : NowOk (d.wrote m b) := by
  have h0 : ({ d with falls := [] } : DS).write (m : Int) b.l = _ := write_plain (d := { d with falls := [] }) rfl hd hm b.h
  have h1 : NowOk (({ d with falls := [] } : DS).write (m : Int) b.l).1 := NowOk.write (d := { d with falls := [] }) h _ _
  rw [h0] at h1
  exact h1

/-- An Add is under way; of what is written nothing counts yet. -/
structure Ph1 (d : DS) (f : DF) (at_ N seq : Nat) (data : List UInt8) : Prop where
  falls : d.falls = [f]
  down : d.down = false
  len : d.blocks.length = N
  now : NowOk d
  pend : ∀ w ∈ d.pending, ∃ i, w.at_ = ((at_ + 2 + i : Nat) : Int) ∧ at_ + 2 + i < N ∧ Agrees data i w.b.l
  two : at_ + 2 ≤ N
  head : d.sureB (at_ + seq % 2) = Wal.headL seq data.length
  other : Wal.lo (Wal.cut (d.sureB (at_ + (seq + 1) % 2)) 40 8) < seq
  agrees : ∀ i, at_ + 2 + i < N → Agrees data i (d.sureB (at_ + 2 + i))
/-- The power has failed; what was there is there. -/
structure Dead (d : DS) (at_ N seq : Nat) (data : List UInt8) : Prop where
  len : d.blocks.length = N
  down : d.down = true
  head : d.block (at_ + seq % 2) = Wal.headL seq data.length
  other : Wal.lo (Wal.cut (d.block (at_ + (seq + 1) % 2)) 40 8) < seq
  agrees : ∀ i, at_ + 2 + i < N → Agrees data i (d.block (at_ + 2 + i))
theorem crash_down' {d : DS} {f : DF} (h : d.down = false) : (d.crash f).down = true := by
  unfold DS.crash
  rw [if_neg (by simp [h])]
theorem crash_twice {d : DS} {f : DF} (h : d.down = true) : d.crash f = d := by
  unfold DS.crash
  rw [if_pos h]
theorem Ph1.crash {d : DS} {f : DF} {at_ N seq : Nat} {data : List UInt8} (h : Ph1 d f at_ N seq data) : Dead (d.crash f) at_ N seq data := by
  have hN := h.two
  have hl := h.len
  have hap : ∀ j, j < at_ + 2 → ∀ w ∈ d.pending, w.at_.toNat ≠ j := fun j hj w hw => by
    obtain ⟨i, e, -, -⟩ := h.pend w hw
    rw [e]
    omega
  have m0 : seq % 2 < 2 := Nat.mod_lt _ (by decide)
  have m1 : (seq + 1) % 2 < 2 := Nat.mod_lt _ (by decide)
  refine ⟨by rw [crash_length, hl], crash_down' h.down, ?_, ?_, ?_⟩
  · rw [crash_apart h.down f (by omega) (hap _ (by omega))]; exact h.head
  · rw [crash_apart h.down f (by omega) (hap _ (by omega))]; exact h.other
  · intro i hi
    rw [crash_block h.down f _ (by omega)]
    refine hitAll_ind (P := fun p b => ∀ j, p = at_ + 2 + j → Agrees data j b) f _ (fun p b s n hb hs j e => (hb j e).over (hs j e) b.h n) d.pending 0 d.blocks ?_ ?_ (at_ + 2 + i) (by omega) i rfl
    · intro w hw j e
      obtain ⟨i', e', -, ha⟩ := h.pend w hw
      rw [e'] at e
      have : i' = j := by omega
      subst this
      exact ha
    · intro p hp j e
      subst e
      exact h.agrees j (by omega)
theorem Ph1.tick {d : DS} {f : DF} {at_ N seq : Nat} {data : List UInt8} (h : Ph1 d f at_ N seq data) (n : Nat) : Ph1 { d with changes := n } f at_ N seq data :=
  ⟨h.falls, h.down, h.len, h.now, h.pend, h.two, h.head, h.other, h.agrees⟩
theorem Ph1.wrote {d : DS} {f : DF} {at_ N seq i : Nat} {data : List UInt8} (h : Ph1 d f at_ N seq data) (hi : at_ + 2 + i < N) (b : B512) (hb : Agrees data i b.l) : Ph1 (d.wrote (at_ + 2 + i) b) f at_ N seq data :=
  ⟨h.falls, h.down, by simp [DS.wrote, h.len], h.now.wrote h.down (by rw [h.len]; exact hi) b, fun w hw => by
    rcases List.mem_append.1 hw with h' | h'
    · exact h.pend w h'
    · simp only [List.mem_singleton] at h'
      subst h'
      exact ⟨i, rfl, hi, hb⟩, h.two, by rw [wrote_sure]; exact h.head, by rw [wrote_sure]; exact h.other, fun j hj => by rw [wrote_sure]; exact h.agrees j hj⟩
theorem Ph1.lay {f : DF} {at_ N seq : Nat} {data all : List UInt8} (hall : ∃ x, all = data ++ x) (hN : at_ + 2 + (all.length + 511) / 512 ≤ N) (fu : Nat) : ∀ (i : Nat) (d : DS), Ph1 d f at_ N seq data → all.length ≤ (fu + i) * 512 →
    ((DS.lay at_ all fu i d).2 = 0 ∧ Ph1 (DS.lay at_ all fu i d).1 f at_ N seq data ∧ ∀ j, (DS.lay at_ all fu i d).1.block j = if at_ + 2 + i ≤ j ∧ (j - (at_ + 2)) * 512 < all.length then padB all (j - (at_ + 2)) else d.block j) ∨
    ((DS.lay at_ all fu i d).2 = 6 ∧ Dead (DS.lay at_ all fu i d).1 at_ N seq data) := by
  induction fu with
  | zero =>
    intro i d h hf
    rw [lay_nought]
    exact .inl ⟨rfl, h, fun j => (if_neg (fun h2 => by have h3 := h2.1; have h4 := h2.2; clear h2 h hN; rw [Nat.zero_add] at hf; omega)).symm⟩
  | succ fu ih =>
    intro i d h hf
    by_cases hl : all.length ≤ i * 512
    · rw [lay_done _ _ _ _ _ hl]
      exact .inl ⟨rfl, h, fun j => by rw [if_neg (by omega)]⟩
    · have hm : at_ + 2 + i < N := by omega
      have hf2 : all.length ≤ (fu + (i + 1)) * 512 := by rw [show fu + (i + 1) = fu + 1 + i from by rw [Nat.add_assoc, Nat.add_comm 1 i]]; exact hf
      have hm' : at_ + 2 + i < d.blocks.length := by rw [h.len]; exact hm
      have hag : Agrees data i (padB all i) := by
        obtain ⟨x, rfl⟩ := hall
        exact (agrees_pad _ i).front
      have hw := h.wrote hm ⟨padB all i, padB_length all i⟩ hag
      have h1 := write_one h.falls h.down hm' (padB_length all i)
      rw [lay_step _ _ _ _ _ (by omega)]
      by_cases e : f.at_ = (d.changes : Int)
      · rw [if_pos e] at h1
        rw [h1, if_pos (by simp)]
        exact .inr ⟨rfl, hw.crash⟩
      · rw [if_neg e] at h1
        rw [h1, if_neg (by simp)]
        rcases ih (i + 1) _ hw hf2 with ⟨g1, g2, g3⟩ | g
        · refine .inl ⟨g1, g2, fun j => ?_⟩
          rw [g3, wrote_block hm']
          by_cases e : j = at_ + 2 + i
          · subst e
            rw [if_neg (by omega), if_pos rfl, if_pos (by omega), Nat.add_sub_cancel_left]
          · rw [if_neg e]
            by_cases e2 : at_ + 2 + (i + 1) ≤ j ∧ (j - (at_ + 2)) * 512 < all.length
            · rw [if_pos e2, if_pos (by omega)]
            · rw [if_neg e2, if_neg (by omega)]
        · exact .inr g
/-- All is sure but the head. -/
structure Ph2 (d : DS) (f : DF) (at_ N seq : Nat) (data all : List UInt8) : Prop where
  falls : d.falls = [f]
  down : d.down = false
  len : d.blocks.length = N
  now : NowOk d
  pend : d.pending = []
  two : at_ + 2 ≤ N
  head : d.sureB (at_ + seq % 2) = Wal.headL seq data.length
  other : Wal.lo (Wal.cut (d.sureB (at_ + (seq + 1) % 2)) 40 8) < seq
  agrees : ∀ i, at_ + 2 + i < N → Agrees all i (d.sureB (at_ + 2 + i))
/-- A torn head: the elder one's number at most, or the new one. -/
theorem right_torn (old : List UInt8) (ho : old.length = 512) (s m n room : Nat) (hs : s ≤ Wal.last62) (hm : m < 18446744073709551616) :
    (Wal.right ((Wal.headL s m).take n ++ old.drop n) room).1 ≤ Wal.lo (Wal.cut old 40 8) ∨ Wal.right ((Wal.headL s m).take n ++ old.drop n) room = (s, m) := by
  have hl := Wal.headL_length s m
  have hbl : ((Wal.headL s m).take n ++ old.drop n).length = 512 := by simp [hl, ho]; omega
  by_cases h : n ≤ 40
  · left
    refine Nat.le_trans (right_second hbl room) (Nat.le_of_eq ?_)
    congr 1
    rw [Wal.cut_right _ _ _ _ (by simp; omega)]
    unfold Wal.cut
    rw [List.drop_drop]
    congr 2
    simp
    omega
  · have h1 : Wal.right ((Wal.headL s m).take n ++ old.drop n) room = (0, 0) ∨ Wal.right ((Wal.headL s m).take n ++ old.drop n) room = (Wal.lo (Wal.cut ((Wal.headL s m).take n ++ old.drop n) 8 8), Wal.lo (Wal.cut ((Wal.headL s m).take n ++ old.drop n) 16 8)) := by
      unfold Wal.right
      split
      · exact .inr rfl
      · exact .inl rfl
    rcases h1 with h1 | h1
    · left; rw [h1]; exact Nat.zero_le _
    · right
      rw [h1]
      have e : ∀ i, i + 8 ≤ 24 → Wal.cut ((Wal.headL s m).take n ++ old.drop n) i 8 = Wal.cut (Wal.half s m) i 8 := by
        intro i hi
        rw [Wal.cut_append _ _ _ _ (by rw [List.length_take, hl]; omega)]
        unfold Wal.headL Wal.head48 Wal.cut
        rw [List.drop_take, List.take_take, Nat.min_eq_left (by omega), List.append_assoc, List.drop_append_of_le_length (by rw [Wal.half_length]; omega), List.take_append_of_le_length (by rw [List.length_drop, Wal.half_length]; omega)]
      rw [e 8 (by omega), e 16 (by omega), (Wal.half_parts s m).2.1, (Wal.half_parts s m).2.2, Wal.lo_hi8 _ (Nat.lt_of_le_of_lt hs (by decide)), Wal.lo_hi8 _ hm]
/-- What is found: the records' bytes. -/
structure Finds (d : DS) (at_ room : Nat) (data : List UInt8) : Prop where
  down : d.down = false
  pick : ∃ s, 0 < s ∧ d.pick at_ room = (s, data.length)
  body : d.body at_ data.length = data
theorem Finds.open_ {d : DS} {at_ room : Nat} {R : List (List UInt8)} (h : Finds d at_ room (Wal.frames R)) (hs : ∀ s ∈ R, s.length < 18446744073709551616) : (d.openW at_ room).e = 0 ∧ (d.openW at_ room).recs = R := by
  obtain ⟨s, h0, hp⟩ := h.pick
  have hr := Wal.records_frames R hs
  unfold DS.openW
  rw [if_neg (by rw [h.down]; simp), hp]
  simp only
  rw [if_neg (by omega), h.body, hr, if_neg (by simp)]
  exact ⟨rfl, rfl⟩
theorem pick_right {d : DS} {at_ seq room n : Nat} (hr1 : Wal.right (d.block (at_ + seq % 2)) room = (seq, n)) (h2 : (Wal.right (d.block (at_ + (seq + 1) % 2)) room).1 < seq) : d.pick at_ room = (seq, n) := by
  unfold DS.pick
  rcases Nat.mod_two_eq_zero_or_one seq with e | e
  · have e2 : (seq + 1) % 2 = 1 := by omega
    rw [e2] at h2
    rw [e, Nat.add_zero] at hr1
    rw [hr1, if_neg (by simp only; omega)]
  · have e2 : (seq + 1) % 2 = 0 := by omega
    rw [e2, Nat.add_zero] at h2
    rw [e] at hr1
    rw [hr1, if_pos (by simpa using h2)]
theorem out_block (d : DS) {i : Nat} (hi : d.blocks.length ≤ i) : d.block i = List.replicate 512 0 := by
  unfold DS.block
  rw [List.getD_eq_getElem?_getD, List.getElem?_eq_none hi]
  rfl
theorem body_in {d : DS} {at_ N : Nat} {data : List UInt8} (hN : at_ + 2 + (data.length + 511) / 512 ≤ N) (h : ∀ i, at_ + 2 + i < N → Agrees data i (d.block (at_ + 2 + i))) : d.body at_ data.length = data :=
  body_agrees fun i => by
    by_cases hi : at_ + 2 + i < N
    · exact h i hi
    · intro j hj hl
      omega
theorem Dead.finds {d : DS} {at_ N seq room : Nat} {data : List UInt8} (h : Dead d at_ N seq data) (hs : 1 ≤ seq ∧ seq ≤ Wal.last62) (hd : data.length ≤ room) (hr : room ≤ 511000) (hN : at_ + 2 + (room + 511) / 512 ≤ N) : Finds { d with down := false } at_ room data := by
  refine ⟨rfl, ⟨seq, hs.1, ?_⟩, body_in (d := { d with down := false }) (N := N) (by omega) h.agrees⟩
  refine pick_right (d := { d with down := false }) ?_ (Nat.lt_of_le_of_lt (right_second (DS.block_length _ _) _) h.other)
  show Wal.right (d.block _) room = _
  rw [h.head]
  exact Wal.right_head _ hs.1 hs.2 hd (by omega)
/-- The head was being written. -/
theorem Ph2.torn {d d' : DS} {f : DF} {at_ N seq room n : Nat} {data all : List UInt8} (h : Ph2 d f at_ N seq data all) (hs : 1 ≤ seq ∧ seq < Wal.last62) (hall : ∃ x, all = data ++ x) (hd : all.length ≤ room) (hr : room ≤ 511000) (hN : at_ + 2 + (room + 511) / 512 ≤ N)
    (hdn : d'.down = false) (h1 : ∀ i, i < N → i ≠ at_ + (seq + 1) % 2 → d'.block i = d.sureB i)
    (h2 : d'.block (at_ + (seq + 1) % 2) = (Wal.headL (seq + 1) all.length).take n ++ (d.sureB (at_ + (seq + 1) % 2)).drop n) : Finds d' at_ room all ∨ Finds d' at_ room data := by
  have m0 : seq % 2 < 2 := Nat.mod_lt _ (by decide)
  have m1 : (seq + 1) % 2 < 2 := Nat.mod_lt _ (by decide)
  have hlen : data.length ≤ all.length := by obtain ⟨x, rfl⟩ := hall; simp
  have hag : ∀ i, at_ + 2 + i < N → Agrees all i (d'.block (at_ + 2 + i)) := fun i hi => by
    rw [h1 _ hi (by omega)]; exact h.agrees i hi
  have hold : Wal.right (d'.block (at_ + seq % 2)) room = (seq, data.length) := by
    rw [h1 _ (by omega) (by omega), h.head]
    exact Wal.right_head _ hs.1 (by omega) (by omega) (by omega)
  rcases right_torn (d.sureB (at_ + (seq + 1) % 2)) (DS.sureB_length _ _) (seq + 1) all.length n room (by omega) (by omega) with ht | ht
  · right
    refine ⟨hdn, ⟨seq, hs.1, pick_right hold ?_⟩, body_in (N := N) (by omega) fun i hi => ?_⟩
    · rw [h2]
      exact Nat.lt_of_le_of_lt ht h.other
    · obtain ⟨x, rfl⟩ := hall
      exact (hag i hi).front
  · left
    refine ⟨hdn, ⟨seq + 1, by omega, pick_right (seq := seq + 1) (by rw [h2]; exact ht) ?_⟩, body_in (N := N) (by omega) hag⟩
    rw [show (seq + 1 + 1) % 2 = seq % 2 from by omega, hold]
    exact Nat.lt_succ_self _
theorem Ph2.struck {d : DS} {f : DF} {at_ N seq n : Nat} {data all : List UInt8} (h : Ph2 d f at_ N seq data all) (hN : at_ + 2 ≤ N) (b : B512) :
    ∃ m, (∀ i, i < N → i ≠ at_ + (seq + 1) % 2 → (({ d.wrote (at_ + (seq + 1) % 2) b with changes := n } : DS).crash f).block i = d.sureB i) ∧
      (({ d.wrote (at_ + (seq + 1) % 2) b with changes := n } : DS).crash f).block (at_ + (seq + 1) % 2) = b.l.take m ++ (d.sureB (at_ + (seq + 1) % 2)).drop m := by
  have m1 : (seq + 1) % 2 < 2 := Nat.mod_lt _ (by decide)
  have hl := h.len
  obtain ⟨p, hp⟩ : ∃ p, p = at_ + (seq + 1) % 2 := ⟨_, rfl⟩
  rw [← hp]
  have hpl : p < d.blocks.length := by omega
  have hpe : ({ d.wrote p b with changes := n } : DS).pending = [⟨(p : Int), b⟩] := by show d.pending ++ _ = _; rw [h.pend]; rfl
  have hle : ({ d.wrote p b with changes := n } : DS).blocks.length = N := by show (d.blocks.set _ _).length = N; rw [List.length_set]; exact hl
  have hsu : ∀ i, ({ d.wrote p b with changes := n } : DS).sureB i = d.sureB i := fun i => wrote_sure b i
  have hdn : ({ d.wrote p b with changes := n } : DS).down = false := h.down
  generalize ({ d.wrote p b with changes := n } : DS) = d1 at hpe hle hsu hdn
  have hbl : (d1.crash f).block p = ((d1.blocks.getD p default).hit f 0 0 ⟨(p : Int), b⟩).sure.l := by
    rw [crash_block hdn f p (by omega), hpe]
    show ((d1.blocks.set _ _).getD p default).sure.l = _
    have hlt : p < d1.blocks.length := by omega
    simp [hlt]
  refine ⟨if keepB f 0 = true then 512 else tornN f.torn, fun i hi hne => ?_, ?_⟩
  · rw [crash_apart hdn f (by omega) (fun w hw => by rw [hpe] at hw; simp only [List.mem_singleton] at hw; subst hw; simp only [Int.toNat_natCast]; omega), hsu]
  · rw [hbl]
    have hs := hsu p
    unfold DB.hit
    by_cases hk : keepB f 0 = true
    · rw [if_pos hk, if_pos hk, List.take_of_length_le (by rw [b.h]; exact Nat.le_refl _), List.drop_of_length_le (by rw [DS.sureB_length]; exact Nat.le_refl _), List.append_nil]
    · rw [if_neg hk, if_neg hk, if_pos (show ((0 : Nat) : Int) = 0 from rfl)]
      show b.l.take _ ++ List.drop _ (d1.sureB p) = _
      rw [hs]
theorem sureAll_one (L : List DB) (p i : Nat) (b : B512) (c : DB) (hp : p < L.length) : ((sureAll [⟨(p : Int), b⟩] (L.set p c)).getD i default).sure.l = if i = p then b.l else (L.getD i default).sure.l := by
  show ((List.set (L.set p c) (Int.toNat (p : Int)) _).getD i default).sure.l = _
  rw [Int.toNat_natCast]
  by_cases e : i = p
  · subst e
    rw [if_pos rfl, List.getD_eq_getElem?_getD, List.getElem?_set_self (by rw [List.length_set]; exact hp)]
    rfl
  · rw [if_neg e, List.getD_eq_getElem?_getD, List.getElem?_set_ne (fun h => e h.symm), List.getElem?_set_ne (fun h => e h.symm), ← List.getD_eq_getElem?_getD]
/-- Whatever happens in an Add: what is found behind a loss of power. -/
theorem add_atomic {d : DS} {l : LS} {R recs : List (List UInt8)} {N : Nat} (h : JOk d l R N) (hnow : NowOk d) (f : DF) (hf : d.falls = []) (hs : l.seq < Wal.last62) (hfew : ∀ s ∈ recs, s.length < 18446744073709551616) :
    let r := ({ d with falls := [f] } : DS).add l recs
    r.e = 40 ∨ (r.e = 0 ∧ Finds { r.d.crash f with down := false } l.at_ l.room (Wal.frames (R ++ recs))) ∨
      (r.e = 6 ∧ (Finds { r.d.crash f with down := false } l.at_ l.room (Wal.frames (R ++ recs)) ∨ Finds { r.d.crash f with down := false } l.at_ l.room (Wal.frames R))) := by
  have m0 : l.seq % 2 < 2 := Nat.mod_lt _ (by decide)
  have m1 : (l.seq + 1) % 2 < 2 := Nat.mod_lt _ (by decide)
  have hN := h.fits
  have hr := h.good.room
  have hdl := h.good.data
  have hlen := h.still.len
  have hsure : ∀ i, i < N → d.block i = d.sureB i := fun i hi => nowok_sure hnow h.pend i (by omega)
  have h0 : Ph1 { d with falls := [f] } f l.at_ N l.seq l.data := by
    refine ⟨rfl, h.still.down, hlen, hnow, ?_, by omega, ?_, ?_, ?_⟩
    · intro w hw
      rw [show ({ d with falls := [f] } : DS).pending = [] from h.pend] at hw
      cases hw
    · show d.sureB _ = _
      rw [← hsure _ (by omega)]
      exact h.head
    · show Wal.lo (Wal.cut (d.sureB _) 40 8) < _
      rw [← hsure _ (by omega)]
      exact h.other
    · intro i hi
      show Agrees _ _ (d.sureB _)
      rw [← hsure _ hi]
      exact h.agrees i
  have hblk : ∀ i, ({ d with falls := [f] } : DS).block i = d.block i := fun _ => rfl
  generalize hd1 : ({ d with falls := [f] } : DS) = d1 at h0 hblk
  have hpe1 : d1.pending = [] := by rw [← hd1]; exact h.pend
  intro r
  have hru : r = d1.add l recs := rfl
  by_cases hne : recs = []
  · right; left
    have e : r = ⟨d1, l, 0⟩ := by
      rw [hru]
      unfold DS.add
      rw [if_neg (by rw [h.whole]; simp), if_pos hne]
    rw [e, hne, List.append_nil, ← h.data]
    exact ⟨rfl, (h0.crash).finds ⟨h.sq, by omega⟩ hdl hr hN⟩
  obtain ⟨all, hall⟩ : ∃ all, all = l.data ++ Wal.frames recs := ⟨_, rfl⟩
  have hfr : Wal.frames (R ++ recs) = all := by rw [Wal.frames_append, ← h.data, hall]
  have hadd : r = if l.room < all.length ∨ l.seq = Wal.last62 then ⟨d1, l, 40⟩ else d1.addW l all recs.length := by
    rw [hru, hall]
    unfold DS.add
    rw [if_neg (by rw [h.whole]; simp), if_neg hne]
  by_cases hbig : l.room < all.length
  · left
    rw [hadd, if_pos (.inl hbig)]
  rw [if_neg (by omega)] at hadd
  rw [hfr, ← h.data]
  have hx : ∃ x, all = l.data ++ x := ⟨_, hall⟩
  right
  have hfit : l.at_ + 2 + (all.length + 511) / 512 ≤ N := by omega
  unfold DS.addW at hadd
  rcases Ph1.lay hx hfit all.length (l.data.length / 512) d1 h0 (by omega) with ⟨a1, a2, a3⟩ | ⟨a1, a2⟩
  · rw [if_neg (by rw [a1]; simp)] at hadd
    generalize (DS.lay l.at_ all all.length (l.data.length / 512) d1).1 = d2 at a2 a3 hadd
    have hfl := flush_one a2.falls a2.down
    by_cases e2 : f.at_ = (d2.changes : Int)
    · rw [if_pos e2] at hfl
      rw [hfl, if_pos (by simp)] at hadd
      rw [hadd]
      right
      refine ⟨rfl, .inr ?_⟩
      have hdd := (a2.tick (d2.changes + 1)).crash
      show Finds { (DS.crash _ f).crash f with down := false } _ _ _
      rw [crash_twice hdd.down]
      exact hdd.finds ⟨h.sq, by omega⟩ hdl hr hN
    · rw [if_neg e2] at hfl
      have hat : ∀ w ∈ d2.pending, 0 ≤ w.at_ := fun w hw => by obtain ⟨i, e, -, -⟩ := a2.pend w hw; rw [e]; exact Int.natCast_nonneg _
      have hsb : ∀ i, i < N → d2.flush.1.sureB i = d2.block i := fun i hi => by
        rw [hfl]
        have hi2 : i < d2.blocks.length := by rw [a2.len]; exact hi
        show ((sureAll d2.pending d2.blocks).getD i default).sure.l = (d2.blocks.getD i default).now.l
        have h1 := sureAll_last d2.pending d2.blocks i hi2 hat
        have h2 := a2.now i hi2
        have hi3 : i < (sureAll d2.pending d2.blocks).length := by rw [sureAll_length]; exact hi2
        simp only [List.getD_eq_getElem?_getD, List.getElem?_eq_getElem hi2, List.getElem?_eq_getElem hi3, Option.getD_some]
        rw [h1, h2]
      rw [hfl] at hsb
      have hbl0 : ∀ i, i < l.at_ + 2 → d2.block i = d1.sureB i := fun i hi => by
        rw [a3, if_neg (by omega), hblk, hsure i (by omega), ← hd1]
        rfl
      have h2 : Ph2 ({ d2 with changes := d2.changes + 1 } : DS).settled f l.at_ N l.seq l.data all := by
        refine ⟨a2.falls, a2.down, ?_, ?_, rfl, by omega, ?_, ?_, ?_⟩
        · show (sureAll d2.pending d2.blocks).length = N
          rw [sureAll_length, a2.len]
        · exact nowok_settled (d := { d2 with changes := d2.changes + 1 }) (a2.now.tick _) hat
        · rw [hsb _ (by omega), hbl0 _ (by omega)]; exact h0.head
        · rw [hsb _ (by omega), hbl0 _ (by omega)]; exact h0.other
        · intro i hi
          rw [hsb _ hi, a3]
          by_cases e : l.at_ + 2 + l.data.length / 512 ≤ l.at_ + 2 + i ∧ (l.at_ + 2 + i - (l.at_ + 2)) * 512 < all.length
          · rw [if_pos e, show l.at_ + 2 + i - (l.at_ + 2) = i from by omega]
            exact agrees_pad all i
          · rw [if_neg e]
            intro j hj hl
            have g2 : i * 512 + j < l.data.length := by omega
            rw [hblk, h.agrees i j hj g2, hall, List.getElem?_append_left g2]
      rw [hfl, if_neg (by simp)] at hadd
      simp only at hadd
      generalize ({ d2 with changes := d2.changes + 1 } : DS).settled = d3 at h2 hadd
      have hp3 : l.at_ + (l.seq + 1) % 2 < d3.blocks.length := by rw [h2.len]; omega
      have hw3 := write_one h2.falls h2.down hp3 (Wal.headL_length (l.seq + 1) all.length)
      have hseq : 1 ≤ l.seq ∧ l.seq < Wal.last62 := ⟨h.sq, hs⟩
      by_cases e3 : f.at_ = (d3.changes : Int)
      · rw [if_pos e3] at hw3
        have hh : d3.head l.at_ (l.seq + 1) all.length = ((d3.wrote (l.at_ + (l.seq + 1) % 2) ⟨_, Wal.headL_length (l.seq + 1) all.length⟩).crash f, 6) := by
          unfold DS.head
          rw [hw3, if_pos (by simp)]
        rw [hh, if_pos (by simp)] at hadd
        rw [hadd]
        right
        refine ⟨rfl, ?_⟩
        show Finds { (DS.crash _ f).crash f with down := false } _ _ _ ∨ Finds { (DS.crash _ f).crash f with down := false } _ _ _
        rw [crash_twice (crash_down' (by exact h2.down))]
        obtain ⟨m, g1, g2⟩ := h2.struck (n := (d3.wrote (l.at_ + (l.seq + 1) % 2) ⟨_, Wal.headL_length (l.seq + 1) all.length⟩).changes) (by omega) ⟨_, Wal.headL_length (l.seq + 1) all.length⟩
        exact h2.torn (d' := { (DS.crash _ f) with down := false }) hseq hx (by omega) hr hN rfl g1 g2
      · rw [if_neg e3] at hw3
        have hfl4 := flush_one (d := d3.wrote (l.at_ + (l.seq + 1) % 2) ⟨_, Wal.headL_length (l.seq + 1) all.length⟩) (f := f) h2.falls h2.down
        have hh : d3.head l.at_ (l.seq + 1) all.length = (d3.wrote (l.at_ + (l.seq + 1) % 2) ⟨_, Wal.headL_length (l.seq + 1) all.length⟩).flush := by
          unfold DS.head
          rw [hw3, if_neg (by simp)]
        by_cases e4 : f.at_ = ((d3.wrote (l.at_ + (l.seq + 1) % 2) ⟨_, Wal.headL_length (l.seq + 1) all.length⟩).changes : Int)
        · rw [if_pos e4] at hfl4
          rw [hh, hfl4, if_pos (by simp)] at hadd
          rw [hadd]
          right
          refine ⟨rfl, ?_⟩
          show Finds { (DS.crash _ f).crash f with down := false } _ _ _ ∨ Finds { (DS.crash _ f).crash f with down := false } _ _ _
          rw [crash_twice (crash_down' (by exact h2.down))]
          obtain ⟨m, g1, g2⟩ := h2.struck (n := (d3.wrote (l.at_ + (l.seq + 1) % 2) ⟨_, Wal.headL_length (l.seq + 1) all.length⟩).changes + 1) (by omega) ⟨_, Wal.headL_length (l.seq + 1) all.length⟩
          exact h2.torn (d' := { (DS.crash _ f) with down := false }) hseq hx (by omega) hr hN rfl g1 g2
        · rw [if_neg e4] at hfl4
          rw [hh, hfl4, if_neg (by simp)] at hadd
          rw [hadd]
          left
          refine ⟨rfl, ?_⟩
          -- all is sure: a loss of power turns nothing
          have hsb4 : ∀ i, i < N → ((({ d3.wrote (l.at_ + (l.seq + 1) % 2) ⟨_, Wal.headL_length (l.seq + 1) all.length⟩ with changes := (d3.wrote (l.at_ + (l.seq + 1) % 2) ⟨_, Wal.headL_length (l.seq + 1) all.length⟩).changes + 1 } : DS).settled).crash f).block i = if i = l.at_ + (l.seq + 1) % 2 then Wal.headL (l.seq + 1) all.length else d3.sureB i := fun i hi => by
            have hpe : (({ d3.wrote (l.at_ + (l.seq + 1) % 2) ⟨_, Wal.headL_length (l.seq + 1) all.length⟩ with changes := (d3.wrote (l.at_ + (l.seq + 1) % 2) ⟨_, Wal.headL_length (l.seq + 1) all.length⟩).changes + 1 } : DS).settled).pending = [] := rfl
            have hle : (({ d3.wrote (l.at_ + (l.seq + 1) % 2) ⟨_, Wal.headL_length (l.seq + 1) all.length⟩ with changes := (d3.wrote (l.at_ + (l.seq + 1) % 2) ⟨_, Wal.headL_length (l.seq + 1) all.length⟩).changes + 1 } : DS).settled).blocks.length = N := by
              show (sureAll _ (d3.blocks.set _ _)).length = N
              rw [sureAll_length, List.length_set, h2.len]
            rw [crash_apart (by exact h2.down) f (by rw [hle]; exact hi) (fun w hw => by rw [hpe] at hw; cases hw)]
            show ((sureAll (d3.pending ++ _) (d3.blocks.set _ _)).getD i default).sure.l = _
            rw [h2.pend, List.nil_append]
            have hi3 : l.at_ + (l.seq + 1) % 2 < d3.blocks.length := by rw [h2.len]; omega
            exact sureAll_one d3.blocks _ i _ _ hi3
          refine ⟨rfl, ⟨l.seq + 1, by omega, ?_⟩, ?_⟩
          · refine pick_right (d := { DS.crash _ f with down := false }) ?_ ?_
            · show Wal.right (DS.block (DS.crash _ f) _) _ = _
              rw [hsb4 _ (by omega), if_pos rfl]
              exact Wal.right_head _ (by omega) (by omega) (by omega) (by omega)
            · show (Wal.right (DS.block (DS.crash _ f) _) _).1 < _
              rw [show (l.seq + 1 + 1) % 2 = l.seq % 2 from by omega, hsb4 _ (by omega), if_neg (by omega), h2.head]
              have := Wal.right_head (List.replicate 464 0) h.sq (show l.seq ≤ Wal.last62 by omega) hdl (by omega)
              show (Wal.right (Wal.head48 l.seq l.data.length ++ List.replicate 464 0) l.room).1 < _
              rw [this]
              exact Nat.lt_succ_self _
          · refine body_in (d := { DS.crash _ f with down := false }) (N := N) (by omega) fun i hi => ?_
            show Agrees all i (DS.block (DS.crash _ f) _)
            rw [hsb4 _ hi, if_neg (by omega)]
            exact h2.agrees i hi
  · rw [if_pos (by rw [a1]; simp)] at hadd
    rw [hadd]
    right
    refine ⟨a1, .inr ?_⟩
    show Finds { (DS.lay l.at_ all all.length (l.data.length / 512) d1).1.crash f with down := false } _ _ _
    rw [crash_twice a2.down]
    exact a2.finds ⟨h.sq, by omega⟩ hdl hr hN
end Go.Proofs.Ythbanhedjfpmaaa
end

section
/-
  The walk of WalArgs.
-/
namespace Go.Proofs.Ythbanhedjfpmaaa
set_option linter.unusedSimpArgs false
set_option linter.unusedVariables false
open Go.RowKit

theorem ERow.single {w : World} (p : Part) (g : Nat) (hg : g = w.heap.size) : ERow ePart (w.alloc (.cells #[p.v] ePart.e)) (some ⟨g, 0, none⟩) [p] := ERow.lit ePart w p #[p.v] rfl g hg
theorem WL.kept {w0 w w' : World} {k : KB} {g n m : Nat} {d d' : DS} {l : LS} (h : WL w0 w k g d l n) (hd : DL w0 w' k d' m) (hk : Keeps w w' k.own) : WL w0 w' k g d' l m := h.disk hd hk
/-- Nothing is added to a disk that is down. -/
theorem add_down {d : DS} {l : LS} {recs : List (List UInt8)} (hd : d.down = true) (hb : l.broken = false) (hne : recs ≠ []) (hs : l.seq < Wal.last62) (hfit : (l.data ++ Wal.frames recs).length ≤ l.room) : d.add l recs = ⟨d, { l with broken := true }, 6⟩ := by
  have hfr := frames_many recs
  have hpos : 0 < recs.length := List.length_pos_iff.2 hne
  unfold DS.add
  rw [if_neg (by simp [hb]), if_neg hne, if_neg (by omega)]
  have hlen : (l.data ++ Wal.frames recs).length = l.data.length + (Wal.frames recs).length := List.length_append
  generalize hall : l.data ++ Wal.frames recs = all at hlen hfit
  have hl : DS.lay l.at_ all all.length (l.data.length / 512) d = (d, 6) := by
    obtain ⟨f, hf⟩ : ∃ f, all.length = f + 1 := ⟨all.length - 1, by omega⟩
    rw [hf, lay_step _ _ _ _ _ (by omega)]
    have hw : d.write ((l.at_ + 2 + l.data.length / 512 : Nat) : Int) (padB all (l.data.length / 512)) = (d, 6) := by
      unfold DS.write
      have : d.why ((l.at_ + 2 + l.data.length / 512 : Nat) : Int) = 6 := by unfold DS.why; rw [if_pos hd]
      rw [this, if_pos (by decide)]
    rw [hw, if_pos (show (6 : Int) ≠ 0 by decide)]
  unfold DS.addW
  rw [hl, if_pos (show (6 : Int) ≠ 0 by decide)]
theorem open_down {d : DS} {at_ room : Nat} (hd : d.down = true) : d.openW at_ room = ⟨d, .dead at_ room, [], 6⟩ := by
  unfold DS.openW
  rw [if_pos hd]
theorem add_broken {d : DS} {l : LS} {recs : List (List UInt8)} (hb : l.broken = true) : d.add l recs = ⟨d, l, 3⟩ := by
  unfold DS.add
  rw [if_pos hb]
theorem reset_broken {d : DS} {l : LS} (hb : l.broken = true) : d.reset l = ⟨d, l, 3⟩ := by
  unfold DS.reset
  rw [if_pos hb]

theorem i64_range {n : Int} (h : (Lit.int .i64 n).wf = true) : -9223372036854775808 ≤ n ∧ n ≤ 9223372036854775807 := by
  simp [Lit.wf, IntKind.min, IntKind.max, IntKind.signed, IntKind.bits] at h
  omega
def args_ok (w : World) (e : Ending) (w' : World) : Prop := e = .returned (.bool true) ∧ Below w.heap.size w w'
set_option maxRecDepth 20000 in
set_option maxHeartbeats 1000000 in
theorem walArgs_bad (w : World) (m : Nat) (f b : Int) (hm1 : 1 ≤ m) (hm : m ≤ 40) (hf : -9223372036854775808 ≤ f ∧ f ≤ 9223372036854775807) (hb : -9223372036854775808 ≤ b ∧ b ≤ 9223372036854775807) (hx : f < 0 ∨ b < 3 ∨ (m : Int) < b ∨ (m : Int) - b < f) :
    Calls Try.prog 10 #[.int .i64 m, .int .i64 f, .int .i64 b] w (args_ok w) := by
  go_enter Try.func10, Try.ntmps10
  go_wp2_with fail
  refine (wlives_any w).mono ?_
  rintro e w1 ⟨rfl, hB⟩
  have HB1 := Lib.hid hB
  clear hB
  go_wp2_with fail
  refine (DL.new (w0 := w) m (by omega) (by omega) HB1.out).mono ?_
  rintro e w2 ⟨k, rfl, hL, -⟩
  have hbl : (DS.new m).blocks.length = m := by simp [DS.new]
  have HL := Lib.hid hL
  clear hL HB1
  go_wp2_with fail
  refine (open_refused w2 _ k _ HL.out.at_ (by rw [hbl]; omega) f b hf.2 (by rw [hbl]; exact hx)).mono ?_
  rintro e w3 ⟨rfl, rfl⟩
  go_wp2_with fail
  refine (open_nil w2 f b).mono ?_
  rintro e w3 ⟨rfl, rfl⟩
  go_wp2_with fail
  generalize hW4 : World.alloc w2 (.cells _ _) = W4
  obtain ⟨ba4, hz4, hB4⟩ := fresh1 hW4
  clear hW4
  have HL4 := Lib.hid (HL.out.below hB4)
  clear ba4 hz4 hB4 HL
  refine (wadd_nil W4 _ _ _).mono ?_
  rintro e w5 ⟨rfl, rfl⟩
  go_wp2_with fail
  refine (wreset_nil W4).mono ?_
  rintro e w5 ⟨rfl, rfl⟩
  go_wp2_with fail
  refine (wroom_nil W4).mono ?_
  rintro e w5 ⟨rfl, rfl⟩
  go_wp2_with fail
  refine (wlen_nil W4).mono ?_
  rintro e w5 ⟨rfl, rfl⟩
  go_wp2_with fail
  refine (wbroken_nil W4).mono ?_
  rintro e w5 ⟨rfl, rfl⟩
  have HX := Lib.hid hx
  clear hx
  have hch := changes_any W4 _ k _ HL4.out.at_
  rw [show (DS.new m).changes = 0 from rfl] at hch
  have HCH := Lib.hid hch
  clear hch
  rcases Int.lt_or_le f 0 with h0 | h0
  · go_wp2_with fail
    refine HCH.out.mono ?_
    rintro e w5 ⟨rfl, rfl⟩
    go_wp2_with fail
    go_ret
    exact ⟨rfl, HL4.out.bel⟩
  rcases Int.lt_or_le b 3 with h1 | h1
  · go_wp2_with fail
    refine HCH.out.mono ?_
    rintro e w5 ⟨rfl, rfl⟩
    go_wp2_with fail
    go_ret
    exact ⟨rfl, HL4.out.bel⟩
  rcases Int.lt_or_le (m : Int) b with h2 | h2
  · go_wp2_with fail
    refine HCH.out.mono ?_
    rintro e w5 ⟨rfl, rfl⟩
    go_wp2_with fail
    go_ret
    exact ⟨rfl, HL4.out.bel⟩
  · have h3 : (m : Int) - b < f := by have := HX.out; omega
    go_wp2_with fail
    refine HCH.out.mono ?_
    rintro e w5 ⟨rfl, rfl⟩
    go_wp2_with fail
    go_ret
    exact ⟨rfl, HL4.out.bel⟩
set_option maxRecDepth 20000 in
set_option maxHeartbeats 1000000 in
theorem walArgs_ok (w : World) (m at_ blocks : Nat) (hm : m ≤ 40) (h3 : 3 ≤ blocks) (hin : at_ + blocks ≤ m) :
    Calls Try.prog 10 #[.int .i64 m, .int .i64 at_, .int .i64 blocks] w (args_ok w) := by
  obtain ⟨room, hroom⟩ : ∃ room, room = (blocks - 2) * 512 := ⟨_, rfl⟩
  obtain ⟨ho, hj, hch⟩ := open_new (n := m) (at_ := at_) (room := room) (by omega) (by omega) (by omega)
  generalize ((DS.new m).head at_ 1 0).1 = d1 at ho hj hch
  have HO := Lib.hid (And.intro ho hj)
  have HR : Hid (room = (blocks - 2) * 512 ∧ 512 ≤ room) := ⟨hroom, by omega⟩
  clear ho hj hroom
  go_enter Try.func10, Try.ntmps10
  go_wp2_with fail
  refine (wlives_any w).mono ?_
  rintro e w1 ⟨rfl, hB⟩
  have HB1 := Lib.hid hB
  clear hB
  go_wp2_with fail
  refine (DL.new (w0 := w) m (by omega) (by omega) HB1.out).mono ?_
  rintro e w2 ⟨k, rfl, hL, -⟩
  have hbl : Hid ((DS.new m).blocks.length = m) := by show _ = _; simp [DS.new]
  have HL := Lib.hid hL
  clear hL HB1
  go_wp2_with fail
  have hop := open_any w w2 k (DS.new m) 0 HL.out (by decide) at_ blocks h3 (by omega) (by rw [hbl.out]; exact hin)
  rw [← HR.out.1, HO.out.1] at hop
  refine hop.mono ?_
  rintro e w3 ⟨h0, -⟩
  obtain ⟨g, A, c, ps, rfl, hg, hw, ho3, hp, hk⟩ := h0 rfl
  obtain rfl := parts_nil hp
  simp only at hw
  have HW := Lib.hid hw
  clear hop h0 hw ho3 hp hk HL
  simp only [List.length_nil]
  go_wp2_with fail
  refine (open_nil w3 at_ blocks).mono ?_
  rintro e w4 ⟨rfl, rfl⟩
  go_wp2_with fail
  generalize hW4 : World.alloc w3 (.cells _ _) = W4
  obtain ⟨ba4, hz4, hB4⟩ := fresh1 hW4
  clear hW4
  have HW4 := Lib.hid (HW.out.below hB4)
  clear ba4 hz4 hB4 HW
  refine (wadd_nil W4 _ _ _).mono ?_
  rintro e w5 ⟨rfl, rfl⟩
  go_wp2_with fail
  refine (wreset_nil W4).mono ?_
  rintro e w5 ⟨rfl, rfl⟩
  go_wp2_with fail
  refine (wroom_nil W4).mono ?_
  rintro e w5 ⟨rfl, rfl⟩
  go_wp2_with fail
  refine (wlen_nil W4).mono ?_
  rintro e w5 ⟨rfl, rfl⟩
  go_wp2_with fail
  refine (wbroken_nil W4).mono ?_
  rintro e w5 ⟨rfl, rfl⟩
  have hq0 : ¬ (at_ : Int) < 0 := by omega
  have hq1 : ¬ (blocks : Int) < 3 := by omega
  have hq2 : ¬ (m : Int) < (blocks : Int) := by omega
  have hq3 : ¬ (m : Int) - (blocks : Int) < (at_ : Int) := by omega
  go_wp2_with fail
  have hadd := wadd_any w W4 k g _ _ _ HW4.out (by decide) none 0 [] ERow.nil (fun p hp => by cases hp) (by decide)
  simp only [List.map_nil] at hadd
  rw [HO.out.2.none] at hadd
  refine hadd.mono ?_
  rintro e w6 ⟨rfl, hw6, -⟩
  have HW6 := Lib.hid hw6
  clear hadd hw6 HW4
  simp only at HW6
  go_wp2_with fail
  have hc6 := changes_any w6 _ k _ HW6.out.dl.at_
  rw [hch] at hc6
  refine hc6.mono ?_
  rintro e w7 ⟨rfl, rfl⟩
  clear hc6
  go_wp2_with fail
  refine (HW6.out.dl.crash ⟨0, 0, 0⟩ (by decide)).mono ?_
  rintro e w8 ⟨rfl, hL8, hK8⟩
  have HW8 := Lib.hid (HW6.out.kept hL8 hK8)
  have HD8 : Hid ((d1.crash ⟨0, 0, 0⟩).down = true ∧ (d1.crash ⟨0, 0, 0⟩).blocks.length = m) := ⟨crash_down' HO.out.2.still.down, by rw [crash_length]; exact HO.out.2.still.len⟩
  clear hL8 hK8 HW6
  generalize d1.crash ⟨0, 0, 0⟩ = d2 at HW8 HD8
  go_wp2_with fail
  have hop := open_any w w8 k d2 _ HW8.out.dl (by decide) at_ blocks h3 (by omega) (by rw [HD8.out.2]; exact hin)
  rw [← HR.out.1, open_down HD8.out.1] at hop
  refine hop.mono ?_
  rintro e w9 ⟨-, h1⟩
  obtain ⟨rfl, hL9, hK9⟩ := h1 (show (6 : Int) ≠ 0 by decide)
  have HW9 := Lib.hid (HW8.out.kept hL9 hK9)
  clear hop h1 hL9 hK9 HW8
  go_wp2_with fail
  have H10 : Hid (WL w (w9.alloc (.cells #[.slice none 0 0] 33)) k g d2 _ _ ∧ ERow ePart (w9.alloc (.cells #[.slice none 0 0] 33)) (some ⟨w9.heap.size, 0, none⟩) [⟨none, 0, []⟩]) := ⟨HW9.out.below (Below.alloc1 _ _), ERow.single ⟨none, 0, []⟩ _ rfl⟩
  generalize (w9.alloc _) = w10 at H10 ⊢
  have hadd := wadd_any w w10 k g _ d2 _ H10.out.1 (by decide) _ 1 [⟨none, 0, []⟩] H10.out.2 (by intro p hp; simp at hp; subst hp; exact ⟨BRow.nil, by decide⟩) (by decide)
  have hfl : (Wal.frames [[]]).length = 5 := by decide +kernel
  rw [add_down HD8.out.1 rfl (by simp) (show 1 < Wal.last62 by decide) (by have := HR.out.2; simp only [List.map_cons, List.map_nil, List.nil_append, hfl]; omega)] at hadd
  refine hadd.mono ?_
  rintro e w11 ⟨rfl, hw11, -⟩
  have HW11 := Lib.hid hw11
  clear hadd hw11 H10 HW9
  simp only at HW11
  go_wp2_with fail
  refine (wbroken_any w11 _ k g _ HW11.out.log).mono ?_
  rintro e w12 ⟨rfl, rfl⟩
  go_wp2_with fail
  have H12 : Hid (WL w (w11.alloc (.cells #[.slice none 0 0] 33)) k g d2 _ _ ∧ ERow ePart (w11.alloc (.cells #[.slice none 0 0] 33)) (some ⟨w11.heap.size, 0, none⟩) [⟨none, 0, []⟩]) := ⟨HW11.out.below (Below.alloc1 _ _), ERow.single ⟨none, 0, []⟩ _ rfl⟩
  generalize (w11.alloc _) = w12 at H12 ⊢
  have hadd := wadd_any w w12 k g _ d2 _ H12.out.1 (by decide) _ 1 [⟨none, 0, []⟩] H12.out.2 (by intro p hp; simp at hp; subst hp; exact ⟨BRow.nil, by decide⟩) (by decide)
  rw [add_broken rfl] at hadd
  refine hadd.mono ?_
  rintro e w13 ⟨rfl, hw13, -⟩
  have HW13 := Lib.hid hw13
  clear hadd hw13 H12 HW11
  simp only at HW13
  go_wp2_with fail
  have hrs := wreset_any w w13 k g _ d2 _ HW13.out (by decide)
  rw [reset_broken rfl] at hrs
  refine hrs.mono ?_
  rintro e w14 ⟨rfl, hw14, -⟩
  have HB := Lib.hid hw14.dl.bel
  clear hrs hw14 HW13
  go_wp2_with fail
  go_ret
  exact ⟨rfl, HB.out⟩
set_option maxRecDepth 20000 in
set_option maxHeartbeats 1000000 in
theorem walArgs_walk (w : World) (m : Int) (wm : (Lit.int .i64 m).wf = true) (f : Int) (wf : (Lit.int .i64 f).wf = true) (b : Int) (wb : (Lit.int .i64 b).wf = true) :
    Calls Try.prog 10 #[.int .i64 m, .int .i64 f, .int .i64 b] w fun e w' => e = .returned (.bool true) ∧ Below w.heap.size w w' := by
  have hf : -9223372036854775808 ≤ f ∧ f ≤ 9223372036854775807 := i64_range wf
  have hb : -9223372036854775808 ≤ b ∧ b ≤ 9223372036854775807 := i64_range wb
  by_cases hm : 1 ≤ m ∧ m ≤ 40
  · obtain ⟨n, rfl⟩ : ∃ n : Nat, m = (n : Int) := ⟨m.toNat, by omega⟩
    by_cases hx : f < 0 ∨ b < 3 ∨ (n : Int) < b ∨ (n : Int) - b < f
    · exact walArgs_bad w n f b (by omega) (by omega) hf hb hx
    · obtain ⟨at_, rfl⟩ : ∃ n : Nat, f = (n : Int) := ⟨f.toNat, by omega⟩
      obtain ⟨bl, rfl⟩ : ∃ n : Nat, b = (n : Int) := ⟨b.toNat, by omega⟩
      exact walArgs_ok w n at_ bl (by omega) (by omega) (by omega)
  · have hm' : m < 1 ∨ 40 < m := by omega
    clear hm hf hb
    rcases hm' with h | h
    all_goals
      go_enter Try.func10, Try.ntmps10
      go_wp2_with fail
      refine (wlives_any w).mono ?_
      rintro e w1 ⟨rfl, hB⟩
      have HB1 := Lib.hid hB
      clear hB
      go_wp2_with fail
      refine (wlives_any w1).mono ?_
      rintro e w2 ⟨rfl, hB⟩
      have HB2 := Lib.hid (HB1.out.then hB)
      clear hB
      go_wp2_with fail
      go_ret
      exact ⟨rfl, HB2.out⟩
end Go.Proofs.Ythbanhedjfpmaaa
end

section
/-
  The contracts of dowserref01.Num, Int, Text.
-/
namespace Go.Proofs.Ythbanhedjfpmaaa
set_option linter.unusedSimpArgs false
set_option linter.unusedVariables false
open Go.RowKit

theorem bv_wrap (m : Nat) : bv (UInt8.ofNat (m % 128 + 128)) = .int .u8 ((m : Int) % 128 + 128) := bv_hi m

set_option maxRecDepth 20000 in
theorem refnum_low (w : World) (m f : Nat) (hlt : m < 128) :
    Calls Try.prog 57 #[.int .u64 (m : Int)] w fun e w' => e = .returned (txt (Wire.numF (f + 1) m)) ∧ Below w.heap.size w w' := by
  have HF := Lib.hid (numF_last f m hlt)
  have hcv := run_string_bytes _ 1 (BRow.one w (UInt8.ofNat m) _ 5 (bv_lo m hlt))
  simp only [List.length_singleton] at hcv
  go_enter Try.func57, Try.ntmps57
  go_wp2_with fail
  go_ret
  rw [HF.out]
  exact ⟨rfl, (Below.refl _ _).alloc (Nat.le_refl _) _⟩

set_option maxRecDepth 20000 in
set_option maxHeartbeats 1000000 in
theorem refnum_any (f : Nat) : ∀ (w : World) (m : Nat), f ≤ 9 → m < two64 → Fits m (f + 1) →
    Calls Try.prog 57 #[.int .u64 (m : Int)] w fun e w' => e = .returned (txt (Wire.numF (f + 1) m)) ∧ Below w.heap.size w w' := by
  induction f with
  | zero =>
    intro w m _ hm hF
    exact refnum_low w m 0 (by have := hF.lt; simpa using this)
  | succ f ih =>
    intro w m hf hm hF
    have hnl := Wire.numF_length (f + 1) (m / 128)
    by_cases hlt : m < 128
    · exact refnum_low w m _ hlt
    · have HIH := Lib.hid ih
      have HQ := Lib.hid (u64_quo128 m hm)
      have HN := Lib.hid (numF_step (f + 1) m (by omega))
      have HD : Fits (m / 128) (f + 1) := ⟨by
        have := hF.lt
        rw [Nat.pow_succ] at this
        exact Nat.div_lt_of_lt_mul (by rw [Nat.mul_comm]; exact this)⟩
      have HM : Hid (m / 128 < two64) := Nat.lt_of_le_of_lt (Nat.div_le_self _ _) hm
      have HB := Lib.hid (bv_hi m)
      clear ih hF hm
      go_enter Try.func57, Try.ntmps57
      go_wp2_with fail
      apply wp_region_rel (fun w' => Below w.heap.size w w') (fun a b => Below a.heap.size a b) (fun i x w => match i with
          | 0 => x = .int .u64 m
          | 1 => x = .int .u64 ((m : Int) % 128)
          | 2 => x = .int .u8 ((m : Int) % 128)
          | 3 => x = .int .u8 ((m : Int) % 128 + 128)
          | 4 => ∃ A, x = .slice A 1 1 ∧ BRow w A [UInt8.ofNat (m % 128 + 128)]
          | 5 => x = txt [UInt8.ofNat (m % 128 + 128)]
          | 6 => x = .int .u64 m
          | 7 => x = .int .u64 ((m / 128 : Nat) : Int)
          | 8 => x = txt (Wire.numF (f + 1) (m / 128))
          | 9 => x = txt (Wire.numF (f + 1 + 1) m)
          | 10 => x = txt (Wire.numF (f + 1 + 1) m)
          | _ => True)
      case hG => intro v; simp only [regFrame, List.zipIdx_cons, List.zipIdx_nil, List.foldl_cons, List.foldl_nil, Act.put, List.setIfInBounds_toArray, List.set_cons_zero, List.set_cons_succ, Nat.reduceAdd]; rfl
      case hm => kernel_rfl
      case honce => rfl
      case hlow => kernel_rfl
      case hInv => exact fun _ _ h h' => h.trans (h'.mono h.size)
      case hR =>
        intro i x w1 w2 _ hb h
        split at h <;> first | exact h | (obtain ⟨A, rfl, h⟩ := h; exact ⟨A, rfl, h.below hb⟩)
      case h0 => exact (Below.refl _ _).drew
      case hstep =>
        refine ⟨?_, ?_, ?_, ?_, ?_, ?_, ?_, ?_, ?_, ?_, ?_, trivial⟩ <;> intro v w1 hI hd _ <;> simp only [Deps, Region.binds, ↓reduceIte] at hd
        · exact opDoes_move _ rfl rfl ⟨Below.refl _ _, rfl⟩
        · obtain ⟨h0, _⟩ := hd
          refine opDoes_run rfl (x := .int .u64 ((m : Int) % 128)) ?_ ⟨Below.refl _ _, rfl⟩
          go_simp
          exact Int.tmod_eq_emod_of_nonneg (by omega)
        · obtain ⟨h0, _⟩ := hd
          refine opDoes_run rfl (x := .int .u8 ((m : Int) % 128)) ?_ ⟨Below.refl _ _, rfl⟩
          go_simp
          exact IntWalk.u8_in _ (by omega)
        · obtain ⟨h0, _⟩ := hd
          refine opDoes_run rfl (x := .int .u8 ((m : Int) % 128 + 128)) ?_ ⟨Below.refl _ _, rfl⟩
          go_simp
          exact IntWalk.u8_in _ (by omega)
        · obtain ⟨h0, _⟩ := hd
          refine opDoes_run rfl (x := .slice (some ⟨w1.heap.size, 0, none⟩) 1 1) (w' := w1.alloc (.cells #[.int .u8 ((m : Int) % 128 + 128)] 5)) ?_ ⟨(Below.refl _ _).alloc (Nat.le_refl _) _, _, rfl, BRow.one w1 _ _ _ HB.out⟩
          go_simp
        · obtain ⟨⟨A, h0, hr⟩, _⟩ := hd
          have hcv := run_string_bytes w1 1 hr
          simp only [List.length_singleton] at hcv
          refine opDoes_run rfl (x := txt [UInt8.ofNat (m % 128 + 128)]) ?_ ⟨Below.refl _ _, rfl⟩
          go_simp
        · exact opDoes_move _ rfl rfl ⟨Below.refl _ _, rfl⟩
        · obtain ⟨h0, _⟩ := hd
          refine opDoes_run rfl (x := .int .u64 ((m / 128 : Nat) : Int)) ?_ ⟨Below.refl _ _, rfl⟩
          rw [← HQ.out]
          go_simp
        · obtain ⟨h0, _⟩ := hd
          refine opDoes_call _ _ _ #[.int .u64 ((m / 128 : Nat) : Int)] rfl rfl (by go_simp) (Try.call57 _ _) ?_
          exact (HIH.out w1 _ (by omega) HM.out HD).mono fun e w2 ⟨he, hb⟩ => ⟨_, he, hb, rfl⟩
        · obtain ⟨h0, h1, _⟩ := hd
          refine opDoes_run rfl (x := txt (Wire.numF (f + 1 + 1) m)) ?_ ⟨Below.refl _ _, rfl⟩
          rw [HN.out]
          unfold txt at h0 h1 ⊢
          go_simp
          rw [if_neg (by omega)]
          congr 3
        · obtain ⟨h0, _⟩ := hd
          refine opDoes_assign _ rfl rfl ⟨Below.refl _ _, ?_⟩
          go_simp
      case hend =>
        intro v w4 hI h
        simp only [AllOps, Nat.zero_add, Nat.reduceAdd, and_true] at h
        rw [h.2.2.2.2.2.2.2.2.2.2]
        clear h
        go_wp2_with fail
        go_ret
        exact ⟨rfl, hI⟩

theorem txt_add (a b : List UInt8) : ByteArray.mk a.toArray ++ ByteArray.mk b.toArray = ByteArray.mk (a ++ b).toArray := by
  apply ByteArray.ext
  simp
theorem refnum_all (w : World) (n : Nat) (h : n < two64) :
    Calls Try.prog 57 #[.int .u64 (n : Int)] w fun e w' => e = .returned (txt (Wire.num n)) ∧ Below w.heap.size w w' :=
  refnum_any 9 w n (Nat.le_refl _) h ⟨Nat.lt_of_lt_of_le h (by decide)⟩

end Go.Proofs.Ythbanhedjfpmaaa
end

section
/-
  The document's frame of a record.
-/
namespace Go.Proofs.Ythbanhedjfpmaaa
set_option linter.unusedSimpArgs false
set_option linter.unusedVariables false
open Go.RowKit

set_option maxRecDepth 20000 in
set_option maxHeartbeats 1000000 in
theorem refframe_any (w : World) (l : List UInt8) (hl : l.length ≤ 1000000) :
    Calls Try.prog 33 #[txt l] w fun e w' => e = .returned (txt (Wal.frame l)) ∧ Below w.heap.size w w' := by
  have hn : l.length < two64 := Nat.lt_of_le_of_lt hl (by decide)
  have hsz : (ByteArray.mk l.toArray).size = l.length := by simp [ByteArray.size]
  have hS : (Crc.sealed l).length = l.length + 4 := by simp [Crc.sealed, Crc.le4]
  have hsz2 : (ByteArray.mk (Crc.sealed l).toArray).size = l.length + 4 := by simp [ByteArray.size, hS]
  have hnl : (Wire.num l.length).length ≤ 10 := (Wire.num_length l.length).2
  have HL := Lib.hid (And.intro hl hn)
  have hcut := cut_end (Crc.sealed l) l.length
  rw [hS] at hcut
  have HC := Lib.hid hcut
  clear hcut
  go_enter Try.func33, Try.ntmps33
  unfold txt
  go_wp2_with fail
  refine (refnum_all w l.length HL.out.2).mono ?_
  rintro e w1 ⟨rfl, hb1⟩
  have HB1 := Lib.hid hb1
  clear hb1
  unfold txt
  go_wp2_with fail
  refine (refseal_any w1 l HL.out.1).mono ?_
  rintro e w2 ⟨rfl, hb2⟩
  have HB2 := Lib.hid (HB1.out.then hb2)
  clear hb2
  unfold txt
  go_wp2_with fail
  go_ret
  refine ⟨?_, HB2.out⟩
  rw [HC.out, cut_join, cut_join]
  congr 4
  unfold Wal.frame Crc.sealed
  rw [List.drop_left, List.append_assoc]
  rfl
end Go.Proofs.Ythbanhedjfpmaaa
end

section
/-
  The walk of WalRoom.
-/
namespace Go.Proofs.Ythbanhedjfpmaaa
set_option linter.unusedSimpArgs false
set_option linter.unusedVariables false
open Go.RowKit

theorem op_lit {w : World} (A : Option Addr) (c : Nat) (ps : List Part) (g : Nat) (hg : g = w.heap.size) : ERow eOpW (w.alloc (.cells #[.int .i64 0, .slice A ps.length c, .int .i64 0, .int .u64 0, .int .i64 0] eOpW.e)) (some ⟨g, 0, none⟩) [⟨0, A, c, ps, ⟨0, 0, 0⟩⟩] :=
  ERow.lit eOpW w ⟨0, A, c, ps, ⟨0, 0, 0⟩⟩ #[.int .i64 0, .slice A ps.length c, .int .i64 0, .int .u64 0, .int .i64 0] rfl g hg
theorem all_short {ps : List Part} (h : ps.all short3 = true) : ∀ p ∈ ps, p.l.length ≤ 3000 := fun p hp => by
  have := List.all_eq_true.1 h p hp
  simpa [short3] using this
set_option maxRecDepth 20000 in
set_option maxHeartbeats 1000000 in
theorem walRoom_no (w : World) (n : Int) (A : Option Addr) (c : Nat) (ps : List Part) (hp : PartsIn w A c ps) (h : fitsW n [⟨0, A, c, ps, ⟨0, 0, 0⟩⟩] = false) :
    Calls Try.prog 11 #[.int .i64 n, .slice A ps.length c] w (args_ok w) := by
  have HP := Lib.hid hp
  have HF := Lib.hid h
  clear hp h
  go_enter Try.func11, Try.ntmps11
  go_wp2_with fail
  refine (wlives_any w).mono ?_
  rintro e w1 ⟨rfl, hB⟩
  have HB1 := Lib.hid hB
  clear hB
  go_wp2_with fail
  have hb2 := Below.alloc1 w1 (.cells #[.int .i64 0, .slice A ps.length c, .int .i64 0, .int .u64 0, .int .i64 0] eOpW.e)
  have hft := wfits_any _ n _ 1 _ (op_lit (w := w1) A c ps _ rfl) (by intro o ho; simp at ho; subst ho; exact (HP.out.below HB1.out).below hb2)
  rw [HF.out] at hft
  refine hft.mono ?_
  rintro e w3 ⟨rfl, hB⟩
  have HB3 := Lib.hid ((HB1.out.then hb2).then hB)
  clear hB hft hb2
  go_wp2_with fail
  refine (wlives_any w3).mono ?_
  rintro e w4 ⟨rfl, hB⟩
  have HB4 := Lib.hid (HB3.out.then hB)
  clear hB
  go_wp2_with fail
  go_ret
  exact ⟨rfl, HB4.out⟩
set_option maxRecDepth 20000 in
set_option maxHeartbeats 2000000 in
theorem walRoom_fit (w : World) (n : Nat) (A : Option Addr) (c : Nat) (ps : List Part) (hp : PartsIn w A c ps) (h3 : 3 ≤ n) (h7 : n ≤ 7) (h6 : ps.length ≤ 6) (hs : ∀ p ∈ ps, p.l.length ≤ 3000) (h : fitsW n [⟨0, A, c, ps, ⟨0, 0, 0⟩⟩] = true) :
    Calls Try.prog 11 #[.int .i64 n, .slice A ps.length c] w (args_ok w) := by
  have HP := Lib.hid (And.intro hp hs)
  have HF := Lib.hid h
  obtain ⟨room, hroom⟩ : ∃ room, room = (n - 2) * 512 := ⟨_, rfl⟩
  have hri : ((n : Int) - 2) * 512 = (room : Int) := by omega
  obtain ⟨ho, hj, -⟩ := open_new (n := n) (at_ := 0) (room := room) (by omega) (by omega) (by omega)
  generalize ((DS.new n).head 0 1 0).1 = d1 at ho hj
  have HO := Lib.hid (And.intro ho hj)
  have HR := Lib.hid hroom
  have hrm : room ≤ 2560 := by omega
  clear hp hs h ho hj hroom
  go_enter Try.func11, Try.ntmps11
  go_wp2_with fail
  refine (wlives_any w).mono ?_
  rintro e w1 ⟨rfl, hB⟩
  have HB1 := Lib.hid hB
  clear hB
  go_wp2_with fail
  have hb2 := Below.alloc1 w1 (.cells #[.int .i64 0, .slice A ps.length c, .int .i64 0, .int .u64 0, .int .i64 0] eOpW.e)
  have hft := wfits_any _ n _ 1 _ (op_lit (w := w1) A c ps _ rfl) (by intro o ho; simp at ho; subst ho; exact (HP.out.1.below HB1.out).below hb2)
  rw [HF.out] at hft
  refine hft.mono ?_
  rintro e w3 ⟨rfl, hB⟩
  have HB3 := Lib.hid ((HB1.out.then hb2).then hB)
  clear hB hft hb2 HB1
  go_wp2_with fail
  refine (DL.new (w0 := w) n (by omega) (by omega) HB3.out).mono ?_
  rintro e w4 ⟨k, rfl, hL, -⟩
  have hbl : Hid ((DS.new n).blocks.length = n) := by show _ = _; simp [DS.new]
  have HL := Lib.hid hL
  clear hL HB3
  go_wp2_with fail
  have hop := open_any w w4 k (DS.new n) 0 HL.out (by decide) 0 n h3 (by omega) (by rw [hbl.out]; omega)
  rw [← HR.out, HO.out.1] at hop
  refine hop.mono ?_
  rintro e w5 ⟨h0, -⟩
  obtain ⟨g, A5, c5, ps5, rfl, hg, hw, ho3, hp5, hk⟩ := h0 rfl
  simp only at hw
  have HW : Hid (WL w w5 k g d1 ⟨0, room, 1, [], 0, false⟩ 2) := hw
  clear hop h0 hw ho3 hp5 hk HL
  have HRM := Lib.hid (wroom_any w5 _ k g _ HW.out.log)
  simp only [List.length_nil] at HRM
  have hri2 : (room : Int) - ((0 : Nat) : Int) = (room : Int) := by omega
  rw [hri2] at HRM
  go_wp2_with fail
  refine HRM.out.mono ?_
  rintro e w6 ⟨rfl, rfl⟩
  have HW6 := Lib.hid (HW.out.below (Below.refl _ _).drewR)
  clear HW HRM hri2
  go_wp2_with fail
  go_loopw [51] (fun iv wq => ∃ (i : Nat) (d : DS) (l : LS) (R : List (List UInt8)), i ≤ ps.length ∧ iv = .int .i64 (i : Nat) ∧ Hid (JOk d l R n ∧ WL w wq k g d l (2 + i * 1010) ∧ l.seq ≤ 1 + i ∧ l.room = room ∧ l.at_ = 0)) (fun iv _ => ps.length - (intOf iv).toNat)
  case atStart => exact ⟨0, d1, _, [], Nat.zero_le _, rfl, HO.out.2, HW6.out, Nat.le_refl _, rfl, rfl⟩
  case round =>
    obtain ⟨i, d, l, R, hi, rfl, HJ⟩ := hrel
    clear HW6 HO
    have HRR := Lib.hid HJ.out.2.2.2
    have hdr : l.data.length ≤ room := by rw [← HRR.out.1]; exact HJ.out.1.good.data
    rcases Nat.lt_or_ge i ps.length with hlt | hge
    · have hii : (i : Int) < (ps.length : Int) := by omega
      obtain ⟨b, o, rfl, hb, hce⟩ := part_cell (HP.out.1.row.below HJ.out.2.1.dl.bel) hlt
      have HOK := Lib.hid (HP.out.1.ok ps[i] (List.getElem_mem hlt))
      have hp3 := HP.out.2 ps[i] (List.getElem_mem hlt)
      generalize ps[i] = p at hce HOK hp3
      have hcv := run_string_bytes wr p.c (HOK.out.1.below HJ.out.2.1.dl.bel)
      unfold txt at hcv
      have HFR := Lib.hid (refframe_any wr p.l (by omega))
      unfold txt at HFR
      have hfl := Wal.frame_length p.l
      generalize hfq : Wal.frame p.l = q at HFR hfl
      have hsz : (ByteArray.mk q.toArray).size = q.length := by simp [ByteArray.size]
      go_wp2_with fail
      refine HFR.out.mono ?_
      rintro e w8 ⟨rfl, hb8⟩
      have H8 := Lib.hid (And.intro (HJ.out.2.1.below hb8) (HJ.out.2.1.dl.bel.trans (hb8.mono HJ.out.2.1.dl.bel.size)))
      have HFQ := Lib.hid hfq
      clear HFR hb8 hcv hce hfq
      have HRM := Lib.hid (wroom_any w8 _ k g _ H8.out.1.log)
      rw [HRR.out.1] at HRM
      go_wp2_with fail
      refine HRM.out.mono ?_
      rintro e w9 ⟨rfl, rfl⟩
      have HCH := Lib.hid (changes_any w8.drew _ k _ (H8.out.1.dl.at_.below (Below.refl _ _).drewR))
      clear HRM
      go_wp2_with fail
      refine HCH.out.mono ?_
      rintro e w9 ⟨rfl, rfl⟩
      clear HCH
      go_wp2_with fail
      have hBA : Below w8.heap.size w8 (w8.alloc (.cells #[.slice p.a p.l.length p.c] 33)).drew := (Below.alloc1 _ _).drewR
      have H10 : Hid (WL w (w8.alloc (.cells #[.slice p.a p.l.length p.c] 33)).drew k g d l (2 + i * 1010) ∧ ERow ePart (w8.alloc (.cells #[.slice p.a p.l.length p.c] 33)).drew (some ⟨w8.heap.size, 0, none⟩) [p] ∧ ∀ x ∈ [p], x.ok (w8.alloc (.cells #[.slice p.a p.l.length p.c] 33)).drew) :=
        ⟨H8.out.1.below hBA, (ERow.single (w := w8) p _ rfl).below (Below.refl _ _).drewR, fun x hx => by
          simp at hx
          subst hx
          exact ⟨(HOK.out.1.below H8.out.2).below hBA, HOK.out.2⟩⟩
      clear hBA H8
      generalize (w8.alloc _).drew = w10 at H10 ⊢
      have hadd := wadd_any w w10 k g _ d l H10.out.1 (by omega) _ 1 [p] H10.out.2.1 H10.out.2.2 (by simp)
      simp only [List.map_cons, List.map_nil] at hadd
      have hfr : Wal.frames [p.l] = q := by rw [← HFQ.out]; simp [Wal.frames]
      have hJ := HJ.out
      rcases Nat.lt_or_ge (room - l.data.length) q.length with hbig | hfit
      · have hnot : ¬ (q.length : Int) ≤ (room : Int) - (l.data.length : Int) := by omega
        rw [hJ.1.full (by simp) (by rw [hfr, List.length_append, hJ.2.2.2.1]; omega)] at hadd
        have HA := Lib.hid hadd
        clear hadd hJ hfr
        refine HA.out.mono ?_
        rintro e w11 ⟨rfl, hw11, -⟩
        have HW11 := Lib.hid hw11
        clear hw11 HA H10
        simp only at HW11
        have HRM := Lib.hid (wroom_any w11 _ k g _ HW11.out.log)
        rw [HRR.out.1] at HRM
        go_wp2_with fail
        refine HRM.out.mono ?_
        rintro e w12 ⟨rfl, rfl⟩
        have HCH := Lib.hid (changes_any w11.drew _ k _ (HW11.out.dl.at_.below (Below.refl _ _).drewR))
        clear HRM
        go_wp2_with fail
        refine HCH.out.mono ?_
        rintro e w12 ⟨rfl, rfl⟩
        clear HCH
        go_wp2_with fail
        go_roundw
        case rel => exact ⟨i + 1, d, l, R, by omega, by go_num, HJ.out.1, (HW11.out.below (Below.refl _ _).drewR).more (by omega), by have := HJ.out.2.2.1; omega, HJ.out.2.2.2⟩
        case measure => simp [intOf]; omega
      · have hyes : (q.length : Int) ≤ (room : Int) - (l.data.length : Int) := by omega
        obtain ⟨d', ha, hj'⟩ := hJ.1.add (recs := [p.l]) (by simp) (by have := hJ.2.2.1; show l.seq < 4611686018427387904; omega) (by rw [hfr, List.length_append, hJ.2.2.2.1]; omega) (by intro s hs; simp at hs; subst hs; omega)
          (by have := hJ.1.good.count; rw [hfr, List.length_append, List.length_singleton]; omega)
        rw [ha] at hadd
        rw [hfr] at hadd hj'
        have HA := Lib.hid hadd
        have HJ' := Lib.hid hj'
        clear hadd hJ hfr ha hj'
        refine HA.out.mono ?_
        rintro e w11 ⟨rfl, hw11, -⟩
        have HW11 := Lib.hid hw11
        clear hw11 HA H10
        simp only at HW11
        have HRM := Lib.hid (wroom_any w11 _ k g _ HW11.out.log)
        simp only [HRR.out.1, List.length_append] at HRM
        have hrr : (room : Int) - ((l.data.length + q.length : Nat) : Int) = (room : Int) - (l.data.length : Int) - (q.length : Int) := by omega
        rw [hrr] at HRM
        clear hrr
        go_wp2_with fail
        refine HRM.out.mono ?_
        rintro e w12 ⟨rfl, rfl⟩
        clear HRM
        go_wp2_with fail
        go_roundw
        case rel => exact ⟨i + 1, d', _, R ++ [p.l], by omega, by go_num, HJ'.out, (HW11.out.below (Below.refl _ _).drewR).more (by omega), by have := HJ.out.2.2.1; show l.seq + 1 ≤ _; omega, HRR.out⟩
        case measure => simp [intOf]; omega
    · obtain rfl : i = ps.length := by omega
      have hii : ¬ ((ps.length : Nat) : Int) < ((ps.length : Nat) : Int) := by omega
      obtain ⟨d', ha, hj'⟩ := HJ.out.1.reset (by have := HJ.out.2.2.1; show l.seq < 4611686018427387904; omega)
      have hrs := wreset_any w wr k g _ d l HJ.out.2.1 (by omega)
      rw [ha] at hrs
      have HRS := Lib.hid hrs
      have HJ' := Lib.hid hj'
      clear hrs ha hj'
      go_wp2_with fail
      refine HRS.out.mono ?_
      rintro e w11 ⟨rfl, hw11, -⟩
      have HW11 := Lib.hid hw11
      clear hw11 HRS
      simp only at HW11
      have HRM := Lib.hid (wroom_any w11 _ k g _ HW11.out.log)
      simp only [HRR.out.1, List.length_nil] at HRM
      have hri2 : (room : Int) - ((0 : Nat) : Int) = (room : Int) := by omega
      rw [hri2] at HRM
      clear hri2
      go_wp2_with fail
      refine HRM.out.mono ?_
      rintro e w12 ⟨rfl, rfl⟩
      have HLN := Lib.hid (wlen_any w11.drew _ k g _ (HW11.out.log.below (Below.refl _ _).drewR))
      clear HRM
      go_wp2_with fail
      refine HLN.out.mono ?_
      rintro e w12 ⟨rfl, rfl⟩
      have hpn := pending_any w11.drew _ k _ (HW11.out.dl.at_.below (Below.refl _ _).drewR)
      rw [HJ'.out.pend] at hpn
      have HPN := Lib.hid hpn
      clear hpn HLN
      go_wp2_with fail
      refine HPN.out.mono ?_
      rintro e w12 ⟨rfl, rfl⟩
      go_wp2_with fail
      go_ret
      exact ⟨rfl, HW11.out.dl.bel.drewR⟩
set_option maxRecDepth 20000 in
theorem walRoom_walk (w : World) (n : Int) (_wn : (Lit.int .i64 n).wf = true) (v : Value) (hv : PartsW w v) :
    Calls Try.prog 11 #[.int .i64 n, v] w fun e w' => e = .returned (.bool true) ∧ Below w.heap.size w w' := by
  obtain ⟨A, c, ps, rfl, hp⟩ := hv
  cases h : fitsW n [⟨0, A, c, ps, ⟨0, 0, 0⟩⟩] with
  | false => exact walRoom_no w n A c ps hp h
  | true =>
    have h' := h
    unfold fitsW OpW.fit at h'
    simp only [Bool.and_eq_true, decide_eq_true_eq, List.all_cons, List.all_nil, Bool.and_true, List.length_cons, List.length_nil] at h'
    obtain ⟨m, rfl⟩ : ∃ m : Nat, n = (m : Int) := ⟨n.toNat, by omega⟩
    exact walRoom_fit w m A c ps hp (by omega) (by omega) h'.2.1 (all_short h'.2.2) h
end Go.Proofs.Ythbanhedjfpmaaa
end

section
/-
  The document's eight bytes of a number, and the number of bytes.
-/
namespace Go.Proofs.Ythbanhedjfpmaaa
set_option linter.unusedSimpArgs false
set_option linter.unusedVariables false
open Go.RowKit

theorem lo_snoc8 (l : List UInt8) (k : Nat) (hk : k < l.length) : Wal.lo (l.take (k + 1)) = Wal.lo (l.take k) * 256 + l[k].toNat := by
  rw [List.take_succ_eq_append_getElem hk, Wal.lo_snoc]
theorem lo_take_lt (l : List UInt8) (k : Nat) (hk : k ≤ 7) : Wal.lo (l.take k) < 72057594037927936 := by
  have h1 := Wal.lo_lt (l.take k)
  refine Nat.lt_of_lt_of_le h1 ?_
  rw [show (72057594037927936 : Nat) = 256 ^ 7 from by decide]
  exact Nat.pow_le_pow_right (by omega) (by rw [List.length_take]; omega)
theorem bv_ofNat (m : Nat) : bv (UInt8.ofNat m) = .int .u8 ((m : Int) % 256) := by simp [bv]
set_option maxRecDepth 20000 in
set_option maxHeartbeats 1000000 in
theorem refhigh4 (w : World) (n : Nat) (hn : n < two64) : Calls Try.prog 59 #[.int .u64 (n : Int)] w fun e w' => e = .returned (txt (Wal.hi8 n)) ∧ Below w.heap.size w w' := by
  have HN := Lib.hid hn
  clear hn
  go_enter Try.func59, Try.ntmps59
  go_wp2_with fail
  go_loopw [0, 3, 4] (fun nv sv iv wr => ∃ k m : Nat, k ≤ 8 ∧ iv = .int .i64 k ∧ nv = .int .u64 (m : Int) ∧ sv = txt (Wal.hiR k n) ∧ m < 18446744073709551616 ∧ Hid (m = n / 256 ^ k ∧ Below w.heap.size w wr)) (fun _ _ iv _ => 8 - (intOf iv).toNat)
  case atStart => exact ⟨0, n, by omega, rfl, rfl, rfl, HN.out, by simp, Below.refl _ _⟩
  case round =>
    obtain ⟨k, m, hk, rfl, rfl, rfl, hm64, HM⟩ := hrel
    have hl := Wal.hiR_length k n
    have hsz : (ByteArray.mk (Wal.hiR k n).toArray).size = k := by simp [ByteArray.size, hl]
    by_cases hlt : k < 8
    · have hii : (k : Int) < 8 := by omega
      have hwq : IntKind.u64.wrap ((m : Int) / 256) = (m : Int) / 256 := IntWalk.u64_in _ (by omega)
      have hrow := BRow.one wr (UInt8.ofNat m) (.int .u8 ((m : Int) % 256)) 5 (bv_ofNat m)
      have hcv := run_string_bytes _ 1 hrow
      have HJ := Lib.hid (cut_join [UInt8.ofNat m] (Wal.hiR k n))
      simp only [List.length_singleton] at hcv
      have hsz1 : (ByteArray.mk [UInt8.ofNat m].toArray).size = 1 := rfl
      clear hrow
      unfold txt at hcv ⊢
      go_wp2_with fail
      go_roundw
      case rel => exact ⟨k + 1, m / 256, by omega, by go_num, by go_num, by rw [HJ.out, Wal.hiR_cons, HM.out.1]; rfl, by omega, by rw [HM.out.1, Nat.pow_succ, Nat.div_div_eq_div_mul], HM.out.2.alloc HM.out.2.size _⟩
      case measure => simp [intOf]; omega
    · obtain rfl : k = 8 := by omega
      have hii : ¬ ((8 : Nat) : Int) < 8 := by omega
      go_wp2_with fail
      go_ret
      exact ⟨rfl, HM.out.2⟩
set_option maxRecDepth 20000 in
set_option maxHeartbeats 1000000 in
theorem refnumber4 (w : World) (l : List UInt8) (hl : l.length ≤ 8) : Calls Try.prog 83 #[txt l] w fun e w' => e = .returned (.int .u64 (Wal.lo l : Nat)) ∧ w = w' := by
  have hsz : (ByteArray.mk l.toArray).size = l.length := by simp [ByteArray.size]
  go_enter Try.func83, Try.ntmps83
  unfold txt
  go_wp2_with fail
  go_loopw [3, 4] (fun nv iv wr => ∃ k m : Nat, k ≤ l.length ∧ iv = .int .i64 k ∧ nv = .int .u64 (m : Int) ∧ Hid (m = Wal.lo (l.take k) ∧ wr = w)) (fun _ iv _ => l.length - (intOf iv).toNat)
  case atStart => exact ⟨0, 0, by omega, rfl, rfl, by simp [Wal.lo], rfl⟩
  case round =>
    obtain ⟨k, m, hk, rfl, rfl, HM⟩ := hrel
    obtain rfl : wr = w := HM.out.2
    by_cases hlt : k < l.length
    · have hii : (k : Int) < (l.length : Int) := by omega
      have HT := Lib.hid (lo_snoc8 l k hlt)
      have hm := lo_take_lt l k (by omega)
      rw [← HM.out.1] at hm
      have hget : (ByteArray.mk l.toArray).data[k]? = some l[k] := by simp [hlt]
      have hx := l[k].toNat_lt
      have hi2 : k < (ByteArray.mk l.toArray).size := by rw [hsz]; exact hlt
      have hb : (ByteArray.mk l.toArray)[k]'hi2 = l[k] := by rfl
      go_wp2_with fail
      go_roundw
      case rel =>
        refine ⟨k + 1, m * 256 + l[k].toNat, by omega, by go_num, ?_, ⟨by rw [HT.out, HM.out.1], trivial⟩⟩
        go_num
      case measure => simp [intOf]; omega
    · obtain rfl : k = l.length := by omega
      have hii : ¬ ((l.length : Nat) : Int) < ((l.length : Nat) : Int) := by omega
      have HX : Hid (m = Wal.lo l) := by
        have := HM.out.1
        rw [List.take_length] at this
        exact this
      go_wp2_with fail
      go_ret
      exact ⟨by rw [HX.out]; rfl, rfl⟩
end Go.Proofs.Ythbanhedjfpmaaa
end

section
/-
  Texts joined and cut in a region that draws its order.
-/
namespace Go.Proofs.Ythbanhedjfpmaaa
set_option linter.unusedSimpArgs false
set_option linter.unusedVariables false
open Go.RowKit

theorem run_cat (w : World) (l m : List UInt8) (hl : l.length + m.length ≤ 9223372036854775807) : (binOp .add 9 (txt l) (txt m)).run Try.prog w = .ok (txt (l ++ m)) w := by
  unfold txt
  have h1 : (ByteArray.mk l.toArray).size = l.length := by simp [ByteArray.size]
  have h2 : (ByteArray.mk m.toArray).size = m.length := by simp [ByteArray.size]
  have hj := cut_join l m
  go_simp
theorem exec_cat {o : Oper} {a : Act} {w : World} {x y : Operand} {l m : List UInt8} (hop : o.op = .binOp .add 9 x y 9) (hx : a.eval x = txt l) (hy : a.eval y = txt m) (hl : l.length + m.length ≤ 9223372036854775807) :
    (execOp a.eval o).run Try.prog w = .ok (.value (txt (l ++ m))) w := by
  obtain ⟨dst, op, type, pos, after, guard⟩ := o
  simp only at hop
  subst hop
  show ((binOp .add 9 (a.eval x) (a.eval y) >>= fun v => (pure (.value v) : Sem Next)).run Try.prog w) = _
  rw [hx, hy, Sem.run_bind, run_cat w l m hl]
  rfl
section
variable {l : List Oper} {o : Oper} {a : Act} {w : World} {T : Value → World → Prop} {Q : Exit → Act → World → Prop}
theorem opDoes_cat {x y : Operand} (s t : List UInt8) (hg : o.guard = none) (hop : o.op = .binOp .add 9 x y 9) (hx : a.eval x = txt s) (hy : a.eval y = txt t) (hl : s.length + t.length ≤ 9223372036854775807) (h : T (txt (s ++ t)) w) : opDoes Try.prog l o Q a w T :=
  opDoes_run hg (exec_cat hop hx hy hl) h
end
theorem exec_make {P : Program} {o : Oper} {a : Act} {w w' : World} {T : TypeId} {x y : Operand} {u v r : Value} (hop : o.op = .makeSlice T x y) (hx : a.eval x = u) (hy : a.eval y = v) (hrun : (Instr.makeSlice T u v).run P w = .ok r w') : (execOp a.eval o).run P w = .ok (.value r) w' := by
  simp [execOp, hop, hx, hy, hrun, Sem.run_bind]
theorem run_makez (w : World) (kl kc : IntKind) (n : Nat) (hb : n ≤ 281474976710656) :
    ∃ w1, (Instr.makeSlice 33 (.int kl (n : Int)) (.int kc (n : Int))).run Try.prog w = .ok (.slice (some ⟨w.heap.size, 0, none⟩) n n) w1 ∧ BOwn w1 w.heap.size (some ⟨w.heap.size, 0, none⟩) n (List.replicate n 0) ∧ Below w.heap.size w w1 := by
  obtain ⟨i, hi, hz, hs, hby⟩ := info_parts info8
  obtain ⟨w1, hr, h1, h2⟩ := run_make_full (P := Try.prog) w w.heap.size 33 5 i _ 1 Try.underlying33 hi hz hs kl kc n (by rw [hby]; omega) (by simp [maxLen]; omega) (Nat.le_refl _)
  refine ⟨w1, hr, ?_, (Below.refl _ w).grown h2 (Nat.le_refl _) (fun k hk => by cases hk)⟩
  have e : (madeCells (Value.int .u8 0).cells (n * 1)).toList = (List.replicate n (0 : UInt8)).map bv := by
    rw [Nat.mul_one]
    show (madeCells #[Value.int .u8 0] n).toList = _
    rw [toList_madeCells_one, List.map_replicate]
    rfl
  rw [e] at h1
  simpa [BOwn] using h1
end Go.Proofs.Ythbanhedjfpmaaa
end

section
/-
  The document's heads: how they are written and read.
-/
namespace Go.Proofs.Ythbanhedjfpmaaa
set_option linter.unusedSimpArgs false
set_option linter.unusedVariables false
open Go.RowKit

set_option maxRecDepth 20000 in
set_option maxHeartbeats 1000000 in
theorem refhead_any (w : World) (s n : Nat) (hs : s < two64) (hn : n < two64) : Calls Try.prog 34 #[.int .u64 (s : Int), .int .u64 (n : Int)] w fun e w' => e = .returned (txt (Wal.headL s n)) ∧ Below w.heap.size w w' := by
  have HS := Lib.hid hs
  have HN := Lib.hid hn
  have h8 : ∀ k, (Wal.hi8 k).length = 8 := Wal.hi8_length
  have hm : Wal.magic.length = 8 := rfl
  clear hs hn
  go_enter Try.func34, Try.ntmps34
  go_wp2_with fail
  apply wp_region_rel (fun w' => Below w.heap.size w w') (fun a b => Below a.heap.size a b) (fun j x w' => match j with
    | 0 => x = .int .u64 (s : Int)
    | 1 => x = txt (Wal.hi8 s)
    | 2 => x = txt (Wal.magic ++ Wal.hi8 s)
    | 3 => x = .int .u64 (n : Int)
    | 4 => x = txt (Wal.hi8 n)
    | 5 => x = txt (Wal.half s n)
    | 6 => x = txt (Wal.half s n ++ Wal.magic)
    | 7 => x = .int .u64 (n : Int)
    | 8 => x = txt (Wal.hi8 n)
    | 9 => x = txt (Wal.half s n ++ Wal.magic ++ Wal.hi8 n)
    | 10 => x = .int .u64 (s : Int)
    | 11 => x = txt (Wal.hi8 s)
    | 12 => x = txt (Wal.head48 s n)
    | 13 => ∃ A, x = .slice A 464 464 ∧ BRow w' A (List.replicate 464 0)
    | 14 => x = txt (List.replicate 464 0)
    | 15 => x = txt (Wal.headL s n)
    | 16 => x = txt (Wal.headL s n)
    | _ => True)
  case hG => (intro v; simp only [regFrame, List.zipIdx_cons, List.zipIdx_nil, List.foldl_cons, List.foldl_nil, Act.put, List.setIfInBounds_toArray, List.set_cons_zero, List.set_cons_succ, Nat.reduceAdd]; rfl)
  case hm => kernel_rfl
  case honce => rfl
  case hlow => kernel_rfl
  case hInv => exact fun _ _ h h' => h.trans (h'.mono h.size)
  case h0 => exact (Below.refl _ _).drew
  case hR =>
    intro i x w1 w2 _ hb h
    split at h <;> first | exact h | (obtain ⟨A, rfl, h⟩ := h; exact ⟨A, rfl, h.below hb⟩)
  case hstep =>
    refine ⟨?_, ?_, ?_, ?_, ?_, ?_, ?_, ?_, ?_, ?_, ?_, ?_, ?_, ?_, ?_, ?_, ?_, trivial⟩ <;> (intro v w1 hI hd _; simp only [Deps, Region.binds, ↓reduceIte, and_true] at hd) <;> (try (skip; first | exact opDoes_move _ rfl rfl ⟨Below.refl _ _, rfl⟩ | exact opDoes_assign _ rfl rfl ⟨Below.refl _ _, rfl⟩ | (refine opDoes_run rfl ?_ ⟨Below.refl _ _, rfl⟩; go_simp; done) | exact opDoes_gmove _ (wanted_guard rfl rfl rfl (by simp only [hd]; rfl)) rfl ⟨Below.refl _ _, rfl⟩ | (refine opDoes_grun (wanted_guard rfl rfl rfl (by simp only [hd]; rfl)) ?_ ⟨Below.refl _ _, rfl⟩; go_simp; done) | exact opDoes_skipped rfl rfl rfl (by simp only [hd]; rfl) ⟨Below.refl _ _, trivial⟩ | (refine opDoes_assign _ rfl rfl ⟨Below.refl _ _, ?_⟩; go_simp; done)))
    · exact opDoes_call _ _ _ #[.int .u64 (s : Int)] rfl rfl (by go_simp) (Try.call59 _ _) ((refhigh4 w1 s HS.out).mono fun e w2 ⟨he, hb⟩ => ⟨_, he, hb, rfl⟩)
    · exact opDoes_cat (Wal.magic) (Wal.hi8 s) rfl rfl (by rfl) (by exact hd) (by simp [h8, hm, Wal.half_length, Wal.head48_length]) ⟨Below.refl _ _, congrArg txt (by rfl)⟩
    · exact opDoes_call _ _ _ #[.int .u64 (n : Int)] rfl rfl (by go_simp) (Try.call59 _ _) ((refhigh4 w1 n HN.out).mono fun e w2 ⟨he, hb⟩ => ⟨_, he, hb, rfl⟩)
    · exact opDoes_cat (Wal.magic ++ Wal.hi8 s) (Wal.hi8 n) rfl rfl (by exact hd.1) (by exact hd.2) (by simp [h8, hm, Wal.half_length, Wal.head48_length]) ⟨Below.refl _ _, congrArg txt (by rfl)⟩
    · exact opDoes_cat (Wal.half s n) (Wal.magic) rfl rfl (by exact hd) (by rfl) (by simp [h8, hm, Wal.half_length, Wal.head48_length]) ⟨Below.refl _ _, congrArg txt (by rfl)⟩
    · exact opDoes_call _ _ _ #[.int .u64 (n : Int)] rfl rfl (by go_simp) (Try.call59 _ _) ((refhigh4 w1 n HN.out).mono fun e w2 ⟨he, hb⟩ => ⟨_, he, hb, rfl⟩)
    · exact opDoes_cat (Wal.half s n ++ Wal.magic) (Wal.hi8 n) rfl rfl (by exact hd.1) (by exact hd.2) (by simp [h8, hm, Wal.half_length, Wal.head48_length]) ⟨Below.refl _ _, congrArg txt (by rfl)⟩
    · exact opDoes_call _ _ _ #[.int .u64 (s : Int)] rfl rfl (by go_simp) (Try.call59 _ _) ((refhigh4 w1 s HS.out).mono fun e w2 ⟨he, hb⟩ => ⟨_, he, hb, rfl⟩)
    · exact opDoes_cat (Wal.half s n ++ Wal.magic ++ Wal.hi8 n) (Wal.hi8 s) rfl rfl (by exact hd.1) (by exact hd.2) (by simp [h8, hm, Wal.half_length, Wal.head48_length]) ⟨Below.refl _ _, congrArg txt (by unfold Wal.head48 Wal.half; simp only [List.append_assoc])⟩
    · obtain ⟨W1, hrun, ho1, hb1⟩ := run_makez w1 .i64 .i64 464 (by decide)
      exact opDoes_run rfl (exec_make rfl rfl rfl hrun) ⟨hb1, _, rfl, ho1.row⟩
    · obtain ⟨A, h0, hr⟩ := hd
      have hcv := run_string_bytes w1 464 hr
      rw [List.length_replicate] at hcv
      refine opDoes_run rfl (x := txt (List.replicate 464 0)) ?_ ⟨Below.refl _ _, rfl⟩
      go_simp
    · exact opDoes_cat (Wal.head48 s n) (List.replicate 464 0) rfl rfl (by exact hd.1) (by exact hd.2) (by simp [h8, hm, Wal.half_length, Wal.head48_length]) ⟨Below.refl _ _, congrArg txt (by rfl)⟩
  case hend =>
    intro v w4 hI h
    simp only [AllOps, Nat.zero_add, Nat.reduceAdd, and_true] at h
    rw [h.2.2.2.2.2.2.2.2.2.2.2.2.2.2.2.2]
    clear h
    go_wp2_with fail
    go_ret
    exact ⟨rfl, hI⟩
end Go.Proofs.Ythbanhedjfpmaaa
end

section
/-
  What the document says of a block as a head.
-/
namespace Go.Proofs.Ythbanhedjfpmaaa
set_option linter.unusedSimpArgs false
set_option linter.unusedVariables false
open Go.RowKit

theorem cut_str (l : List UInt8) (i n : Nat) : (ByteArray.mk l.toArray).extract i (i + n) = ⟨(Wal.cut l i n).toArray⟩ := by
  apply ByteArray.ext
  simp [Wal.cut]
def RetRight (w : World) (r : Nat × Nat) (e : Ending) (w' : World) : Prop := e = .returned (.tuple #[.int .u64 (r.1 : Nat), .int .i64 (r.2 : Nat)]) ∧ Below w.heap.size w w'
set_option maxRecDepth 20000 in
set_option maxHeartbeats 1000000 in
theorem refright_any (w : World) (b : List UInt8) (hb : b.length = 512) (room : Nat) (hr : room ≤ 1000000000) : Calls Try.prog 71 #[txt b, .int .i64 (room : Nat)] w (RetRight w (Wal.right b room)) := by
  have HD := Lib.hid (Wal.right_doc hb room)
  have hsz : (ByteArray.mk b.toArray).size = 512 := by simp [ByteArray.size, hb]
  have hc : ∀ i, i + 8 ≤ 512 → (Wal.cut b i 8).length ≤ 8 := fun i hi => Nat.le_of_eq (Wal.cut_length (by omega))
  have hlt : ∀ i, i + 8 ≤ 512 → Wal.lo (Wal.cut b i 8) < 18446744073709551616 := fun i hi => Wal.lo8_lt _ (Wal.cut_length (by omega))
  have h8 := Lib.hid (refnumber4 w.drew (Wal.cut b 8 8) (hc 8 (by decide)))
  have h16 := Lib.hid (refnumber4 w.drew (Wal.cut b 16 8) (hc 16 (by decide)))
  have h32 := Lib.hid (refnumber4 w.drew (Wal.cut b 32 8) (hc 32 (by decide)))
  have h40 := Lib.hid (refnumber4 w.drew (Wal.cut b 40 8) (hc 40 (by decide)))
  have l8 := hlt 8 (by decide)
  have l16 := hlt 16 (by decide)
  have l32 := hlt 32 (by decide)
  have l40 := hlt 40 (by decide)
  have x0 : (ByteArray.mk b.toArray).extract 0 8 = ⟨(Wal.cut b 0 8).toArray⟩ := cut_str b 0 8
  have x8 : (ByteArray.mk b.toArray).extract 8 16 = ⟨(Wal.cut b 8 8).toArray⟩ := cut_str b 8 8
  have x16 : (ByteArray.mk b.toArray).extract 16 24 = ⟨(Wal.cut b 16 8).toArray⟩ := cut_str b 16 8
  have x24 : (ByteArray.mk b.toArray).extract 24 32 = ⟨(Wal.cut b 24 8).toArray⟩ := cut_str b 24 8
  have x32 : (ByteArray.mk b.toArray).extract 32 40 = ⟨(Wal.cut b 32 8).toArray⟩ := cut_str b 32 8
  have x40 : (ByteArray.mk b.toArray).extract 40 48 = ⟨(Wal.cut b 40 8).toArray⟩ := cut_str b 40 8
  clear hc hlt
  generalize Wal.cut b 0 8 = c0 at *
  generalize Wal.cut b 24 8 = c24 at *
  generalize Wal.lo (Wal.cut b 8 8) = s at *
  generalize Wal.lo (Wal.cut b 16 8) = n at *
  generalize Wal.lo (Wal.cut b 32 8) = n2 at *
  generalize Wal.lo (Wal.cut b 40 8) = s2 at *
  generalize Wal.cut b 8 8 = c8 at *
  generalize Wal.cut b 16 8 = c16 at *
  generalize Wal.cut b 32 8 = c32 at *
  generalize Wal.cut b 40 8 = c40 at *
  unfold txt at h8 h16 h32 h40
  go_enter Try.func71, Try.ntmps71
  unfold txt
  go_wp2_with fail
  refine wp_region_plan (.take 0 (.take 1 (.take 3 (.take 4 (.run 2 [3, 4] (.run 5 [] (.take 6 (.take 7 .fin)))))))) (by kernel_rfl) (by kernel_rfl) (by kernel_rfl) (by kernel_rfl) ?_
  simp only [walk, again, sel, List.getElem?_toArray, List.getElem?_cons_zero, List.getElem?_cons_succ]
  repeat ((with_reducible intro Z hZ); go_wp2_with (fail))
  refine h8.out.mono ?_
  rintro e w1 ⟨rfl, rfl⟩
  go_wp2_with fail
  repeat ((with_reducible intro Z hZ); go_wp2_with (fail))
  refine h16.out.mono ?_
  rintro e w1 ⟨rfl, rfl⟩
  go_wp2_with fail
  repeat ((with_reducible intro Z hZ); go_wp2_with (fail))
  rotate_left
  all_goals try (
    go_ret2
    have hz : Wal.right b room = (0, 0) := by
      rw [HD.out]
      exact if_pos (by first | exact .inl (by assumption) | exact .inr (.inl (by assumption)))
    rw [hz]
    exact ⟨rfl, (Below.refl _ _).drewR⟩)
  refine h32.out.mono ?_
  rintro e w1 ⟨rfl, rfl⟩
  go_wp2_with fail
  rotate_left
  all_goals try (
    go_ret2
    have hz : Wal.right b room = (0, 0) := by
      rw [HD.out]
      exact if_pos (by right; right; unfold Wal.last62; omega)
    rw [hz]
    exact ⟨rfl, (Below.refl _ _).drewR⟩)
  refine h40.out.mono ?_
  rintro e w1 ⟨rfl, rfl⟩
  go_wp2_with fail
  all_goals
    go_ret2
    try simp only [beq_iff_eq, beq_eq_false_iff_ne] at *
    first
    | (have hz : Wal.right b room = (0, 0) := by
        rw [HD.out]
        exact if_pos (by right; right; unfold Wal.last62; omega)
       rw [hz]
       exact ⟨rfl, (Below.refl _ _).drewR⟩)
    | (have hz : Wal.right b room = (s, n) := by
        rw [HD.out]
        refine if_neg ?_
        rintro (h | h | h)
        · exact h (by assumption)
        · exact h (by assumption)
        · unfold Wal.last62 at h; omega
       rw [hz]
       exact ⟨rfl, (Below.refl _ _).drewR⟩)
end Go.Proofs.Ythbanhedjfpmaaa
end

