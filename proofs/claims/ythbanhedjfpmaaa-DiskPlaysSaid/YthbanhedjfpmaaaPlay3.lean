/-
  One thing that is done to a disk and to the document's: plan.
-/
import Derived.Test.YthbanhedjfpmaaaPlay2
namespace Go.Proofs.Ythbanhedjfpmaaa
set_option linter.unusedSimpArgs false
set_option linter.unusedVariables false
open Go.RowKit

set_option maxRecDepth 20000 in
set_option maxHeartbeats 2000000 in
theorem play5 (w0 w : World) (k : KB) (d : DS) (n : Nat) (q : OpD) (c : List Value) (hL : DL w0 w k d n) (hX : RefX k.own w c d.rx) (hN : NowOk d) (hq : q.Fine w0) (hfs : q.fs.length ≤ 1000) (ht : (IntKind.u64.wrap q.k).tmod 7 = 5) :
    Calls Try.prog 29 #[.pointer (some ⟨k.gd, 0, none⟩), .agg c.toArray, .agg (eOpD.code q).toArray] w (PlayOk w0 w k d n) := by
  have HFS := Lib.hid (hq.row.below hL.bel)
  have HFX : Hid (q.fs ≠ [] → ∀ a, q.A = some a → ¬ k.own a.block) := fun hne a ha ho => by
    obtain ⟨b, o, e, hb, _⟩ := hq.row.at_ (j := 0) (by cases h : q.fs with | nil => exact absurd h hne | cons x l => simp)
    rw [ha] at e
    obtain rfl := Option.some.inj e
    have := hL.own_lo _ ho
    simp only at this
    omega
  have HFK := Lib.hid hq.fs
  clear hq
  have HL := Lib.hid (And.intro hL (And.intro hX hN))
  have hown := Lib.hid hL.own_lt
  have h0w := hL.bel.size
  obtain ⟨As, cs, Ap, cp, Af, cf, rfl⟩ := hX.open_
  have HT := Lib.hid ht
  clear hL hX hN ht
  simp only [eOpD]
  go_enter Try.func29, Try.ntmps29
  go_upto_region 1 with (fail)
  generalize hW0 : (((World.alloc w (.cells _ _)).alloc (.cells _ _)).alloc (.cells _ _)) = W
  obtain ⟨ba0, bb0, bc0, hz0, hB0⟩ := fresh3 hW0
  clear hW0
  have HB := Lib.hid (And.intro ba0 (And.intro bb0 (And.intro bc0 hB0)))
  have HLW : Hid (DL w0 W k d n ∧ RefX k.own W [.slice As d.rx.sure.length cs, .slice Ap d.rx.pend.length cp, .slice Af d.rx.falls.length cf, .int .i64 (d.rx.ch : Nat), .bool d.rx.down] d.rx ∧ NowOk d) := ⟨HL.out.1.below hB0, HL.out.2.1.below hB0, HL.out.2.2⟩
  have HX5 := Lib.hid ba0.c5
  have HQ := Lib.hid bb0
  have hk0 := bb0.cell 0
  simp only [List.getElem?_cons_zero] at hk0
  clear ba0 bb0 bc0 hB0
  go_upto_region 2 with (fail)
  clear hk0
  rw [HT.out]
  have HXF : Hid (∀ w', RefX k.own w' [.slice As d.rx.sure.length cs, .slice Ap d.rx.pend.length cp, .slice Af d.rx.falls.length cf, .int .i64 (d.rx.ch : Nat), .bool d.rx.down] d.rx → ERow eDF w' q.A q.fs → RefX k.own w' [.slice As d.rx.sure.length cs, .slice Ap d.rx.pend.length cp, .slice q.A q.fs.length q.cap, .int .i64 (d.rx.ch : Nat), .bool d.rx.down] ({ d with falls := q.fs } : DS).rx) := fun w' h hr => by
    obtain ⟨r1, r2, r3, -, -, -⟩ := h.rows
    exact ⟨As, cs, Ap, cp, q.A, q.cap, rfl, r1, r2, hr, HFX.out⟩
  generalize hx : d.rx = x at HB HLW HL HX5 HXF ⊢
  clear hx
  have hq6 := HQ.out.cell 8
  simp only [List.getElem?_cons_zero, List.getElem?_cons_succ] at hq6
  have hzz := HB.out.2.1.lt
  go_upto_region 33 with (at_builtin; refine wpList_append_elems eDF rfl (.tmp 140) (.tmp 142) rfl 0 rfl ((fresh1 rfl).1.own eDF (B := W.heap.size) [] rfl (by simp) (Nat.le_refl _)) rfl _ rfl ((HFS.out.below HB.out.2.2.2).below (fresh1 rfl).2.2) rfl (by simp; omega) (by simp) ?_; intro A3 c3 w3 ho3 hb3 _ hor3)
  rw [List.nil_append] at ho3
  have H3 := Lib.hid (And.intro ho3 ((Below.alloc1 W _).trans hb3))
  clear ho3 hb3 hq6
  obtain ⟨g, rfl⟩ : ∃ g, A3 = some ⟨g, 0, none⟩ := by
    rcases H3.out.1.form with ⟨rfl, -⟩ | ⟨g, h, -⟩
    · simp at hor3
    · exact ⟨g, h⟩
  clear hor3
  have hlt3 : W.heap.size ≤ g ∧ g < w3.heap.size := H3.out.1.block _ rfl
  have HP := Lib.hid (plan_apart w3 _ k d (HLW.out.1.at_.below H3.out.2) (some ⟨g, 0, none⟩) c3 q.fs H3.out.1.row (by omega))
  have HKA := Lib.hid hlt3
  clear hlt3
  go_wp2_with fail
  refine HP.out.mono ?_
  rintro e w4 ⟨rfl, hg4, hD4, hap4⟩
  have hg1 := HKA.out.1
  have hg2 := HKA.out.2
  have hgd := hown.out _ (.inl rfl)
  have ho4 := H3.out.1.kept hg4 (.inr (by simp only [Option.map_some, ne_eq, Option.some.injEq]; omega))
  have H4 := Lib.hid (And.intro hg4 (And.intro hD4 (And.intro (fun W' hW' => hap4 g hg2 (ho4.kind _ rfl) W' hW') ho4)))
  clear hg4 hD4 hap4 ho4 HP HKA
  go_wp2_with fail
  go_loopw [149] (fun iv wr => ∃ i : Nat, i ≤ q.fs.length ∧ iv = .int .i64 i ∧ ∃ L' : List DF, Hid (L'.length = q.fs.length ∧ w4.grownBy wr (some g) ∧ EOwn eDF wr W.heap.size (some ⟨g, 0, none⟩) c3 L')) (fun iv _ => q.fs.length - (intOf iv).toNat)
  case atStart => exact ⟨0, by omega, rfl, q.fs, rfl, World.grownBy.refl _ _, H4.out.2.2.2⟩
  case round =>
    obtain ⟨i, hi, rfl, L', HJ⟩ := hrel
    have hD := H4.out.2.2.1 wr HJ.out.2.1
    by_cases hlt : i < q.fs.length
    · have hii : (i : Int) < (q.fs.length : Int) := by omega
      have hlL : i < L'.length := by rw [HJ.out.1]; exact hlt
      have HC := Lib.hid (changes_any wr _ k _ hD)
      have c0 := HJ.out.2.2.cell hlL (k := 0) (v := .int .i64 L'[i].at_) rfl
      have c1 := HJ.out.2.2.cell hlL (k := 1) (v := .int .u64 (L'[i].keep : Nat)) rfl
      have c2 := HJ.out.2.2.cell hlL (k := 2) (v := .int .i64 L'[i].torn) rfl
      have f0 := HJ.out.2.2.free (i * 3)
      have f1 := HJ.out.2.2.free (i * 3 + 1)
      have f2 := HJ.out.2.2.free (i * 3 + 2)
      have hlg := (HJ.out.2.2.block _ rfl).2
      simp only [eDF, Nat.add_zero] at c0 c1 c2
      simp only at hlg
      clear hD
      go_wp2_with fail
      refine HC.out.mono ?_
      rintro e w5 ⟨rfl, rfl⟩
      go_wp2_with fail
      go_roundw
      case rel =>
        refine ⟨i + 1, by omega, by go_num, L'.set i ⟨(d.changes : Nat), 0, 0⟩, by rw [List.length_set]; exact HJ.out.1, ?_, ?_⟩
        · exact ((HJ.out.2.1.set_ ⟨g, i * 3, none⟩ rfl _).set_ ⟨g, i * 3 + 1, none⟩ rfl _).set_ ⟨g, i * 3 + 2, none⟩ rfl _
        · exact HJ.out.2.2.storeAll hlL ⟨(d.changes : Nat), 0, 0⟩
      case measure => simp [intOf]; omega
    · have hii : ¬ (i : Int) < (q.fs.length : Int) := by omega
      have hK : Keeps W wr k.own := (((Keeps.of_below H3.out.2).trans ((Keeps.of_grown H4.out.1).mono (fun i hi => .inl hi))).grownNew HJ.out.2.1 hg1)
      have hbel : Below w0.heap.size w0 wr := hK.below HLW.out.1.bel HLW.out.1.bel.size HLW.out.1.own_lo
      have hDL : DL w0 wr k { d with falls := q.fs } (n + 1) := ⟨hD, HLW.out.1.good.plan q.fs (by omega) (fun f hf => HFK.out f hf), Nat.le_trans HLW.out.1.ch (Nat.le_succ _), Nat.le_trans HLW.out.1.pe (Nat.le_succ _), hbel⟩
      have hno : ∀ j, j < 3 → ¬ k.own (w.heap.size + j) := fun j _ ho => by have := hown.out _ ho; omega
      have h1 := HB.out.1.kept hK (hno 0 (by decide))
      have h2 := HB.out.2.1.kept hK (hno 1 (by decide))
      have h3 := HB.out.2.2.1.kept hK (hno 2 (by decide))
      have hrq : RowX k.own eDF wr q.A q.fs := RowX.kept ⟨HFS.out.below HB.out.2.2.2, HFX.out⟩ hK
      have hxr := HXF.out wr (HLW.out.2.1.kept hK) hrq.1
      have H6 : Hid (PState w0 w wr k d n { d with falls := q.fs } _ ∧ Blk wr w.heap.size 54 [.slice As x.sure.length cs, .slice Ap x.pend.length cp, .slice Af x.falls.length cf, .int .i64 (x.ch : Nat), .bool x.down] ∧ Blk wr (w.heap.size + 1 + 1) 54 [.slice none 0 0, .slice none 0 0, .slice none 0 0, .int .i64 0, .bool false]) :=
        ⟨⟨hDL, (Keeps.of_below HB.out.2.2.2).trans hK, hxr, HLW.out.2.2, rfl⟩, h1, h3⟩
      have hq8 := h2.cell 8
      simp only [List.getElem?_cons_zero, List.getElem?_cons_succ] at hq8
      have hcc := And.intro h1.c5 h3.c5
      clear hK hbel hDL hno h1 h2 h3 hrq hxr hD
      go_upto_region 40 with (fail)
      have H7 : Hid (PState w0 w (wr.setCell ⟨w.heap.size, 2, none⟩ (.slice q.A q.fs.length q.cap)) k d n { d with falls := q.fs } _ ∧ Blk (wr.setCell ⟨w.heap.size, 2, none⟩ (.slice q.A q.fs.length q.cap)) (w.heap.size + 1 + 1) 54 [.slice none 0 0, .slice none 0 0, .slice none 0 0, .int .i64 0, .bool false] ∧
          Blk (wr.setCell ⟨w.heap.size, 2, none⟩ (.slice q.A q.fs.length q.cap)) w.heap.size 54 [.slice As x.sure.length cs, .slice Ap x.pend.length cp, .slice q.A q.fs.length q.cap, .int .i64 (x.ch : Nat), .bool x.down]) :=
        ⟨⟨H6.out.1.dl.other H6.out.2.1 nd_rx (grown_store _ _ _ _) h0w, H6.out.1.kp.set ⟨w.heap.size, 2, none⟩ (.inr (Nat.le_refl _)) _, H6.out.1.rx.keptG H6.out.2.1 (grown_store _ _ _ _), H6.out.1.now, H6.out.1.len⟩, H6.out.2.2.other ⟨w.heap.size, 2, none⟩ (by simp; omega) _, H6.out.2.1.set 2 _⟩
      clear hcc hq8 H6
      generalize (World.setCell wr _ _) = W7 at H7 ⊢
      have hcc := And.intro H7.out.2.2.c5 H7.out.2.1.c5
      go_wp2_with fail
      refine ret_set5n H7.out.2.1 rfl rfl rfl rfl rfl (fun W hW => load_rx hW) fun W2 hW hg => ?_
      exact H7.out.1.fin H7.out.2.1 (by omega) h0w hg rfl
end Go.Proofs.Ythbanhedjfpmaaa
