/-
  Texts of a proof, one behind the other (each with its own head).
-/
import Derived.Test.YtknfnhmkiooifaaPartGgclmgepm
section
/-
  A query that comes in; the contracts of the laws' query and exact.
-/
namespace Go.Proofs.Ytknfnhmkiooifaa
set_option linter.unusedSimpArgs false
set_option linter.unusedVariables false
open Go.RowKit Go.Deep Go.WideShapes Go.ChangeShapes

/-- A query as it comes in: of any size. -/
structure QrRaw (w : World) (q : Qr) : Prop where
  wh : ERow eNd w q.wa q.where_
  whin : ∀ n ∈ q.where_, NodeIn w n
  whl : q.where_.length ≤ q.wc
  whm : q.wc ≤ maxLen
  g : ERow eInt w q.ga q.group
  gin : ∀ n ∈ q.group, Ev.inB n
  gl : q.group.length ≤ q.gc
  gm : q.gc ≤ maxLen
  i : ERow eNd w q.ia q.items
  iin : ∀ n ∈ q.items, NodeIn w n
  il : q.items.length ≤ q.ic
  im : q.ic ≤ maxLen
  o : ERow eSo w q.oa q.order
  oin : ∀ s ∈ q.order, Ev.inB s.at_
  ol : q.order.length ≤ q.oc
  om : q.oc ≤ maxLen
  lim : Ev.inB q.lim
theorem QrRaw.below {w W : World} {q : Qr} (h : QrRaw w q) (hB : Below w.heap.size w W) : QrRaw W q :=
  ⟨h.wh.below hB, fun n hn => node_below (h.whin n hn) hB, h.whl, h.whm, h.g.below hB, h.gin, h.gl, h.gm, h.i.below hB, fun n hn => node_below (h.iin n hn) hB, h.il, h.im, h.o.below hB, h.oin, h.ol, h.om, h.lim⟩
/-- A query small enough to be tried. -/
def SmallQ (q : Qr) : Prop := q.items.length ≤ 12 ∧ q.where_.length ≤ 12 ∧ q.group.length ≤ 12 ∧ q.order.length ≤ 12
theorem QrRaw.qrIn {w : World} {q : Qr} (h : QrRaw w q) (hs : SmallQ q) : QrIn w q :=
  ⟨h.g, h.gin, by have := hs.2.2.1; omega, h.i, h.iin, by have := hs.1; omega, h.o, h.oin, by have := hs.2.2.2; omega, h.lim⟩
def QueryW (w : World) (v : Value) : Prop := ∃ q : Qr, v = q.v ∧ QrRaw w q
section
variable {H : Type} {enc : TypeId × Value → H} {w : World} {base : Nat} {spare : Nat → Bool} {held : Bool} {fuel : Nat} {cs : List Value} {x : DataW H × List MemPlace}
set_option maxRecDepth 20000 in
theorem open_query (h : DataW.trod enc Try.prog w base spare held fuel 40 cs = some x) (hlen : cs.length = 9) : ∃ q : Qr, cs = q.cells ∧ QrRaw w q := by
  obtain ⟨xs, k, hk, rfl, _, hxl, hfs⟩ := DataW.trod_struct Try.underlying40 h
  match xs, hxl, cs, hlen with
  | [y0, y1, y2, y3, y4, y5, y6, y7, y8], _, [v0, v1, v2, v3, v4, v5, v6, v7, v8], _ =>
    have g0 := hfs 0 _ rfl
    have g1 := hfs 1 _ rfl
    have g2 := hfs 2 _ rfl
    have g3 := hfs 3 _ rfl
    have g4 := hfs 4 _ rfl
    have g5 := hfs 5 _ rfl
    have g6 := hfs 6 _ rfl
    have g7 := hfs 7 _ rfl
    have g8 := hfs 8 _ rfl
    have q0 : Try.prog.cellsOf 3 = 1 := by kernel_rfl
    have q1 : Try.prog.cellsOf 29 = 1 := by kernel_rfl
    have q2 : Try.prog.cellsOf 22 = 1 := by kernel_rfl
    have q3 : Try.prog.cellsOf 4 = 1 := by kernel_rfl
    have q4 : Try.prog.cellsOf 33 = 1 := by kernel_rfl
    simp [q0, q1, q2, q3, q4] at g0 g1 g2 g3 g4 g5 g6 g7 g8
    obtain ⟨n2, e2, b2⟩ := open_i64 Try.underlying3 g2
    obtain ⟨wa, wh, wc, e3, r3, i3, l3, m3⟩ := open_nodes g3
    obtain ⟨ga, gr, gc, e4, r4, i4, l4, m4⟩ := open_intlist g4
    obtain ⟨n5, e5, _⟩ := DataW.trod_bool Try.underlying4 g5
    obtain ⟨ia, it, ic, e6, r6, i6, l6, m6⟩ := open_nodes g6
    obtain ⟨oa, od, oc, e7, r7, i7, l7, m7⟩ := open_sorts g7
    obtain ⟨n8, e8, b8⟩ := open_i64 Try.underlying3 g8
    have e2' : v2 = .int .i64 n2 := by simpa using e2
    have e3' : v3 = .slice wa wh.length wc := by simpa using e3
    have e4' : v4 = .slice ga gr.length gc := by simpa using e4
    have e5' : v5 = .bool n5 := by simpa using e5
    have e6' : v6 = .slice ia it.length ic := by simpa using e6
    have e7' : v7 = .slice oa od.length oc := by simpa using e7
    have e8' : v8 = .int .i64 n8 := by simpa using e8
    subst e2' e3' e4' e5' e6' e7' e8'
    exact ⟨⟨v0, v1, n2, wa, wh, wc, ga, gr, gc, n5, ia, it, ic, oa, od, oc, n8⟩, rfl, r3, i3, l3, m3, r4, i4, l4, m4, r6, i6, l6, m6, r7, i7, l7, m7, b8⟩
end
set_option maxRecDepth 20000 in
theorem query_in {H : Type} {enc : TypeId × Value → H} {w : World} {base : Nat} {v : Value} {d : DataW H} {p : List MemPlace}
    (hv : Value.okWide Try.prog w .any base 40 v) (h : DataW.Trod enc Try.prog w 0 (fun _ => true) true 40 v d p) : QueryW w v := by
  have hag : ∃ cs : Array Value, v = .agg cs := by
    simp only [Value.okWide, Try.underlying40] at hv
    obtain ⟨cs, h1, _⟩ := hv
    exact ⟨cs, h1⟩
  obtain ⟨cs, rfl⟩ := hag
  obtain ⟨fuel, hf⟩ := h
  have h9 : Try.prog.cellsOf 40 = 9 := by kernel_rfl
  have hlen : cs.toList.length = 9 := by
    obtain ⟨xs, k, hk, -, hcl, hxl, hfs⟩ := DataW.trod_struct Try.underlying40 hf
    rw [h9] at hcl
    simpa [Value.cells] using hcl
  obtain ⟨q, e, hq⟩ := open_query hf hlen
  refine ⟨q, ?_, hq⟩
  show Value.agg cs = .agg q.cells.toArray
  rw [← e]
  rfl
set_option maxRecDepth 20000 in
set_option maxHeartbeats 4000000 in
theorem query_any (w : World) (q : Qr) (hq : QrRaw w q) : Calls Try.prog 16 #[q.v] w (RetIf w (SmallQ q)) := by
  have HQ := Lib.hid hq
  have hl1 : q.group.length ≤ 9223372036854775807 := by have := hq.gl; have := hq.gm; unfold maxLen at this; omega
  have hl2 : q.order.length ≤ 9223372036854775807 := by have := hq.ol; have := hq.om; unfold maxLen at this; omega
  clear hq
  go_enter Try.func16, Try.ntmps16
  go_upto_region 1 with (refine wpList_box_qr rfl (.tmp 0) rfl q rfl ?_; intro W1 hb1 hz1 hB1)
  have HB1 := Lib.hid hB1
  obtain ⟨c4, c5, c6, c7, c8⟩ := Blk.qr hb1
  have c3 := hb1.cell 3
  simp only [Qr.cells, List.getElem?_cons_zero, List.getElem?_cons_succ] at c3
  clear hB1 hz1
  generalize w.heap.size = g at hb1 c3 c4 c6 c7 ⊢
  go_wp2_with fail
  refine (few_any W1 _ _ _ (HQ.out.below HB1.out).i (HQ.out.below HB1.out).iin HQ.out.il HQ.out.im).mono ?_
  rintro e W2 ⟨b, rfl, hb, hB⟩
  have HB2 := Lib.hid (HB1.out.then hB)
  have hb2 := hb1.below hB
  have H1 := Lib.hid hb
  clear hB hb hb1 c3 c4 c6 c7
  obtain ⟨c4, c5, c6, c7, c8⟩ := Blk.qr hb2
  have c3 := hb2.cell 3
  simp only [Qr.cells, List.getElem?_cons_zero, List.getElem?_cons_succ] at c3
  cases b with
  | false =>
    go_wp2_with fail
    go_ret
    exact ⟨false, rfl, by simp, HB2.out⟩
  | true =>
    go_wp2_with fail
    refine (few_any W2 _ _ _ (HQ.out.below HB2.out).wh (HQ.out.below HB2.out).whin HQ.out.whl HQ.out.whm).mono ?_
    rintro e W3 ⟨b, rfl, hb, hB⟩
    have HB3 := Lib.hid (HB2.out.then hB)
    have hb3 := hb2.below hB
    have H2 := Lib.hid hb
    clear hB hb hb2 c3 c4 c5 c6 c7 c8
    obtain ⟨c4, -, -, c7, -⟩ := Blk.qr hb3
    cases b with
    | false =>
      go_wp2_with fail
      go_ret
      exact ⟨false, rfl, by simp, HB3.out⟩
    | true =>
      by_cases k1 : q.group.length ≤ 12
      · have i1 : (q.group.length : Int) ≤ 12 := by omega
        by_cases k2 : q.order.length ≤ 12
        · have i2 : (q.order.length : Int) ≤ 12 := by omega
          go_wp2_with fail
          go_ret
          exact ⟨true, rfl, fun _ => ⟨H1.out trivial, H2.out trivial, k1, k2⟩, HB3.out⟩
        · have i2 : ¬ (q.order.length : Int) ≤ 12 := by omega
          go_wp2_with fail
          go_ret
          exact ⟨false, by simp; omega, by simp, HB3.out⟩
      · have i1 : ¬ (q.group.length : Int) ≤ 12 := by omega
        go_wp2_with fail
        go_ret
        exact ⟨false, rfl, by simp, HB3.out⟩
/-- Rows that are one, field by field. -/
def EqRows (X Y : List Rw) : Prop := X.length = Y.length ∧ ∀ i (h : i < X.length) (h' : i < Y.length), X[i].l.length = Y[i].l.length ∧ ∀ k (h : k < X[i].l.length) (h' : k < Y[i].l.length), eqV X[i].l[k] Y[i].l[k]
/-- Rows of clean values that can be read. -/
structure RowsCl (w : World) (A : Option Addr) (L : List Rw) : Prop where
  r : ERow eRw w A L
  rr : ∀ x ∈ L, ERow eVa w x.a x.l
  ok : ∀ x ∈ L, ∀ v ∈ x.l, v.ok
  cl : ∀ x ∈ L, ∀ v ∈ x.l, Key.Clean v
  len : L.length ≤ 1000000
  lens : ∀ x ∈ L, x.l.length ≤ 1000000
theorem RowsCl.below {w W : World} {A : Option Addr} {L : List Rw} (h : RowsCl w A L) (hB : Below w.heap.size w W) : RowsCl W A L := ⟨h.r.below hB, fun x hx => (h.rr x hx).below hB, h.ok, h.cl, h.len, h.lens⟩
set_option maxRecDepth 20000 in
set_option maxHeartbeats 8000000 in
theorem exact14_any (w : World) (A B : Option Addr) (c d : Nat) (X Y : List Rw) (hx : RowsCl w A X) (hy : RowsCl w B Y) (h : EqRows X Y) :
    Calls Try.prog 17 #[.slice A X.length c, .slice B Y.length d] w fun e w' => e = .returned (.bool true) ∧ Below w.heap.size w w' := by
  have HX := Lib.hid hx
  have HY := Lib.hid hy
  have HE := Lib.hid h.2
  have HL := Lib.hid h.1
  have hyl := hy.len
  rw [h.1]
  clear hx hy h
  go_enter Try.func17, Try.ntmps17
  go_wp2_with fail
  go_loopw [14] (fun iv wr => ∃ i : Nat, i ≤ Y.length ∧ iv = .int .i64 (i : Int) ∧ Hid (Below w.heap.size w wr)) (fun iv _ => Y.length - (intOf iv).toNat)
  case atStart => exact ⟨0, Nat.zero_le _, by go_num, Below.refl _ _⟩
  case round =>
    obtain ⟨i, hi, rfl, HJ⟩ := hrel
    by_cases hlt : i < Y.length
    · have hii : (i : Int) < (Y.length : Int) := by omega
      have hltx : i < X.length := by rw [HL.out]; exact hlt
      obtain ⟨ba, oa, rfl, -, -⟩ := rw_at (HX.out.below HJ.out).r hltx
      obtain ⟨bb, ob, rfl, -, -⟩ := rw_at (HY.out.below HJ.out).r hlt
      obtain ⟨x, hx⟩ : ∃ x, X[i] = x := ⟨_, rfl⟩
      obtain ⟨y, hy⟩ : ∃ y, Y[i] = y := ⟨_, rfl⟩
      have HXM : Hid (x ∈ X) := by show x ∈ X; rw [← hx]; exact List.getElem_mem hltx
      have HYM : Hid (y ∈ Y) := by show y ∈ Y; rw [← hy]; exact List.getElem_mem hlt
      have HXY : Hid (x.l.length = y.l.length ∧ ∀ k (h : k < x.l.length) (h' : k < y.l.length), eqV x.l[k] y.l[k]) := by subst hx hy; exact HE.out i hltx hlt
      have HCX : Hid (∀ W, Below w.heap.size w W → W.cell? ⟨ba, oa + i, none⟩ = some (.slice x.a y.l.length x.c)) := fun W hW => by
        obtain ⟨b', o', e', -, h1⟩ := rw_at (HX.out.below hW).r hltx
        cases e'
        rw [h1, hx, ← HXY.out.1]
        rfl
      have HCY : Hid (∀ W, Below w.heap.size w W → W.cell? ⟨bb, ob + i, none⟩ = some (.slice y.a y.l.length y.c)) := fun W hW => by
        obtain ⟨b', o', e', -, h1⟩ := rw_at (HY.out.below hW).r hlt
        cases e'
        rw [h1, hy]
        rfl
      have hyll := HY.out.lens y HYM.out
      clear hx hy
      have q0 := HCX.out _ HJ.out.drewR
      have q1 := HCY.out _ HJ.out.drewR
      go_upto_region 6 with fail
      refine wp_region_plan (.take 0 (.take 1 (.take 2 (.take 3 (.take 4 (.take 5 (.take 6 (.take 7 (.take 8 (.take 9 (.take 10 .fin))))))))))) (by kernel_rfl) (by kernel_rfl) (by kernel_rfl) (by kernel_rfl) ?_
      repeat' (first | (refine hZ _ _ ?_; clear hZ) | (refine hZ _ ?_; clear hZ) | (refine hZ ?_; clear hZ) | rw [again_nil] | rw [walk_fin] | ((first | rw [walk_take] | rw [walk_run] | rw [again_cons]); intro Z hZ; simp only [sel, List.getElem?_toArray, List.getElem?_cons_zero, List.getElem?_cons_succ]; go_wp2_with (fail)))
      have p0 := HCX.out _ HJ.out
      clear q1
      go_wp2_with fail
      clear p0 q0
      go_loopw [33] (fun kv wq => ∃ k : Nat, k ≤ y.l.length ∧ kv = .int .i64 (k : Int) ∧ Hid (Below w.heap.size w wq)) (fun kv _ => y.l.length - (intOf kv).toNat)
      case atStart => exact ⟨0, Nat.zero_le _, by go_num, HJ.out.drewR⟩
      case round =>
        obtain ⟨k, hk, rfl, HK⟩ := hrel
        by_cases hkl : k < y.l.length
        · have hki : (k : Int) < (y.l.length : Int) := by omega
          have hkx : k < x.l.length := by rw [HXY.out.1]; exact hkl
          have HXR : Hid (ERow eVa wr.drew x.a x.l) := (HX.out.rr x HXM.out).below HK.out.drewR
          have HYR : Hid (ERow eVa wr.drew y.a y.l) := (HY.out.rr y HYM.out).below HK.out.drewR
          obtain ⟨xb, xo, hxa, -, -⟩ := HXR.out.at_ hkx
          obtain ⟨yb, yo, hya, -, -⟩ := HYR.out.at_ hkl
          have q0 := HCX.out _ HK.out.drewR
          have q1 := HCY.out _ HK.out.drewR
          rw [hxa] at q0 HXR
          rw [hya] at q1 HYR
          have HV : Hid (eqV x.l[k] y.l[k]) := HXY.out.2 k hkx hkl
          have HO : Hid (x.l[k].ok ∧ y.l[k].ok ∧ Key.Clean x.l[k] ∧ Key.Clean y.l[k]) := ⟨HX.out.ok x HXM.out _ (List.getElem_mem hkx), HY.out.ok y HYM.out _ (List.getElem_mem hkl), HX.out.cl x HXM.out _ (List.getElem_mem hkx), HY.out.cl y HYM.out _ (List.getElem_mem hkl)⟩
          clear hxa hya
          go_upto_region 11 with fail
          refine wp_region_plan (.take 0 (.take 1 (.take 2 (.take 3 (.take 4 (.take 5 (.take 6 (.take 7 (.take 8 (.take 9 (.take 10 (.take 11 (.take 12 (.take 13 (.run 14 [] (.take 15 .fin)))))))))))))))) (by kernel_rfl) (by kernel_rfl) (by kernel_rfl) (by kernel_rfl) ?_
          repeat' (first | (refine hZ _ _ ?_; clear hZ) | (refine hZ _ ?_; clear hZ) | (refine hZ ?_; clear hZ) | rw [again_nil] | rw [walk_fin] | ((first | rw [walk_take] | rw [walk_run] | rw [again_cons]); intro Z hZ; simp only [sel, List.getElem?_toArray, List.getElem?_cons_zero, List.getElem?_cons_succ]; go_wp2_with (first | (refine wpList_load_va_at rfl (.tmp 41) rfl HXR.out hkx rfl ?_) | (refine wpList_load_va_at rfl (.tmp 48) rfl HYR.out hkl rfl ?_))))
          refine (vexact_any _ x.l[k] y.l[k] HO.out.1 HO.out.2.1 HO.out.2.2.1 HO.out.2.2.2).mono ?_
          rintro e W4 ⟨rfl, hb4⟩
          rw [decide_eq_true HV.out]
          have HB4 := Lib.hid (HK.out.drewR.trans (hb4.mono HK.out.size))
          clear hb4 q0 q1
          go_wp2_with fail
          repeat' (first | (refine hZ _ _ ?_; clear hZ) | (refine hZ _ ?_; clear hZ) | (refine hZ ?_; clear hZ) | rw [again_nil] | rw [walk_fin] | ((first | rw [walk_take] | rw [walk_run] | rw [again_cons]); intro Z hZ; simp only [sel, List.getElem?_toArray, List.getElem?_cons_zero, List.getElem?_cons_succ]; go_wp2_with (fail)))
          go_wp2_with fail
          go_roundw
          case rel => exact ⟨k + 1, by omega, by go_num, HB4.out⟩
          case measure => simp [intOf]; omega
        · have hki : ¬ (k : Int) < (y.l.length : Int) := by omega
          go_wp2_with fail
          go_roundw
          case rel => exact ⟨i + 1, by omega, by go_num, HK.out⟩
          case measure => simp [intOf]; omega
    · have hii : ¬ (i : Int) < (Y.length : Int) := by omega
      go_wp2_with fail
      go_ret
      exact ⟨rfl, HJ.out⟩
end Go.Proofs.Ytknfnhmkiooifaa
end

section
/-
  The walk of EvalLimits: with a limit the first rows of the answer without one are answered.
-/
namespace Go.Proofs.Ytknfnhmkiooifaa
set_option linter.unusedSimpArgs false
set_option linter.unusedVariables false
open Go.RowKit

namespace Ev
theorem clean_sum (vs : List Va) : Key.clean (sumV vs) = sumV vs := by
  unfold sumV
  split
  · rfl
  · exact clean_intV _
theorem clean_fold (n : Nd) (L : List Rw) : Key.clean (foldV n L) = foldV n L := by
  unfold foldV
  split
  · rfl
  · split
    · exact clean_sum _
    · refine bestV_clean _ _ fun v hv => ?_
      obtain ⟨y, -, rfl⟩ := List.mem_map.1 hv
      exact clean_argV _ _
theorem clean_item (n : Nd) (g : List Rw) : Key.clean (itemV n g) = itemV n g := by
  unfold itemV
  split
  · exact clean_fold _ _
  · exact clean_eval _ _
theorem limit_take {α : Type} (m : Nat) (l : List α) : limit (m : Int) l = l.take m := by
  unfold limit
  by_cases h : m < l.length
  · rw [if_pos ⟨by omega, by omega⟩]; simp
  · rw [if_neg (by omega), List.take_of_length_le (by omega)]
theorem limit_none {α : Type} (l : List α) : limit (-1) l = l := by unfold limit; rw [if_neg (by omega)]
end Ev
/-- What is answered are clean values. -/
theorem RLoop.cl {B : Nat} {W : World} {A : Option Addr} {c : Nat} {R : List Rw} (h : RLoop B W A c R) {items : List Nd} {G : List (List Rw)} (hR : R.map Rw.l = G.map (Ev.rowV items)) (hi : items.length ≤ 1000000) (hG : G.length ≤ 1000000) : RowsCl W A R := by
  have hm : ∀ x ∈ R, ∃ g, x.l = Ev.rowV items g := fun x hx => by
    have : x.l ∈ G.map (Ev.rowV items) := by rw [← hR]; exact List.mem_map.2 ⟨x, hx, rfl⟩
    obtain ⟨g, -, e⟩ := List.mem_map.1 this
    exact ⟨g, e.symm⟩
  refine ⟨h.own.row, h.rows, h.ok, fun x hx v hv => ?_, ?_, fun x hx => ?_⟩
  · obtain ⟨g, e⟩ := hm x hx
    rw [e] at hv
    obtain ⟨n, -, rfl⟩ := List.mem_map.1 hv
    rw [← Ev.clean_item]
    exact Ev.clean_is _
  · have := congrArg List.length hR
    rw [List.length_map, List.length_map] at this
    omega
  · obtain ⟨g, e⟩ := hm x hx
    rw [e]
    unfold Ev.rowV
    rw [List.length_map]
    exact hi
theorem RowsCl.take {w : World} {A : Option Addr} {L : List Rw} (h : RowsCl w A L) (k : Nat) : RowsCl w A (L.take k) :=
  ⟨h.r.take k, fun x hx => h.rr x (List.mem_of_mem_take hx), fun x hx => h.ok x (List.mem_of_mem_take hx), fun x hx => h.cl x (List.mem_of_mem_take hx), by rw [List.length_take]; have := h.len; omega, fun x hx => h.lens x (List.mem_of_mem_take hx)⟩
theorem eqV_refl (x : Va) : eqV x x := ⟨rfl, rfl, rfl, Iff.rfl, .inr rfl⟩
theorem eqRows_of {X Y : List Rw} (h : X.map Rw.l = Y.map Rw.l) : EqRows X Y := by
  have hl : X.length = Y.length := by simpa using congrArg List.length h
  refine ⟨hl, fun i h1 h2 => ?_⟩
  have e : X[i].l = Y[i].l := by
    have e1 : (X.map Rw.l)[i]? = (Y.map Rw.l)[i]? := by rw [h]
    simpa [h1, h2] using e1
  exact ⟨by rw [e], fun k h3 h4 => by simp only [e]; exact eqV_refl _⟩
theorem Blk.c9 {w : World} {g : Nat} {t : TypeId} {a b c d e f i j k : Value} (h : Blk w g t [a, b, c, d, e, f, i, j, k]) :
    w.cell? ⟨g, 0, none⟩ = some a ∧ w.cell? ⟨g, 1, none⟩ = some b ∧ w.cell? ⟨g, 2, none⟩ = some c ∧ w.cell? ⟨g, 3, none⟩ = some d ∧ w.cell? ⟨g, 4, none⟩ = some e ∧ w.cell? ⟨g, 5, none⟩ = some f ∧ w.cell? ⟨g, 6, none⟩ = some i ∧ w.cell? ⟨g, 7, none⟩ = some j ∧ w.cell? ⟨g, 8, none⟩ = some k :=
  ⟨h.cell 0, h.cell 1, h.cell 2, h.cell 3, h.cell 4, h.cell 5, h.cell 6, h.cell 7, h.cell 8⟩
/-- Values do not lie where a query does. -/
theorem va_row_ne {W : World} {R : Option Addr} {l : List Va} {g : Nat} {T : TypeId} {q : Qr} (h : ERow eVa W R l) (hl : l ≠ []) (hb : Blk W g T q.cells) : ∀ a, R = some a → a.block ≠ g := by
  intro a ha e
  obtain ⟨b, o, e1, -, hc⟩ := h.at_ (List.length_pos_iff.2 hl)
  rw [ha] at e1
  cases e1
  have e : b = g := e
  subst e
  have h1 := hc 2 _ rfl
  rw [hb.cell] at h1
  have h2 : o + (0 * eVa.sz + 2) = o + 2 := rfl
  rw [h2] at h1
  match o, h1 with
  | 0, h1 => cases h1
  | 1, h1 => cases h1
  | 2, h1 => cases h1
  | 3, h1 => cases h1
  | 4, h1 => cases h1
  | 5, h1 => cases h1
  | 6, h1 => cases h1
  | o + 7, h1 => simp [Qr.cells] at h1
theorem QrIn.limit {w : World} {q : Qr} (h : QrIn w q) {m : Int} (hm : Ev.inB m) : QrIn w { q with lim := m } := ⟨h.g, h.gin, h.gl, h.i, h.iin, h.il, h.o, h.oin, h.ol, hm⟩
set_option maxRecDepth 20000 in
set_option maxHeartbeats 8000000 in
theorem evalLimits_walk (w : World) (v0 : Value) (h0 : QueryW w v0) (v1 : Value) (h1 : RowsW w v1) (n : Int) (wf : (Lit.int .i64 n).wf = true) :
    Calls Try.prog 7 #[v0, v1, .int .i64 n] w fun e w' => e = .returned (.bool true) ∧ Below w.heap.size w w' := by
  obtain ⟨q, rfl, hq⟩ := h0
  obtain ⟨A, c, L, rfl, hl, hin, hlc, hcm⟩ := h1
  have HQ := Lib.hid hq
  have HL := Lib.hid hl
  have HIN := Lib.hid hin
  clear hq hl hin wf
  go_enter Try.func7, Try.ntmps7
  go_upto_region 1 with (refine wpList_box_qr rfl (.tmp 0) rfl q rfl ?_; intro W1 hb1 hz1 hB1)
  have HB1 := Lib.hid hB1
  clear hB1 hz1
  generalize hg : w.heap.size = g at hb1 ⊢
  have HG := Lib.hid hg
  clear hg
  go_wp2_with fail
  refine (elives_any W1).mono ?_
  rintro e W2 ⟨rfl, hB⟩
  have HB2 := Lib.hid (HB1.out.then hB)
  have hb2 := hb1.below hB
  obtain ⟨c0, c1, c2, c3, c4, c5, c6, c7, c8⟩ := Blk.c9 (show Blk _ _ _ [_, _, _, _, _, _, _, _, _] from hb2)
  clear hB hb1
  go_wp2_with fail
  clear c0 c1 c2 c3 c4 c5 c6 c7 c8
  refine (show Calls _ _ #[q.v] _ _ from query_any W2 q (HQ.out.below HB2.out)).mono ?_
  rintro e W3 ⟨b, rfl, hsq, hB⟩
  have HB3 := Lib.hid (HB2.out.then hB)
  have hb3 := hb2.below hB
  have HSQ := Lib.hid hsq
  clear hB hb2 hsq
  cases b with
  | false =>
    go_wp2_with fail
    refine (elives_any W3).mono ?_
    rintro e W4 ⟨rfl, hB⟩
    have HB4 := Lib.hid (HB3.out.then hB)
    clear hB
    go_wp2_with fail
    go_ret
    exact ⟨rfl, HB4.out⟩
  | true =>
    go_wp2_with fail
    refine (small_any W3 A c L (HL.out.below HB3.out) (fun r hr => (HIN.out r hr).below HB3.out) hlc hcm).mono ?_
    rintro e W4 ⟨b, rfl, hsm, hB⟩
    have HB4 := Lib.hid (HB3.out.then hB)
    have hb4 := hb3.below hB
    have HSM := Lib.hid hsm
    clear hB hb3 hsm
    cases b with
    | false =>
      go_wp2_with fail
      refine (elives_any W4).mono ?_
      rintro e W5 ⟨rfl, hB⟩
      have HB5 := Lib.hid (HB4.out.then hB)
      clear hB
      go_wp2_with fail
      go_ret
      exact ⟨rfl, HB5.out⟩
    | true =>
      have HSQ2 : Hid (SmallQ q) := HSQ.out trivial
      have HSM2 : Hid (SmallR L) := HSM.out rfl
      have HRW : Hid (RowsOk w A L) := ⟨HL.out, fun x hx => (HIN.out x hx).rok, by have := HSM2.out.1; omega⟩
      have HNIL : Hid (A = none → L = []) := fun h => by
        cases L with
        | nil => rfl
        | cons x L => obtain ⟨b, o, e, _⟩ := HL.out (by simp); rw [h] at e; cases e
      obtain ⟨-, -, -, -, c8⟩ := Blk.qr hb4
      have f8 := hb4.free 8
      go_upto_region 4 with fail
      have hb5 : Blk (W4.setCell ⟨g, 8, none⟩ (.int .i64 (-1))) g 40 (Qr.cells { q with lim := -1 }) := hb4.set 8 _
      have HB5 : Hid (Below w.heap.size w (W4.setCell ⟨g, 8, none⟩ (.int .i64 (-1)))) := below_of_grown HB4.out (grown_store W4 g 8 _) (by have := HG.out; omega) HB4.out.size
      have HGL : Hid (g < (W4.setCell ⟨g, 8, none⟩ (.int .i64 (-1))).heap.size) := hb5.lt
      clear hb4 c8 f8
      generalize W4.setCell ⟨g, 8, none⟩ (.int .i64 (-1)) = W5 at hb5 HB5 HGL ⊢
      have HQI : Hid (QrIn w q) := HQ.out.qrIn HSQ2.out
      have HA := Lib.hid (answer_any W5 { q with lim := -1 } A c L ((HQI.out.limit (by unfold Ev.inB; omega)).below HB5.out) (HRW.out.below HB5.out) hlc hcm HNIL.out)
      go_wp2_with (refine wpList_load_qr (b := { q with lim := -1 }) rfl (.tmp 3) rfl g rfl hb5 ?_)
      refine (show Calls _ _ _ _ _ from HA.out).mono ?_
      rintro e W6 ⟨A6, c6, R6, rfl, hR6, hv6, hB⟩
      have HB6 := Lib.hid (HB5.out.then hB)
      have hb6 := hb5.below hB
      have HR6 := Lib.hid hR6
      have HV6 : Hid (R6.map Rw.l = (Ev.groupsV q.grouped q.group q.order L).map (Ev.rowV q.items)) := by
        show _ = _
        rw [hv6]
        unfold Ev.answerV
        rw [Ev.limit_none]
      clear hB hb5 hR6 hv6 HA
      obtain ⟨-, -, -, -, c8⟩ := Blk.qr hb6
      have f8 := hb6.free 8
      go_upto_region 6 with fail
      obtain ⟨m, hm, hm70⟩ : ∃ m : Nat, wrap64 ((IntKind.u64.wrap n).tmod 70) = (m : Int) ∧ m < 70 := by
        have e1 : IntKind.u64.wrap n = n % 18446744073709551616 := rfl
        obtain ⟨u, hu⟩ : ∃ u : Nat, n % 18446744073709551616 = (u : Int) := ⟨(n % 18446744073709551616).toNat, by omega⟩
        refine ⟨u % 70, ?_, Nat.mod_lt _ (by decide)⟩
        rw [e1, hu, Int.tmod_eq_emod_of_nonneg (by omega)]
        unfold wrap64
        omega
      have HRT := Lib.hid (show wrap64 ((IntKind.u64.wrap n).tmod 70) = (m : Int) from hm)
      rw [hm]
      clear hm
      have hb7 : Blk (W6.setCell ⟨g, 8, none⟩ (.int .i64 (m : Int))) g 40 (Qr.cells { q with lim := (m : Int) }) := hb6.set 8 _
      have hg7 := grown_store W6 g 8 (.int .i64 (m : Int))
      have HB7 : Hid (Below w.heap.size w (W6.setCell ⟨g, 8, none⟩ (.int .i64 (m : Int)))) := below_of_grown HB6.out hg7 (by have := HG.out; omega) HB6.out.size
      have HR7 : Hid (RowsCl (W6.setCell ⟨g, 8, none⟩ (.int .i64 (m : Int))) A6 R6) := by
        have hgl : (Ev.groupsV q.grouped q.group q.order L).length ≤ 1000000 := by
          unfold Ev.groupsV
          rw [Srt.ssort_length]
          have := Ev.baseG_len q.grouped q.group L
          have := HRW.out.len
          omega
        have h := HR6.out.cl HV6.out HQI.out.il hgl
        have hg5 := HGL.out
        refine ⟨fun hl => h.r.keep hg7.size (fun a ha hlt => hg7.block _ hlt ?_) hl, fun x hx hl => (h.rr x hx).keep hg7.size (fun a ha hlt => hg7.block _ hlt ?_) hl, h.ok, h.cl, h.len, h.lens⟩
        · have := (HR6.out.own.block a ha).1
          simp
          omega
        · have := va_row_ne (h.rr x hx) (List.length_pos_iff.1 hl) hb6 a ha
          simpa using this
      clear hb6 c8 f8 hg7
      generalize W6.setCell ⟨g, 8, none⟩ (.int .i64 (m : Int)) = W7 at hb7 HB7 HR7 ⊢
      have HA := Lib.hid (answer_any W7 { q with lim := (m : Int) } A c L ((HQI.out.limit (by unfold Ev.inB; omega)).below HB7.out) (HRW.out.below HB7.out) hlc hcm HNIL.out)
      go_wp2_with (refine wpList_load_qr (b := { q with lim := (m : Int) }) rfl (.tmp 3) rfl g rfl hb7 ?_)
      refine (show Calls _ _ _ _ _ from HA.out).mono ?_
      rintro e W8 ⟨A8, c8, R8, rfl, hR8, hv8, hB⟩
      have HB8 := Lib.hid (HB7.out.then hB)
      have hb8 := hb7.below hB
      have HR78 := Lib.hid (HR7.out.below hB)
      have hv8' : R8.map Rw.l = ((Ev.groupsV q.grouped q.group q.order L).take m).map (Ev.rowV q.items) := by
        rw [hv8]
        unfold Ev.answerV
        rw [Ev.limit_take]
      have HR8 : Hid (RowsCl W8 A8 R8) := hR8.cl hv8' HQI.out.il (by
        rw [List.length_take]
        omega)
      have HEQ : Hid (EqRows R8 (R6.take m)) := eqRows_of (by rw [hv8', List.map_take, List.map_take, HV6.out])
      have HC6 : Hid (R6.length ≤ c6) := HR6.out.own.cap
      clear hB hb7 hR8 hv8 hv8' HA
      obtain ⟨-, -, -, -, c8'⟩ := Blk.qr hb8
      have hl8 : R8.length = (R6.take m).length := HEQ.out.1
      rw [List.length_take] at hl8
      obtain ⟨k, hk⟩ : ∃ k, R8.length = k := ⟨_, rfl⟩
      have hlt : (R6.take m).length = k := by rw [List.length_take]; omega
      have HX := Lib.hid (exact14_any W8 A8 A6 c8 c6 R8 (R6.take m) HR8.out (HR78.out.take m) HEQ.out)
      rw [hk, hlt] at HX
      rw [hk]
      have hl6 := HR7.out.len
      have hkc : (k : Int) ≤ (c6 : Int) := by have := HC6.out; omega
      have HLT := Lib.hid hlt
      by_cases hmr : m < R6.length
      · obtain rfl : k = m := by omega
        have hmi : (k : Int) < (R6.length : Int) := by omega
        clear hlt hk hl8
        go_wp2_with fail
        all_goals
          refine (show Calls _ _ _ _ _ from HX.out).mono ?_
          rintro e W9 ⟨rfl, hB⟩
          have HB9 := Lib.hid (HB8.out.then hB)
          clear hB c8'
          go_wp2_with fail
          go_ret
          exact ⟨rfl, HB9.out⟩
      · have hkr : k = R6.length := by omega
        have HKR := Lib.hid hkr
        have hmi : (R6.length : Int) ≤ (m : Int) := by omega
        rw [← hkr] at hmi ⊢
        clear hlt hk hl8 hkr
        go_wp2_with fail
        all_goals
          refine (show Calls _ _ _ _ _ from HX.out).mono ?_
          rintro e W9 ⟨rfl, hB⟩
          have HB9 := Lib.hid (HB8.out.then hB)
          clear hB c8'
          go_wp2_with fail
          go_ret
          exact ⟨rfl, HB9.out⟩
end Go.Proofs.Ytknfnhmkiooifaa
end

section
/-
  Counts and sums of groups, plain.
-/
namespace Go.Proofs.Ytknfnhmkiooifaa
set_option linter.unusedSimpArgs false
set_option linter.unusedVariables false

namespace Ev
theorem sum_perm {l m : List Int} (h : l.Perm m) : l.sum = m.sum := by
  induction h with
  | nil => rfl
  | cons x _ ih => simp [ih]
  | swap x y l => simp only [List.sum_cons]; omega
  | trans _ _ h1 h2 => rw [h1, h2]
/-- The sum of a column over rows. -/
def colS (c : Int) (g : List Rw) : Int := (intsOf (g.map fun r => atV r.l c)).sum
theorem intsOf_append (a b : List Va) : intsOf (a ++ b) = intsOf a ++ intsOf b := by unfold intsOf; rw [List.filter_append, List.map_append]
theorem colS_append (c : Int) (g h : List Rw) : colS c (g ++ h) = colS c g + colS c h := by unfold colS; rw [List.map_append, intsOf_append, List.sum_append]
theorem colS_perm (c : Int) {g h : List Rw} (p : g.Perm h) : colS c g = colS c h := by
  unfold colS intsOf
  exact sum_perm (((p.map _).filter _).map _)
theorem colS_flatten (c : Int) (G : List (List Rw)) : (G.map (colS c)).sum = colS c G.flatten := by
  induction G with
  | nil => rfl
  | cons g G ih => rw [List.map_cons, List.sum_cons, ih, List.flatten_cons, colS_append]
theorem argsV_fold (a : Option Addr) (c : Int) (g : List Rw) : argsV (foldN 11 a c) g = g.map fun r => atV r.l c := rfl
/-- Numbers that are small enough to be added. -/
def FitsC (c : Int) (L : List Rw) : Prop := ∀ r ∈ L, (atV r.l c).k = 1 → (atV r.l c).n ≤ 1125899906842624 ∧ -1125899906842624 ≤ (atV r.l c).n
theorem colS_bound {c : Int} : ∀ {g : List Rw}, FitsC c g → colS c g ≤ g.length * 1125899906842624 ∧ -(g.length * 1125899906842624 : Int) ≤ colS c g
  | [], _ => ⟨by show (0 : Int) ≤ 0 * 1125899906842624; decide, by show -(0 * 1125899906842624 : Int) ≤ 0; decide⟩
  | r :: g, h => by
    have ih := colS_bound (g := g) fun x hx => h x (by simp [hx])
    have e : colS c (r :: g) = colS c [r] + colS c g := colS_append c [r] g
    have e2 : colS c [r] ≤ 1125899906842624 ∧ -1125899906842624 ≤ colS c [r] := by
      unfold colS intsOf
      by_cases hk : (atV r.l c).k = 1
      · have := h r (by simp) hk
        simp [hk]
        omega
      · simp [hk]
    have e3 : (((r :: g).length : Nat) : Int) = (g.length : Int) + 1 := by simp
    rw [e, e3]
    omega
theorem sumV_n {vs : List Va} (h : -9223372036854775808 ≤ (intsOf vs).sum ∧ (intsOf vs).sum ≤ 9223372036854775807) : (sumV vs).n = (intsOf vs).sum := by
  unfold sumV
  split
  · next e => rw [e]; rfl
  · rw [fit_in h]; rfl
theorem groups_perm (group : List Int) (order : List So) (L : List Rw) : (groupsV true group order L).flatten.Perm L := by
  unfold groupsV
  refine ((Srt.ssort_perm _ _).flatten).trans ?_
  unfold baseG
  rw [if_pos rfl]
  split
  · simp
  · rw [runs_flatten]; exact Srt.ssort_perm _ _
theorem len_flatten (G : List (List Rw)) : (G.map List.length).sum = G.flatten.length := by rw [List.length_flatten]
/-- The rows of COUNT and SUM. -/
def cntRow (c : Int) (g : List Rw) : List Va := [⟨1, ((min g.length 2147483647 : Nat) : Int), 0, []⟩, sumV (g.map fun r => atV r.l c)]
theorem rowV_cnt (a : Option Addr) (c : Int) (g : List Rw) : rowV [.mk 10 [] Key.nul 0 false 0 none [] 0, foldN 11 a c] g = cntRow c g := rfl
end Ev
end Go.Proofs.Ytknfnhmkiooifaa
end

section
/-
  The walk of EvalCounts: the counts of all groups come to how many rows there are, their sums to the sum of all.
-/
namespace Go.Proofs.Ytknfnhmkiooifaa
set_option linter.unusedSimpArgs false
set_option linter.unusedVariables false
open Go.RowKit

set_option maxRecDepth 20000 in
set_option maxHeartbeats 8000000 in
theorem evalCounts_walk (w : World) (v0 : Value) (h0 : IntsIn w v0) (n : Int) (wf : (Lit.int .i64 n).wf = true) (v2 : Value) (h2 : RowsW w v2) :
    Calls Try.prog 4 #[v0, .int .i64 n, v2] w fun e w' => e = .returned (.bool true) ∧ Below w.heap.size w w' := by
  obtain ⟨GA, gc, GL, rfl, hgr, hgin, hglc, hgcm⟩ := h0
  obtain ⟨A, c, L, rfl, hl, hin, hlc, hcm⟩ := h2
  have HGR := Lib.hid hgr
  have HGI := Lib.hid hgin
  have HL := Lib.hid hl
  have HIN := Lib.hid hin
  have hgl : GL.length ≤ 9223372036854775807 := by unfold maxLen at hgcm; omega
  have HNB : Hid (Ev.inB n) := by
    simp [Lit.wf, IntKind.min, IntKind.max, IntKind.signed, IntKind.bits] at wf
    exact wf
  clear hgr hgin hl hin wf
  go_enter Try.func4, Try.ntmps4
  go_wp2_with fail
  refine (elives_any w).mono ?_
  rintro e W1 ⟨rfl, hB⟩
  have HB1 := Lib.hid hB
  clear hB
  by_cases h12 : 12 < GL.length
  · have hi12 : (12 : Int) < (GL.length : Int) := by omega
    go_wp2_with fail
    refine (elives_any W1).mono ?_
    rintro e W2 ⟨rfl, hB⟩
    have HB2 := Lib.hid (HB1.out.then hB)
    clear hB
    go_wp2_with fail
    go_ret
    exact ⟨rfl, HB2.out⟩
  · have hi12 : ¬ (12 : Int) < (GL.length : Int) := by omega
    go_wp2_with fail
    refine (small_any W1 A c L (HL.out.below HB1.out) (fun r hr => (HIN.out r hr).below HB1.out) hlc hcm).mono ?_
    rintro e W2 ⟨b, rfl, hsm, hB⟩
    have HB2 := Lib.hid (HB1.out.then hB)
    have HSM := Lib.hid hsm
    clear hB hsm
    cases b with
    | false =>
      go_wp2_with fail
      refine (elives_any W2).mono ?_
      rintro e W3 ⟨rfl, hB⟩
      have HB3 := Lib.hid (HB2.out.then hB)
      clear hB
      go_wp2_with fail
      go_ret
      exact ⟨rfl, HB3.out⟩
    | true =>
      have hl60 : L.length ≤ 60 := (HSM.out rfl).1
      have HRW : Hid (RowsOk w A L) := ⟨HL.out, fun x hx => (HIN.out x hx).rok, by omega⟩
      have HNIL : Hid (A = none → L = []) := fun h => by
        cases L with
        | nil => rfl
        | cons x L => obtain ⟨b, o, e, _⟩ := HL.out (by simp); rw [h] at e; cases e
      clear HSM
      go_wp2_with fail
      refine (col_any W2 n).mono ?_
      rintro e W3 ⟨rfl, hB⟩
      have HB3 := Lib.hid (HB2.out.then hB)
      clear hB
      go_upto_region 5 with fail
      generalize hW4 : ((World.alloc W3 (.cells _ _)).alloc (.cells _ _)) = W4
      obtain ⟨ba4, bb4, hz4, hB4⟩ := fresh2 hW4
      clear hW4
      obtain ⟨items, hit⟩ : ∃ items : List Nd, items = [.mk 10 [] Key.nul 0 false 0 none [] 0, foldN 11 (some ⟨W3.heap.size, 0, none⟩) n] := ⟨_, rfl⟩
      have HIR : Hid (ERow eNd W4 (some ⟨W3.heap.size + 1, 0, none⟩) items) := by rw [hit]; exact Blk.row eNd bb4 _ rfl (by simp [maxLen])
      have HII : Hid (∀ m ∈ items, NodeIn W4 m) := by
        rw [hit]
        intro m hm
        rcases List.mem_cons.1 hm with rfl | hm
        · exact NodeIn.mk ERow.nil (by intro m hm; simp [Nd.args] at hm) Ev.nul_ok (Nat.zero_le _) (show Ev.inB 10 from ⟨by decide, by decide⟩) (show Ev.inB 0 from ⟨by decide, by decide⟩) (Nat.le_refl _) (Nat.zero_le _)
        · rw [List.mem_singleton.1 hm]
          exact node_fold ⟨by decide, by decide⟩ HNB.out (Blk.row eNd ba4 [.mk 2 [] Key.nul n false 0 none [] 0] rfl (by simp [maxLen]))
      have HIL : Hid (items.length = 2) := by show _ = _; rw [hit]; rfl
      have HIV : Hid (∀ g, Ev.rowV items g = Ev.cntRow n g) := fun g => by rw [hit]; exact Ev.rowV_cnt _ n g
      have HB4 := Lib.hid (HB3.out.then hB4)
      clear hit ba4 bb4 hB4 hz4
      generalize W3.heap.size + 1 = z at HIR ⊢
      go_wp2_with fail
      go_loopw [10, 38] (fun v10 iv wr => ∃ (f : Bool) (i : Nat), v10 = .bool f ∧ i ≤ L.length ∧ iv = .int .i64 (i : Int) ∧ Hid ((f = true → Ev.FitsC n (L.take i)) ∧ Below w.heap.size w wr ∧ Below W4.heap.size W4 wr)) (fun _ iv _ => L.length - (intOf iv).toNat)
      case atStart => exact ⟨true, 0, rfl, Nat.zero_le _, by go_num, (fun _ r hr => by simp at hr), HB4.out, Below.refl _ _⟩
      case round =>
        obtain ⟨f, i, rfl, hi, rfl, HJ⟩ := hrel
        by_cases hlt : i < L.length
        · have hii : (i : Int) < (L.length : Int) := by omega
          obtain ⟨bb, oo, rfl, hbl, q0⟩ := rw_at (HL.out.below HJ.out.2.1) hlt
          have HRI := Lib.hid (HIN.out L[i] (List.getElem_mem hlt)).rok
          have HTK : Hid (L.take (i + 1) = L.take i ++ [L[i]]) := List.take_succ_eq_append_getElem hlt
          generalize L[i] = r at q0 HRI HTK
          unfold Rw.v at q0
          go_wp2_with fail
          refine (rat_any wr r.a r.c r.l n (HRI.out.below HJ.out.2.1).r HRI.out.ok HRI.out.len).mono ?_
          rintro e W5 ⟨d, rfl, hd, hB5⟩
          have hkd := hd.eqV.1
          have hnd := hd.eqV.2.1
          have HKD := Lib.hid hkd
          have HND := Lib.hid hnd
          have HJ5 : Hid ((f = true → Ev.FitsC n (L.take i)) ∧ Below w.heap.size w W5 ∧ Below W4.heap.size W4 W5) := ⟨HJ.out.1, HJ.out.2.1.then hB5, HJ.out.2.2.then hB5⟩
          clear hd hB5 q0 hkd hnd
          go_upto_region 9 with (first | (refine wpList_alloc_va rfl rfl ?_; intro W6 hb6 hz6 hB6) | (refine wpList_store_va rfl rfl (.tmp 13) (.tmp 44) rfl W5.heap.size rfl d rfl hb6 ?_; intro W7 hb7 hg7))
          have HJ7 : Hid ((f = true → Ev.FitsC n (L.take i)) ∧ Below w.heap.size w W7 ∧ Below W4.heap.size W4 W7) := ⟨HJ5.out.1, below_of_grown (HJ5.out.2.1.then hB6) hg7 HJ5.out.2.1.size (Nat.le_trans HJ5.out.2.1.size hB6.size), below_of_grown (HJ5.out.2.2.then hB6) hg7 HJ5.out.2.2.size (Nat.le_trans HJ5.out.2.2.size hB6.size)⟩
          have q0 := hb7.cell 0
          have q1 := hb7.cell 1
          simp only [Va.cells, List.getElem?_cons_zero, List.getElem?_cons_succ] at q0 q1
          clear hb6 hz6 hB6 hg7 hb7 HJ HJ5
          have HNEXT : Hid (¬ (d.k = 1 ∧ (1125899906842624 < d.n ∨ d.n < -1125899906842624)) → (f = true → Ev.FitsC n (L.take (i + 1)))) := fun hno hf x hx => by
            rw [HTK.out] at hx
            rcases List.mem_append.1 hx with hx | hx
            · exact HJ7.out.1 hf x hx
            · rw [List.mem_singleton.1 hx, HKD.out, HND.out]
              intro hk
              omega
          by_cases hk1 : d.k = 1
          · have hk1' : (d.k == 1) = true := by simpa using hk1
            by_cases hb1 : 1125899906842624 < d.n
            · go_wp2_with fail
              go_roundw
              case rel => exact ⟨false, i + 1, rfl, by omega, by go_num, by simp, HJ7.out.2⟩
              case measure => simp [intOf]; omega
            · by_cases hb2 : d.n < -1125899906842624
              · go_wp2_with fail
                go_roundw
                case rel => exact ⟨false, i + 1, rfl, by omega, by go_num, by simp, HJ7.out.2⟩
                case measure => simp [intOf]; omega
              · have HN := Lib.hid (HNEXT.out (by omega))
                go_wp2_with fail
                go_roundw
                case rel => exact ⟨f, i + 1, rfl, by omega, by go_num, HN.out, HJ7.out.2⟩
                case measure => simp [intOf]; omega
          · have hk1' : (d.k == 1) = false := by simpa using hk1
            have HN := Lib.hid (HNEXT.out (by omega))
            go_wp2_with fail
            go_roundw
            case rel => exact ⟨f, i + 1, rfl, by omega, by go_num, HN.out, HJ7.out.2⟩
            case measure => simp [intOf]; omega
        · have hii : ¬ (i : Int) < (L.length : Int) := by omega
          obtain rfl : i = L.length := by omega
          have HF : Hid (f = true → Ev.FitsC n L) := fun hf => by have := HJ.out.1 hf; rwa [List.take_length] at this
          have HBW := Lib.hid HJ.out.2.1
          have HB44 := Lib.hid HJ.out.2.2
          have HQ : ∀ (ga : Option Addr) (gl : List Int) (gc' : Nat), ERow eInt wr ga gl → (∀ m ∈ gl, Ev.inB m) → gl.length ≤ 12 → QrIn wr ⟨.slice none 0 0, .slice none 0 0, 0, none, [], 0, ga, gl, gc', true, some ⟨z, 0, none⟩, items, 2, none, [], 0, -1⟩ := fun ga gl gc' h1 h2 h3 =>
            ⟨h1, h2, by show gl.length ≤ 1000000; omega, HIR.out.below HB44.out, fun m hm => node_below (HII.out m hm) HB44.out, by show items.length ≤ 1000000; rw [HIL.out]; decide, ERow.nil, (by intro m hm; cases hm), Nat.zero_le _, (show Ev.inB (-1) from ⟨by decide, by decide⟩)⟩
          have HQQ := Lib.hid HQ
          clear HQ HJ
          have HANS : Hid (∀ (W : World) (ga : Option Addr) (gl : List Int) (gc' : Nat), Below wr.heap.size wr W → ERow eInt wr ga gl → (∀ m ∈ gl, Ev.inB m) → gl.length ≤ 12 →
              Calls Try.prog 15 #[.agg #[.slice none 0 0, .slice none 0 0, .int .i64 0, .slice none 0 0, .slice ga gl.length gc', .bool true, .slice (some ⟨z, 0, none⟩) 2 2, .slice none 0 0, .int .i64 (-1)], .slice A L.length c] W
                (RetRows W (fun R => R = (Ev.groupsV true gl [] L).map (Ev.cntRow n)))) := fun W ga gl gc' h0 h1 h2 h3 => by
            have h := answer_any W _ A c L ((HQQ.out ga gl gc' h1 h2 h3).below h0) (HRW.out.below (HBW.out.then h0)) hlc hcm HNIL.out
            unfold Qr.v Qr.cells at h
            simp only [HIL.out] at h
            refine Calls.mono h ?_
            rintro e W' ⟨A', c', R, e1, e2, e3, e4⟩
            refine ⟨A', c', R, e1, e2, ?_, e4⟩
            rw [e3]
            unfold Ev.answerV
            rw [Ev.limit_none]
            exact List.map_congr_left fun g _ => HIV.out g
          have HGW : Hid (ERow eInt wr GA GL) := HGR.out.below HBW.out
          go_wp2_with fail
          refine (HANS.out wr GA GL gc (Below.refl _ _) HGW.out (fun m hm => HGI.out m hm) (by omega)).mono ?_
          rintro e W5 ⟨A5, c5, R5, rfl, hR, hv, hB⟩
          have HR5 := Lib.hid hR
          have HB5 := Lib.hid hB
          obtain ⟨G, hG⟩ : ∃ G, Ev.groupsV true GL [] L = G := ⟨_, rfl⟩
          have HGP : Hid (G.flatten.Perm L) := by show G.flatten.Perm L; rw [← hG]; exact Ev.groups_perm GL [] L
          rw [hG] at hv
          have HV5 : Hid (R5.map Rw.l = G.map (Ev.cntRow n)) := hv
          have hRG : R5.length = G.length := by simpa using congrArg List.length hv
          have HRG := Lib.hid hRG
          have hr5 : R5.length ≤ 1000000 := by
            rw [hRG, ← hG]
            unfold Ev.groupsV
            rw [Srt.ssort_length]
            have := Ev.baseG_len true GL L
            omega
          have HLE : Hid (∀ i, ((G.take i).map List.length).sum ≤ L.length) := fun i => by
            rw [Ev.len_flatten, ← HGP.out.length_eq]
            have : (G.take i).flatten.length + (G.drop i).flatten.length = G.flatten.length := by rw [← List.length_append, ← List.flatten_append, List.take_append_drop]
            omega
          have HSB : Hid (Ev.FitsC n L → ∀ H : List (List Rw), (∀ g ∈ H, ∀ x ∈ g, x ∈ L) → H.flatten.length ≤ 60 → Ev.colS n H.flatten ≤ 67553994410557440 ∧ -67553994410557440 ≤ Ev.colS n H.flatten) := fun hf H hH hl => by
            have := Ev.colS_bound (c := n) (g := H.flatten) fun x hx => by
              obtain ⟨g, hg, hxg⟩ := List.mem_flatten.1 hx
              exact hf x (hH g hg x hxg)
            omega
          have HMG : Hid (∀ g ∈ G, ∀ x ∈ g, x ∈ L) := fun g hg x hx => HGP.out.mem_iff.1 (List.mem_flatten.2 ⟨g, hg, hx⟩)
          clear hR hB hv hRG
          go_wp2_with fail
          go_loopw [8, 9, 65] (fun v8 v9 iv wr => ∃ (i a : Nat) (s : Int), v8 = .int .i64 (a : Int) ∧ a ≤ 60 ∧ v9 = .int .i64 s ∧ i ≤ R5.length ∧ iv = .int .i64 (i : Int) ∧ Hid (a = ((G.take i).map List.length).sum ∧ (Ev.FitsC n L → s = ((G.take i).map (Ev.colS n)).sum) ∧ Below W5.heap.size W5 wr)) (fun _ _ iv _ => R5.length - (intOf iv).toNat)
          case atStart => exact ⟨0, 0, 0, by go_num, by omega, by go_num, Nat.zero_le _, by go_num, by simp, by simp, Below.refl _ _⟩
          case round =>
            obtain ⟨i, a, s, rfl, ha60, rfl, hi, rfl, HJ⟩ := hrel
            by_cases hlt : i < R5.length
            · have hii : (i : Int) < (R5.length : Int) := by omega
              have hiG : i < G.length := by rw [← HRG.out]; exact hlt
              have HRW5 := HR5.out.below HJ.out.2.2
              obtain ⟨rb, ro, rfl, -, q0⟩ := rw_at HRW5.own.row hlt
              have hxl : R5[i].l = Ev.cntRow n G[i] := by
                have : (R5.map Rw.l)[i]? = (G.map (Ev.cntRow n))[i]? := by rw [HV5.out]
                simpa [hlt, hiG] using this
              have hxr := HRW5.rows R5[i] (List.getElem_mem hlt)
              rw [hxl] at hxr
              obtain ⟨xb, xo, hxa, -, hc0⟩ := hxr.at_ (j := 0) (by simp [Ev.cntRow])
              obtain ⟨xb', xo', hxa', -, hc1⟩ := hxr.at_ (j := 1) (by simp [Ev.cntRow])
              rw [hxa] at hxa'
              cases hxa'
              have q1 : wr.cell? ⟨xb, xo + 1, none⟩ = some (.int .i64 ((min G[i].length 2147483647 : Nat) : Int)) := hc0 1 _ rfl
              have q2 : wr.cell? ⟨xb, xo + 5, none⟩ = some (.int .i64 (Ev.sumV (G[i].map fun r => Ev.atV r.l n)).n) := hc1 1 _ rfl
              have hx2 : R5[i].l.length = 2 := by rw [hxl]; rfl
              unfold Rw.v at q0
              rw [hxa, hx2] at q0
              have HTK : Hid (G.take (i + 1) = G.take i ++ [G[i]]) := List.take_succ_eq_append_getElem hiG
              have HGM : Hid (G[i] ∈ G) := List.getElem_mem hiG
              have HLE1 := HLE.out (i + 1)
              rw [HTK.out, List.map_append, List.sum_append, ← HJ.out.1] at HLE1
              simp at HLE1
              have hgmin : min G[i].length 2147483647 = G[i].length := by omega
              rw [hgmin] at q1
              generalize hsv : (Ev.sumV (G[i].map fun r => Ev.atV r.l n)).n = t at q2
              have HST : Hid (Ev.FitsC n L → t = Ev.colS n G[i] ∧ s + t = ((G.take (i + 1)).map (Ev.colS n)).sum ∧ -9223372036854775808 ≤ s + t ∧ s + t ≤ 9223372036854775807) := fun hf => by
                have hb1 := HSB.out hf [G[i]] (fun g hg => by rw [List.mem_singleton.1 hg]; exact HMG.out _ HGM.out) (by simp; omega)
                simp only [List.flatten_cons, List.flatten_nil, List.append_nil] at hb1
                have e1 : t = Ev.colS n G[i] := by
                  rw [← hsv]
                  exact Ev.sumV_n ⟨by show _ ≤ Ev.colS n G[i]; omega, by show Ev.colS n G[i] ≤ _; omega⟩
                have e2 : s + t = ((G.take (i + 1)).map (Ev.colS n)).sum := by rw [HTK.out, List.map_append, List.sum_append, ← HJ.out.2.1 hf, e1]; simp
                have hb2 := HSB.out hf (G.take (i + 1)) (fun g hg => HMG.out g (List.mem_of_mem_take hg)) (by
                  have := HLE.out (i + 1)
                  rw [Ev.len_flatten] at this
                  omega)
                rw [← Ev.colS_flatten] at hb2
                exact ⟨e1, e2, by omega, by omega⟩
              have HAN : Hid (a + G[i].length = ((G.take (i + 1)).map List.length).sum) := by show _ = _; rw [HTK.out, List.map_append, List.sum_append, ← HJ.out.1]; simp
              generalize G[i].length = gl at q1 HLE1 HAN
              clear hxl hxr hxa hc0 hc1 hx2 hgmin hsv HRW5
              go_wp2_with fail
              go_roundw
              case rel =>
                refine ⟨i + 1, a + gl, wrap64 (s + t), by go_num, by omega, rfl, by omega, by go_num, HAN.out, fun hf => ?_, HJ.out.2.2⟩
                have h := HST.out hf
                rw [Ev.wrap_in ⟨h.2.2.1, h.2.2.2⟩]
                exact h.2.1
              case measure => simp [intOf]; omega
            · have hii : ¬ (i : Int) < (R5.length : Int) := by omega
              have hiE : G.take i = G := List.take_of_length_le (by have := HRG.out; omega)
              have haL : a = L.length := by rw [HJ.out.1, hiE, Ev.len_flatten, HGP.out.length_eq]
              have HSL : Hid (Ev.FitsC n L → s = Ev.colS n L) := fun hf => by rw [HJ.out.2.1 hf, hiE, Ev.colS_flatten, Ev.colS_perm n HGP.out]
              subst haL
              clear hiE
              go_wp2_with fail
              refine (HANS.out wr none [] 0 (HB5.out.trans (HJ.out.2.2.mono HB5.out.size)) ERow.nil (by intro m hm; cases hm) (by decide)).mono ?_
              rintro e W6 ⟨A6, c6, R6, rfl, hR6, hv6, hB6⟩
              have hv6 : R6.map Rw.l = [Ev.cntRow n L] := by
                rw [hv6]
                unfold Ev.groupsV Ev.baseG
                rw [if_pos rfl, if_pos rfl, Ev.ssort_one]
                rfl
              obtain ⟨x, rfl⟩ : ∃ x, R6 = [x] := by
                have := congrArg List.length hv6
                rw [List.length_map] at this
                exact List.length_eq_one_iff.1 this
              have hxl : x.l = Ev.cntRow n L := by simpa using hv6
              obtain ⟨g6, rfl⟩ : ∃ g6, A6 = some ⟨g6, 0, none⟩ := by
                rcases hR6.own.form with ⟨-, -, h⟩ | ⟨g, h, -⟩
                · cases h
                · exact ⟨g, h⟩
              have q0 : W6.cell? ⟨g6, 0, none⟩ = some x.v := hR6.own.cell (j := 0) (k := 0) (v := x.v) (by simp) rfl
              have hxr := hR6.rows x (by simp)
              rw [hxl] at hxr
              obtain ⟨xb, xo, hxa, -, hc0⟩ := hxr.at_ (j := 0) (by simp [Ev.cntRow])
              obtain ⟨xb', xo', hxa', -, hc1⟩ := hxr.at_ (j := 1) (by simp [Ev.cntRow])
              rw [hxa] at hxa'
              cases hxa'
              have q1 : W6.cell? ⟨xb, xo + 1, none⟩ = some (.int .i64 ((min L.length 2147483647 : Nat) : Int)) := hc0 1 _ rfl
              have q2 : W6.cell? ⟨xb, xo + 5, none⟩ = some (.int .i64 (Ev.sumV (L.map fun r => Ev.atV r.l n)).n) := hc1 1 _ rfl
              rw [show min L.length 2147483647 = L.length by omega] at q1
              have hx2 : x.l.length = 2 := by rw [hxl]; rfl
              unfold Rw.v at q0
              rw [hxa, hx2] at q0
              generalize hsv : (Ev.sumV (L.map fun r => Ev.atV r.l n)).n = t at q2
              have HTS : Hid (f = true → s = t) := fun hf => by
                have hb := Ev.colS_bound (c := n) (g := L) (HF.out hf)
                rw [HSL.out (HF.out hf), ← hsv]
                exact (Ev.sumV_n ⟨by show _ ≤ Ev.colS n L; omega, by show Ev.colS n L ≤ _; omega⟩).symm
              have HB6 := Lib.hid (HBW.out.trans ((HB5.out.trans (HJ.out.2.2.mono HB5.out.size)).trans (hB6.mono (Nat.le_trans HB5.out.size HJ.out.2.2.size)) |>.mono HBW.out.size))
              clear hxl hxr hxa hc0 hc1 hx2 hsv hB6 hR6 hv6
              cases f with
              | true =>
                have hst : s = t := HTS.out rfl
                subst hst
                clear HTS HSL HJ
                go_wp2_with fail
                go_ret
                exact ⟨rfl, HB6.out⟩
              | false =>
                clear HTS HSL HJ
                go_wp2_with fail
                go_ret
                exact ⟨rfl, HB6.out⟩
end Go.Proofs.Ytknfnhmkiooifaa
end

