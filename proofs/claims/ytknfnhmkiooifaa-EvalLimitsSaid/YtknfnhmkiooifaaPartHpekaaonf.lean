/-
  Texts of a proof, one behind the other (each with its own head).
-/
import Derived.Test.YtknfnhmkiooifaaPartGgclmgepm
section
/-
  A query that comes in; the contracts of the laws' query and exact.
-/
namespace Go.Proofs.Ytknfnhmkiooifaa
set_option linter.unusedSimpArgs false
set_option linter.unusedVariables false
open Go.RowKit Go.Deep Go.WideShapes Go.ChangeShapes

/-- A query as it comes in: of any size. -/
structure QrRaw (w : World) (q : Qr) : Prop where
  wh : ERow eNd w q.wa q.where_
  whin : ∀ n ∈ q.where_, NodeIn w n
  whl : q.where_.length ≤ q.wc
  whm : q.wc ≤ maxLen
  g : ERow eInt w q.ga q.group
  gin : ∀ n ∈ q.group, Ev.inB n
  gl : q.group.length ≤ q.gc
  gm : q.gc ≤ maxLen
  i : ERow eNd w q.ia q.items
  iin : ∀ n ∈ q.items, NodeIn w n
  il : q.items.length ≤ q.ic
  im : q.ic ≤ maxLen
  o : ERow eSo w q.oa q.order
  oin : ∀ s ∈ q.order, Ev.inB s.at_
  ol : q.order.length ≤ q.oc
  om : q.oc ≤ maxLen
  lim : Ev.inB q.lim
theorem QrRaw.below {w W : World} {q : Qr} (h : QrRaw w q) (hB : Below w.heap.size w W) : QrRaw W q :=
  ⟨h.wh.below hB, fun n hn => node_below (h.whin n hn) hB, h.whl, h.whm, h.g.below hB, h.gin, h.gl, h.gm, h.i.below hB, fun n hn => node_below (h.iin n hn) hB, h.il, h.im, h.o.below hB, h.oin, h.ol, h.om, h.lim⟩
/-- A query small enough to be tried. -/
def SmallQ (q : Qr) : Prop := q.items.length ≤ 12 ∧ q.where_.length ≤ 12 ∧ q.group.length ≤ 12 ∧ q.order.length ≤ 12
theorem QrRaw.qrIn {w : World} {q : Qr} (h : QrRaw w q) (hs : SmallQ q) : QrIn w q :=
  ⟨h.g, h.gin, by have := hs.2.2.1; omega, h.i, h.iin, by have := hs.1; omega, h.o, h.oin, by have := hs.2.2.2; omega, h.lim⟩
def QueryW (w : World) (v : Value) : Prop := ∃ q : Qr, v = q.v ∧ QrRaw w q
section
variable {H : Type} {enc : TypeId × Value → H} {w : World} {base : Nat} {spare : Nat → Bool} {held : Bool} {fuel : Nat} {cs : List Value} {x : DataW H × List MemPlace}
set_option maxRecDepth 20000 in
theorem open_query (h : DataW.trod enc Try.prog w base spare held fuel 40 cs = some x) (hlen : cs.length = 9) : ∃ q : Qr, cs = q.cells ∧ QrRaw w q := by
  obtain ⟨xs, k, hk, rfl, _, hxl, hfs⟩ := DataW.trod_struct Try.underlying40 h
  match xs, hxl, cs, hlen with
  | [y0, y1, y2, y3, y4, y5, y6, y7, y8], _, [v0, v1, v2, v3, v4, v5, v6, v7, v8], _ =>
    have g0 := hfs 0 _ rfl
    have g1 := hfs 1 _ rfl
    have g2 := hfs 2 _ rfl
    have g3 := hfs 3 _ rfl
    have g4 := hfs 4 _ rfl
    have g5 := hfs 5 _ rfl
    have g6 := hfs 6 _ rfl
    have g7 := hfs 7 _ rfl
    have g8 := hfs 8 _ rfl
    have q0 : Try.prog.cellsOf 3 = 1 := by kernel_rfl
    have q1 : Try.prog.cellsOf 29 = 1 := by kernel_rfl
    have q2 : Try.prog.cellsOf 22 = 1 := by kernel_rfl
    have q3 : Try.prog.cellsOf 4 = 1 := by kernel_rfl
    have q4 : Try.prog.cellsOf 33 = 1 := by kernel_rfl
    simp [q0, q1, q2, q3, q4] at g0 g1 g2 g3 g4 g5 g6 g7 g8
    obtain ⟨n2, e2, b2⟩ := open_i64 Try.underlying3 g2
    obtain ⟨wa, wh, wc, e3, r3, i3, l3, m3⟩ := open_nodes g3
    obtain ⟨ga, gr, gc, e4, r4, i4, l4, m4⟩ := open_intlist g4
    obtain ⟨n5, e5, _⟩ := DataW.trod_bool Try.underlying4 g5
    obtain ⟨ia, it, ic, e6, r6, i6, l6, m6⟩ := open_nodes g6
    obtain ⟨oa, od, oc, e7, r7, i7, l7, m7⟩ := open_sorts g7
    obtain ⟨n8, e8, b8⟩ := open_i64 Try.underlying3 g8
    have e2' : v2 = .int .i64 n2 := by simpa using e2
    have e3' : v3 = .slice wa wh.length wc := by simpa using e3
    have e4' : v4 = .slice ga gr.length gc := by simpa using e4
    have e5' : v5 = .bool n5 := by simpa using e5
    have e6' : v6 = .slice ia it.length ic := by simpa using e6
    have e7' : v7 = .slice oa od.length oc := by simpa using e7
    have e8' : v8 = .int .i64 n8 := by simpa using e8
    subst e2' e3' e4' e5' e6' e7' e8'
    exact ⟨⟨v0, v1, n2, wa, wh, wc, ga, gr, gc, n5, ia, it, ic, oa, od, oc, n8⟩, rfl, r3, i3, l3, m3, r4, i4, l4, m4, r6, i6, l6, m6, r7, i7, l7, m7, b8⟩
end
set_option maxRecDepth 20000 in
theorem query_in {H : Type} {enc : TypeId × Value → H} {w : World} {base : Nat} {v : Value} {d : DataW H} {p : List MemPlace}
    (hv : Value.okWide Try.prog w .any base 40 v) (h : DataW.Trod enc Try.prog w 0 (fun _ => true) true 40 v d p) : QueryW w v := by
  have hag : ∃ cs : Array Value, v = .agg cs := by
    simp only [Value.okWide, Try.underlying40] at hv
    obtain ⟨cs, h1, _⟩ := hv
    exact ⟨cs, h1⟩
  obtain ⟨cs, rfl⟩ := hag
  obtain ⟨fuel, hf⟩ := h
  have h9 : Try.prog.cellsOf 40 = 9 := by kernel_rfl
  have hlen : cs.toList.length = 9 := by
    obtain ⟨xs, k, hk, -, hcl, hxl, hfs⟩ := DataW.trod_struct Try.underlying40 hf
    rw [h9] at hcl
    simpa [Value.cells] using hcl
  obtain ⟨q, e, hq⟩ := open_query hf hlen
  refine ⟨q, ?_, hq⟩
  show Value.agg cs = .agg q.cells.toArray
  rw [← e]
  rfl
set_option maxRecDepth 20000 in
set_option maxHeartbeats 4000000 in
theorem query_any (w : World) (q : Qr) (hq : QrRaw w q) : Calls Try.prog 16 #[q.v] w (RetIf w (SmallQ q)) := by
  have HQ := Lib.hid hq
  have hl1 : q.group.length ≤ 9223372036854775807 := by have := hq.gl; have := hq.gm; unfold maxLen at this; omega
  have hl2 : q.order.length ≤ 9223372036854775807 := by have := hq.ol; have := hq.om; unfold maxLen at this; omega
  clear hq
  go_enter Try.func16, Try.ntmps16
  go_upto_region 1 with (refine wpList_box_qr rfl (.tmp 0) rfl q rfl ?_; intro W1 hb1 hz1 hB1)
  have HB1 := Lib.hid hB1
  obtain ⟨c4, c5, c6, c7, c8⟩ := Blk.qr hb1
  have c3 := hb1.cell 3
  simp only [Qr.cells, List.getElem?_cons_zero, List.getElem?_cons_succ] at c3
  clear hB1 hz1
  generalize w.heap.size = g at hb1 c3 c4 c6 c7 ⊢
  go_wp2_with fail
  refine (few_any W1 _ _ _ (HQ.out.below HB1.out).i (HQ.out.below HB1.out).iin HQ.out.il HQ.out.im).mono ?_
  rintro e W2 ⟨b, rfl, hb, hB⟩
  have HB2 := Lib.hid (HB1.out.then hB)
  have hb2 := hb1.below hB
  have H1 := Lib.hid hb
  clear hB hb hb1 c3 c4 c6 c7
  obtain ⟨c4, c5, c6, c7, c8⟩ := Blk.qr hb2
  have c3 := hb2.cell 3
  simp only [Qr.cells, List.getElem?_cons_zero, List.getElem?_cons_succ] at c3
  cases b with
  | false =>
    go_wp2_with fail
    go_ret
    exact ⟨false, rfl, by simp, HB2.out⟩
  | true =>
    go_wp2_with fail
    refine (few_any W2 _ _ _ (HQ.out.below HB2.out).wh (HQ.out.below HB2.out).whin HQ.out.whl HQ.out.whm).mono ?_
    rintro e W3 ⟨b, rfl, hb, hB⟩
    have HB3 := Lib.hid (HB2.out.then hB)
    have hb3 := hb2.below hB
    have H2 := Lib.hid hb
    clear hB hb hb2 c3 c4 c5 c6 c7 c8
    obtain ⟨c4, -, -, c7, -⟩ := Blk.qr hb3
    cases b with
    | false =>
      go_wp2_with fail
      go_ret
      exact ⟨false, rfl, by simp, HB3.out⟩
    | true =>
      by_cases k1 : q.group.length ≤ 12
      · have i1 : (q.group.length : Int) ≤ 12 := by omega
        by_cases k2 : q.order.length ≤ 12
        · have i2 : (q.order.length : Int) ≤ 12 := by omega
          go_wp2_with fail
          go_ret
          exact ⟨true, rfl, fun _ => ⟨H1.out trivial, H2.out trivial, k1, k2⟩, HB3.out⟩
        · have i2 : ¬ (q.order.length : Int) ≤ 12 := by omega
          go_wp2_with fail
          go_ret
          exact ⟨false, by simp; omega, by simp, HB3.out⟩
      · have i1 : ¬ (q.group.length : Int) ≤ 12 := by omega
        go_wp2_with fail
        go_ret
        exact ⟨false, rfl, by simp, HB3.out⟩
/-- Rows that are one, field by field. -/
def EqRows (X Y : List Rw) : Prop := X.length = Y.length ∧ ∀ i (h : i < X.length) (h' : i < Y.length), X[i].l.length = Y[i].l.length ∧ ∀ k (h : k < X[i].l.length) (h' : k < Y[i].l.length), eqV X[i].l[k] Y[i].l[k]
/-- Rows of clean values that can be read. -/
structure RowsCl (w : World) (A : Option Addr) (L : List Rw) : Prop where
  r : ERow eRw w A L
  rr : ∀ x ∈ L, ERow eVa w x.a x.l
  ok : ∀ x ∈ L, ∀ v ∈ x.l, v.ok
  cl : ∀ x ∈ L, ∀ v ∈ x.l, Key.Clean v
  len : L.length ≤ 1000000
  lens : ∀ x ∈ L, x.l.length ≤ 1000000
theorem RowsCl.below {w W : World} {A : Option Addr} {L : List Rw} (h : RowsCl w A L) (hB : Below w.heap.size w W) : RowsCl W A L := ⟨h.r.below hB, fun x hx => (h.rr x hx).below hB, h.ok, h.cl, h.len, h.lens⟩
set_option maxRecDepth 20000 in
set_option maxHeartbeats 8000000 in
theorem exact14_any (w : World) (A B : Option Addr) (c d : Nat) (X Y : List Rw) (hx : RowsCl w A X) (hy : RowsCl w B Y) (h : EqRows X Y) :
    Calls Try.prog 17 #[.slice A X.length c, .slice B Y.length d] w fun e w' => e = .returned (.bool true) ∧ Below w.heap.size w w' := by
  have HX := Lib.hid hx
  have HY := Lib.hid hy
  have HE := Lib.hid h.2
  have HL := Lib.hid h.1
  have hyl := hy.len
  rw [h.1]
  clear hx hy h
  go_enter Try.func17, Try.ntmps17
  go_wp2_with fail
  go_loopw [14] (fun iv wr => ∃ i : Nat, i ≤ Y.length ∧ iv = .int .i64 (i : Int) ∧ Hid (Below w.heap.size w wr)) (fun iv _ => Y.length - (intOf iv).toNat)
  case atStart => exact ⟨0, Nat.zero_le _, by go_num, Below.refl _ _⟩
  case round =>
    obtain ⟨i, hi, rfl, HJ⟩ := hrel
    by_cases hlt : i < Y.length
    · have hii : (i : Int) < (Y.length : Int) := by omega
      have hltx : i < X.length := by rw [HL.out]; exact hlt
      obtain ⟨ba, oa, rfl, -, -⟩ := rw_at (HX.out.below HJ.out).r hltx
      obtain ⟨bb, ob, rfl, -, -⟩ := rw_at (HY.out.below HJ.out).r hlt
      obtain ⟨x, hx⟩ : ∃ x, X[i] = x := ⟨_, rfl⟩
      obtain ⟨y, hy⟩ : ∃ y, Y[i] = y := ⟨_, rfl⟩
      have HXM : Hid (x ∈ X) := by show x ∈ X; rw [← hx]; exact List.getElem_mem hltx
      have HYM : Hid (y ∈ Y) := by show y ∈ Y; rw [← hy]; exact List.getElem_mem hlt
      have HXY : Hid (x.l.length = y.l.length ∧ ∀ k (h : k < x.l.length) (h' : k < y.l.length), eqV x.l[k] y.l[k]) := by subst hx hy; exact HE.out i hltx hlt
      have HCX : Hid (∀ W, Below w.heap.size w W → W.cell? ⟨ba, oa + i, none⟩ = some (.slice x.a y.l.length x.c)) := fun W hW => by
        obtain ⟨b', o', e', -, h1⟩ := rw_at (HX.out.below hW).r hltx
        cases e'
        rw [h1, hx, ← HXY.out.1]
        rfl
      have HCY : Hid (∀ W, Below w.heap.size w W → W.cell? ⟨bb, ob + i, none⟩ = some (.slice y.a y.l.length y.c)) := fun W hW => by
        obtain ⟨b', o', e', -, h1⟩ := rw_at (HY.out.below hW).r hlt
        cases e'
        rw [h1, hy]
        rfl
      have hyll := HY.out.lens y HYM.out
      clear hx hy
      have q0 := HCX.out _ HJ.out.drewR
      have q1 := HCY.out _ HJ.out.drewR
      go_upto_region 6 with fail
      refine wp_region_plan (.take 0 (.take 1 (.take 2 (.take 3 (.take 4 (.take 5 (.take 6 (.take 7 (.take 8 (.take 9 (.take 10 .fin))))))))))) (by kernel_rfl) (by kernel_rfl) (by kernel_rfl) (by kernel_rfl) ?_
      repeat' (first | (refine hZ _ _ ?_; clear hZ) | (refine hZ _ ?_; clear hZ) | (refine hZ ?_; clear hZ) | rw [again_nil] | rw [walk_fin] | ((first | rw [walk_take] | rw [walk_run] | rw [again_cons]); intro Z hZ; simp only [sel, List.getElem?_toArray, List.getElem?_cons_zero, List.getElem?_cons_succ]; go_wp2_with (fail)))
      have p0 := HCX.out _ HJ.out
      clear q1
      go_wp2_with fail
      clear p0 q0
      go_loopw [33] (fun kv wq => ∃ k : Nat, k ≤ y.l.length ∧ kv = .int .i64 (k : Int) ∧ Hid (Below w.heap.size w wq)) (fun kv _ => y.l.length - (intOf kv).toNat)
      case atStart => exact ⟨0, Nat.zero_le _, by go_num, HJ.out.drewR⟩
      case round =>
        obtain ⟨k, hk, rfl, HK⟩ := hrel
        by_cases hkl : k < y.l.length
        · have hki : (k : Int) < (y.l.length : Int) := by omega
          have hkx : k < x.l.length := by rw [HXY.out.1]; exact hkl
          have HXR : Hid (ERow eVa wr.drew x.a x.l) := (HX.out.rr x HXM.out).below HK.out.drewR
          have HYR : Hid (ERow eVa wr.drew y.a y.l) := (HY.out.rr y HYM.out).below HK.out.drewR
          obtain ⟨xb, xo, hxa, -, -⟩ := HXR.out.at_ hkx
          obtain ⟨yb, yo, hya, -, -⟩ := HYR.out.at_ hkl
          have q0 := HCX.out _ HK.out.drewR
          have q1 := HCY.out _ HK.out.drewR
          rw [hxa] at q0 HXR
          rw [hya] at q1 HYR
          have HV : Hid (eqV x.l[k] y.l[k]) := HXY.out.2 k hkx hkl
          have HO : Hid (x.l[k].ok ∧ y.l[k].ok ∧ Key.Clean x.l[k] ∧ Key.Clean y.l[k]) := ⟨HX.out.ok x HXM.out _ (List.getElem_mem hkx), HY.out.ok y HYM.out _ (List.getElem_mem hkl), HX.out.cl x HXM.out _ (List.getElem_mem hkx), HY.out.cl y HYM.out _ (List.getElem_mem hkl)⟩
          clear hxa hya
          go_upto_region 11 with fail
          refine wp_region_plan (.take 0 (.take 1 (.take 2 (.take 3 (.take 4 (.take 5 (.take 6 (.take 7 (.take 8 (.take 9 (.take 10 (.take 11 (.take 12 (.take 13 (.run 14 [] (.take 15 .fin)))))))))))))))) (by kernel_rfl) (by kernel_rfl) (by kernel_rfl) (by kernel_rfl) ?_
          repeat' (first | (refine hZ _ _ ?_; clear hZ) | (refine hZ _ ?_; clear hZ) | (refine hZ ?_; clear hZ) | rw [again_nil] | rw [walk_fin] | ((first | rw [walk_take] | rw [walk_run] | rw [again_cons]); intro Z hZ; simp only [sel, List.getElem?_toArray, List.getElem?_cons_zero, List.getElem?_cons_succ]; go_wp2_with (first | (refine wpList_load_va_at rfl (.tmp 41) rfl HXR.out hkx rfl ?_) | (refine wpList_load_va_at rfl (.tmp 48) rfl HYR.out hkl rfl ?_))))
          refine (vexact_any _ x.l[k] y.l[k] HO.out.1 HO.out.2.1 HO.out.2.2.1 HO.out.2.2.2).mono ?_
          rintro e W4 ⟨rfl, hb4⟩
          rw [decide_eq_true HV.out]
          have HB4 := Lib.hid (HK.out.drewR.trans (hb4.mono HK.out.size))
          clear hb4 q0 q1
          go_wp2_with fail
          repeat' (first | (refine hZ _ _ ?_; clear hZ) | (refine hZ _ ?_; clear hZ) | (refine hZ ?_; clear hZ) | rw [again_nil] | rw [walk_fin] | ((first | rw [walk_take] | rw [walk_run] | rw [again_cons]); intro Z hZ; simp only [sel, List.getElem?_toArray, List.getElem?_cons_zero, List.getElem?_cons_succ]; go_wp2_with (fail)))
          go_wp2_with fail
          go_roundw
          case rel => exact ⟨k + 1, by omega, by go_num, HB4.out⟩
          case measure => simp [intOf]; omega
        · have hki : ¬ (k : Int) < (y.l.length : Int) := by omega
          go_wp2_with fail
          go_roundw
          case rel => exact ⟨i + 1, by omega, by go_num, HK.out⟩
          case measure => simp [intOf]; omega
    · have hii : ¬ (i : Int) < (Y.length : Int) := by omega
      go_wp2_with fail
      go_ret
      exact ⟨rfl, HJ.out⟩
end Go.Proofs.Ytknfnhmkiooifaa
end

section
/-
  The walk of EvalLimits: with a limit the first rows of the answer without one are answered.
-/
namespace Go.Proofs.Ytknfnhmkiooifaa
set_option linter.unusedSimpArgs false
set_option linter.unusedVariables false
open Go.RowKit

namespace Ev
theorem clean_sum (vs : List Va) : Key.clean (sumV vs) = sumV vs := by
  unfold sumV
  split
  · rfl
  · exact clean_intV _
theorem clean_fold (n : Nd) (L : List Rw) : Key.clean (foldV n L) = foldV n L := by
  unfold foldV
  split
  · rfl
  · split
    · exact clean_sum _
    · refine bestV_clean _ _ fun v hv => ?_
      obtain ⟨y, -, rfl⟩ := List.mem_map.1 hv
      exact clean_argV _ _
theorem clean_item (n : Nd) (g : List Rw) : Key.clean (itemV n g) = itemV n g := by
  unfold itemV
  split
  · exact clean_fold _ _
  · exact clean_eval _ _
theorem limit_take {α : Type} (m : Nat) (l : List α) : limit (m : Int) l = l.take m := by
  unfold limit
  by_cases h : m < l.length
  · rw [if_pos ⟨by omega, by omega⟩]; simp
  · rw [if_neg (by omega), List.take_of_length_le (by omega)]
theorem limit_none {α : Type} (l : List α) : limit (-1) l = l := by unfold limit; rw [if_neg (by omega)]
end Ev
/-- What is answered are clean values. -/
theorem RLoop.cl {B : Nat} {W : World} {A : Option Addr} {c : Nat} {R : List Rw} (h : RLoop B W A c R) {items : List Nd} {G : List (List Rw)} (hR : R.map Rw.l = G.map (Ev.rowV items)) (hi : items.length ≤ 1000000) (hG : G.length ≤ 1000000) : RowsCl W A R := by
  have hm : ∀ x ∈ R, ∃ g, x.l = Ev.rowV items g := fun x hx => by
    have : x.l ∈ G.map (Ev.rowV items) := by rw [← hR]; exact List.mem_map.2 ⟨x, hx, rfl⟩
    obtain ⟨g, -, e⟩ := List.mem_map.1 this
    exact ⟨g, e.symm⟩
  refine ⟨h.own.row, h.rows, h.ok, fun x hx v hv => ?_, ?_, fun x hx => ?_⟩
  · obtain ⟨g, e⟩ := hm x hx
    rw [e] at hv
    obtain ⟨n, -, rfl⟩ := List.mem_map.1 hv
    rw [← Ev.clean_item]
    exact Ev.clean_is _
  · have := congrArg List.length hR
    rw [List.length_map, List.length_map] at this
    omega
  · obtain ⟨g, e⟩ := hm x hx
    rw [e]
    unfold Ev.rowV
    rw [List.length_map]
    exact hi
theorem RowsCl.take {w : World} {A : Option Addr} {L : List Rw} (h : RowsCl w A L) (k : Nat) : RowsCl w A (L.take k) :=
  ⟨h.r.take k, fun x hx => h.rr x (List.mem_of_mem_take hx), fun x hx => h.ok x (List.mem_of_mem_take hx), fun x hx => h.cl x (List.mem_of_mem_take hx), by rw [List.length_take]; have := h.len; omega, fun x hx => h.lens x (List.mem_of_mem_take hx)⟩
theorem eqV_refl (x : Va) : eqV x x := ⟨rfl, rfl, rfl, Iff.rfl, .inr rfl⟩
theorem eqRows_of {X Y : List Rw} (h : X.map Rw.l = Y.map Rw.l) : EqRows X Y := by
  have hl : X.length = Y.length := by simpa using congrArg List.length h
  refine ⟨hl, fun i h1 h2 => ?_⟩
  have e : X[i].l = Y[i].l := by
    have e1 : (X.map Rw.l)[i]? = (Y.map Rw.l)[i]? := by rw [h]
    simpa [h1, h2] using e1
  exact ⟨by rw [e], fun k h3 h4 => by simp only [e]; exact eqV_refl _⟩
theorem Blk.c9 {w : World} {g : Nat} {t : TypeId} {a b c d e f i j k : Value} (h : Blk w g t [a, b, c, d, e, f, i, j, k]) :
    w.cell? ⟨g, 0, none⟩ = some a ∧ w.cell? ⟨g, 1, none⟩ = some b ∧ w.cell? ⟨g, 2, none⟩ = some c ∧ w.cell? ⟨g, 3, none⟩ = some d ∧ w.cell? ⟨g, 4, none⟩ = some e ∧ w.cell? ⟨g, 5, none⟩ = some f ∧ w.cell? ⟨g, 6, none⟩ = some i ∧ w.cell? ⟨g, 7, none⟩ = some j ∧ w.cell? ⟨g, 8, none⟩ = some k :=
  ⟨h.cell 0, h.cell 1, h.cell 2, h.cell 3, h.cell 4, h.cell 5, h.cell 6, h.cell 7, h.cell 8⟩
/-- Values do not lie where a query does. -/
theorem va_row_ne {W : World} {R : Option Addr} {l : List Va} {g : Nat} {T : TypeId} {q : Qr} (h : ERow eVa W R l) (hl : l ≠ []) (hb : Blk W g T q.cells) : ∀ a, R = some a → a.block ≠ g := by
  intro a ha e
  obtain ⟨b, o, e1, -, hc⟩ := h.at_ (List.length_pos_iff.2 hl)
  rw [ha] at e1
  cases e1
  have e : b = g := e
  subst e
  have h1 := hc 2 _ rfl
  rw [hb.cell] at h1
  have h2 : o + (0 * eVa.sz + 2) = o + 2 := rfl
  rw [h2] at h1
  match o, h1 with
  | 0, h1 => cases h1
  | 1, h1 => cases h1
  | 2, h1 => cases h1
  | 3, h1 => cases h1
  | 4, h1 => cases h1
  | 5, h1 => cases h1
  | 6, h1 => cases h1
  | o + 7, h1 => simp [Qr.cells] at h1
theorem QrIn.limit {w : World} {q : Qr} (h : QrIn w q) {m : Int} (hm : Ev.inB m) : QrIn w { q with lim := m } := ⟨h.g, h.gin, h.gl, h.i, h.iin, h.il, h.o, h.oin, h.ol, hm⟩
set_option maxRecDepth 20000 in
set_option maxHeartbeats 8000000 in
theorem evalLimits_walk (w : World) (v0 : Value) (h0 : QueryW w v0) (v1 : Value) (h1 : RowsW w v1) (n : Int) (wf : (Lit.int .i64 n).wf = true) :
    Calls Try.prog 7 #[v0, v1, .int .i64 n] w fun e w' => e = .returned (.bool true) ∧ Below w.heap.size w w' := by
  obtain ⟨q, rfl, hq⟩ := h0
  obtain ⟨A, c, L, rfl, hl, hin, hlc, hcm⟩ := h1
  have HQ := Lib.hid hq
  have HL := Lib.hid hl
  have HIN := Lib.hid hin
  clear hq hl hin wf
  go_enter Try.func7, Try.ntmps7
  go_upto_region 1 with (refine wpList_box_qr rfl (.tmp 0) rfl q rfl ?_; intro W1 hb1 hz1 hB1)
  have HB1 := Lib.hid hB1
  clear hB1 hz1
  generalize hg : w.heap.size = g at hb1 ⊢
  have HG := Lib.hid hg
  clear hg
  go_wp2_with fail
  refine (elives_any W1).mono ?_
  rintro e W2 ⟨rfl, hB⟩
  have HB2 := Lib.hid (HB1.out.then hB)
  have hb2 := hb1.below hB
  obtain ⟨c0, c1, c2, c3, c4, c5, c6, c7, c8⟩ := Blk.c9 (show Blk _ _ _ [_, _, _, _, _, _, _, _, _] from hb2)
  clear hB hb1
  go_wp2_with fail
  clear c0 c1 c2 c3 c4 c5 c6 c7 c8
  refine (show Calls _ _ #[q.v] _ _ from query_any W2 q (HQ.out.below HB2.out)).mono ?_
  rintro e W3 ⟨b, rfl, hsq, hB⟩
  have HB3 := Lib.hid (HB2.out.then hB)
  have hb3 := hb2.below hB
  have HSQ := Lib.hid hsq
  clear hB hb2 hsq
  cases b with
  | false =>
    go_wp2_with fail
    refine (elives_any W3).mono ?_
    rintro e W4 ⟨rfl, hB⟩
    have HB4 := Lib.hid (HB3.out.then hB)
    clear hB
    go_wp2_with fail
    go_ret
    exact ⟨rfl, HB4.out⟩
  | true =>
    go_wp2_with fail
    refine (small_any W3 A c L (HL.out.below HB3.out) (fun r hr => (HIN.out r hr).below HB3.out) hlc hcm).mono ?_
    rintro e W4 ⟨b, rfl, hsm, hB⟩
    have HB4 := Lib.hid (HB3.out.then hB)
    have hb4 := hb3.below hB
    have HSM := Lib.hid hsm
    clear hB hb3 hsm
    cases b with
    | false =>
      go_wp2_with fail
      refine (elives_any W4).mono ?_
      rintro e W5 ⟨rfl, hB⟩
      have HB5 := Lib.hid (HB4.out.then hB)
      clear hB
      go_wp2_with fail
      go_ret
      exact ⟨rfl, HB5.out⟩
    | true =>
      have HSQ2 : Hid (SmallQ q) := HSQ.out trivial
      have HSM2 : Hid (SmallR L) := HSM.out rfl
      have HRW : Hid (RowsOk w A L) := ⟨HL.out, fun x hx => (HIN.out x hx).rok, by have := HSM2.out.1; omega⟩
      have HNIL : Hid (A = none → L = []) := fun h => by
        cases L with
        | nil => rfl
        | cons x L => obtain ⟨b, o, e, _⟩ := HL.out (by simp); rw [h] at e; cases e
      obtain ⟨-, -, -, -, c8⟩ := Blk.qr hb4
      have f8 := hb4.free 8
      go_upto_region 4 with fail
      have hb5 : Blk (W4.setCell ⟨g, 8, none⟩ (.int .i64 (-1))) g 40 (Qr.cells { q with lim := -1 }) := hb4.set 8 _
      have HB5 : Hid (Below w.heap.size w (W4.setCell ⟨g, 8, none⟩ (.int .i64 (-1)))) := below_of_grown HB4.out (grown_store W4 g 8 _) (by have := HG.out; omega) HB4.out.size
      have HGL : Hid (g < (W4.setCell ⟨g, 8, none⟩ (.int .i64 (-1))).heap.size) := hb5.lt
      clear hb4 c8 f8
      generalize W4.setCell ⟨g, 8, none⟩ (.int .i64 (-1)) = W5 at hb5 HB5 HGL ⊢
      have HQI : Hid (QrIn w q) := HQ.out.qrIn HSQ2.out
      have HA := Lib.hid (answer_any W5 { q with lim := -1 } A c L ((HQI.out.limit (by unfold Ev.inB; omega)).below HB5.out) (HRW.out.below HB5.out) hlc hcm HNIL.out)
      go_wp2_with (refine wpList_load_qr (b := { q with lim := -1 }) rfl (.tmp 3) rfl g rfl hb5 ?_)
      refine (show Calls _ _ _ _ _ from HA.out).mono ?_
      rintro e W6 ⟨A6, c6, R6, rfl, hR6, hv6, hB⟩
      have HB6 := Lib.hid (HB5.out.then hB)
      have hb6 := hb5.below hB
      have HR6 := Lib.hid hR6
      have HV6 : Hid (R6.map Rw.l = (Ev.groupsV q.grouped q.group q.order L).map (Ev.rowV q.items)) := by
        show _ = _
        rw [hv6]
        unfold Ev.answerV
        rw [Ev.limit_none]
      clear hB hb5 hR6 hv6 HA
      obtain ⟨-, -, -, -, c8⟩ := Blk.qr hb6
      have f8 := hb6.free 8
      go_upto_region 6 with fail
      obtain ⟨m, hm, hm70⟩ : ∃ m : Nat, wrap64 ((IntKind.u64.wrap n).tmod 70) = (m : Int) ∧ m < 70 := by
        have e1 : IntKind.u64.wrap n = n % 18446744073709551616 := rfl
        obtain ⟨u, hu⟩ : ∃ u : Nat, n % 18446744073709551616 = (u : Int) := ⟨(n % 18446744073709551616).toNat, by omega⟩
        refine ⟨u % 70, ?_, Nat.mod_lt _ (by decide)⟩
        rw [e1, hu, Int.tmod_eq_emod_of_nonneg (by omega)]
        unfold wrap64
        omega
      have HRT := Lib.hid (show wrap64 ((IntKind.u64.wrap n).tmod 70) = (m : Int) from hm)
      rw [hm]
      clear hm
      have hb7 : Blk (W6.setCell ⟨g, 8, none⟩ (.int .i64 (m : Int))) g 40 (Qr.cells { q with lim := (m : Int) }) := hb6.set 8 _
      have hg7 := grown_store W6 g 8 (.int .i64 (m : Int))
      have HB7 : Hid (Below w.heap.size w (W6.setCell ⟨g, 8, none⟩ (.int .i64 (m : Int)))) := below_of_grown HB6.out hg7 (by have := HG.out; omega) HB6.out.size
      have HR7 : Hid (RowsCl (W6.setCell ⟨g, 8, none⟩ (.int .i64 (m : Int))) A6 R6) := by
        have hgl : (Ev.groupsV q.grouped q.group q.order L).length ≤ 1000000 := by
          unfold Ev.groupsV
          rw [Srt.ssort_length]
          have := Ev.baseG_len q.grouped q.group L
          have := HRW.out.len
          omega
        have h := HR6.out.cl HV6.out HQI.out.il hgl
        have hg5 := HGL.out
        refine ⟨fun hl => h.r.keep hg7.size (fun a ha hlt => hg7.block _ hlt ?_) hl, fun x hx hl => (h.rr x hx).keep hg7.size (fun a ha hlt => hg7.block _ hlt ?_) hl, h.ok, h.cl, h.len, h.lens⟩
        · have := (HR6.out.own.block a ha).1
          simp
          omega
        · have := va_row_ne (h.rr x hx) (List.length_pos_iff.1 hl) hb6 a ha
          simpa using this
      clear hb6 c8 f8 hg7
      generalize W6.setCell ⟨g, 8, none⟩ (.int .i64 (m : Int)) = W7 at hb7 HB7 HR7 ⊢
      have HA := Lib.hid (answer_any W7 { q with lim := (m : Int) } A c L ((HQI.out.limit (by unfold Ev.inB; omega)).below HB7.out) (HRW.out.below HB7.out) hlc hcm HNIL.out)
      go_wp2_with (refine wpList_load_qr (b := { q with lim := (m : Int) }) rfl (.tmp 3) rfl g rfl hb7 ?_)
      refine (show Calls _ _ _ _ _ from HA.out).mono ?_
      rintro e W8 ⟨A8, c8, R8, rfl, hR8, hv8, hB⟩
      have HB8 := Lib.hid (HB7.out.then hB)
      have hb8 := hb7.below hB
      have HR78 := Lib.hid (HR7.out.below hB)
      have hv8' : R8.map Rw.l = ((Ev.groupsV q.grouped q.group q.order L).take m).map (Ev.rowV q.items) := by
        rw [hv8]
        unfold Ev.answerV
        rw [Ev.limit_take]
      have HR8 : Hid (RowsCl W8 A8 R8) := hR8.cl hv8' HQI.out.il (by
        rw [List.length_take]
        omega)
      have HEQ : Hid (EqRows R8 (R6.take m)) := eqRows_of (by rw [hv8', List.map_take, List.map_take, HV6.out])
      have HC6 : Hid (R6.length ≤ c6) := HR6.out.own.cap
      clear hB hb7 hR8 hv8 hv8' HA
      obtain ⟨-, -, -, -, c8'⟩ := Blk.qr hb8
      have hl8 : R8.length = (R6.take m).length := HEQ.out.1
      rw [List.length_take] at hl8
      obtain ⟨k, hk⟩ : ∃ k, R8.length = k := ⟨_, rfl⟩
      have hlt : (R6.take m).length = k := by rw [List.length_take]; omega
      have HX := Lib.hid (exact14_any W8 A8 A6 c8 c6 R8 (R6.take m) HR8.out (HR78.out.take m) HEQ.out)
      rw [hk, hlt] at HX
      rw [hk]
      have hl6 := HR7.out.len
      have hkc : (k : Int) ≤ (c6 : Int) := by have := HC6.out; omega
      have HLT := Lib.hid hlt
      by_cases hmr : m < R6.length
      · obtain rfl : k = m := by omega
        have hmi : (k : Int) < (R6.length : Int) := by omega
        clear hlt hk hl8
        go_wp2_with fail
        all_goals
          refine (show Calls _ _ _ _ _ from HX.out).mono ?_
          rintro e W9 ⟨rfl, hB⟩
          have HB9 := Lib.hid (HB8.out.then hB)
          clear hB c8'
          go_wp2_with fail
          go_ret
          exact ⟨rfl, HB9.out⟩
      · have hkr : k = R6.length := by omega
        have HKR := Lib.hid hkr
        have hmi : (R6.length : Int) ≤ (m : Int) := by omega
        rw [← hkr] at hmi ⊢
        clear hlt hk hl8 hkr
        go_wp2_with fail
        all_goals
          refine (show Calls _ _ _ _ _ from HX.out).mono ?_
          rintro e W9 ⟨rfl, hB⟩
          have HB9 := Lib.hid (HB8.out.then hB)
          clear hB c8'
          go_wp2_with fail
          go_ret
          exact ⟨rfl, HB9.out⟩
end Go.Proofs.Ytknfnhmkiooifaa
end

