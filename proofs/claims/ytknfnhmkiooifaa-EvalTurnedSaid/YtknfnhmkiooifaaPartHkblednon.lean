/-
  Texts of a proof, one behind the other (each with its own head).
-/
import Derived.Test.YtknfnhmkiooifaaPartGgclmgepm
section
/-
  A query that comes in; the contracts of the laws' query and exact.
-/
namespace Go.Proofs.Ytknfnhmkiooifaa
set_option linter.unusedSimpArgs false
set_option linter.unusedVariables false
open Go.RowKit Go.Deep Go.WideShapes Go.ChangeShapes

/-- A query as it comes in: of any size. -/
structure QrRaw (w : World) (q : Qr) : Prop where
  wh : ERow eNd w q.wa q.where_
  whin : ∀ n ∈ q.where_, NodeIn w n
  whl : q.where_.length ≤ q.wc
  whm : q.wc ≤ maxLen
  g : ERow eInt w q.ga q.group
  gin : ∀ n ∈ q.group, Ev.inB n
  gl : q.group.length ≤ q.gc
  gm : q.gc ≤ maxLen
  i : ERow eNd w q.ia q.items
  iin : ∀ n ∈ q.items, NodeIn w n
  il : q.items.length ≤ q.ic
  im : q.ic ≤ maxLen
  o : ERow eSo w q.oa q.order
  oin : ∀ s ∈ q.order, Ev.inB s.at_
  ol : q.order.length ≤ q.oc
  om : q.oc ≤ maxLen
  lim : Ev.inB q.lim
theorem QrRaw.below {w W : World} {q : Qr} (h : QrRaw w q) (hB : Below w.heap.size w W) : QrRaw W q :=
  ⟨h.wh.below hB, fun n hn => node_below (h.whin n hn) hB, h.whl, h.whm, h.g.below hB, h.gin, h.gl, h.gm, h.i.below hB, fun n hn => node_below (h.iin n hn) hB, h.il, h.im, h.o.below hB, h.oin, h.ol, h.om, h.lim⟩
/-- A query small enough to be tried. -/
def SmallQ (q : Qr) : Prop := q.items.length ≤ 12 ∧ q.where_.length ≤ 12 ∧ q.group.length ≤ 12 ∧ q.order.length ≤ 12
theorem QrRaw.qrIn {w : World} {q : Qr} (h : QrRaw w q) (hs : SmallQ q) : QrIn w q :=
  ⟨h.g, h.gin, by have := hs.2.2.1; omega, h.i, h.iin, by have := hs.1; omega, h.o, h.oin, by have := hs.2.2.2; omega, h.lim⟩
def QueryW (w : World) (v : Value) : Prop := ∃ q : Qr, v = q.v ∧ QrRaw w q
section
variable {H : Type} {enc : TypeId × Value → H} {w : World} {base : Nat} {spare : Nat → Bool} {held : Bool} {fuel : Nat} {cs : List Value} {x : DataW H × List MemPlace}
set_option maxRecDepth 20000 in
theorem open_query (h : DataW.trod enc Try.prog w base spare held fuel 40 cs = some x) (hlen : cs.length = 9) : ∃ q : Qr, cs = q.cells ∧ QrRaw w q := by
  obtain ⟨xs, k, hk, rfl, _, hxl, hfs⟩ := DataW.trod_struct Try.underlying40 h
  match xs, hxl, cs, hlen with
  | [y0, y1, y2, y3, y4, y5, y6, y7, y8], _, [v0, v1, v2, v3, v4, v5, v6, v7, v8], _ =>
    have g0 := hfs 0 _ rfl
    have g1 := hfs 1 _ rfl
    have g2 := hfs 2 _ rfl
    have g3 := hfs 3 _ rfl
    have g4 := hfs 4 _ rfl
    have g5 := hfs 5 _ rfl
    have g6 := hfs 6 _ rfl
    have g7 := hfs 7 _ rfl
    have g8 := hfs 8 _ rfl
    have q0 : Try.prog.cellsOf 3 = 1 := by kernel_rfl
    have q1 : Try.prog.cellsOf 29 = 1 := by kernel_rfl
    have q2 : Try.prog.cellsOf 22 = 1 := by kernel_rfl
    have q3 : Try.prog.cellsOf 4 = 1 := by kernel_rfl
    have q4 : Try.prog.cellsOf 33 = 1 := by kernel_rfl
    simp [q0, q1, q2, q3, q4] at g0 g1 g2 g3 g4 g5 g6 g7 g8
    obtain ⟨n2, e2, b2⟩ := open_i64 Try.underlying3 g2
    obtain ⟨wa, wh, wc, e3, r3, i3, l3, m3⟩ := open_nodes g3
    obtain ⟨ga, gr, gc, e4, r4, i4, l4, m4⟩ := open_intlist g4
    obtain ⟨n5, e5, _⟩ := DataW.trod_bool Try.underlying4 g5
    obtain ⟨ia, it, ic, e6, r6, i6, l6, m6⟩ := open_nodes g6
    obtain ⟨oa, od, oc, e7, r7, i7, l7, m7⟩ := open_sorts g7
    obtain ⟨n8, e8, b8⟩ := open_i64 Try.underlying3 g8
    have e2' : v2 = .int .i64 n2 := by simpa using e2
    have e3' : v3 = .slice wa wh.length wc := by simpa using e3
    have e4' : v4 = .slice ga gr.length gc := by simpa using e4
    have e5' : v5 = .bool n5 := by simpa using e5
    have e6' : v6 = .slice ia it.length ic := by simpa using e6
    have e7' : v7 = .slice oa od.length oc := by simpa using e7
    have e8' : v8 = .int .i64 n8 := by simpa using e8
    subst e2' e3' e4' e5' e6' e7' e8'
    exact ⟨⟨v0, v1, n2, wa, wh, wc, ga, gr, gc, n5, ia, it, ic, oa, od, oc, n8⟩, rfl, r3, i3, l3, m3, r4, i4, l4, m4, r6, i6, l6, m6, r7, i7, l7, m7, b8⟩
end
set_option maxRecDepth 20000 in
theorem query_in {H : Type} {enc : TypeId × Value → H} {w : World} {base : Nat} {v : Value} {d : DataW H} {p : List MemPlace}
    (hv : Value.okWide Try.prog w .any base 40 v) (h : DataW.Trod enc Try.prog w 0 (fun _ => true) true 40 v d p) : QueryW w v := by
  have hag : ∃ cs : Array Value, v = .agg cs := by
    simp only [Value.okWide, Try.underlying40] at hv
    obtain ⟨cs, h1, _⟩ := hv
    exact ⟨cs, h1⟩
  obtain ⟨cs, rfl⟩ := hag
  obtain ⟨fuel, hf⟩ := h
  have h9 : Try.prog.cellsOf 40 = 9 := by kernel_rfl
  have hlen : cs.toList.length = 9 := by
    obtain ⟨xs, k, hk, -, hcl, hxl, hfs⟩ := DataW.trod_struct Try.underlying40 hf
    rw [h9] at hcl
    simpa [Value.cells] using hcl
  obtain ⟨q, e, hq⟩ := open_query hf hlen
  refine ⟨q, ?_, hq⟩
  show Value.agg cs = .agg q.cells.toArray
  rw [← e]
  rfl
set_option maxRecDepth 20000 in
set_option maxHeartbeats 4000000 in
theorem query_any (w : World) (q : Qr) (hq : QrRaw w q) : Calls Try.prog 16 #[q.v] w (RetIf w (SmallQ q)) := by
  have HQ := Lib.hid hq
  have hl1 : q.group.length ≤ 9223372036854775807 := by have := hq.gl; have := hq.gm; unfold maxLen at this; omega
  have hl2 : q.order.length ≤ 9223372036854775807 := by have := hq.ol; have := hq.om; unfold maxLen at this; omega
  clear hq
  go_enter Try.func16, Try.ntmps16
  go_upto_region 1 with (refine wpList_box_qr rfl (.tmp 0) rfl q rfl ?_; intro W1 hb1 hz1 hB1)
  have HB1 := Lib.hid hB1
  obtain ⟨c4, c5, c6, c7, c8⟩ := Blk.qr hb1
  have c3 := hb1.cell 3
  simp only [Qr.cells, List.getElem?_cons_zero, List.getElem?_cons_succ] at c3
  clear hB1 hz1
  generalize w.heap.size = g at hb1 c3 c4 c6 c7 ⊢
  go_wp2_with fail
  refine (few_any W1 _ _ _ (HQ.out.below HB1.out).i (HQ.out.below HB1.out).iin HQ.out.il HQ.out.im).mono ?_
  rintro e W2 ⟨b, rfl, hb, hB⟩
  have HB2 := Lib.hid (HB1.out.then hB)
  have hb2 := hb1.below hB
  have H1 := Lib.hid hb
  clear hB hb hb1 c3 c4 c6 c7
  obtain ⟨c4, c5, c6, c7, c8⟩ := Blk.qr hb2
  have c3 := hb2.cell 3
  simp only [Qr.cells, List.getElem?_cons_zero, List.getElem?_cons_succ] at c3
  cases b with
  | false =>
    go_wp2_with fail
    go_ret
    exact ⟨false, rfl, by simp, HB2.out⟩
  | true =>
    go_wp2_with fail
    refine (few_any W2 _ _ _ (HQ.out.below HB2.out).wh (HQ.out.below HB2.out).whin HQ.out.whl HQ.out.whm).mono ?_
    rintro e W3 ⟨b, rfl, hb, hB⟩
    have HB3 := Lib.hid (HB2.out.then hB)
    have hb3 := hb2.below hB
    have H2 := Lib.hid hb
    clear hB hb hb2 c3 c4 c5 c6 c7 c8
    obtain ⟨c4, -, -, c7, -⟩ := Blk.qr hb3
    cases b with
    | false =>
      go_wp2_with fail
      go_ret
      exact ⟨false, rfl, by simp, HB3.out⟩
    | true =>
      by_cases k1 : q.group.length ≤ 12
      · have i1 : (q.group.length : Int) ≤ 12 := by omega
        by_cases k2 : q.order.length ≤ 12
        · have i2 : (q.order.length : Int) ≤ 12 := by omega
          go_wp2_with fail
          go_ret
          exact ⟨true, rfl, fun _ => ⟨H1.out trivial, H2.out trivial, k1, k2⟩, HB3.out⟩
        · have i2 : ¬ (q.order.length : Int) ≤ 12 := by omega
          go_wp2_with fail
          go_ret
          exact ⟨false, by simp; omega, by simp, HB3.out⟩
      · have i1 : ¬ (q.group.length : Int) ≤ 12 := by omega
        go_wp2_with fail
        go_ret
        exact ⟨false, rfl, by simp, HB3.out⟩
/-- Rows that are one, field by field. -/
def EqRows (X Y : List Rw) : Prop := X.length = Y.length ∧ ∀ i (h : i < X.length) (h' : i < Y.length), X[i].l.length = Y[i].l.length ∧ ∀ k (h : k < X[i].l.length) (h' : k < Y[i].l.length), eqV X[i].l[k] Y[i].l[k]
/-- Rows of clean values that can be read. -/
structure RowsCl (w : World) (A : Option Addr) (L : List Rw) : Prop where
  r : ERow eRw w A L
  rr : ∀ x ∈ L, ERow eVa w x.a x.l
  ok : ∀ x ∈ L, ∀ v ∈ x.l, v.ok
  cl : ∀ x ∈ L, ∀ v ∈ x.l, Key.Clean v
  len : L.length ≤ 1000000
  lens : ∀ x ∈ L, x.l.length ≤ 1000000
theorem RowsCl.below {w W : World} {A : Option Addr} {L : List Rw} (h : RowsCl w A L) (hB : Below w.heap.size w W) : RowsCl W A L := ⟨h.r.below hB, fun x hx => (h.rr x hx).below hB, h.ok, h.cl, h.len, h.lens⟩
set_option maxRecDepth 20000 in
set_option maxHeartbeats 8000000 in
theorem exact14_any (w : World) (A B : Option Addr) (c d : Nat) (X Y : List Rw) (hx : RowsCl w A X) (hy : RowsCl w B Y) (h : EqRows X Y) :
    Calls Try.prog 17 #[.slice A X.length c, .slice B Y.length d] w fun e w' => e = .returned (.bool true) ∧ Below w.heap.size w w' := by
  have HX := Lib.hid hx
  have HY := Lib.hid hy
  have HE := Lib.hid h.2
  have HL := Lib.hid h.1
  have hyl := hy.len
  rw [h.1]
  clear hx hy h
  go_enter Try.func17, Try.ntmps17
  go_wp2_with fail
  go_loopw [14] (fun iv wr => ∃ i : Nat, i ≤ Y.length ∧ iv = .int .i64 (i : Int) ∧ Hid (Below w.heap.size w wr)) (fun iv _ => Y.length - (intOf iv).toNat)
  case atStart => exact ⟨0, Nat.zero_le _, by go_num, Below.refl _ _⟩
  case round =>
    obtain ⟨i, hi, rfl, HJ⟩ := hrel
    by_cases hlt : i < Y.length
    · have hii : (i : Int) < (Y.length : Int) := by omega
      have hltx : i < X.length := by rw [HL.out]; exact hlt
      obtain ⟨ba, oa, rfl, -, -⟩ := rw_at (HX.out.below HJ.out).r hltx
      obtain ⟨bb, ob, rfl, -, -⟩ := rw_at (HY.out.below HJ.out).r hlt
      obtain ⟨x, hx⟩ : ∃ x, X[i] = x := ⟨_, rfl⟩
      obtain ⟨y, hy⟩ : ∃ y, Y[i] = y := ⟨_, rfl⟩
      have HXM : Hid (x ∈ X) := by show x ∈ X; rw [← hx]; exact List.getElem_mem hltx
      have HYM : Hid (y ∈ Y) := by show y ∈ Y; rw [← hy]; exact List.getElem_mem hlt
      have HXY : Hid (x.l.length = y.l.length ∧ ∀ k (h : k < x.l.length) (h' : k < y.l.length), eqV x.l[k] y.l[k]) := by subst hx hy; exact HE.out i hltx hlt
      have HCX : Hid (∀ W, Below w.heap.size w W → W.cell? ⟨ba, oa + i, none⟩ = some (.slice x.a y.l.length x.c)) := fun W hW => by
        obtain ⟨b', o', e', -, h1⟩ := rw_at (HX.out.below hW).r hltx
        cases e'
        rw [h1, hx, ← HXY.out.1]
        rfl
      have HCY : Hid (∀ W, Below w.heap.size w W → W.cell? ⟨bb, ob + i, none⟩ = some (.slice y.a y.l.length y.c)) := fun W hW => by
        obtain ⟨b', o', e', -, h1⟩ := rw_at (HY.out.below hW).r hlt
        cases e'
        rw [h1, hy]
        rfl
      have hyll := HY.out.lens y HYM.out
      clear hx hy
      have q0 := HCX.out _ HJ.out.drewR
      have q1 := HCY.out _ HJ.out.drewR
      go_upto_region 6 with fail
      refine wp_region_plan (.take 0 (.take 1 (.take 2 (.take 3 (.take 4 (.take 5 (.take 6 (.take 7 (.take 8 (.take 9 (.take 10 .fin))))))))))) (by kernel_rfl) (by kernel_rfl) (by kernel_rfl) (by kernel_rfl) ?_
      repeat' (first | (refine hZ _ _ ?_; clear hZ) | (refine hZ _ ?_; clear hZ) | (refine hZ ?_; clear hZ) | rw [again_nil] | rw [walk_fin] | ((first | rw [walk_take] | rw [walk_run] | rw [again_cons]); intro Z hZ; simp only [sel, List.getElem?_toArray, List.getElem?_cons_zero, List.getElem?_cons_succ]; go_wp2_with (fail)))
      have p0 := HCX.out _ HJ.out
      clear q1
      go_wp2_with fail
      clear p0 q0
      go_loopw [33] (fun kv wq => ∃ k : Nat, k ≤ y.l.length ∧ kv = .int .i64 (k : Int) ∧ Hid (Below w.heap.size w wq)) (fun kv _ => y.l.length - (intOf kv).toNat)
      case atStart => exact ⟨0, Nat.zero_le _, by go_num, HJ.out.drewR⟩
      case round =>
        obtain ⟨k, hk, rfl, HK⟩ := hrel
        by_cases hkl : k < y.l.length
        · have hki : (k : Int) < (y.l.length : Int) := by omega
          have hkx : k < x.l.length := by rw [HXY.out.1]; exact hkl
          have HXR : Hid (ERow eVa wr.drew x.a x.l) := (HX.out.rr x HXM.out).below HK.out.drewR
          have HYR : Hid (ERow eVa wr.drew y.a y.l) := (HY.out.rr y HYM.out).below HK.out.drewR
          obtain ⟨xb, xo, hxa, -, -⟩ := HXR.out.at_ hkx
          obtain ⟨yb, yo, hya, -, -⟩ := HYR.out.at_ hkl
          have q0 := HCX.out _ HK.out.drewR
          have q1 := HCY.out _ HK.out.drewR
          rw [hxa] at q0 HXR
          rw [hya] at q1 HYR
          have HV : Hid (eqV x.l[k] y.l[k]) := HXY.out.2 k hkx hkl
          have HO : Hid (x.l[k].ok ∧ y.l[k].ok ∧ Key.Clean x.l[k] ∧ Key.Clean y.l[k]) := ⟨HX.out.ok x HXM.out _ (List.getElem_mem hkx), HY.out.ok y HYM.out _ (List.getElem_mem hkl), HX.out.cl x HXM.out _ (List.getElem_mem hkx), HY.out.cl y HYM.out _ (List.getElem_mem hkl)⟩
          clear hxa hya
          go_upto_region 11 with fail
          refine wp_region_plan (.take 0 (.take 1 (.take 2 (.take 3 (.take 4 (.take 5 (.take 6 (.take 7 (.take 8 (.take 9 (.take 10 (.take 11 (.take 12 (.take 13 (.run 14 [] (.take 15 .fin)))))))))))))))) (by kernel_rfl) (by kernel_rfl) (by kernel_rfl) (by kernel_rfl) ?_
          repeat' (first | (refine hZ _ _ ?_; clear hZ) | (refine hZ _ ?_; clear hZ) | (refine hZ ?_; clear hZ) | rw [again_nil] | rw [walk_fin] | ((first | rw [walk_take] | rw [walk_run] | rw [again_cons]); intro Z hZ; simp only [sel, List.getElem?_toArray, List.getElem?_cons_zero, List.getElem?_cons_succ]; go_wp2_with (first | (refine wpList_load_va_at rfl (.tmp 41) rfl HXR.out hkx rfl ?_) | (refine wpList_load_va_at rfl (.tmp 48) rfl HYR.out hkl rfl ?_))))
          refine (vexact_any _ x.l[k] y.l[k] HO.out.1 HO.out.2.1 HO.out.2.2.1 HO.out.2.2.2).mono ?_
          rintro e W4 ⟨rfl, hb4⟩
          rw [decide_eq_true HV.out]
          have HB4 := Lib.hid (HK.out.drewR.trans (hb4.mono HK.out.size))
          clear hb4 q0 q1
          go_wp2_with fail
          repeat' (first | (refine hZ _ _ ?_; clear hZ) | (refine hZ _ ?_; clear hZ) | (refine hZ ?_; clear hZ) | rw [again_nil] | rw [walk_fin] | ((first | rw [walk_take] | rw [walk_run] | rw [again_cons]); intro Z hZ; simp only [sel, List.getElem?_toArray, List.getElem?_cons_zero, List.getElem?_cons_succ]; go_wp2_with (fail)))
          go_wp2_with fail
          go_roundw
          case rel => exact ⟨k + 1, by omega, by go_num, HB4.out⟩
          case measure => simp [intOf]; omega
        · have hki : ¬ (k : Int) < (y.l.length : Int) := by omega
          go_wp2_with fail
          go_roundw
          case rel => exact ⟨i + 1, by omega, by go_num, HK.out⟩
          case measure => simp [intOf]; omega
    · have hii : ¬ (i : Int) < (Y.length : Int) := by omega
      go_wp2_with fail
      go_ret
      exact ⟨rfl, HJ.out⟩
end Go.Proofs.Ytknfnhmkiooifaa
end

section
/-
  The walk of EvalLimits: with a limit the first rows of the answer without one are answered.
-/
namespace Go.Proofs.Ytknfnhmkiooifaa
set_option linter.unusedSimpArgs false
set_option linter.unusedVariables false
open Go.RowKit

namespace Ev
theorem clean_sum (vs : List Va) : Key.clean (sumV vs) = sumV vs := by
  unfold sumV
  split
  · rfl
  · exact clean_intV _
theorem clean_fold (n : Nd) (L : List Rw) : Key.clean (foldV n L) = foldV n L := by
  unfold foldV
  split
  · rfl
  · split
    · exact clean_sum _
    · refine bestV_clean _ _ fun v hv => ?_
      obtain ⟨y, -, rfl⟩ := List.mem_map.1 hv
      exact clean_argV _ _
theorem clean_item (n : Nd) (g : List Rw) : Key.clean (itemV n g) = itemV n g := by
  unfold itemV
  split
  · exact clean_fold _ _
  · exact clean_eval _ _
theorem limit_take {α : Type} (m : Nat) (l : List α) : limit (m : Int) l = l.take m := by
  unfold limit
  by_cases h : m < l.length
  · rw [if_pos ⟨by omega, by omega⟩]; simp
  · rw [if_neg (by omega), List.take_of_length_le (by omega)]
theorem limit_none {α : Type} (l : List α) : limit (-1) l = l := by unfold limit; rw [if_neg (by omega)]
end Ev
/-- What is answered are clean values. -/
theorem RLoop.cl {B : Nat} {W : World} {A : Option Addr} {c : Nat} {R : List Rw} (h : RLoop B W A c R) {items : List Nd} {G : List (List Rw)} (hR : R.map Rw.l = G.map (Ev.rowV items)) (hi : items.length ≤ 1000000) (hG : G.length ≤ 1000000) : RowsCl W A R := by
  have hm : ∀ x ∈ R, ∃ g, x.l = Ev.rowV items g := fun x hx => by
    have : x.l ∈ G.map (Ev.rowV items) := by rw [← hR]; exact List.mem_map.2 ⟨x, hx, rfl⟩
    obtain ⟨g, -, e⟩ := List.mem_map.1 this
    exact ⟨g, e.symm⟩
  refine ⟨h.own.row, h.rows, h.ok, fun x hx v hv => ?_, ?_, fun x hx => ?_⟩
  · obtain ⟨g, e⟩ := hm x hx
    rw [e] at hv
    obtain ⟨n, -, rfl⟩ := List.mem_map.1 hv
    rw [← Ev.clean_item]
    exact Ev.clean_is _
  · have := congrArg List.length hR
    rw [List.length_map, List.length_map] at this
    omega
  · obtain ⟨g, e⟩ := hm x hx
    rw [e]
    unfold Ev.rowV
    rw [List.length_map]
    exact hi
theorem RowsCl.take {w : World} {A : Option Addr} {L : List Rw} (h : RowsCl w A L) (k : Nat) : RowsCl w A (L.take k) :=
  ⟨h.r.take k, fun x hx => h.rr x (List.mem_of_mem_take hx), fun x hx => h.ok x (List.mem_of_mem_take hx), fun x hx => h.cl x (List.mem_of_mem_take hx), by rw [List.length_take]; have := h.len; omega, fun x hx => h.lens x (List.mem_of_mem_take hx)⟩
theorem eqV_refl (x : Va) : eqV x x := ⟨rfl, rfl, rfl, Iff.rfl, .inr rfl⟩
theorem eqRows_of {X Y : List Rw} (h : X.map Rw.l = Y.map Rw.l) : EqRows X Y := by
  have hl : X.length = Y.length := by simpa using congrArg List.length h
  refine ⟨hl, fun i h1 h2 => ?_⟩
  have e : X[i].l = Y[i].l := by
    have e1 : (X.map Rw.l)[i]? = (Y.map Rw.l)[i]? := by rw [h]
    simpa [h1, h2] using e1
  exact ⟨by rw [e], fun k h3 h4 => by simp only [e]; exact eqV_refl _⟩
theorem Blk.c9 {w : World} {g : Nat} {t : TypeId} {a b c d e f i j k : Value} (h : Blk w g t [a, b, c, d, e, f, i, j, k]) :
    w.cell? ⟨g, 0, none⟩ = some a ∧ w.cell? ⟨g, 1, none⟩ = some b ∧ w.cell? ⟨g, 2, none⟩ = some c ∧ w.cell? ⟨g, 3, none⟩ = some d ∧ w.cell? ⟨g, 4, none⟩ = some e ∧ w.cell? ⟨g, 5, none⟩ = some f ∧ w.cell? ⟨g, 6, none⟩ = some i ∧ w.cell? ⟨g, 7, none⟩ = some j ∧ w.cell? ⟨g, 8, none⟩ = some k :=
  ⟨h.cell 0, h.cell 1, h.cell 2, h.cell 3, h.cell 4, h.cell 5, h.cell 6, h.cell 7, h.cell 8⟩
/-- Values do not lie where a query does. -/
theorem va_row_ne {W : World} {R : Option Addr} {l : List Va} {g : Nat} {T : TypeId} {q : Qr} (h : ERow eVa W R l) (hl : l ≠ []) (hb : Blk W g T q.cells) : ∀ a, R = some a → a.block ≠ g := by
  intro a ha e
  obtain ⟨b, o, e1, -, hc⟩ := h.at_ (List.length_pos_iff.2 hl)
  rw [ha] at e1
  cases e1
  have e : b = g := e
  subst e
  have h1 := hc 2 _ rfl
  rw [hb.cell] at h1
  have h2 : o + (0 * eVa.sz + 2) = o + 2 := rfl
  rw [h2] at h1
  match o, h1 with
  | 0, h1 => cases h1
  | 1, h1 => cases h1
  | 2, h1 => cases h1
  | 3, h1 => cases h1
  | 4, h1 => cases h1
  | 5, h1 => cases h1
  | 6, h1 => cases h1
  | o + 7, h1 => simp [Qr.cells] at h1
theorem QrIn.limit {w : World} {q : Qr} (h : QrIn w q) {m : Int} (hm : Ev.inB m) : QrIn w { q with lim := m } := ⟨h.g, h.gin, h.gl, h.i, h.iin, h.il, h.o, h.oin, h.ol, hm⟩
set_option maxRecDepth 20000 in
set_option maxHeartbeats 8000000 in
theorem evalLimits_walk (w : World) (v0 : Value) (h0 : QueryW w v0) (v1 : Value) (h1 : RowsW w v1) (n : Int) (wf : (Lit.int .i64 n).wf = true) :
    Calls Try.prog 7 #[v0, v1, .int .i64 n] w fun e w' => e = .returned (.bool true) ∧ Below w.heap.size w w' := by
  obtain ⟨q, rfl, hq⟩ := h0
  obtain ⟨A, c, L, rfl, hl, hin, hlc, hcm⟩ := h1
  have HQ := Lib.hid hq
  have HL := Lib.hid hl
  have HIN := Lib.hid hin
  clear hq hl hin wf
  go_enter Try.func7, Try.ntmps7
  go_upto_region 1 with (refine wpList_box_qr rfl (.tmp 0) rfl q rfl ?_; intro W1 hb1 hz1 hB1)
  have HB1 := Lib.hid hB1
  clear hB1 hz1
  generalize hg : w.heap.size = g at hb1 ⊢
  have HG := Lib.hid hg
  clear hg
  go_wp2_with fail
  refine (elives_any W1).mono ?_
  rintro e W2 ⟨rfl, hB⟩
  have HB2 := Lib.hid (HB1.out.then hB)
  have hb2 := hb1.below hB
  obtain ⟨c0, c1, c2, c3, c4, c5, c6, c7, c8⟩ := Blk.c9 (show Blk _ _ _ [_, _, _, _, _, _, _, _, _] from hb2)
  clear hB hb1
  go_wp2_with fail
  clear c0 c1 c2 c3 c4 c5 c6 c7 c8
  refine (show Calls _ _ #[q.v] _ _ from query_any W2 q (HQ.out.below HB2.out)).mono ?_
  rintro e W3 ⟨b, rfl, hsq, hB⟩
  have HB3 := Lib.hid (HB2.out.then hB)
  have hb3 := hb2.below hB
  have HSQ := Lib.hid hsq
  clear hB hb2 hsq
  cases b with
  | false =>
    go_wp2_with fail
    refine (elives_any W3).mono ?_
    rintro e W4 ⟨rfl, hB⟩
    have HB4 := Lib.hid (HB3.out.then hB)
    clear hB
    go_wp2_with fail
    go_ret
    exact ⟨rfl, HB4.out⟩
  | true =>
    go_wp2_with fail
    refine (small_any W3 A c L (HL.out.below HB3.out) (fun r hr => (HIN.out r hr).below HB3.out) hlc hcm).mono ?_
    rintro e W4 ⟨b, rfl, hsm, hB⟩
    have HB4 := Lib.hid (HB3.out.then hB)
    have hb4 := hb3.below hB
    have HSM := Lib.hid hsm
    clear hB hb3 hsm
    cases b with
    | false =>
      go_wp2_with fail
      refine (elives_any W4).mono ?_
      rintro e W5 ⟨rfl, hB⟩
      have HB5 := Lib.hid (HB4.out.then hB)
      clear hB
      go_wp2_with fail
      go_ret
      exact ⟨rfl, HB5.out⟩
    | true =>
      have HSQ2 : Hid (SmallQ q) := HSQ.out trivial
      have HSM2 : Hid (SmallR L) := HSM.out rfl
      have HRW : Hid (RowsOk w A L) := ⟨HL.out, fun x hx => (HIN.out x hx).rok, by have := HSM2.out.1; omega⟩
      have HNIL : Hid (A = none → L = []) := fun h => by
        cases L with
        | nil => rfl
        | cons x L => obtain ⟨b, o, e, _⟩ := HL.out (by simp); rw [h] at e; cases e
      obtain ⟨-, -, -, -, c8⟩ := Blk.qr hb4
      have f8 := hb4.free 8
      go_upto_region 4 with fail
      have hb5 : Blk (W4.setCell ⟨g, 8, none⟩ (.int .i64 (-1))) g 40 (Qr.cells { q with lim := -1 }) := hb4.set 8 _
      have HB5 : Hid (Below w.heap.size w (W4.setCell ⟨g, 8, none⟩ (.int .i64 (-1)))) := below_of_grown HB4.out (grown_store W4 g 8 _) (by have := HG.out; omega) HB4.out.size
      have HGL : Hid (g < (W4.setCell ⟨g, 8, none⟩ (.int .i64 (-1))).heap.size) := hb5.lt
      clear hb4 c8 f8
      generalize W4.setCell ⟨g, 8, none⟩ (.int .i64 (-1)) = W5 at hb5 HB5 HGL ⊢
      have HQI : Hid (QrIn w q) := HQ.out.qrIn HSQ2.out
      have HA := Lib.hid (answer_any W5 { q with lim := -1 } A c L ((HQI.out.limit (by unfold Ev.inB; omega)).below HB5.out) (HRW.out.below HB5.out) hlc hcm HNIL.out)
      go_wp2_with (refine wpList_load_qr (b := { q with lim := -1 }) rfl (.tmp 3) rfl g rfl hb5 ?_)
      refine (show Calls _ _ _ _ _ from HA.out).mono ?_
      rintro e W6 ⟨A6, c6, R6, rfl, hR6, hv6, hB⟩
      have HB6 := Lib.hid (HB5.out.then hB)
      have hb6 := hb5.below hB
      have HR6 := Lib.hid hR6
      have HV6 : Hid (R6.map Rw.l = (Ev.groupsV q.grouped q.group q.order L).map (Ev.rowV q.items)) := by
        show _ = _
        rw [hv6]
        unfold Ev.answerV
        rw [Ev.limit_none]
      clear hB hb5 hR6 hv6 HA
      obtain ⟨-, -, -, -, c8⟩ := Blk.qr hb6
      have f8 := hb6.free 8
      go_upto_region 6 with fail
      obtain ⟨m, hm, hm70⟩ : ∃ m : Nat, wrap64 ((IntKind.u64.wrap n).tmod 70) = (m : Int) ∧ m < 70 := by
        have e1 : IntKind.u64.wrap n = n % 18446744073709551616 := rfl
        obtain ⟨u, hu⟩ : ∃ u : Nat, n % 18446744073709551616 = (u : Int) := ⟨(n % 18446744073709551616).toNat, by omega⟩
        refine ⟨u % 70, ?_, Nat.mod_lt _ (by decide)⟩
        rw [e1, hu, Int.tmod_eq_emod_of_nonneg (by omega)]
        unfold wrap64
        omega
      have HRT := Lib.hid (show wrap64 ((IntKind.u64.wrap n).tmod 70) = (m : Int) from hm)
      rw [hm]
      clear hm
      have hb7 : Blk (W6.setCell ⟨g, 8, none⟩ (.int .i64 (m : Int))) g 40 (Qr.cells { q with lim := (m : Int) }) := hb6.set 8 _
      have hg7 := grown_store W6 g 8 (.int .i64 (m : Int))
      have HB7 : Hid (Below w.heap.size w (W6.setCell ⟨g, 8, none⟩ (.int .i64 (m : Int)))) := below_of_grown HB6.out hg7 (by have := HG.out; omega) HB6.out.size
      have HR7 : Hid (RowsCl (W6.setCell ⟨g, 8, none⟩ (.int .i64 (m : Int))) A6 R6) := by
        have hgl : (Ev.groupsV q.grouped q.group q.order L).length ≤ 1000000 := by
          unfold Ev.groupsV
          rw [Srt.ssort_length]
          have := Ev.baseG_len q.grouped q.group L
          have := HRW.out.len
          omega
        have h := HR6.out.cl HV6.out HQI.out.il hgl
        have hg5 := HGL.out
        refine ⟨fun hl => h.r.keep hg7.size (fun a ha hlt => hg7.block _ hlt ?_) hl, fun x hx hl => (h.rr x hx).keep hg7.size (fun a ha hlt => hg7.block _ hlt ?_) hl, h.ok, h.cl, h.len, h.lens⟩
        · have := (HR6.out.own.block a ha).1
          simp
          omega
        · have := va_row_ne (h.rr x hx) (List.length_pos_iff.1 hl) hb6 a ha
          simpa using this
      clear hb6 c8 f8 hg7
      generalize W6.setCell ⟨g, 8, none⟩ (.int .i64 (m : Int)) = W7 at hb7 HB7 HR7 ⊢
      have HA := Lib.hid (answer_any W7 { q with lim := (m : Int) } A c L ((HQI.out.limit (by unfold Ev.inB; omega)).below HB7.out) (HRW.out.below HB7.out) hlc hcm HNIL.out)
      go_wp2_with (refine wpList_load_qr (b := { q with lim := (m : Int) }) rfl (.tmp 3) rfl g rfl hb7 ?_)
      refine (show Calls _ _ _ _ _ from HA.out).mono ?_
      rintro e W8 ⟨A8, c8, R8, rfl, hR8, hv8, hB⟩
      have HB8 := Lib.hid (HB7.out.then hB)
      have hb8 := hb7.below hB
      have HR78 := Lib.hid (HR7.out.below hB)
      have hv8' : R8.map Rw.l = ((Ev.groupsV q.grouped q.group q.order L).take m).map (Ev.rowV q.items) := by
        rw [hv8]
        unfold Ev.answerV
        rw [Ev.limit_take]
      have HR8 : Hid (RowsCl W8 A8 R8) := hR8.cl hv8' HQI.out.il (by
        rw [List.length_take]
        omega)
      have HEQ : Hid (EqRows R8 (R6.take m)) := eqRows_of (by rw [hv8', List.map_take, List.map_take, HV6.out])
      have HC6 : Hid (R6.length ≤ c6) := HR6.out.own.cap
      clear hB hb7 hR8 hv8 hv8' HA
      obtain ⟨-, -, -, -, c8'⟩ := Blk.qr hb8
      have hl8 : R8.length = (R6.take m).length := HEQ.out.1
      rw [List.length_take] at hl8
      obtain ⟨k, hk⟩ : ∃ k, R8.length = k := ⟨_, rfl⟩
      have hlt : (R6.take m).length = k := by rw [List.length_take]; omega
      have HX := Lib.hid (exact14_any W8 A8 A6 c8 c6 R8 (R6.take m) HR8.out (HR78.out.take m) HEQ.out)
      rw [hk, hlt] at HX
      rw [hk]
      have hl6 := HR7.out.len
      have hkc : (k : Int) ≤ (c6 : Int) := by have := HC6.out; omega
      have HLT := Lib.hid hlt
      by_cases hmr : m < R6.length
      · obtain rfl : k = m := by omega
        have hmi : (k : Int) < (R6.length : Int) := by omega
        clear hlt hk hl8
        go_wp2_with fail
        all_goals
          refine (show Calls _ _ _ _ _ from HX.out).mono ?_
          rintro e W9 ⟨rfl, hB⟩
          have HB9 := Lib.hid (HB8.out.then hB)
          clear hB c8'
          go_wp2_with fail
          go_ret
          exact ⟨rfl, HB9.out⟩
      · have hkr : k = R6.length := by omega
        have HKR := Lib.hid hkr
        have hmi : (R6.length : Int) ≤ (m : Int) := by omega
        rw [← hkr] at hmi ⊢
        clear hlt hk hl8 hkr
        go_wp2_with fail
        all_goals
          refine (show Calls _ _ _ _ _ from HX.out).mono ?_
          rintro e W9 ⟨rfl, hB⟩
          have HB9 := Lib.hid (HB8.out.then hB)
          clear hB c8'
          go_wp2_with fail
          go_ret
          exact ⟨rfl, HB9.out⟩
end Go.Proofs.Ytknfnhmkiooifaa
end

section
/-
  Counts and sums of groups, plain.
-/
namespace Go.Proofs.Ytknfnhmkiooifaa
set_option linter.unusedSimpArgs false
set_option linter.unusedVariables false

namespace Ev
theorem sum_perm {l m : List Int} (h : l.Perm m) : l.sum = m.sum := by
  induction h with
  | nil => rfl
  | cons x _ ih => simp [ih]
  | swap x y l => simp only [List.sum_cons]; omega
  | trans _ _ h1 h2 => rw [h1, h2]
/-- The sum of a column over rows. -/
def colS (c : Int) (g : List Rw) : Int := (intsOf (g.map fun r => atV r.l c)).sum
theorem intsOf_append (a b : List Va) : intsOf (a ++ b) = intsOf a ++ intsOf b := by unfold intsOf; rw [List.filter_append, List.map_append]
theorem colS_append (c : Int) (g h : List Rw) : colS c (g ++ h) = colS c g + colS c h := by unfold colS; rw [List.map_append, intsOf_append, List.sum_append]
theorem colS_perm (c : Int) {g h : List Rw} (p : g.Perm h) : colS c g = colS c h := by
  unfold colS intsOf
  exact sum_perm (((p.map _).filter _).map _)
theorem colS_flatten (c : Int) (G : List (List Rw)) : (G.map (colS c)).sum = colS c G.flatten := by
  induction G with
  | nil => rfl
  | cons g G ih => rw [List.map_cons, List.sum_cons, ih, List.flatten_cons, colS_append]
theorem argsV_fold (a : Option Addr) (c : Int) (g : List Rw) : argsV (foldN 11 a c) g = g.map fun r => atV r.l c := rfl
/-- Numbers that are small enough to be added. -/
def FitsC (c : Int) (L : List Rw) : Prop := ∀ r ∈ L, (atV r.l c).k = 1 → (atV r.l c).n ≤ 1125899906842624 ∧ -1125899906842624 ≤ (atV r.l c).n
theorem colS_bound {c : Int} : ∀ {g : List Rw}, FitsC c g → colS c g ≤ g.length * 1125899906842624 ∧ -(g.length * 1125899906842624 : Int) ≤ colS c g
  | [], _ => ⟨by show (0 : Int) ≤ 0 * 1125899906842624; decide, by show -(0 * 1125899906842624 : Int) ≤ 0; decide⟩
  | r :: g, h => by
    have ih := colS_bound (g := g) fun x hx => h x (by simp [hx])
    have e : colS c (r :: g) = colS c [r] + colS c g := colS_append c [r] g
    have e2 : colS c [r] ≤ 1125899906842624 ∧ -1125899906842624 ≤ colS c [r] := by
      unfold colS intsOf
      by_cases hk : (atV r.l c).k = 1
      · have := h r (by simp) hk
        simp [hk]
        omega
      · simp [hk]
    have e3 : (((r :: g).length : Nat) : Int) = (g.length : Int) + 1 := by simp
    rw [e, e3]
    omega
theorem sumV_n {vs : List Va} (h : -9223372036854775808 ≤ (intsOf vs).sum ∧ (intsOf vs).sum ≤ 9223372036854775807) : (sumV vs).n = (intsOf vs).sum := by
  unfold sumV
  split
  · next e => rw [e]; rfl
  · rw [fit_in h]; rfl
theorem groups_perm (group : List Int) (order : List So) (L : List Rw) : (groupsV true group order L).flatten.Perm L := by
  unfold groupsV
  refine ((Srt.ssort_perm _ _).flatten).trans ?_
  unfold baseG
  rw [if_pos rfl]
  split
  · simp
  · rw [runs_flatten]; exact Srt.ssort_perm _ _
theorem len_flatten (G : List (List Rw)) : (G.map List.length).sum = G.flatten.length := by rw [List.length_flatten]
/-- The rows of COUNT and SUM. -/
def cntRow (c : Int) (g : List Rw) : List Va := [⟨1, ((min g.length 2147483647 : Nat) : Int), 0, []⟩, sumV (g.map fun r => atV r.l c)]
theorem rowV_cnt (a : Option Addr) (c : Int) (g : List Rw) : rowV [.mk 10 [] Key.nul 0 false 0 none [] 0, foldN 11 a c] g = cntRow c g := rfl
end Ev
end Go.Proofs.Ytknfnhmkiooifaa
end

section
/-
  The contract of the document's sum: by halves.
-/
namespace Go.Proofs.Ytknfnhmkiooifaa
set_option linter.unusedSimpArgs false
set_option linter.unusedVariables false
open Go.RowKit

/-- Numbers, as int64. -/
def eI64 : Elem Int where
  e := 2
  t := 109
  sz := 1
  bytes := 8
  zero := .int .i64 0
  code := fun x => [.int .i64 x]
  pos := by decide
  few := by decide
  len := fun _ => rfl
  one := by
    intro x u hu
    simp at hu
    subst hu
    rfl
  zsz := rfl
  info := by kernel_rfl
  under := Try.underlying109
theorem i64_at {w : World} {A : Option Addr} {L : List Int} (h : ERow eI64 w A L) {j : Nat} (hj : j < L.length) : ∃ b o, A = some ⟨b, o, none⟩ ∧ b < w.heap.size ∧ w.cell? ⟨b, o + j, none⟩ = some (.int .i64 L[j]) := by
  obtain ⟨b, o, e, hb, hc⟩ := h.at_ hj
  refine ⟨b, o, e, hb, ?_⟩
  have := hc 0 _ rfl
  rwa [show o + (j * eI64.sz + 0) = o + j by show o + (j * 1 + 0) = _; omega] at this
/-- The sum, if there is one and it fits. -/
def Ev.sumI (l : List Int) : Va := if l = [] then Key.nul else Ev.intV (Ev.fit l.sum)
theorem Ev.sumI_of (vs : List Va) : Ev.sumI (Ev.intsOf vs) = Ev.sumV vs := rfl
theorem tdiv_cut (x : Int) : ∃ q r : Int, x.tdiv 4294967296 = q ∧ x.tmod 4294967296 = r ∧ x = q * 4294967296 + r ∧ -4294967296 < r ∧ r < 4294967296 := by
  have h := Int.mul_tdiv_add_tmod x 4294967296
  have h2 : (x.tmod 4294967296).natAbs < 4294967296 := by
    rw [Int.natAbs_tmod]
    exact Nat.mod_lt _ (by decide)
  exact ⟨_, _, rfl, rfl, by omega, by omega, by omega⟩
set_option maxRecDepth 20000 in
set_option maxHeartbeats 8000000 in
theorem rsum_any (w : World) (A : Option Addr) (c : Nat) (L : List Int) (hL : ERow eI64 w A L) (hin : ∀ n ∈ L, Ev.inR n) (hl : L.length ≤ 1000000) :
    Calls Try.prog 96 #[.slice A L.length c] w (RetV w (Ev.sumI L)) := by
  have HL := Lib.hid hL
  have HIN := Lib.hid hin
  obtain ⟨D, hD⟩ : ∃ D, Ev.sumI L = D := ⟨_, rfl⟩
  rw [hD]
  have HD := Lib.hid hD
  clear hL hin hD
  go_enter Try.func96, Try.ntmps96
  go_upto_region 1 with (refine wpList_alloc_va rfl rfl ?_; intro W1 hb1 hz1 hB1)
  have HB1 := Lib.hid hB1
  clear hB1 hz1
  have hgw : w.heap.size ≤ w.heap.size := Nat.le_refl _
  generalize hg : w.heap.size = g at hb1 hgw ⊢
  have HG := Lib.hid hg
  clear hg
  by_cases h0 : L = []
  · have HD2 : Hid (D = Key.nul) := by show _ = _; rw [← HD.out]; unfold Ev.sumI; rw [if_pos h0]
    subst h0
    go_wp2_with (first | (refine wpList_store_va rfl rfl (.tmp 2) (.tmp 11) rfl g rfl Key.nul rfl hb1 ?_; intro W4 hb4 hg4))
    exact ret_va hb4 rfl rfl rfl ⟨by rw [HD2.out], below_of_grown HB1.out hg4 (by have := HG.out; omega) HB1.out.size⟩
  · have hle : ((L.length : Int) == 0) = false := by simpa using h0
    have HD2 : Hid (D = Ev.intV (Ev.fit L.sum)) := by show _ = _; rw [← HD.out]; unfold Ev.sumI; rw [if_neg h0]
    go_wp2_with fail
    go_loopw [3, 4, 5] (fun v3 v4 iv wr => ∃ (hi lo : Int) (i : Nat), v3 = .int .i64 hi ∧ v4 = .int .i64 lo ∧ i ≤ L.length ∧ iv = .int .i64 (i : Int) ∧ -(i * 2147483648 : Int) ≤ hi ∧ hi ≤ i * 2147483648 ∧ 0 ≤ lo ∧ lo ≤ i * 4294967296 ∧ Hid (hi * 4294967296 + lo = (L.take i).sum) ∧ W1 = wr) (fun _ _ iv _ => L.length - (intOf iv).toNat)
    case atStart => exact ⟨0, 0, 0, by go_num, by go_num, Nat.zero_le _, by go_num, by omega, by omega, by omega, by omega, rfl, rfl⟩
    case round =>
      obtain ⟨hi, lo, i, rfl, rfl, hil, rfl, k1, k2, k3, k4, HS, rfl⟩ := hrel
      by_cases hlt : i < L.length
      · have hii : (i : Int) < (L.length : Int) := by omega
        obtain ⟨bb, oo, rfl, hbl, q0⟩ := i64_at (HL.out.below HB1.out) hlt
        have HR := HIN.out L[i] (List.getElem_mem hlt)
        have HTK : Hid (L.take (i + 1) = L.take i ++ [L[i]]) := List.take_succ_eq_append_getElem hlt
        generalize L[i] = x at q0 HR HTK
        obtain ⟨hq, r, e1, e2, e3, e4, e5⟩ := tdiv_cut x
        have E1 := Lib.hid e1
        have E2 := Lib.hid e2
        have E3 := Lib.hid e3
        have HRX := Lib.hid HR
        clear e1 e2 e3 HR
        go_wp2_with fail
        · next hneg =>
          rw [E2.out] at hneg
          rw [E1.out, E2.out]
          have e3 := E3.out
          have hx1 := HRX.out
          unfold Ev.inR at hx1
          have w1 : wrap64 hq = hq := Ev.wrap_in ⟨by omega, by omega⟩
          rw [w1]
          have w2 : wrap64 (hq - 1) = hq - 1 := Ev.wrap_in ⟨by omega, by omega⟩
          have w3 : wrap64 (r + 4294967296) = r + 4294967296 := Ev.wrap_in ⟨by omega, by omega⟩
          rw [w2, w3]
          have w4 : wrap64 (hi + (hq - 1)) = hi + (hq - 1) := Ev.wrap_in ⟨by omega, by omega⟩
          have w5 : wrap64 (lo + (r + 4294967296)) = lo + (r + 4294967296) := Ev.wrap_in ⟨by omega, by omega⟩
          rw [w4, w5]
          refine ⟨⟨_, _, i + 1, rfl, rfl, by omega, by go_num, by omega, by omega, by omega, by omega, ?_, trivial⟩, by simp [intOf]; omega⟩
          have hs := HS.out
          show _ = _
          rw [HTK.out, List.sum_append, ← hs, e3]
          simp
          omega
        · next hneg =>
          rw [E2.out] at hneg
          rw [E1.out, E2.out]
          have e3 := E3.out
          have hx1 := HRX.out
          unfold Ev.inR at hx1
          have w1 : wrap64 hq = hq := Ev.wrap_in ⟨by omega, by omega⟩
          rw [w1]
          have w4 : wrap64 (hi + hq) = hi + hq := Ev.wrap_in ⟨by omega, by omega⟩
          have w5 : wrap64 (lo + r) = lo + r := Ev.wrap_in ⟨by omega, by omega⟩
          rw [w4, w5]
          refine ⟨⟨_, _, i + 1, rfl, rfl, by omega, by go_num, by omega, by omega, by omega, by omega, ?_, trivial⟩, by simp [intOf]; omega⟩
          have hs := HS.out
          show _ = _
          rw [HTK.out, List.sum_append, ← hs, e3]
          simp
          omega
      · have hii : ¬ (i : Int) < (L.length : Int) := by omega
        obtain rfl : i = L.length := by omega
        obtain ⟨lq, hlq⟩ : ∃ lq, lo / 4294967296 = lq := ⟨_, rfl⟩
        obtain ⟨lr, hlr⟩ : ∃ lr, lo % 4294967296 = lr := ⟨_, rfl⟩
        have t1 : lo.tdiv 4294967296 = lq := by rw [Int.tdiv_eq_ediv_of_nonneg k3, hlq]
        have t2 : lo.tmod 4294967296 = lr := by rw [Int.tmod_eq_emod_of_nonneg k3, hlr]
        have b1 : 0 ≤ lq := by omega
        have b2 : lq ≤ L.length := by omega
        have b3 : 0 ≤ lr := by omega
        have b4 : lr < 4294967296 := by omega
        have HSS : Hid ((hi + lq) * 4294967296 + lr = L.sum) := by
          have := HS.out
          rw [List.take_length] at this
          show _ = _
          omega
        have hhi1 : -(1000000 * 2147483648 : Int) ≤ hi := by omega
        have hhi2 : hi ≤ 1000000 * 2147483648 := by omega
        clear hlq hlr HS k1 k2 k3 k4
        have w0 : wrap64 (hi + lq) = hi + lq := Ev.wrap_in ⟨by omega, by omega⟩
        obtain ⟨u, hu⟩ : ∃ u, hi + lq = u := ⟨_, rfl⟩
        rw [hu] at w0
        have HSU : Hid (u * 4294967296 + lr = L.sum) := by show _ = _; rw [← hu]; exact HSS.out
        have hu1 : -(1000001 * 2147483648 : Int) ≤ u := by omega
        have hu2 : u ≤ 1000001 * 2147483648 := by omega
        by_cases c1 : u < -2147483648
        · have HD3 : Hid (D = Key.nul) := by show _ = _; rw [HD2.out, ← HSU.out, Ev.fit_out (by unfold Ev.inR; omega)]; rfl
          go_wp2_with (first | (refine wpList_store_va rfl rfl (.tmp 2) (.tmp 52) rfl g rfl Key.nul rfl hb1 ?_; intro W4 hb4 hg4))
          exact ret_va hb4 rfl rfl rfl ⟨by rw [HD3.out], below_of_grown HB1.out hg4 (by have := HG.out; omega) HB1.out.size⟩
        · by_cases c2 : 2147483648 ≤ u
          · have HD3 : Hid (D = Key.nul) := by show _ = _; rw [HD2.out, ← HSU.out, Ev.fit_out (by unfold Ev.inR; omega)]; rfl
            go_wp2_with (first | (refine wpList_store_va rfl rfl (.tmp 2) (.tmp 52) rfl g rfl Key.nul rfl hb1 ?_; intro W4 hb4 hg4))
            exact ret_va hb4 rfl rfl rfl ⟨by rw [HD3.out], below_of_grown HB1.out hg4 (by have := HG.out; omega) HB1.out.size⟩
          · have HD3 : Hid (D = ⟨1, u * 4294967296 + lr, 0, []⟩) := by show _ = _; rw [HD2.out, ← HSU.out, Ev.fit_in (by unfold Ev.inR; omega)]; rfl
            go_wp2_with (first | (refine wpList_store_va rfl rfl (.tmp 2) (.tmp 57) rfl g rfl ⟨1, u * 4294967296 + lr, 0, []⟩ rfl hb1 ?_; intro W4 hb4 hg4))
            exact ret_va hb4 rfl rfl rfl ⟨by rw [HD3.out], below_of_grown HB1.out hg4 (by have := HG.out; omega) HB1.out.size⟩
end Go.Proofs.Ytknfnhmkiooifaa
end

section
/-
  The contracts of the document's First and Item.
-/
namespace Go.Proofs.Ytknfnhmkiooifaa
set_option linter.unusedSimpArgs false
set_option linter.unusedVariables false
open Go.RowKit

namespace Ev
/-- The document's best so far. -/
def bestStepD (k : Int) (b v : Va) : Va := if b.k = 0 ∨ v.k ≠ 0 ∧ (decide (Key.vord v b < 0) = decide (k = 12)) ∧ Key.vord v b ≠ 0 then v else b
def bestD (k : Int) (vs : List Va) : Va := vs.foldl (bestStepD k) Key.nul
theorem bestD_snoc (k : Int) (vs : List Va) (v : Va) : bestD k (vs ++ [v]) = bestStepD k (bestD k vs) v := by unfold bestD; rw [List.foldl_append]; rfl
theorem clean_nul0 {v : Va} (h : Key.clean v = v) (hk : v.k = 0) : v = Key.nul := by
  rw [← h]
  exact Va.clean0 (by omega) (by omega) (by omega) (by omega)
theorem bestD_eq {k : Int} (hk : k = 12 ∨ k = 13) (vs : List Va) (h : ∀ v ∈ vs, Key.clean v = v) : bestD k vs = bestV k vs := by
  induction vs using Srt.list_snoc with
  | h0 => rfl
  | h1 L z ih =>
    have ihL := ih fun v hv => h v (by simp [hv])
    have hz := h z (by simp)
    rw [bestD_snoc, bestV_snoc, ihL]
    generalize hb : bestV k L = b
    have hbc : Key.clean b = b := by rw [← hb]; exact bestV_clean k L fun v hv => h v (by simp [hv])
    unfold bestStepD bestStep
    by_cases hb0 : b.k = 0
    · by_cases hz0 : z.k = 0
      · rw [if_pos (.inl hb0), if_neg (fun h => h.1 hz0), clean_nul0 hz hz0, clean_nul0 hbc hb0]
      · rw [if_pos (.inl hb0), if_pos ⟨hz0, .inl hb0⟩]
    · have hr := Key.vord_range z b
      by_cases hz0 : z.k = 0
      · rw [if_neg (by simp [hb0, hz0]), if_neg (fun h => h.1 hz0)]
      · rcases hk with rfl | rfl
        · by_cases hc : Key.vord z b < 0
          · rw [if_pos (.inr ⟨hz0, by simp [hc], by omega⟩), if_pos ⟨hz0, .inr (.inl ⟨rfl, hc⟩)⟩]
          · rw [if_neg (by simp [hb0, hc]), if_neg (by simp [hb0, hc])]
        · by_cases hc : 0 < Key.vord z b
          · rw [if_pos (.inr ⟨hz0, by simp; omega, by omega⟩), if_pos ⟨hz0, .inr (.inr ⟨rfl, hc⟩)⟩]
          · rw [if_neg (by simp [hb0]; omega), if_neg (by simp [hb0, hc])]
theorem bestD_clean (k : Int) (vs : List Va) (h : ∀ v ∈ vs, Key.clean v = v) : Key.clean (bestD k vs) = bestD k vs := by
  induction vs using Srt.list_snoc with
  | h0 => rfl
  | h1 L z ih =>
    rw [bestD_snoc]
    unfold bestStepD
    split
    · exact h z (by simp)
    · exact ih fun v hv => h v (by simp [hv])
end Ev
set_option maxRecDepth 20000 in
set_option maxHeartbeats 1000000 in
theorem dfirst_any (w : World) (A : Option Addr) (c : Nat) (L : List Rw) (h : ERow eRw w A L) (hl : L.length ≤ 1000000) : Calls Try.prog 40 #[.slice A L.length c] w fun e w' => e = .returned (Ev.firstR L).v ∧ Below w.heap.size w w' := by
  cases L with
  | nil =>
    go_enter Try.func40, Try.ntmps40
    go_wp2_with fail
    go_ret
    exact ⟨rfl, Below.refl _ _⟩
  | cons x L =>
    obtain ⟨bb, oo, rfl, hbl, q1⟩ := rw_at h (j := 0) (by simp)
    rw [Nat.add_zero] at q1
    simp only [List.getElem_cons_zero] at q1
    have hx : (((x :: L).length : Int) == 0) = false := by simp; omega
    have hl1 : (0 : Int) < ((x :: L).length : Int) := by simp
    obtain ⟨n, hn⟩ : ∃ n, (x :: L).length = n := ⟨_, rfl⟩
    simp only [hn] at hx hl1 ⊢
    clear hn h hl
    go_enter Try.func40, Try.ntmps40
    go_wp2_with fail
    go_ret
    exact ⟨rfl, Below.refl _ _⟩
theorem node_cap {w : World} {n : Nd} (h : NodeIn w n) : n.args.length ≤ n.c ∧ n.c ≤ maxLen := by
  cases h with
  | mk h1 h2 h3 h4 h5 h6 h7 h8 => exact ⟨h7, h8⟩
/-- Where the document's Item stands behind i rows. -/
structure DItAt (w W : World) (n : Nd) (L : List Rw) (g2 g4 g6 i : Nat) (A : Option Addr) (c : Nat) : Prop where
  b2 : Blk W g2 35 n.cells
  b4 : Blk W g4 32 Key.nul.cells
  own : EOwn eI64 W (g6 + 1) A c (Ev.intsOf (Ev.argsV n (L.take i)))
  b6 : ∃ d, Ev.Dv (Ev.bestD n.k (Ev.argsV n (L.take i))) d ∧ Blk W g6 32 d.cells
  size : g6 + 1 ≤ W.heap.size
  below : Below w.heap.size w W
theorem Ev.intsOf_len (vs : List Va) : (Ev.intsOf vs).length ≤ vs.length := by unfold Ev.intsOf; rw [List.length_map]; exact List.length_filter_le _ _
theorem Ev.intsOf_in {vs : List Va} (h : ∀ v ∈ vs, v.ok) : ∀ m ∈ Ev.intsOf vs, Ev.inR m := by
  intro m hm
  unfold Ev.intsOf at hm
  obtain ⟨v, hv, rfl⟩ := List.mem_map.1 hm
  have := h v (List.mem_filter.1 hv).1
  exact ⟨this.n1, this.n2⟩
set_option maxRecDepth 100000 in
set_option maxHeartbeats 8000000 in
theorem ditem_any (w : World) (n : Nd) (A : Option Addr) (c : Nat) (L : List Rw) (hn : NodeIn w n) (hL : RowsOk w A L) :
    Calls Try.prog 78 #[n.v, .slice A L.length c] w (RetD w (Ev.itemV n L)) := by
  have HN := Lib.hid hn
  have HL := Lib.hid hL
  have hlen := hL.len
  obtain ⟨D, hD⟩ : ∃ D, Ev.itemV n L = D := ⟨_, rfl⟩
  rw [hD]
  have HD := Lib.hid hD
  clear hn hL hD
  go_enter Try.func78, Try.ntmps78
  go_upto_region 1 with (first | (refine wpList_box_nd rfl (.tmp 0) rfl n rfl ?_; intro W1 hb1 hz1 hB1) | (refine wpList_alloc_va rfl rfl ?_; intro W3 hb3 hz3 hB3))
  have h2 := hb1.below hB3
  have HB3 := Lib.hid (hB1.then hB3)
  have hg1 : w.heap.size < W1.heap.size := by omega
  clear hb1 hB1 hB3 hz1
  generalize W1.heap.size = g4 at hb3 hg1 ⊢
  generalize hg2 : w.heap.size = g2 at h2 hg1 ⊢
  have HG2 := Lib.hid hg2
  clear hg2
  obtain ⟨c0, -⟩ := Blk.c10 h2
  by_cases hk : 10 ≤ n.k ∧ n.k ≤ 13
  · have HD1 : Hid (Ev.foldV n L = D) := by show _ = _; rw [← HD.out]; unfold Ev.itemV; rw [if_pos hk]
    have k1 : ¬ n.k < 10 := by omega
    have k2 : ¬ 13 < n.k := by omega
    by_cases k10 : n.k = 10
    · have HD2 : Hid (D = ⟨1, (L.length : Int), 0, []⟩) := by
        show _ = _
        rw [← HD1.out]
        unfold Ev.foldV
        rw [if_pos k10, show min L.length 2147483647 = L.length by omega]
      rw [k10] at c0
      clear k1 k2 hk k10
      go_wp2_with (refine wpList_store_va rfl rfl (.tmp 4) (.tmp 27) rfl g4 rfl ⟨1, (L.length : Int), 0, []⟩ rfl hb3 ?_; intro W5 hb5 hg5)
      have HF : Hid (RetD w D (.returned (Va.v ⟨1, (L.length : Int), 0, []⟩)) W5) := by
        refine ⟨_, rfl, ?_, below_of_grown HB3.out hg5 (by have := HG2.out; omega) HB3.out.size⟩
        rw [HD2.out]
        exact ⟨⟨by show (-9223372036854775808 : Int) ≤ 1; decide, by show (1 : Int) ≤ 9223372036854775807; decide, by show (-9223372036854775808 : Int) ≤ (L.length : Int); omega, by show (L.length : Int) ≤ 9223372036854775807; omega, by show 0 < 18446744073709551616; decide⟩, Ev.clean_is ⟨1, (L.length : Int), 0, []⟩, rfl⟩
      exact ret_va hb5 rfl rfl rfl HF.out
    · have hk10 : (n.k == 10) = false := by simpa using k10
      have HDA : Hid (D = if n.k = 11 then Ev.sumV (Ev.argsV n L) else Ev.bestV n.k (Ev.argsV n L)) := by show _ = _; rw [← HD1.out]; unfold Ev.foldV; rw [if_neg k10]
      have HKK : Hid (n.k = 11 ∨ n.k = 12 ∨ n.k = 13) := by show _ ∨ _; omega
      go_upto_region 7 with (first | (refine wpList_alloc_va rfl rfl ?_; intro W4 h6 hz4 hB4) | (refine wpList_store_va rfl rfl (.tmp 6) (.tmp 28) rfl W3.heap.size rfl Key.nul rfl h6 ?_; intro W5 hb6 hg6))
      have hg46 : g4 < W3.heap.size := hb3.lt
      have HST : Hid (DItAt w W5 n L g2 g4 W3.heap.size 0 none 0) :=
        ⟨(h2.below hB4).grown hg6 (by simp; omega), (hb3.below hB4).grown hg6 (by simp; omega), EOwn.nil _ _, ⟨Key.nul, Ev.dv_nul, hb6⟩, by have := hg6.size; omega, below_of_grown (HB3.out.then hB4) hg6 HB3.out.size (Nat.le_trans HB3.out.size hB4.size)⟩
      clear h6 hz4 hB4 hb6 hg6 h2 hb3 hz3 c0
      generalize W3.heap.size = g6 at HST hg46 ⊢
      go_wp2_with fail
      go_loopw [5, 7] (fun v5 iv wr => ∃ (i : Nat) (A5 : Option Addr) (c5 ln : Nat), i ≤ L.length ∧ ln ≤ i ∧ iv = .int .i64 (i : Int) ∧ v5 = .slice A5 ln c5 ∧ Hid (ln = (Ev.intsOf (Ev.argsV n (L.take i))).length ∧ DItAt w wr n L g2 g4 g6 i A5 c5)) (fun _ iv _ => L.length - (intOf iv).toNat)
      case atStart => exact ⟨0, none, 0, 0, Nat.zero_le _, Nat.le_refl _, by go_num, rfl, rfl, HST.out⟩
      case round =>
        obtain ⟨i, A5, c5, ln, hi, hln, rfl, rfl, HJ⟩ := hrel
        clear HST
        by_cases hlt : i < L.length
        · have hii : (i : Int) < (L.length : Int) := by omega
          obtain ⟨bb, oo, rfl, hbl, q0⟩ := rw_at (HL.out.r.below HJ.out.2.below) hlt
          have HRI := Lib.hid (HL.out.in_ L[i] (List.getElem_mem hlt))
          have HTK : Hid (L.take (i + 1) = L.take i ++ [L[i]]) := List.take_succ_eq_append_getElem hlt
          generalize L[i] = r at q0 HRI HTK
          have HARG : Hid (∀ W, Below w.heap.size w W → Calls Try.prog 55 #[n.v, .int .i64 0, .slice r.a r.l.length r.c] W (RetD W (Ev.argV n r.l))) := fun W hW => rarg_any w r.a r.c r.l n (node_args HN.out).1 (node_cap HN.out).1 (node_cap HN.out).2 (fun m hm => reval_any w r.a r.c r.l HRI.out.r HRI.out.ok HRI.out.len m ((node_args HN.out).2 m hm)) W hW 0 (by decide)
          have q0 : wr.drew.cell? _ = _ := q0
          unfold Rw.v at q0
          have h2' := HJ.out.2.b2.drew
          have HBD : Hid (Below w.heap.size w wr.drew) := HJ.out.2.below.drewR
          go_upto_region 10 with fail
          go_cut [8] from 35 to 40 (fun v8 wx => ∃ g8 : Nat, v8 = .pointer (some ⟨g8, 0, none⟩) ∧ Hid (∃ x, Ev.Dv (Ev.argV n r.l) x ∧ Blk wx g8 32 x.cells ∧ wr.heap.size ≤ g8 ∧ Below wr.heap.size wr wx))
          case first =>
            refine wp_region_plan (.take 0 (.take 1 (.take 2 (.take 3 (.take 4 (.fork (.run 5 [] (.run 6 [] (.run 7 [] .fin))) (.run 6 [0, 1, 2, 3, 4] (.run 5 [] (.run 7 [] .fin))))))))) (by kernel_rfl) (by kernel_rfl) (by kernel_rfl) (by kernel_rfl) ?_
            repeat' (first | (refine hZ _ _ ?_; clear hZ) | (refine hZ _ ?_; clear hZ) | (refine hZ ?_; clear hZ) | rw [again_nil] | rw [walk_fin] | ((first | rw [walk_take] | rw [walk_run] | rw [again_cons]); intro Z hZ; simp only [sel, List.getElem?_toArray, List.getElem?_cons_zero, List.getElem?_cons_succ]; go_wp2_with (refine wpList_load_nd rfl (.tmp 2) rfl g2 rfl h2' ?_)))
            rw [walk_fork]
            refine ⟨?_, ?_⟩
            · repeat' (first | (refine hZ _ _ ?_; clear hZ) | (refine hZ _ ?_; clear hZ) | (refine hZ ?_; clear hZ) | rw [again_nil] | rw [walk_fin] | ((first | rw [walk_take] | rw [walk_run] | rw [again_cons]); intro Z hZ; simp only [sel, List.getElem?_toArray, List.getElem?_cons_zero, List.getElem?_cons_succ]; go_wp2_with (fail)))
              refine (HARG.out _ HBD.out).mono ?_
              rintro e W1 ⟨x, rfl, hx, hB1⟩
              have HB1 : Hid (Below wr.heap.size wr W1) := (Below.refl _ _).drewR.trans (hB1.mono (Nat.le_refl _))
              have HXD := Lib.hid hx
              clear hB1 hx h2' q0
              go_wp2_with fail
              repeat' (first | (refine hZ _ _ ?_; clear hZ) | (refine hZ _ ?_; clear hZ) | (refine hZ ?_; clear hZ) | rw [again_nil] | rw [walk_fin] | ((first | rw [walk_take] | rw [walk_run] | rw [again_cons]); intro Z hZ; simp only [sel, List.getElem?_toArray, List.getElem?_cons_zero, List.getElem?_cons_succ]; go_wp2_with (first | (refine wpList_alloc_va rfl rfl ?_; intro W2 b8 hz2 hB2) | (refine wpList_store_va rfl rfl (.tmp 8) (.tmp 40) rfl W1.heap.size rfl x rfl b8 ?_; intro W3 hb3 hg3))))
              have HR : Hid (∃ x, Ev.Dv (Ev.argV n r.l) x ∧ Blk W3 W1.heap.size 32 x.cells ∧ wr.heap.size ≤ W1.heap.size ∧ Below wr.heap.size wr W3) := ⟨x, HXD.out, hb3, HB1.out.size, below_of_grown (HB1.out.then hB2) hg3 HB1.out.size (Nat.le_trans HB1.out.size hB2.size)⟩
              clear b8 hz2 hB2 hb3 hg3
              go_wp2_with fail
              go_meet
              case rel => exact ⟨_, rfl, HR.out⟩
            · repeat' (first | (refine hZ _ _ ?_; clear hZ) | (refine hZ _ ?_; clear hZ) | (refine hZ ?_; clear hZ) | rw [again_nil] | rw [walk_fin] | ((first | rw [walk_take] | rw [walk_run] | rw [again_cons]); intro Z hZ; simp only [sel, List.getElem?_toArray, List.getElem?_cons_zero, List.getElem?_cons_succ]; go_wp2_with (first | (refine wpList_alloc_va rfl rfl ?_; intro W2 b8 hz2 hB2; have h2'' := h2'.below hB2; have q0'' := cell_later hB2 q0) | (refine wpList_load_nd rfl (.tmp 2) rfl g2 rfl h2'' ?_))))
              refine (HARG.out W2 (HBD.out.then hB2)).mono ?_
              rintro e W3 ⟨x, rfl, hx, hB3⟩
              have b8' := b8.below hB3
              have h23 := h2''.below hB3
              have q03 := cell_later hB3 q0''
              have HB3' : Hid (Below wr.heap.size wr W3 ∧ wr.heap.size ≤ W2.heap.size) := ⟨((Below.refl wr.heap.size wr).drewR.trans (hB2.mono (Nat.le_refl _))).then hB3, hB2.size⟩
              have HXD := Lib.hid hx
              clear hx h2' q0 b8 hz2 hB2 h2'' q0'' hB3
              go_wp2_with fail
              repeat' (first | (refine hZ _ _ ?_; clear hZ) | (refine hZ _ ?_; clear hZ) | (refine hZ ?_; clear hZ) | rw [again_nil] | rw [walk_fin] | ((first | rw [walk_take] | rw [walk_run] | rw [again_cons]); intro Z hZ; simp only [sel, List.getElem?_toArray, List.getElem?_cons_zero, List.getElem?_cons_succ]; go_wp2_with (first | (refine wpList_load_nd rfl (.tmp 2) rfl g2 rfl h23 ?_) | (refine wpList_store_va rfl rfl (.tmp 8) (.tmp 40) rfl wr.heap.size rfl x rfl b8' ?_; intro W4 hb4 hg4))))
              have HR : Hid (∃ x, Ev.Dv (Ev.argV n r.l) x ∧ Blk W4 wr.heap.size 32 x.cells ∧ wr.heap.size ≤ wr.heap.size ∧ Below wr.heap.size wr W4) := ⟨x, HXD.out, hb4, Nat.le_refl _, below_of_grown HB3'.out.1 hg4 (Nat.le_refl _) HB3'.out.1.size⟩
              clear hb4 hg4 b8' h23 q03
              go_wp2_with fail
              go_meet
              case rel => exact ⟨_, rfl, HR.out⟩
          case rest =>
            obtain ⟨g8, rfl, hc8⟩ := hcut
            obtain ⟨x, hx, b8, hg8, hBw⟩ := hc8.out
            have HXD := Lib.hid hx
            obtain ⟨b2, b4, own, ⟨d, hd, b6⟩, hsz, hbel⟩ := HJ.out.2
            have HDD := Lib.hid hd
            have hg68 : g6 < g8 := Nat.lt_of_lt_of_le hsz hg8
            have HS : Hid (ln = (Ev.intsOf (Ev.argsV n (L.take i))).length ∧ Blk wc g2 35 n.cells ∧ Blk wc g4 32 Key.nul.cells ∧ EOwn eI64 wc (g6 + 1) A5 c5 (Ev.intsOf (Ev.argsV n (L.take i))) ∧ Blk wc g6 32 d.cells ∧ Blk wc g8 32 x.cells ∧ g6 + 1 ≤ wc.heap.size ∧ Below w.heap.size w wc ∧ (∀ a, A5 = some a → a.block < g8)) :=
              ⟨HJ.out.1, b2.below hBw, b4.below hBw, own.below hBw, b6.below hBw, b8, Nat.le_trans hsz hBw.size, hbel.then hBw, fun a ha => Nat.lt_of_lt_of_le (own.block a ha).2 hg8⟩
            have HINT : Hid (Ev.intsOf (Ev.argsV n (L.take (i + 1))) = Ev.intsOf (Ev.argsV n (L.take i)) ++ if x.k = 1 then [x.n] else []) := by
              show _ = _
              rw [HTK.out, Ev.argsV_snoc, Ev.intsOf_snoc, hx.eqV.1, hx.eqV.2.1]
            have HBST : Hid (Ev.bestD n.k (Ev.argsV n (L.take (i + 1))) = Ev.bestStepD n.k (Ev.bestD n.k (Ev.argsV n (L.take i))) (Ev.argV n r.l)) := by show _ = _; rw [HTK.out, Ev.argsV_snoc, Ev.bestD_snoc]
            have HBC : Hid (Key.clean (Ev.bestD n.k (Ev.argsV n (L.take i))) = Ev.bestD n.k (Ev.argsV n (L.take i))) := Ev.bestD_clean _ _ fun v hv => by
              obtain ⟨y, hy, rfl⟩ := List.mem_map.1 hv
              exact Ev.clean_argV _ _
            generalize Ev.bestD n.k (Ev.argsV n (L.take i)) = bs at HBST HBC HDD hd
            have HORD : Hid (Key.vord (Key.dclean x) (Key.dclean d) = Key.vord (Ev.argV n r.l) bs) := hx.ord hd (Ev.clean_argV n r.l) HBC.out
            have HKX : Hid ((Ev.argV n r.l).k = x.k ∧ bs.k = d.k) := ⟨hx.eqV.1, hd.eqV.1⟩
            clear hc8 hx b8 hBw b2 b4 own b6 hd hsz hbel HJ h2' q0 HARG HBD
            have q0 := HS.out.2.2.2.2.2.1.cell 0
            have q1 := HS.out.2.2.2.2.2.1.cell 1
            simp only [Va.cells, List.getElem?_cons_zero, List.getElem?_cons_succ] at q0 q1
            go_upto_if 43 with fail
            go_cut [5] from 42 to 48 (fun v5 wx => ∃ (A : Option Addr) (c ln : Nat), v5 = .slice A ln c ∧ ln ≤ i + 1 ∧ Hid (ln = (Ev.intsOf (Ev.argsV n (L.take (i + 1)))).length ∧ Blk wx g2 35 n.cells ∧ Blk wx g4 32 Key.nul.cells ∧ EOwn eI64 wx (g6 + 1) A c (Ev.intsOf (Ev.argsV n (L.take (i + 1)))) ∧ Blk wx g6 32 d.cells ∧ Blk wx g8 32 x.cells ∧ g6 + 1 ≤ wx.heap.size ∧ Below w.heap.size w wx))
            case first =>
              by_cases hx1 : x.k = 1
              · have HX1 := Lib.hid hx1
                have hx1' : (x.k == 1) = true := by simpa using hx1
                clear hx1
                have hoA := HS.out.2.2.2.1.alloc (.cells #[.int .i64 x.n] 2)
                have hrA := ERow.lit eI64 wc x.n #[.int .i64 x.n] rfl wc.heap.size rfl
                have hlnl := HS.out.1
                have HBA : Hid (Below w.heap.size w (wc.alloc (.cells #[.int .i64 x.n] 2)) ∧ g6 + 1 ≤ (wc.alloc (.cells #[.int .i64 x.n] 2)).heap.size) := ⟨HS.out.2.2.2.2.2.2.2.1.then ((Below.refl wc.heap.size wc).alloc (Nat.le_refl _) _), by have := HS.out.2.2.2.2.2.2.1; simp; omega⟩
                have HLNL := Lib.hid hlnl
                clear hlnl
                go_wp2_with (at_builtin; refine wpList_append_elems eI64 rfl (.tmp 44) (.tmp 47) rfl ln rfl hoA HLNL.out 1 rfl hrA rfl (by have := HLNL.out; simp; omega) HBA.out.2 ?_; intro A3 c3 w3 ho3 hb3 hg3 ha3)
                have HR : Hid (((Ev.intsOf (Ev.argsV n (L.take i))).length + 1 = (Ev.intsOf (Ev.argsV n (L.take (i + 1)))).length ∧ Blk w3 g2 35 n.cells ∧ Blk w3 g4 32 Key.nul.cells ∧ EOwn eI64 w3 (g6 + 1) A3 c3 (Ev.intsOf (Ev.argsV n (L.take (i + 1)))) ∧ Blk w3 g6 32 d.cells ∧ Blk w3 g8 32 x.cells ∧ g6 + 1 ≤ w3.heap.size ∧ Below w.heap.size w w3)) := by
                  obtain ⟨s1, s2, s3, s4, s5, s6, s7, s8, s9⟩ := HS.out
                  have hbA : Below wc.heap.size wc (wc.alloc (.cells #[.int .i64 x.n] 2)) := (Below.refl wc.heap.size wc).alloc (Nat.le_refl _) _
                  have hne : ∀ g', (∀ a, A5 = some a → a.block ≠ g') → some g' ≠ A5.map (·.block) := fun g' h e => by
                    cases hA : A5 with
                    | none => rw [hA] at e; simp at e
                    | some a => rw [hA] at e; simp at e; exact h a hA e.symm
                  refine ⟨by rw [HINT.out, if_pos HX1.out]; simp, (s2.below hbA).grown hg3 (hne g2 fun a ha => ?_), (s3.below hbA).grown hg3 (hne g4 fun a ha => ?_), by rw [HINT.out, if_pos HX1.out]; exact ho3, (s5.below hbA).grown hg3 (hne g6 fun a ha => ?_), (s6.below hbA).grown hg3 (hne g8 fun a ha => ?_), Nat.le_trans HBA.out.2 hg3.size, HBA.out.1.trans (hb3.mono (by have := HG2.out; omega))⟩
                  · have := (s4.block a ha).1; omega
                  · have := (s4.block a ha).1; omega
                  · have := (s4.block a ha).1; omega
                  · have := s9 a ha; omega
                clear hoA hrA ho3 hb3 hg3 ha3 q0 q1
                go_wp2_with fail
                go_meet
                case rel => exact ⟨A3, c3, _, rfl, by have := HLNL.out; omega, HR.out⟩
              · have hx1' : (x.k == 1) = false := by simpa using hx1
                have HR : Hid (ln = (Ev.intsOf (Ev.argsV n (L.take (i + 1)))).length ∧ Blk wc g2 35 n.cells ∧ Blk wc g4 32 Key.nul.cells ∧ EOwn eI64 wc (g6 + 1) A5 c5 (Ev.intsOf (Ev.argsV n (L.take (i + 1)))) ∧ Blk wc g6 32 d.cells ∧ Blk wc g8 32 x.cells ∧ g6 + 1 ≤ wc.heap.size ∧ Below w.heap.size w wc) := by
                  rw [HINT.out, if_neg hx1, List.append_nil]
                  exact ⟨HS.out.1, HS.out.2.1, HS.out.2.2.1, HS.out.2.2.2.1, HS.out.2.2.2.2.1, HS.out.2.2.2.2.2.1, HS.out.2.2.2.2.2.2.1, HS.out.2.2.2.2.2.2.2.1⟩
                go_wp2_with fail
                go_meet
                case rel => exact ⟨A5, c5, ln, rfl, by omega, HR.out⟩
            case rest =>
              obtain ⟨A7, c7, ln7, rfl, hln7, hcc⟩ := hcut
              obtain ⟨t1, t2, t3, t4, t5, t6, t7, t8⟩ := hcc.out
              have HLN := Lib.hid t1
              have HT8 := Lib.hid t8
              clear hcc HS q0 q1 t1 t8
              go_wp2_with (first | (refine wpList_load_va rfl (.tmp 8) rfl g8 rfl t6 ?_) | (refine wpList_load_va rfl (.tmp 6) rfl g6 rfl t5 ?_))
              refine (vorder_any _ x d HXD.out.ok HDD.out.ok).mono ?_
              rintro e W5 ⟨rfl, hB5⟩
              rw [HORD.out]
              have u2 := t2.below hB5
              have u3 := t3.below hB5
              have u4 := t4.below hB5
              have u5 := t5.below hB5
              have u6 := t6.below hB5
              have u7 : g6 + 1 ≤ W5.heap.size := Nat.le_trans t7 hB5.size
              have HU8 := Lib.hid (HT8.out.then hB5)
              clear hB5 t2 t3 t4 t5 t6 t7
              have hvr := Key.vord_range (Ev.argV n r.l) bs
              have HBS2 : Hid (Ev.bestD n.k (Ev.argsV n (L.take (i + 1))) = if bs.k = 0 ∨ (Ev.argV n r.l).k ≠ 0 ∧ (decide (Key.vord (Ev.argV n r.l) bs < 0) = decide (n.k = 12)) ∧ Key.vord (Ev.argV n r.l) bs ≠ 0 then Ev.argV n r.l else bs) := HBST.out
              rw [HKX.out.1, HKX.out.2] at HBS2
              generalize Key.vord (Ev.argV n r.l) bs = o at HBS2 hvr ⊢
              have c0 := u2.cell 0
              have d0 := u6.cell 0
              have e0 := u5.cell 0
              simp only [Va.cells, Nd.cells, List.getElem?_cons_zero] at c0 d0 e0
              go_upto_region 14 with fail
              generalize hm : n.k = m
              have HM := Lib.hid hm
              rw [hm] at c0
              clear hm
              go_cut [71] from 52 to 71 (fun v wx => Hid (v = .bool (decide (d.k = 0 ∨ x.k ≠ 0 ∧ (decide (o < 0) = decide (m = 12)) ∧ o ≠ 0)) ∧ W5 = wx))
              case first =>
                by_cases t1 : d.k = 0
                · have u1' : (d.k == 0) = true := by simpa using t1
                  have HC : Hid (decide (d.k = 0 ∨ x.k ≠ 0 ∧ (decide (o < 0) = decide (m = 12)) ∧ o ≠ 0) = true) := by show _ = _; simp [t1]
                  clear t1
                  rw [show d.k = 0 by simpa using u1'] at e0
                  go_wp2_with fail
                  go_meet
                  case rel => exact ⟨by rw [HC.out], rfl⟩
                have u1' : (d.k == 0) = false := by simpa using t1
                by_cases t2 : x.k = 0
                · have u2' : (x.k != 0) = false := by simpa using t2
                  have HC : Hid (decide (d.k = 0 ∨ x.k ≠ 0 ∧ (decide (o < 0) = decide (m = 12)) ∧ o ≠ 0) = false) := by show _ = _; simp [t1, t2]
                  rw [t2] at d0
                  clear t2
                  go_wp2_with fail
                  go_meet
                  case rel => exact ⟨by rw [HC.out], rfl⟩
                have u2' : (x.k != 0) = true := by simpa using t2
                by_cases t3 : m = 12
                · have u3' : (m == 12) = true := by simpa using t3
                  have HC : Hid (decide (d.k = 0 ∨ x.k ≠ 0 ∧ (decide (o < 0) = decide (m = 12)) ∧ o ≠ 0) = decide (o < 0)) := by show _ = _; rcases hvr with rfl | rfl | rfl <;> simp [t1, t2, t3]
                  clear t3
                  rcases hvr with rfl | rfl | rfl
                  all_goals
                    go_wp2_with fail
                    go_meet
                    case rel => exact ⟨by rw [HC.out]; rfl, rfl⟩
                · have u3' : (m == 12) = false := by simpa using t3
                  have HC : Hid (decide (d.k = 0 ∨ x.k ≠ 0 ∧ (decide (o < 0) = decide (m = 12)) ∧ o ≠ 0) = decide (0 < o)) := by show _ = _; rcases hvr with rfl | rfl | rfl <;> simp [t1, t2, t3]
                  clear t3
                  rcases hvr with rfl | rfl | rfl
                  all_goals
                    go_wp2_with fail
                    go_meet
                    case rel => exact ⟨by rw [HC.out]; rfl, rfl⟩
              case rest =>
                obtain ⟨hv, rfl⟩ := hcut.out
                subst hv
                clear hcut c0 d0 e0
                have hm := HM.out
                clear HM
                subst hm
                by_cases hC : d.k = 0 ∨ x.k ≠ 0 ∧ (decide (o < 0) = decide (n.k = 12)) ∧ o ≠ 0
                · have HBS3 : Hid (Ev.Dv (Ev.bestD n.k (Ev.argsV n (L.take (i + 1)))) x) := by show Ev.Dv _ _; rw [HBS2.out, if_pos hC]; exact HXD.out
                  rw [decide_eq_true hC]
                  clear hC
                  go_wp2_with (first | (refine wpList_load_va rfl (.tmp 8) rfl g8 rfl u6 ?_) | (refine wpList_store_va rfl rfl (.tmp 6) (.tmp 72) rfl g6 rfl x rfl u5 ?_; intro W6 hb6 hg6))
                  have HR : Hid (ln7 = (Ev.intsOf (Ev.argsV n (L.take (i + 1)))).length ∧ DItAt w W6 n L g2 g4 g6 (i + 1) A7 c7) := by
                    refine ⟨HLN.out, u2.grown hg6 (by simp; omega), u3.grown hg6 (by simp; omega), u4.kept hg6 ?_, ⟨x, HBS3.out, hb6⟩, Nat.le_trans u7 hg6.size, below_of_grown HU8.out hg6 (by have := HG2.out; omega) HU8.out.size⟩
                    cases hA : A7 with
                    | none => exact .inl rfl
                    | some a =>
                      refine .inr ?_
                      have := (u4.block a hA).1
                      simp
                      omega
                  clear hg6 hb6 u2 u3 u4 u5 u6
                  go_roundw
                  case rel => exact ⟨i + 1, A7, c7, ln7, by omega, hln7, by go_num, rfl, HR.out⟩
                  case measure => simp [intOf]; omega
                · have HBS3 : Hid (Ev.Dv (Ev.bestD n.k (Ev.argsV n (L.take (i + 1)))) d) := by show Ev.Dv _ _; rw [HBS2.out, if_neg hC]; exact HDD.out
                  rw [decide_eq_false hC]
                  clear hC
                  have HR : Hid (ln7 = (Ev.intsOf (Ev.argsV n (L.take (i + 1)))).length ∧ DItAt w W5 n L g2 g4 g6 (i + 1) A7 c7) :=
                    ⟨HLN.out, u2, u3, u4, ⟨d, HBS3.out, u5⟩, u7, HU8.out⟩
                  clear u2 u3 u4 u5 u6
                  go_wp2_with fail
                  go_roundw
                  case rel => exact ⟨i + 1, A7, c7, ln7, by omega, hln7, by go_num, rfl, HR.out⟩
                  case measure => simp [intOf]; omega
        · have hii : ¬ (i : Int) < (L.length : Int) := by omega
          obtain rfl : i = L.length := by omega
          obtain ⟨b2, b4, own, ⟨d, hd, b6⟩, hsz, hbel⟩ := HJ.out.2
          have hln2 := HJ.out.1
          rw [List.take_length] at own hd hln2
          have HBL := Lib.hid hbel
          have HARG : Hid ((∀ v ∈ Ev.argsV n L, v.ok) ∧ ∀ v ∈ Ev.argsV n L, Key.clean v = v) := by
            constructor
            · intro v hv
              obtain ⟨y, hy, rfl⟩ := List.mem_map.1 hv
              exact Ev.argV_ok (HL.out.in_ y hy).ok HN.out
            · intro v hv
              obtain ⟨y, hy, rfl⟩ := List.mem_map.1 hv
              exact Ev.clean_argV _ _
          obtain ⟨c0, -⟩ := Blk.c10 b2
          by_cases k11 : n.k = 11
          · have HS := Lib.hid (rsum_any wr A5 c5 (Ev.intsOf (Ev.argsV n L)) own.row (Ev.intsOf_in HARG.out.1) (by have := Ev.intsOf_len (Ev.argsV n L); unfold Ev.argsV at this; rw [List.length_map] at this; unfold Ev.argsV; omega))
            rw [← hln2, Ev.sumI_of] at HS
            have HD2 : Hid (D = Ev.sumV (Ev.argsV n L)) := by show _ = _; rw [HDA.out, if_pos k11]
            rw [k11] at c0
            clear k1 k2 hk k10 hk10 k11 own hd b6 b2 hln2 hbel HJ
            go_wp2_with fail
            refine (show Calls _ _ _ _ _ from HS.out).mono ?_
            rintro e W8 ⟨rfl, hB8⟩
            have hb8 := b4.below hB8
            have HB8 := Lib.hid (HBL.out.then hB8)
            clear hB8 c0 HS b4
            generalize hsv : Ev.sumV (Ev.argsV n L) = s at HD2 ⊢
            have HSC : Hid (s.ok ∧ Key.clean s = s) := by
              rw [← hsv]
              refine ⟨?_, Ev.clean_sum _⟩
              unfold Ev.sumV
              split
              · exact Ev.nul_ok
              · exact Ev.intV_ok
            clear hsv
            go_wp2_with (refine wpList_store_va rfl rfl (.tmp 4) (.tmp 77) rfl g4 rfl s rfl hb8 ?_; intro W9 hb9 hg9)
            exact ret_va hb9 rfl rfl rfl ⟨s, rfl, by rw [HD2.out]; exact ⟨HSC.out.1, by rw [← HSC.out.2]; exact Ev.clean_is _, HSC.out.2⟩, below_of_grown HB8.out hg9 (by have := HG2.out; omega) HB8.out.size⟩
          · have HD2 : Hid (Ev.Dv D d) := by
              show Ev.Dv D d
              rw [HDA.out, if_neg k11, ← Ev.bestD_eq (by have := HKK.out; omega) _ HARG.out.2]
              exact hd
            have hk11 : (n.k == 11) = false := by simpa using k11
            clear own hd b2 hln2 hbel HJ k11
            go_wp2_with (first | (refine wpList_load_va rfl (.tmp 6) rfl g6 rfl b6 ?_) | (refine wpList_store_va rfl rfl (.tmp 4) (.tmp 78) rfl g4 rfl d rfl b4 ?_; intro W9 hb9 hg9))
            exact ret_va hb9 rfl rfl rfl ⟨d, rfl, HD2.out, below_of_grown HBL.out hg9 (by have := HG2.out; omega) HBL.out.size⟩
  · have HD1 : Hid (Ev.eval (Ev.firstR L).l n = D) := by show _ = _; rw [← HD.out]; unfold Ev.itemV; rw [if_neg hk]
    by_cases k1 : n.k < 10
    · go_upto_region 2 with fail
      have h2' := h2.drew
      have hb3' := hb3.drew
      have HB3' := Lib.hid HB3.out.drewR
      refine wp_region_plan (.take 0 (.take 1 (.run 2 [0] (.run 3 [] (.run 4 [] .fin))))) (by kernel_rfl) (by kernel_rfl) (by kernel_rfl) (by kernel_rfl) ?_
      repeat' (first | (refine hZ _ _ ?_; clear hZ) | (refine hZ _ ?_; clear hZ) | (refine hZ ?_; clear hZ) | rw [again_nil] | rw [walk_fin] | ((first | rw [walk_take] | rw [walk_run] | rw [again_cons]); intro Z hZ; simp only [sel, List.getElem?_toArray, List.getElem?_cons_zero, List.getElem?_cons_succ]; go_wp2_with (refine wpList_load_nd rfl (.tmp 2) rfl g2 rfl h2' ?_)))
      refine (dfirst_any _ A c L (HL.out.below HB3'.out).r hlen).mono ?_
      rintro e W4 ⟨rfl, hB4⟩
      have h24 := h2'.below hB4
      have hb4 := hb3'.below hB4
      have HB4 := Lib.hid (HB3'.out.then hB4)
      clear hB4 h2 h2' hb3 hb3' c0
      go_wp2_with fail
      repeat' (first | (refine hZ _ _ ?_; clear hZ) | (refine hZ _ ?_; clear hZ) | (refine hZ ?_; clear hZ) | rw [again_nil] | rw [walk_fin] | ((first | rw [walk_take] | rw [walk_run] | rw [again_cons]); intro Z hZ; simp only [sel, List.getElem?_toArray, List.getElem?_cons_zero, List.getElem?_cons_succ]; go_wp2_with (refine wpList_load_nd rfl (.tmp 2) rfl g2 rfl h24 ?_)))
      refine (reval_any w _ (Ev.firstR L).c (Ev.firstR L).l HL.out.first.r HL.out.first.ok HL.out.first.len n HN.out W4 HB4.out).mono ?_
      rintro e W5 ⟨d, rfl, hd, hB5⟩
      have h25 := h24.below hB5
      have hb5 := hb4.below hB5
      have HB5 := Lib.hid (HB4.out.then hB5)
      have HDV := Lib.hid hd
      clear hB5 h24 hb4 hd
      go_wp2_with fail
      repeat' (first | (refine hZ _ _ ?_; clear hZ) | (refine hZ _ ?_; clear hZ) | (refine hZ ?_; clear hZ) | rw [again_nil] | rw [walk_fin] | ((first | rw [walk_take] | rw [walk_run] | rw [again_cons]); intro Z hZ; simp only [sel, List.getElem?_toArray, List.getElem?_cons_zero, List.getElem?_cons_succ]; go_wp2_with (first | (refine wpList_load_nd rfl (.tmp 2) rfl g2 rfl h25 ?_) | (refine wpList_store_va rfl rfl (.tmp 4) (.tmp 21) rfl g4 rfl d rfl hb5 ?_; intro W6 hb6 hg6))))
      go_wp2_with fail
      exact ret_va hb6 rfl rfl rfl ⟨d, rfl, by rw [← HD1.out]; exact HDV.out, below_of_grown HB5.out hg6 (by have := HG2.out; omega) HB5.out.size⟩
    · have k2 : 13 < n.k := by omega
      go_upto_region 2 with fail
      have h2' := h2.drew
      have hb3' := hb3.drew
      have HB3' := Lib.hid HB3.out.drewR
      refine wp_region_plan (.take 0 (.take 1 (.run 2 [0] (.run 3 [] (.run 4 [] .fin))))) (by kernel_rfl) (by kernel_rfl) (by kernel_rfl) (by kernel_rfl) ?_
      repeat' (first | (refine hZ _ _ ?_; clear hZ) | (refine hZ _ ?_; clear hZ) | (refine hZ ?_; clear hZ) | rw [again_nil] | rw [walk_fin] | ((first | rw [walk_take] | rw [walk_run] | rw [again_cons]); intro Z hZ; simp only [sel, List.getElem?_toArray, List.getElem?_cons_zero, List.getElem?_cons_succ]; go_wp2_with (refine wpList_load_nd rfl (.tmp 2) rfl g2 rfl h2' ?_)))
      refine (dfirst_any _ A c L (HL.out.below HB3'.out).r hlen).mono ?_
      rintro e W4 ⟨rfl, hB4⟩
      have h24 := h2'.below hB4
      have hb4 := hb3'.below hB4
      have HB4 := Lib.hid (HB3'.out.then hB4)
      clear hB4 h2 h2' hb3 hb3' c0
      go_wp2_with fail
      repeat' (first | (refine hZ _ _ ?_; clear hZ) | (refine hZ _ ?_; clear hZ) | (refine hZ ?_; clear hZ) | rw [again_nil] | rw [walk_fin] | ((first | rw [walk_take] | rw [walk_run] | rw [again_cons]); intro Z hZ; simp only [sel, List.getElem?_toArray, List.getElem?_cons_zero, List.getElem?_cons_succ]; go_wp2_with (refine wpList_load_nd rfl (.tmp 2) rfl g2 rfl h24 ?_)))
      refine (reval_any w _ (Ev.firstR L).c (Ev.firstR L).l HL.out.first.r HL.out.first.ok HL.out.first.len n HN.out W4 HB4.out).mono ?_
      rintro e W5 ⟨d, rfl, hd, hB5⟩
      have h25 := h24.below hB5
      have hb5 := hb4.below hB5
      have HB5 := Lib.hid (HB4.out.then hB5)
      have HDV := Lib.hid hd
      clear hB5 h24 hb4 hd
      go_wp2_with fail
      repeat' (first | (refine hZ _ _ ?_; clear hZ) | (refine hZ _ ?_; clear hZ) | (refine hZ ?_; clear hZ) | rw [again_nil] | rw [walk_fin] | ((first | rw [walk_take] | rw [walk_run] | rw [again_cons]); intro Z hZ; simp only [sel, List.getElem?_toArray, List.getElem?_cons_zero, List.getElem?_cons_succ]; go_wp2_with (first | (refine wpList_load_nd rfl (.tmp 2) rfl g2 rfl h25 ?_) | (refine wpList_store_va rfl rfl (.tmp 4) (.tmp 21) rfl g4 rfl d rfl hb5 ?_; intro W6 hb6 hg6))))
      go_wp2_with fail
      exact ret_va hb6 rfl rfl rfl ⟨d, rfl, by rw [← HD1.out]; exact HDV.out, below_of_grown HB5.out hg6 (by have := HG2.out; omega) HB5.out.size⟩
end Go.Proofs.Ytknfnhmkiooifaa
end

section
/-
  Printed from XGrLoop: the document's groups, in a row that grows.
-/
namespace Go.Proofs.Ytknfnhmkiooifaa
set_option linter.unusedSimpArgs false
set_option linter.unusedVariables false
open Go.RowKit

/-- Groups, as the document has them. -/
def eG3 : Elem Gr where
  e := 26
  t := 65
  sz := 1
  bytes := 24
  zero := .slice none 0 0
  code := fun x => [x.h]
  pos := by decide
  few := by decide
  len := fun _ => rfl
  one := by
    intro x u hu
    simp at hu
    subst hu
    rfl
  zsz := rfl
  info := by kernel_rfl
  under := Try.underlying65
/-- Groups in a row of the call's own, their rows elsewhere; the rows' values are those of L. -/
structure DLoop (B : Nat) (L : List Rw) (i : Nat) (W : World) (A : Option Addr) (c : Nat) (G : List Gr) : Prop where
  own : EOwn eG3 W B A c G
  rows : ∀ r ∈ G, ERow eRw W r.a r.l
  mem : ∀ r ∈ G, ∀ x ∈ r.l, x ∈ L
  cap : ∀ r ∈ G, r.l.length ≤ r.c ∧ r.c ≤ maxLen
  ne : ∀ r ∈ G, r.l ≠ [] → ∀ a, r.a = some a → ∀ x, A = some x → a.block ≠ x.block
  nil : ∀ r ∈ G, r.a = none → r.l = []
  len : ∀ r ∈ G, r.l.length ≤ i
  size : B ≤ W.heap.size
variable {B i c : Nat} {L : List Rw} {W W' : World} {A : Option Addr} {G : List Gr}
theorem DLoop.start (hB : B ≤ W.heap.size) : DLoop B L 0 W none 0 [] :=
  ⟨EOwn.nil _ _, (by intro r hr; cases hr), (by intro r hr; cases hr), (by intro r hr; cases hr), (by intro r hr; cases hr), (by intro r hr; cases hr), (by intro r hr; cases hr), hB⟩
theorem DLoop.below (h : DLoop B L i W A c G) (hB : Below W.heap.size W W') : DLoop B L i W' A c G :=
  ⟨h.own.below hB, fun r hr => (h.rows r hr).below hB, h.mem, h.cap, h.ne, h.nil, h.len, Nat.le_trans h.size hB.size⟩

/-- A new group, of one row. -/
theorem DLoop.one (h : DLoop B L i W A c G) {x : Rw} (hx : x ∈ L) {w2 w3 : World} (hw2 : (W.alloc (.cells #[x.v] 23)).alloc (.cells #[.slice (some ⟨W.heap.size, 0, none⟩) 1 1] 26) = w2) {A3 : Option Addr} {c3 : Nat}
    (ho3 : EOwn eG3 w3 B A3 c3 (G ++ [⟨some ⟨W.heap.size, 0, none⟩, [x], 1⟩])) (hg3 : w2.grownBy w3 (A.map (·.block))) (ha3 : A3.map (·.block) = A.map (·.block) ∨ A3.map (·.block) = some w2.heap.size) :
    DLoop B L (i + 1) w3 A3 c3 (G ++ [⟨some ⟨W.heap.size, 0, none⟩, [x], 1⟩]) := by
  have hB1 : Below W.heap.size W (W.alloc (.cells #[x.v] 23)) := (Below.refl _ _).alloc (Nat.le_refl _) _
  have hz1 : (W.alloc (.cells #[x.v] 23)).heap.size = W.heap.size + 1 := by simp
  have hB2 : Below (W.alloc (.cells #[x.v] 23)).heap.size (W.alloc (.cells #[x.v] 23)) w2 := by rw [← hw2]; exact (Below.refl _ _).alloc (Nat.le_refl _) _
  have hz2 : w2.heap.size = W.heap.size + 2 := by rw [← hw2]; simp
  have hrow : ERow eRw w2 (some ⟨W.heap.size, 0, none⟩) [x] := (ERow.lit eRw W x #[x.v] rfl _ rfl).below hB2
  have hAb : ∀ a, A = some a → a.block < W.heap.size := fun a ha => (h.own.block a ha).2
  have keep : ∀ (R : Option Addr) (l : List Rw), ERow eRw w2 R l → (l ≠ [] → ∀ a, R = some a → ∀ y, A = some y → a.block ≠ y.block) → ERow eRw w3 R l := fun R l hr hn hl => by
    refine hr.keep hg3.size (fun a ha hlt => hg3.block _ hlt ?_) hl
    intro e
    cases hA : A with
    | none => rw [hA] at e; simp at e
    | some y => rw [hA] at e; exact hn (List.length_pos_iff.1 hl) a ha y hA (by simpa using e)
  refine ⟨ho3, ?_, ?_, ?_, ?_, ?_, ?_, by have := h.size; have := hg3.size; omega⟩
  · intro r hr
    rcases List.mem_append.1 hr with hr | hr
    · exact keep _ _ ((h.rows r hr).below (hB1.then hB2)) (h.ne r hr)
    · rw [List.mem_singleton.1 hr]
      refine keep _ _ hrow fun _ a ha y hy => ?_
      cases ha
      have := hAb y hy
      show W.heap.size ≠ y.block
      omega
  · intro r hr y hy
    rcases List.mem_append.1 hr with hr | hr
    · exact h.mem r hr y hy
    · rw [List.mem_singleton.1 hr] at hy
      rw [List.mem_singleton.1 hy]; exact hx
  · intro r hr
    rcases List.mem_append.1 hr with hr | hr
    · exact h.cap r hr
    · rw [List.mem_singleton.1 hr]; exact ⟨Nat.le_refl _, by simp [maxLen]⟩
  · intro r hr hne a ha y hy
    have hy3 : some y.block = A.map (·.block) ∨ y.block = w2.heap.size := by
      rw [hy] at ha3
      rcases ha3 with e | e
      · exact .inl e
      · exact .inr (Option.some.inj e)
    rcases List.mem_append.1 hr with hr | hr
    · have hlt := erow_lt (h.rows r hr) hne a ha
      rcases hy3 with e | e
      · cases hA : A with
        | none => rw [hA] at e; simp at e
        | some z =>
          rw [hA] at e
          have := h.ne r hr hne a ha z hA
          simp at e
          omega
      · omega
    · rw [List.mem_singleton.1 hr] at ha
      cases ha
      show W.heap.size ≠ y.block
      rcases hy3 with e | e
      · cases hA : A with
        | none => rw [hA] at e; simp at e
        | some z =>
          rw [hA] at e
          have := hAb z hA
          simp at e
          omega
      · omega
  · intro r hr
    rcases List.mem_append.1 hr with hr | hr
    · exact h.nil r hr
    · rw [List.mem_singleton.1 hr]; intro e; cases e
  · intro r hr
    rcases List.mem_append.1 hr with hr | hr
    · have := h.len r hr; omega
    · rw [List.mem_singleton.1 hr]; simp
/-- A row more in the last group: its rows lie in a new block. -/
theorem DLoop.last {g : Nat} {G : List Gr} {r : Gr} (h : DLoop B L i W (some ⟨g, 0, none⟩) c (G ++ [r])) {x : Rw} (hx : x ∈ L) {w3 : World} (hB3 : Below W.heap.size W w3) {A5 : Option Addr} {c5 : Nat}
    (ho5 : EOwn eRw w3 W.heap.size A5 c5 (r.l ++ [x])) : DLoop B L (i + 1) (w3.setCell ⟨g, G.length, none⟩ (.slice A5 (r.l ++ [x]).length c5)) (some ⟨g, 0, none⟩) c (G ++ [⟨A5, r.l ++ [x], c5⟩]) := by
  have hown := h.own.below hB3
  have hgl : g < W.heap.size := (h.own.block _ rfl).2
  have hgr := grown_store w3 g G.length (.slice A5 (r.l ++ [x]).length c5)
  have keep : ∀ (R : Option Addr) (l : List Rw), ERow eRw w3 R l → (l ≠ [] → ∀ a, R = some a → a.block ≠ g) → ERow eRw (w3.setCell ⟨g, G.length, none⟩ (.slice A5 (r.l ++ [x]).length c5)) R l := fun R l hr hn hl => by
    refine hr.keep hgr.size (fun a ha hlt => hgr.block _ hlt ?_) hl
    have := hn (List.length_pos_iff.1 hl) a ha
    simpa using this
  refine ⟨?_, ?_, ?_, ?_, ?_, ?_, ?_, by have := h.size; have := hB3.size; have := hgr.size; omega⟩
  · have := hown.store (j := G.length) (k := 0) (by simp) (by decide) (⟨A5, r.l ++ [x], c5⟩ : Gr) (.slice A5 (r.l ++ [x]).length c5) rfl
    have e : (G ++ [r]).set G.length (⟨A5, r.l ++ [x], c5⟩ : Gr) = G ++ [⟨A5, r.l ++ [x], c5⟩] := by
      rw [List.set_append_right _ _ (Nat.le_refl _), Nat.sub_self]; rfl
    rw [e, show G.length * eG3.sz + 0 = G.length from Nat.mul_one _] at this
    exact this
  · intro s hs
    rcases List.mem_append.1 hs with hs | hs
    · refine keep _ _ ((h.rows s (by simp [hs])).below hB3) fun hn a ha => ?_
      exact h.ne s (by simp [hs]) hn a ha _ rfl
    · rw [List.mem_singleton.1 hs]
      refine keep _ _ ho5.row fun hn a ha => ?_
      have ha : A5 = some a := ha
      have := (ho5.block a ha).1
      omega
  · intro s hs y hy
    rcases List.mem_append.1 hs with hs | hs
    · exact h.mem s (by simp [hs]) y hy
    · rw [List.mem_singleton.1 hs] at hy
      rcases List.mem_append.1 hy with hy | hy
      · exact h.mem r (by simp) y hy
      · rw [List.mem_singleton.1 hy]; exact hx
  · intro s hs
    rcases List.mem_append.1 hs with hs | hs
    · exact h.cap s (by simp [hs])
    · rw [List.mem_singleton.1 hs]; exact ⟨ho5.cap, ho5.capMax⟩
  · intro s hs hn a ha y hy
    cases hy
    rcases List.mem_append.1 hs with hs | hs
    · exact h.ne s (by simp [hs]) hn a ha _ rfl
    · rw [List.mem_singleton.1 hs] at ha
      have ha : A5 = some a := ha
      have := (ho5.block a ha).1
      show a.block ≠ g
      omega
  · intro s hs hn
    rcases List.mem_append.1 hs with hs | hs
    · exact h.nil s (by simp [hs]) hn
    · rw [List.mem_singleton.1 hs] at hn
      have hn : A5 = none := hn
      rw [hn] at ho5
      rcases ho5.form with ⟨-, -, h⟩ | ⟨g, h, -⟩
      · simp at h
      · cases h
  · intro s hs
    rcases List.mem_append.1 hs with hs | hs
    · have := h.len s (by simp [hs]); omega
    · rw [List.mem_singleton.1 hs]
      have := h.len r (by simp)
      simp
      omega
end Go.Proofs.Ytknfnhmkiooifaa
end

section
/-
  The contract of the document's put: a group is put into a row that is sorted.
-/
namespace Go.Proofs.Ytknfnhmkiooifaa
set_option linter.unusedSimpArgs false
set_option linter.unusedVariables false
open Go.RowKit

/-- What answers a new row of groups. -/
def RetG3 (w : World) (M : List Gr) (e : Ending) (w' : World) : Prop := ∃ A' c', e = .returned (.slice A' M.length c') ∧ EOwn eG3 w' w.heap.size A' c' M ∧ Below w.heap.size w w'
theorem g3_at {w : World} {A : Option Addr} {L : List Gr} (h : ERow eG3 w A L) {j : Nat} (hj : j < L.length) : ∃ b o, A = some ⟨b, o, none⟩ ∧ b < w.heap.size ∧ w.cell? ⟨b, o + j, none⟩ = some L[j].h := by
  obtain ⟨b, o, e, hb, hc⟩ := h.at_ hj
  refine ⟨b, o, e, hb, ?_⟩
  have := hc 0 _ rfl
  rwa [show o + (j * eG3.sz + 0) = o + j by show o + (j * 1 + 0) = _; omega] at this
set_option maxRecDepth 20000 in
set_option maxHeartbeats 8000000 in
theorem dput_any (w : World) (A B : Option Addr) (c bc : Nat) (G : List Gr) (g : Gr) (l : List So) (hG : ERow eG3 w A G) (hGc : G.length ≤ c) (hcm : c ≤ maxLen) (hr : ∀ r ∈ G, RowsOk w r.a r.l) (hg : RowsOk w g.a g.l) (hl : ERow eSo w B l) (hin : ∀ s ∈ l, Ev.inB s.at_) (hll : l.length ≤ 1000000) (hlen : G.length ≤ 1000000) (hs : Srt.Sorted (fun x y : Gr => Ev.gcmp l x.l y.l) G) :
    Calls Try.prog 77 #[.slice A G.length c, g.h, .slice B l.length bc] w (RetG3 w (Srt.mg (fun x y : Gr => Ev.gcmp l x.l y.l) G [g])) := by
  have HG := Lib.hid hG
  have HR := Lib.hid hr
  have HGG := Lib.hid hg
  have HL := Lib.hid hl
  have HIN := Lib.hid hin
  have HSO := Lib.hid hs
  clear hG hr hg hl hin hs
  go_enter Try.func77, Try.ntmps77
  go_wp2_with fail
  go_loopw [7] (fun kv wr => ∃ k : Nat, k ≤ G.length ∧ kv = .int .i64 (k : Int) ∧ Hid ((∀ j (h : j < G.length), k ≤ j → Ev.gcmp l g.l G[j].l < 0) ∧ Below w.heap.size w wr)) (fun kv _ => (intOf kv).toNat)
  case atStart => exact ⟨G.length, Nat.le_refl _, by go_num, (fun j h h2 => by omega), Below.refl _ _⟩
  case round =>
    obtain ⟨k, hk, rfl, HJ⟩ := hrel
    rcases Nat.eq_zero_or_pos k with h0 | h0
    · have hki : ¬ (0 : Int) < (k : Int) := by omega
      have HLO : Hid (∀ j (h : j < G.length), j < k → 0 ≤ Ev.gcmp l g.l G[j].l) := fun j _ h => by omega
      have HBW : Hid (Below w.heap.size w wr.drew) := HJ.out.2.drewR
      clear h0
      go_upto_region 2 with fail
      refine wp_region_plan (.take 0 (.take 1 (.take 2 (.take 3 (.take 4 (.take 6 (.take 7 (.take 8 (.take 9 (.take 10 (.run 5 [3, 6, 7, 8, 9, 10] (.run 11 [3] (.run 12 [] (.take 13 (.take 14 .fin))))))))))))))) (by kernel_rfl) (by kernel_rfl) (by kernel_rfl) (by kernel_rfl) ?_
      repeat' (first | (refine hZ _ _ ?_; clear hZ) | (refine hZ _ ?_; clear hZ) | (refine hZ ?_; clear hZ) | rw [again_nil] | rw [walk_fin] | ((first | rw [walk_take] | rw [walk_run] | rw [again_cons]); intro Z hZ; simp only [sel, List.getElem?_toArray, List.getElem?_cons_zero, List.getElem?_cons_succ]; go_wp2_with (fail)))
      generalize wr.drew = WW at HBW ⊢
      have HMG : Hid (Srt.mg (fun x y : Gr => Ev.gcmp l x.l y.l) G [g] = G.take k ++ g :: G.drop k) := by
        show _ = _
        conv => lhs; rw [← List.take_append_drop k G]
        refine Srt.mg_one _ _ g (fun s hs => ?_) (fun s hs => ?_)
        · obtain ⟨j, hj, rfl⟩ := List.getElem_of_mem hs
          rw [List.getElem_take]
          rw [List.length_take] at hj
          have := HLO.out j (by omega) (by omega)
          omega
        · obtain ⟨j, hj, rfl⟩ := List.getElem_of_mem hs
          rw [List.getElem_drop]
          rw [List.length_drop] at hj
          exact HJ.out.1 (k + j) (by omega) (by omega)
      go_upto_region 4 with fail
      have hoA : EOwn eG3 (WW.alloc (.cells #[g.h] 26)) w.heap.size (some ⟨WW.heap.size, 0, none⟩) 1 [g] := EOwn.new WW [g] (by simp [maxLen]) HBW.out.size #[g.h] rfl
      have hbA : Below WW.heap.size WW (WW.alloc (.cells #[g.h] 26)) := (Below.refl _ _).alloc (Nat.le_refl _) _
      have HBA := Lib.hid (HBW.out.then hbA)
      have hsd : (G.drop k).length = G.length - k := List.length_drop
      have HGA : Hid (ERow eG3 (WW.alloc (.cells #[g.h] 26)) _ G) := HG.out.below HBA.out
      clear hbA
      (try unfold Gr.h at hoA HBA HGA ⊢)
      by_cases hck : c = k
      · have hkk : G.drop k = [] := List.drop_of_length_le (by omega)
        have hrA := HGA.out.take 0
        rw [List.take_zero, ← hkk] at hrA
        go_upto_region 5 with (at_builtin; refine wpList_append_elems eG3 rfl (.tmp 30) (.tmp 33) rfl 1 rfl hoA rfl (G.length - k) rfl hrA hsd.symm (by simp; omega) HBA.out.size ?_; intro A3 c3 w3 ho3 hb3 hg3 ha3)
        have HO3 := Lib.hid ho3
        have HB3 := Lib.hid (HBA.out.trans hb3)
        clear ho3 hb3 hg3 ha3 hoA hrA HGA
        have hoE : EOwn eG3 (w3.alloc (.cells #[] 26)) w.heap.size (some ⟨w3.heap.size, 0, none⟩) 0 [] := EOwn.new w3 [] (by simp [maxLen]) HB3.out.size #[] rfl
        have HBE : Hid (Below w.heap.size w (w3.alloc (.cells #[] 26))) := HB3.out.then ((Below.refl w3.heap.size w3).alloc (Nat.le_refl _) _)
        have hrE : ERow eG3 (w3.alloc (.cells #[] 26)) _ (G.take k) := (HG.out.below HBE.out).take k
        have htk : (G.take k).length = k := by rw [List.length_take]; omega
        go_upto_region 6 with (at_builtin; refine wpList_append_elems eG3 rfl (.tmp 35) (.tmp 38) rfl 0 rfl hoE rfl k rfl hrE htk.symm (by simp; omega) HBE.out.size ?_; intro A4 c4 w4 ho4 hb4 hg4 ha4)
        have HO4 : Hid (EOwn eG3 w4 w.heap.size A3 c3 ([g] ++ G.drop k)) := (HO3.out.alloc (.cells #[] 26)).kept hg4 (by
          cases hA : A3 with
          | none => exact .inl rfl
          | some a => exact .inr (fun e => by
              have := (HO3.out.block a hA).2
              have e : a.block = w3.heap.size := Option.some.inj e
              omega))
        have HB4 := Lib.hid (HBE.out.trans hb4)
        clear hb4 hg4 ha4 hoE hrE
        go_wp2_with (at_builtin; refine wpList_append_elems eG3 rfl (.tmp 40) (.tmp 41) rfl k rfl ho4 (by simp; omega) 1 rfl HO4.out.row (by simp; omega) (by simp; omega) HB4.out.size ?_; intro A5 c5 w5 ho5 hb5 hg5 ha5)
        have HBF := Lib.hid (HB4.out.trans hb5)
        have HO5 : Hid (EOwn eG3 w5 w.heap.size A5 c5 (Srt.mg (fun x y : Gr => Ev.gcmp l x.l y.l) G [g])) := by show EOwn _ _ _ _ _ _; rw [HMG.out]; exact ho5
        have hml : (Srt.mg (fun x y : Gr => Ev.gcmp l x.l y.l) G [g]).length = k + (G.length - k + 1) := by rw [HMG.out]; simp; omega
        clear ho4 ho5 hb5 ha5
        go_ret
        unfold RetG3
        rw [hml]
        exact ⟨A5, c5, congrArg (fun n => Ending.returned (.slice A5 n c5)) (show k + 1 = k + (G.length - k + 1) by omega), HO5.out, HBF.out⟩
      · have hckf : (c = k) = False := by simp [hck]
        have hrA := HGA.out.drop k
        rw [show k * eG3.sz = k from Nat.mul_one k] at hrA
        go_upto_region 5 with (at_builtin; refine wpList_append_elems eG3 rfl (.tmp 30) (.tmp 33) rfl 1 rfl hoA rfl (G.length - k) rfl hrA hsd.symm (by simp; omega) HBA.out.size ?_; intro A3 c3 w3 ho3 hb3 hg3 ha3)
        have HO3 := Lib.hid ho3
        have HB3 := Lib.hid (HBA.out.trans hb3)
        clear ho3 hb3 hg3 ha3 hoA hrA HGA
        have hoE : EOwn eG3 (w3.alloc (.cells #[] 26)) w.heap.size (some ⟨w3.heap.size, 0, none⟩) 0 [] := EOwn.new w3 [] (by simp [maxLen]) HB3.out.size #[] rfl
        have HBE : Hid (Below w.heap.size w (w3.alloc (.cells #[] 26))) := HB3.out.then ((Below.refl w3.heap.size w3).alloc (Nat.le_refl _) _)
        have hrE : ERow eG3 (w3.alloc (.cells #[] 26)) _ (G.take k) := (HG.out.below HBE.out).take k
        have htk : (G.take k).length = k := by rw [List.length_take]; omega
        go_upto_region 6 with (at_builtin; refine wpList_append_elems eG3 rfl (.tmp 35) (.tmp 38) rfl 0 rfl hoE rfl k rfl hrE htk.symm (by simp; omega) HBE.out.size ?_; intro A4 c4 w4 ho4 hb4 hg4 ha4)
        have HO4 : Hid (EOwn eG3 w4 w.heap.size A3 c3 ([g] ++ G.drop k)) := (HO3.out.alloc (.cells #[] 26)).kept hg4 (by
          cases hA : A3 with
          | none => exact .inl rfl
          | some a => exact .inr (fun e => by
              have := (HO3.out.block a hA).2
              have e : a.block = w3.heap.size := Option.some.inj e
              omega))
        have HB4 := Lib.hid (HBE.out.trans hb4)
        clear hb4 hg4 ha4 hoE hrE
        go_wp2_with (at_builtin; refine wpList_append_elems eG3 rfl (.tmp 40) (.tmp 41) rfl k rfl ho4 (by simp; omega) (1 + (G.length - k)) rfl HO4.out.row (by simp; omega) (by simp; omega) HB4.out.size ?_; intro A5 c5 w5 ho5 hb5 hg5 ha5)
        have HBF := Lib.hid (HB4.out.trans hb5)
        have HO5 : Hid (EOwn eG3 w5 w.heap.size A5 c5 (Srt.mg (fun x y : Gr => Ev.gcmp l x.l y.l) G [g])) := by show EOwn _ _ _ _ _ _; rw [HMG.out]; exact ho5
        have hml : (Srt.mg (fun x y : Gr => Ev.gcmp l x.l y.l) G [g]).length = k + (G.length - k + 1) := by rw [HMG.out]; simp; omega
        clear ho4 ho5 hb5 ha5
        go_ret
        unfold RetG3
        rw [hml]
        exact ⟨A5, c5, rfl, HO5.out, HBF.out⟩
    · obtain ⟨j, hjk⟩ : ∃ j, k = j + 1 := ⟨k - 1, by omega⟩
      have hki : (0 : Int) < (k : Int) := by omega
      have hjG : j < G.length := by omega
      obtain ⟨gb, go, rfl, -, q0⟩ := g3_at (HG.out.below HJ.out.2) hjG
      obtain ⟨r, hr⟩ : ∃ r, G[j] = r := ⟨_, rfl⟩
      have HRM : Hid (RowsOk w r.a r.l) := by show RowsOk _ _ _; rw [← hr]; exact HR.out _ (List.getElem_mem hjG)
      have HRE := Lib.hid hr
      rw [hr] at q0
      have q0 : wr.drew.cell? _ = _ := q0
      unfold Gr.h at q0 ⊢
      have hji : (k : Int) - 1 = (j : Int) := by omega
      have HJK := Lib.hid hjk
      clear hr hjk h0
      go_upto_region 2 with fail
      refine wp_region_plan (.take 0 (.take 1 (.take 2 (.take 3 (.take 4 (.take 6 (.take 7 (.take 8 (.take 9 (.take 10 (.run 5 [3, 6, 7, 8, 9, 10] (.run 11 [3] (.run 12 [] (.take 13 (.take 14 .fin))))))))))))))) (by kernel_rfl) (by kernel_rfl) (by kernel_rfl) (by kernel_rfl) ?_
      repeat' (first | (refine hZ _ _ ?_; clear hZ) | (refine hZ _ ?_; clear hZ) | (refine hZ ?_; clear hZ) | rw [again_nil] | rw [walk_fin] | ((first | rw [walk_take] | rw [walk_run] | rw [again_cons]); intro Z hZ; simp only [sel, List.getElem?_toArray, List.getElem?_cons_zero, List.getElem?_cons_succ]; go_wp2_with (fail)))
      have HBD : Hid (Below w.heap.size w wr.drew) := HJ.out.2.drewR
      refine (dfirst_any _ g.a g.c g.l (HGG.out.below HBD.out).r HGG.out.len).mono ?_
      rintro e W3 ⟨rfl, hB3⟩
      have q3 := cell_later hB3 q0
      have HB3 := Lib.hid (HBD.out.then hB3)
      clear hB3 q0
      go_wp2_with fail
      repeat' (first | (refine hZ _ _ ?_; clear hZ) | (refine hZ _ ?_; clear hZ) | (refine hZ ?_; clear hZ) | rw [again_nil] | rw [walk_fin] | ((first | rw [walk_take] | rw [walk_run] | rw [again_cons]); intro Z hZ; simp only [sel, List.getElem?_toArray, List.getElem?_cons_zero, List.getElem?_cons_succ]; go_wp2_with (fail)))
      refine (dfirst_any _ r.a r.c r.l (HRM.out.below HB3.out).r HRM.out.len).mono ?_
      rintro e W4 ⟨rfl, hB4⟩
      have q4 := cell_later hB4 q3
      have HB4 := Lib.hid (HB3.out.then hB4)
      clear hB4 q3
      go_wp2_with fail
      repeat' (first | (refine hZ _ _ ?_; clear hZ) | (refine hZ _ ?_; clear hZ) | (refine hZ ?_; clear hZ) | rw [again_nil] | rw [walk_fin] | ((first | rw [walk_take] | rw [walk_run] | rw [again_cons]); intro Z hZ; simp only [sel, List.getElem?_toArray, List.getElem?_cons_zero, List.getElem?_cons_succ]; go_wp2_with (fail)))
      refine (rordr_any _ B _ _ bc (Ev.firstR g.l).c (Ev.firstR r.l).c l (Ev.firstR g.l).l (Ev.firstR r.l).l (HL.out.below HB4.out) HIN.out (by omega) (HGG.out.below HB4.out).first (HRM.out.below HB4.out).first).mono ?_
      rintro e W5 ⟨rfl, hB5⟩
      have q5 := cell_later hB5 q4
      have HBW := Lib.hid (HB4.out.then hB5)
      clear hB5 q4
      have HOD : Hid (Ev.gcmp l g.l G[j].l = Ev.ordR l (Ev.firstR g.l).l (Ev.firstR r.l).l) := by show _ = _; rw [HRE.out]; rfl
      generalize Ev.ordR l (Ev.firstR g.l).l (Ev.firstR r.l).l = o at HOD ⊢
      by_cases ho : o < 0
      · have HNX : Hid (∀ i (h : i < G.length), j ≤ i → Ev.gcmp l g.l G[i].l < 0) := fun i h hi => by
          by_cases hij : i = j
          · subst hij; rw [HOD.out]; exact ho
          · exact HJ.out.1 i h (by have := HJK.out; omega)
        go_wp2_with fail
        repeat' (first | (refine hZ _ _ ?_; clear hZ) | (refine hZ _ ?_; clear hZ) | (refine hZ ?_; clear hZ) | rw [again_nil] | rw [walk_fin] | ((first | rw [walk_take] | rw [walk_run] | rw [again_cons]); intro Z hZ; simp only [sel, List.getElem?_toArray, List.getElem?_cons_zero, List.getElem?_cons_succ]; go_wp2_with (fail)))
        go_wp2_with fail
        go_roundw
        case rel => exact ⟨j, by omega, by go_num, HNX.out, HBW.out⟩
        case measure => have := HJK.out; simp [intOf]; omega
      · have HLO : Hid (∀ i (h : i < G.length), i < k → 0 ≤ Ev.gcmp l g.l G[i].l) := fun i h hi => by
          have hjk := HJK.out
          have h1 := Srt.sorted_le ((Ev.gcmp_ord l).on Gr.l) HSO.out (i := i) (j := j) (by omega) hjG
          have h2 : ¬ Ev.gcmp l g.l G[j].l < 0 := by rw [HOD.out]; exact ho
          have h3 := (Ev.gcmp_ord l).le_trans (x := G[i].l) (y := G[j].l) (z := g.l) h1 h2
          omega
        go_wp2_with fail
        repeat' (first | (refine hZ _ _ ?_; clear hZ) | (refine hZ _ ?_; clear hZ) | (refine hZ ?_; clear hZ) | rw [again_nil] | rw [walk_fin] | ((first | rw [walk_take] | rw [walk_run] | rw [again_cons]); intro Z hZ; simp only [sel, List.getElem?_toArray, List.getElem?_cons_zero, List.getElem?_cons_succ]; go_wp2_with (fail)))
        generalize W5 = WW at HBW ⊢
        clear q5 hji
        generalize (some (⟨gb, go, none⟩ : Addr)) = A at HG ⊢
        have HMG : Hid (Srt.mg (fun x y : Gr => Ev.gcmp l x.l y.l) G [g] = G.take k ++ g :: G.drop k) := by
          show _ = _
          conv => lhs; rw [← List.take_append_drop k G]
          refine Srt.mg_one _ _ g (fun s hs => ?_) (fun s hs => ?_)
          · obtain ⟨j, hj, rfl⟩ := List.getElem_of_mem hs
            rw [List.getElem_take]
            rw [List.length_take] at hj
            have := HLO.out j (by omega) (by omega)
            omega
          · obtain ⟨j, hj, rfl⟩ := List.getElem_of_mem hs
            rw [List.getElem_drop]
            rw [List.length_drop] at hj
            exact HJ.out.1 (k + j) (by omega) (by omega)
        go_upto_region 4 with fail
        have hoA : EOwn eG3 (WW.alloc (.cells #[g.h] 26)) w.heap.size (some ⟨WW.heap.size, 0, none⟩) 1 [g] := EOwn.new WW [g] (by simp [maxLen]) HBW.out.size #[g.h] rfl
        have hbA : Below WW.heap.size WW (WW.alloc (.cells #[g.h] 26)) := (Below.refl _ _).alloc (Nat.le_refl _) _
        have HBA := Lib.hid (HBW.out.then hbA)
        have hsd : (G.drop k).length = G.length - k := List.length_drop
        have HGA : Hid (ERow eG3 (WW.alloc (.cells #[g.h] 26)) _ G) := HG.out.below HBA.out
        clear hbA
        (try unfold Gr.h at hoA HBA HGA ⊢)
        by_cases hck : c = k
        · have hkk : G.drop k = [] := List.drop_of_length_le (by omega)
          have hrA := HGA.out.take 0
          rw [List.take_zero, ← hkk] at hrA
          go_upto_region 5 with (at_builtin; refine wpList_append_elems eG3 rfl (.tmp 30) (.tmp 33) rfl 1 rfl hoA rfl (G.length - k) rfl hrA hsd.symm (by simp; omega) HBA.out.size ?_; intro A3 c3 w3 ho3 hb3 hg3 ha3)
          have HO3 := Lib.hid ho3
          have HB3 := Lib.hid (HBA.out.trans hb3)
          clear ho3 hb3 hg3 ha3 hoA hrA HGA
          have hoE : EOwn eG3 (w3.alloc (.cells #[] 26)) w.heap.size (some ⟨w3.heap.size, 0, none⟩) 0 [] := EOwn.new w3 [] (by simp [maxLen]) HB3.out.size #[] rfl
          have HBE : Hid (Below w.heap.size w (w3.alloc (.cells #[] 26))) := HB3.out.then ((Below.refl w3.heap.size w3).alloc (Nat.le_refl _) _)
          have hrE : ERow eG3 (w3.alloc (.cells #[] 26)) _ (G.take k) := (HG.out.below HBE.out).take k
          have htk : (G.take k).length = k := by rw [List.length_take]; omega
          go_upto_region 6 with (at_builtin; refine wpList_append_elems eG3 rfl (.tmp 35) (.tmp 38) rfl 0 rfl hoE rfl k rfl hrE htk.symm (by simp; omega) HBE.out.size ?_; intro A4 c4 w4 ho4 hb4 hg4 ha4)
          have HO4 : Hid (EOwn eG3 w4 w.heap.size A3 c3 ([g] ++ G.drop k)) := (HO3.out.alloc (.cells #[] 26)).kept hg4 (by
            cases hA : A3 with
            | none => exact .inl rfl
            | some a => exact .inr (fun e => by
                have := (HO3.out.block a hA).2
                have e : a.block = w3.heap.size := Option.some.inj e
                omega))
          have HB4 := Lib.hid (HBE.out.trans hb4)
          clear hb4 hg4 ha4 hoE hrE
          go_wp2_with (at_builtin; refine wpList_append_elems eG3 rfl (.tmp 40) (.tmp 41) rfl k rfl ho4 (by simp; omega) 1 rfl HO4.out.row (by simp; omega) (by simp; omega) HB4.out.size ?_; intro A5 c5 w5 ho5 hb5 hg5 ha5)
          have HBF := Lib.hid (HB4.out.trans hb5)
          have HO5 : Hid (EOwn eG3 w5 w.heap.size A5 c5 (Srt.mg (fun x y : Gr => Ev.gcmp l x.l y.l) G [g])) := by show EOwn _ _ _ _ _ _; rw [HMG.out]; exact ho5
          have hml : (Srt.mg (fun x y : Gr => Ev.gcmp l x.l y.l) G [g]).length = k + (G.length - k + 1) := by rw [HMG.out]; simp; omega
          clear ho4 ho5 hb5 ha5
          go_ret
          unfold RetG3
          rw [hml]
          exact ⟨A5, c5, congrArg (fun n => Ending.returned (.slice A5 n c5)) (show k + 1 = k + (G.length - k + 1) by omega), HO5.out, HBF.out⟩
        · have hckf : (c = k) = False := by simp [hck]
          have hrA := HGA.out.drop k
          rw [show k * eG3.sz = k from Nat.mul_one k] at hrA
          go_upto_region 5 with (at_builtin; refine wpList_append_elems eG3 rfl (.tmp 30) (.tmp 33) rfl 1 rfl hoA rfl (G.length - k) rfl hrA hsd.symm (by simp; omega) HBA.out.size ?_; intro A3 c3 w3 ho3 hb3 hg3 ha3)
          have HO3 := Lib.hid ho3
          have HB3 := Lib.hid (HBA.out.trans hb3)
          clear ho3 hb3 hg3 ha3 hoA hrA HGA
          have hoE : EOwn eG3 (w3.alloc (.cells #[] 26)) w.heap.size (some ⟨w3.heap.size, 0, none⟩) 0 [] := EOwn.new w3 [] (by simp [maxLen]) HB3.out.size #[] rfl
          have HBE : Hid (Below w.heap.size w (w3.alloc (.cells #[] 26))) := HB3.out.then ((Below.refl w3.heap.size w3).alloc (Nat.le_refl _) _)
          have hrE : ERow eG3 (w3.alloc (.cells #[] 26)) _ (G.take k) := (HG.out.below HBE.out).take k
          have htk : (G.take k).length = k := by rw [List.length_take]; omega
          go_upto_region 6 with (at_builtin; refine wpList_append_elems eG3 rfl (.tmp 35) (.tmp 38) rfl 0 rfl hoE rfl k rfl hrE htk.symm (by simp; omega) HBE.out.size ?_; intro A4 c4 w4 ho4 hb4 hg4 ha4)
          have HO4 : Hid (EOwn eG3 w4 w.heap.size A3 c3 ([g] ++ G.drop k)) := (HO3.out.alloc (.cells #[] 26)).kept hg4 (by
            cases hA : A3 with
            | none => exact .inl rfl
            | some a => exact .inr (fun e => by
                have := (HO3.out.block a hA).2
                have e : a.block = w3.heap.size := Option.some.inj e
                omega))
          have HB4 := Lib.hid (HBE.out.trans hb4)
          clear hb4 hg4 ha4 hoE hrE
          go_wp2_with (at_builtin; refine wpList_append_elems eG3 rfl (.tmp 40) (.tmp 41) rfl k rfl ho4 (by simp; omega) (1 + (G.length - k)) rfl HO4.out.row (by simp; omega) (by simp; omega) HB4.out.size ?_; intro A5 c5 w5 ho5 hb5 hg5 ha5)
          have HBF := Lib.hid (HB4.out.trans hb5)
          have HO5 : Hid (EOwn eG3 w5 w.heap.size A5 c5 (Srt.mg (fun x y : Gr => Ev.gcmp l x.l y.l) G [g])) := by show EOwn _ _ _ _ _ _; rw [HMG.out]; exact ho5
          have hml : (Srt.mg (fun x y : Gr => Ev.gcmp l x.l y.l) G [g]).length = k + (G.length - k + 1) := by rw [HMG.out]; simp; omega
          clear ho4 ho5 hb5 ha5
          go_ret
          unfold RetG3
          rw [hml]
          exact ⟨A5, c5, rfl, HO5.out, HBF.out⟩
end Go.Proofs.Ytknfnhmkiooifaa
end

section
/-
  One group of the document's is set anew, anywhere in the row.
-/
namespace Go.Proofs.Ytknfnhmkiooifaa
set_option linter.unusedSimpArgs false
set_option linter.unusedVariables false
open Go.RowKit
variable {B i c : Nat} {L : List Rw} {W W' : World} {A : Option Addr} {G : List Gr}
/-- A row more in a group: its rows lie in a new block. -/
theorem DLoop.set_ {g k : Nat} (h : DLoop B L i W (some ⟨g, 0, none⟩) c G) (hk : k < G.length) {x : Rw} (hx : x ∈ L) {w3 : World} (hB3 : Below W.heap.size W w3) {A5 : Option Addr} {c5 : Nat}
    (ho5 : EOwn eRw w3 W.heap.size A5 c5 (G[k].l ++ [x])) : DLoop B L (i + 1) (w3.setCell ⟨g, k, none⟩ (.slice A5 (G[k].l ++ [x]).length c5)) (some ⟨g, 0, none⟩) c (G.set k ⟨A5, G[k].l ++ [x], c5⟩) := by
  have hown := h.own.below hB3
  have hgl : g < W.heap.size := (h.own.block _ rfl).2
  have hgr := grown_store w3 g k (.slice A5 (G[k].l ++ [x]).length c5)
  have keep : ∀ (R : Option Addr) (l : List Rw), ERow eRw w3 R l → (l ≠ [] → ∀ a, R = some a → a.block ≠ g) → ERow eRw (w3.setCell ⟨g, k, none⟩ (.slice A5 (G[k].l ++ [x]).length c5)) R l := fun R l hr hn hl => by
    refine hr.keep hgr.size (fun a ha hlt => hgr.block _ hlt ?_) hl
    have := hn (List.length_pos_iff.1 hl) a ha
    simpa using this
  have hm : G[k] ∈ G := List.getElem_mem hk
  have mem : ∀ s ∈ G.set k (⟨A5, G[k].l ++ [x], c5⟩ : Gr), s ∈ G ∨ s = ⟨A5, G[k].l ++ [x], c5⟩ := fun s hs => List.mem_or_eq_of_mem_set hs
  refine ⟨?_, ?_, ?_, ?_, ?_, ?_, ?_, by have := h.size; have := hB3.size; have := hgr.size; omega⟩
  · have := hown.store (j := k) (k := 0) hk (by decide) (⟨A5, G[k].l ++ [x], c5⟩ : Gr) (.slice A5 (G[k].l ++ [x]).length c5) rfl
    rw [show k * eG3.sz + 0 = k from Nat.mul_one _] at this
    exact this
  · intro s hs
    rcases mem s hs with hs | rfl
    · refine keep _ _ ((h.rows s hs).below hB3) fun hn a ha => ?_
      exact h.ne s hs hn a ha _ rfl
    · refine keep _ _ ho5.row fun hn a ha => ?_
      have ha : A5 = some a := ha
      have := (ho5.block a ha).1
      omega
  · intro s hs y hy
    rcases mem s hs with hs | rfl
    · exact h.mem s hs y hy
    · rcases List.mem_append.1 hy with hy | hy
      · exact h.mem _ hm y hy
      · rw [List.mem_singleton.1 hy]; exact hx
  · intro s hs
    rcases mem s hs with hs | rfl
    · exact h.cap s hs
    · exact ⟨ho5.cap, ho5.capMax⟩
  · intro s hs hn a ha y hy
    cases hy
    rcases mem s hs with hs | rfl
    · exact h.ne s hs hn a ha _ rfl
    · have ha : A5 = some a := ha
      have := (ho5.block a ha).1
      show a.block ≠ g
      omega
  · intro s hs hn
    rcases mem s hs with hs | rfl
    · exact h.nil s hs hn
    · have hn : A5 = none := hn
      rw [hn] at ho5
      rcases ho5.form with ⟨-, -, h⟩ | ⟨g, h, -⟩
      · simp at h
      · cases h
  · intro s hs
    rcases mem s hs with hs | rfl
    · have := h.len s hs; omega
    · have := h.len _ hm
      simp
      omega
namespace Ev
/-- The last of the groups that are like z, among the first k. -/
theorem setF {cmp : Rw → Rw → Int} (ho : Srt.Ord cmp) {C : List (List Rw)} (h : Apart cmp C) (z : Rw) {k : Nat} (hk : k < C.length) (he : cmp (firstR C[k]) z = 0) : collStep cmp C z = C.set k (C[k] ++ [z]) := by
  unfold collStep
  rw [if_pos ⟨C[k], List.getElem_mem hk, he⟩]
  refine List.ext_getElem (by simp) fun j h1 h2 => ?_
  rw [List.getElem_map, List.getElem_set]
  unfold collF
  by_cases hj : k = j
  · subst hj; rw [if_pos rfl, if_pos he]
  · rw [if_neg hj, if_neg]
    intro e
    have hjC : j < C.length := by simpa using h1
    have h3 : cmp (firstR C[k]) (firstR C[j]) = 0 := by
      have e2 := ho.anti z (firstR C[j])
      have e3 := ho.anti (firstR C[k]) z
      have e4 := ho.anti (firstR C[k]) (firstR C[j])
      have t1 := ho.trans (firstR C[k]) z (firstR C[j]) (by omega) (by omega)
      have t2 := ho.trans (firstR C[j]) z (firstR C[k]) (by omega) (by omega)
      omega
    rcases Nat.lt_or_gt_of_ne hj with hl | hl
    · exact List.pairwise_iff_getElem.1 h.ap k j hk hjC hl h3
    · exact List.pairwise_iff_getElem.1 h.ap j k hjC hk hl (by have := ho.anti (firstR C[k]) (firstR C[j]); omega)
theorem noneF {cmp : Rw → Rw → Int} {C : List (List Rw)} (z : Rw) (he : ∀ (k : Nat) (hk : k < C.length), cmp (firstR C[k]) z ≠ 0) : collStep cmp C z = C ++ [[z]] := by
  unfold collStep
  rw [if_neg]
  rintro ⟨g, hg, h⟩
  obtain ⟨k, hk, rfl⟩ := List.getElem_of_mem hg
  exact he k hk h
end Ev
end Go.Proofs.Ytknfnhmkiooifaa
end

section
/-
  The contract of the document's Rows.
-/
namespace Go.Proofs.Ytknfnhmkiooifaa
set_option linter.unusedSimpArgs false
set_option linter.unusedVariables false
open Go.RowKit

/-- Two rows, element by element. -/
def All2 {α β : Type} (P : α → β → Prop) (X : List α) (Y : List β) : Prop := X.length = Y.length ∧ ∀ (i : Nat) (h : i < X.length) (h' : i < Y.length), P X[i] Y[i]
theorem All2.nil {α β : Type} {P : α → β → Prop} : All2 P [] [] := ⟨rfl, fun i h => by simp at h⟩
theorem All2.snoc {α β : Type} {P : α → β → Prop} {X : List α} {Y : List β} {x : α} {y : β} (h : All2 P X Y) (hx : P x y) : All2 P (X ++ [x]) (Y ++ [y]) := by
  refine ⟨by simp [h.1], fun i h1 h2 => ?_⟩
  have e := h.1
  rw [List.length_append, List.length_singleton] at h1 h2
  by_cases hi : i < X.length
  · rw [List.getElem_append_left hi, List.getElem_append_left (by omega)]
    exact h.2 i hi (by omega)
  · obtain rfl : i = X.length := by omega
    rw [List.getElem_append_right (Nat.le_refl _), List.getElem_append_right (by omega)]
    simpa using hx
namespace Ev
/-- Rows of values as the document may hold them. -/
def DvR (S V : List (List Va)) : Prop := All2 (All2 Dv) S V
end Ev
set_option maxRecDepth 100000 in
set_option maxHeartbeats 8000000 in
theorem drows_any (w : World) (q : Qr) (A : Option Addr) (c : Nat) (G : List Gr) (hq : QrIn w q) (hG : ERow eG3 w A G) (hR : ∀ r ∈ G, RowsOk w r.a r.l) (hl : G.length ≤ 1000000) :
    Calls Try.prog 38 #[q.v, .slice A G.length c] w (RetRows w (fun R => Ev.DvR ((G.map Gr.l).map (Ev.rowV q.items)) R)) := by
  have HQ := Lib.hid hq
  have HG := Lib.hid hG
  have HR := Lib.hid hR
  have hil := hq.il
  obtain ⟨D, hD⟩ : ∃ D, (G.map Gr.l).map (Ev.rowV q.items) = D := ⟨_, rfl⟩
  rw [hD]
  have HD := Lib.hid hD
  clear hq hG hR hD
  go_enter Try.func38, Try.ntmps38
  go_upto_region 1 with (refine wpList_box_qr rfl (.tmp 0) rfl q rfl ?_; intro W1 hb1 hz1 hB1)
  have HB1 := Lib.hid hB1
  have HBK := Lib.hid hb1
  have hw1 : w.heap.size ≤ W1.heap.size := hB1.size
  generalize hg2 : w.heap.size = g2 at HBK ⊢
  have HG2 := Lib.hid hg2
  clear hB1 hb1 hz1 hg2
  have HST : Hid (RLoop W1.heap.size W1 none 0 [] ∧ Ev.DvR (((G.take 0).map Gr.l).map (Ev.rowV q.items)) [] ∧ Below W1.heap.size W1 W1) := ⟨RLoop.start (Nat.le_refl _), All2.nil, Below.refl _ _⟩
  go_upto_region 3 with fail
  go_loopw [5, 6] (fun v5 iv wr => ∃ (i : Nat) (A5 : Option Addr) (c5 : Nat) (R : List Rw), i ≤ G.length ∧ R.length = i ∧ iv = .int .i64 (i : Int) ∧ v5 = .slice A5 i c5 ∧ Hid (RLoop W1.heap.size wr A5 c5 R ∧ Ev.DvR (((G.take i).map Gr.l).map (Ev.rowV q.items)) (R.map Rw.l) ∧ Below W1.heap.size W1 wr)) (fun _ iv _ => G.length - (intOf iv).toNat)
  case atStart => exact ⟨0, none, 0, [], Nat.zero_le _, rfl, by go_num, rfl, HST.out⟩
  case round =>
    obtain ⟨i, A5, c5, R, hi, hRl, rfl, rfl, HJ⟩ := hrel
    have HRL := Lib.hid hRl
    obtain ⟨wo, rfl⟩ : ∃ wo, wo = wr := ⟨_, rfl⟩
    clear HST hRl
    by_cases hlt : i < G.length
    · have hii : (i : Int) < (G.length : Int) := by omega
      obtain ⟨r, hr⟩ : ∃ r, G[i] = r := ⟨_, rfl⟩
      have HRM : Hid (r ∈ G) := by show _ ∈ _; rw [← hr]; exact List.getElem_mem hlt
      have HTK : Hid (G.take (i + 1) = G.take i ++ [r]) := by show _ = _; rw [List.take_succ_eq_append_getElem hlt, hr]
      have HGW : Hid (∀ W, Below wo.heap.size wo W → ∃ gb go, A = some ⟨gb, go, none⟩ ∧ W.cell? ⟨gb, go + i, none⟩ = some r.h) := fun W hW => by
        obtain ⟨gb, go, e, -, h⟩ := g3_at (HG.out.below (HB1.out.trans ((HJ.out.2.2.then hW).mono hw1))) hlt
        exact ⟨gb, go, e, by rw [h, hr]⟩
      have HRW : Hid (RowsOk wo r.a r.l) := (HR.out r HRM.out).below (HB1.out.trans (HJ.out.2.2.mono hw1))
      have HQW : Hid (QrIn wo q) := HQ.out.below (HB1.out.trans (HJ.out.2.2.mono hw1))
      have HBW : Hid (Blk wo g2 40 q.cells) := HBK.out.below HJ.out.2.2
      clear hr
      have HS2 : Hid (EOwn eVa wo wo.heap.size none 0 [] ∧ All2 Ev.Dv (Ev.rowV (q.items.take 0) r.l) [] ∧ Below wo.heap.size wo wo) := ⟨EOwn.nil _ _, All2.nil, Below.refl _ _⟩
      go_upto_region 7 with fail
      go_loopw [7, 8] (fun v7 kv wr => ∃ (k : Nat) (A7 : Option Addr) (c7 : Nat) (vs : List Va), k ≤ q.items.length ∧ kv = .int .i64 (k : Int) ∧ v7 = .slice A7 k c7 ∧ Hid (vs.length = k ∧ (∀ v ∈ vs, v.ok) ∧ EOwn eVa wr wo.heap.size A7 c7 vs ∧ All2 Ev.Dv (Ev.rowV (q.items.take k) r.l) vs ∧ Below wo.heap.size wo wr)) (fun _ kv _ => q.items.length - (intOf kv).toNat)
      case atStart => exact ⟨0, none, 0, [], Nat.zero_le _, by go_num, rfl, rfl, (by intro v hv; cases hv), HS2.out⟩
      case round =>
        obtain ⟨k, A7, c7, vs, hk, rfl, rfl, HK⟩ := hrel
        clear HS2
        obtain ⟨k1, k2, k3, k4, k5⟩ := HK.out
        by_cases hkl : k < q.items.length
        · have hki : (k : Int) < (q.items.length : Int) := by omega
          have HNI : Hid (NodeIn wr.drew q.items[k]) := node_below (HQW.out.iin _ (List.getElem_mem hkl)) k5.drewR
          have HTI : Hid (q.items.take (k + 1) = q.items.take k ++ [q.items[k]]) := List.take_succ_eq_append_getElem hkl
          have HIW : Hid (ERow eNd wr.drew q.ia q.items) := HQW.out.i.below k5.drewR
          have HRD : Hid (RowsOk wr.drew r.a r.l) := HRW.out.below k5.drewR
          have HKE := Lib.hid k3
          have HKL : Hid (vs.length = k ∧ (∀ v ∈ vs, v.ok) ∧ All2 Ev.Dv (Ev.rowV (q.items.take k) r.l) vs) := ⟨k1, k2, k4⟩
          have HKB := Lib.hid k5
          obtain ⟨-, -, c6, -⟩ := Blk.qr (HBW.out.below k5.drewR)
          have d6 := (Blk.qr (HBW.out.below k5)).2.2.1
          obtain ⟨gb, go, rfl, q0⟩ := HGW.out wr.drew k5.drewR
          obtain ⟨ib, io, hia, -⟩ := HIW.out.at_ hkl
          rw [hia] at HIW c6 d6
          unfold Gr.h at q0
          clear k1 k2 k3 k4 k5 HK hia
          go_upto_region 9 with fail
          clear d6
          generalize hnk : q.items[k] = n at HNI HTI
          have HNK := Lib.hid hnk
          clear hnk
          refine wp_region_plan (.take 0 (.take 1 (.take 2 (.take 3 (.take 4 (.take 5 (.take 6 (.take 7 (.take 8 (.take 9 (.run 10 [0] (.run 11 [0] (.run 12 [] (.take 13 .fin)))))))))))))) (by kernel_rfl) (by kernel_rfl) (by kernel_rfl) (by kernel_rfl) ?_
          repeat' (first | (refine hZ _ _ ?_; clear hZ) | (refine hZ _ ?_; clear hZ) | (refine hZ ?_; clear hZ) | rw [again_nil] | rw [walk_fin] | ((first | rw [walk_take] | rw [walk_run] | rw [again_cons]); intro Z hZ; simp only [sel, List.getElem?_toArray, List.getElem?_cons_zero, List.getElem?_cons_succ]; go_wp2_with (first | (rw [HNK.out]) | (refine wpList_load_nd_at rfl (.tmp 26) rfl HIW.out hkl rfl ?_; rw [HNK.out]))))
          refine (ditem_any _ n r.a r.c r.l HNI.out HRD.out).mono ?_
          rintro e W8 ⟨d, rfl, hd, hB8⟩
          have HVS : Hid (All2 Ev.Dv (Ev.rowV (q.items.take (k + 1)) r.l) (vs ++ [d])) := by
            show All2 _ _ _
            rw [HTI.out]
            unfold Ev.rowV
            rw [List.map_append]
            exact HKL.out.2.2.snoc hd
          have HDO := Lib.hid hd.ok
          have HB8' : Hid (Below wr.heap.size wr W8) := (Below.refl wr.heap.size wr).drewR.trans (hB8.mono (Nat.le_refl _))
          have hoA := (HKE.out.below HB8'.out).alloc (.cells #[.int .i64 d.k, .int .i64 d.n, .float .f64 d.f, txt d.s] 32)
          have hrA := ERow.lit eVa W8 d #[.int .i64 d.k, .int .i64 d.n, .float .f64 d.f, txt d.s] rfl W8.heap.size rfl
          have HBA : Hid (Below wo.heap.size wo (W8.alloc (.cells #[.int .i64 d.k, .int .i64 d.n, .float .f64 d.f, txt d.s] 32)) ∧ wo.heap.size ≤ (W8.alloc (.cells #[.int .i64 d.k, .int .i64 d.n, .float .f64 d.f, txt d.s] 32)).heap.size) := by
            have hx := (HKB.out.then HB8'.out).then ((Below.refl W8.heap.size W8).alloc (Nat.le_refl _) (.cells #[.int .i64 d.k, .int .i64 d.n, .float .f64 d.f, txt d.s] 32))
            exact ⟨hx, hx.size⟩
          clear hB8 hd q0 c6
          unfold Va.v
          go_wp2_with fail
          repeat' (first | (refine hZ _ _ ?_; clear hZ) | (refine hZ _ ?_; clear hZ) | (refine hZ ?_; clear hZ) | rw [again_nil] | rw [walk_fin] | ((first | rw [walk_take] | rw [walk_run] | rw [again_cons]); intro Z hZ; simp only [sel, List.getElem?_toArray, List.getElem?_cons_zero, List.getElem?_cons_succ]; go_wp2_with (at_builtin; refine wpList_append_elems eVa rfl (.tmp 22) (.tmp 33) rfl k rfl hoA HKL.out.1.symm 1 rfl hrA rfl (by have := HKL.out.1; simp; omega) HBA.out.2 ?_; intro A3 c3 w3 ho3 hb3 hg3 ha3)))
          have HF : Hid ((vs ++ [d]).length = k + 1 ∧ (∀ v ∈ vs ++ [d], v.ok) ∧ EOwn eVa w3 wo.heap.size A3 c3 (vs ++ [d]) ∧ All2 Ev.Dv (Ev.rowV (q.items.take (k + 1)) r.l) (vs ++ [d]) ∧ Below wo.heap.size wo w3) := by
            refine ⟨by simp [HKL.out.1], fun v hv => ?_, ho3, HVS.out, HBA.out.1.trans hb3⟩
            rcases List.mem_append.1 hv with hv | hv
            · exact HKL.out.2.1 v hv
            · rw [List.mem_singleton.1 hv]; exact HDO.out
          clear hoA hrA ho3 hb3 hg3 ha3
          go_wp2_with fail
          go_roundw
          case rel => exact ⟨k + 1, A3, c3, _, by omega, by go_num, by rw [HKL.out.1], HF.out⟩
          case measure => simp [intOf]; omega
        · have hki : ¬ (k : Int) < (q.items.length : Int) := by omega
          obtain rfl : k = q.items.length := by omega
          rw [List.take_length] at k4
          have HVK : Hid ((∀ v ∈ vs, v.ok) ∧ All2 Ev.Dv (Ev.rowV q.items r.l) vs ∧ Below wo.heap.size wo wr ∧ EOwn eVa wr wo.heap.size A7 c7 vs) := ⟨k2, k4, k5, k3⟩
          have d6 := (Blk.qr (HBW.out.below k5)).2.2.1
          have hoA := (HJ.out.1.own.below k5).alloc (.cells #[.slice A7 q.items.length c7] 23)
          have hrA := ERow.lit eRw wr ⟨A7, vs, c7⟩ #[.slice A7 q.items.length c7] (by show _ = [Value.slice A7 vs.length c7]; rw [k1]) wr.heap.size rfl
          have hzo : W1.heap.size ≤ (wr.alloc (.cells #[.slice A7 q.items.length c7] 23)).heap.size := by
            have := k5.size
            have := HJ.out.2.2.size
            simp
            omega
          have HKL := Lib.hid k1
          clear k1 k2 k3 k4 k5 HK
          go_wp2_with (at_builtin; refine wpList_append_elems eRw rfl (.tmp 35) (.tmp 37) rfl i rfl hoA HRL.out.symm 1 rfl hrA rfl (by have := HRL.out; simp; omega) hzo ?_; intro A3 c3 w3 ho3 hb3 hg3 ha3)
          have HF : Hid ((R ++ [(⟨A7, vs, c7⟩ : Rw)]).length = i + 1 ∧ RLoop W1.heap.size w3 A3 c3 (R ++ [(⟨A7, vs, c7⟩ : Rw)]) ∧ Ev.DvR (((G.take (i + 1)).map Gr.l).map (Ev.rowV q.items)) ((R ++ [(⟨A7, vs, c7⟩ : Rw)]).map Rw.l) ∧ Below W1.heap.size W1 w3) := by
            refine ⟨by simp [HRL.out], HJ.out.1.one HVK.out.2.2.1 HVK.out.2.2.2 HVK.out.1 ?_ ho3 hg3 ha3, ?_, ((HJ.out.2.2.then HVK.out.2.2.1).then ((Below.refl wr.heap.size wr).alloc (Nat.le_refl _) _)).trans hb3⟩
            · show wr.alloc (.cells #[.slice A7 vs.length c7] _) = _
              rw [HKL.out]
            · rw [HTK.out, List.map_append, List.map_append, List.map_append]
              exact HJ.out.2.1.snoc HVK.out.2.1
          clear hoA hrA ho3 hb3 hg3 ha3 d6
          go_roundw
          case rel => exact ⟨i + 1, A3, c3, _, by omega, HF.out.1, by go_num, by rw [HRL.out], HF.out.2⟩
          case measure => simp [intOf]; omega
    · have hii : ¬ (i : Int) < (G.length : Int) := by omega
      obtain rfl : i = G.length := by omega
      have HF : Hid (RetRows w (fun R => Ev.DvR D R) (.returned (.slice A5 G.length c5)) wo) := by
        obtain ⟨h1, h2, h3⟩ := HJ.out
        rw [List.take_length, HD.out] at h2
        have hz := HB1.out.size
        rw [← HRL.out]
        exact ⟨A5, c5, R, rfl, ⟨h1.own.mono hz, h1.rows, h1.cap, h1.ok, h1.ne, Nat.le_trans hz h1.size⟩, h2, HB1.out.trans (h3.mono hz)⟩
      clear HJ
      go_wp2_with fail
      go_ret
      exact HF.out
end Go.Proofs.Ytknfnhmkiooifaa
end

section
/-
  The contract of the document's Groups.
-/
namespace Go.Proofs.Ytknfnhmkiooifaa
set_option linter.unusedSimpArgs false
set_option linter.unusedVariables false
open Go.RowKit
namespace Ev
def baseC (gr : Bool) (l : List So) (X : List Rw) : List (List Rw) := if gr then collect (rcmp l) X else X.map fun x => [x]
theorem baseC_none {gr : Bool} {l : List So} {X : List Rw} {C : List (List Rw)} (z : Rw) (hC : C = baseC gr l X) (h : ∀ (k : Nat) (hk : k < C.length), ¬ (gr = true ∧ rcmp l (firstR C[k]) z = 0)) : baseC gr l (X ++ [z]) = C ++ [[z]] := by
  subst hC
  unfold baseC at h ⊢
  cases gr with
  | false => simp
  | true =>
    simp only [↓reduceIte] at h ⊢
    rw [collect_snoc]
    exact noneF z fun k hk e => h k hk ⟨trivial, e⟩
theorem baseC_set {gr : Bool} {l : List So} {X : List Rw} {C : List (List Rw)} (z : Rw) (hC : C = baseC gr l X) {k : Nat} (hk : k < C.length) (h : gr = true ∧ rcmp l (firstR C[k]) z = 0) : baseC gr l (X ++ [z]) = C.set k (C[k] ++ [z]) := by
  obtain ⟨rfl, h⟩ := h
  unfold baseC at hC ⊢
  simp only [↓reduceIte] at hC ⊢
  subst hC
  rw [collect_snoc]
  exact setF (rcmp_ord l) (apart_collect _ _) z hk h
theorem baseC_ne {gr : Bool} {l : List So} {X : List Rw} : ∀ g ∈ baseC gr l X, g ≠ [] := by
  unfold baseC
  cases gr with
  | false => intro g hg; simp at hg; obtain ⟨x, -, rfl⟩ := hg; simp
  | true => exact (apart_collect _ _).ne
end Ev
theorem put_take {cmp : Gr → Gr → Int} {H K : List Gr} {j : Nat} {g : Gr} (hk : K = Srt.ssort cmp (H.take j)) (hj : j < H.length) (ht : H.take (j + 1) = H.take j ++ [g]) : Srt.mg cmp K [g] = Srt.ssort cmp (H.take (j + 1)) ∧ (Srt.mg cmp K [g]).length = j + 1 := by
  have h1 : Srt.mg cmp K [g] = Srt.ssort cmp (H.take (j + 1)) := by rw [ht, Srt.ssort_snoc, ← hk]
  refine ⟨h1, ?_⟩
  rw [h1, Srt.ssort_length, List.length_take]
  omega
/-- What the innermost loop has found: the place of the last group that is like z, among the first k. -/
def AtIs (gr : Bool) (l : List So) (G : List Gr) (z : Rw) (k : Nat) (a : Int) : Prop := (a = -1 ∧ ∀ (j : Nat) (h : j < G.length), j < k → ¬ (gr = true ∧ Ev.rcmp l (Ev.firstR G[j].l) z = 0)) ∨ ∃ (t : Nat) (h : t < G.length), t < k ∧ a = (t : Int) ∧ gr = true ∧ Ev.rcmp l (Ev.firstR G[t].l) z = 0
theorem AtIs.miss {gr : Bool} {l : List So} {G : List Gr} {z : Rw} {k : Nat} {a : Int} (h : AtIs gr l G z k a) (hk : k < G.length) (hn : ¬ (gr = true ∧ Ev.rcmp l (Ev.firstR G[k].l) z = 0)) : AtIs gr l G z (k + 1) a := by
  rcases h with ⟨h1, h2⟩ | ⟨t, h, h1, h2⟩
  · refine .inl ⟨h1, fun j hj hl => ?_⟩
    by_cases e : j = k
    · subst e; exact hn
    · exact h2 j hj (by omega)
  · exact .inr ⟨t, h, by omega, h2⟩
/-- What the document's Groups answers. -/
def RetD3 (w : World) (L : List (List Rw)) (e : Ending) (w' : World) : Prop := ∃ A c G, e = .returned (.slice A (List.length G) c) ∧ ERow eG3 w' A G ∧ (∀ r ∈ G, RowsOk w' r.a r.l) ∧ G.length ≤ c ∧ c ≤ maxLen ∧ G.map Gr.l = L ∧ Below w.heap.size w w'
/-- Groups that lie in a row, of the values Lg. -/
def AllAt (W0 : World) (Lg : List (List Rw)) (v : Value) (W : World) : Prop := ∃ (A : Option Addr) (c : Nat) (G : List Gr), v = .slice A G.length c ∧ ERow eG3 W A G ∧ (∀ r ∈ G, RowsOk W r.a r.l) ∧ G.length ≤ 100001 ∧ G.map Gr.l = Lg ∧ Below W0.heap.size W0 W
namespace Ev
def baseE (gr : Bool) (group : List Int) (X : List Rw) : List (List Rw) := if gr then (if group = [] ∧ collect (rcmp (byOf group)) X = [] then [[]] else collect (rcmp (byOf group)) X) else X.map fun x => [x]
theorem baseE_one {group : List Int} {X : List Rw} (hg : group = []) (h : baseC true (byOf group) X = []) : baseE true group X = [[]] := by
  unfold baseC at h
  simp only [↓reduceIte] at h
  unfold baseE
  rw [if_pos rfl, if_pos ⟨hg, h⟩]
theorem baseE_same {gr : Bool} {group : List Int} {X : List Rw} (h : ¬ (gr = true ∧ group = [] ∧ baseC gr (byOf group) X = [])) : baseE gr group X = baseC gr (byOf group) X := by
  unfold baseE baseC
  cases gr with
  | false => rfl
  | true =>
    simp only [↓reduceIte]
    rw [if_neg]
    intro e
    exact h ⟨rfl, e.1, by unfold baseC; simpa using e.2⟩
theorem baseE_base {gr : Bool} {group : List Int} {X : List Rw} : baseG gr group X = if gr then Srt.ssort (gcmp (byOf group)) (baseE gr group X) else baseE gr group X := by
  rw [← baseD_eq]
  unfold baseD baseE
  cases gr <;> rfl
end Ev
set_option maxRecDepth 100000 in
set_option maxHeartbeats 8000000 in
theorem dgroups_any (w : World) (q : Qr) (A : Option Addr) (c : Nat) (L : List Rw) (hq : QrIn w q) (hL : RowsOk w A L) (hll : L.length ≤ 100000) :
    Calls Try.prog 37 #[q.v, .slice A L.length c] w (RetD3 w (Ev.groupsV q.grouped q.group q.order L)) := by
  have HQ := Lib.hid hq
  have HL := Lib.hid hL
  have hgl := hq.gl
  clear hq hL
  go_enter Try.func37, Try.ntmps37
  go_upto_region 1 with (refine wpList_box_qr rfl (.tmp 0) rfl q rfl ?_; intro W1 hb1 hz1 hB1)
  have HB1 := Lib.hid hB1
  have hgz : w.heap.size < W1.heap.size := by omega
  have HST : Hid (Blk W1 w.heap.size 40 q.cells ∧ w.heap.size + 1 ≤ W1.heap.size ∧ EOwn eSo W1 (w.heap.size + 1) none 0 (Ev.byOf (q.group.take 0)) ∧ Below w.heap.size w W1) := ⟨hb1, hz1, EOwn.nil _ _, hB1⟩
  clear hB1 hz1 hb1
  generalize hg2 : w.heap.size = g2 at HST hgz ⊢
  have HG2 := Lib.hid hg2
  clear hg2
  go_wp2_with fail
  go_loopw [6, 7] (fun v6 iv wr => ∃ (k : Nat) (A6 : Option Addr) (c6 : Nat), k ≤ q.group.length ∧ v6 = .slice A6 k c6 ∧ iv = .int .i64 (k : Int) ∧ Hid (Blk wr g2 40 q.cells ∧ g2 + 1 ≤ wr.heap.size ∧ EOwn eSo wr (g2 + 1) A6 c6 (Ev.byOf (q.group.take k)) ∧ Below g2 w wr)) (fun _ iv _ => q.group.length - (intOf iv).toNat)
  case atStart => exact ⟨0, none, 0, Nat.zero_le _, rfl, by go_num, HST.out⟩
  case round =>
    obtain ⟨k, A6, c6, hk, rfl, rfl, HJ⟩ := hrel
    clear HST
    obtain ⟨b2, hz, ho, hB⟩ := HJ.out
    obtain ⟨c4, -⟩ := Blk.qr b2
    have HB := Lib.hid hB
    clear HJ hB
    have hbl : (Ev.byOf (q.group.take k)).length = k := by unfold Ev.byOf; rw [List.length_map, List.length_take]; omega
    by_cases hlt : k < q.group.length
    · have hii : (k : Int) < (q.group.length : Int) := by omega
      obtain ⟨ab, ao, ha, habl, q0⟩ := int_at (HQ.out.g.below (by rw [HG2.out]; exact HB.out)) hlt
      have HTK : Hid (Ev.byOf (q.group.take (k + 1)) = Ev.byOf (q.group.take k) ++ [⟨q.group[k], false⟩]) := by show _ = _; unfold Ev.byOf; rw [List.take_succ_eq_append_getElem hlt, List.map_append]; rfl
      generalize q.group[k] = gk at q0 HTK ⊢
      go_upto_region 6 with fail
      have hoA := ho.alloc (.cells #[.int .i64 gk, .bool false] 53)
      have hrA := ERow.lit eSo wr ⟨gk, false⟩ #[.int .i64 gk, .bool false] rfl wr.heap.size rfl
      have hne6 : ∀ a, A6 = some a → g2 + 1 ≤ a.block := fun a ha => (ho.block a ha).1
      have b2A := b2.alloc (.cells #[.int .i64 gk, .bool false] 53)
      have HBA : Hid (Below g2 w (wr.alloc (.cells #[.int .i64 gk, .bool false] 53))) := HB.out.trans (((Below.refl wr.heap.size wr).alloc (Nat.le_refl _) _).mono (by omega))
      have hnb2 : some g2 ≠ A6.map (·.block) := by
        intro e
        cases hA : A6 with
        | none => rw [hA] at e; simp at e
        | some a => rw [hA] at e; have := hne6 a hA; simp at e; omega
      clear hne6
      go_wp2_with (at_builtin; refine wpList_append_elems eSo rfl (.tmp 23) (.tmp 30) rfl k rfl hoA hbl.symm 1 rfl hrA rfl (by simp; omega) (by simp; omega) ?_; intro A3 c3 w3 ho3 hb3 hg3 ha3)
      have HR : Hid (Blk w3 g2 40 q.cells ∧ g2 + 1 ≤ w3.heap.size ∧ EOwn eSo w3 (g2 + 1) A3 c3 (Ev.byOf (q.group.take (k + 1))) ∧ Below g2 w w3) := by
        refine ⟨b2A.grown hg3 hnb2, ?_, ?_, HBA.out.trans (hb3.mono (by omega))⟩
        · have h1 := hb3.size
          simp at h1
          omega
        · rw [HTK.out]; exact ho3
      clear ho3 hb3 hg3 ha3 b2A hoA hrA hnb2 q0 c4 b2 ho habl
      go_roundw
      case rel => exact ⟨k + 1, A3, c3, by omega, by simp, by go_num, HR.out⟩
      case measure => simp [intOf]; omega
    · have hii : ¬ (k : Int) < (q.group.length : Int) := by omega
      obtain rfl : k = q.group.length := by omega
      rw [List.take_length] at ho
      have HS2 := Lib.hid b2
      have HS6 := Lib.hid ho.row
      clear b2 ho hbl hk hlt
      go_upto_region 8 with fail
      clear c4
      obtain ⟨Wb, rfl⟩ : ∃ Wb, Wb = wr := ⟨_, rfl⟩
      have HST : Hid (DLoop Wb.heap.size L 0 Wb none 0 [] ∧ ([] : List Gr).map Gr.l = Ev.baseC q.grouped (Ev.byOf q.group) (L.take 0) ∧ Below Wb.heap.size Wb Wb) := ⟨DLoop.start (Nat.le_refl _), by unfold Ev.baseC; cases q.grouped <;> rfl, Below.refl _ _⟩
      go_loopw [5, 8] (fun v5 iv wr => ∃ (i : Nat) (A5 : Option Addr) (c5 : Nat) (G : List Gr), i ≤ L.length ∧ G.length ≤ i ∧ iv = .int .i64 (i : Int) ∧ v5 = .slice A5 G.length c5 ∧ Hid (DLoop Wb.heap.size L i wr A5 c5 G ∧ G.map Gr.l = Ev.baseC q.grouped (Ev.byOf q.group) (L.take i) ∧ Below Wb.heap.size Wb wr)) (fun _ iv _ => L.length - (intOf iv).toNat)
      case atStart => exact ⟨0, none, 0, [], Nat.zero_le _, Nat.le_refl _, by go_num, rfl, HST.out⟩
      case round =>
        obtain ⟨i, A5, c5, G, hi, hGi, rfl, rfl, HJ⟩ := hrel
        obtain ⟨wo, rfl⟩ : ∃ wo, wo = wr := ⟨_, rfl⟩
        clear HST
        by_cases hlt : i < L.length
        · have hii : (i : Int) < (L.length : Int) := by omega
          have HLR : Hid (RowsOk wo A L) := HL.out.below (by rw [HG2.out]; exact HB.out.trans (HJ.out.2.2.mono (by omega)))
          obtain ⟨x, hx⟩ : ∃ x, L[i] = x := ⟨_, rfl⟩
          have HXL : Hid (x ∈ L) := by show _ ∈ _; rw [← hx]; exact List.getElem_mem hlt
          have HXI : Hid (∀ W, Below wo.heap.size wo W → ∃ b o, A = some ⟨b, o, none⟩ ∧ W.cell? ⟨b, o + i, none⟩ = some x.v) := fun W hW => by
            obtain ⟨b, o, e, -, h⟩ := rw_at (HLR.out.r.below hW) hlt
            exact ⟨b, o, e, by rw [h, hx]⟩
          have HTK : Hid (L.take (i + 1) = L.take i ++ [x]) := by show _ = _; rw [List.take_succ_eq_append_getElem hlt, hx]
          clear hx
          have HS0 : Hid (AtIs q.grouped (Ev.byOf q.group) G x 0 (-1) ∧ Below wo.heap.size wo wo) := ⟨.inl ⟨rfl, fun j _ h => by omega⟩, Below.refl _ _⟩
          go_upto_region 12 with fail
          go_loopw [9, 10] (fun av kv wr => ∃ (a : Int) (k : Nat), k ≤ G.length ∧ av = .int .i64 a ∧ kv = .int .i64 (k : Int) ∧ Hid (AtIs q.grouped (Ev.byOf q.group) G x k a ∧ Below wo.heap.size wo wr)) (fun _ kv _ => G.length - (intOf kv).toNat)
          case atStart => exact ⟨-1, 0, Nat.zero_le _, by go_num, by go_num, HS0.out⟩
          case round =>
            obtain ⟨a, k, hk, rfl, rfl, HK⟩ := hrel
            clear HS0
            by_cases hkl : k < G.length
            · have hki : (k : Int) < (G.length : Int) := by omega
              obtain ⟨-, c5', -⟩ := Blk.qr (HS2.out.below ((HJ.out.2.2.trans (HK.out.2.mono HJ.out.1.size))))
              rcases Bool.eq_false_or_eq_true q.grouped with hgr | hgr
              · rw [hgr] at c5'
                have HGR := Lib.hid hgr
                clear hgr
                obtain ⟨g9, rfl⟩ : ∃ g9, A5 = some ⟨g9, 0, none⟩ := by
                  rcases HJ.out.1.own.form with ⟨-, -, h⟩ | ⟨g9, h, -⟩
                  · rw [h] at hkl; simp at hkl
                  · exact ⟨g9, h⟩
                have q9 : wr.drew.cell? ⟨g9, k, none⟩ = some G[k].h := by
                  have := (HJ.out.1.own.below HK.out.2).cell (j := k) (k := 0) (v := G[k].h) hkl rfl
                  rw [show k * eG3.sz + 0 = k from Nat.mul_one _] at this
                  exact this
                have c5' : wr.drew.cell? _ = _ := c5'
                obtain ⟨⟨ra, rl, rc⟩, hr⟩ : ∃ r, G[k] = r := ⟨_, rfl⟩
                have hrm : (⟨ra, rl, rc⟩ : Gr) ∈ G := by rw [← hr]; exact List.getElem_mem hkl
                have hrn : rl ≠ [] := Ev.baseC_ne rl (by rw [← HJ.out.2.1]; exact List.mem_map.2 ⟨_, hrm, rfl⟩)
                have hrp : 0 < rl.length := List.length_pos_iff.2 hrn
                obtain ⟨rb, ro, e, -, q3⟩ := rw_at ((HJ.out.1.rows _ hrm).below HK.out.2) hrp
                have e : ra = _ := e
                subst e
                have q3 : wr.drew.cell? ⟨rb, ro + 0, none⟩ = some (rl[0]).v := q3
                obtain ⟨y, hy⟩ : ∃ y, rl[0] = y := ⟨_, rfl⟩
                have hyL : y ∈ L := HJ.out.1.mem _ hrm y (by rw [← hy]; exact List.getElem_mem _)
                have HFR : Hid (Ev.firstR G[k].l = y) := by
                  show _ = _
                  rw [hr, ← hy]
                  cases rl with
                  | nil => exact absurd rfl hrn
                  | cons z zs => rfl
                rw [hy, Nat.add_zero] at q3
                rw [hr] at q9
                unfold Gr.h at q9
                obtain ⟨lb, lo, rfl, q0⟩ := HXI.out wr.drew HK.out.2.drewR
                have HWR : Hid (Below Wb.heap.size Wb wr.drew) := (HJ.out.2.2.trans (HK.out.2.mono HJ.out.1.size)).drewR
                have HCALL := Lib.hid (rordr_any wr.drew A6 y.a x.a c6 y.c x.c (Ev.byOf q.group) y.l x.l (HS6.out.below HWR.out) (by
                  intro s hs
                  obtain ⟨n, hn, rfl⟩ := List.mem_map.1 hs
                  exact HQ.out.gin n hn) (by unfold Ev.byOf; rw [List.length_map]; omega) ((HLR.out.in_ y hyL).below HK.out.2.drewR) ((HLR.out.in_ x HXL.out).below HK.out.2.drewR))
                rw [show (Ev.byOf q.group).length = q.group.length by unfold Ev.byOf; simp] at HCALL
                clear hr hrm hrn hy hyL
                unfold Rw.v at q0 q3
                go_upto_region 14 with fail
                refine wp_region_plan (.take 0 (.take 1 (.take 2 (.take 3 (.take 4 (.take 5 (.take 6 (.take 7 (.take 8 (.take 9 (.take 10 (.take 11 (.take 12 (.take 13 (.run 14 [] (.take 15 (.take 16 .fin))))))))))))))))) (by kernel_rfl) (by kernel_rfl) (by kernel_rfl) (by kernel_rfl) ?_
                repeat' (first | (refine hZ _ _ ?_; clear hZ) | (refine hZ _ ?_; clear hZ) | (refine hZ ?_; clear hZ) | rw [again_nil] | rw [walk_fin] | ((first | rw [walk_take] | rw [walk_run] | rw [again_cons]); intro Z hZ; simp only [sel, List.getElem?_toArray, List.getElem?_cons_zero, List.getElem?_cons_succ]; go_wp2_with (fail)))
                refine (show Calls _ _ #[.slice A6 q.group.length c6, y.v, x.v] _ _ from HCALL.out).mono ?_
                rintro e W5 ⟨rfl, hB5⟩
                have c5' := cell_later hB5 c5'
                have q0 := cell_later hB5 q0
                have q3 := cell_later hB5 q3
                have q9 := cell_later hB5 q9
                have HB5 := Lib.hid ((Below.refl wr.heap.size wr).drewR.trans (hB5.mono (Nat.le_refl _)))
                have HB6 : Hid (Below wo.heap.size wo W5) := HK.out.2.then HB5.out
                obtain ⟨o, ho⟩ : ∃ o, Ev.ordR (Ev.byOf q.group) y.l x.l = o := ⟨_, rfl⟩
                have HO : Hid (Ev.rcmp (Ev.byOf q.group) (Ev.firstR G[k].l) x = o) := by show _ = _; rw [HFR.out]; exact ho
                rw [ho]
                clear hB5 HCALL ho
                by_cases hoz : o = 0
                · have HR : Hid (AtIs q.grouped (Ev.byOf q.group) G x (k + 1) (k : Int) ∧ Below wo.heap.size wo W5) := ⟨.inr ⟨k, hkl, by omega, rfl, HGR.out, by rw [HO.out]; exact hoz⟩, HB6.out⟩
                  subst hoz
                  go_wp2_with fail
                  repeat' (first | (refine hZ _ _ ?_; clear hZ) | (refine hZ _ ?_; clear hZ) | (refine hZ ?_; clear hZ) | rw [again_nil] | rw [walk_fin] | ((first | rw [walk_take] | rw [walk_run] | rw [again_cons]); intro Z hZ; simp only [sel, List.getElem?_toArray, List.getElem?_cons_zero, List.getElem?_cons_succ]; go_wp2_with (fail)))
                  go_wp2_with fail
                  go_roundw
                  case rel => exact ⟨(k : Int), k + 1, by omega, by go_num, by go_num, HR.out⟩
                  case measure => simp [intOf]; omega
                · have HR : Hid (AtIs q.grouped (Ev.byOf q.group) G x (k + 1) a ∧ Below wo.heap.size wo W5) := ⟨HK.out.1.miss hkl (fun e => hoz (by rw [← HO.out]; exact e.2)), HB6.out⟩
                  have hob : (o == 0) = false := by simpa using hoz
                  go_wp2_with fail
                  repeat' (first | (refine hZ _ _ ?_; clear hZ) | (refine hZ _ ?_; clear hZ) | (refine hZ ?_; clear hZ) | rw [again_nil] | rw [walk_fin] | ((first | rw [walk_take] | rw [walk_run] | rw [again_cons]); intro Z hZ; simp only [sel, List.getElem?_toArray, List.getElem?_cons_zero, List.getElem?_cons_succ]; go_wp2_with (fail)))
                  go_wp2_with fail
                  go_roundw
                  case rel => exact ⟨a, k + 1, by omega, by go_num, by go_num, HR.out⟩
                  case measure => simp [intOf]; omega
              · rw [hgr] at c5'
                have HR : Hid (AtIs q.grouped (Ev.byOf q.group) G x (k + 1) a ∧ Below wo.heap.size wo wr.drew) := ⟨HK.out.1.miss hkl (fun e => by rw [hgr] at e; cases e.1), HK.out.2.drewR⟩
                have HGR := Lib.hid hgr
                clear hgr
                go_upto_region 14 with fail
                refine wp_region_plan (.take 0 (.take 1 (.take 2 (.take 3 (.take 4 (.take 5 (.take 6 (.take 7 (.take 8 (.take 9 (.take 10 (.take 11 (.take 12 (.take 13 (.run 14 [] (.take 15 (.take 16 .fin))))))))))))))))) (by kernel_rfl) (by kernel_rfl) (by kernel_rfl) (by kernel_rfl) ?_
                repeat' (first | (refine hZ _ _ ?_; clear hZ) | (refine hZ _ ?_; clear hZ) | (refine hZ ?_; clear hZ) | rw [again_nil] | rw [walk_fin] | ((first | rw [walk_take] | rw [walk_run] | rw [again_cons]); intro Z hZ; simp only [sel, List.getElem?_toArray, List.getElem?_cons_zero, List.getElem?_cons_succ]; go_wp2_with (fail)))
                go_wp2_with fail
                go_roundw
                case rel => exact ⟨a, k + 1, by omega, by go_num, by go_num, HR.out⟩
                case measure => simp [intOf]; omega
            · have hki : ¬ (k : Int) < (G.length : Int) := by omega
              obtain rfl : k = G.length := by omega
              obtain ⟨hat, hbw⟩ := HK.out
              have HBW := Lib.hid hbw
              have HJ5 : Hid (DLoop Wb.heap.size L i wr A5 c5 G) := HJ.out.1.below hbw
              have HB7 : Hid (Below Wb.heap.size Wb wr) := HJ.out.2.2.trans (hbw.mono HJ.out.1.size)
              have HGM : Hid (G.map Gr.l = Ev.baseC q.grouped (Ev.byOf q.group) (L.take i)) := HJ.out.2.1
              obtain ⟨lb, lo, rfl, q0⟩ := HXI.out wr hbw
              unfold Rw.v at q0
              clear HK HJ hbw
              rcases hat with ⟨rfl, hno⟩ | ⟨t, ht, -, rfl, hgr, hcm⟩
              · have HRN : Hid (Ev.baseC q.grouped (Ev.byOf q.group) (L.take (i + 1)) = (G ++ [(⟨some ⟨wr.heap.size, 0, none⟩, [x], 1⟩ : Gr)]).map Gr.l) := by
                  show _ = _
                  rw [HTK.out, Ev.baseC_none x HGM.out (fun k hk => by
                    rw [List.getElem_map]
                    rw [List.length_map] at hk
                    exact hno k hk hk)]
                  simp
                clear hno
                go_upto_region 17 with fail
                have hoA := (HJ5.out.own.alloc (.cells #[.slice x.a x.l.length x.c] 23)).alloc (.cells #[.slice (some ⟨wr.heap.size, 0, none⟩) 1 1] 26)
                have hrA := ERow.lit eG3 (wr.alloc (.cells #[.slice x.a x.l.length x.c] 23)) ⟨some ⟨wr.heap.size, 0, none⟩, [x], 1⟩ #[.slice (some ⟨wr.heap.size, 0, none⟩) 1 1] rfl _ rfl
                have hz1 : (wr.alloc (.cells #[.slice x.a x.l.length x.c] 23)).heap.size = wr.heap.size + 1 := by simp
                rw [hz1] at hrA
                go_wp2_with (at_builtin; refine wpList_append_elems eG3 rfl (.tmp 64) (.tmp 70) rfl _ rfl hoA rfl 1 rfl hrA rfl (by simp; omega) (by have := HJ5.out.size; simp; omega) ?_; intro A3 c3' w3 ho3 hb3 hg3 ha3)
                have HR : Hid (DLoop Wb.heap.size L (i + 1) w3 A3 c3' (G ++ [(⟨some ⟨wr.heap.size, 0, none⟩, [x], 1⟩ : Gr)]) ∧ (G ++ [(⟨some ⟨wr.heap.size, 0, none⟩, [x], 1⟩ : Gr)]).map Gr.l = Ev.baseC q.grouped (Ev.byOf q.group) (L.take (i + 1)) ∧ Below Wb.heap.size Wb w3) :=
                  ⟨HJ5.out.one HXL.out rfl ho3 hg3 ha3, HRN.out.symm, (HB7.out.trans ((((Below.refl wr.heap.size wr).alloc (Nat.le_refl _) _).then ((Below.refl _ _).alloc (Nat.le_refl _) _)).mono HJ5.out.size)).trans hb3⟩
                clear hoA hrA ho3 hb3 hg3 ha3 q0
                go_roundw
                case rel => exact ⟨i + 1, A3, c3', _, by omega, by simp; omega, by go_num, by simp, HR.out⟩
                case measure => simp [intOf]; omega
              · have HRN : Hid (∀ A8 c8, Ev.baseC q.grouped (Ev.byOf q.group) (L.take (i + 1)) = (G.set t (⟨A8, G[t].l ++ [x], c8⟩ : Gr)).map Gr.l) := fun A8 c8 => by
                  rw [HTK.out, Ev.baseC_set x HGM.out (k := t) (by rw [List.length_map]; exact ht) ⟨hgr, by rw [List.getElem_map]; exact hcm⟩, List.getElem_map, List.map_set]
                clear hgr hcm
                obtain ⟨g9, rfl⟩ : ∃ g9, A5 = some ⟨g9, 0, none⟩ := by
                  rcases HJ5.out.own.form with ⟨-, -, h⟩ | ⟨g9, h, -⟩
                  · rw [h] at ht; simp at ht
                  · exact ⟨g9, h⟩
                have q9 : wr.cell? ⟨g9, t, none⟩ = some G[t].h := by
                  have := HJ5.out.own.cell (j := t) (k := 0) (v := G[t].h) ht rfl
                  rw [show t * eG3.sz + 0 = t from Nat.mul_one _] at this
                  exact this
                have hgm : G[t] ∈ G := List.getElem_mem ht
                have HSET := Lib.hid (fun (w3 : World) (hB3 : Below wr.heap.size wr w3) (A8 : Option Addr) (c8 : Nat) => HJ5.out.set_ ht HXL.out hB3 (A5 := A8) (c5 := c8))
                obtain ⟨r, hr⟩ : ∃ r, G[t] = r := ⟨_, rfl⟩
                rw [hr] at q9 HRN HSET hgm
                have hrr := HJ5.out.rows r hgm
                have hrl := HJ5.out.len r hgm
                have hg9 := (HJ5.out.own.block _ rfl).1
                have hti : ¬ (t : Int) < 0 := by omega
                unfold Gr.h at q9
                clear hr hgm
                have hoE : EOwn eRw (wr.alloc (.cells #[] 23)) wr.heap.size (some ⟨wr.heap.size, 0, none⟩) 0 [] := EOwn.new wr [] (by simp [maxLen]) (Nat.le_refl _) #[] rfl
                have hBE : Below wr.heap.size wr (wr.alloc (.cells #[] 23)) := (Below.refl wr.heap.size wr).alloc (Nat.le_refl _) _
                have hrE := hrr.below hBE
                have q9e := cell_later hBE q9
                go_upto_region 18 with fail
                go_upto_region 19 with (at_builtin; refine wpList_append_elems eRw rfl (.tmp 72) (.tmp 76) rfl 0 rfl hoE rfl r.l.length rfl hrE rfl (by simp; omega) (by simp) ?_; intro A7 c7 w7 ho7 hb7 hg7 ha7)
                have hB7 : Below wr.heap.size wr w7 := hBE.trans hb7
                have q0 := cell_later hB7 q0
                have ho7A := ho7.alloc (.cells #[.slice x.a x.l.length x.c] 23)
                have hrx := ERow.lit eRw w7 x #[.slice x.a x.l.length x.c] rfl w7.heap.size rfl
                have hB8 : Below wr.heap.size wr (w7.alloc (.cells #[.slice x.a x.l.length x.c] 23)) := hB7.then ((Below.refl w7.heap.size w7).alloc (Nat.le_refl _) _)
                clear hoE hrE q9e ho7 hb7 hg7 ha7
                go_wp2_with (at_builtin; refine wpList_append_elems eRw rfl (.tmp 80) (.tmp 85) rfl r.l.length rfl ho7A rfl 1 rfl hrx rfl (by simp; omega) hB8.size ?_; intro A8 c8 w8 ho8 hb8 hg8 ha8; have q9b := cell_later (hB8.trans hb8) q9; have f9b := (HJ5.out.own.below (hB8.trans hb8)).free t)
                have HR : Hid (DLoop Wb.heap.size L (i + 1) (w8.setCell ⟨g9, t, none⟩ (.slice A8 (r.l.length + 1) c8)) (some ⟨g9, 0, none⟩) c5 (G.set t (⟨A8, r.l ++ [x], c8⟩ : Gr)) ∧ (G.set t (⟨A8, r.l ++ [x], c8⟩ : Gr)).map Gr.l = Ev.baseC q.grouped (Ev.byOf q.group) (L.take (i + 1)) ∧ Below Wb.heap.size Wb (w8.setCell ⟨g9, t, none⟩ (.slice A8 (r.l.length + 1) c8))) := by
                  have hbb : Below wr.heap.size wr w8 := hB8.trans hb8
                  have h1 := HSET.out w8 hbb A8 c8 ho8
                  rw [show (r.l ++ [x]).length = r.l.length + 1 by simp] at h1
                  refine ⟨h1, (HRN.out A8 c8).symm, ?_⟩
                  have := HJ5.out.size
                  exact below_of_grown (HB7.out.trans (hbb.mono this)) (grown_store w8 g9 t _) hg9 (Nat.le_trans this hbb.size)
                clear ho7A hrx q9 q9b f9b ho8 hb8 hg8 ha8 q0 hB7 hB8 hBE hrr
                go_roundw
                case rel => exact ⟨i + 1, _, c5, _, by omega, by simp; omega, by go_num, by simp, HR.out⟩
                case measure => simp [intOf]; omega
        · have hii : ¬ (i : Int) < (L.length : Int) := by omega
          obtain rfl : i = L.length := by omega
          rw [List.take_length] at HJ
          obtain ⟨hdl, hgm, hbw⟩ := HJ.out
          have HDL := Lib.hid hdl
          have HGM := Lib.hid hgm
          have HBW := Lib.hid hbw
          have HBO : Hid (Below w.heap.size w wo) := by
            show Below _ _ _
            rw [HG2.out]
            exact HB.out.trans (hbw.mono (by omega))
          have HRW : Hid (∀ r ∈ G, RowsOk wo r.a r.l) := fun r hr => ⟨hdl.rows r hr, fun y hy => (HL.out.in_ y (hdl.mem r hr y hy)).below HBO.out, by have := hdl.len r hr; omega⟩
          obtain ⟨c4, c5', -⟩ := Blk.qr (HS2.out.below hbw)
          clear hdl hgm hbw HJ
          go_upto_region 20 with fail
          go_cut [100] from 88 to 100 (fun v wx => Hid (wx = wo ∧ ∃ b : Bool, v = .bool b ∧ (b = true → q.grouped = true ∧ q.group = [] ∧ G = []) ∧ (b = false → ¬ (q.grouped = true ∧ q.group = [] ∧ G = []))))
          case first =>
            rcases Bool.eq_false_or_eq_true q.grouped with hgr | hgr
            · rw [hgr] at c5'
              by_cases hg0 : q.group = []
              · have hgi : ((q.group.length : Int) == 0) = true := by simp [hg0]
                by_cases hG0 : G = []
                · have HF : Hid (q.grouped = true ∧ q.group = [] ∧ G = []) := ⟨hgr, hg0, hG0⟩
                  have hGe : ((G.length : Int) == 0) = true := by simp [hG0]
                  clear hgr hg0 hG0
                  go_wp2_with fail
                  go_meet
                  case rel => exact ⟨rfl, true, rfl, fun _ => HF.out, by simp⟩
                · have hGe : ((G.length : Int) == 0) = false := by simpa using hG0
                  have HF : Hid (¬ (q.grouped = true ∧ q.group = [] ∧ G = [])) := fun e => hG0 e.2.2
                  clear hgr hg0 hG0
                  go_wp2_with fail
                  go_meet
                  case rel => exact ⟨rfl, false, rfl, by simp, fun _ => HF.out⟩
              · have hgi : ((q.group.length : Int) == 0) = false := by simpa using hg0
                have HF : Hid (¬ (q.grouped = true ∧ q.group = [] ∧ G = [])) := fun e => hg0 e.2.1
                clear hgr hg0
                go_wp2_with fail
                go_meet
                case rel => exact ⟨rfl, false, rfl, by simp, fun _ => HF.out⟩
            · rw [hgr] at c5'
              have HF : Hid (¬ (q.grouped = true ∧ q.group = [] ∧ G = [])) := fun e => by rw [hgr] at e; cases e.1
              clear hgr
              go_wp2_with fail
              go_meet
              case rel => exact ⟨rfl, false, rfl, by simp, fun _ => HF.out⟩
          case rest =>
          obtain ⟨rfl, b, rfl, hbt, hbf⟩ := hcut.out
          have HBT := Lib.hid hbt
          have HBF := Lib.hid hbf
          clear hcut hbt hbf c4 c5'
          go_upto_if 100 with fail
          go_cut [5] from 100 to 103 (fun v wx => Hid (AllAt Wb (Ev.baseE q.grouped q.group L) v wx))
          case first =>
            cases b with
            | true =>
              obtain ⟨hgr, hg0, hG0⟩ := HBT.out rfl
              subst hG0
              have HE : Hid (Ev.baseE q.grouped q.group L = [[]]) := by
                show _ = _
                rw [hgr]
                exact Ev.baseE_one hg0 (by rw [← hgr, ← HGM.out]; rfl)
              clear hgr hg0
              have hoA := HDL.out.own.alloc (.cells #[.slice none 0 0] 26)
              have hrA := ERow.lit eG3 wc ⟨none, [], 0⟩ #[.slice none 0 0] rfl wc.heap.size rfl
              have hbA : Below wc.heap.size wc (wc.alloc (.cells #[.slice none 0 0] 26)) := (Below.refl _ _).alloc (Nat.le_refl _) _
              have HBA := Lib.hid (HBW.out.trans (hbA.mono HDL.out.size))
              clear hbA
              go_wp2_with (at_builtin; refine wpList_append_elems eG3 rfl (.tmp 101) (.tmp 102) rfl 0 rfl hoA rfl 1 rfl hrA rfl (by simp) (by have := HDL.out.size; simp; omega) ?_; intro A3 c3' w3 ho3 hb3 hg3 ha3)
              have HF : Hid (AllAt Wb (Ev.baseE q.grouped q.group L) (.slice A3 1 c3') w3) := by
                refine ⟨A3, c3', [⟨none, [], 0⟩], rfl, ho3.row, fun r hr => ?_, by simp, by rw [HE.out]; rfl, HBA.out.trans hb3⟩
                rw [List.mem_singleton.1 hr]
                exact ⟨ERow.nil, (by intro x hx; cases hx), by simp⟩
              clear hoA hrA ho3 hb3 hg3 ha3
              go_meet
              case rel => exact HF.out
            | false =>
              have HF : Hid (AllAt Wb (Ev.baseE q.grouped q.group L) (.slice A5 G.length c5) wc) := ⟨A5, c5, G, rfl, HDL.out.own.row, HRW.out, by omega, by
                rw [HGM.out, Ev.baseE_same]
                intro e
                refine HBF.out rfl ⟨e.1, e.2.1, ?_⟩
                have h1 := HGM.out
                rw [e.2.2] at h1
                simpa using h1, HBW.out⟩
              go_wp2_with fail
              go_meet
              case rel => exact HF.out
          case rest =>
            obtain ⟨A7, c7, H, rfl, hrow, hok, hHl, hHE, hb7⟩ := hcut.out
            clear hcut HBT HBF HDL HGM HBW HRW
            obtain ⟨W7, rfl⟩ : ∃ W7, W7 = wc := ⟨_, rfl⟩
            have HRO := Lib.hid hrow
            have HOK := Lib.hid hok
            have HHE := Lib.hid hHE
            have HB7 := Lib.hid hb7
            have hbyl : (Ev.byOf q.group).length = q.group.length := by unfold Ev.byOf; simp
            have HBY : Hid (ERow eSo W7 A6 (Ev.byOf q.group)) := HS6.out.below hb7
            have HQK : Hid (Blk W7 g2 40 q.cells) := HS2.out.below hb7
            have HBIN : Hid (∀ s ∈ Ev.byOf q.group, Ev.inB s.at_) := fun s hs => by
              obtain ⟨n, hn, rfl⟩ := List.mem_map.1 hs
              exact HQ.out.gin n hn
            have HBZ : Hid (Below w.heap.size w W7) := by
              show Below _ _ _
              rw [HG2.out]
              exact HB.out.trans (hb7.mono (by omega))
            clear hrow hok hHE hb7
            have HST : Hid ([] = Srt.ssort (fun x y : Gr => Ev.gcmp (Ev.byOf q.group) x.l y.l) (H.take 0) ∧ ERow eG3 W7 none ([] : List Gr) ∧ Below W7.heap.size W7 W7) := ⟨rfl, ERow.nil, Below.refl _ _⟩
            go_upto_region 24 with fail
            go_loopw [12, 14] (fun v12 jv wr => ∃ (j : Nat) (A12 : Option Addr) (c12 : Nat) (K : List Gr), j ≤ H.length ∧ K.length = j ∧ K.length ≤ c12 ∧ c12 ≤ maxLen ∧ v12 = .slice A12 K.length c12 ∧ jv = .int .i64 (j : Int) ∧ Hid (K = Srt.ssort (fun x y : Gr => Ev.gcmp (Ev.byOf q.group) x.l y.l) (H.take j) ∧ ERow eG3 wr A12 K ∧ Below W7.heap.size W7 wr)) (fun _ jv _ => H.length - (intOf jv).toNat)
            case atStart => exact ⟨0, none, 0, [], Nat.zero_le _, rfl, by simp, by simp [maxLen], rfl, by go_num, HST.out⟩
            case round =>
              obtain ⟨j, A12, c12, K, hj, hKj, hKc, hcm, rfl, rfl, HJ⟩ := hrel
              obtain ⟨w8, rfl⟩ : ∃ w8, w8 = wr := ⟨_, rfl⟩
              have hK6 : K.length ≤ 1000000 := by omega
              clear HST hKj
              by_cases hjl : j < H.length
              · have hji : (j : Int) < (H.length : Int) := by omega
                obtain ⟨gb, go, rfl, -, q0⟩ := g3_at (HRO.out.below HJ.out.2.2) hjl
                obtain ⟨g, hg⟩ : ∃ g, H[j] = g := ⟨_, rfl⟩
                have HGH : Hid (g ∈ H) := by show _ ∈ _; rw [← hg]; exact List.getElem_mem hjl
                have HTK : Hid (H.take (j + 1) = H.take j ++ [g]) := by show _ = _; rw [List.take_succ_eq_append_getElem hjl, hg]
                rw [hg] at q0
                have HCALL := Lib.hid (dput_any w8 A12 A6 c12 c6 K g (Ev.byOf q.group) HJ.out.2.1 hKc hcm (fun r hr => (HOK.out r (by
                  rw [HJ.out.1] at hr
                  exact List.mem_of_mem_take ((Srt.ssort_perm _ _).mem_iff.1 hr))).below HJ.out.2.2) ((HOK.out g HGH.out).below HJ.out.2.2) (HBY.out.below HJ.out.2.2) HBIN.out (by omega) hK6 (by rw [HJ.out.1]; exact Srt.ssort_sorted ((Ev.gcmp_ord _).on Gr.l) _))
                rw [hbyl] at HCALL
                have hpt := put_take HJ.out.1 hjl HTK.out
                obtain ⟨M, hM⟩ : ∃ M, Srt.mg (fun x y : Gr => Ev.gcmp (Ev.byOf q.group) x.l y.l) K [g] = M := ⟨_, rfl⟩
                rw [hM] at HCALL hpt
                have HPT := Lib.hid hpt
                have HJB : Hid (Below W7.heap.size W7 w8) := HJ.out.2.2
                clear hg hM hpt HJ HTK
                unfold Gr.h at q0
                go_wp2_with fail
                refine (show Calls _ _ #[.slice A12 K.length c12, g.h, .slice A6 q.group.length c6] _ _ from HCALL.out).mono ?_
                rintro e W9 ⟨A9, c9, rfl, ho9, hB9⟩
                have HR : Hid (M = Srt.ssort (fun x y : Gr => Ev.gcmp (Ev.byOf q.group) x.l y.l) (H.take (j + 1)) ∧ ERow eG3 W9 A9 M ∧ Below W7.heap.size W7 W9) := ⟨HPT.out.1, ho9.row, HJB.out.then hB9⟩
                have H9C := Lib.hid ho9.cap
                have H9M := Lib.hid ho9.capMax
                clear ho9 hB9 HCALL q0 hK6 hKc hcm
                go_wp2_with fail
                go_roundw
                case rel => exact ⟨j + 1, A9, c9, M, by omega, HPT.out.2, H9C.out, H9M.out, rfl, by go_num, HR.out⟩
                case measure => simp [intOf]; omega
              · have hji : ¬ (j : Int) < (H.length : Int) := by omega
                obtain rfl : j = H.length := by omega
                rw [List.take_length] at HJ
                have HKS : Hid (K.map Gr.l = Srt.ssort (Ev.gcmp (Ev.byOf q.group)) (Ev.baseE q.grouped q.group L)) := by
                  show _ = _
                  rw [HJ.out.1, ← HHE.out]
                  exact Ev.ssort_on Gr.l H
                have HKO : Hid (∀ r ∈ K, RowsOk w8 r.a r.l) := fun r hr => (HOK.out r (by
                  rw [HJ.out.1] at hr
                  exact (Srt.ssort_perm _ _).mem_iff.1 hr)).below HJ.out.2.2
                have HKR : Hid (ERow eG3 w8 A12 K) := HJ.out.2.1
                have HKB : Hid (Below W7.heap.size W7 w8) := HJ.out.2.2
                have HKC : Hid (K.length = H.length ∧ K.length ≤ 1000000) := ⟨by rw [HJ.out.1, Srt.ssort_length], hK6⟩
                clear HJ hK6 hKc hcm
                obtain ⟨c4, c5', -⟩ := Blk.qr (HQK.out.below HKB.out)
                clear c4
                obtain ⟨gb, hgb⟩ : ∃ b, q.grouped = b := ⟨_, rfl⟩
                rw [hgb] at c5'
                have HGB := Lib.hid hgb
                clear hgb
                go_upto_if 119 with fail
                go_cut [12] from 119 to 120 (fun v wx => Hid (AllAt w8 (Ev.baseG q.grouped q.group L) v wx))
                case first =>
                  cases gb with
                  | true =>
                    have HF : Hid (AllAt w8 (Ev.baseG q.grouped q.group L) (.slice A12 K.length c12) w8) := by
                      refine ⟨A12, c12, K, rfl, HKR.out, HKO.out, by have := HKC.out.1; omega, ?_, Below.refl _ _⟩
                      rw [HKS.out, Ev.baseE_base, HGB.out]
                      rfl
                    go_wp2_with fail
                    go_meet
                    case rel => exact HF.out
                  | false =>
                    have HF : Hid (AllAt w8 (Ev.baseG q.grouped q.group L) (.slice A7 H.length c7) w8) := by
                      refine ⟨A7, c7, H, rfl, HRO.out.below HKB.out, fun r hr => (HOK.out r hr).below HKB.out, hHl, ?_, Below.refl _ _⟩
                      rw [HHE.out, Ev.baseE_base, HGB.out]
                      rfl
                    go_wp2_with fail
                    go_meet
                    case rel => exact HF.out
                case rest =>
                  obtain ⟨Aa, ca, F, rfl, hrow, hok, hFl, hFE, hb8⟩ := hcut.out
                  have HBZ8 : Hid (Below w.heap.size w w8) := HBZ.out.then HKB.out
                  have HQ8 : Hid (Blk w8 g2 40 q.cells) := HQK.out.below HKB.out
                  have HROF := Lib.hid hrow
                  have HOKF := Lib.hid hok
                  have HFE := Lib.hid hFE
                  have HB8 := Lib.hid hb8
                  clear hcut hrow hok hFE hb8 c5' HKS HKO HKR HKC HRO HOK HHE HBY HBIN HQK HBZ HKB HB7 hbyl hHl hj hjl hji
                  obtain ⟨W8, rfl⟩ : ∃ W8, W8 = wc := ⟨_, rfl⟩
                  have HST : Hid ([] = Srt.ssort (fun x y : Gr => Ev.gcmp q.order x.l y.l) (F.take 0) ∧ ERow eG3 W8 none ([] : List Gr) ∧ Below W8.heap.size W8 W8) := ⟨rfl, ERow.nil, Below.refl _ _⟩
                  have HBZ9 : Hid (Below w.heap.size w W8) := HBZ8.out.then HB8.out
                  have HQ9 : Hid (Blk W8 g2 40 q.cells) := HQ8.out.below HB8.out
                  go_upto_region 30 with fail
                  go_loopw [13, 15] (fun v13 jv wr => ∃ (j : Nat) (A13 : Option Addr) (c13 : Nat) (K : List Gr), j ≤ F.length ∧ K.length = j ∧ K.length ≤ c13 ∧ c13 ≤ maxLen ∧ v13 = .slice A13 K.length c13 ∧ jv = .int .i64 (j : Int) ∧ Hid (K = Srt.ssort (fun x y : Gr => Ev.gcmp q.order x.l y.l) (F.take j) ∧ ERow eG3 wr A13 K ∧ Below W8.heap.size W8 wr)) (fun _ jv _ => F.length - (intOf jv).toNat)
                  case atStart => exact ⟨0, none, 0, [], Nat.zero_le _, rfl, by simp, by simp [maxLen], rfl, by go_num, HST.out⟩
                  case round =>
                    obtain ⟨j, A13, c13, K, hj, hKj, hKc, hcm, rfl, rfl, HJ⟩ := hrel
                    have hK6 : K.length ≤ 1000000 := by omega
                    clear HST hKj
                    by_cases hjl : j < F.length
                    · have hji : (j : Int) < (F.length : Int) := by omega
                      obtain ⟨gb2, go, rfl, -, q0⟩ := g3_at (HROF.out.below HJ.out.2.2.drewR) hjl
                      obtain ⟨g, hg⟩ : ∃ g, F[j] = g := ⟨_, rfl⟩
                      have HGH : Hid (g ∈ F) := by show _ ∈ _; rw [← hg]; exact List.getElem_mem hjl
                      have HTK : Hid (F.take (j + 1) = F.take j ++ [g]) := by show _ = _; rw [List.take_succ_eq_append_getElem hjl, hg]
                      rw [hg] at q0
                      have HCALL := Lib.hid (dput_any wr.drew A13 q.oa c13 q.oc K g q.order HJ.out.2.1 hKc hcm (fun r hr => (HOKF.out r (by
                        rw [HJ.out.1] at hr
                        exact List.mem_of_mem_take ((Srt.ssort_perm _ _).mem_iff.1 hr))).below HJ.out.2.2.drewR) ((HOKF.out g HGH.out).below HJ.out.2.2.drewR) (HQ.out.o.below (HBZ9.out.then HJ.out.2.2.drewR)) HQ.out.oin HQ.out.ol hK6 (by rw [HJ.out.1]; exact Srt.ssort_sorted ((Ev.gcmp_ord _).on Gr.l) _))
                      have hpt := put_take HJ.out.1 hjl HTK.out
                      obtain ⟨M, hM⟩ : ∃ M, Srt.mg (fun x y : Gr => Ev.gcmp q.order x.l y.l) K [g] = M := ⟨_, rfl⟩
                      rw [hM] at HCALL hpt
                      have HPT := Lib.hid hpt
                      have HJB : Hid (Below W8.heap.size W8 wr) := HJ.out.2.2
                      obtain ⟨-, -, -, c7', -⟩ := Blk.qr (HQ9.out.below HJ.out.2.2.drewR)
                      clear hg hM hpt HJ HTK
                      unfold Gr.h at q0
                      go_upto_region 32 with fail
                      refine wp_region_plan (.take 0 (.take 1 (.take 2 (.take 3 (.take 4 (.take 5 (.take 6 (.run 7 [] (.take 8 .fin))))))))) (by kernel_rfl) (by kernel_rfl) (by kernel_rfl) (by kernel_rfl) ?_
                      repeat' (first | (refine hZ _ _ ?_; clear hZ) | (refine hZ _ ?_; clear hZ) | (refine hZ ?_; clear hZ) | rw [again_nil] | rw [walk_fin] | ((first | rw [walk_take] | rw [walk_run] | rw [again_cons]); intro Z hZ; simp only [sel, List.getElem?_toArray, List.getElem?_cons_zero, List.getElem?_cons_succ]; go_wp2_with (fail)))
                      refine (show Calls _ _ #[.slice A13 K.length c13, g.h, .slice q.oa q.order.length q.oc] _ _ from HCALL.out).mono ?_
                      rintro e W9 ⟨A9, c9, rfl, ho9, hB9⟩
                      have HR : Hid (M = Srt.ssort (fun x y : Gr => Ev.gcmp q.order x.l y.l) (F.take (j + 1)) ∧ ERow eG3 W9 A9 M ∧ Below W8.heap.size W8 W9) := ⟨HPT.out.1, ho9.row, HJB.out.then ((Below.refl wr.heap.size wr).drewR.trans (hB9.mono (Nat.le_refl _)))⟩
                      have H9C := Lib.hid ho9.cap
                      have H9M := Lib.hid ho9.capMax
                      clear ho9 hB9 HCALL q0 hK6 hKc hcm c7'
                      go_wp2_with fail
                      repeat' (first | (refine hZ _ _ ?_; clear hZ) | (refine hZ _ ?_; clear hZ) | (refine hZ ?_; clear hZ) | rw [again_nil] | rw [walk_fin] | ((first | rw [walk_take] | rw [walk_run] | rw [again_cons]); intro Z hZ; simp only [sel, List.getElem?_toArray, List.getElem?_cons_zero, List.getElem?_cons_succ]; go_wp2_with (fail)))
                      go_wp2_with fail
                      go_roundw
                      case rel => exact ⟨j + 1, A9, c9, M, by omega, HPT.out.2, H9C.out, H9M.out, rfl, by go_num, HR.out⟩
                      case measure => simp [intOf]; omega
                    · have hji : ¬ (j : Int) < (F.length : Int) := by omega
                      obtain rfl : j = F.length := by omega
                      rw [List.take_length] at HJ
                      have HF : Hid (RetD3 w (Ev.groupsV q.grouped q.group q.order L) (.returned (.slice A13 K.length c13)) wr) := by
                        refine ⟨A13, c13, K, rfl, HJ.out.2.1, fun r hr => (HOKF.out r (by
                          rw [HJ.out.1] at hr
                          exact (Srt.ssort_perm _ _).mem_iff.1 hr)).below HJ.out.2.2, hKc, hcm, ?_, HBZ9.out.then HJ.out.2.2⟩
                        rw [HJ.out.1]
                        unfold Ev.groupsV
                        rw [← HFE.out]
                        exact Ev.ssort_on Gr.l F
                      clear HJ hKc hcm hK6
                      go_wp2_with fail
                      go_ret
                      exact HF.out
end Go.Proofs.Ytknfnhmkiooifaa
end

section
/-
  The contract of the document's Answer.
-/
namespace Go.Proofs.Ytknfnhmkiooifaa
set_option linter.unusedSimpArgs false
set_option linter.unusedVariables false
open Go.RowKit

set_option maxRecDepth 100000 in
set_option maxHeartbeats 8000000 in
theorem danswer_any (w : World) (q : Qr) (A : Option Addr) (c : Nat) (L : List Rw) (hq : QrIn w q) (hL : RowsOk w A L) (hll : L.length ≤ 100000) :
    Calls Try.prog 18 #[q.v, .slice A L.length c] w (RetRows w (fun R => Ev.DvR (Ev.answerV q.grouped q.group q.items q.order q.lim L) R)) := by
  have HQ := Lib.hid hq
  have HL := Lib.hid hL
  have hql := hq.lim
  obtain ⟨D, hD⟩ : ∃ D, Ev.answerV q.grouped q.group q.items q.order q.lim L = D := ⟨_, rfl⟩
  rw [hD]
  have HD := Lib.hid hD
  clear hq hL hD
  go_enter Try.func18, Try.ntmps18
  go_upto_region 1 with (refine wpList_box_qr rfl (.tmp 0) rfl q rfl ?_; intro W1 hb1 hz1 hB1)
  have HB1 := Lib.hid hB1
  have hw1 : w.heap.size ≤ W1.heap.size := hB1.size
  clear hB1 hz1
  generalize hg2 : w.heap.size = g2 at hb1 ⊢
  have HG2 := Lib.hid hg2
  clear hg2
  go_wp2_with (refine wpList_load_qr rfl (.tmp 2) rfl g2 rfl hb1 ?_)
  refine (dgroups_any W1 q A c L (HQ.out.below HB1.out) (HL.out.below HB1.out) hll).mono ?_
  rintro e W2 ⟨A2, c2, G, rfl, hG, hGR, hGc, hGm, hGD, hB⟩
  have hB : Below W1.heap.size W1 W2 := hB
  have HB2 : Hid (Below w.heap.size w W2) := HB1.out.then hB
  have hb2 := hb1.below hB
  have HG := Lib.hid hG
  have HGR := Lib.hid hGR
  have HGD := Lib.hid hGD
  have hgl : G.length ≤ 1000000 := by
    have h1 := congrArg List.length hGD
    rw [List.length_map] at h1
    unfold Ev.groupsV at h1
    rw [Srt.ssort_length] at h1
    have := Ev.baseG_len q.grouped q.group L
    omega
  clear hb1 hG hGR hGD hB
  obtain ⟨-, -, -, -, c8⟩ := Blk.qr hb2
  by_cases h0 : 0 ≤ q.lim
  · by_cases h1 : q.lim < (G.length : Int)
    · obtain ⟨m, hm⟩ : ∃ m : Nat, q.lim = (m : Int) := ⟨q.lim.toNat, by omega⟩
      have hmG : m < G.length := by omega
      have HX : Hid (Calls Try.prog 38 #[q.v, .slice A2 m c2] W2 (RetRows W2 (fun R => Ev.DvR D R))) := by
        have h := drows_any W2 q A2 c2 (G.take m) (HQ.out.below HB2.out) (HG.out.take m) (fun r hr => HGR.out r (List.mem_of_mem_take hr)) (by rw [List.length_take]; omega)
        rw [show (G.take m).length = m by rw [List.length_take]; omega] at h
        have e : ((G.take m).map Gr.l).map (Ev.rowV q.items) = D := by
          rw [← HD.out]
          unfold Ev.answerV
          rw [List.map_take, HGD.out, hm, Ev.limit_take]
        rw [e] at h
        exact h
      have HM := Lib.hid hm
      have hmc : (m : Int) ≤ (c2 : Int) := by omega
      rw [hm] at c8 h0 h1
      clear hm hql
      go_wp2_with (refine wpList_load_qr rfl (.tmp 2) rfl g2 rfl hb2 ?_)
      refine (show Calls _ _ #[q.v, .slice A2 m c2] _ _ from HX.out).mono ?_
      rintro e W3 ⟨A3, c3, R, rfl, hR, hD3, hB⟩
      have HF : Hid (RetRows w (fun R => Ev.DvR D R) (.returned (.slice A3 R.length c3)) W3) := by
        have hz := HB2.out.size
        exact ⟨A3, c3, R, rfl, ⟨hR.own.mono hz, hR.rows, hR.cap, hR.ok, hR.ne, Nat.le_trans hz hR.size⟩, hD3, HB2.out.then hB⟩
      clear hR hD3 hB hb2
      go_wp2_with fail
      go_ret
      exact HF.out
    · have HX : Hid (Calls Try.prog 38 #[q.v, .slice A2 G.length c2] W2 (RetRows W2 (fun R => Ev.DvR D R))) := by
        have h := drows_any W2 q A2 c2 G (HQ.out.below HB2.out) HG.out HGR.out hgl
        have e : (G.map Gr.l).map (Ev.rowV q.items) = D := by
          rw [← HD.out]
          unfold Ev.answerV
          rw [HGD.out]
          unfold Ev.limit
          rw [if_neg]
          rw [← HGD.out, List.length_map]
          omega
        rw [e] at h
        exact h
      go_wp2_with (refine wpList_load_qr rfl (.tmp 2) rfl g2 rfl hb2 ?_)
      refine (show Calls _ _ #[q.v, .slice A2 G.length c2] _ _ from HX.out).mono ?_
      rintro e W3 ⟨A3, c3, R, rfl, hR, hD3, hB⟩
      have HF : Hid (RetRows w (fun R => Ev.DvR D R) (.returned (.slice A3 R.length c3)) W3) := by
        have hz := HB2.out.size
        exact ⟨A3, c3, R, rfl, ⟨hR.own.mono hz, hR.rows, hR.cap, hR.ok, hR.ne, Nat.le_trans hz hR.size⟩, hD3, HB2.out.then hB⟩
      clear hR hD3 hB hb2
      go_wp2_with fail
      go_ret
      exact HF.out
  · have HX : Hid (Calls Try.prog 38 #[q.v, .slice A2 G.length c2] W2 (RetRows W2 (fun R => Ev.DvR D R))) := by
      have h := drows_any W2 q A2 c2 G (HQ.out.below HB2.out) HG.out HGR.out hgl
      have e : (G.map Gr.l).map (Ev.rowV q.items) = D := by
        rw [← HD.out]
        unfold Ev.answerV
        rw [HGD.out]
        unfold Ev.limit
        rw [if_neg (by omega)]
      rw [e] at h
      exact h
    go_wp2_with (refine wpList_load_qr rfl (.tmp 2) rfl g2 rfl hb2 ?_)
    refine (show Calls _ _ #[q.v, .slice A2 G.length c2] _ _ from HX.out).mono ?_
    rintro e W3 ⟨A3, c3, R, rfl, hR, hD3, hB⟩
    have HF : Hid (RetRows w (fun R => Ev.DvR D R) (.returned (.slice A3 R.length c3)) W3) := by
      have hz := HB2.out.size
      exact ⟨A3, c3, R, rfl, ⟨hR.own.mono hz, hR.rows, hR.cap, hR.ok, hR.ne, Nat.le_trans hz hR.size⟩, hD3, HB2.out.then hB⟩
    clear hR hD3 hB hb2
    go_wp2_with fail
    go_ret
    exact HF.out
end Go.Proofs.Ytknfnhmkiooifaa
end

section
/-
  The walk of EvalAnswers: what any query answers of any rows, in which order.
-/
namespace Go.Proofs.Ytknfnhmkiooifaa
set_option linter.unusedSimpArgs false
set_option linter.unusedVariables false
open Go.RowKit

/-- What the document answers are clean values. -/
theorem RLoop.dcl {B : Nat} {W : World} {A : Option Addr} {c : Nat} {R : List Rw} {S : List (List Va)} (h : RLoop B W A c R) (hd : Ev.DvR S (R.map Rw.l)) (hl : S.length ≤ 1000000) (hls : ∀ s ∈ S, s.length ≤ 1000000) : RowsCl W A R := by
  have e := hd.1
  rw [List.length_map] at e
  refine ⟨h.own.row, h.rows, h.ok, fun x hx v hv => ?_, by omega, fun x hx => ?_⟩
  · obtain ⟨i, hi, rfl⟩ := List.getElem_of_mem hx
    have h2 := hd.2 i (by omega) (by rw [List.length_map]; exact hi)
    rw [List.getElem_map] at h2
    obtain ⟨k, hk, rfl⟩ := List.getElem_of_mem hv
    exact (h2.2 k (by rw [h2.1]; exact hk) hk).cl
  · obtain ⟨i, hi, rfl⟩ := List.getElem_of_mem hx
    have h2 := (hd.2 i (by omega) (by rw [List.length_map]; exact hi)).1
    rw [List.getElem_map] at h2
    have := hls _ (List.getElem_mem (show i < S.length by omega))
    omega
theorem eqRows_dv {X Y : List Rw} (h : Ev.DvR (X.map Rw.l) (Y.map Rw.l)) : EqRows X Y := by
  have hl : X.length = Y.length := by simpa using h.1
  refine ⟨hl, fun i h1 h2 => ?_⟩
  have e := h.2 i (by rw [List.length_map]; exact h1) (by rw [List.length_map]; exact h2)
  rw [List.getElem_map, List.getElem_map] at e
  exact ⟨e.1, fun k h3 h4 => (e.2 k h3 h4).eqV⟩
theorem Ev.answerV_len {gr : Bool} {group : List Int} {items : List Nd} {order : List So} {lim : Int} {L : List Rw} (hL : L.length ≤ 100000) : (Ev.answerV gr group items order lim L).length ≤ 1000000 := by
  unfold Ev.answerV
  rw [List.length_map, Ev.limit_len]
  have := Ev.baseG_len gr group L
  unfold Ev.groupsV
  rw [Srt.ssort_length]
  split <;> omega
theorem Ev.answerV_lens {gr : Bool} {group : List Int} {items : List Nd} {order : List So} {lim : Int} {L : List Rw} (hi : items.length ≤ 1000000) : ∀ s ∈ Ev.answerV gr group items order lim L, s.length ≤ 1000000 := by
  intro s hs
  unfold Ev.answerV at hs
  obtain ⟨g, -, rfl⟩ := List.mem_map.1 hs
  unfold Ev.rowV
  rw [List.length_map]
  exact hi
set_option maxRecDepth 20000 in
set_option maxHeartbeats 8000000 in
theorem evalAnswers_walk (w : World) (v0 : Value) (h0 : QueryW w v0) (v1 : Value) (h1 : RowsW w v1) :
    Calls Try.prog 5 #[v0, v1] w fun e w' => e = .returned (.bool true) ∧ Below w.heap.size w w' := by
  obtain ⟨q, rfl, hq⟩ := h0
  obtain ⟨A, c, L, rfl, hl, hin, hlc, hcm⟩ := h1
  have HQ := Lib.hid hq
  have HL := Lib.hid hl
  have HIN := Lib.hid hin
  clear hq hl hin
  go_enter Try.func5, Try.ntmps5
  go_upto_region 1 with (refine wpList_box_qr rfl (.tmp 0) rfl q rfl ?_; intro W1 hb1 hz1 hB1)
  have HB1 := Lib.hid hB1
  clear hB1 hz1
  generalize hg : w.heap.size = g at hb1 ⊢
  have HG := Lib.hid hg
  clear hg
  go_wp2_with fail
  refine (elives_any W1).mono ?_
  rintro e W2 ⟨rfl, hB⟩
  have HB2 := Lib.hid (HB1.out.then hB)
  have hb2 := hb1.below hB
  obtain ⟨c0, c1, c2, c3, c4, c5, c6, c7, c8⟩ := Blk.c9 (show Blk _ _ _ [_, _, _, _, _, _, _, _, _] from hb2)
  clear hB hb1
  go_wp2_with fail
  clear c0 c1 c2 c3 c4 c5 c6 c7 c8
  refine (show Calls _ _ #[q.v] _ _ from query_any W2 q (HQ.out.below HB2.out)).mono ?_
  rintro e W3 ⟨b, rfl, hsq, hB⟩
  have HB3 := Lib.hid (HB2.out.then hB)
  have hb3 := hb2.below hB
  have HSQ := Lib.hid hsq
  clear hB hb2 hsq
  cases b with
  | false =>
    go_wp2_with fail
    refine (elives_any W3).mono ?_
    rintro e W4 ⟨rfl, hB⟩
    have HB4 := Lib.hid (HB3.out.then hB)
    clear hB
    go_wp2_with fail
    go_ret
    exact ⟨rfl, HB4.out⟩
  | true =>
    go_wp2_with fail
    refine (small_any W3 A c L (HL.out.below HB3.out) (fun r hr => (HIN.out r hr).below HB3.out) hlc hcm).mono ?_
    rintro e W4 ⟨b, rfl, hsm, hB⟩
    have HB4 := Lib.hid (HB3.out.then hB)
    have hb4 := hb3.below hB
    have HSM := Lib.hid hsm
    clear hB hb3 hsm
    cases b with
    | false =>
      go_wp2_with fail
      refine (elives_any W4).mono ?_
      rintro e W5 ⟨rfl, hB⟩
      have HB5 := Lib.hid (HB4.out.then hB)
      clear hB
      go_wp2_with fail
      go_ret
      exact ⟨rfl, HB5.out⟩
    | true =>
      have HSQ2 : Hid (SmallQ q) := HSQ.out trivial
      have HSM2 : Hid (SmallR L) := HSM.out rfl
      have HL5 : Hid (L.length ≤ 100000) := by show _ ≤ _; have := HSM2.out.1; omega
      have HRW : Hid (RowsOk w A L) := ⟨HL.out, fun x hx => (HIN.out x hx).rok, by have := HSM2.out.1; omega⟩
      have HNIL : Hid (A = none → L = []) := fun h => by
        cases L with
        | nil => rfl
        | cons x L => obtain ⟨b, o, e, _⟩ := HL.out (by simp); rw [h] at e; cases e
      have HQI : Hid (QrIn w q) := HQ.out.qrIn HSQ2.out
      have hb4d := hb4.drew
      have HB4d : Hid (Below w.heap.size w W4.drew) := HB4.out.drewR
      clear hb4
      go_upto_region 3 with fail
      refine wp_region_plan (.take 0 (.take 1 (.take 3 (.take 4 (.run 2 [3, 4] (.run 5 [] (.run 6 [] (.take 7 .fin)))))))) (by kernel_rfl) (by kernel_rfl) (by kernel_rfl) (by kernel_rfl) ?_
      repeat' (first | (refine hZ _ _ ?_; clear hZ) | (refine hZ _ ?_; clear hZ) | (refine hZ ?_; clear hZ) | rw [again_nil] | rw [walk_fin] | ((first | rw [walk_take] | rw [walk_run] | rw [again_cons]); intro Z hZ; simp only [sel, List.getElem?_toArray, List.getElem?_cons_zero, List.getElem?_cons_succ]; go_wp2_with (refine wpList_load_qr rfl (.tmp 2) rfl g rfl hb4d ?_)))
      refine (answer_any _ q A c L (HQI.out.below HB4d.out) (HRW.out.below HB4d.out) hlc hcm HNIL.out).mono ?_
      rintro e W6 ⟨A6, c6, R6, rfl, hR6, hv6, hB⟩
      have HB6 := Lib.hid (HB4d.out.then hB)
      have hb6 := hb4d.below hB
      have HR6 := Lib.hid hR6
      have HV6 : Hid (R6.map Rw.l = _) := hv6
      clear hB hb4d hR6 hv6
      go_wp2_with fail
      repeat' (first | (refine hZ _ _ ?_; clear hZ) | (refine hZ _ ?_; clear hZ) | (refine hZ ?_; clear hZ) | rw [again_nil] | rw [walk_fin] | ((first | rw [walk_take] | rw [walk_run] | rw [again_cons]); intro Z hZ; simp only [sel, List.getElem?_toArray, List.getElem?_cons_zero, List.getElem?_cons_succ]; go_wp2_with (refine wpList_load_qr rfl (.tmp 2) rfl g rfl hb6 ?_)))
      refine (danswer_any _ q A c L (HQI.out.below HB6.out) (HRW.out.below HB6.out) HL5.out).mono ?_
      rintro e W8 ⟨A8, c8, R8, rfl, hR8, hv8, hB⟩
      have HB8 := Lib.hid (HB6.out.then hB)
      have hv8 : Ev.DvR _ (R8.map Rw.l) := hv8
      have HR8 : Hid (RowsCl W8 A8 R8) := hR8.dcl hv8 (Ev.answerV_len HL5.out) (Ev.answerV_lens HQI.out.il)
      have HR68 : Hid (RowsCl W8 A6 R6) := by
        have hgl : (Ev.limit q.lim (Ev.groupsV q.grouped q.group q.order L)).length ≤ 1000000 := by
          have h := Ev.answerV_len (gr := q.grouped) (group := q.group) (items := q.items) (order := q.order) (lim := q.lim) HL5.out
          unfold Ev.answerV at h
          rwa [List.length_map] at h
        exact (HR6.out.cl HV6.out HQI.out.il hgl).below hB
      have HEQ : Hid (EqRows R6 R8) := eqRows_dv (by rw [HV6.out]; exact hv8)
      clear hB hb6 hR8 hv8
      go_wp2_with fail
      repeat' (first | (refine hZ _ _ ?_; clear hZ) | (refine hZ _ ?_; clear hZ) | (refine hZ ?_; clear hZ) | rw [again_nil] | rw [walk_fin] | ((first | rw [walk_take] | rw [walk_run] | rw [again_cons]); intro Z hZ; simp only [sel, List.getElem?_toArray, List.getElem?_cons_zero, List.getElem?_cons_succ]; go_wp2_with (fail)))
      refine (exact14_any W8 A6 A8 c6 c8 R6 R8 HR68.out HR8.out HEQ.out).mono ?_
      rintro e W9 ⟨rfl, hB⟩
      have HB9 := Lib.hid (HB8.out.then hB)
      clear hB
      go_wp2_with fail
      repeat' (first | (refine hZ _ _ ?_; clear hZ) | (refine hZ _ ?_; clear hZ) | (refine hZ ?_; clear hZ) | rw [again_nil] | rw [walk_fin] | ((first | rw [walk_take] | rw [walk_run] | rw [again_cons]); intro Z hZ; simp only [sel, List.getElem?_toArray, List.getElem?_cons_zero, List.getElem?_cons_succ]; go_wp2_with (fail)))
      go_wp2_with fail
      go_ret
      exact ⟨rfl, HB9.out⟩
end Go.Proofs.Ytknfnhmkiooifaa
end

section
/-
  The contracts of the document's Same and SameAll.
-/
namespace Go.Proofs.Ytknfnhmkiooifaa
set_option linter.unusedSimpArgs false
set_option linter.unusedVariables false
open Go.RowKit

namespace Ev
/-- Are two lists of values one? -/
def sameL : List Va → List Va → Bool
  | [], [] => true
  | s :: S, t :: T => decide (Key.vord s t = 0) && sameL S T
  | _, _ => false
theorem sameL_len : ∀ {S T : List Va}, S.length ≠ T.length → sameL S T = false
  | [], [], h => absurd rfl h
  | [], _ :: _, _ => rfl
  | _ :: _, [], _ => rfl
  | s :: S, t :: T, h => by
    show (decide (Key.vord s t = 0) && sameL S T) = false
    rw [sameL_len (S := S) (T := T) (fun e => h (by simp [e])), Bool.and_false]
theorem sameL_no : ∀ {S T : List Va} {i : Nat} (h : i < S.length) (h' : i < T.length), Key.vord S[i] T[i] ≠ 0 → sameL S T = false
  | s :: S, t :: T, 0, _, _, hn => by
    show (decide (Key.vord s t = 0) && sameL S T) = false
    rw [decide_eq_false (show ¬ Key.vord s t = 0 from hn), Bool.false_and]
  | s :: S, t :: T, i + 1, h, h', hn => by
    show (decide (Key.vord s t = 0) && sameL S T) = false
    rw [sameL_no (S := S) (T := T) (i := i) (by simpa using h) (by simpa using h') (by simpa using hn), Bool.and_false]
theorem sameL_yes : ∀ {S T : List Va}, S.length = T.length → (∀ (i : Nat) (h : i < S.length) (h' : i < T.length), Key.vord S[i] T[i] = 0) → sameL S T = true
  | [], [], _, _ => rfl
  | [], _ :: _, h, _ => by simp at h
  | _ :: _, [], h, _ => by simp at h
  | s :: S, t :: T, h, ha => by
    show (decide (Key.vord s t = 0) && sameL S T) = true
    have h0 : Key.vord s t = 0 := ha 0 (by simp) (by simp)
    rw [sameL_yes (S := S) (T := T) (by simpa using h) (fun i h1 h2 => by have := ha (i + 1) (by simpa using h1) (by simpa using h2); simpa using this), Bool.and_true, decide_eq_true h0]
end Ev
set_option maxRecDepth 20000 in
set_option maxHeartbeats 1000000 in
theorem same_any (w : World) (s t u v : Va) (hu : Ev.Dv s u) (hv : Ev.Dv t v) (hs : Key.clean s = s) (ht : Key.clean t = t) :
    Calls Try.prog 97 #[u.v, v.v] w fun e w' => e = .returned (.bool (decide (Key.vord s t = 0))) ∧ Below w.heap.size w w' := by
  have HO : Hid (u.ok ∧ v.ok) := ⟨hu.ok, hv.ok⟩
  have HE : Hid (Key.vord (Key.dclean u) (Key.dclean v) = Key.vord s t) := Ev.Dv.ord hu hv hs ht
  clear hu hv hs ht
  go_enter Try.func97, Try.ntmps97
  go_upto_region 1 with (first | (refine wpList_box_va rfl (.tmp 0) rfl u rfl ?_; intro W1 hb1 hz1 hB1) | (refine wpList_box_va rfl (.tmp 1) rfl v rfl ?_; intro W2 hb2 hz2 hB2))
  have h12 := hb1.below hB2
  have HB := Lib.hid (hB1.trans (hB2.mono hB1.size))
  clear hb1 hB1 hB2 hz1 hz2
  go_wp2_with (first | (refine wpList_load_va rfl (.tmp 2) rfl w.heap.size rfl h12 ?_) | (refine wpList_load_va rfl (.tmp 3) rfl W1.heap.size rfl hb2 ?_))
  refine (vorder_any _ u v HO.out.1 HO.out.2).mono ?_
  rintro e W3 ⟨rfl, hB3⟩
  rw [HE.out]
  have HB3 := Lib.hid (HB.out.then hB3)
  clear h12 hb2 hB3
  obtain ⟨x, hvx⟩ : ∃ x, Key.vord s t = x := ⟨_, rfl⟩
  rw [hvx]
  have HV := Lib.hid hvx
  clear hvx
  by_cases hx : x = 0
  · subst hx
    go_wp2_with fail
    go_ret
    exact ⟨by rw [HV.out]; rfl, HB3.out⟩
  · have hxb : (x == 0) = false := by simpa using hx
    go_wp2_with fail
    go_ret
    exact ⟨by rw [HV.out, decide_eq_false hx]; rfl, HB3.out⟩
/-- Values as the document may hold them. -/
structure DvsAt (w : World) (A : Option Addr) (S V : List Va) : Prop where
  row : ERow eVa w A V
  dv : All2 Ev.Dv S V
  cl : ∀ s ∈ S, Key.clean s = s
  len : V.length ≤ 1000000
theorem DvsAt.below {w W : World} {A : Option Addr} {S V : List Va} (h : DvsAt w A S V) (hB : Below w.heap.size w W) : DvsAt W A S V := ⟨h.row.below hB, h.dv, h.cl, h.len⟩
set_option maxRecDepth 20000 in
set_option maxHeartbeats 4000000 in
theorem sameall_any (w : World) (A B : Option Addr) (c d : Nat) (S T V U : List Va) (hA : DvsAt w A S V) (hB : DvsAt w B T U) :
    Calls Try.prog 79 #[.slice A V.length c, .slice B U.length d] w fun e w' => e = .returned (.bool (Ev.sameL S T)) ∧ Below w.heap.size w w' := by
  have HA := Lib.hid hA
  have HB := Lib.hid hB
  have hl := hA.len
  have hl2 := hB.len
  have HSL : Hid (S.length = V.length ∧ T.length = U.length) := ⟨hA.dv.1, hB.dv.1⟩
  clear hA hB
  go_enter Try.func79, Try.ntmps79
  by_cases hlen : V.length = U.length
  · have hlb : ((V.length : Int) == (U.length : Int)) = true := by simp [hlen]
    have HLN := Lib.hid hlen
    rw [hlen] at hlb ⊢
    clear hlen hlb
    go_wp2_with fail
    have HST : Hid ((∀ (j : Nat) (h : j < S.length) (h' : j < T.length), j < 0 → Key.vord S[j] T[j] = 0) ∧ Below w.heap.size w w) := ⟨fun j _ _ h => by omega, Below.refl _ _⟩
    go_loopw [5] (fun iv wr => ∃ i : Nat, i ≤ U.length ∧ iv = .int .i64 (i : Int) ∧ Hid ((∀ (j : Nat) (h : j < S.length) (h' : j < T.length), j < i → Key.vord S[j] T[j] = 0) ∧ Below w.heap.size w wr)) (fun iv _ => U.length - (intOf iv).toNat)
    case atStart => exact ⟨0, Nat.zero_le _, by go_num, HST.out⟩
    case round =>
      obtain ⟨i, hi, rfl, HJ⟩ := hrel
      clear HST
      by_cases hlt : i < U.length
      · have hii : (i : Int) < (U.length : Int) := by omega
        have hiv : i < V.length := by rw [HLN.out]; exact hlt
        have HXR : Hid (ERow eVa wr.drew A V) := HA.out.row.below HJ.out.2.drewR
        have HYR : Hid (ERow eVa wr.drew B U) := HB.out.row.below HJ.out.2.drewR
        obtain ⟨xb, xo, hxa, -, -⟩ := HXR.out.at_ hiv
        obtain ⟨yb, yo, hya, -, -⟩ := HYR.out.at_ hlt
        have his : i < S.length := by rw [HSL.out.1]; exact hiv
        have hit : i < T.length := by rw [HSL.out.2]; exact hlt
        have HS := Lib.hid (same_any wr.drew S[i] T[i] V[i] U[i] (HA.out.dv.2 i his hiv) (HB.out.dv.2 i hit hlt) (HA.out.cl _ (List.getElem_mem his)) (HB.out.cl _ (List.getElem_mem hit)))
        have HNX : Hid (∀ W, Below w.heap.size w W → Key.vord S[i] T[i] = 0 → (∀ (j : Nat) (h : j < S.length) (h' : j < T.length), j < i + 1 → Key.vord S[j] T[j] = 0) ∧ Below w.heap.size w W) := fun W hW h0 => ⟨fun j h h' hj => by
          by_cases hji : j = i
          · subst hji; exact h0
          · exact HJ.out.1 j h h' (by omega), hW⟩
        have HNO : Hid (Key.vord S[i] T[i] ≠ 0 → Ev.sameL S T = false) := Ev.sameL_no his hit
        subst hxa hya
        go_upto_region 6 with fail
        refine wp_region_plan (.take 0 (.take 1 (.take 2 (.take 3 (.take 4 (.take 5 (.take 6 (.take 7 (.run 8 [] (.take 9 .fin)))))))))) (by kernel_rfl) (by kernel_rfl) (by kernel_rfl) (by kernel_rfl) ?_
        repeat' (first | (refine hZ _ _ ?_; clear hZ) | (refine hZ _ ?_; clear hZ) | (refine hZ ?_; clear hZ) | rw [again_nil] | rw [walk_fin] | ((first | rw [walk_take] | rw [walk_run] | rw [again_cons]); intro Z hZ; simp only [sel, List.getElem?_toArray, List.getElem?_cons_zero, List.getElem?_cons_succ]; go_wp2_with (first | (refine wpList_load_va_at rfl (.tmp 19) rfl HXR.out hiv rfl ?_) | (refine wpList_load_va_at rfl (.tmp 23) rfl HYR.out hlt rfl ?_))))
        refine (show Calls _ _ _ _ _ from HS.out).mono ?_
        rintro e W4 ⟨rfl, hb4⟩
        have HB4 := Lib.hid (HJ.out.2.drewR.trans (hb4.mono HJ.out.2.size))
        clear hb4 HS
        generalize Key.vord S[i] T[i] = x at HNX HNO ⊢
        by_cases hx : x = 0
        · have HR := Lib.hid (HNX.out W4 HB4.out hx)
          rw [decide_eq_true hx]
          clear hx
          go_wp2_with fail
          repeat' (first | (refine hZ _ _ ?_; clear hZ) | (refine hZ _ ?_; clear hZ) | (refine hZ ?_; clear hZ) | rw [again_nil] | rw [walk_fin] | ((first | rw [walk_take] | rw [walk_run] | rw [again_cons]); intro Z hZ; simp only [sel, List.getElem?_toArray, List.getElem?_cons_zero, List.getElem?_cons_succ]; go_wp2_with (fail)))
          go_wp2_with fail
          go_roundw
          case rel => exact ⟨i + 1, by omega, by go_num, HR.out⟩
          case measure => simp [intOf]; omega
        · have HF := Lib.hid (HNO.out hx)
          rw [decide_eq_false hx]
          clear hx
          go_wp2_with fail
          repeat' (first | (refine hZ _ _ ?_; clear hZ) | (refine hZ _ ?_; clear hZ) | (refine hZ ?_; clear hZ) | rw [again_nil] | rw [walk_fin] | ((first | rw [walk_take] | rw [walk_run] | rw [again_cons]); intro Z hZ; simp only [sel, List.getElem?_toArray, List.getElem?_cons_zero, List.getElem?_cons_succ]; go_wp2_with (fail)))
          go_wp2_with fail
          go_ret
          exact ⟨by rw [HF.out]; rfl, HB4.out⟩
      · have hii : ¬ (i : Int) < (U.length : Int) := by omega
        have HF : Hid (Ev.sameL S T = true) := Ev.sameL_yes (by rw [HSL.out.1, HSL.out.2, HLN.out]) fun j h h' => HJ.out.1 j h h' (by have := HSL.out.2; omega)
        go_wp2_with fail
        go_ret
        exact ⟨by rw [HF.out]; rfl, HJ.out.2⟩
  · have hlb : ((V.length : Int) == (U.length : Int)) = false := by simp; omega
    have HF : Hid (Ev.sameL S T = false) := Ev.sameL_len (by rw [HSL.out.1, HSL.out.2]; exact hlen)
    clear hlen
    go_wp2_with fail
    go_ret
    exact ⟨by rw [HF.out]; rfl, Below.refl _ _⟩
end Go.Proofs.Ytknfnhmkiooifaa
end

section
/-
  The contract of the document's within.
-/
namespace Go.Proofs.Ytknfnhmkiooifaa
set_option linter.unusedSimpArgs false
set_option linter.unusedVariables false
open Go.RowKit

/-- Rows of values as the document may hold them, where the program holds S. -/
structure DRowsAt (w : World) (A : Option Addr) (S : List (List Va)) (X : List Rw) : Prop where
  r : ERow eRw w A X
  rr : ∀ x ∈ X, ERow eVa w x.a x.l
  dv : Ev.DvR S (X.map Rw.l)
  cl : ∀ s ∈ S, ∀ v ∈ s, Key.clean v = v
  len : X.length ≤ 1000000
  lens : ∀ x ∈ X, x.l.length ≤ 1000000
theorem DRowsAt.below {w W : World} {A : Option Addr} {S : List (List Va)} {X : List Rw} (h : DRowsAt w A S X) (hB : Below w.heap.size w W) : DRowsAt W A S X := ⟨h.r.below hB, fun x hx => (h.rr x hx).below hB, h.dv, h.cl, h.len, h.lens⟩
theorem DRowsAt.slen {w : World} {A : Option Addr} {S : List (List Va)} {X : List Rw} (h : DRowsAt w A S X) : S.length = X.length := by have := h.dv.1; rwa [List.length_map] at this
theorem DRowsAt.at_ {w : World} {A : Option Addr} {S : List (List Va)} {X : List Rw} (h : DRowsAt w A S X) {i : Nat} (hi : i < X.length) (hs : i < S.length) : DvsAt w X[i].a S[i] X[i].l := by
  have hm : X[i] ∈ X := List.getElem_mem hi
  refine ⟨h.rr _ hm, ?_, h.cl _ (List.getElem_mem hs), h.lens _ hm⟩
  have := h.dv.2 i hs (by rw [List.length_map]; exact hi)
  rwa [List.getElem_map] at this
theorem count_take {p : List Va → Bool} {S : List (List Va)} {k : Nat} (h : k < S.length) : (S.take (k + 1)).countP p = (S.take k).countP p + if p S[k] then 1 else 0 := by
  rw [List.take_succ_eq_append_getElem h, List.countP_append]
  congr 1
  rw [List.countP_cons, List.countP_nil]
  simp
set_option maxRecDepth 20000 in
set_option maxHeartbeats 8000000 in
theorem within_any (w : World) (A B : Option Addr) (c d : Nat) (S T : List (List Va)) (X Y : List Rw) (hX : DRowsAt w A S X) (hY : DRowsAt w B T Y)
    (h : ∀ s ∈ S, S.countP (fun x => Ev.sameL x s) ≤ T.countP (fun x => Ev.sameL x s)) :
    Calls Try.prog 41 #[.slice A X.length c, .slice B Y.length d] w fun e w' => e = .returned (.bool true) ∧ Below w.heap.size w w' := by
  have HX := Lib.hid hX
  have HY := Lib.hid hY
  have HCT := Lib.hid h
  have hxl := hX.len
  have hyl := hY.len
  have HSL : Hid (S.length = X.length ∧ T.length = Y.length) := ⟨hX.slen, hY.slen⟩
  clear hX hY h
  go_enter Try.func41, Try.ntmps41
  go_wp2_with fail
  go_loopw [5] (fun iv wr => ∃ i : Nat, i ≤ X.length ∧ iv = .int .i64 (i : Int) ∧ Hid (Below w.heap.size w wr)) (fun iv _ => X.length - (intOf iv).toNat)
  case atStart => exact ⟨0, Nat.zero_le _, by go_num, Below.refl _ _⟩
  case round =>
    obtain ⟨i, hi, rfl, HJ⟩ := hrel
    by_cases hlt : i < X.length
    · have hii : (i : Int) < (X.length : Int) := by omega
      obtain ⟨ba, oa, rfl, -, -⟩ := rw_at HX.out.r hlt
      have his : i < S.length := by rw [HSL.out.1]; exact hlt
      obtain ⟨s, hs⟩ : ∃ s, S[i] = s := ⟨_, rfl⟩
      obtain ⟨x, hx⟩ : ∃ x, X[i] = x := ⟨_, rfl⟩
      have HXS : Hid (∀ W, Below w.heap.size w W → DvsAt W x.a s x.l) := fun W hW => by
        have := (HX.out.below hW).at_ hlt his
        rw [hs, hx] at this
        exact this
      have HCX : Hid (∀ W, Below w.heap.size w W → W.cell? ⟨ba, oa + i, none⟩ = some x.v) := fun W hW => by
        obtain ⟨b', o', e', -, h1⟩ := rw_at (HX.out.below hW).r hlt
        cases e'
        rw [h1, hx]
      have HSM : Hid (s ∈ S) := by show s ∈ S; rw [← hs]; exact List.getElem_mem his
      have hxll : x.l.length ≤ 1000000 := HX.out.lens x (by rw [← hx]; exact List.getElem_mem hlt)
      clear hs hx his
      have HS2 : Hid (0 = (S.take 0).countP (fun t => Ev.sameL t s) ∧ Below w.heap.size w wr) := ⟨by simp, HJ.out⟩
      go_upto_region 6 with fail
      go_loopw [6, 7] (fun nv kv wr => ∃ (n k : Nat), k ≤ X.length ∧ n ≤ k ∧ nv = .int .i64 (n : Int) ∧ kv = .int .i64 (k : Int) ∧ Hid (n = (S.take k).countP (fun t => Ev.sameL t s) ∧ Below w.heap.size w wr)) (fun _ kv _ => X.length - (intOf kv).toNat)
      case atStart => exact ⟨0, 0, Nat.zero_le _, Nat.le_refl _, by go_num, by go_num, HS2.out⟩
      case round =>
        obtain ⟨n, k, hk, hn, rfl, rfl, HK⟩ := hrel
        clear HS2
        by_cases hkl : k < X.length
        · have hki : (k : Int) < (X.length : Int) := by omega
          have hks : k < S.length := by rw [HSL.out.1]; exact hkl
          have HCC := Lib.hid (count_take (p := fun t => Ev.sameL t s) hks)
          obtain ⟨t, ht⟩ : ∃ t, S[k] = t := ⟨_, rfl⟩
          obtain ⟨y, hy⟩ : ∃ y, X[k] = y := ⟨_, rfl⟩
          have HYT : Hid (DvsAt wr.drew y.a t y.l) := by
            have := (HX.out.below HK.out.2.drewR).at_ hkl hks
            rw [ht, hy] at this
            exact this
          have q1 : wr.drew.cell? ⟨ba, oa + k, none⟩ = some y.v := by
            obtain ⟨b', o', e', -, h1⟩ := rw_at (HX.out.below HK.out.2.drewR).r hkl
            cases e'
            rw [h1, hy]
          have q0 := HCX.out _ HK.out.2.drewR
          rw [ht] at HCC
          clear ht hy hks
          unfold Rw.v at q0 q1
          go_upto_region 8 with fail
          refine wp_region_plan (.take 0 (.take 1 (.take 2 (.take 3 (.take 4 (.take 5 (.take 6 (.take 7 (.run 8 [] .fin))))))))) (by kernel_rfl) (by kernel_rfl) (by kernel_rfl) (by kernel_rfl) ?_
          repeat' (first | (refine hZ _ _ ?_; clear hZ) | (refine hZ _ ?_; clear hZ) | (refine hZ ?_; clear hZ) | rw [again_nil] | rw [walk_fin] | ((first | rw [walk_take] | rw [walk_run] | rw [again_cons]); intro Z hZ; simp only [sel, List.getElem?_toArray, List.getElem?_cons_zero, List.getElem?_cons_succ]; go_wp2_with (fail)))
          refine (show Calls _ _ #[.slice y.a y.l.length y.c, .slice x.a x.l.length x.c] _ _ from sameall_any _ _ _ _ _ t s _ _ HYT.out (HXS.out _ HK.out.2.drewR)).mono ?_
          rintro e W4 ⟨rfl, hb4⟩
          have HB4 := Lib.hid (HK.out.2.drewR.trans (hb4.mono HK.out.2.size))
          clear hb4 q0 q1
          cases hb : Ev.sameL t s with
          | true =>
            have HR : Hid (n + 1 = (S.take (k + 1)).countP (fun t => Ev.sameL t s) ∧ Below w.heap.size w W4) := ⟨by rw [HCC.out, ← HK.out.1]; simp [hb], HB4.out⟩
            clear hb
            go_wp2_with fail
            repeat' (first | (refine hZ _ _ ?_; clear hZ) | (refine hZ _ ?_; clear hZ) | (refine hZ ?_; clear hZ) | rw [again_nil] | rw [walk_fin] | ((first | rw [walk_take] | rw [walk_run] | rw [again_cons]); intro Z hZ; simp only [sel, List.getElem?_toArray, List.getElem?_cons_zero, List.getElem?_cons_succ]; go_wp2_with (fail)))
            go_wp2_with fail
            go_roundw
            case rel => exact ⟨n + 1, k + 1, by omega, by omega, by go_num, by go_num, HR.out⟩
            case measure => simp [intOf]; omega
          | false =>
            have HR : Hid (n = (S.take (k + 1)).countP (fun t => Ev.sameL t s) ∧ Below w.heap.size w W4) := ⟨by rw [HCC.out, ← HK.out.1]; simp [hb], HB4.out⟩
            clear hb
            go_wp2_with fail
            repeat' (first | (refine hZ _ _ ?_; clear hZ) | (refine hZ _ ?_; clear hZ) | (refine hZ ?_; clear hZ) | rw [again_nil] | rw [walk_fin] | ((first | rw [walk_take] | rw [walk_run] | rw [again_cons]); intro Z hZ; simp only [sel, List.getElem?_toArray, List.getElem?_cons_zero, List.getElem?_cons_succ]; go_wp2_with (fail)))
            go_wp2_with fail
            go_roundw
            case rel => exact ⟨n, k + 1, by omega, by omega, by go_num, by go_num, HR.out⟩
            case measure => simp [intOf]; omega
        · have hki : ¬ (k : Int) < (X.length : Int) := by omega
          have HNS : Hid (n = S.countP (fun t => Ev.sameL t s)) := by
            have := HK.out.1
            rw [List.take_of_length_le (by have := HSL.out.1; omega)] at this
            exact this
          have HS3 : Hid ((n : Int) = (n : Int) - ((T.take 0).countP (fun t => Ev.sameL t s) : Int) ∧ Below w.heap.size w wr) := ⟨by simp, HK.out.2⟩
          clear HK
          have hn1 : n ≤ 1000000 := by omega
          clear hn hki hk
          go_upto_region 11 with fail
          go_loopw [6, 8] (fun nv kv wr => ∃ (m : Int) (k : Nat), k ≤ Y.length ∧ -1000000 ≤ m ∧ m ≤ 1000000 ∧ nv = .int .i64 m ∧ kv = .int .i64 (k : Int) ∧ Hid (m = (n : Int) - ((T.take k).countP (fun t => Ev.sameL t s) : Int) ∧ Below w.heap.size w wr)) (fun _ kv _ => Y.length - (intOf kv).toNat)
          case atStart => exact ⟨n, 0, Nat.zero_le _, by omega, by omega, by go_num, by go_num, HS3.out⟩
          case round =>
            obtain ⟨m, k, hk, hm1, hm2, rfl, rfl, HK⟩ := hrel
            clear HS3
            by_cases hkl : k < Y.length
            · have hki : (k : Int) < (Y.length : Int) := by omega
              have hks : k < T.length := by rw [HSL.out.2]; exact hkl
              have HCC := Lib.hid (count_take (p := fun t => Ev.sameL t s) hks)
              obtain ⟨t, ht⟩ : ∃ t, T[k] = t := ⟨_, rfl⟩
              obtain ⟨y, hy⟩ : ∃ y, Y[k] = y := ⟨_, rfl⟩
              obtain ⟨bb, ob, rfl, -, -⟩ := rw_at HY.out.r hkl
              have HYT : Hid (DvsAt wr.drew y.a t y.l) := by
                have := (HY.out.below HK.out.2.drewR).at_ hkl hks
                rw [ht, hy] at this
                exact this
              have hyll : y.l.length ≤ 1000000 := HYT.out.len
              have q1 : wr.drew.cell? ⟨bb, ob + k, none⟩ = some y.v := by
                obtain ⟨b', o', e', -, h1⟩ := rw_at (HY.out.below HK.out.2.drewR).r hkl
                cases e'
                rw [h1, hy]
              have q0 := HCX.out _ HK.out.2.drewR
              have HCB : Hid (((T.take (k + 1)).countP (fun t => Ev.sameL t s)) ≤ 1000000) := by
                show _ ≤ _
                have h1 := List.countP_le_length (p := fun t => Ev.sameL t s) (l := T.take (k + 1))
                rw [List.length_take] at h1
                omega
              rw [ht] at HCC
              clear ht hy hks
              unfold Rw.v at q0 q1
              go_upto_region 13 with fail
              refine wp_region_plan (.take 0 (.take 1 (.take 2 (.take 3 (.take 4 (.take 5 (.take 6 (.take 7 (.run 8 [] .fin))))))))) (by kernel_rfl) (by kernel_rfl) (by kernel_rfl) (by kernel_rfl) ?_
              repeat' (first | (refine hZ _ _ ?_; clear hZ) | (refine hZ _ ?_; clear hZ) | (refine hZ ?_; clear hZ) | rw [again_nil] | rw [walk_fin] | ((first | rw [walk_take] | rw [walk_run] | rw [again_cons]); intro Z hZ; simp only [sel, List.getElem?_toArray, List.getElem?_cons_zero, List.getElem?_cons_succ]; go_wp2_with (fail)))
              refine (show Calls _ _ #[.slice y.a y.l.length y.c, .slice x.a x.l.length x.c] _ _ from sameall_any _ _ _ _ _ t s _ _ HYT.out (HXS.out _ HK.out.2.drewR)).mono ?_
              rintro e W4 ⟨rfl, hb4⟩
              have HB4 := Lib.hid (HK.out.2.drewR.trans (hb4.mono HK.out.2.size))
              clear hb4 q0 q1
              cases hb : Ev.sameL t s with
              | true =>
                have HR : Hid (m - 1 = (n : Int) - ((T.take (k + 1)).countP (fun t => Ev.sameL t s) : Int) ∧ Below w.heap.size w W4) := ⟨by rw [HCC.out, HK.out.1]; simp [hb]; omega, HB4.out⟩
                have hm3 : -1000000 ≤ m - 1 := by
                  have h1 := HR.out.1
                  have h2 := HCB.out
                  omega
                clear hb
                go_wp2_with fail
                repeat' (first | (refine hZ _ _ ?_; clear hZ) | (refine hZ _ ?_; clear hZ) | (refine hZ ?_; clear hZ) | rw [again_nil] | rw [walk_fin] | ((first | rw [walk_take] | rw [walk_run] | rw [again_cons]); intro Z hZ; simp only [sel, List.getElem?_toArray, List.getElem?_cons_zero, List.getElem?_cons_succ]; go_wp2_with (fail)))
                go_wp2_with fail
                go_roundw
                case rel => exact ⟨m - 1, k + 1, by omega, hm3, by omega, by go_num, by go_num, HR.out⟩
                case measure => simp [intOf]; omega
              | false =>
                have HR : Hid (m = (n : Int) - ((T.take (k + 1)).countP (fun t => Ev.sameL t s) : Int) ∧ Below w.heap.size w W4) := ⟨by rw [HCC.out, HK.out.1]; simp [hb], HB4.out⟩
                clear hb
                go_wp2_with fail
                repeat' (first | (refine hZ _ _ ?_; clear hZ) | (refine hZ _ ?_; clear hZ) | (refine hZ ?_; clear hZ) | rw [again_nil] | rw [walk_fin] | ((first | rw [walk_take] | rw [walk_run] | rw [again_cons]); intro Z hZ; simp only [sel, List.getElem?_toArray, List.getElem?_cons_zero, List.getElem?_cons_succ]; go_wp2_with (fail)))
                go_wp2_with fail
                go_roundw
                case rel => exact ⟨m, k + 1, by omega, by omega, by omega, by go_num, by go_num, HR.out⟩
                case measure => simp [intOf]; omega
            · have hki : ¬ (k : Int) < (Y.length : Int) := by omega
              have hm0 : ¬ 0 < m := by
                have h1 := HK.out.1
                rw [List.take_of_length_le (by have := HSL.out.2; omega)] at h1
                have h2 := HCT.out s HSM.out
                have h3 := HNS.out
                omega
              go_wp2_with fail
              go_roundw
              case rel => exact ⟨i + 1, by omega, by go_num, HK.out.2⟩
              case measure => simp [intOf]; omega
    · have hii : ¬ (i : Int) < (X.length : Int) := by omega
      go_wp2_with fail
      go_ret
      exact ⟨rfl, HJ.out⟩
end Go.Proofs.Ytknfnhmkiooifaa
end

