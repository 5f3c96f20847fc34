/-
  Texts of a proof, one behind the other (each with its own head).
-/
import Derived.Test.YtpahkaffknnjhaaGreatDoorPartDcikbleke
section
namespace Go.Proofs.YtpahkaffknnjhaaGreatDoor
set_option linter.unusedSimpArgs false
set_option linter.unusedVariables false
open Go.RowKit
structure RowsOk (w : World) (A : Option Addr) (L : List Rw) : Prop where
  r : ERow eRw w A L
  in_ : ∀ x ∈ L, RowOk w x.a x.l
  len : L.length ≤ 1000000
theorem RowsOk.below {w W : World} {A : Option Addr} {L : List Rw} (h : RowsOk w A L) (hB : Below w.heap.size w W) : RowsOk W A L := ⟨h.r.below hB, fun x hx => (h.in_ x hx).below hB, h.len⟩
theorem rw_at {w : World} {A : Option Addr} {L : List Rw} (h : ERow eRw w A L) {j : Nat} (hj : j < L.length) : ∃ b o, A = some ⟨b, o, none⟩ ∧ b < w.heap.size ∧ w.cell? ⟨b, o + j, none⟩ = some L[j].v := by
  obtain ⟨b, o, e, hb, hc⟩ := h.at_ hj
  refine ⟨b, o, e, hb, ?_⟩
  have := hc 0 _ rfl
  rwa [show o + (j * eRw.sz + 0) = o + j by show o + (j * 1 + 0) = _; omega] at this
namespace Ev
theorem intsOf_snoc (vs : List Va) (v : Va) : intsOf (vs ++ [v]) = intsOf vs ++ if v.k = 1 then [v.n] else [] := by
  unfold intsOf
  rw [List.filter_append, List.map_append]
  by_cases h : v.k = 1 <;> simp [h]
theorem bestV_snoc (k : Int) (vs : List Va) (v : Va) : bestV k (vs ++ [v]) = bestStep k (bestV k vs) v := by unfold bestV; rw [List.foldl_append]; rfl
theorem argsV_snoc (n : Nd) (L : List Rw) (r : Rw) : argsV n (L ++ [r]) = argsV n L ++ [argV n r.l] := by unfold argsV; simp
theorem argV_ok {w : World} {row : List Va} (hr : ∀ v ∈ row, v.ok) {n : Nd} (hn : NodeIn w n) : (argV n row).ok := nth_ok (evalL_ok hr hn) 0
theorem clean_nth (l : List Va) (h : ∀ v ∈ l, Key.clean v = v) (i : Nat) : Key.clean (nth l i) = nth l i := by
  unfold nth
  by_cases hi : i < l.length
  · have e : l.getD i Key.nul = l[i] := by simp [List.getD, hi]
    rw [e]; exact h _ (List.getElem_mem hi)
  · have e : l.getD i Key.nul = Key.nul := by simp [List.getD, hi]
    rw [e]; rfl
theorem clean_evalK (row : List Va) (n : Nd) (vs : List Va) : Key.clean (evalK row n vs) = evalK row n vs := by
  unfold evalK
  (repeat' split) <;> first | exact clean_clean _ | exact clean_nul | exact clean_neg _ | exact clean_not _ | exact clean_and _ _ | exact clean_or _ _ | exact clean_cmp _ _ _ | exact clean_arith _ _ _ | exact clean_bool _
theorem clean_eval (row : List Va) (n : Nd) : Key.clean (eval row n) = eval row n := by rw [eval_eq]; exact clean_evalK _ _ _
theorem clean_argV (n : Nd) (row : List Va) : Key.clean (argV n row) = argV n row := by
  unfold argV
  refine clean_nth _ ?_ 0
  rw [evalL_map]
  intro v hv
  obtain ⟨m, -, rfl⟩ := List.mem_map.1 hv
  exact clean_eval _ _
theorem bestV_ok (k : Int) (vs : List Va) (h : ∀ v ∈ vs, v.ok) : (bestV k vs).ok := by
  induction vs using Srt.list_snoc with
  | h0 => exact nul_ok
  | h1 L z ih =>
    rw [bestV_snoc]
    unfold bestStep
    split
    · exact h z (by simp)
    · exact ih fun v hv => h v (by simp [hv])
theorem bestV_clean (k : Int) (vs : List Va) (h : ∀ v ∈ vs, Key.clean v = v) : Key.clean (bestV k vs) = bestV k vs := by
  induction vs using Srt.list_snoc with
  | h0 => rfl
  | h1 L z ih =>
    rw [bestV_snoc]
    unfold bestStep
    split
    · exact h z (by simp)
    · exact ih fun v hv => h v (by simp [hv])
end Ev
structure FoldAt (w W : World) (n : Nd) (L : List Rw) (g2 g4 g5 g6 i : Nat) : Prop where
  b2 : Blk W g2 66 n.cells
  b4 : Blk W g4 64 Key.nul.cells
  b5 : ∃ h l : Int, 0 ≤ l ∧ l < 18446744073709551616 ∧ -(i : Int) ≤ h ∧ h ≤ i ∧ h * 18446744073709551616 + l = (Ev.intsOf (Ev.argsV n (L.take i))).sum ∧ Blk W g5 171 [.int .i64 h, .int .u64 l, .bool (decide (Ev.intsOf (Ev.argsV n (L.take i)) ≠ []))]
  b6 : Blk W g6 64 (Ev.bestV n.k (Ev.argsV n (L.take i))).cells
  below : Below w.heap.size w W
theorem Ev.argsV_none {n : Nd} (h : n.args = []) (k : Int) (L : List Rw) : Ev.intsOf (Ev.argsV n L) = [] ∧ Ev.bestV k (Ev.argsV n L) = Key.nul := by
  have e : ∀ r : Rw, Ev.argV n r.l = Key.nul := fun r => by unfold Ev.argV; rw [h]; rfl
  induction L using Srt.list_snoc with
  | h0 => exact ⟨rfl, rfl⟩
  | h1 L z ih =>
    rw [Ev.argsV_snoc, e, Ev.intsOf_snoc, Ev.bestV_snoc, ih.1, ih.2]
    exact ⟨rfl, by unfold Ev.bestStep; rw [if_neg (fun h => h.1 rfl)]⟩
theorem FoldAt.args0 {w W : World} {n : Nd} {L : List Rw} {g2 g4 g5 g6 : Nat} (h : FoldAt w W n L g2 g4 g5 g6 0) (hn : n.args = []) (j : Nat) : FoldAt w W n L g2 g4 g5 g6 j := by
  obtain ⟨x, l, l0, l1, h0, h1, e, hb⟩ := h.b5
  obtain ⟨e1, e2⟩ := Ev.argsV_none hn n.k (L.take j)
  obtain ⟨e3, e4⟩ := Ev.argsV_none hn n.k (L.take 0)
  have d1 : decide (Ev.intsOf (Ev.argsV n (L.take j)) ≠ []) = false := by rw [decide_eq_false_iff_not]; simp [e1]
  have d3 : decide (Ev.intsOf (Ev.argsV n (L.take 0)) ≠ []) = false := rfl
  rw [d3] at hb
  refine ⟨h.b2, h.b4, ⟨x, l, l0, l1, by omega, by omega, by rw [e, e1, e3], by rw [d1]; exact hb⟩, by rw [e2, ← e4]; exact h.b6, h.below⟩
theorem node_args {w : World} {n : Nd} (h : NodeIn w n) : ERow eNd w n.a n.args ∧ ∀ m ∈ n.args, NodeIn w m := by
  cases h with
  | mk h1 h2 => exact ⟨h1, h2⟩
set_option maxRecDepth 100000 in
set_option maxHeartbeats 8000000 in
theorem fold_any (w : World) (n : Nd) (A : Option Addr) (c : Nat) (L : List Rw) (hn : NodeIn w n) (hL : RowsOk w A L) (hlc : L.length ≤ c) :
    Calls Tryz.prog 80 #[n.v, .slice A L.length c] w (RetV w (Ev.foldV n L)) := by
  have HN := Lib.hid hn
  have HL := Lib.hid hL
  have hlen := hL.len
  obtain ⟨d, hd⟩ : ∃ d, Ev.foldV n L = d := ⟨_, rfl⟩
  rw [hd]
  have HD := Lib.hid hd
  clear hn hL hd
  go_enter Tryz.func80, Tryz.ntmps80
  go_upto_region 1 with (first | (refine wpList_box_nd rfl (.tmp 0) rfl n rfl ?_; intro W1 hb1 hz1 hB1) | (refine wpList_alloc_va rfl rfl ?_; intro W3 hb3 hz3 hB3))
  have h2 := hb1.below hB3
  have HB3 := Lib.hid (hB1.then hB3)
  have hg1 : w.heap.size < W1.heap.size := by omega
  clear hb1 hB1 hB3 hz1
  generalize W1.heap.size = g4 at hb3 hg1 ⊢
  have hgw : w.heap.size ≤ w.heap.size := Nat.le_refl _
  generalize hg2 : w.heap.size = g2 at h2 hg1 hgw ⊢
  by_cases k10 : n.k = 10
  · have HD2 : Hid (d = ⟨1, (min L.length 2147483647 : Nat), 0, []⟩) := by show _ = _; rw [← HD.out]; unfold Ev.foldV; rw [if_pos k10]
    have HM : Hid (((min L.length 2147483647 : Nat) : Int) = (L.length : Int)) := by show _ = _; omega
    obtain ⟨c0, -⟩ := Blk.c10 h2
    rw [k10] at c0
    have hmin : (L.length : Int) ≤ 2147483647 := by omega
    go_wp2_with fail
    refine (ofint_any _ _).mono ?_
    rintro e W4 ⟨rfl, hB4⟩
    have hb4 := hb3.below hB4
    have HB4 := Lib.hid (HB3.out.then hB4)
    clear hB4 c0
    go_wp2_with (refine wpList_store_va rfl rfl (.tmp 4) (.tmp 17) rfl g4 rfl ⟨1, (L.length : Int), 0, []⟩ rfl hb4 ?_; intro W5 hb5 hg5)
    exact ret_va hb5 rfl rfl rfl ⟨by rw [HD2.out, HM.out], below_of_grown HB4.out hg5 (by omega) HB4.out.size⟩
  · have hk10 : (n.k == 10) = false := by simpa using k10
    have HDA : Hid (d = if n.k = 11 then Ev.sumV (Ev.argsV n L) else Ev.bestV n.k (Ev.argsV n L)) := by show _ = _; rw [← HD.out]; unfold Ev.foldV; rw [if_neg k10]
    obtain ⟨c0, -⟩ := Blk.c10 h2
    go_upto_region 4 with fail
    generalize hW4 : World.alloc W3 (.cells _ _) = W4
    obtain ⟨ba4, hz4, hB4⟩ := fresh1 hW4
    clear hW4
    have hg45 : g4 < W3.heap.size := hb3.lt
    have h2 := h2.below hB4
    have h4 := hb3.below hB4
    have HB4 := Lib.hid (HB3.out.then hB4)
    clear hb3 hB4 hz3 c0
    generalize W3.heap.size = g5 at ba4 hz4 hg45 ⊢
    go_upto_region 5 with (refine wpList_alloc_va rfl rfl ?_; intro W5 h6 hz6 hB6)
    have hg56 : g5 < W4.heap.size := by omega
    have h2 := h2.below hB6
    have h4 := h4.below hB6
    have h5 := ba4.below hB6
    have HB5 := Lib.hid (HB4.out.then hB6)
    clear ba4 hB6 hz6 hz4
    generalize W4.heap.size = g6 at h6 hg56 ⊢
    have HST : Hid (FoldAt w W5 n L g2 g4 g5 g6 0) := ⟨h2, h4, ⟨0, 0, by omega, by omega, by omega, by omega, rfl, h5⟩, h6, HB5.out⟩
    clear h2 h4 h5 h6 HB4
    by_cases hargs : n.args = []
    · have HE : Hid (FoldAt w W5 n L g2 g4 g5 g6 L.length) := HST.out.args0 hargs _
      obtain ⟨-, -, -, -, -, -, -, -, -, c9, -⟩ := Blk.c10 HST.out.b2
      rw [hargs] at c9
      clear HST
      by_cases hL0 : L.length ≤ 0
      · have hii : ¬ (0 : Int) < (L.length : Int) := by omega
        go_wp2_with fail
        go_loopw [20] (fun iv wr => iv = .int .i64 0 ∧ W5 = wr) (fun _ _ => 0)
        case atStart => exact ⟨by go_num, rfl⟩
        case round =>
          obtain ⟨rfl, rfl⟩ := hrel
          clear c9
          have HE2 : Hid (L.take L.length = L) := List.take_length
          obtain ⟨b2, b4, ⟨sh, sl, l0, l1, hh0, hh1, hsum, b5⟩, b6, hbel⟩ := HE.out
          rw [HE2.out] at hsum b5 b6
          have HBL := Lib.hid hbel
          obtain ⟨c0, -⟩ := Blk.c10 b2
          by_cases k11 : n.k = 11
          · have HD2 : Hid ((if decide (Ev.intsOf (Ev.argsV n L) ≠ []) = true then Ev.intV (Ev.fit (sh * 18446744073709551616 + sl)) else Key.nul) = d) := by
              show _ = _
              rw [HDA.out, if_pos k11, hsum]
              unfold Ev.sumV
              by_cases he : Ev.intsOf (Ev.argsV n L) = [] <;> simp [he]
            have HT := Lib.hid (totval_any W5 g5 sh sl _ l0 l1 (by omega) (by omega) b5)
            rw [k11] at c0
            clear hsum b5 b6 b2 hbel HE k11 hk10 k10
            go_wp2_with fail
            refine (show Calls _ _ _ _ _ from HT.out).mono ?_
            rintro e W8 ⟨rfl, hB8⟩
            rw [HD2.out]
            have hb8 := b4.below hB8
            have HB8 := Lib.hid (HBL.out.then hB8)
            clear hB8 c0 HT
            go_wp2_with (refine wpList_store_va rfl rfl (.tmp 4) (.tmp 74) rfl g4 rfl d rfl hb8 ?_; intro W9 hb9 hg9)
            exact ret_va hb9 rfl rfl rfl ⟨rfl, below_of_grown HB8.out hg9 (by omega) HB8.out.size⟩
          · have HD2 : Hid (Ev.bestV n.k (Ev.argsV n L) = d) := by show _ = _; rw [HDA.out, if_neg k11]
            rw [HD2.out] at b6
            have hk11 : (n.k == 11) = false := by simpa using k11
            clear hsum b5 b2 hbel HE k10 hk10 k11
            go_wp2_with (first | (refine wpList_load_va rfl (.tmp 6) rfl g6 rfl b6 ?_) | (refine wpList_store_va rfl rfl (.tmp 4) (.tmp 75) rfl g4 rfl d rfl b4 ?_; intro W9 hb9 hg9))
            exact ret_va hb9 rfl rfl rfl ⟨rfl, below_of_grown HBL.out hg9 (by omega) HBL.out.size⟩
      · have hlt : 0 < L.length := by omega
        have hii : (0 : Int) < (L.length : Int) := by omega
        obtain ⟨bb, oo, rfl, hbl, q0⟩ := rw_at (HL.out.r.below HE.out.below) hlt
        rw [Nat.add_zero] at q0
        go_wp2_with fail
        go_loopw [20] (fun iv wr => iv = .int .i64 0 ∧ W5 = wr) (fun _ _ => 0)
        case atStart => exact ⟨by go_num, rfl⟩
        case round =>
          obtain ⟨rfl, rfl⟩ := hrel
          go_upto_region 16 with fail
          clear c9 q0
          have HE2 : Hid (L.take L.length = L) := List.take_length
          obtain ⟨b2, b4, ⟨sh, sl, l0, l1, hh0, hh1, hsum, b5⟩, b6, hbel⟩ := HE.out
          rw [HE2.out] at hsum b5 b6
          have HBL := Lib.hid hbel
          obtain ⟨c0, -⟩ := Blk.c10 b2
          by_cases k11 : n.k = 11
          · have HD2 : Hid ((if decide (Ev.intsOf (Ev.argsV n L) ≠ []) = true then Ev.intV (Ev.fit (sh * 18446744073709551616 + sl)) else Key.nul) = d) := by
              show _ = _
              rw [HDA.out, if_pos k11, hsum]
              unfold Ev.sumV
              by_cases he : Ev.intsOf (Ev.argsV n L) = [] <;> simp [he]
            have HT := Lib.hid (totval_any W5 g5 sh sl _ l0 l1 (by omega) (by omega) b5)
            rw [k11] at c0
            clear hsum b5 b6 b2 hbel HE k11 hk10 k10
            go_wp2_with fail
            refine (show Calls _ _ _ _ _ from HT.out).mono ?_
            rintro e W8 ⟨rfl, hB8⟩
            rw [HD2.out]
            have hb8 := b4.below hB8
            have HB8 := Lib.hid (HBL.out.then hB8)
            clear hB8 c0 HT
            go_wp2_with (refine wpList_store_va rfl rfl (.tmp 4) (.tmp 74) rfl g4 rfl d rfl hb8 ?_; intro W9 hb9 hg9)
            exact ret_va hb9 rfl rfl rfl ⟨rfl, below_of_grown HB8.out hg9 (by omega) HB8.out.size⟩
          · have HD2 : Hid (Ev.bestV n.k (Ev.argsV n L) = d) := by show _ = _; rw [HDA.out, if_neg k11]
            rw [HD2.out] at b6
            have hk11 : (n.k == 11) = false := by simpa using k11
            clear hsum b5 b2 hbel HE k10 hk10 k11
            go_wp2_with (first | (refine wpList_load_va rfl (.tmp 6) rfl g6 rfl b6 ?_) | (refine wpList_store_va rfl rfl (.tmp 4) (.tmp 75) rfl g4 rfl d rfl b4 ?_; intro W9 hb9 hg9))
            exact ret_va hb9 rfl rfl rfl ⟨rfl, below_of_grown HBL.out hg9 (by omega) HBL.out.size⟩
    · have HN0 : Hid (0 < n.args.length) := List.length_pos_iff.2 hargs
      have hal : ((n.args.length : Int) == 0) = false := by have := HN0.out; simpa using hargs
      go_wp2_with fail
      go_loopw [20] (fun iv wr => ∃ i : Nat, i ≤ L.length ∧ iv = .int .i64 (i : Int) ∧ Hid (FoldAt w wr n L g2 g4 g5 g6 i)) (fun iv _ => L.length - (intOf iv).toNat)
      case atStart => exact ⟨0, Nat.zero_le _, by go_num, HST.out⟩
      case round =>
        obtain ⟨i, hi, rfl, HE⟩ := hrel
        clear HST
        by_cases hlt : i < L.length
        · have hii : (i : Int) < (L.length : Int) := by omega
          obtain ⟨bb, oo, rfl, hbl, q0⟩ := rw_at (HL.out.r.below HE.out.below) hlt
          obtain ⟨-, -, -, -, -, -, -, -, -, c9, -⟩ := Blk.c10 HE.out.b2
          have HNA := Lib.hid (node_args HN.out)
          obtain ⟨ab, ao, ha, -, -⟩ := HNA.out.1.at_ HN0.out
          have HNR : Hid (ERow eNd wr (some ⟨ab, ao, none⟩) n.args) := by show ERow _ _ _ _; rw [← ha]; exact HNA.out.1.below HE.out.below
          rw [ha] at c9
          have HEV := Lib.hid (eval_any w L[i].a L[i].c L[i].l (HL.out.in_ _ (List.getElem_mem hlt)).r (HL.out.in_ _ (List.getElem_mem hlt)).ok (HL.out.in_ _ (List.getElem_mem hlt)).len n.args[0] (HNA.out.2 _ (List.getElem_mem _)) wr HE.out.below)
          have HTK : Hid (L.take (i + 1) = L.take i ++ [L[i]]) := List.take_succ_eq_append_getElem hlt
          have HXV : Hid (Ev.argV n L[i].l = Ev.eval L[i].l n.args[0]) := by show _ = _; unfold Ev.argV; rw [Ev.evalL_get, dif_pos HN0.out]; rfl
          have HXO : Hid ((Ev.eval L[i].l n.args[0]).ok) := Ev.eval_ok (HL.out.in_ _ (List.getElem_mem hlt)).ok (HNA.out.2 _ (List.getElem_mem _))
          have HXC : Hid (Key.clean (Ev.eval L[i].l n.args[0]) = Ev.eval L[i].l n.args[0]) := Ev.clean_eval _ _
          generalize Ev.eval L[i].l n.args[0] = x at HEV HXV HXO HXC
          clear ha
          generalize L[i] = r at q0 HEV HTK HXV
          go_upto_region 9 with fail
          go_wp2_with (refine wpList_load_nd_at rfl (.tmp 30) rfl HNR.out HN0.out rfl ?_)
          refine (show Calls _ _ _ _ _ from HEV.out).mono ?_
          rintro e W1 ⟨rfl, hB1⟩
          obtain ⟨b2, b4, ⟨sh, sl, l0, l1, hh0, hh1, hsum, b5⟩, b6, hbel⟩ := HE.out
          have b2 := b2.below hB1
          have b4 := b4.below hB1
          have b5 := b5.below hB1
          have b6 := b6.below hB1
          have HB1 := Lib.hid (hbel.then hB1)
          clear hbel hB1 HE c9 q0 HEV
          go_upto_region 10 with (first | (refine wpList_alloc_va rfl rfl ?_; intro W2 b9 hz2 hB2) | (refine wpList_store_va rfl rfl (.tmp 9) (.tmp 33) rfl W1.heap.size rfl x rfl b9 ?_; intro W3 hb3 hg3))
          have hg9 : g6 < W1.heap.size := b6.lt
          have hw9 : w.heap.size ≤ W1.heap.size := HB1.out.size
          have HS : Hid (Blk W3 g2 66 n.cells ∧ Blk W3 g4 64 Key.nul.cells ∧ Blk W3 g6 64 (Ev.bestV n.k (Ev.argsV n (L.take i))).cells ∧ Blk W3 W1.heap.size 64 x.cells ∧ Below w.heap.size w W3) :=
            ⟨(b2.below hB2).grown hg3 (by simp; omega), (b4.below hB2).grown hg3 (by simp; omega), (b6.below hB2).grown hg3 (by simp; omega), hb3, below_of_grown (HB1.out.then hB2) hg3 hw9 (Nat.le_trans HB1.out.size hB2.size)⟩
          have HS5 := Lib.hid ((b5.below hB2).grown hg3 (by simp; omega))
          clear b2 b4 b5 b6 b9 hz2 hB2 hb3 hg3 HNR HNA
          generalize W1.heap.size = g9 at HS hg9 hw9 ⊢
          have HINT : Hid (Ev.intsOf (Ev.argsV n (L.take (i + 1))) = Ev.intsOf (Ev.argsV n (L.take i)) ++ if x.k = 1 then [x.n] else []) := by show _ = _; rw [HTK.out, Ev.argsV_snoc, Ev.intsOf_snoc, HXV.out]
          have HBST : Hid (Ev.bestV n.k (Ev.argsV n (L.take (i + 1))) = if x.k ≠ 0 ∧ ((Ev.bestV n.k (Ev.argsV n (L.take i))).k = 0 ∨ n.k = 12 ∧ Key.vord x (Ev.bestV n.k (Ev.argsV n (L.take i))) < 0 ∨ n.k = 13 ∧ 0 < Key.vord x (Ev.bestV n.k (Ev.argsV n (L.take i)))) then x else Ev.bestV n.k (Ev.argsV n (L.take i))) := by show _ = _; rw [HTK.out, Ev.argsV_snoc, Ev.bestV_snoc, HXV.out]; rfl
          have HBO : Hid ((Ev.bestV n.k (Ev.argsV n (L.take i))).ok) := Ev.bestV_ok _ _ fun v hv => by
            obtain ⟨y, hy, rfl⟩ := List.mem_map.1 hv
            exact Ev.argV_ok (HL.out.in_ y (List.mem_of_mem_take hy)).ok HN.out
          have HBC : Hid (Key.clean (Ev.bestV n.k (Ev.argsV n (L.take i))) = Ev.bestV n.k (Ev.argsV n (L.take i))) := Ev.bestV_clean _ _ fun v hv => by
            obtain ⟨y, hy, rfl⟩ := List.mem_map.1 hv
            exact Ev.clean_argV _ _
          generalize Ev.bestV n.k (Ev.argsV n (L.take i)) = bs at HS HBST HBO HBC
          generalize Ev.intsOf (Ev.argsV n (L.take i)) = is at HINT hsum HS5
          have HSUM := Lib.hid hsum
          clear hsum
          have q0 := HS.out.2.2.2.1.cell 0
          have q1 := HS.out.2.2.2.1.cell 1
          simp only [Va.cells, List.getElem?_cons_zero, List.getElem?_cons_succ] at q0 q1
          go_upto_if 36 with fail
          go_cut [] from 35 to 39 (fun wx => Hid (Blk wx g2 66 n.cells ∧ Blk wx g4 64 Key.nul.cells ∧ Blk wx g6 64 bs.cells ∧ Blk wx g9 64 x.cells ∧ Below w.heap.size w wx ∧
            ∃ h l : Int, 0 ≤ l ∧ l < 18446744073709551616 ∧ -((i + 1 : Nat) : Int) ≤ h ∧ h ≤ ((i + 1 : Nat) : Int) ∧ h * 18446744073709551616 + l = (Ev.intsOf (Ev.argsV n (L.take (i + 1)))).sum ∧ Blk wx g5 171 [.int .i64 h, .int .u64 l, .bool (decide (Ev.intsOf (Ev.argsV n (L.take (i + 1))) ≠ []))]))
          case first =>
            by_cases hx1 : x.k = 1
            · have HT := Lib.hid (totadd_any W3 g5 sh sl x.n _ l0 l1 (by omega) (by omega) ⟨HXO.out.n1, HXO.out.n2⟩ HS5.out)
              rw [hx1]
              have HX1 := Lib.hid hx1
              clear hx1
              go_wp2_with fail
              refine (show Calls _ _ _ _ _ from HT.out).mono ?_
              rintro e W4 ⟨rfl, hg4, h', l', k1, k2, k3, k4, k5, hb5⟩
              have HR : Hid (Blk W4 g2 66 n.cells ∧ Blk W4 g4 64 Key.nul.cells ∧ Blk W4 g6 64 bs.cells ∧ Blk W4 g9 64 x.cells ∧ Below w.heap.size w W4 ∧
            ∃ h l : Int, 0 ≤ l ∧ l < 18446744073709551616 ∧ -((i + 1 : Nat) : Int) ≤ h ∧ h ≤ ((i + 1 : Nat) : Int) ∧ h * 18446744073709551616 + l = (Ev.intsOf (Ev.argsV n (L.take (i + 1)))).sum ∧ Blk W4 g5 171 [.int .i64 h, .int .u64 l, .bool (decide (Ev.intsOf (Ev.argsV n (L.take (i + 1))) ≠ []))]) := by
                obtain ⟨s1, s2, s3, s4, s5⟩ := HS.out
                have hdec : decide (Ev.intsOf (Ev.argsV n (L.take (i + 1))) ≠ []) = true := by rw [decide_eq_true_iff, HINT.out, if_pos HX1.out]; simp
                refine ⟨s1.grown hg4 (by simp; omega), s2.grown hg4 (by simp; omega), s3.grown hg4 (by simp; omega), s4.grown hg4 (by simp; omega), below_of_grown s5 hg4 (by omega) s5.size, h', l', k1, k2, by omega, by omega, ?_, by rw [hdec]; exact hb5⟩
                rw [HINT.out, if_pos HX1.out, k5, HSUM.out]
                simp
              clear hg4 k1 k2 k3 k4 k5 hb5 q0 q1
              go_wp2_with fail
              go_meet
              case rel => exact HR.out
            · have HR : Hid (Blk W3 g2 66 n.cells ∧ Blk W3 g4 64 Key.nul.cells ∧ Blk W3 g6 64 bs.cells ∧ Blk W3 g9 64 x.cells ∧ Below w.heap.size w W3 ∧
            ∃ h l : Int, 0 ≤ l ∧ l < 18446744073709551616 ∧ -((i + 1 : Nat) : Int) ≤ h ∧ h ≤ ((i + 1 : Nat) : Int) ∧ h * 18446744073709551616 + l = (Ev.intsOf (Ev.argsV n (L.take (i + 1)))).sum ∧ Blk W3 g5 171 [.int .i64 h, .int .u64 l, .bool (decide (Ev.intsOf (Ev.argsV n (L.take (i + 1))) ≠ []))]) := by
                obtain ⟨s1, s2, s3, s4, s5⟩ := HS.out
                have he : Ev.intsOf (Ev.argsV n (L.take (i + 1))) = is := by rw [HINT.out, if_neg hx1, List.append_nil]
                have hd : decide (Ev.intsOf (Ev.argsV n (L.take (i + 1))) ≠ []) = decide (is ≠ []) := by simp only [he]
                exact ⟨s1, s2, s3, s4, s5, sh, sl, l0, l1, by omega, by omega, by rw [he]; exact HSUM.out, by rw [hd]; exact HS5.out⟩
              have hx1' : (x.k == 1) = false := by simpa using hx1
              go_wp2_with fail
              go_meet
              case rel => exact HR.out
          case rest =>
            clear HS HS5 HSUM q0 q1 hh0 hh1 l0 l1
            obtain ⟨b2, b4, b6, b9, hB3, HTT⟩ := hcut.out
            have HTT := Lib.hid HTT
            have HB3' := Lib.hid hB3
            clear hcut hB3
            go_wp2_with (first | (refine wpList_load_va rfl (.tmp 9) rfl g9 rfl b9 ?_) | (refine wpList_load_va rfl (.tmp 6) rfl g6 rfl b6 ?_))
            refine (pord_any _ x bs HXO.out HBO.out).mono ?_
            rintro e W4 ⟨rfl, hB4⟩
            rw [HXC.out, HBC.out]
            have b2 := b2.below hB4
            have b4 := b4.below hB4
            have b6 := b6.below hB4
            have b9 := b9.below hB4
            have HB4 := Lib.hid (HB3'.out.then hB4)
            have HT4 : Hid (∃ h l : Int, 0 ≤ l ∧ l < 18446744073709551616 ∧ -((i + 1 : Nat) : Int) ≤ h ∧ h ≤ ((i + 1 : Nat) : Int) ∧ h * 18446744073709551616 + l = (Ev.intsOf (Ev.argsV n (L.take (i + 1)))).sum ∧ Blk W4 g5 171 [.int .i64 h, .int .u64 l, .bool (decide (Ev.intsOf (Ev.argsV n (L.take (i + 1))) ≠ []))]) := by
              obtain ⟨h, l, a1, a2, a3, a4, a5, a6⟩ := HTT.out
              exact ⟨h, l, a1, a2, a3, a4, a5, a6.below hB4⟩
            clear hB4 HTT
            have c0 := b2.cell 0
            have d0 := b9.cell 0
            have e0 := b6.cell 0
            simp only [Va.cells, Nd.cells, List.getElem?_cons_zero] at c0 d0 e0
            have hvr := Key.vord_range x bs
            generalize Key.vord x bs = o at HBST hvr ⊢
            have HBS2 := HBST
            clear HBST
            go_upto_region 13 with fail
            generalize hm : n.k = m
            have HM := Lib.hid hm
            clear hm
            go_cut [68] from 43 to 68 (fun v wx => Hid (v = .bool (decide (x.k ≠ 0 ∧ (bs.k = 0 ∨ n.k = 12 ∧ o < 0 ∨ n.k = 13 ∧ 0 < o))) ∧ W4 = wx))
            case first =>
              by_cases t1 : x.k = 0
              · have u1 : (x.k != 0) = false := by simpa using t1
                have HC : Hid (decide (x.k ≠ 0 ∧ (bs.k = 0 ∨ n.k = 12 ∧ o < 0 ∨ n.k = 13 ∧ 0 < o)) = false) := by show _ = _; rw [decide_eq_false_iff_not]; omega
                go_wp2_with fail
                go_meet
                case rel => exact ⟨by rw [HC.out], rfl⟩
              have u1 : (x.k != 0) = true := by simpa using t1
              by_cases t2 : bs.k = 0
              · have u2 : (bs.k == 0) = true := by simpa using t2
                have HC : Hid (decide (x.k ≠ 0 ∧ (bs.k = 0 ∨ n.k = 12 ∧ o < 0 ∨ n.k = 13 ∧ 0 < o)) = true) := by show _ = _; rw [decide_eq_true_iff]; omega
                go_wp2_with fail
                go_meet
                case rel => exact ⟨by rw [HC.out], rfl⟩
              have u2 : (bs.k == 0) = false := by simpa using t2
              by_cases t3 : n.k = 12
              · have u3 : (n.k == 12) = true := by simpa using t3
                have u4 : (n.k == 13) = false := by simp; omega
                by_cases t4 : o < 0
                · have HC : Hid (decide (x.k ≠ 0 ∧ (bs.k = 0 ∨ n.k = 12 ∧ o < 0 ∨ n.k = 13 ∧ 0 < o)) = true) := by show _ = _; rw [decide_eq_true_iff]; omega
                  go_wp2_with fail
                  go_meet
                  case rel => exact ⟨by rw [HC.out], rfl⟩
                · have HC : Hid (decide (x.k ≠ 0 ∧ (bs.k = 0 ∨ n.k = 12 ∧ o < 0 ∨ n.k = 13 ∧ 0 < o)) = false) := by show _ = _; rw [decide_eq_false_iff_not]; omega
                  go_wp2_with fail
                  go_meet
                  case rel => exact ⟨by rw [HC.out], rfl⟩
              have u3 : (n.k == 12) = false := by simpa using t3
              by_cases t5 : n.k = 13
              · have u5 : (n.k == 13) = true := by simpa using t5
                by_cases t4 : 0 < o
                · have HC : Hid (decide (x.k ≠ 0 ∧ (bs.k = 0 ∨ n.k = 12 ∧ o < 0 ∨ n.k = 13 ∧ 0 < o)) = true) := by show _ = _; rw [decide_eq_true_iff]; omega
                  go_wp2_with fail
                  go_meet
                  case rel => exact ⟨by rw [HC.out], rfl⟩
                · have HC : Hid (decide (x.k ≠ 0 ∧ (bs.k = 0 ∨ n.k = 12 ∧ o < 0 ∨ n.k = 13 ∧ 0 < o)) = false) := by show _ = _; rw [decide_eq_false_iff_not]; omega
                  go_wp2_with fail
                  go_meet
                  case rel => exact ⟨by rw [HC.out], rfl⟩
              have u5 : (n.k == 13) = false := by simpa using t5
              have HC : Hid (decide (x.k ≠ 0 ∧ (bs.k = 0 ∨ n.k = 12 ∧ o < 0 ∨ n.k = 13 ∧ 0 < o)) = false) := by show _ = _; rw [decide_eq_false_iff_not]; omega
              go_wp2_with fail
              go_meet
              case rel => exact ⟨by rw [HC.out], rfl⟩
            case rest =>
              obtain ⟨hv, rfl⟩ := hcut.out
              subst hv
              clear hcut c0 d0 e0
              have hm := HM.out
              clear HM
              subst hm
              by_cases hC : x.k ≠ 0 ∧ (bs.k = 0 ∨ n.k = 12 ∧ o < 0 ∨ n.k = 13 ∧ 0 < o)
              · have HBS3 : Hid (Ev.bestV n.k (Ev.argsV n (L.take (i + 1))) = x) := by show _ = _; rw [HBS2.out, if_pos hC]
                rw [decide_eq_true hC]
                clear hC
                go_wp2_with (first | (refine wpList_load_va rfl (.tmp 9) rfl g9 rfl b9 ?_) | (refine wpList_store_va rfl rfl (.tmp 6) (.tmp 69) rfl g6 rfl x rfl b6 ?_; intro W5 hb5 hg5))
                have HR : Hid (FoldAt w W5 n L g2 g4 g5 g6 (i + 1)) := by
                  obtain ⟨h, l, a1, a2, a3, a4, a5, a6⟩ := HT4.out
                  exact ⟨b2.grown hg5 (by simp; omega), b4.grown hg5 (by simp; omega), ⟨h, l, a1, a2, a3, a4, a5, a6.grown hg5 (by simp; omega)⟩, by rw [HBS3.out]; exact hb5, below_of_grown HB4.out hg5 (by omega) HB4.out.size⟩
                clear hg5 hb5 b2 b4 b6 b9
                go_roundw
                case rel => exact ⟨i + 1, by omega, by go_num, HR.out⟩
                case measure => simp [intOf]; omega
              · have HBS3 : Hid (Ev.bestV n.k (Ev.argsV n (L.take (i + 1))) = bs) := by show _ = _; rw [HBS2.out, if_neg hC]
                rw [decide_eq_false hC]
                clear hC
                have HR : Hid (FoldAt w W4 n L g2 g4 g5 g6 (i + 1)) := by
                  obtain ⟨h, l, a1, a2, a3, a4, a5, a6⟩ := HT4.out
                  exact ⟨b2, b4, ⟨h, l, a1, a2, a3, a4, a5, a6⟩, by rw [HBS3.out]; exact b6, HB4.out⟩
                clear b2 b4 b6 b9
                go_wp2_with fail
                go_roundw
                case rel => exact ⟨i + 1, by omega, by go_num, HR.out⟩
                case measure => simp [intOf]; omega
        · obtain rfl : i = L.length := by omega
          have hii : ¬ (L.length : Int) < (L.length : Int) := by omega
          have HE2 : Hid (L.take L.length = L) := List.take_length
          obtain ⟨b2, b4, ⟨sh, sl, l0, l1, hh0, hh1, hsum, b5⟩, b6, hbel⟩ := HE.out
          rw [HE2.out] at hsum b5 b6
          have HBL := Lib.hid hbel
          obtain ⟨c0, -⟩ := Blk.c10 b2
          by_cases k11 : n.k = 11
          · have HD2 : Hid ((if decide (Ev.intsOf (Ev.argsV n L) ≠ []) = true then Ev.intV (Ev.fit (sh * 18446744073709551616 + sl)) else Key.nul) = d) := by
              show _ = _
              rw [HDA.out, if_pos k11, hsum]
              unfold Ev.sumV
              by_cases he : Ev.intsOf (Ev.argsV n L) = [] <;> simp [he]
            have HT := Lib.hid (totval_any wr g5 sh sl _ l0 l1 (by omega) (by omega) b5)
            rw [k11] at c0
            clear hsum b5 b6 b2 hbel HE k11 hk10 k10
            go_wp2_with fail
            refine (show Calls _ _ _ _ _ from HT.out).mono ?_
            rintro e W8 ⟨rfl, hB8⟩
            rw [HD2.out]
            have hb8 := b4.below hB8
            have HB8 := Lib.hid (HBL.out.then hB8)
            clear hB8 c0 HT
            go_wp2_with (refine wpList_store_va rfl rfl (.tmp 4) (.tmp 74) rfl g4 rfl d rfl hb8 ?_; intro W9 hb9 hg9)
            exact ret_va hb9 rfl rfl rfl ⟨rfl, below_of_grown HB8.out hg9 (by omega) HB8.out.size⟩
          · have HD2 : Hid (Ev.bestV n.k (Ev.argsV n L) = d) := by show _ = _; rw [HDA.out, if_neg k11]
            rw [HD2.out] at b6
            have hk11 : (n.k == 11) = false := by simpa using k11
            clear hsum b5 b2 hbel HE k10 hk10 k11
            go_wp2_with (first | (refine wpList_load_va rfl (.tmp 6) rfl g6 rfl b6 ?_) | (refine wpList_store_va rfl rfl (.tmp 4) (.tmp 75) rfl g4 rfl d rfl b4 ?_; intro W9 hb9 hg9))
            exact ret_va hb9 rfl rfl rfl ⟨rfl, below_of_grown HBL.out hg9 (by omega) HBL.out.size⟩
end Go.Proofs.YtpahkaffknnjhaaGreatDoor
end

section
namespace Go.Proofs.YtpahkaffknnjhaaGreatDoor
set_option linter.unusedSimpArgs false
set_option linter.unusedVariables false
open Go.RowKit
structure Gr where
  a : Option Addr
  l : List Rw
  c : Nat
instance : Inhabited Gr := ⟨⟨none, [], 0⟩⟩
def Gr.h (r : Gr) : Value := .slice r.a r.l.length r.c
def Gr.v (r : Gr) : Value := .agg #[r.h]
def CmpsG (w : World) (g q : Nat) (cmp : Gr → Gr → Int) (L : List Gr) : Prop :=
  ∀ W, w.grownBy W (some g) → ∀ x ∈ L, ∀ y ∈ L, Calls Tryz.prog 76 #[x.v, y.v, .pointer (some ⟨q, 0, none⟩)] W fun e w' => e = .returned (.int .i64 (cmp x y)) ∧ Below W.heap.size W w'
def SortsG (w : World) (g : Nat) (cs : List Value) (e : Ending) (w' : World) : Prop := e = .returned (.tuple #[]) ∧ Blk w' g 126 cs ∧ w.grownBy w' (some g)
theorem grown_refl (w : World) (r : Option Nat) : w.grownBy w r := ⟨rfl, rfl, rfl, Nat.le_refl _, fun _ _ _ => rfl⟩
theorem grown_trans {w W W' : World} {r : Option Nat} (h : w.grownBy W r) (k : W.grownBy W' r) : w.grownBy W' r :=
  ⟨k.os.trans h.os, k.tape.trans h.tape, k.output.trans h.output, Nat.le_trans h.size k.size, fun b hb hne => (k.block b (Nat.lt_of_lt_of_le hb h.size) hne).trans (h.block b hb hne)⟩
theorem grown_drew {w W : World} {r : Option Nat} (h : w.grownBy W r) : w.grownBy W.drew r := ⟨h.os, h.tape, h.output, h.size, h.block⟩
theorem grown_belowR {w W W' : World} {row : Option Nat} (h : w.grownBy W row) (hb : Below W.heap.size W W') : w.grownBy W' row :=
  ⟨hb.os.trans h.os, hb.tape.trans h.tape, hb.output.trans h.output, Nat.le_trans h.size hb.size, fun k hk hne => (hb.block k (Nat.lt_of_lt_of_le hk h.size)).trans (h.block k hk hne)⟩
theorem grown_set {w W : World} {g : Nat} (h : w.grownBy W (some g)) (i : Nat) (u : Value) : w.grownBy (W.setCell ⟨g, i, none⟩ u) (some g) :=
  ⟨h.os, h.tape, h.output, by simpa using h.size, fun b hb hne => (heap_setCell_other W ⟨g, i, none⟩ b u (fun e => hne (by simpa using e))).trans (h.block b hb hne)⟩
theorem blk_at {α : Type} {w : World} {g : Nat} {T : TypeId} {L : List α} {f : α → Value} {sp : List Value} (h : Blk w g T (L.map f ++ sp)) {j : Nat} (hj : j < L.length) : w.cell? ⟨g, j, none⟩ = some (f L[j]) ∧ w.frozen? ⟨g, j, none⟩ = false := by
  refine ⟨?_, h.free j⟩
  rw [h.cell, List.getElem?_append_left (by simpa using hj)]
  simp [hj]
set_option maxRecDepth 100000 in
set_option maxHeartbeats 8000000 in
theorem insG_any (w : World) (g q c : Nat) (cmp : Gr → Gr → Int) (ho : Srt.Ord cmp) (P S Q : List Gr) (sp : List Value) (hb : Blk w g 126 ((P ++ S ++ Q).map Gr.h ++ sp)) (hc : CmpsG w g q cmp (P ++ S ++ Q)) (hlen : (P ++ S ++ Q).length ≤ 1000000) (hcap : (P ++ S ++ Q).length ≤ c) :
    Calls Tryz.prog 150 #[.slice (some ⟨g, 0, none⟩) (P ++ S ++ Q).length c, .int .i64 (P.length : Int), .int .i64 ((P.length + S.length : Nat) : Int), .func (.func 76) #[] #[.pointer (some ⟨q, 0, none⟩)]] w
      (SortsG w g ((P ++ Srt.ssort cmp S ++ Q).map Gr.h ++ sp)) := by
  have HO := Lib.hid ho
  have HC := Lib.hid hc
  have HBK := Lib.hid hb
  have hl3 : (P ++ S ++ Q).length = P.length + S.length + Q.length := by simp; omega
  obtain ⟨n, hn⟩ : ∃ n, (P ++ S ++ Q).length = n := ⟨_, rfl⟩
  rw [hn] at hlen hcap hl3 ⊢
  obtain ⟨e0, he0⟩ : ∃ e0, P.length + S.length = e0 := ⟨_, rfl⟩
  rw [he0]
  have he1 : P.length + S.length ≤ e0 := by omega
  have he2 : e0 ≤ P.length + S.length := by omega
  clear he0
  have HN := Lib.hid hn
  obtain ⟨cs, hcs⟩ : ∃ cs, (P ++ Srt.ssort cmp S ++ Q).map Gr.h ++ sp = cs := ⟨_, rfl⟩
  rw [hcs]
  have HCS := Lib.hid hcs
  have HL3 := Lib.hid hl3
  have hle3 : P.length + S.length ≤ n := by omega
  clear hb hc ho hn hcs hl3
  go_enter Tryz.func150, Tryz.ntmps150
  go_wp2_with fail
  go_loopw [8] (fun iv wr => ∃ k : Nat, (k + 1 ≤ S.length ∨ S.length = 0 ∧ k = 0) ∧ iv = .int .i64 ((P.length + 1 + k : Nat) : Int) ∧ Hid (Blk wr g 126 ((P ++ Srt.ssort cmp (S.take (k + 1)) ++ (S.drop (k + 1) ++ Q)).map Gr.h ++ sp) ∧ w.grownBy wr (some g))) (fun iv _ => P.length + S.length + 1 - (intOf iv).toNat)
  case atStart =>
    refine ⟨0, by omega, by go_num, ?_, grown_refl _ _⟩
    have e : Srt.ssort cmp (S.take (0 + 1)) ++ S.drop (0 + 1) = S := by
      cases S with
      | nil => rfl
      | cons x S => show Srt.mg cmp [] [x] ++ S = _; rw [Srt.mg_nil_left]; rfl
    have e2 : P ++ Srt.ssort cmp (S.take (0 + 1)) ++ (S.drop (0 + 1) ++ Q) = P ++ S ++ Q := by
      rw [List.append_assoc, ← List.append_assoc (Srt.ssort cmp (S.take (0 + 1))), e, List.append_assoc]
    rw [e2]
    exact HBK.out
  case round =>
    obtain ⟨k, hk, rfl, HJ⟩ := hrel
    clear HBK
    by_cases hlt : k + 1 < S.length
    · have hii : ((P.length + 1 + k : Nat) : Int) < (e0 : Int) := by omega
      obtain ⟨x, hx⟩ : ∃ x, S[k + 1] = x := ⟨_, rfl⟩
      have hdr : S.drop (k + 1) = x :: S.drop (k + 2) := by rw [← hx]; exact (List.getElem_cons_drop hlt).symm
      obtain ⟨T, hT⟩ : ∃ T, Srt.ssort cmp (S.take (k + 1)) = T := ⟨_, rfl⟩
      obtain ⟨R, hR⟩ : ∃ R, S.drop (k + 2) ++ Q = R := ⟨_, rfl⟩
      have hTl : T.length = k + 1 := by rw [← hT, Srt.ssort_length, List.length_take]; omega
      have HTS : Hid (Srt.Sorted cmp T) := by show Srt.Sorted cmp T; rw [← hT]; exact Srt.ssort_sorted HO.out _
      have HTM : Hid (∀ t ∈ T, t ∈ P ++ S ++ Q) := fun t ht => by
        rw [← hT] at ht
        have := List.mem_of_mem_take ((Srt.ssort_perm cmp _).mem_iff.1 ht)
        simp [this]
      have HXM : Hid (x ∈ P ++ S ++ Q) := by show x ∈ _; rw [← hx]; simp
      have HNX : Hid (Srt.ssort cmp (S.take (k + 1 + 1)) = Srt.mg cmp T [x]) := by
        show _ = _
        rw [List.take_succ_eq_append_getElem hlt, Srt.ssort_snoc, hT, hx]
      have HJ2 : Hid (Blk wr g 126 ((P ++ (T ++ x :: []) ++ R).map Gr.h ++ sp) ∧ w.grownBy wr (some g)) := by
        refine ⟨?_, HJ.out.2⟩
        have h1 := HJ.out.1
        rw [hT, hdr, List.cons_append, hR] at h1
        have e : P ++ T ++ x :: R = P ++ (T ++ [x]) ++ R := by simp
        rw [e] at h1
        exact h1
      have HRR := Lib.hid hR
      have hnl : n = P.length + (T.length + 1 + R.length) := by rw [HL3.out, hTl, ← hR]; simp; omega
      have HFIN : Hid (∀ (T1 T2 : List Gr) (W : World), T = T1 ++ T2 → (∀ t ∈ T1, ¬ cmp x t < 0) → (∀ t ∈ T2, cmp x t < 0) → Blk W g 126 ((P ++ (T1 ++ x :: T2) ++ R).map Gr.h ++ sp) → Blk W g 126 ((P ++ Srt.ssort cmp (S.take (k + 1 + 1)) ++ (S.drop (k + 1 + 1) ++ Q)).map Gr.h ++ sp)) := fun T1 T2 W h1 h2 h3 h4 => by
        rw [HNX.out, h1, Srt.mg_one T1 T2 x h2 h3, HRR.out]
        exact h4
      have HNL := Lib.hid hnl
      have hTn : P.length + k + 2 ≤ n := by omega
      clear hT hx hdr hR HJ hnl
      go_wp2_with fail
      go_loopw [9] (fun jv wq => ∃ T1 T2 : List Gr, T1.length + T2.length = k + 1 ∧ jv = .int .i64 ((P.length + T1.length : Nat) : Int) ∧ Hid (T = T1 ++ T2 ∧ (∀ t ∈ T2, cmp x t < 0) ∧ Blk wq g 126 ((P ++ (T1 ++ x :: T2) ++ R).map Gr.h ++ sp) ∧ w.grownBy wq (some g))) (fun jv _ => (intOf jv).toNat)
      case atStart => exact ⟨T, [], by simpa using hTl, by rw [hTl]; go_num, by simp, (by intro t ht; cases ht), HJ2.out⟩
      case round =>
        obtain ⟨T1, T2, hT12, rfl, HK⟩ := hrel
        clear HJ2
        have hnT : n = P.length + T1.length + 1 + T2.length + R.length := by have := HNL.out; omega
        rcases List.eq_nil_or_concat T1 with rfl | ⟨T1', t, rfl⟩
        · simp only [List.length_nil, Nat.add_zero, Nat.zero_add] at hT12 ⊢
          clear hnT
          go_upto_region 4 with fail
          refine wp_region_plan (.take 0 (.take 1 (.take 2 (.take 3 (.take 4 (.take 5 (.take 6 (.take 7 (.take 8 (.take 9 (.take 10 (.take 11 (.take 12 (.take 13 (.run 14 [] (.take 15 (.take 16 .fin))))))))))))))))) (by kernel_rfl) (by kernel_rfl) (by kernel_rfl) (by kernel_rfl) ?_
          repeat' (first | (refine hZ _ _ ?_; clear hZ) | (refine hZ _ ?_; clear hZ) | (refine hZ ?_; clear hZ) | rw [again_nil] | rw [walk_fin] | ((first | rw [walk_take] | rw [walk_run] | rw [again_cons]); intro Z hZ; simp only [sel, List.getElem?_toArray, List.getElem?_cons_zero, List.getElem?_cons_succ]; go_wp2_with (fail)))
          go_wp2_with fail
          go_roundw
          case rel => exact ⟨k + 1, by omega, by go_num, HFIN.out [] T2 _ HK.out.1 (by intro t ht; cases ht) HK.out.2.1 HK.out.2.2.1.drew, grown_drew HK.out.2.2.2⟩
          case measure => simp [intOf]; omega
        · rw [List.concat_eq_append] at HK
          have hl1 : (T1'.concat t).length = T1'.length + 1 := by simp
          rw [hl1] at hT12 hnT ⊢
          obtain ⟨J, hJ⟩ : ∃ J, P.length + T1'.length = J := ⟨_, rfl⟩
          rw [show P.length + (T1'.length + 1) = J + 1 by omega] at hnT ⊢
          have hJP : P.length ≤ J := by omega
          have hJn : J + 2 ≤ n := by omega
          have HJJ := Lib.hid hJ
          have HNT := Lib.hid hnT
          have HT12 := Lib.hid hT12
          clear hnT hT12 hl1
          have HP2 : Hid ((P ++ ((T1' ++ [t]) ++ x :: T2) ++ R) = (P ++ T1') ++ t :: x :: (T2 ++ R)) := by show _ = _; simp
          have hHP : ∀ W, Blk W g 126 ((P ++ ((T1' ++ [t]) ++ x :: T2) ++ R).map Gr.h ++ sp) → W.cell? ⟨g, J, none⟩ = some t.h ∧ W.cell? ⟨g, J + 1, none⟩ = some x.h ∧ W.frozen? ⟨g, J, none⟩ = false ∧ W.frozen? ⟨g, J + 1, none⟩ = false := fun W h => by
            rw [HP2.out] at h
            have e0 : ((P ++ T1').map Gr.h).length = J := by simp [← hJ]
            refine ⟨?_, ?_, h.free _, h.free _⟩ <;> rw [h.cell, List.map_append, List.append_assoc, List.getElem?_append_right (by omega), e0]
            · simp
            · rw [show J + 1 - J = 1 by omega]; simp
          have HHP := Lib.hid hHP
          clear hHP hJ
          have hTM2 := HTM.out t (by rw [HK.out.1]; simp)
          have HTM2 := Lib.hid hTM2
          clear hTM2
          obtain ⟨q0, q1, q2, q3⟩ := HHP.out _ HK.out.2.2.1.drew
          go_upto_region 4 with fail
          refine wp_region_plan (.take 0 (.take 1 (.take 2 (.take 3 (.take 4 (.take 5 (.take 6 (.take 7 (.take 8 (.take 9 (.take 10 (.take 11 (.take 12 (.take 13 (.run 14 [] (.take 15 (.take 16 .fin))))))))))))))))) (by kernel_rfl) (by kernel_rfl) (by kernel_rfl) (by kernel_rfl) ?_
          repeat' (first | (refine hZ _ _ ?_; clear hZ) | (refine hZ _ ?_; clear hZ) | (refine hZ ?_; clear hZ) | rw [again_nil] | rw [walk_fin] | ((first | rw [walk_take] | rw [walk_run] | rw [again_cons]); intro Z hZ; simp only [sel, List.getElem?_toArray, List.getElem?_cons_zero, List.getElem?_cons_succ]; go_wp2_with (fail)))
          refine (HC.out _ (grown_drew HK.out.2.2.2) x HXM.out t HTM2.out).mono ?_
          rintro e W ⟨rfl, hB⟩
          have HG := Lib.hid (grown_belowR (grown_drew HK.out.2.2.2) hB)
          have HB := Lib.hid (HK.out.2.2.1.drew.below hB)
          clear hB q0 q1 q2 q3
          by_cases hxt : cmp x t < 0
          · have HXT := Lib.hid hxt
            obtain ⟨z, hz⟩ : ∃ z, cmp x t = z := ⟨_, rfl⟩
            rw [hz] at hxt ⊢
            clear hz
            obtain ⟨q0, q1, q2, q3⟩ := HHP.out _ HB.out.drew
            go_wp2_with fail
            repeat' (first | (refine hZ _ _ ?_; clear hZ) | (refine hZ _ ?_; clear hZ) | (refine hZ ?_; clear hZ) | rw [again_nil] | rw [walk_fin] | ((first | rw [walk_take] | rw [walk_run] | rw [again_cons]); intro Z hZ; simp only [sel, List.getElem?_toArray, List.getElem?_cons_zero, List.getElem?_cons_succ]; go_wp2_with (fail)))
            go_upto_region 6 with fail
            have hst : ∀ (w : World) (a : Addr) (r : Gr), (store a r.h).run Tryz.prog w = stored Tryz.prog w a r.h .plain := fun w a r => run_store Tryz.prog w a r.h .plain rfl
            have hq4 := (HB.out.set (J + 1) t.h).drew
            have q4 : ((W.setCell ⟨g, J + 1, none⟩ t.h).drew).cell? ⟨g, J, none⟩ = some t.h := by
              rw [hq4.cell, List.getElem?_set_ne (by omega), ← HB.out.cell]
              exact q0
            have q5 := hq4.free J
            clear hq4
            refine wp_region_plan (.take 0 (.take 1 (.take 2 (.take 3 (.take 4 (.take 5 (.take 6 (.take 7 (.take 8 (.take 9 (.take 10 (.take 11 (.take 12 (.take 13 (.take 14 (.run 15 [2, 3, 4] (.take 16 (.run 17 [] .fin)))))))))))))))))) (by kernel_rfl) (by kernel_rfl) (by kernel_rfl) (by kernel_rfl) ?_
            repeat' (first | (refine hZ _ _ ?_; clear hZ) | (refine hZ _ ?_; clear hZ) | (refine hZ ?_; clear hZ) | rw [again_nil] | rw [walk_fin] | ((first | rw [walk_take] | rw [walk_run] | rw [again_cons]); intro Z hZ; simp only [sel, List.getElem?_toArray, List.getElem?_cons_zero, List.getElem?_cons_succ]; go_wp2_with (fail)))
            clear hst
            go_wp2_with fail
            have HNW : Blk ((W.setCell ⟨g, J + 1, none⟩ t.h).setCell ⟨g, J, none⟩ x.h) g 126 ((P ++ (T1' ++ x :: (t :: T2)) ++ R).map Gr.h ++ sp) := by
              have h := (HB.out.set (J + 1) t.h).set J x.h
              rw [HP2.out] at h
              have e0 : ((P ++ T1').map Gr.h).length = J := by simp [← HJJ.out]
              rw [List.map_append, List.append_assoc, List.set_append_right _ _ (by omega), List.set_append_right _ _ (by omega), e0, Nat.sub_self, show J + 1 - J = 1 by omega] at h
              simpa using h
            have HNW := Lib.hid HNW
            go_roundw
            case rel => exact ⟨T1', t :: T2, by have := HT12.out; simp; omega, by have := HJJ.out; go_num, by rw [HK.out.1]; simp, (by intro s hs; rcases List.mem_cons.1 hs with rfl | hs; exact HXT.out; exact HK.out.2.1 s hs), HNW.out, grown_drew (grown_set (grown_set HG.out _ _) _ _)⟩
            case measure => simp [intOf]
          · have HT1 : Hid (∀ s ∈ T1' ++ [t], ¬ cmp x s < 0) := fun s hs => by
              rcases List.mem_append.1 hs with h | h
              · have h1 := HTS.out
                rw [HK.out.1, List.append_assoc] at h1
                exact HO.out.le_trans ((List.pairwise_append.1 h1).2.2 s h t (by simp)) hxt
              · cases List.mem_singleton.1 h
                exact hxt
            obtain ⟨z, hz⟩ : ∃ z, cmp x t = z := ⟨_, rfl⟩
            rw [hz] at hxt ⊢
            clear hz
            go_wp2_with fail
            repeat' (first | (refine hZ _ _ ?_; clear hZ) | (refine hZ _ ?_; clear hZ) | (refine hZ ?_; clear hZ) | rw [again_nil] | rw [walk_fin] | ((first | rw [walk_take] | rw [walk_run] | rw [again_cons]); intro Z hZ; simp only [sel, List.getElem?_toArray, List.getElem?_cons_zero, List.getElem?_cons_succ]; go_wp2_with (fail)))
            go_wp2_with fail
            go_roundw
            case rel => exact ⟨k + 1, by omega, by go_num, HFIN.out (T1' ++ [t]) T2 _ HK.out.1 HT1.out HK.out.2.1 HB.out, HG.out⟩
            case measure => simp [intOf]; omega
    · have hii : ¬ ((P.length + 1 + k : Nat) : Int) < (e0 : Int) := by omega
      have e : P ++ Srt.ssort cmp (S.take (k + 1)) ++ (S.drop (k + 1) ++ Q) = P ++ Srt.ssort cmp S ++ Q := by
        rw [List.take_of_length_le (by omega), List.drop_of_length_le (by omega)]; rfl
      have HF := HJ.out
      rw [e, HCS.out] at HF
      have HF := Lib.hid HF
      clear HJ e
      go_wp2_with fail
      go_end0
      exact ⟨rfl, HF.out⟩
end Go.Proofs.YtpahkaffknnjhaaGreatDoor
end

section
namespace Go.Proofs.YtpahkaffknnjhaaGreatDoor
set_option linter.unusedSimpArgs false
set_option linter.unusedVariables false
open Go.RowKit
theorem setG_mid (A R : List Gr) (u v : Gr) (sp : List Value) {j : Nat} (hj : A.length = j) : ((A ++ u :: R).map Gr.h ++ sp).set j v.h = (A ++ v :: R).map Gr.h ++ sp := by
  rw [List.map_append, List.append_assoc, List.set_append_right _ _ (by simp; omega), List.length_map, hj, Nat.sub_self]
  simp
set_option maxRecDepth 100000 in
set_option maxHeartbeats 8000000 in
theorem swapG_any (w : World) (g q c : Nat) (P X M Y Q : List Gr) (sp : List Value) (hXY : X.length = Y.length) (hb : Blk w g 126 ((P ++ X ++ M ++ Y ++ Q).map Gr.h ++ sp)) (hlen : (P ++ X ++ M ++ Y ++ Q).length ≤ 1000000) (hcap : (P ++ X ++ M ++ Y ++ Q).length ≤ c) :
    Calls Tryz.prog 185 #[.slice (some ⟨g, 0, none⟩) (P ++ X ++ M ++ Y ++ Q).length c, .int .i64 (P.length : Int), .int .i64 ((P.length + X.length + M.length : Nat) : Int), .int .i64 (X.length : Int), .func (.func 76) #[] #[.pointer (some ⟨q, 0, none⟩)]] w
      (SortsG w g ((P ++ Y ++ M ++ X ++ Q).map Gr.h ++ sp)) := by
  have HBK := Lib.hid hb
  have hl3 : (P ++ X ++ M ++ Y ++ Q).length = P.length + X.length + M.length + Y.length + Q.length := by simp; omega
  obtain ⟨n, hn⟩ : ∃ n, (P ++ X ++ M ++ Y ++ Q).length = n := ⟨_, rfl⟩
  rw [hn] at hlen hcap hl3 ⊢
  obtain ⟨cs, hcs⟩ : ∃ cs, (P ++ Y ++ M ++ X ++ Q).map Gr.h ++ sp = cs := ⟨_, rfl⟩
  rw [hcs]
  have HCS := Lib.hid hcs
  obtain ⟨al, hal⟩ : ∃ al, P.length = al := ⟨_, rfl⟩
  obtain ⟨ml, hml⟩ : ∃ ml, X.length = ml := ⟨_, rfl⟩
  rw [hal, hml] at hl3 ⊢
  obtain ⟨bl, hbl⟩ : ∃ bl, al + ml + M.length = bl := ⟨_, rfl⟩
  rw [hbl] at hl3 ⊢
  have hbm : bl + ml ≤ n := by omega
  have ham : al + ml ≤ bl := by omega
  have HAL := Lib.hid hal
  have HML := Lib.hid hml
  have HBL := Lib.hid hbl
  have HXY := Lib.hid hXY
  clear hb hn hcs hl3 hal hml hbl hXY
  go_enter Tryz.func185, Tryz.ntmps185
  go_wp2_with fail
  go_loopw [10] (fun iv wr => ∃ i : Nat, i ≤ ml ∧ iv = .int .i64 (i : Int) ∧ Hid (∃ X1 X2 Y1 Y2 : List Gr, X1.length = i ∧ Y1.length = i ∧ X = X1 ++ X2 ∧ Y = Y1 ++ Y2 ∧ Blk wr g 126 ((P ++ (Y1 ++ X2) ++ M ++ (X1 ++ Y2) ++ Q).map Gr.h ++ sp) ∧ w.grownBy wr (some g))) (fun iv _ => ml - (intOf iv).toNat)
  case atStart => exact ⟨0, by omega, rfl, [], X, [], Y, rfl, rfl, rfl, rfl, HBK.out, grown_refl _ _⟩
  case round =>
    obtain ⟨i, hi, rfl, HJ⟩ := hrel
    clear HBK
    by_cases hlt : i < ml
    · obtain ⟨X1, X2, Y1, Y2, h1, h2, h3, h4, h5, h6⟩ := HJ.out
      clear HJ
      rcases X2 with _ | ⟨x, X2⟩
      · have := HML.out
        rw [h3] at this
        simp at this
        omega
      rcases Y2 with _ | ⟨y, Y2⟩
      · have h7 := HML.out
        have h8 := HXY.out
        rw [h4] at h8
        simp at h8
        omega
      have HP2 : Hid (P ++ (Y1 ++ x :: X2) ++ M ++ (X1 ++ y :: Y2) ++ Q = (P ++ Y1) ++ x :: (X2 ++ M ++ X1 ++ y :: (Y2 ++ Q))) := by show _ = _; simp
      have HP3 : Hid (P ++ (Y1 ++ y :: X2) ++ M ++ (X1 ++ x :: Y2) ++ Q = (P ++ (Y1 ++ [y])  ++ X2) ++ M ++ X1 ++ x :: (Y2 ++ Q)) := by show _ = _; simp
      have HP4 : Hid (P ++ (Y1 ++ x :: X2) ++ M ++ (X1 ++ y :: Y2) ++ Q = (P ++ Y1 ++ x :: X2 ++ M ++ X1) ++ y :: (Y2 ++ Q)) := by show _ = _; simp
      have HX2 : i + 1 + X2.length = ml := by have := HML.out; rw [h3] at this; simp at this; omega
      have hA : (P ++ Y1).length = al + i := by rw [List.length_append, HAL.out, h2]
      have hB : (P ++ Y1 ++ x :: X2 ++ M ++ X1).length = bl + i := by
        have := HBL.out
        have := HAL.out
        simp
        omega
      have hcA : ∀ W, Blk W g 126 ((P ++ (Y1 ++ x :: X2) ++ M ++ (X1 ++ y :: Y2) ++ Q).map Gr.h ++ sp) → W.cell? ⟨g, al + i, none⟩ = some x.h ∧ W.frozen? ⟨g, al + i, none⟩ = false := fun W h => by
        refine ⟨?_, h.free _⟩
        rw [HP2.out] at h
        rw [h.cell, List.map_append, List.append_assoc, List.getElem?_append_right (by simp at hA ⊢; omega)]
        rw [List.length_map, hA, Nat.sub_self]
        rfl
      have hcB : ∀ W, Blk W g 126 ((P ++ (Y1 ++ x :: X2) ++ M ++ (X1 ++ y :: Y2) ++ Q).map Gr.h ++ sp) → W.cell? ⟨g, bl + i, none⟩ = some y.h ∧ W.frozen? ⟨g, bl + i, none⟩ = false := fun W h => by
        refine ⟨?_, h.free _⟩
        rw [HP4.out] at h
        rw [h.cell, List.map_append, List.append_assoc, List.getElem?_append_right (by rw [List.length_map, hB]; omega)]
        rw [List.length_map, hB, Nat.sub_self]
        rfl
      obtain ⟨q0, q1⟩ := hcA _ h5.drew
      obtain ⟨q2, q3⟩ := hcB _ h5.drew
      have hq4 := (h5.set (al + i) y.h).drew
      have q4 : ((wr.setCell ⟨g, al + i, none⟩ y.h).drew).cell? ⟨g, bl + i, none⟩ = some y.h := by
        rw [hq4.cell, List.getElem?_set_ne (by omega), ← h5.cell]
        exact q2
      have q5 := hq4.free (bl + i)
      have HNW : Blk ((wr.setCell ⟨g, al + i, none⟩ y.h).setCell ⟨g, bl + i, none⟩ x.h) g 126 ((P ++ ((Y1 ++ [y]) ++ X2) ++ M ++ ((X1 ++ [x]) ++ Y2) ++ Q).map Gr.h ++ sp) := by
        have h := (h5.set (al + i) y.h).set (bl + i) x.h
        have hB2 : (P ++ Y1 ++ y :: X2 ++ M ++ X1).length = bl + i := by simp at hB ⊢; omega
        rw [HP2.out, setG_mid (P ++ Y1) _ x y sp hA, show (P ++ Y1) ++ y :: (X2 ++ M ++ X1 ++ y :: (Y2 ++ Q)) = (P ++ Y1 ++ y :: X2 ++ M ++ X1) ++ y :: (Y2 ++ Q) by simp, setG_mid _ _ y x sp hB2] at h
        have e : (P ++ Y1 ++ y :: X2 ++ M ++ X1) ++ x :: (Y2 ++ Q) = P ++ ((Y1 ++ [y]) ++ X2) ++ M ++ ((X1 ++ [x]) ++ Y2) ++ Q := by simp
        rw [e] at h
        exact h
      have HST : Hid (∃ X1 X2 Y1 Y2 : List Gr, X1.length = i + 1 ∧ Y1.length = i + 1 ∧ X = X1 ++ X2 ∧ Y = Y1 ++ Y2 ∧ Blk ((wr.setCell ⟨g, al + i, none⟩ y.h).setCell ⟨g, bl + i, none⟩ x.h).drew g 126 ((P ++ (Y1 ++ X2) ++ M ++ (X1 ++ Y2) ++ Q).map Gr.h ++ sp) ∧ w.grownBy ((wr.setCell ⟨g, al + i, none⟩ y.h).setCell ⟨g, bl + i, none⟩ x.h).drew (some g)) :=
        ⟨X1 ++ [x], X2, Y1 ++ [y], Y2, by simp [h1], by simp [h2], by rw [h3]; simp, by rw [h4]; simp, HNW.drew, grown_drew (grown_set (grown_set h6 _ _) _ _)⟩
      clear hq4 HNW hcA hcB hA hB HP2 HP3 HP4 h1 h2 h3 h4 h5 h6
      have hii : (i : Int) < (ml : Int) := by omega
      go_upto_region 3 with fail
      have hst : ∀ (w : World) (a : Addr) (r : Gr), (store a r.h).run Tryz.prog w = stored Tryz.prog w a r.h .plain := fun w a r => run_store Tryz.prog w a r.h .plain rfl
      refine wp_region_plan (.take 0 (.take 1 (.take 2 (.take 3 (.take 4 (.take 5 (.take 6 (.take 7 (.take 8 (.take 9 (.take 10 (.take 11 (.take 12 (.take 13 (.take 14 (.take 15 (.take 16 (.take 17 (.take 18 (.take 19 (.take 20 (.run 21 [4, 5, 6, 7] (.take 22 (.run 23 [] .fin)))))))))))))))))))))))) (by kernel_rfl) (by kernel_rfl) (by kernel_rfl) (by kernel_rfl) ?_
      repeat' (first | (refine hZ _ _ ?_; clear hZ) | (refine hZ _ ?_; clear hZ) | (refine hZ ?_; clear hZ) | rw [again_nil] | rw [walk_fin] | ((first | rw [walk_take] | rw [walk_run] | rw [again_cons]); intro Z hZ; simp only [sel, List.getElem?_toArray, List.getElem?_cons_zero, List.getElem?_cons_succ]; go_wp2_with (fail)))
      clear hst
      go_wp2_with fail
      go_roundw
      case rel => exact ⟨i + 1, by omega, by go_num, HST.out⟩
      case measure => simp [intOf]; omega
    · have hii : ¬ (i : Int) < (ml : Int) := by omega
      have HF : Hid (Blk wr g 126 cs ∧ w.grownBy wr (some g)) := by
        obtain ⟨X1, X2, Y1, Y2, h1, h2, h3, h4, h5, h6⟩ := HJ.out
        have hx := HML.out
        have hy := HXY.out
        rw [h3, List.length_append] at hx hy
        rw [h4, List.length_append] at hy
        have e1 : X2 = [] := List.eq_nil_of_length_eq_zero (by omega)
        have e2 : Y2 = [] := List.eq_nil_of_length_eq_zero (by omega)
        rw [e1, e2, List.append_nil, List.append_nil] at h5
        refine ⟨?_, h6⟩
        rw [← HCS.out, h3, h4, e1, e2, List.append_nil, List.append_nil]
        exact h5
      clear HJ
      go_wp2_with fail
      go_end0
      exact ⟨rfl, HF.out⟩
end Go.Proofs.YtpahkaffknnjhaaGreatDoor
end

section
namespace Go.Proofs.YtpahkaffknnjhaaGreatDoor
set_option linter.unusedSimpArgs false
set_option linter.unusedVariables false
open Go.RowKit
theorem swapG_at (w W : World) (g q c n i j k : Nat) (P X M Y Q : List Gr) (sp : List Value) (hXY : X.length = Y.length) (hb : Blk W g 126 ((P ++ X ++ M ++ Y ++ Q).map Gr.h ++ sp)) (hw : w.grownBy W (some g)) (hn : (P ++ X ++ M ++ Y ++ Q).length = n) (hlen : n ≤ 1000000) (hcap : n ≤ c)
    (hi : P.length = i) (hj : P.length + X.length + M.length = j) (hk : X.length = k) :
    Calls Tryz.prog 185 #[.slice (some ⟨g, 0, none⟩) n c, .int .i64 (i : Int), .int .i64 (j : Int), .int .i64 (k : Int), .func (.func 76) #[] #[.pointer (some ⟨q, 0, none⟩)]] W
      (SortsG w g ((P ++ Y ++ M ++ X ++ Q).map Gr.h ++ sp)) := by
  subst hn hi hj hk
  exact (swapG_any W g q c P X M Y Q sp hXY hb hlen hcap).mono fun e W' h => ⟨h.1, h.2.1, grown_trans hw h.2.2⟩
set_option maxRecDepth 100000 in
set_option maxHeartbeats 8000000 in
theorem rotG_any (w : World) (g q c : Nat) (P X Y Q : List Gr) (sp : List Value) (hX : 0 < X.length) (hY : 0 < Y.length) (hb : Blk w g 126 ((P ++ X ++ Y ++ Q).map Gr.h ++ sp)) (hlen : (P ++ X ++ Y ++ Q).length ≤ 1000000) (hcap : (P ++ X ++ Y ++ Q).length ≤ c) :
    Calls Tryz.prog 174 #[.slice (some ⟨g, 0, none⟩) (P ++ X ++ Y ++ Q).length c, .int .i64 (P.length : Int), .int .i64 ((P.length + X.length : Nat) : Int), .int .i64 ((P.length + X.length + Y.length : Nat) : Int), .func (.func 76) #[] #[.pointer (some ⟨q, 0, none⟩)]] w
      (SortsG w g ((P ++ Y ++ X ++ Q).map Gr.h ++ sp)) := by
  have HBK := Lib.hid hb
  obtain ⟨n, hn⟩ : ∃ n, (P ++ X ++ Y ++ Q).length = n := ⟨_, rfl⟩
  have hl3 : n = P.length + X.length + Y.length + Q.length := by rw [← hn]; simp; omega
  rw [hn] at hlen hcap ⊢
  obtain ⟨cs, hcs⟩ : ∃ cs, (P ++ Y ++ X ++ Q).map Gr.h ++ sp = cs := ⟨_, rfl⟩
  rw [hcs]
  have HCS := Lib.hid hcs
  obtain ⟨al, hal⟩ : ∃ al, P.length = al := ⟨_, rfl⟩
  obtain ⟨xl, hxl⟩ : ∃ xl, X.length = xl := ⟨_, rfl⟩
  obtain ⟨yl, hyl⟩ : ∃ yl, Y.length = yl := ⟨_, rfl⟩
  rw [hal, hxl, hyl] at hl3 ⊢
  rw [hxl] at hX
  rw [hyl] at hY
  obtain ⟨m, hm⟩ : ∃ m, al + xl = m := ⟨_, rfl⟩
  rw [hm] at hl3 ⊢
  obtain ⟨b, hb2⟩ : ∃ b, m + yl = b := ⟨_, rfl⟩
  rw [hb2] at hl3 ⊢
  have h1 : al + xl ≤ m := by omega
  have h2 : m ≤ al + xl := by omega
  have h3 : m + yl ≤ b := by omega
  have h4 : b ≤ m + yl := by omega
  have h5 : b ≤ n := by omega
  have HL3 := Lib.hid hl3
  have HN := Lib.hid hn
  have HAL := Lib.hid hal
  have HXL := Lib.hid hxl
  have HYL := Lib.hid hyl
  have HM := Lib.hid hm
  clear hb hn hcs hl3 hal hxl hyl hm hb2
  go_enter Tryz.func174, Tryz.ntmps174
  go_wp2_with fail
  go_loopw [10, 11] (fun iv jv wr => ∃ i j : Nat, 0 < i ∧ 0 < j ∧ i ≤ m ∧ m + j ≤ b ∧ al + i ≤ m ∧ iv = .int .i64 (i : Int) ∧ jv = .int .i64 (j : Int) ∧ Hid (∃ A X1 Y1 B : List Gr, X1.length = i ∧ Y1.length = j ∧ al + A.length + i = m ∧ A ++ (Y1 ++ X1) ++ B = Y ++ X ∧ m + j + B.length + Q.length = n ∧ Blk wr g 126 ((P ++ A ++ X1 ++ Y1 ++ B ++ Q).map Gr.h ++ sp) ∧ w.grownBy wr (some g))) (fun iv jv _ => (intOf iv).toNat + (intOf jv).toNat)
  case atStart =>
    refine ⟨xl, yl, hX, hY, by omega, by omega, by omega, by go_num, by go_num, [], X, Y, [], HXL.out, HYL.out, by simpa using HM.out, by simp, ?_, ?_, grown_refl _ _⟩
    · have := HL3.out
      simp
      omega
    · simpa using HBK.out
  case round =>
    obtain ⟨i, j, hi0, hj0, him, hjb, hai, rfl, rfl, HJ⟩ := hrel
    clear HBK
    rcases Nat.lt_trichotomy i j with hij | hij | hij
    · obtain ⟨A, X1, Y1, B, k1, k2, k3, k4, k5, k6, k7⟩ := HJ.out
      clear HJ
      obtain ⟨a1, ha1⟩ : ∃ a1 : Nat, a1 + i = m := ⟨m - i, by omega⟩
      obtain ⟨d, hd⟩ : ∃ d : Nat, d + i = j := ⟨j - i, by omega⟩
      have e1 : (m : Int) - (i : Int) = (a1 : Int) := by omega
      have e2 : (m : Int) + (j : Int) - (i : Int) = ((m + d : Nat) : Int) := by omega
      obtain ⟨Y2, Y3, rfl, hY2, hY3⟩ : ∃ Y2 Y3, Y1 = Y2 ++ Y3 ∧ Y2.length = d ∧ Y3.length = i := ⟨Y1.take d, Y1.drop d, (List.take_append_drop d Y1).symm, by rw [List.length_take]; omega, by rw [List.length_drop]; omega⟩
      have HCALL : Hid (Calls Tryz.prog 185 #[.slice (some ⟨g, 0, none⟩) n c, .int .i64 (a1 : Int), .int .i64 ((m + d : Nat) : Int), .int .i64 (i : Int), .func (.func 76) #[] #[.pointer (some ⟨q, 0, none⟩)]] wr
          (SortsG w g (((P ++ A) ++ Y3 ++ Y2 ++ X1 ++ (B ++ Q)).map Gr.h ++ sp))) :=
        swapG_at w wr g q c n a1 (m + d) i (P ++ A) X1 Y2 Y3 (B ++ Q) sp (by omega) (by rw [show (P ++ A) ++ X1 ++ Y2 ++ Y3 ++ (B ++ Q) = P ++ A ++ X1 ++ (Y2 ++ Y3) ++ B ++ Q by simp]; exact k6) k7 (by have := HAL.out; simp; omega) hlen hcap (by have := HAL.out; simp; omega) (by have := HAL.out; simp; omega) k1
      have HNX : Hid (∀ W, Blk W g 126 (((P ++ A) ++ Y3 ++ Y2 ++ X1 ++ (B ++ Q)).map Gr.h ++ sp) ∧ w.grownBy W (some g) → ∃ A X1 Y1 B : List Gr, X1.length = i ∧ Y1.length = d ∧ al + A.length + i = m ∧ A ++ (Y1 ++ X1) ++ B = Y ++ X ∧ m + d + B.length + Q.length = n ∧ Blk W g 126 ((P ++ A ++ X1 ++ Y1 ++ B ++ Q).map Gr.h ++ sp) ∧ w.grownBy W (some g)) := fun W h =>
        ⟨A, Y3, Y2, X1 ++ B, hY3, hY2, k3, by rw [← k4]; simp, by simp; omega, by rw [show P ++ A ++ Y3 ++ Y2 ++ (X1 ++ B) ++ Q = (P ++ A) ++ Y3 ++ Y2 ++ X1 ++ (B ++ Q) by simp]; exact h.1, h.2⟩
      clear k1 k2 k3 k4 k5 k6 k7 hY2 hY3
      go_wp2_with fail
      rw [show (m : Int) + (d : Int) = ((m + d : Nat) : Int) by omega]
      refine HCALL.out.mono ?_
      rintro e W ⟨rfl, hW⟩
      have HW := Lib.hid (HNX.out W hW)
      clear hW HCALL HNX
      go_wp2_with fail
      go_roundw
      case rel => exact ⟨i, d, hi0, by omega, him, by omega, hai, rfl, by go_num, HW.out⟩
      case measure => simp [intOf]; omega
    · subst hij
      obtain ⟨A, X1, Y1, B, k1, k2, k3, k4, k5, k6, k7⟩ := HJ.out
      clear HJ
      obtain ⟨a1, ha1⟩ : ∃ a1 : Nat, a1 + i = m := ⟨m - i, by omega⟩
      have e1 : (m : Int) - (i : Int) = (a1 : Int) := by omega
      have HCALL : Hid (Calls Tryz.prog 185 #[.slice (some ⟨g, 0, none⟩) n c, .int .i64 (a1 : Int), .int .i64 (m : Int), .int .i64 (i : Int), .func (.func 76) #[] #[.pointer (some ⟨q, 0, none⟩)]] wr
          (SortsG w g (((P ++ A) ++ Y1 ++ [] ++ X1 ++ (B ++ Q)).map Gr.h ++ sp))) :=
        swapG_at w wr g q c n a1 m i (P ++ A) X1 [] Y1 (B ++ Q) sp (by omega) (by rw [show (P ++ A) ++ X1 ++ [] ++ Y1 ++ (B ++ Q) = P ++ A ++ X1 ++ Y1 ++ B ++ Q by simp]; exact k6) k7 (by have := HAL.out; simp; omega) hlen hcap (by have := HAL.out; simp; omega) (by have := HAL.out; simp; omega) k1
      have HNX : Hid (((P ++ A) ++ Y1 ++ [] ++ X1 ++ (B ++ Q)).map Gr.h ++ sp = cs) := by
        show _ = _
        rw [← HCS.out, show (P ++ A) ++ Y1 ++ [] ++ X1 ++ (B ++ Q) = P ++ (A ++ (Y1 ++ X1) ++ B) ++ Q by simp, k4]
        simp
      rw [HNX.out] at HCALL
      clear k1 k2 k3 k4 k5 k6 k7 HNX
      go_wp2_with fail
      refine HCALL.out.mono ?_
      rintro e W ⟨rfl, hW⟩
      have HW := Lib.hid hW
      clear hW HCALL
      go_wp2_with fail
      go_end0
      exact ⟨rfl, HW.out⟩
    · obtain ⟨A, X1, Y1, B, k1, k2, k3, k4, k5, k6, k7⟩ := HJ.out
      clear HJ
      obtain ⟨a1, ha1⟩ : ∃ a1 : Nat, a1 + i = m := ⟨m - i, by omega⟩
      obtain ⟨d, hd⟩ : ∃ d : Nat, d + j = i := ⟨i - j, by omega⟩
      have e1 : (m : Int) - (i : Int) = (a1 : Int) := by omega
      obtain ⟨X2, X3, rfl, hX2, hX3⟩ : ∃ X2 X3, X1 = X2 ++ X3 ∧ X2.length = j ∧ X3.length = d := ⟨X1.take j, X1.drop j, (List.take_append_drop j X1).symm, by rw [List.length_take]; omega, by rw [List.length_drop]; omega⟩
      have HCALL : Hid (Calls Tryz.prog 185 #[.slice (some ⟨g, 0, none⟩) n c, .int .i64 (a1 : Int), .int .i64 (m : Int), .int .i64 (j : Int), .func (.func 76) #[] #[.pointer (some ⟨q, 0, none⟩)]] wr
          (SortsG w g (((P ++ A) ++ Y1 ++ X3 ++ X2 ++ (B ++ Q)).map Gr.h ++ sp))) :=
        swapG_at w wr g q c n a1 m j (P ++ A) X2 X3 Y1 (B ++ Q) sp (by omega) (by rw [show (P ++ A) ++ X2 ++ X3 ++ Y1 ++ (B ++ Q) = P ++ A ++ (X2 ++ X3) ++ Y1 ++ B ++ Q by simp]; exact k6) k7 (by have := HAL.out; simp; omega) hlen hcap (by have := HAL.out; simp; omega) (by have := HAL.out; simp; omega) hX2
      have HNX : Hid (∀ W, Blk W g 126 (((P ++ A) ++ Y1 ++ X3 ++ X2 ++ (B ++ Q)).map Gr.h ++ sp) ∧ w.grownBy W (some g) → ∃ A X1 Y1 B : List Gr, X1.length = d ∧ Y1.length = j ∧ al + A.length + d = m ∧ A ++ (Y1 ++ X1) ++ B = Y ++ X ∧ m + j + B.length + Q.length = n ∧ Blk W g 126 ((P ++ A ++ X1 ++ Y1 ++ B ++ Q).map Gr.h ++ sp) ∧ w.grownBy W (some g)) := fun W h =>
        ⟨A ++ Y1, X3, X2, B, hX3, hX2, by simp; omega, by rw [← k4]; simp, k5, by rw [show P ++ (A ++ Y1) ++ X3 ++ X2 ++ B ++ Q = (P ++ A) ++ Y1 ++ X3 ++ X2 ++ (B ++ Q) by simp]; exact h.1, h.2⟩
      clear k1 k2 k3 k4 k5 k6 k7 hX2 hX3
      go_wp2_with fail
      refine HCALL.out.mono ?_
      rintro e W ⟨rfl, hW⟩
      have HW := Lib.hid (HNX.out W hW)
      clear hW HCALL HNX
      go_wp2_with fail
      go_roundw
      case rel => exact ⟨d, j, by omega, hj0, by omega, hjb, by omega, by go_num, rfl, HW.out⟩
      case measure => simp [intOf]; omega
end Go.Proofs.YtpahkaffknnjhaaGreatDoor
end

section
namespace Go.Proofs.YtpahkaffknnjhaaGreatDoor
set_option linter.unusedSimpArgs false
set_option linter.unusedVariables false
open Go.RowKit
theorem blk_nth {α : Type} [Inhabited α] {w : World} {g : Nat} {T : TypeId} {L : List α} {f : α → Value} {sp : List Value} (h : Blk w g T (L.map f ++ sp)) {j : Nat} (hj : j < L.length) : w.cell? ⟨g, j, none⟩ = some (f (Srt.nth L j)) ∧ w.frozen? ⟨g, j, none⟩ = false := by
  rw [Srt.nth_in hj]
  exact blk_at h hj
theorem nbG_up {W : World} {g J : Nat} {A R : List Gr} {u v : Gr} {sp : List Value} (h : Blk W g 126 ((A ++ u :: v :: R).map Gr.h ++ sp)) (hA : A.length = J) :
    W.drew.cell? ⟨g, J, none⟩ = some u.h ∧ W.drew.frozen? ⟨g, J, none⟩ = false ∧ W.drew.cell? ⟨g, J + 1, none⟩ = some v.h ∧ W.drew.frozen? ⟨g, J + 1, none⟩ = false
    ∧ (W.setCell ⟨g, J, none⟩ v.h).drew.cell? ⟨g, J + 1, none⟩ = some v.h ∧ (W.setCell ⟨g, J, none⟩ v.h).drew.frozen? ⟨g, J + 1, none⟩ = false
    ∧ Blk ((W.setCell ⟨g, J, none⟩ v.h).setCell ⟨g, J + 1, none⟩ u.h).drew g 126 ((A ++ v :: u :: R).map Gr.h ++ sp) := by
  have hd := h.drew
  have h2 := (h.set J v.h).drew
  have c0 : ((A ++ u :: v :: R).map Gr.h ++ sp)[J]? = some u.h := by
    rw [List.map_append, List.append_assoc, List.getElem?_append_right (by simp; omega)]
    simp [hA]
  have c1 : ((A ++ u :: v :: R).map Gr.h ++ sp)[J + 1]? = some v.h := by
    rw [List.map_append, List.append_assoc, List.getElem?_append_right (by simp; omega), List.length_map, hA, Nat.add_sub_cancel_left]
    rfl
  refine ⟨by rw [hd.cell, c0], hd.free _, by rw [hd.cell, c1], hd.free _, ?_, h2.free _, ?_⟩
  · rw [h2.cell, List.getElem?_set_ne (by omega), c1]
  · have h3 := (h.set J v.h).set (J + 1) u.h
    rw [setG_mid A _ u v sp hA, show A ++ v :: v :: R = (A ++ [v]) ++ v :: R by simp, setG_mid (A ++ [v]) _ v u sp (by simp [hA])] at h3
    rw [show A ++ v :: u :: R = (A ++ [v]) ++ u :: R by simp]
    exact h3.drew
theorem nbG_down {W : World} {g J : Nat} {A R : List Gr} {u v : Gr} {sp : List Value} (h : Blk W g 126 ((A ++ u :: v :: R).map Gr.h ++ sp)) (hA : A.length = J) :
    W.drew.cell? ⟨g, J, none⟩ = some u.h ∧ W.drew.frozen? ⟨g, J, none⟩ = false ∧ W.drew.cell? ⟨g, J + 1, none⟩ = some v.h ∧ W.drew.frozen? ⟨g, J + 1, none⟩ = false
    ∧ (W.setCell ⟨g, J + 1, none⟩ u.h).drew.cell? ⟨g, J, none⟩ = some u.h ∧ (W.setCell ⟨g, J + 1, none⟩ u.h).drew.frozen? ⟨g, J, none⟩ = false
    ∧ Blk ((W.setCell ⟨g, J + 1, none⟩ u.h).setCell ⟨g, J, none⟩ v.h).drew g 126 ((A ++ v :: u :: R).map Gr.h ++ sp) := by
  have hd := h.drew
  have h2 := (h.set (J + 1) u.h).drew
  have c0 : ((A ++ u :: v :: R).map Gr.h ++ sp)[J]? = some u.h := by
    rw [List.map_append, List.append_assoc, List.getElem?_append_right (by simp; omega)]
    simp [hA]
  have c1 : ((A ++ u :: v :: R).map Gr.h ++ sp)[J + 1]? = some v.h := by
    rw [List.map_append, List.append_assoc, List.getElem?_append_right (by simp; omega), List.length_map, hA, Nat.add_sub_cancel_left]
    rfl
  refine ⟨by rw [hd.cell, c0], hd.free _, by rw [hd.cell, c1], hd.free _, ?_, h2.free _, ?_⟩
  · rw [h2.cell, List.getElem?_set_ne (by omega), c0]
  · have h3 := (h.set (J + 1) u.h).set J v.h
    rw [show A ++ u :: v :: R = (A ++ [u]) ++ v :: R by simp, setG_mid (A ++ [u]) _ v u sp (by simp [hA]), show (A ++ [u]) ++ u :: R = A ++ u :: u :: R by simp, setG_mid A _ u v sp hA] at h3
    exact h3.drew
set_option maxRecDepth 100000 in
set_option maxHeartbeats 8000000 in
theorem sym1G_any (w : World) (g q n c a m b : Nat) (cmp : Gr → Gr → Int) (ho : Srt.Ord cmp) (L P Y Q : List Gr) (x : Gr) (sp : List Value) (hY : Srt.Sorted cmp Y) (hb : Blk w g 126 ((P ++ [x] ++ Y ++ Q).map Gr.h ++ sp)) (hc : CmpsG w g q cmp L) (hL : ∀ z ∈ P ++ [x] ++ Y ++ Q, z ∈ L) (hn : (P ++ [x] ++ Y ++ Q).length = n) (hlen : n ≤ 1000000) (hcap : n ≤ c) (hal : P.length = a) (ham : a + 1 = m) (hmb : m + Y.length = b) :
    Calls Tryz.prog 151 #[.slice (some ⟨g, 0, none⟩) n c, .int .i64 (a : Int), .int .i64 (m : Int), .int .i64 (b : Int), .func (.func 76) #[] #[.pointer (some ⟨q, 0, none⟩)]] w
      (SortsG w g ((P ++ Srt.mg cmp [x] Y ++ Q).map Gr.h ++ sp)) := by
  have HO := Lib.hid ho
  have HC := Lib.hid hc
  have HBK := Lib.hid hb
  have HYS := Lib.hid hY
  have HLM := Lib.hid hL
  have HN := Lib.hid hn
  have HAL := Lib.hid hal
  have HAM := Lib.hid ham
  have HMB := Lib.hid hmb
  have h1 : (m : Int) - (a : Int) = 1 := by omega
  have h2 : a < m := by omega
  have h3 : m ≤ b := by omega
  have h4 : b ≤ n := by rw [← hn]; simp; omega
  obtain ⟨cs, hcs⟩ : ∃ cs, (P ++ Srt.mg cmp [x] Y ++ Q).map Gr.h ++ sp = cs := ⟨_, rfl⟩
  rw [hcs]
  have HCS := Lib.hid hcs
  obtain ⟨D, hD⟩ : ∃ D, P ++ [x] ++ Y ++ Q = D := ⟨_, rfl⟩
  have HD := Lib.hid hD
  rw [hD] at hn HBK HLM
  have HDN := Lib.hid hn
  clear hb hc ho hY hL hn hcs hD hal ham hmb
  go_enter Tryz.func151, Tryz.ntmps151
  go_wp2_with fail
  go_loopw [10, 11] (fun iv jv wr => ∃ i j : Nat, m ≤ i ∧ i ≤ j ∧ j ≤ b ∧ iv = .int .i64 (i : Int) ∧ jv = .int .i64 (j : Int) ∧ Hid ((i = m ∨ cmp (Srt.nth D (i - 1)) x < 0) ∧ (j = b ∨ 0 ≤ cmp (Srt.nth D j) x) ∧ Blk wr g 126 (D.map Gr.h ++ sp) ∧ w.grownBy wr (some g))) (fun iv jv _ => (intOf jv).toNat - (intOf iv).toNat)
  case atStart => exact ⟨m, b, Nat.le_refl _, h3, Nat.le_refl _, by go_num, by go_num, .inl rfl, .inl rfl, HBK.out, grown_refl _ _⟩
  case round =>
    obtain ⟨i, j, hmi, hij, hjb, rfl, rfl, HJ⟩ := hrel
    clear HBK
    by_cases hlt : i < j
    · have hii : (i : Int) < (j : Int) := by omega
      obtain ⟨k, hk⟩ : ∃ k : Nat, ((i : Int) + (j : Int)) / 2 = (k : Int) := ⟨(i + j) / 2, by omega⟩
      have hk1 : i ≤ k := by omega
      have hk2 : k < j := by omega
      have hkn : k < n := by omega
      have han : a < n := by omega
      have HX : Hid (Srt.nth D a = x) := by
        show _ = _
        rw [← HD.out, Srt.nth_fst (k := a) (by have := HAL.out; omega) (by have := HAL.out; simp; omega)]
        simp [HAL.out]
      have hb0 := HJ.out.2.2.1.drew
      have hg0 := Lib.hid (grown_drew HJ.out.2.2.2)
      obtain ⟨q0, q1⟩ := blk_nth hb0 (j := k) (by rw [HDN.out]; exact hkn)
      obtain ⟨q2, q3⟩ := blk_nth hb0 (j := a) (by rw [HDN.out]; exact han)
      rw [HX.out] at q2
      have HDK : Hid (Srt.nth D k ∈ D) := Srt.nth_mem (by rw [HDN.out]; exact hkn)
      have HDA : Hid (x ∈ D) := by show _ ∈ _; rw [← HX.out]; exact Srt.nth_mem (by rw [HDN.out]; exact han)
      have HB0 := Lib.hid hb0
      clear hb0
      go_upto_region 5 with fail
      clear hk
      generalize hy : Srt.nth D k = y at HDK q0 ⊢
      have HY := Lib.hid hy
      clear hy
      refine wp_region_plan (.take 0 (.take 1 (.take 2 (.take 3 (.take 4 (.take 5 (.take 6 (.take 7 (.take 8 (.run 9 [] (.take 10 .fin))))))))))) (by kernel_rfl) (by kernel_rfl) (by kernel_rfl) (by kernel_rfl) ?_
      repeat' (first | (refine hZ _ _ ?_; clear hZ) | (refine hZ _ ?_; clear hZ) | (refine hZ ?_; clear hZ) | rw [again_nil] | rw [walk_fin] | ((first | rw [walk_take] | rw [walk_run] | rw [again_cons]); intro Z hZ; simp only [sel, List.getElem?_toArray, List.getElem?_cons_zero, List.getElem?_cons_succ]; go_wp2_with (fail)))
      refine (HC.out _ hg0.out y (HLM.out _ HDK.out) x (HLM.out _ HDA.out)).mono ?_
      rintro e W ⟨rfl, hB⟩
      have HG := Lib.hid (grown_belowR hg0.out hB)
      have HB := Lib.hid (HB0.out.below hB)
      clear hB q0 q1 q2 q3
      by_cases hyx : cmp y x < 0
      · have HXT := Lib.hid hyx
        obtain ⟨z, hz⟩ : ∃ z, cmp y x = z := ⟨_, rfl⟩
        rw [hz] at hyx ⊢
        clear hz
        go_wp2_with fail
        repeat' (first | (refine hZ _ _ ?_; clear hZ) | (refine hZ _ ?_; clear hZ) | (refine hZ ?_; clear hZ) | rw [again_nil] | rw [walk_fin] | ((first | rw [walk_take] | rw [walk_run] | rw [again_cons]); intro Z hZ; simp only [sel, List.getElem?_toArray, List.getElem?_cons_zero, List.getElem?_cons_succ]; go_wp2_with (fail)))
        go_wp2_with fail
        go_roundw
        case rel => exact ⟨k + 1, j, by omega, by omega, hjb, by go_num, rfl, .inr (by rw [Nat.add_sub_cancel, HY.out]; exact HXT.out), HJ.out.2.1, HB.out, HG.out⟩
        case measure => simp [intOf]; omega
      · have HXT := Lib.hid hyx
        obtain ⟨z, hz⟩ : ∃ z, cmp y x = z := ⟨_, rfl⟩
        rw [hz] at hyx ⊢
        clear hz
        go_wp2_with fail
        repeat' (first | (refine hZ _ _ ?_; clear hZ) | (refine hZ _ ?_; clear hZ) | (refine hZ ?_; clear hZ) | rw [again_nil] | rw [walk_fin] | ((first | rw [walk_take] | rw [walk_run] | rw [again_cons]); intro Z hZ; simp only [sel, List.getElem?_toArray, List.getElem?_cons_zero, List.getElem?_cons_succ]; go_wp2_with (fail)))
        go_wp2_with fail
        go_roundw
        case rel => exact ⟨i, k, hmi, hk1, by omega, rfl, by go_num, HJ.out.1, (.inr (by rw [HY.out]; have := HXT.out; omega)), HB.out, HG.out⟩
        case measure => simp [intOf]; omega
    · obtain rfl : i = j := by omega
      have hii : ¬ (i : Int) < (i : Int) := by omega
      have HCUT : Hid (∃ Y1 Y2, Y = Y1 ++ Y2 ∧ Y1.length = i - m ∧ Srt.mg cmp [x] Y = Y1 ++ x :: Y2) := Srt.one_fin HO.out P Y Q x HYS.out (by rw [HAL.out, HAM.out]) HMB.out hmi hjb (by rw [HD.out]; exact HJ.out.1) (by rw [HD.out]; exact HJ.out.2.1.imp id fun h => by omega)
      obtain ⟨Y1, Y2, e1, e2, e3⟩ := HCUT.out
      clear HCUT hii
      have HST : Hid (Blk wr g 126 ((P ++ x :: (Y1 ++ (Y2 ++ Q))).map Gr.h ++ sp) ∧ w.grownBy wr (some g)) := ⟨by have := HJ.out.2.2.1; rw [← HD.out, e1] at this; simpa using this, HJ.out.2.2.2⟩
      have HFI : Hid (((P ++ (Y1 ++ x :: (Y2 ++ Q))).map Gr.h ++ sp) = cs) := by show _ = _; rw [← HCS.out, e3]; simp
      have HY1 : Hid (m + Y1.length = i) := by show _ = _; omega
      clear e1 e2 e3 HJ
      have him : (i : Int) - 1 = ((i - 1 : Nat) : Int) := by omega
      go_wp2_with fail
      go_loopw [13] (fun kv wq => ∃ Y3 Y4 : List Gr, Hid (Y1 = Y3 ++ Y4 ∧ Blk wq g 126 ((P ++ Y3 ++ x :: (Y4 ++ (Y2 ++ Q))).map Gr.h ++ sp) ∧ w.grownBy wq (some g)) ∧ kv = .int .i64 ((a + Y3.length : Nat) : Int)) (fun kv _ => i - (intOf kv).toNat)
      case atStart => exact ⟨[], Y1, ⟨rfl, by simpa using HST.out.1, HST.out.2⟩, by go_num⟩
      case round =>
        obtain ⟨Y3, Y4, HK, rfl⟩ := hrel
        clear HST
        cases Y4 with
        | nil =>
          have hY3 : a + Y3.length + 1 = i := by have := HY1.out; have := HK.out.1; have := HAM.out; simp_all; omega
          have hii : ¬ ((a + Y3.length : Nat) : Int) < (i : Int) - 1 := by omega
          have HF : Hid (SortsG w g cs (.returned (.tuple #[])) wr) := ⟨rfl, by have := HK.out.2.1; rw [← HFI.out, HK.out.1]; simpa using this, HK.out.2.2⟩
          go_wp2_with fail
          go_end0
          exact HF.out
        | cons y Y4 =>
          have hY3 : a + Y3.length + 2 ≤ i := by have := HY1.out; have := HK.out.1; have := HAM.out; simp_all; omega
          have hii : ((a + Y3.length : Nat) : Int) < (i : Int) - 1 := by omega
          obtain ⟨J, hJ⟩ : ∃ J, a + Y3.length = J := ⟨_, rfl⟩
          have HPJ : Hid ((P ++ Y3).length = J) := by show _ = _; rw [List.length_append, HAL.out]; exact hJ
          have HJA := Lib.hid hJ
          rw [hJ] at hY3 hii ⊢
          clear hJ
          obtain ⟨k1, k2, k3⟩ := HK.out
          obtain ⟨q0, q1, q2, q3, q4, q5, q6⟩ := nbG_up (A := P ++ Y3) (u := x) (v := y) (R := Y4 ++ (Y2 ++ Q)) k2 HPJ.out
          have HNW : Hid (Y1 = (Y3 ++ [y]) ++ Y4 ∧ Blk ((wr.setCell ⟨g, J, none⟩ y.h).setCell ⟨g, J + 1, none⟩ x.h).drew g 126 ((P ++ (Y3 ++ [y]) ++ x :: (Y4 ++ (Y2 ++ Q))).map Gr.h ++ sp) ∧ w.grownBy ((wr.setCell ⟨g, J, none⟩ y.h).setCell ⟨g, J + 1, none⟩ x.h).drew (some g)) :=
            ⟨by rw [k1]; simp, by simpa using q6, grown_drew (grown_set (grown_set k3 _ _) _ _)⟩
          clear q6 k1 k2 k3 HK
          go_upto_region 11 with fail
          have hst : ∀ (w : World) (a : Addr) (r : Gr), (store a r.h).run Tryz.prog w = stored Tryz.prog w a r.h .plain := fun w a r => run_store Tryz.prog w a r.h .plain rfl
          refine wp_region_plan (.take 0 (.take 1 (.take 2 (.take 3 (.take 4 (.take 5 (.take 6 (.take 7 (.take 8 (.take 9 (.take 10 (.take 11 (.take 12 (.take 13 (.take 14 (.run 15 [2, 3, 4] (.take 16 (.run 17 [] .fin)))))))))))))))))) (by kernel_rfl) (by kernel_rfl) (by kernel_rfl) (by kernel_rfl) ?_
          repeat' (first | (refine hZ _ _ ?_; clear hZ) | (refine hZ _ ?_; clear hZ) | (refine hZ ?_; clear hZ) | rw [again_nil] | rw [walk_fin] | ((first | rw [walk_take] | rw [walk_run] | rw [again_cons]); intro Z hZ; simp only [sel, List.getElem?_toArray, List.getElem?_cons_zero, List.getElem?_cons_succ]; go_wp2_with (fail)))
          clear hst
          go_wp2_with fail
          go_roundw
          case rel => exact ⟨Y3 ++ [y], Y4, HNW.out, by have := HJA.out; simp; omega⟩
          case measure => simp [intOf]; omega
set_option maxRecDepth 100000 in
set_option maxHeartbeats 8000000 in
theorem sym2G_any (w : World) (g q n c a m b : Nat) (cmp : Gr → Gr → Int) (ho : Srt.Ord cmp) (L P X Q : List Gr) (y : Gr) (sp : List Value) (hX : Srt.Sorted cmp X) (hX2 : 2 ≤ X.length) (hb : Blk w g 126 ((P ++ X ++ [y] ++ Q).map Gr.h ++ sp)) (hc : CmpsG w g q cmp L) (hL : ∀ z ∈ P ++ X ++ [y] ++ Q, z ∈ L) (hn : (P ++ X ++ [y] ++ Q).length = n) (hlen : n ≤ 1000000) (hcap : n ≤ c) (hal : P.length = a) (ham : a + X.length = m) (hmb : m + 1 = b) :
    Calls Tryz.prog 151 #[.slice (some ⟨g, 0, none⟩) n c, .int .i64 (a : Int), .int .i64 (m : Int), .int .i64 (b : Int), .func (.func 76) #[] #[.pointer (some ⟨q, 0, none⟩)]] w
      (SortsG w g ((P ++ Srt.mg cmp X [y] ++ Q).map Gr.h ++ sp)) := by
  have HO := Lib.hid ho
  have HC := Lib.hid hc
  have HBK := Lib.hid hb
  have HXS := Lib.hid hX
  have HLM := Lib.hid hL
  have HN := Lib.hid hn
  have HAL := Lib.hid hal
  have HAM := Lib.hid ham
  have HMB := Lib.hid hmb
  obtain ⟨d, hd⟩ : ∃ d : Int, (m : Int) - (a : Int) = d := ⟨_, rfl⟩
  have h1 : (d == 1) = false := by simp; omega
  have h0 : (b : Int) - (m : Int) = 1 := by omega
  have h2 : a < m := by omega
  have h4 : m < n := by rw [← hn]; simp; omega
  obtain ⟨cs, hcs⟩ : ∃ cs, (P ++ Srt.mg cmp X [y] ++ Q).map Gr.h ++ sp = cs := ⟨_, rfl⟩
  rw [hcs]
  have HCS := Lib.hid hcs
  obtain ⟨D, hD⟩ : ∃ D, P ++ X ++ [y] ++ Q = D := ⟨_, rfl⟩
  have HD := Lib.hid hD
  rw [hD] at hn HBK HLM
  have HDN := Lib.hid hn
  clear hb hc ho hX hL hn hcs hD hal ham hmb hX2
  go_enter Tryz.func151, Tryz.ntmps151
  go_wp2_with fail
  clear h1 hd
  go_loopw [14, 15] (fun iv jv wr => ∃ i j : Nat, a ≤ i ∧ i ≤ j ∧ j ≤ m ∧ iv = .int .i64 (i : Int) ∧ jv = .int .i64 (j : Int) ∧ Hid ((i = a ∨ 0 ≤ cmp y (Srt.nth D (i - 1))) ∧ (j = m ∨ cmp y (Srt.nth D j) < 0) ∧ Blk wr g 126 (D.map Gr.h ++ sp) ∧ w.grownBy wr (some g))) (fun iv jv _ => (intOf jv).toNat - (intOf iv).toNat)
  case atStart => exact ⟨a, m, Nat.le_refl _, by omega, Nat.le_refl _, by go_num, by go_num, .inl rfl, .inl rfl, HBK.out, grown_refl _ _⟩
  case round =>
    obtain ⟨i, j, hai, hij, hjm, rfl, rfl, HJ⟩ := hrel
    clear HBK
    by_cases hlt : i < j
    · have hii : (i : Int) < (j : Int) := by omega
      obtain ⟨k, hk⟩ : ∃ k : Nat, ((i : Int) + (j : Int)) / 2 = (k : Int) := ⟨(i + j) / 2, by omega⟩
      have hk1 : i ≤ k := by omega
      have hk2 : k < j := by omega
      have hkn : k < n := by omega
      have HX : Hid (Srt.nth D m = y) := by
        show _ = _
        rw [← HD.out, Srt.nth_snd (k := m) (by have := HAL.out; have := HAM.out; omega) (by have := HAL.out; have := HAM.out; simp; omega)]
        simp [HAL.out, HAM.out]
      have hb0 := HJ.out.2.2.1.drew
      have hg0 := Lib.hid (grown_drew HJ.out.2.2.2)
      obtain ⟨q0, q1⟩ := blk_nth hb0 (j := k) (by rw [HDN.out]; exact hkn)
      obtain ⟨q2, q3⟩ := blk_nth hb0 (j := m) (by rw [HDN.out]; exact h4)
      rw [HX.out] at q2
      have HDK : Hid (Srt.nth D k ∈ D) := Srt.nth_mem (by rw [HDN.out]; exact hkn)
      have HDA : Hid (y ∈ D) := by show _ ∈ _; rw [← HX.out]; exact Srt.nth_mem (by rw [HDN.out]; exact h4)
      have HB0 := Lib.hid hb0
      clear hb0
      go_upto_region 17 with fail
      clear hk
      generalize hy : Srt.nth D k = x at HDK q0 ⊢
      have HY := Lib.hid hy
      clear hy
      refine wp_region_plan (.take 0 (.take 1 (.take 2 (.take 3 (.take 4 (.take 5 (.take 6 (.take 7 (.take 8 (.run 9 [] (.take 10 (.take 11 .fin)))))))))))) (by kernel_rfl) (by kernel_rfl) (by kernel_rfl) (by kernel_rfl) ?_
      repeat' (first | (refine hZ _ _ ?_; clear hZ) | (refine hZ _ ?_; clear hZ) | (refine hZ ?_; clear hZ) | rw [again_nil] | rw [walk_fin] | ((first | rw [walk_take] | rw [walk_run] | rw [again_cons]); intro Z hZ; simp only [sel, List.getElem?_toArray, List.getElem?_cons_zero, List.getElem?_cons_succ]; go_wp2_with (fail)))
      refine (HC.out _ hg0.out y (HLM.out _ HDA.out) x (HLM.out _ HDK.out)).mono ?_
      rintro e W ⟨rfl, hB⟩
      have HG := Lib.hid (grown_belowR hg0.out hB)
      have HB := Lib.hid (HB0.out.below hB)
      clear hB q0 q1 q2 q3
      by_cases hyx : cmp y x < 0
      · have HXT := Lib.hid hyx
        obtain ⟨z, hz⟩ : ∃ z, cmp y x = z := ⟨_, rfl⟩
        rw [hz] at hyx ⊢
        clear hz
        go_wp2_with fail
        repeat' (first | (refine hZ _ _ ?_; clear hZ) | (refine hZ _ ?_; clear hZ) | (refine hZ ?_; clear hZ) | rw [again_nil] | rw [walk_fin] | ((first | rw [walk_take] | rw [walk_run] | rw [again_cons]); intro Z hZ; simp only [sel, List.getElem?_toArray, List.getElem?_cons_zero, List.getElem?_cons_succ]; go_wp2_with (fail)))
        go_wp2_with fail
        go_roundw
        case rel => exact ⟨i, k, hai, hk1, by omega, rfl, by go_num, HJ.out.1, .inr (by rw [HY.out]; exact HXT.out), HB.out, HG.out⟩
        case measure => simp [intOf]; omega
      · have HXT := Lib.hid hyx
        obtain ⟨z, hz⟩ : ∃ z, cmp y x = z := ⟨_, rfl⟩
        rw [hz] at hyx ⊢
        clear hz
        have hyz : (decide (z < 0)) = false := by simpa using hyx
        go_wp2_with fail
        repeat' (first | (refine hZ _ _ ?_; clear hZ) | (refine hZ _ ?_; clear hZ) | (refine hZ ?_; clear hZ) | rw [again_nil] | rw [walk_fin] | ((first | rw [walk_take] | rw [walk_run] | rw [again_cons]); intro Z hZ; simp only [sel, List.getElem?_toArray, List.getElem?_cons_zero, List.getElem?_cons_succ]; go_wp2_with (fail)))
        go_wp2_with fail
        go_roundw
        case rel => exact ⟨k + 1, j, by omega, by omega, hjm, by go_num, rfl, (.inr (by rw [Nat.add_sub_cancel, HY.out]; have := HXT.out; omega)), HJ.out.2.1, HB.out, HG.out⟩
        case measure => simp [intOf]; omega
    · obtain rfl : i = j := by omega
      have hii : ¬ (i : Int) < (i : Int) := by omega
      have HCUT : Hid (∃ X1 X2, X = X1 ++ X2 ∧ X1.length = i - a ∧ Srt.mg cmp X [y] = X1 ++ y :: X2) := Srt.fin_one HO.out P X Q y HXS.out HAL.out HAM.out hai hjm (by rw [HD.out]; exact HJ.out.2.1) (by rw [HD.out]; exact HJ.out.1.imp id fun h => by omega)
      obtain ⟨X1, X2, e1, e2, e3⟩ := HCUT.out
      clear HCUT hii
      have HST : Hid (Blk wr g 126 ((P ++ X1 ++ X2 ++ y :: Q).map Gr.h ++ sp) ∧ w.grownBy wr (some g)) := ⟨by have := HJ.out.2.2.1; rw [← HD.out, e1] at this; simpa using this, HJ.out.2.2.2⟩
      have HFI : Hid (((P ++ X1 ++ y :: (X2 ++ Q)).map Gr.h ++ sp) = cs) := by show _ = _; rw [← HCS.out, e3]; simp
      have HX1 : Hid ((P ++ X1).length = i) := by show _ = _; rw [List.length_append, HAL.out]; omega
      have HX2 : Hid (i + X2.length = m) := by have := HAM.out; rw [e1, List.length_append] at this; show _ = _; omega
      clear e1 e2 e3 HJ
      go_wp2_with fail
      go_loopw [17] (fun kv wq => ∃ X3 X4 : List Gr, Hid (X2 = X3 ++ X4 ∧ Blk wq g 126 ((P ++ X1 ++ X3 ++ y :: (X4 ++ Q)).map Gr.h ++ sp) ∧ w.grownBy wq (some g)) ∧ kv = .int .i64 ((i + X3.length : Nat) : Int)) (fun kv _ => (intOf kv).toNat)
      case atStart => exact ⟨X2, [], ⟨by simp, HST.out.1, HST.out.2⟩, by have := HX2.out; go_num⟩
      case round =>
        obtain ⟨X3, X4, HK, rfl⟩ := hrel
        clear HST
        rcases List.eq_nil_or_concat X3 with rfl | ⟨X3', x, rfl⟩
        · have HF : Hid (SortsG w g cs (.returned (.tuple #[])) wr) := ⟨rfl, by have := HK.out.2.1; rw [← HFI.out, HK.out.1]; simpa using this, HK.out.2.2⟩
          simp only [List.length_nil, Nat.add_zero]
          go_wp2_with fail
          go_end0
          exact HF.out
        · rw [List.concat_eq_append] at HK
          have hl1 : (X3'.concat x).length = X3'.length + 1 := by simp
          have hmx : i + X3'.length + 1 ≤ m := by have := HX2.out; rw [HK.out.1] at this; simp at this; omega
          rw [hl1]
          obtain ⟨J, hJ⟩ : ∃ J, i + X3'.length = J := ⟨_, rfl⟩
          have HPJ : Hid ((P ++ X1 ++ X3').length = J) := by show _ = _; rw [List.length_append, HX1.out]; exact hJ
          have HJA := Lib.hid hJ
          rw [show i + (X3'.length + 1) = J + 1 by omega]
          have hiJ : i ≤ J := by omega
          rw [hJ] at hmx
          clear hJ hl1
          obtain ⟨k1, k2, k3⟩ := HK.out
          obtain ⟨q0, q1, q2, q3, q4, q5, q6⟩ := nbG_down (A := P ++ X1 ++ X3') (u := x) (v := y) (R := X4 ++ Q) (by simpa using k2) HPJ.out
          have HNW : Hid (X2 = X3' ++ (x :: X4) ∧ Blk ((wr.setCell ⟨g, J + 1, none⟩ x.h).setCell ⟨g, J, none⟩ y.h).drew g 126 ((P ++ X1 ++ X3' ++ y :: ((x :: X4) ++ Q)).map Gr.h ++ sp) ∧ w.grownBy ((wr.setCell ⟨g, J + 1, none⟩ x.h).setCell ⟨g, J, none⟩ y.h).drew (some g)) :=
            ⟨by rw [k1]; simp, by simpa using q6, grown_drew (grown_set (grown_set k3 _ _) _ _)⟩
          clear q6 k1 k2 k3 HK
          have hii : (i : Int) < ((J + 1 : Nat) : Int) := by omega
          go_upto_region 23 with fail
          have hst : ∀ (w : World) (a : Addr) (r : Gr), (store a r.h).run Tryz.prog w = stored Tryz.prog w a r.h .plain := fun w a r => run_store Tryz.prog w a r.h .plain rfl
          refine wp_region_plan (.take 0 (.take 1 (.take 2 (.take 3 (.take 4 (.take 5 (.take 6 (.take 7 (.take 8 (.take 9 (.take 10 (.take 11 (.take 12 (.take 13 (.take 14 (.run 15 [2, 3, 4] (.take 16 (.run 17 [] .fin)))))))))))))))))) (by kernel_rfl) (by kernel_rfl) (by kernel_rfl) (by kernel_rfl) ?_
          repeat' (first | (refine hZ _ _ ?_; clear hZ) | (refine hZ _ ?_; clear hZ) | (refine hZ ?_; clear hZ) | rw [again_nil] | rw [walk_fin] | ((first | rw [walk_take] | rw [walk_run] | rw [again_cons]); intro Z hZ; simp only [sel, List.getElem?_toArray, List.getElem?_cons_zero, List.getElem?_cons_succ]; go_wp2_with (fail)))
          clear hst
          go_wp2_with fail
          go_roundw
          case rel => exact ⟨X3', x :: X4, HNW.out, by have := HJA.out; go_num⟩
          case measure => simp [intOf]
end Go.Proofs.YtpahkaffknnjhaaGreatDoor
end

section
namespace Go.Proofs.YtpahkaffknnjhaaGreatDoor
set_option linter.unusedSimpArgs false
set_option linter.unusedVariables false
open Go.RowKit
def SymG (g q n c : Nat) (cmp : Gr → Gr → Int) (L : List Gr) (sp : List Value) (N : Nat) : Prop :=
  ∀ (w : World) (P X Y Q : List Gr) (a m b : Nat), X.length + Y.length ≤ N → 0 < X.length → 0 < Y.length → Srt.Sorted cmp X → Srt.Sorted cmp Y → Blk w g 126 ((P ++ X ++ Y ++ Q).map Gr.h ++ sp) → CmpsG w g q cmp L → (∀ z ∈ P ++ X ++ Y ++ Q, z ∈ L) → (P ++ X ++ Y ++ Q).length = n → P.length = a → a + X.length = m → m + Y.length = b →
    Calls Tryz.prog 151 #[.slice (some ⟨g, 0, none⟩) n c, .int .i64 (a : Int), .int .i64 (m : Int), .int .i64 (b : Int), .func (.func 76) #[] #[.pointer (some ⟨q, 0, none⟩)]] w
      (SortsG w g ((P ++ Srt.mg cmp X Y ++ Q).map Gr.h ++ sp))
theorem CmpsG.grown {w W : World} {g q : Nat} {cmp : Gr → Gr → Int} {L : List Gr} (h : CmpsG w g q cmp L) (hw : w.grownBy W (some g)) : CmpsG W g q cmp L := fun V hV => h V (grown_trans hw hV)
theorem SymG.at {g q n c : Nat} {cmp : Gr → Gr → Int} {L : List Gr} {sp : List Value} {N : Nat} (h : SymG g q n c cmp L sp N) {w W : World} (hw : w.grownBy W (some g)) {P X Y Q R R' : List Gr} {a m b : Nat} (h1 : X.length + Y.length ≤ N) (h2 : 0 < X.length) (h3 : 0 < Y.length) (h4 : Srt.Sorted cmp X) (h5 : Srt.Sorted cmp Y) (h6 : Blk W g 126 (R.map Gr.h ++ sp)) (h7 : CmpsG w g q cmp L) (h8 : ∀ z ∈ R, z ∈ L) (h9 : R.length = n) (h10 : P.length = a) (h11 : a + X.length = m) (h12 : m + Y.length = b) (hR : P ++ X ++ Y ++ Q = R) (hR' : P ++ Srt.mg cmp X Y ++ Q = R') :
    Calls Tryz.prog 151 #[.slice (some ⟨g, 0, none⟩) n c, .int .i64 (a : Int), .int .i64 (m : Int), .int .i64 (b : Int), .func (.func 76) #[] #[.pointer (some ⟨q, 0, none⟩)]] W
      (SortsG w g (R'.map Gr.h ++ sp)) := by
  subst hR hR'
  exact (h W P X Y Q a m b h1 h2 h3 h4 h5 h6 (h7.grown hw) h8 h9 h10 h11 h12).mono fun e W' h => ⟨h.1, h.2.1, grown_trans hw h.2.2⟩
theorem rotG_at {w W : World} {g q c n a m b : Nat} {P X Y Q R R' : List Gr} {sp : List Value} (hX : 0 < X.length) (hY : 0 < Y.length) (hw : w.grownBy W (some g)) (hb : Blk W g 126 (R.map Gr.h ++ sp)) (hn : R.length = n) (hlen : n ≤ 1000000) (hcap : n ≤ c) (ha : P.length = a) (hm : a + X.length = m) (hb2 : m + Y.length = b) (hR : P ++ X ++ Y ++ Q = R) (hR' : P ++ Y ++ X ++ Q = R') :
    Calls Tryz.prog 174 #[.slice (some ⟨g, 0, none⟩) n c, .int .i64 (a : Int), .int .i64 (m : Int), .int .i64 (b : Int), .func (.func 76) #[] #[.pointer (some ⟨q, 0, none⟩)]] W
      (SortsG w g (R'.map Gr.h ++ sp)) := by
  subst hR hR' hn ha hm hb2
  exact (rotG_any W g q c P X Y Q sp hX hY hb hlen hcap).mono fun e W' h => ⟨h.1, h.2.1, grown_trans hw h.2.2⟩
set_option maxRecDepth 100000 in
set_option maxHeartbeats 8000000 in
theorem symNG_any (g q n c : Nat) (cmp : Gr → Gr → Int) (ho : Srt.Ord cmp) (L : List Gr) (sp : List Value) (N : Nat) (hI : SymG g q n c cmp L sp N) (hlen : n ≤ 1000000) (hcap : n ≤ c)
    (w : World) (P X Y Q : List Gr) (a m b : Nat) (hN : X.length + Y.length ≤ N + 1) (hX2 : 2 ≤ X.length) (hY2 : 2 ≤ Y.length) (hX : Srt.Sorted cmp X) (hY : Srt.Sorted cmp Y) (hb : Blk w g 126 ((P ++ X ++ Y ++ Q).map Gr.h ++ sp)) (hc : CmpsG w g q cmp L) (hL : ∀ z ∈ P ++ X ++ Y ++ Q, z ∈ L) (hn : (P ++ X ++ Y ++ Q).length = n) (hal : P.length = a) (ham : a + X.length = m) (hmb : m + Y.length = b) :
    Calls Tryz.prog 151 #[.slice (some ⟨g, 0, none⟩) n c, .int .i64 (a : Int), .int .i64 (m : Int), .int .i64 (b : Int), .func (.func 76) #[] #[.pointer (some ⟨q, 0, none⟩)]] w
      (SortsG w g ((P ++ Srt.mg cmp X Y ++ Q).map Gr.h ++ sp)) := by
  have HI := Lib.hid hI
  have HO := Lib.hid ho
  have HC := Lib.hid hc
  have HBK := Lib.hid hb
  have HXS := Lib.hid hX
  have HYS := Lib.hid hY
  have HLM := Lib.hid hL
  have HAL := Lib.hid hal
  have HAM := Lib.hid ham
  have HMB := Lib.hid hmb
  have HNN := Lib.hid hN
  obtain ⟨d1, hd1⟩ : ∃ d1 : Int, (m : Int) - (a : Int) = d1 := ⟨_, rfl⟩
  have h1 : (d1 == 1) = false := by simp; omega
  obtain ⟨d2, hd2⟩ : ∃ d2 : Int, (b : Int) - (m : Int) = d2 := ⟨_, rfl⟩
  have h0 : (d2 == 1) = false := by simp; omega
  have h2 : a + 2 ≤ m := by omega
  have h3 : m + 2 ≤ b := by omega
  have h4 : b ≤ n := by rw [← hn]; simp; omega
  obtain ⟨d, hd⟩ : ∃ d : Nat, ((a : Int) + (b : Int)) / 2 = (d : Int) := ⟨(a + b) / 2, by omega⟩
  have h5 : 2 * d ≤ a + b := by omega
  have h6 : a + b ≤ 2 * d + 1 := by omega
  obtain ⟨cs, hcs⟩ : ∃ cs, (P ++ Srt.mg cmp X Y ++ Q).map Gr.h ++ sp = cs := ⟨_, rfl⟩
  rw [hcs]
  have HCS := Lib.hid hcs
  obtain ⟨D, hD⟩ : ∃ D, P ++ X ++ Y ++ Q = D := ⟨_, rfl⟩
  have HD := Lib.hid hD
  rw [hD] at hn HBK HLM
  have HDN := Lib.hid hn
  clear hb hc ho hX hY hL hn hcs hD hal ham hmb hX2 hY2 hI hN
  go_enter Tryz.func151, Tryz.ntmps151
  go_upto_if 140 with fail
  clear hd1 hd2 h1 h0 hd
  go_cut [20, 21] from 140 to 146 (fun v20 v21 wx => ∃ s0 r0 : Nat, v20 = .int .i64 (s0 : Int) ∧ v21 = .int .i64 (r0 : Int) ∧ a ≤ s0 ∧ s0 ≤ r0 ∧ r0 ≤ m ∧ r0 ≤ d ∧ d + m ≤ b + s0 ∧ (s0 = a ∨ d + m = b + s0) ∧ (r0 = m ∨ r0 = d) ∧ w = wx)
  case first =>
    by_cases hmd : d < m
    · have e1 : (d : Int) < (m : Int) := by omega
      obtain ⟨s0, hs0⟩ : ∃ s0 : Nat, (d : Int) + (m : Int) - (b : Int) = (s0 : Int) := ⟨d + m - b, by omega⟩
      have e2 : a ≤ s0 := by omega
      have e3 : s0 ≤ d := by omega
      have e4 : d + m = b + s0 := by omega
      go_wp2_with fail
      go_meet
      case rel => exact ⟨s0, d, rfl, rfl, e2, e3, by omega, Nat.le_refl _, by omega, .inr e4, .inr rfl, rfl⟩
    · have e1 : ¬ (d : Int) < (m : Int) := by omega
      go_wp2_with fail
      go_meet
      case rel => exact ⟨a, m, rfl, rfl, Nat.le_refl _, by omega, Nat.le_refl _, by omega, by omega, .inl rfl, .inl rfl, rfl⟩
  case rest =>
    obtain ⟨s0, r0, rfl, rfl, k1, k2, k3, k4, k5, k6, k7, rfl⟩ := hcut
    obtain ⟨p, hp⟩ : ∃ p : Nat, (d : Int) + (m : Int) - 1 = (p : Int) := ⟨d + m - 1, by omega⟩
    have hpm : p + 1 = d + m := by omega
    have HPM := Lib.hid hpm
    go_wp2_with fail
    clear hp hpm
    go_loopw [20, 21] (fun iv jv wr => ∃ i j : Nat, s0 ≤ i ∧ i ≤ j ∧ j ≤ r0 ∧ iv = .int .i64 (i : Int) ∧ jv = .int .i64 (j : Int) ∧ Hid ((i = s0 ∨ 0 ≤ cmp (Srt.nth D (p + 1 - i)) (Srt.nth D (i - 1))) ∧ (j = r0 ∨ cmp (Srt.nth D (p - j)) (Srt.nth D j) < 0) ∧ Blk wr g 126 (D.map Gr.h ++ sp) ∧ w.grownBy wr (some g))) (fun iv jv _ => (intOf jv).toNat - (intOf iv).toNat)
    case atStart => exact ⟨s0, r0, Nat.le_refl _, k2, Nat.le_refl _, by go_num, by go_num, .inl rfl, .inl rfl, HBK.out, grown_refl _ _⟩
    case round =>
      obtain ⟨i, j, hai, hij, hjm, rfl, rfl, HJ⟩ := hrel
      clear HBK
      by_cases hlt : i < j
      · have hii : (i : Int) < (j : Int) := by omega
        obtain ⟨k, hk⟩ : ∃ k : Nat, ((i : Int) + (j : Int)) / 2 = (k : Int) := ⟨(i + j) / 2, by omega⟩
        have hk1 : i ≤ k := by omega
        have hk2 : k < j := by omega
        have hkn : k < n := by omega
        obtain ⟨u, hu⟩ : ∃ u : Nat, (p : Int) - (k : Int) = (u : Int) := ⟨p - k, by have := HPM.out; omega⟩
        have hun : u < n := by have := HPM.out; omega
        have huk : p - k = u := by omega
        have HUK := Lib.hid huk
        have hb0 := HJ.out.2.2.1.drew
        have hg0 := Lib.hid (grown_drew HJ.out.2.2.2)
        obtain ⟨q0, q1⟩ := blk_nth hb0 (j := k) (by rw [HDN.out]; exact hkn)
        obtain ⟨q2, q3⟩ := blk_nth hb0 (j := u) (by rw [HDN.out]; exact hun)
        have HDK : Hid (Srt.nth D k ∈ D) := Srt.nth_mem (by rw [HDN.out]; exact hkn)
        have HDU : Hid (Srt.nth D u ∈ D) := Srt.nth_mem (by rw [HDN.out]; exact hun)
        have HB0 := Lib.hid hb0
        clear hb0 huk
        go_upto_region 35 with fail
        clear hk
        generalize hx : Srt.nth D k = x at HDK q0 ⊢
        generalize hy : Srt.nth D u = y at HDU q2 ⊢
        have HX := Lib.hid hx
        have HY := Lib.hid hy
        clear hx hy
        refine wp_region_plan (.take 0 (.take 1 (.take 2 (.take 3 (.take 4 (.take 5 (.take 6 (.take 7 (.take 8 (.take 9 (.take 10 (.run 11 [] (.take 12 (.take 13 .fin)))))))))))))) (by kernel_rfl) (by kernel_rfl) (by kernel_rfl) (by kernel_rfl) ?_
        repeat' (first | (refine hZ _ _ ?_; clear hZ) | (refine hZ _ ?_; clear hZ) | (refine hZ ?_; clear hZ) | rw [again_nil] | rw [walk_fin] | ((first | rw [walk_take] | rw [walk_run] | rw [again_cons]); intro Z hZ; simp only [sel, List.getElem?_toArray, List.getElem?_cons_zero, List.getElem?_cons_succ]; go_wp2_with (fail)))
        refine (HC.out _ hg0.out y (HLM.out _ HDU.out) x (HLM.out _ HDK.out)).mono ?_
        rintro e W ⟨rfl, hB⟩
        have HG := Lib.hid (grown_belowR hg0.out hB)
        have HB := Lib.hid (HB0.out.below hB)
        clear hB q0 q1 q2 q3 hu
        by_cases hyx : cmp y x < 0
        · have HXT := Lib.hid hyx
          obtain ⟨z, hz⟩ : ∃ z, cmp y x = z := ⟨_, rfl⟩
          rw [hz] at hyx ⊢
          clear hz
          go_wp2_with fail
          repeat' (first | (refine hZ _ _ ?_; clear hZ) | (refine hZ _ ?_; clear hZ) | (refine hZ ?_; clear hZ) | rw [again_nil] | rw [walk_fin] | ((first | rw [walk_take] | rw [walk_run] | rw [again_cons]); intro Z hZ; simp only [sel, List.getElem?_toArray, List.getElem?_cons_zero, List.getElem?_cons_succ]; go_wp2_with (fail)))
          go_wp2_with fail
          go_roundw
          case rel => exact ⟨i, k, hai, hk1, by omega, rfl, by go_num, HJ.out.1, .inr (by rw [HUK.out, HY.out, HX.out]; exact HXT.out), HB.out, HG.out⟩
          case measure => simp [intOf]; omega
        · have HXT := Lib.hid hyx
          obtain ⟨z, hz⟩ : ∃ z, cmp y x = z := ⟨_, rfl⟩
          rw [hz] at hyx ⊢
          clear hz
          have hyz : (decide (z < 0)) = false := by simpa using hyx
          go_wp2_with fail
          repeat' (first | (refine hZ _ _ ?_; clear hZ) | (refine hZ _ ?_; clear hZ) | (refine hZ ?_; clear hZ) | rw [again_nil] | rw [walk_fin] | ((first | rw [walk_take] | rw [walk_run] | rw [again_cons]); intro Z hZ; simp only [sel, List.getElem?_toArray, List.getElem?_cons_zero, List.getElem?_cons_succ]; go_wp2_with (fail)))
          go_wp2_with fail
          go_roundw
          case rel => exact ⟨k + 1, j, by omega, by omega, hjm, by go_num, rfl, (.inr (by rw [Nat.add_sub_cancel, Nat.add_sub_add_right, HUK.out, HY.out, HX.out]; have := HXT.out; omega)), HJ.out.2.1, HB.out, HG.out⟩
          case measure => simp [intOf]; omega
      · obtain rfl : i = j := by omega
        have hii : ¬ (i : Int) < (i : Int) := by omega
        obtain ⟨e, he⟩ : ∃ e : Nat, (d : Int) + (m : Int) - (i : Int) = (e : Int) := ⟨d + m - i, by omega⟩
        have he1 : i + e = d + m := by omega
        have HCUT : Hid (∃ X1 X2 Y1 Y2, X = X1 ++ X2 ∧ Y = Y1 ++ Y2 ∧ X1.length = i - a ∧ X2.length = m - i ∧ Y1.length = e - m ∧ Y2.length = b - e ∧ Srt.mg cmp X Y = Srt.mg cmp X1 Y1 ++ Srt.mg cmp X2 Y2) := by
          have hq := HPM.out
          refine Srt.sym_fin HO.out P X Y Q HXS.out HYS.out HAL.out HAM.out HMB.out (by omega) (by omega) (by omega) (by omega) ?_ ?_
          · rw [HD.out]
            rcases HJ.out.2.1 with h | h
            · omega
            · rw [show e - 1 = p - i by omega]; exact .inr (.inr h)
          · rw [HD.out]
            rcases HJ.out.1 with h | h
            · omega
            · rw [show e = p + 1 - i by omega]; exact .inr (.inr (by omega))
        obtain ⟨X1, X2, Y1, Y2, e1, e2, e3, e4, e5, e6, e7⟩ := HCUT.out
        clear HCUT hii
        have HST : Hid (Blk wr g 126 ((P ++ X1 ++ X2 ++ Y1 ++ (Y2 ++ Q)).map Gr.h ++ sp) ∧ w.grownBy wr (some g)) := ⟨by have := HJ.out.2.2.1; rw [← HD.out, e1, e2] at this; simpa using this, HJ.out.2.2.2⟩
        have HL1 : Hid (∀ R : List Gr, R.Perm D → (∀ z ∈ R, z ∈ L) ∧ R.length = n) := fun R hR => ⟨fun z hz => HLM.out z (hR.mem_iff.1 hz), by rw [hR.length_eq, HDN.out]⟩
        have HP1 : Hid ((P ++ X1 ++ X2 ++ Y1 ++ (Y2 ++ Q)) = D) := by show _ = _; rw [← HD.out, e1, e2]; simp
        have HP2 : Hid ((P ++ X1 ++ Y1 ++ X2 ++ (Y2 ++ Q)).Perm D) := by
          rw [← HP1.out]
          simp only [List.append_assoc]
          exact ((List.perm_append_left_iff _).2 ((List.perm_append_left_iff _).2 (List.perm_append_comm_assoc Y1 X2 (Y2 ++ Q))))
        have HP3 : Hid ((P ++ Srt.mg cmp X1 Y1 ++ X2 ++ Y2 ++ Q).Perm D) := by
          refine List.Perm.trans ?_ HP2.out
          simp only [List.append_assoc]
          refine (List.perm_append_left_iff _).2 ?_
          rw [← List.append_assoc X1]
          exact (List.perm_append_right_iff _).2 (Srt.mg_perm cmp _ _)
        have HFI : Hid ((P ++ Srt.mg cmp X1 Y1 ++ Srt.mg cmp X2 Y2 ++ Q).map Gr.h ++ sp = cs) := by show _ = _; rw [← HCS.out, e7]; simp
        have HX1 : Hid (Srt.Sorted cmp X1 ∧ Srt.Sorted cmp X2) := Srt.sorted_part HXS.out e1
        have HY1 : Hid (Srt.Sorted cmp Y1 ∧ Srt.Sorted cmp Y2) := Srt.sorted_part HYS.out e2
        have HPA : Hid ((P ++ X1).length = i) := by show _ = _; rw [List.length_append, HAL.out]; omega
        have HPM2 : Hid ((P ++ Srt.mg cmp X1 Y1).length = d) := by show _ = _; rw [List.length_append, Srt.mg_length, HAL.out]; omega
        have hN1 : (i - a) + (e - m) ≤ N := by have := HNN.out; rw [e1, e2] at this; simp at this; omega
        have hN2 : (m - i) + (b - e) ≤ N := by have := HNN.out; rw [e1, e2] at this; simp at this; omega
        have HE3 := Lib.hid e3
        have HE4 := Lib.hid e4
        have HE5 := Lib.hid e5
        have HE6 := Lib.hid e6
        clear e1 e2 e3 e4 e5 e6 e7 HJ
        go_upto_region 39 with fail
        clear he
        go_cut [185] from 178 to 185 (fun v wx => Hid (v = .bool (decide (i < m ∧ m < e)) ∧ wr = wx))
        case first =>
          by_cases hA : i < m
          · by_cases hB : m < e
            · have c1 : (i : Int) < m := by omega
              have c2 : (m : Int) < e := by omega
              have HAB : Hid (decide (i < m ∧ m < e) = true) := by show _ = _; simp [hA, hB]
              go_wp2_with fail
              go_meet
              case rel => exact ⟨by rw [HAB.out], rfl⟩
            · have c1 : (i : Int) < m := by omega
              have c2 : ¬ (m : Int) < e := by omega
              have HAB : Hid (decide (i < m ∧ m < e) = false) := by show _ = _; simp [hB]
              go_wp2_with fail
              go_meet
              case rel => exact ⟨by rw [HAB.out], rfl⟩
          · have c1 : ¬ (i : Int) < m := by omega
            have HAB : Hid (decide (i < m ∧ m < e) = false) := by show _ = _; simp [hA]
            go_wp2_with fail
            go_meet
            case rel => exact ⟨by rw [HAB.out], rfl⟩
        case rest =>
          obtain ⟨hv, rfl⟩ := hcut.out
          subst hv
          clear hcut
          go_upto_if 185 with fail
          go_cut [] from 185 to 191 (fun wx => Hid (Blk wx g 126 ((P ++ X1 ++ Y1 ++ X2 ++ (Y2 ++ Q)).map Gr.h ++ sp) ∧ w.grownBy wx (some g)))
          case first =>
            by_cases hAB : i < m ∧ m < e
            · have HR := Lib.hid (rotG_at (w := w) (q := q) (c := c) (n := n) (a := i) (m := m) (b := e) (P := P ++ X1) (X := X2) (Y := Y1) (Q := Y2 ++ Q) (by rw [HE4.out]; omega) (by rw [HE5.out]; omega) HST.out.2 HST.out.1 (by rw [HP1.out]; exact HDN.out) hlen hcap HPA.out (by rw [HE4.out]; omega) (by rw [HE5.out]; omega) rfl rfl)
              rw [decide_eq_true hAB]
              go_wp2_with fail
              refine (show Calls _ _ _ _ _ from HR.out).mono ?_
              rintro e W ⟨rfl, hW⟩
              have HW := Lib.hid hW
              clear hW HR
              go_wp2_with fail
              go_meet
              case rel => exact HW.out
            · have HW : Hid (Blk wr g 126 ((P ++ X1 ++ Y1 ++ X2 ++ (Y2 ++ Q)).map Gr.h ++ sp) ∧ w.grownBy wr (some g)) := by
                show _ ∧ _
                have h5 := HE5.out
                have h4 := HE4.out
                have := HST.out
                by_cases hm : i < m
                · obtain rfl : Y1 = [] := List.eq_nil_of_length_eq_zero (by omega)
                  simpa using this
                · obtain rfl : X2 = [] := List.eq_nil_of_length_eq_zero (by omega)
                  simpa using this
              rw [decide_eq_false hAB]
              go_wp2_with fail
              go_meet
              case rel => exact HW.out
          case rest =>
            clear HST
            have HST := hcut
            clear hcut
            go_upto_region 41 with fail
            go_cut [199] from 192 to 199 (fun v wx => Hid (v = .bool (decide (a < i ∧ i < d)) ∧ wc = wx))
            case first =>
              by_cases hA : a < i
              · by_cases hB : i < d
                · have c1 : (a : Int) < i := by omega
                  have c2 : (i : Int) < d := by omega
                  have HAB : Hid (decide (a < i ∧ i < d) = true) := by show _ = _; simp [hA, hB]
                  go_wp2_with fail
                  go_meet
                  case rel => exact ⟨by rw [HAB.out], rfl⟩
                · have c1 : (a : Int) < i := by omega
                  have c2 : ¬ (i : Int) < d := by omega
                  have HAB : Hid (decide (a < i ∧ i < d) = false) := by show _ = _; simp [hB]
                  go_wp2_with fail
                  go_meet
                  case rel => exact ⟨by rw [HAB.out], rfl⟩
              · have c1 : ¬ (a : Int) < i := by omega
                have HAB : Hid (decide (a < i ∧ i < d) = false) := by show _ = _; simp [hA]
                go_wp2_with fail
                go_meet
                case rel => exact ⟨by rw [HAB.out], rfl⟩
            case rest =>
              obtain ⟨hv, rfl⟩ := hcut.out
              subst hv
              clear hcut
              go_upto_if 199 with fail
              go_cut [] from 199 to 205 (fun wx => Hid (Blk wx g 126 ((P ++ Srt.mg cmp X1 Y1 ++ X2 ++ Y2 ++ Q).map Gr.h ++ sp) ∧ w.grownBy wx (some g)))
              case first =>
                by_cases hAB : a < i ∧ i < d
                · have HR := Lib.hid (HI.out.at (w := w) HST.out.2 (P := P) (X := X1) (Y := Y1) (Q := X2 ++ Y2 ++ Q) (a := a) (m := i) (b := d) (R' := P ++ Srt.mg cmp X1 Y1 ++ X2 ++ Y2 ++ Q) (by rw [HE3.out, HE5.out]; exact hN1) (by rw [HE3.out]; omega) (by rw [HE5.out]; omega) HX1.out.1 HY1.out.1 HST.out.1 HC.out (HL1.out _ HP2.out).1 (HL1.out _ HP2.out).2 HAL.out (by rw [HE3.out]; omega) (by rw [HE5.out]; omega) (by simp) (by simp))
                  rw [decide_eq_true hAB]
                  go_wp2_with fail
                  refine (show Calls _ _ _ _ _ from HR.out).mono ?_
                  rintro e W ⟨rfl, hW⟩
                  have HW := Lib.hid hW
                  clear hW HR
                  go_wp2_with fail
                  go_meet
                  case rel => exact HW.out
                · have HW : Hid (Blk wc g 126 ((P ++ Srt.mg cmp X1 Y1 ++ X2 ++ Y2 ++ Q).map Gr.h ++ sp) ∧ w.grownBy wc (some g)) := by
                    show _ ∧ _
                    have h5 := HE5.out
                    have h3 := HE3.out
                    have := HST.out
                    by_cases hm : a < i
                    · obtain rfl : Y1 = [] := List.eq_nil_of_length_eq_zero (by omega)
                      rw [Srt.mg_nil_right]
                      simpa using this
                    · obtain rfl : X1 = [] := List.eq_nil_of_length_eq_zero (by omega)
                      rw [Srt.mg_nil_left]
                      simpa using this
                  rw [decide_eq_false hAB]
                  go_wp2_with fail
                  go_meet
                  case rel => exact HW.out
              case rest =>
                clear HST
                have HST := hcut
                clear hcut
                have HFIN : Hid (∀ W, Blk W g 126 ((P ++ Srt.mg cmp X1 Y1 ++ Srt.mg cmp X2 Y2 ++ Q).map Gr.h ++ sp) → w.grownBy W (some g) → SortsG w g cs (.returned (.tuple #[])) W) := fun W h1 h2 => ⟨rfl, by rw [← HFI.out]; exact h1, h2⟩
                go_upto_region 43 with fail
                go_cut [213] from 206 to 213 (fun v wx => Hid (v = .bool (decide (d < e ∧ e < b)) ∧ wc = wx))
                case first =>
                  by_cases hA : d < e
                  · by_cases hB : e < b
                    · have c1 : (d : Int) < e := by omega
                      have c2 : (e : Int) < b := by omega
                      have HAB : Hid (decide (d < e ∧ e < b) = true) := by show _ = _; simp [hA, hB]
                      go_wp2_with fail
                      go_meet
                      case rel => exact ⟨by rw [HAB.out], rfl⟩
                    · have c1 : (d : Int) < e := by omega
                      have c2 : ¬ (e : Int) < b := by omega
                      have HAB : Hid (decide (d < e ∧ e < b) = false) := by show _ = _; simp [hB]
                      go_wp2_with fail
                      go_meet
                      case rel => exact ⟨by rw [HAB.out], rfl⟩
                  · have c1 : ¬ (d : Int) < e := by omega
                    have HAB : Hid (decide (d < e ∧ e < b) = false) := by show _ = _; simp [hA]
                    go_wp2_with fail
                    go_meet
                    case rel => exact ⟨by rw [HAB.out], rfl⟩
                case rest =>
                  obtain ⟨hv, rfl⟩ := hcut.out
                  subst hv
                  clear hcut
                  go_upto_if 213 with fail
                  by_cases hAB : d < e ∧ e < b
                  · have HR := Lib.hid (HI.out.at (w := w) HST.out.2 (P := P ++ Srt.mg cmp X1 Y1) (X := X2) (Y := Y2) (Q := Q) (a := d) (m := e) (b := b) (by rw [HE4.out, HE6.out]; exact hN2) (by rw [HE4.out]; omega) (by rw [HE6.out]; omega) HX1.out.2 HY1.out.2 HST.out.1 HC.out (HL1.out _ HP3.out).1 (HL1.out _ HP3.out).2 HPM2.out (by rw [HE4.out]; omega) (by rw [HE6.out]; omega) rfl rfl)
                    rw [decide_eq_true hAB]
                    go_wp2_with fail
                    refine (show Calls _ _ _ _ _ from HR.out).mono ?_
                    rintro e W ⟨rfl, hW⟩
                    have HW := Lib.hid (HFIN.out W hW.1 hW.2)
                    clear hW HR
                    go_wp2_with fail
                    go_end0
                    exact HW.out
                  · have HW : Hid (SortsG w g cs (.returned (.tuple #[])) wc) := HFIN.out _ (by
                      have h6 := HE6.out
                      have h4 := HE4.out
                      have := HST.out.1
                      by_cases hm : d < e
                      · obtain rfl : Y2 = [] := List.eq_nil_of_length_eq_zero (by omega)
                        rw [Srt.mg_nil_right]
                        simpa using this
                      · obtain rfl : X2 = [] := List.eq_nil_of_length_eq_zero (by omega)
                        rw [Srt.mg_nil_left]
                        simpa using this) HST.out.2
                    rw [decide_eq_false hAB]
                    go_wp2_with fail
                    go_end0
                    exact HW.out
theorem symG_any (g q n c : Nat) (cmp : Gr → Gr → Int) (ho : Srt.Ord cmp) (L : List Gr) (sp : List Value) (hlen : n ≤ 1000000) (hcap : n ≤ c) : ∀ N, SymG g q n c cmp L sp N
  | 0 => fun w P X Y Q a m b h1 h2 => by omega
  | N + 1 => fun w P X Y Q a m b h1 h2 h3 h4 h5 h6 h7 h8 h9 h10 h11 h12 => by
    by_cases hx : X.length = 1
    · obtain ⟨x, rfl⟩ := List.length_eq_one_iff.1 hx
      exact sym1G_any w g q n c a m b cmp ho L P Y Q x sp h5 h6 h7 h8 h9 hlen hcap h10 (by simpa using h11) h12
    · by_cases hy : Y.length = 1
      · obtain ⟨y, rfl⟩ := List.length_eq_one_iff.1 hy
        exact sym2G_any w g q n c a m b cmp ho L P X Q y sp h4 (by omega) h6 h7 h8 h9 hlen hcap h10 h11 (by simpa using h12)
      · exact symNG_any g q n c cmp ho L sp N (symG_any g q n c cmp ho L sp hlen hcap N) hlen hcap w P X Y Q a m b h1 (by omega) (by omega) h4 h5 h6 h7 h8 h9 h10 h11 h12
end Go.Proofs.YtpahkaffknnjhaaGreatDoor
end

section
namespace Go.Proofs.YtpahkaffknnjhaaGreatDoor
set_option linter.unusedSimpArgs false
set_option linter.unusedVariables false
open Go.RowKit
theorem CmpsG.mono {w : World} {g q : Nat} {cmp : Gr → Gr → Int} {L M : List Gr} (h : CmpsG w g q cmp L) (hM : ∀ z ∈ M, z ∈ L) : CmpsG w g q cmp M := fun V hV x hx y hy => h V hV x (hM x hx) y (hM y hy)
theorem insG_at {w W : World} {g q c n a b : Nat} {cmp : Gr → Gr → Int} (ho : Srt.Ord cmp) {L P S Q R R' : List Gr} {sp : List Value} (hw : w.grownBy W (some g)) (hb : Blk W g 126 (R.map Gr.h ++ sp)) (hc : CmpsG w g q cmp L) (hL : ∀ z ∈ R, z ∈ L) (hn : R.length = n) (hlen : n ≤ 1000000) (hcap : n ≤ c) (ha : P.length = a) (hb2 : a + S.length = b) (hR : P ++ S ++ Q = R) (hR' : P ++ Srt.ssort cmp S ++ Q = R') :
    Calls Tryz.prog 150 #[.slice (some ⟨g, 0, none⟩) n c, .int .i64 (a : Int), .int .i64 (b : Int), .func (.func 76) #[] #[.pointer (some ⟨q, 0, none⟩)]] W
      (SortsG w g (R'.map Gr.h ++ sp)) := by
  subst hR hR' hn ha hb2
  exact (insG_any W g q c cmp ho P S Q sp hb ((hc.grown hw).mono hL) hlen hcap).mono fun e W' h => ⟨h.1, h.2.1, grown_trans hw h.2.2⟩
set_option maxRecDepth 100000 in
set_option maxHeartbeats 8000000 in
theorem stabG_any (w : World) (g q n c : Nat) (cmp : Gr → Gr → Int) (ho : Srt.Ord cmp) (L : List Gr) (sp : List Value) (hb : Blk w g 126 (L.map Gr.h ++ sp)) (hc : CmpsG w g q cmp L) (hn : L.length = n) (hlen : n ≤ 1000000) (hcap : n ≤ c) :
    Calls Tryz.prog 119 #[.slice (some ⟨g, 0, none⟩) n c, .int .i64 (n : Int), .func (.func 76) #[] #[.pointer (some ⟨q, 0, none⟩)]] w
      (SortsG w g ((Srt.ssort cmp L).map Gr.h ++ sp)) := by
  have HO := Lib.hid ho
  have HC := Lib.hid hc
  have HBK := Lib.hid hb
  have HN := Lib.hid hn
  have HLM : Hid (∀ R : List Gr, R.Perm L → (∀ z ∈ R, z ∈ L) ∧ R.length = n) := fun R hR => ⟨fun z hz => hR.mem_iff.1 hz, by rw [hR.length_eq, hn]⟩
  obtain ⟨cs, hcs⟩ : ∃ cs, (Srt.ssort cmp L).map Gr.h ++ sp = cs := ⟨_, rfl⟩
  rw [hcs]
  have HCS := Lib.hid hcs
  clear hb hc ho hn hcs
  go_enter Tryz.func119, Tryz.ntmps119
  go_wp2_with fail
  go_loopw [7, 8] (fun av bv wr => ∃ a : Nat, a ≤ n ∧ av = .int .i64 (a : Int) ∧ bv = .int .i64 ((a + 20 : Nat) : Int) ∧ Hid (∃ LD LR SD : List Gr, L = LD ++ LR ∧ LD.length = a ∧ Srt.Done cmp 20 SD LD ∧ Blk wr g 126 ((SD ++ LR).map Gr.h ++ sp) ∧ w.grownBy wr (some g))) (fun av _ _ => n - (intOf av).toNat)
  case atStart => exact ⟨0, Nat.zero_le _, by go_num, by go_num, [], L, [], rfl, rfl, Srt.Done.nil, HBK.out, grown_refl _ _⟩
  case round =>
    obtain ⟨a, han, rfl, rfl, HJ⟩ := hrel
    clear HBK
    obtain ⟨LD, LR, SD, e1, e2, e3, e4, e5⟩ := HJ.out
    clear HJ
    have hSD : SD.length = a := by rw [e3.len, e2]
    have hLR : a + LR.length = n := by have := HN.out; rw [e1, List.length_append] at this; omega
    have hP : (SD ++ LR).Perm L := by rw [e1]; exact e3.1.append_right _
    by_cases hlt : a + 20 ≤ n
    · have hii : ((a + 20 : Nat) : Int) ≤ (n : Int) := by omega
      have HR := Lib.hid (insG_at (q := q) (c := c) (n := n) (a := a) (b := a + 20) HO.out (P := SD) (S := LR.take 20) (Q := LR.drop 20) e5 e4 HC.out (HLM.out _ hP).1 (HLM.out _ hP).2 hlen hcap hSD (by rw [List.length_take]; omega) (by rw [List.append_assoc, List.take_append_drop]) rfl)
      have HNX : Hid (∀ W, Blk W g 126 ((SD ++ Srt.ssort cmp (LR.take 20) ++ LR.drop 20).map Gr.h ++ sp) → w.grownBy W (some g) → ∃ LD LR SD : List Gr, L = LD ++ LR ∧ LD.length = a + 20 ∧ Srt.Done cmp 20 SD LD ∧ Blk W g 126 ((SD ++ LR).map Gr.h ++ sp) ∧ w.grownBy W (some g)) := fun W h1 h2 =>
        ⟨LD ++ LR.take 20, LR.drop 20, SD ++ Srt.ssort cmp (LR.take 20), by rw [List.append_assoc, List.take_append_drop]; exact e1, by rw [List.length_append, List.length_take, e2]; omega, e3.more _ (by rw [List.length_take]; omega), h1, h2⟩
      clear e1 e2 e3 e4 e5 hSD hLR hP
      go_wp2_with fail
      refine (show Calls _ _ _ _ _ from HR.out).mono ?_
      rintro e W ⟨rfl, hW⟩
      have HW := Lib.hid (HNX.out W hW.1 hW.2)
      clear hW HR HNX
      go_wp2_with fail
      go_roundw
      case rel => exact ⟨a + 20, hlt, by go_num, by go_num, HW.out⟩
      case measure => simp [intOf]; omega
    · have hii : ¬ ((a + 20 : Nat) : Int) ≤ (n : Int) := by omega
      have HR := Lib.hid (insG_at (q := q) (c := c) (n := n) (a := a) (b := n) HO.out (P := SD) (S := LR) (Q := []) e5 e4 HC.out (HLM.out _ hP).1 (HLM.out _ hP).2 hlen hcap hSD hLR (by rw [List.append_nil]) rfl)
      have HNX : Hid (∀ W, Blk W g 126 ((SD ++ Srt.ssort cmp LR ++ []).map Gr.h ++ sp) → w.grownBy W (some g) → ∃ S : List Gr, Srt.Chk cmp 20 S L ∧ Blk W g 126 (S.map Gr.h ++ sp) ∧ w.grownBy W (some g)) := fun W h1 h2 =>
        ⟨SD ++ Srt.ssort cmp LR, by rw [e1]; exact e3.2 _ _ (.last _ (by omega)), by rw [List.append_nil] at h1; exact h1, h2⟩
      clear e1 e2 e3 e4 e5 hSD hLR hP
      go_wp2_with fail
      refine (show Calls _ _ _ _ _ from HR.out).mono ?_
      rintro e W ⟨rfl, hW⟩
      have HW := Lib.hid (HNX.out W hW.1 hW.2)
      clear hW HR HNX hii hlt han
      go_wp2_with fail
      go_loopw [6] (fun bv wr => ∃ bs : Nat, 20 ≤ bs ∧ bv = .int .i64 (bs : Int) ∧ Hid (∃ S : List Gr, Srt.Chk cmp bs S L ∧ Blk wr g 126 (S.map Gr.h ++ sp) ∧ w.grownBy wr (some g))) (fun bv _ => n - (intOf bv).toNat)
      case atStart => exact ⟨20, Nat.le_refl _, by go_num, HW.out⟩
      case round =>
        obtain ⟨bs, hbs, rfl, HJ⟩ := hrel
        clear HW
        by_cases hlt : bs < n
        · have hii : (bs : Int) < (n : Int) := by omega
          go_wp2_with fail
          go_loopw [7, 8] (fun av bv wr => ∃ a : Nat, a ≤ n ∧ av = .int .i64 (a : Int) ∧ bv = .int .i64 ((a + 2 * bs : Nat) : Int) ∧ Hid (∃ LD LR SD SR : List Gr, L = LD ++ LR ∧ LD.length = a ∧ Srt.Done cmp (2 * bs) SD LD ∧ Srt.Chk cmp bs SR LR ∧ Blk wr g 126 ((SD ++ SR).map Gr.h ++ sp) ∧ w.grownBy wr (some g))) (fun av _ _ => n - (intOf av).toNat)
          case atStart =>
            obtain ⟨S, e1, e2, e3⟩ := HJ.out
            exact ⟨0, Nat.zero_le _, by go_num, by go_num, [], L, [], S, rfl, rfl, Srt.Done.nil, e1, e2, e3⟩
          case round =>
            obtain ⟨a, han, rfl, rfl, HJ⟩ := hrel
            obtain ⟨LD, LR, SD, SR, e1, e2, e3, e4, e5, e6⟩ := HJ.out
            clear HJ
            have hSD : SD.length = a := by rw [e3.len, e2]
            have hLR : a + LR.length = n := by have := HN.out; rw [e1, List.length_append] at this; omega
            have hP : (SD ++ SR).Perm L := by rw [e1]; exact e3.1.append e4.perm
            by_cases hle : a + 2 * bs ≤ n
            · have hij : ((a + 2 * bs : Nat) : Int) ≤ (n : Int) := by omega
              obtain ⟨B1, S1, L1, b1, rfl, rfl, c1⟩ := e4.cut (by omega)
              rw [List.length_append] at hLR
              obtain ⟨B2, S2, L2, b2, rfl, rfl, c2⟩ := c1.cut (by omega)
              obtain ⟨m, hm⟩ : ∃ m : Nat, (a : Int) + (bs : Int) = (m : Int) := ⟨a + bs, by omega⟩
              have hm2 : a + bs = m := by omega
              have HR := Lib.hid ((symG_any g q n c cmp HO.out L sp hlen hcap _).at (w := w) e6 (P := SD) (X := Srt.ssort cmp B1) (Y := Srt.ssort cmp B2) (Q := S2) (a := a) (m := m) (b := a + 2 * bs) (R' := (SD ++ Srt.ssort cmp (B1 ++ B2)) ++ S2) (Nat.le_refl _) (by rw [Srt.ssort_length]; omega) (by rw [Srt.ssort_length]; omega) (Srt.ssort_sorted HO.out _) (Srt.ssort_sorted HO.out _) e5 HC.out (HLM.out _ hP).1 (HLM.out _ hP).2 hSD (by rw [Srt.ssort_length]; omega) (by rw [Srt.ssort_length]; omega) (by simp) (by rw [Srt.ssort_append HO.out]))
              have HNX : Hid (∀ W, Blk W g 126 (((SD ++ Srt.ssort cmp (B1 ++ B2)) ++ S2).map Gr.h ++ sp) → w.grownBy W (some g) → ∃ LD LR SD SR : List Gr, L = LD ++ LR ∧ LD.length = a + 2 * bs ∧ Srt.Done cmp (2 * bs) SD LD ∧ Srt.Chk cmp bs SR LR ∧ Blk W g 126 ((SD ++ SR).map Gr.h ++ sp) ∧ w.grownBy W (some g)) := fun W h1 h2 =>
                ⟨LD ++ (B1 ++ B2), L2, SD ++ Srt.ssort cmp (B1 ++ B2), S2, by rw [e1]; simp, by simp; omega, e3.more _ (by simp; omega), c2, h1, h2⟩
              clear e1 e2 e3 e4 e5 e6 hSD hLR hP b1 b2 c1 c2
              go_wp2_with fail
              refine (show Calls _ _ _ _ _ from HR.out).mono ?_
              rintro e W ⟨rfl, hW⟩
              have HW := Lib.hid (HNX.out W hW.1 hW.2)
              clear hW HR HNX hm
              go_wp2_with fail
              go_roundw
              case rel => exact ⟨a + 2 * bs, hle, by go_num, by go_num, HW.out⟩
              case measure => simp [intOf]; omega
            · have hij : ¬ ((a + 2 * bs : Nat) : Int) ≤ (n : Int) := by omega
              obtain ⟨m, hm⟩ : ∃ m : Nat, (a : Int) + (bs : Int) = (m : Int) := ⟨a + bs, by omega⟩
              have hm2 : a + bs = m := by omega
              by_cases hmn : m < n
              · have hmi : (m : Int) < (n : Int) := by omega
                obtain ⟨B1, S1, L1, b1, rfl, rfl, c1⟩ := e4.cut (by omega)
                rw [List.length_append] at hLR
                obtain rfl := c1.small (by omega)
                have HR := Lib.hid ((symG_any g q n c cmp HO.out L sp hlen hcap _).at (w := w) e6 (P := SD) (X := Srt.ssort cmp B1) (Y := Srt.ssort cmp L1) (Q := []) (a := a) (m := m) (b := n) (R' := SD ++ Srt.ssort cmp (B1 ++ L1)) (Nat.le_refl _) (by rw [Srt.ssort_length]; omega) (by rw [Srt.ssort_length]; omega) (Srt.ssort_sorted HO.out _) (Srt.ssort_sorted HO.out _) e5 HC.out (HLM.out _ hP).1 (HLM.out _ hP).2 hSD (by rw [Srt.ssort_length]; omega) (by rw [Srt.ssort_length]; omega) (by simp) (by rw [Srt.ssort_append HO.out, List.append_nil]))
                have HNX : Hid (∀ W, Blk W g 126 ((SD ++ Srt.ssort cmp (B1 ++ L1)).map Gr.h ++ sp) → w.grownBy W (some g) → ∃ S : List Gr, Srt.Chk cmp (2 * bs) S L ∧ Blk W g 126 (S.map Gr.h ++ sp) ∧ w.grownBy W (some g)) := fun W h1 h2 =>
                  ⟨SD ++ Srt.ssort cmp (B1 ++ L1), by rw [e1]; exact e3.2 _ _ (.last _ (by simp; omega)), h1, h2⟩
                clear e1 e2 e3 e4 e5 e6 hSD hLR hP b1 c1
                go_wp2_with fail
                refine (show Calls _ _ _ _ _ from HR.out).mono ?_
                rintro e W ⟨rfl, hW⟩
                have HW := Lib.hid (HNX.out W hW.1 hW.2)
                clear hW HR HNX hm
                go_wp2_with fail
                go_roundw
                case rel => exact ⟨2 * bs, by omega, by go_num, HW.out⟩
                case measure => simp [intOf]; omega
              · have hmi : ¬ (m : Int) < (n : Int) := by omega
                obtain rfl := e4.small (by omega)
                have HW : Hid (∃ S : List Gr, Srt.Chk cmp (2 * bs) S L ∧ Blk wr g 126 (S.map Gr.h ++ sp) ∧ w.grownBy wr (some g)) :=
                  ⟨_, by rw [e1]; exact e3.2 _ _ (.last _ (by omega)), e5, e6⟩
                clear e1 e2 e3 e4 e5 e6 hSD hLR hP
                go_wp2_with fail
                clear hm
                go_roundw
                case rel => exact ⟨2 * bs, by omega, by go_num, HW.out⟩
                case measure => simp [intOf]; omega
        · have hii : ¬ (bs : Int) < (n : Int) := by omega
          have HF : Hid (SortsG w g cs (.returned (.tuple #[])) wr) := by
            obtain ⟨S, e1, e2, e3⟩ := HJ.out
            obtain rfl := e1.small (by have := HN.out; omega)
            exact ⟨rfl, by rw [← HCS.out]; exact e2, e3⟩
          go_wp2_with fail
          go_end0
          exact HF.out
set_option maxRecDepth 100000 in
set_option maxHeartbeats 8000000 in
theorem stableG_any (w : World) (g q n c : Nat) (cmp : Gr → Gr → Int) (ho : Srt.Ord cmp) (L : List Gr) (sp : List Value) (hb : Blk w g 126 (L.map Gr.h ++ sp)) (hc : CmpsG w g q cmp L) (hn : L.length = n) (hlen : n ≤ 1000000) (hcap : n ≤ c) :
    Calls Tryz.prog 75 #[.slice (some ⟨g, 0, none⟩) n c, .func (.func 76) #[] #[.pointer (some ⟨q, 0, none⟩)]] w
      (SortsG w g ((Srt.ssort cmp L).map Gr.h ++ sp)) := by
  have HR := Lib.hid (stabG_any w g q n c cmp ho L sp hb hc hn hlen hcap)
  obtain ⟨cs, hcs⟩ : ∃ cs, (Srt.ssort cmp L).map Gr.h ++ sp = cs := ⟨_, rfl⟩
  rw [hcs] at HR ⊢
  clear hb hc ho hn hcs
  go_enter Tryz.func75, Tryz.ntmps75
  go_wp2_with fail
  refine (show Calls _ _ _ _ _ from HR.out).mono ?_
  rintro e W ⟨rfl, hW⟩
  have HW := Lib.hid hW
  clear hW HR
  go_wp2_with fail
  go_end0
  exact ⟨rfl, HW.out⟩
end Go.Proofs.YtpahkaffknnjhaaGreatDoor
end

section
namespace Go.Proofs.YtpahkaffknnjhaaGreatDoor
set_option linter.unusedSimpArgs false
set_option linter.unusedVariables false
open Go.RowKit
def CmpsV (w : World) (g q : Nat) (cmp : Rw → Rw → Int) (L : List Rw) : Prop :=
  ∀ W, w.grownBy W (some g) → ∀ x ∈ L, ∀ y ∈ L, Calls Tryz.prog 117 #[x.v, y.v, .pointer (some ⟨q, 0, none⟩)] W fun e w' => e = .returned (.int .i64 (cmp x y)) ∧ Below W.heap.size W w'
def SortsV (w : World) (g : Nat) (cs : List Value) (e : Ending) (w' : World) : Prop := e = .returned (.tuple #[]) ∧ Blk w' g 37 cs ∧ w.grownBy w' (some g)
set_option maxRecDepth 100000 in
set_option maxHeartbeats 8000000 in
theorem insV_any (w : World) (g q c : Nat) (cmp : Rw → Rw → Int) (ho : Srt.Ord cmp) (P S Q : List Rw) (sp : List Value) (hb : Blk w g 37 ((P ++ S ++ Q).map Rw.v ++ sp)) (hc : CmpsV w g q cmp (P ++ S ++ Q)) (hlen : (P ++ S ++ Q).length ≤ 1000000) (hcap : (P ++ S ++ Q).length ≤ c) :
    Calls Tryz.prog 172 #[.slice (some ⟨g, 0, none⟩) (P ++ S ++ Q).length c, .int .i64 (P.length : Int), .int .i64 ((P.length + S.length : Nat) : Int), .func (.func 117) #[] #[.pointer (some ⟨q, 0, none⟩)]] w
      (SortsV w g ((P ++ Srt.ssort cmp S ++ Q).map Rw.v ++ sp)) := by
  have HO := Lib.hid ho
  have HC := Lib.hid hc
  have HBK := Lib.hid hb
  have hl3 : (P ++ S ++ Q).length = P.length + S.length + Q.length := by simp; omega
  obtain ⟨n, hn⟩ : ∃ n, (P ++ S ++ Q).length = n := ⟨_, rfl⟩
  rw [hn] at hlen hcap hl3 ⊢
  obtain ⟨e0, he0⟩ : ∃ e0, P.length + S.length = e0 := ⟨_, rfl⟩
  rw [he0]
  have he1 : P.length + S.length ≤ e0 := by omega
  have he2 : e0 ≤ P.length + S.length := by omega
  clear he0
  have HN := Lib.hid hn
  obtain ⟨cs, hcs⟩ : ∃ cs, (P ++ Srt.ssort cmp S ++ Q).map Rw.v ++ sp = cs := ⟨_, rfl⟩
  rw [hcs]
  have HCS := Lib.hid hcs
  have HL3 := Lib.hid hl3
  have hle3 : P.length + S.length ≤ n := by omega
  clear hb hc ho hn hcs hl3
  go_enter Tryz.func172, Tryz.ntmps172
  go_wp2_with fail
  go_loopw [8] (fun iv wr => ∃ k : Nat, (k + 1 ≤ S.length ∨ S.length = 0 ∧ k = 0) ∧ iv = .int .i64 ((P.length + 1 + k : Nat) : Int) ∧ Hid (Blk wr g 37 ((P ++ Srt.ssort cmp (S.take (k + 1)) ++ (S.drop (k + 1) ++ Q)).map Rw.v ++ sp) ∧ w.grownBy wr (some g))) (fun iv _ => P.length + S.length + 1 - (intOf iv).toNat)
  case atStart =>
    refine ⟨0, by omega, by go_num, ?_, grown_refl _ _⟩
    have e : Srt.ssort cmp (S.take (0 + 1)) ++ S.drop (0 + 1) = S := by
      cases S with
      | nil => rfl
      | cons x S => show Srt.mg cmp [] [x] ++ S = _; rw [Srt.mg_nil_left]; rfl
    have e2 : P ++ Srt.ssort cmp (S.take (0 + 1)) ++ (S.drop (0 + 1) ++ Q) = P ++ S ++ Q := by
      rw [List.append_assoc, ← List.append_assoc (Srt.ssort cmp (S.take (0 + 1))), e, List.append_assoc]
    rw [e2]
    exact HBK.out
  case round =>
    obtain ⟨k, hk, rfl, HJ⟩ := hrel
    clear HBK
    by_cases hlt : k + 1 < S.length
    · have hii : ((P.length + 1 + k : Nat) : Int) < (e0 : Int) := by omega
      obtain ⟨x, hx⟩ : ∃ x, S[k + 1] = x := ⟨_, rfl⟩
      have hdr : S.drop (k + 1) = x :: S.drop (k + 2) := by rw [← hx]; exact (List.getElem_cons_drop hlt).symm
      obtain ⟨T, hT⟩ : ∃ T, Srt.ssort cmp (S.take (k + 1)) = T := ⟨_, rfl⟩
      obtain ⟨R, hR⟩ : ∃ R, S.drop (k + 2) ++ Q = R := ⟨_, rfl⟩
      have hTl : T.length = k + 1 := by rw [← hT, Srt.ssort_length, List.length_take]; omega
      have HTS : Hid (Srt.Sorted cmp T) := by show Srt.Sorted cmp T; rw [← hT]; exact Srt.ssort_sorted HO.out _
      have HTM : Hid (∀ t ∈ T, t ∈ P ++ S ++ Q) := fun t ht => by
        rw [← hT] at ht
        have := List.mem_of_mem_take ((Srt.ssort_perm cmp _).mem_iff.1 ht)
        simp [this]
      have HXM : Hid (x ∈ P ++ S ++ Q) := by show x ∈ _; rw [← hx]; simp
      have HNX : Hid (Srt.ssort cmp (S.take (k + 1 + 1)) = Srt.mg cmp T [x]) := by
        show _ = _
        rw [List.take_succ_eq_append_getElem hlt, Srt.ssort_snoc, hT, hx]
      have HJ2 : Hid (Blk wr g 37 ((P ++ (T ++ x :: []) ++ R).map Rw.v ++ sp) ∧ w.grownBy wr (some g)) := by
        refine ⟨?_, HJ.out.2⟩
        have h1 := HJ.out.1
        rw [hT, hdr, List.cons_append, hR] at h1
        have e : P ++ T ++ x :: R = P ++ (T ++ [x]) ++ R := by simp
        rw [e] at h1
        exact h1
      have HRR := Lib.hid hR
      have hnl : n = P.length + (T.length + 1 + R.length) := by rw [HL3.out, hTl, ← hR]; simp; omega
      have HFIN : Hid (∀ (T1 T2 : List Rw) (W : World), T = T1 ++ T2 → (∀ t ∈ T1, ¬ cmp x t < 0) → (∀ t ∈ T2, cmp x t < 0) → Blk W g 37 ((P ++ (T1 ++ x :: T2) ++ R).map Rw.v ++ sp) → Blk W g 37 ((P ++ Srt.ssort cmp (S.take (k + 1 + 1)) ++ (S.drop (k + 1 + 1) ++ Q)).map Rw.v ++ sp)) := fun T1 T2 W h1 h2 h3 h4 => by
        rw [HNX.out, h1, Srt.mg_one T1 T2 x h2 h3, HRR.out]
        exact h4
      have HNL := Lib.hid hnl
      have hTn : P.length + k + 2 ≤ n := by omega
      clear hT hx hdr hR HJ hnl
      go_wp2_with fail
      go_loopw [9] (fun jv wq => ∃ T1 T2 : List Rw, T1.length + T2.length = k + 1 ∧ jv = .int .i64 ((P.length + T1.length : Nat) : Int) ∧ Hid (T = T1 ++ T2 ∧ (∀ t ∈ T2, cmp x t < 0) ∧ Blk wq g 37 ((P ++ (T1 ++ x :: T2) ++ R).map Rw.v ++ sp) ∧ w.grownBy wq (some g))) (fun jv _ => (intOf jv).toNat)
      case atStart => exact ⟨T, [], by simpa using hTl, by rw [hTl]; go_num, by simp, (by intro t ht; cases ht), HJ2.out⟩
      case round =>
        obtain ⟨T1, T2, hT12, rfl, HK⟩ := hrel
        clear HJ2
        have hnT : n = P.length + T1.length + 1 + T2.length + R.length := by have := HNL.out; omega
        rcases List.eq_nil_or_concat T1 with rfl | ⟨T1', t, rfl⟩
        · simp only [List.length_nil, Nat.add_zero, Nat.zero_add] at hT12 ⊢
          clear hnT
          go_upto_region 4 with fail
          refine wp_region_plan (.take 0 (.take 1 (.take 2 (.take 3 (.take 4 (.take 5 (.take 6 (.take 7 (.take 8 (.take 9 (.take 10 (.take 11 (.take 12 (.take 13 (.run 14 [] (.take 15 (.take 16 .fin))))))))))))))))) (by kernel_rfl) (by kernel_rfl) (by kernel_rfl) (by kernel_rfl) ?_
          repeat' (first | (refine hZ _ _ ?_; clear hZ) | (refine hZ _ ?_; clear hZ) | (refine hZ ?_; clear hZ) | rw [again_nil] | rw [walk_fin] | ((first | rw [walk_take] | rw [walk_run] | rw [again_cons]); intro Z hZ; simp only [sel, List.getElem?_toArray, List.getElem?_cons_zero, List.getElem?_cons_succ]; go_wp2_with (fail)))
          go_wp2_with fail
          go_roundw
          case rel => exact ⟨k + 1, by omega, by go_num, HFIN.out [] T2 _ HK.out.1 (by intro t ht; cases ht) HK.out.2.1 HK.out.2.2.1.drew, grown_drew HK.out.2.2.2⟩
          case measure => simp [intOf]; omega
        · rw [List.concat_eq_append] at HK
          have hl1 : (T1'.concat t).length = T1'.length + 1 := by simp
          rw [hl1] at hT12 hnT ⊢
          obtain ⟨J, hJ⟩ : ∃ J, P.length + T1'.length = J := ⟨_, rfl⟩
          rw [show P.length + (T1'.length + 1) = J + 1 by omega] at hnT ⊢
          have hJP : P.length ≤ J := by omega
          have hJn : J + 2 ≤ n := by omega
          have HJJ := Lib.hid hJ
          have HNT := Lib.hid hnT
          have HT12 := Lib.hid hT12
          clear hnT hT12 hl1
          have HP2 : Hid ((P ++ ((T1' ++ [t]) ++ x :: T2) ++ R) = (P ++ T1') ++ t :: x :: (T2 ++ R)) := by show _ = _; simp
          have hHP : ∀ W, Blk W g 37 ((P ++ ((T1' ++ [t]) ++ x :: T2) ++ R).map Rw.v ++ sp) → W.cell? ⟨g, J, none⟩ = some t.v ∧ W.cell? ⟨g, J + 1, none⟩ = some x.v ∧ W.frozen? ⟨g, J, none⟩ = false ∧ W.frozen? ⟨g, J + 1, none⟩ = false := fun W h => by
            rw [HP2.out] at h
            have e0 : ((P ++ T1').map Rw.v).length = J := by simp [← hJ]
            refine ⟨?_, ?_, h.free _, h.free _⟩ <;> rw [h.cell, List.map_append, List.append_assoc, List.getElem?_append_right (by omega), e0]
            · simp
            · rw [show J + 1 - J = 1 by omega]; simp
          have HHP := Lib.hid hHP
          clear hHP hJ
          have hTM2 := HTM.out t (by rw [HK.out.1]; simp)
          have HTM2 := Lib.hid hTM2
          clear hTM2
          obtain ⟨q0, q1, q2, q3⟩ := HHP.out _ HK.out.2.2.1.drew
          go_upto_region 4 with fail
          refine wp_region_plan (.take 0 (.take 1 (.take 2 (.take 3 (.take 4 (.take 5 (.take 6 (.take 7 (.take 8 (.take 9 (.take 10 (.take 11 (.take 12 (.take 13 (.run 14 [] (.take 15 (.take 16 .fin))))))))))))))))) (by kernel_rfl) (by kernel_rfl) (by kernel_rfl) (by kernel_rfl) ?_
          repeat' (first | (refine hZ _ _ ?_; clear hZ) | (refine hZ _ ?_; clear hZ) | (refine hZ ?_; clear hZ) | rw [again_nil] | rw [walk_fin] | ((first | rw [walk_take] | rw [walk_run] | rw [again_cons]); intro Z hZ; simp only [sel, List.getElem?_toArray, List.getElem?_cons_zero, List.getElem?_cons_succ]; go_wp2_with (fail)))
          refine (HC.out _ (grown_drew HK.out.2.2.2) x HXM.out t HTM2.out).mono ?_
          rintro e W ⟨rfl, hB⟩
          have HG := Lib.hid (grown_belowR (grown_drew HK.out.2.2.2) hB)
          have HB := Lib.hid (HK.out.2.2.1.drew.below hB)
          clear hB q0 q1 q2 q3
          by_cases hxt : cmp x t < 0
          · have HXT := Lib.hid hxt
            obtain ⟨z, hz⟩ : ∃ z, cmp x t = z := ⟨_, rfl⟩
            rw [hz] at hxt ⊢
            clear hz
            obtain ⟨q0, q1, q2, q3⟩ := HHP.out _ HB.out.drew
            go_wp2_with fail
            repeat' (first | (refine hZ _ _ ?_; clear hZ) | (refine hZ _ ?_; clear hZ) | (refine hZ ?_; clear hZ) | rw [again_nil] | rw [walk_fin] | ((first | rw [walk_take] | rw [walk_run] | rw [again_cons]); intro Z hZ; simp only [sel, List.getElem?_toArray, List.getElem?_cons_zero, List.getElem?_cons_succ]; go_wp2_with (fail)))
            go_upto_region 6 with fail
            have hst : ∀ (w : World) (a : Addr) (r : Rw), (store a r.v).run Tryz.prog w = stored Tryz.prog w a r.v .plain := fun w a r => run_store Tryz.prog w a r.v .plain rfl
            have hq4 := (HB.out.set (J + 1) t.v).drew
            have q4 : ((W.setCell ⟨g, J + 1, none⟩ t.v).drew).cell? ⟨g, J, none⟩ = some t.v := by
              rw [hq4.cell, List.getElem?_set_ne (by omega), ← HB.out.cell]
              exact q0
            have q5 := hq4.free J
            clear hq4
            unfold Rw.v at q0 q1 q4 q5
            refine wp_region_plan (.take 0 (.take 1 (.take 2 (.take 3 (.take 4 (.take 5 (.take 6 (.take 7 (.take 8 (.take 9 (.take 10 (.take 11 (.take 12 (.take 13 (.take 14 (.run 15 [2, 3, 4] (.take 16 (.run 17 [] .fin)))))))))))))))))) (by kernel_rfl) (by kernel_rfl) (by kernel_rfl) (by kernel_rfl) ?_
            repeat' (first | (refine hZ _ _ ?_; clear hZ) | (refine hZ _ ?_; clear hZ) | (refine hZ ?_; clear hZ) | rw [again_nil] | rw [walk_fin] | ((first | rw [walk_take] | rw [walk_run] | rw [again_cons]); intro Z hZ; simp only [sel, List.getElem?_toArray, List.getElem?_cons_zero, List.getElem?_cons_succ]; go_wp2_with (fail)))
            clear hst
            go_wp2_with fail
            have HNW : Blk ((W.setCell ⟨g, J + 1, none⟩ t.v).setCell ⟨g, J, none⟩ x.v) g 37 ((P ++ (T1' ++ x :: (t :: T2)) ++ R).map Rw.v ++ sp) := by
              have h := (HB.out.set (J + 1) t.v).set J x.v
              rw [HP2.out] at h
              have e0 : ((P ++ T1').map Rw.v).length = J := by simp [← HJJ.out]
              rw [List.map_append, List.append_assoc, List.set_append_right _ _ (by omega), List.set_append_right _ _ (by omega), e0, Nat.sub_self, show J + 1 - J = 1 by omega] at h
              simpa using h
            have HNW := Lib.hid HNW
            go_roundw
            case rel => exact ⟨T1', t :: T2, by have := HT12.out; simp; omega, by have := HJJ.out; go_num, by rw [HK.out.1]; simp, (by intro s hs; rcases List.mem_cons.1 hs with rfl | hs; exact HXT.out; exact HK.out.2.1 s hs), HNW.out, grown_drew (grown_set (grown_set HG.out _ _) _ _)⟩
            case measure => simp [intOf]
          · have HT1 : Hid (∀ s ∈ T1' ++ [t], ¬ cmp x s < 0) := fun s hs => by
              rcases List.mem_append.1 hs with h | h
              · have h1 := HTS.out
                rw [HK.out.1, List.append_assoc] at h1
                exact HO.out.le_trans ((List.pairwise_append.1 h1).2.2 s h t (by simp)) hxt
              · cases List.mem_singleton.1 h
                exact hxt
            obtain ⟨z, hz⟩ : ∃ z, cmp x t = z := ⟨_, rfl⟩
            rw [hz] at hxt ⊢
            clear hz
            go_wp2_with fail
            repeat' (first | (refine hZ _ _ ?_; clear hZ) | (refine hZ _ ?_; clear hZ) | (refine hZ ?_; clear hZ) | rw [again_nil] | rw [walk_fin] | ((first | rw [walk_take] | rw [walk_run] | rw [again_cons]); intro Z hZ; simp only [sel, List.getElem?_toArray, List.getElem?_cons_zero, List.getElem?_cons_succ]; go_wp2_with (fail)))
            go_wp2_with fail
            go_roundw
            case rel => exact ⟨k + 1, by omega, by go_num, HFIN.out (T1' ++ [t]) T2 _ HK.out.1 HT1.out HK.out.2.1 HB.out, HG.out⟩
            case measure => simp [intOf]; omega
    · have hii : ¬ ((P.length + 1 + k : Nat) : Int) < (e0 : Int) := by omega
      have e : P ++ Srt.ssort cmp (S.take (k + 1)) ++ (S.drop (k + 1) ++ Q) = P ++ Srt.ssort cmp S ++ Q := by
        rw [List.take_of_length_le (by omega), List.drop_of_length_le (by omega)]; rfl
      have HF := HJ.out
      rw [e, HCS.out] at HF
      have HF := Lib.hid HF
      clear HJ e
      go_wp2_with fail
      go_end0
      exact ⟨rfl, HF.out⟩
end Go.Proofs.YtpahkaffknnjhaaGreatDoor
end

section
namespace Go.Proofs.YtpahkaffknnjhaaGreatDoor
set_option linter.unusedSimpArgs false
set_option linter.unusedVariables false
open Go.RowKit
theorem setV_mid (A R : List Rw) (u v : Rw) (sp : List Value) {j : Nat} (hj : A.length = j) : ((A ++ u :: R).map Rw.v ++ sp).set j v.v = (A ++ v :: R).map Rw.v ++ sp := by
  rw [List.map_append, List.append_assoc, List.set_append_right _ _ (by simp; omega), List.length_map, hj, Nat.sub_self]
  simp
set_option maxRecDepth 100000 in
set_option maxHeartbeats 8000000 in
theorem swapV_any (w : World) (g q c : Nat) (P X M Y Q : List Rw) (sp : List Value) (hXY : X.length = Y.length) (hb : Blk w g 37 ((P ++ X ++ M ++ Y ++ Q).map Rw.v ++ sp)) (hlen : (P ++ X ++ M ++ Y ++ Q).length ≤ 1000000) (hcap : (P ++ X ++ M ++ Y ++ Q).length ≤ c) :
    Calls Tryz.prog 188 #[.slice (some ⟨g, 0, none⟩) (P ++ X ++ M ++ Y ++ Q).length c, .int .i64 (P.length : Int), .int .i64 ((P.length + X.length + M.length : Nat) : Int), .int .i64 (X.length : Int), .func (.func 117) #[] #[.pointer (some ⟨q, 0, none⟩)]] w
      (SortsV w g ((P ++ Y ++ M ++ X ++ Q).map Rw.v ++ sp)) := by
  have HBK := Lib.hid hb
  have hl3 : (P ++ X ++ M ++ Y ++ Q).length = P.length + X.length + M.length + Y.length + Q.length := by simp; omega
  obtain ⟨n, hn⟩ : ∃ n, (P ++ X ++ M ++ Y ++ Q).length = n := ⟨_, rfl⟩
  rw [hn] at hlen hcap hl3 ⊢
  obtain ⟨cs, hcs⟩ : ∃ cs, (P ++ Y ++ M ++ X ++ Q).map Rw.v ++ sp = cs := ⟨_, rfl⟩
  rw [hcs]
  have HCS := Lib.hid hcs
  obtain ⟨al, hal⟩ : ∃ al, P.length = al := ⟨_, rfl⟩
  obtain ⟨ml, hml⟩ : ∃ ml, X.length = ml := ⟨_, rfl⟩
  rw [hal, hml] at hl3 ⊢
  obtain ⟨bl, hbl⟩ : ∃ bl, al + ml + M.length = bl := ⟨_, rfl⟩
  rw [hbl] at hl3 ⊢
  have hbm : bl + ml ≤ n := by omega
  have ham : al + ml ≤ bl := by omega
  have HAL := Lib.hid hal
  have HML := Lib.hid hml
  have HBL := Lib.hid hbl
  have HXY := Lib.hid hXY
  clear hb hn hcs hl3 hal hml hbl hXY
  go_enter Tryz.func188, Tryz.ntmps188
  go_wp2_with fail
  go_loopw [10] (fun iv wr => ∃ i : Nat, i ≤ ml ∧ iv = .int .i64 (i : Int) ∧ Hid (∃ X1 X2 Y1 Y2 : List Rw, X1.length = i ∧ Y1.length = i ∧ X = X1 ++ X2 ∧ Y = Y1 ++ Y2 ∧ Blk wr g 37 ((P ++ (Y1 ++ X2) ++ M ++ (X1 ++ Y2) ++ Q).map Rw.v ++ sp) ∧ w.grownBy wr (some g))) (fun iv _ => ml - (intOf iv).toNat)
  case atStart => exact ⟨0, by omega, rfl, [], X, [], Y, rfl, rfl, rfl, rfl, HBK.out, grown_refl _ _⟩
  case round =>
    obtain ⟨i, hi, rfl, HJ⟩ := hrel
    clear HBK
    by_cases hlt : i < ml
    · obtain ⟨X1, X2, Y1, Y2, h1, h2, h3, h4, h5, h6⟩ := HJ.out
      clear HJ
      rcases X2 with _ | ⟨x, X2⟩
      · have := HML.out
        rw [h3] at this
        simp at this
        omega
      rcases Y2 with _ | ⟨y, Y2⟩
      · have h7 := HML.out
        have h8 := HXY.out
        rw [h4] at h8
        simp at h8
        omega
      have HP2 : Hid (P ++ (Y1 ++ x :: X2) ++ M ++ (X1 ++ y :: Y2) ++ Q = (P ++ Y1) ++ x :: (X2 ++ M ++ X1 ++ y :: (Y2 ++ Q))) := by show _ = _; simp
      have HP3 : Hid (P ++ (Y1 ++ y :: X2) ++ M ++ (X1 ++ x :: Y2) ++ Q = (P ++ (Y1 ++ [y])  ++ X2) ++ M ++ X1 ++ x :: (Y2 ++ Q)) := by show _ = _; simp
      have HP4 : Hid (P ++ (Y1 ++ x :: X2) ++ M ++ (X1 ++ y :: Y2) ++ Q = (P ++ Y1 ++ x :: X2 ++ M ++ X1) ++ y :: (Y2 ++ Q)) := by show _ = _; simp
      have HX2 : i + 1 + X2.length = ml := by have := HML.out; rw [h3] at this; simp at this; omega
      have hA : (P ++ Y1).length = al + i := by rw [List.length_append, HAL.out, h2]
      have hB : (P ++ Y1 ++ x :: X2 ++ M ++ X1).length = bl + i := by
        have := HBL.out
        have := HAL.out
        simp
        omega
      have hcA : ∀ W, Blk W g 37 ((P ++ (Y1 ++ x :: X2) ++ M ++ (X1 ++ y :: Y2) ++ Q).map Rw.v ++ sp) → W.cell? ⟨g, al + i, none⟩ = some x.v ∧ W.frozen? ⟨g, al + i, none⟩ = false := fun W h => by
        refine ⟨?_, h.free _⟩
        rw [HP2.out] at h
        rw [h.cell, List.map_append, List.append_assoc, List.getElem?_append_right (by simp at hA ⊢; omega)]
        rw [List.length_map, hA, Nat.sub_self]
        rfl
      have hcB : ∀ W, Blk W g 37 ((P ++ (Y1 ++ x :: X2) ++ M ++ (X1 ++ y :: Y2) ++ Q).map Rw.v ++ sp) → W.cell? ⟨g, bl + i, none⟩ = some y.v ∧ W.frozen? ⟨g, bl + i, none⟩ = false := fun W h => by
        refine ⟨?_, h.free _⟩
        rw [HP4.out] at h
        rw [h.cell, List.map_append, List.append_assoc, List.getElem?_append_right (by rw [List.length_map, hB]; omega)]
        rw [List.length_map, hB, Nat.sub_self]
        rfl
      obtain ⟨q0, q1⟩ := hcA _ h5.drew
      obtain ⟨q2, q3⟩ := hcB _ h5.drew
      have hq4 := (h5.set (al + i) y.v).drew
      have q4 : ((wr.setCell ⟨g, al + i, none⟩ y.v).drew).cell? ⟨g, bl + i, none⟩ = some y.v := by
        rw [hq4.cell, List.getElem?_set_ne (by omega), ← h5.cell]
        exact q2
      have q5 := hq4.free (bl + i)
      have HNW : Blk ((wr.setCell ⟨g, al + i, none⟩ y.v).setCell ⟨g, bl + i, none⟩ x.v) g 37 ((P ++ ((Y1 ++ [y]) ++ X2) ++ M ++ ((X1 ++ [x]) ++ Y2) ++ Q).map Rw.v ++ sp) := by
        have h := (h5.set (al + i) y.v).set (bl + i) x.v
        have hB2 : (P ++ Y1 ++ y :: X2 ++ M ++ X1).length = bl + i := by simp at hB ⊢; omega
        rw [HP2.out, setV_mid (P ++ Y1) _ x y sp hA, show (P ++ Y1) ++ y :: (X2 ++ M ++ X1 ++ y :: (Y2 ++ Q)) = (P ++ Y1 ++ y :: X2 ++ M ++ X1) ++ y :: (Y2 ++ Q) by simp, setV_mid _ _ y x sp hB2] at h
        have e : (P ++ Y1 ++ y :: X2 ++ M ++ X1) ++ x :: (Y2 ++ Q) = P ++ ((Y1 ++ [y]) ++ X2) ++ M ++ ((X1 ++ [x]) ++ Y2) ++ Q := by simp
        rw [e] at h
        exact h
      have HST : Hid (∃ X1 X2 Y1 Y2 : List Rw, X1.length = i + 1 ∧ Y1.length = i + 1 ∧ X = X1 ++ X2 ∧ Y = Y1 ++ Y2 ∧ Blk ((wr.setCell ⟨g, al + i, none⟩ y.v).setCell ⟨g, bl + i, none⟩ x.v).drew g 37 ((P ++ (Y1 ++ X2) ++ M ++ (X1 ++ Y2) ++ Q).map Rw.v ++ sp) ∧ w.grownBy ((wr.setCell ⟨g, al + i, none⟩ y.v).setCell ⟨g, bl + i, none⟩ x.v).drew (some g)) :=
        ⟨X1 ++ [x], X2, Y1 ++ [y], Y2, by simp [h1], by simp [h2], by rw [h3]; simp, by rw [h4]; simp, HNW.drew, grown_drew (grown_set (grown_set h6 _ _) _ _)⟩
      clear hq4 HNW hcA hcB hA hB HP2 HP3 HP4 h1 h2 h3 h4 h5 h6
      have hii : (i : Int) < (ml : Int) := by omega
      go_upto_region 3 with fail
      have hst : ∀ (w : World) (a : Addr) (r : Rw), (store a r.v).run Tryz.prog w = stored Tryz.prog w a r.v .plain := fun w a r => run_store Tryz.prog w a r.v .plain rfl
      unfold Rw.v at q0 q2 q4 q5
      refine wp_region_plan (.take 0 (.take 1 (.take 2 (.take 3 (.take 4 (.take 5 (.take 6 (.take 7 (.take 8 (.take 9 (.take 10 (.take 11 (.take 12 (.take 13 (.take 14 (.take 15 (.take 16 (.take 17 (.take 18 (.take 19 (.take 20 (.run 21 [4, 5, 6, 7] (.take 22 (.run 23 [] .fin)))))))))))))))))))))))) (by kernel_rfl) (by kernel_rfl) (by kernel_rfl) (by kernel_rfl) ?_
      repeat' (first | (refine hZ _ _ ?_; clear hZ) | (refine hZ _ ?_; clear hZ) | (refine hZ ?_; clear hZ) | rw [again_nil] | rw [walk_fin] | ((first | rw [walk_take] | rw [walk_run] | rw [again_cons]); intro Z hZ; simp only [sel, List.getElem?_toArray, List.getElem?_cons_zero, List.getElem?_cons_succ]; go_wp2_with (fail)))
      clear hst
      go_wp2_with fail
      go_roundw
      case rel => exact ⟨i + 1, by omega, by go_num, HST.out⟩
      case measure => simp [intOf]; omega
    · have hii : ¬ (i : Int) < (ml : Int) := by omega
      have HF : Hid (Blk wr g 37 cs ∧ w.grownBy wr (some g)) := by
        obtain ⟨X1, X2, Y1, Y2, h1, h2, h3, h4, h5, h6⟩ := HJ.out
        have hx := HML.out
        have hy := HXY.out
        rw [h3, List.length_append] at hx hy
        rw [h4, List.length_append] at hy
        have e1 : X2 = [] := List.eq_nil_of_length_eq_zero (by omega)
        have e2 : Y2 = [] := List.eq_nil_of_length_eq_zero (by omega)
        rw [e1, e2, List.append_nil, List.append_nil] at h5
        refine ⟨?_, h6⟩
        rw [← HCS.out, h3, h4, e1, e2, List.append_nil, List.append_nil]
        exact h5
      clear HJ
      go_wp2_with fail
      go_end0
      exact ⟨rfl, HF.out⟩
end Go.Proofs.YtpahkaffknnjhaaGreatDoor
end

section
namespace Go.Proofs.YtpahkaffknnjhaaGreatDoor
set_option linter.unusedSimpArgs false
set_option linter.unusedVariables false
open Go.RowKit
theorem swapV_at (w W : World) (g q c n i j k : Nat) (P X M Y Q : List Rw) (sp : List Value) (hXY : X.length = Y.length) (hb : Blk W g 37 ((P ++ X ++ M ++ Y ++ Q).map Rw.v ++ sp)) (hw : w.grownBy W (some g)) (hn : (P ++ X ++ M ++ Y ++ Q).length = n) (hlen : n ≤ 1000000) (hcap : n ≤ c)
    (hi : P.length = i) (hj : P.length + X.length + M.length = j) (hk : X.length = k) :
    Calls Tryz.prog 188 #[.slice (some ⟨g, 0, none⟩) n c, .int .i64 (i : Int), .int .i64 (j : Int), .int .i64 (k : Int), .func (.func 117) #[] #[.pointer (some ⟨q, 0, none⟩)]] W
      (SortsV w g ((P ++ Y ++ M ++ X ++ Q).map Rw.v ++ sp)) := by
  subst hn hi hj hk
  exact (swapV_any W g q c P X M Y Q sp hXY hb hlen hcap).mono fun e W' h => ⟨h.1, h.2.1, grown_trans hw h.2.2⟩
set_option maxRecDepth 100000 in
set_option maxHeartbeats 8000000 in
theorem rotV_any (w : World) (g q c : Nat) (P X Y Q : List Rw) (sp : List Value) (hX : 0 < X.length) (hY : 0 < Y.length) (hb : Blk w g 37 ((P ++ X ++ Y ++ Q).map Rw.v ++ sp)) (hlen : (P ++ X ++ Y ++ Q).length ≤ 1000000) (hcap : (P ++ X ++ Y ++ Q).length ≤ c) :
    Calls Tryz.prog 184 #[.slice (some ⟨g, 0, none⟩) (P ++ X ++ Y ++ Q).length c, .int .i64 (P.length : Int), .int .i64 ((P.length + X.length : Nat) : Int), .int .i64 ((P.length + X.length + Y.length : Nat) : Int), .func (.func 117) #[] #[.pointer (some ⟨q, 0, none⟩)]] w
      (SortsV w g ((P ++ Y ++ X ++ Q).map Rw.v ++ sp)) := by
  have HBK := Lib.hid hb
  obtain ⟨n, hn⟩ : ∃ n, (P ++ X ++ Y ++ Q).length = n := ⟨_, rfl⟩
  have hl3 : n = P.length + X.length + Y.length + Q.length := by rw [← hn]; simp; omega
  rw [hn] at hlen hcap ⊢
  obtain ⟨cs, hcs⟩ : ∃ cs, (P ++ Y ++ X ++ Q).map Rw.v ++ sp = cs := ⟨_, rfl⟩
  rw [hcs]
  have HCS := Lib.hid hcs
  obtain ⟨al, hal⟩ : ∃ al, P.length = al := ⟨_, rfl⟩
  obtain ⟨xl, hxl⟩ : ∃ xl, X.length = xl := ⟨_, rfl⟩
  obtain ⟨yl, hyl⟩ : ∃ yl, Y.length = yl := ⟨_, rfl⟩
  rw [hal, hxl, hyl] at hl3 ⊢
  rw [hxl] at hX
  rw [hyl] at hY
  obtain ⟨m, hm⟩ : ∃ m, al + xl = m := ⟨_, rfl⟩
  rw [hm] at hl3 ⊢
  obtain ⟨b, hb2⟩ : ∃ b, m + yl = b := ⟨_, rfl⟩
  rw [hb2] at hl3 ⊢
  have h1 : al + xl ≤ m := by omega
  have h2 : m ≤ al + xl := by omega
  have h3 : m + yl ≤ b := by omega
  have h4 : b ≤ m + yl := by omega
  have h5 : b ≤ n := by omega
  have HL3 := Lib.hid hl3
  have HN := Lib.hid hn
  have HAL := Lib.hid hal
  have HXL := Lib.hid hxl
  have HYL := Lib.hid hyl
  have HM := Lib.hid hm
  clear hb hn hcs hl3 hal hxl hyl hm hb2
  go_enter Tryz.func184, Tryz.ntmps184
  go_wp2_with fail
  go_loopw [10, 11] (fun iv jv wr => ∃ i j : Nat, 0 < i ∧ 0 < j ∧ i ≤ m ∧ m + j ≤ b ∧ al + i ≤ m ∧ iv = .int .i64 (i : Int) ∧ jv = .int .i64 (j : Int) ∧ Hid (∃ A X1 Y1 B : List Rw, X1.length = i ∧ Y1.length = j ∧ al + A.length + i = m ∧ A ++ (Y1 ++ X1) ++ B = Y ++ X ∧ m + j + B.length + Q.length = n ∧ Blk wr g 37 ((P ++ A ++ X1 ++ Y1 ++ B ++ Q).map Rw.v ++ sp) ∧ w.grownBy wr (some g))) (fun iv jv _ => (intOf iv).toNat + (intOf jv).toNat)
  case atStart =>
    refine ⟨xl, yl, hX, hY, by omega, by omega, by omega, by go_num, by go_num, [], X, Y, [], HXL.out, HYL.out, by simpa using HM.out, by simp, ?_, ?_, grown_refl _ _⟩
    · have := HL3.out
      simp
      omega
    · simpa using HBK.out
  case round =>
    obtain ⟨i, j, hi0, hj0, him, hjb, hai, rfl, rfl, HJ⟩ := hrel
    clear HBK
    rcases Nat.lt_trichotomy i j with hij | hij | hij
    · obtain ⟨A, X1, Y1, B, k1, k2, k3, k4, k5, k6, k7⟩ := HJ.out
      clear HJ
      obtain ⟨a1, ha1⟩ : ∃ a1 : Nat, a1 + i = m := ⟨m - i, by omega⟩
      obtain ⟨d, hd⟩ : ∃ d : Nat, d + i = j := ⟨j - i, by omega⟩
      have e1 : (m : Int) - (i : Int) = (a1 : Int) := by omega
      have e2 : (m : Int) + (j : Int) - (i : Int) = ((m + d : Nat) : Int) := by omega
      obtain ⟨Y2, Y3, rfl, hY2, hY3⟩ : ∃ Y2 Y3, Y1 = Y2 ++ Y3 ∧ Y2.length = d ∧ Y3.length = i := ⟨Y1.take d, Y1.drop d, (List.take_append_drop d Y1).symm, by rw [List.length_take]; omega, by rw [List.length_drop]; omega⟩
      have HCALL : Hid (Calls Tryz.prog 188 #[.slice (some ⟨g, 0, none⟩) n c, .int .i64 (a1 : Int), .int .i64 ((m + d : Nat) : Int), .int .i64 (i : Int), .func (.func 117) #[] #[.pointer (some ⟨q, 0, none⟩)]] wr
          (SortsV w g (((P ++ A) ++ Y3 ++ Y2 ++ X1 ++ (B ++ Q)).map Rw.v ++ sp))) :=
        swapV_at w wr g q c n a1 (m + d) i (P ++ A) X1 Y2 Y3 (B ++ Q) sp (by omega) (by rw [show (P ++ A) ++ X1 ++ Y2 ++ Y3 ++ (B ++ Q) = P ++ A ++ X1 ++ (Y2 ++ Y3) ++ B ++ Q by simp]; exact k6) k7 (by have := HAL.out; simp; omega) hlen hcap (by have := HAL.out; simp; omega) (by have := HAL.out; simp; omega) k1
      have HNX : Hid (∀ W, Blk W g 37 (((P ++ A) ++ Y3 ++ Y2 ++ X1 ++ (B ++ Q)).map Rw.v ++ sp) ∧ w.grownBy W (some g) → ∃ A X1 Y1 B : List Rw, X1.length = i ∧ Y1.length = d ∧ al + A.length + i = m ∧ A ++ (Y1 ++ X1) ++ B = Y ++ X ∧ m + d + B.length + Q.length = n ∧ Blk W g 37 ((P ++ A ++ X1 ++ Y1 ++ B ++ Q).map Rw.v ++ sp) ∧ w.grownBy W (some g)) := fun W h =>
        ⟨A, Y3, Y2, X1 ++ B, hY3, hY2, k3, by rw [← k4]; simp, by simp; omega, by rw [show P ++ A ++ Y3 ++ Y2 ++ (X1 ++ B) ++ Q = (P ++ A) ++ Y3 ++ Y2 ++ X1 ++ (B ++ Q) by simp]; exact h.1, h.2⟩
      clear k1 k2 k3 k4 k5 k6 k7 hY2 hY3
      go_wp2_with fail
      rw [show (m : Int) + (d : Int) = ((m + d : Nat) : Int) by omega]
      refine HCALL.out.mono ?_
      rintro e W ⟨rfl, hW⟩
      have HW := Lib.hid (HNX.out W hW)
      clear hW HCALL HNX
      go_wp2_with fail
      go_roundw
      case rel => exact ⟨i, d, hi0, by omega, him, by omega, hai, rfl, by go_num, HW.out⟩
      case measure => simp [intOf]; omega
    · subst hij
      obtain ⟨A, X1, Y1, B, k1, k2, k3, k4, k5, k6, k7⟩ := HJ.out
      clear HJ
      obtain ⟨a1, ha1⟩ : ∃ a1 : Nat, a1 + i = m := ⟨m - i, by omega⟩
      have e1 : (m : Int) - (i : Int) = (a1 : Int) := by omega
      have HCALL : Hid (Calls Tryz.prog 188 #[.slice (some ⟨g, 0, none⟩) n c, .int .i64 (a1 : Int), .int .i64 (m : Int), .int .i64 (i : Int), .func (.func 117) #[] #[.pointer (some ⟨q, 0, none⟩)]] wr
          (SortsV w g (((P ++ A) ++ Y1 ++ [] ++ X1 ++ (B ++ Q)).map Rw.v ++ sp))) :=
        swapV_at w wr g q c n a1 m i (P ++ A) X1 [] Y1 (B ++ Q) sp (by omega) (by rw [show (P ++ A) ++ X1 ++ [] ++ Y1 ++ (B ++ Q) = P ++ A ++ X1 ++ Y1 ++ B ++ Q by simp]; exact k6) k7 (by have := HAL.out; simp; omega) hlen hcap (by have := HAL.out; simp; omega) (by have := HAL.out; simp; omega) k1
      have HNX : Hid (((P ++ A) ++ Y1 ++ [] ++ X1 ++ (B ++ Q)).map Rw.v ++ sp = cs) := by
        show _ = _
        rw [← HCS.out, show (P ++ A) ++ Y1 ++ [] ++ X1 ++ (B ++ Q) = P ++ (A ++ (Y1 ++ X1) ++ B) ++ Q by simp, k4]
        simp
      rw [HNX.out] at HCALL
      clear k1 k2 k3 k4 k5 k6 k7 HNX
      go_wp2_with fail
      refine HCALL.out.mono ?_
      rintro e W ⟨rfl, hW⟩
      have HW := Lib.hid hW
      clear hW HCALL
      go_wp2_with fail
      go_end0
      exact ⟨rfl, HW.out⟩
    · obtain ⟨A, X1, Y1, B, k1, k2, k3, k4, k5, k6, k7⟩ := HJ.out
      clear HJ
      obtain ⟨a1, ha1⟩ : ∃ a1 : Nat, a1 + i = m := ⟨m - i, by omega⟩
      obtain ⟨d, hd⟩ : ∃ d : Nat, d + j = i := ⟨i - j, by omega⟩
      have e1 : (m : Int) - (i : Int) = (a1 : Int) := by omega
      obtain ⟨X2, X3, rfl, hX2, hX3⟩ : ∃ X2 X3, X1 = X2 ++ X3 ∧ X2.length = j ∧ X3.length = d := ⟨X1.take j, X1.drop j, (List.take_append_drop j X1).symm, by rw [List.length_take]; omega, by rw [List.length_drop]; omega⟩
      have HCALL : Hid (Calls Tryz.prog 188 #[.slice (some ⟨g, 0, none⟩) n c, .int .i64 (a1 : Int), .int .i64 (m : Int), .int .i64 (j : Int), .func (.func 117) #[] #[.pointer (some ⟨q, 0, none⟩)]] wr
          (SortsV w g (((P ++ A) ++ Y1 ++ X3 ++ X2 ++ (B ++ Q)).map Rw.v ++ sp))) :=
        swapV_at w wr g q c n a1 m j (P ++ A) X2 X3 Y1 (B ++ Q) sp (by omega) (by rw [show (P ++ A) ++ X2 ++ X3 ++ Y1 ++ (B ++ Q) = P ++ A ++ (X2 ++ X3) ++ Y1 ++ B ++ Q by simp]; exact k6) k7 (by have := HAL.out; simp; omega) hlen hcap (by have := HAL.out; simp; omega) (by have := HAL.out; simp; omega) hX2
      have HNX : Hid (∀ W, Blk W g 37 (((P ++ A) ++ Y1 ++ X3 ++ X2 ++ (B ++ Q)).map Rw.v ++ sp) ∧ w.grownBy W (some g) → ∃ A X1 Y1 B : List Rw, X1.length = d ∧ Y1.length = j ∧ al + A.length + d = m ∧ A ++ (Y1 ++ X1) ++ B = Y ++ X ∧ m + j + B.length + Q.length = n ∧ Blk W g 37 ((P ++ A ++ X1 ++ Y1 ++ B ++ Q).map Rw.v ++ sp) ∧ w.grownBy W (some g)) := fun W h =>
        ⟨A ++ Y1, X3, X2, B, hX3, hX2, by simp; omega, by rw [← k4]; simp, k5, by rw [show P ++ (A ++ Y1) ++ X3 ++ X2 ++ B ++ Q = (P ++ A) ++ Y1 ++ X3 ++ X2 ++ (B ++ Q) by simp]; exact h.1, h.2⟩
      clear k1 k2 k3 k4 k5 k6 k7 hX2 hX3
      go_wp2_with fail
      refine HCALL.out.mono ?_
      rintro e W ⟨rfl, hW⟩
      have HW := Lib.hid (HNX.out W hW)
      clear hW HCALL HNX
      go_wp2_with fail
      go_roundw
      case rel => exact ⟨d, j, by omega, hj0, by omega, hjb, by omega, by go_num, rfl, HW.out⟩
      case measure => simp [intOf]; omega
end Go.Proofs.YtpahkaffknnjhaaGreatDoor
end

section
namespace Go.Proofs.YtpahkaffknnjhaaGreatDoor
set_option linter.unusedSimpArgs false
set_option linter.unusedVariables false
open Go.RowKit
theorem nbV_up {W : World} {g J : Nat} {A R : List Rw} {u v : Rw} {sp : List Value} (h : Blk W g 37 ((A ++ u :: v :: R).map Rw.v ++ sp)) (hA : A.length = J) :
    W.drew.cell? ⟨g, J, none⟩ = some u.v ∧ W.drew.frozen? ⟨g, J, none⟩ = false ∧ W.drew.cell? ⟨g, J + 1, none⟩ = some v.v ∧ W.drew.frozen? ⟨g, J + 1, none⟩ = false
    ∧ (W.setCell ⟨g, J, none⟩ v.v).drew.cell? ⟨g, J + 1, none⟩ = some v.v ∧ (W.setCell ⟨g, J, none⟩ v.v).drew.frozen? ⟨g, J + 1, none⟩ = false
    ∧ Blk ((W.setCell ⟨g, J, none⟩ v.v).setCell ⟨g, J + 1, none⟩ u.v).drew g 37 ((A ++ v :: u :: R).map Rw.v ++ sp) := by
  have hd := h.drew
  have h2 := (h.set J v.v).drew
  have c0 : ((A ++ u :: v :: R).map Rw.v ++ sp)[J]? = some u.v := by
    rw [List.map_append, List.append_assoc, List.getElem?_append_right (by simp; omega)]
    simp [hA]
  have c1 : ((A ++ u :: v :: R).map Rw.v ++ sp)[J + 1]? = some v.v := by
    rw [List.map_append, List.append_assoc, List.getElem?_append_right (by simp; omega), List.length_map, hA, Nat.add_sub_cancel_left]
    rfl
  refine ⟨by rw [hd.cell, c0], hd.free _, by rw [hd.cell, c1], hd.free _, ?_, h2.free _, ?_⟩
  · rw [h2.cell, List.getElem?_set_ne (by omega), c1]
  · have h3 := (h.set J v.v).set (J + 1) u.v
    rw [setV_mid A _ u v sp hA, show A ++ v :: v :: R = (A ++ [v]) ++ v :: R by simp, setV_mid (A ++ [v]) _ v u sp (by simp [hA])] at h3
    rw [show A ++ v :: u :: R = (A ++ [v]) ++ u :: R by simp]
    exact h3.drew
theorem nbV_down {W : World} {g J : Nat} {A R : List Rw} {u v : Rw} {sp : List Value} (h : Blk W g 37 ((A ++ u :: v :: R).map Rw.v ++ sp)) (hA : A.length = J) :
    W.drew.cell? ⟨g, J, none⟩ = some u.v ∧ W.drew.frozen? ⟨g, J, none⟩ = false ∧ W.drew.cell? ⟨g, J + 1, none⟩ = some v.v ∧ W.drew.frozen? ⟨g, J + 1, none⟩ = false
    ∧ (W.setCell ⟨g, J + 1, none⟩ u.v).drew.cell? ⟨g, J, none⟩ = some u.v ∧ (W.setCell ⟨g, J + 1, none⟩ u.v).drew.frozen? ⟨g, J, none⟩ = false
    ∧ Blk ((W.setCell ⟨g, J + 1, none⟩ u.v).setCell ⟨g, J, none⟩ v.v).drew g 37 ((A ++ v :: u :: R).map Rw.v ++ sp) := by
  have hd := h.drew
  have h2 := (h.set (J + 1) u.v).drew
  have c0 : ((A ++ u :: v :: R).map Rw.v ++ sp)[J]? = some u.v := by
    rw [List.map_append, List.append_assoc, List.getElem?_append_right (by simp; omega)]
    simp [hA]
  have c1 : ((A ++ u :: v :: R).map Rw.v ++ sp)[J + 1]? = some v.v := by
    rw [List.map_append, List.append_assoc, List.getElem?_append_right (by simp; omega), List.length_map, hA, Nat.add_sub_cancel_left]
    rfl
  refine ⟨by rw [hd.cell, c0], hd.free _, by rw [hd.cell, c1], hd.free _, ?_, h2.free _, ?_⟩
  · rw [h2.cell, List.getElem?_set_ne (by omega), c0]
  · have h3 := (h.set (J + 1) u.v).set J v.v
    rw [show A ++ u :: v :: R = (A ++ [u]) ++ v :: R by simp, setV_mid (A ++ [u]) _ v u sp (by simp [hA]), show (A ++ [u]) ++ u :: R = A ++ u :: u :: R by simp, setV_mid A _ u v sp hA] at h3
    exact h3.drew
set_option maxRecDepth 100000 in
set_option maxHeartbeats 8000000 in
theorem sym1V_any (w : World) (g q n c a m b : Nat) (cmp : Rw → Rw → Int) (ho : Srt.Ord cmp) (L P Y Q : List Rw) (x : Rw) (sp : List Value) (hY : Srt.Sorted cmp Y) (hb : Blk w g 37 ((P ++ [x] ++ Y ++ Q).map Rw.v ++ sp)) (hc : CmpsV w g q cmp L) (hL : ∀ z ∈ P ++ [x] ++ Y ++ Q, z ∈ L) (hn : (P ++ [x] ++ Y ++ Q).length = n) (hlen : n ≤ 1000000) (hcap : n ≤ c) (hal : P.length = a) (ham : a + 1 = m) (hmb : m + Y.length = b) :
    Calls Tryz.prog 173 #[.slice (some ⟨g, 0, none⟩) n c, .int .i64 (a : Int), .int .i64 (m : Int), .int .i64 (b : Int), .func (.func 117) #[] #[.pointer (some ⟨q, 0, none⟩)]] w
      (SortsV w g ((P ++ Srt.mg cmp [x] Y ++ Q).map Rw.v ++ sp)) := by
  have HO := Lib.hid ho
  have HC := Lib.hid hc
  have HBK := Lib.hid hb
  have HYS := Lib.hid hY
  have HLM := Lib.hid hL
  have HN := Lib.hid hn
  have HAL := Lib.hid hal
  have HAM := Lib.hid ham
  have HMB := Lib.hid hmb
  have h1 : (m : Int) - (a : Int) = 1 := by omega
  have h2 : a < m := by omega
  have h3 : m ≤ b := by omega
  have h4 : b ≤ n := by rw [← hn]; simp; omega
  obtain ⟨cs, hcs⟩ : ∃ cs, (P ++ Srt.mg cmp [x] Y ++ Q).map Rw.v ++ sp = cs := ⟨_, rfl⟩
  rw [hcs]
  have HCS := Lib.hid hcs
  obtain ⟨D, hD⟩ : ∃ D, P ++ [x] ++ Y ++ Q = D := ⟨_, rfl⟩
  have HD := Lib.hid hD
  rw [hD] at hn HBK HLM
  have HDN := Lib.hid hn
  clear hb hc ho hY hL hn hcs hD hal ham hmb
  go_enter Tryz.func173, Tryz.ntmps173
  go_wp2_with fail
  go_loopw [10, 11] (fun iv jv wr => ∃ i j : Nat, m ≤ i ∧ i ≤ j ∧ j ≤ b ∧ iv = .int .i64 (i : Int) ∧ jv = .int .i64 (j : Int) ∧ Hid ((i = m ∨ cmp (Srt.nth D (i - 1)) x < 0) ∧ (j = b ∨ 0 ≤ cmp (Srt.nth D j) x) ∧ Blk wr g 37 (D.map Rw.v ++ sp) ∧ w.grownBy wr (some g))) (fun iv jv _ => (intOf jv).toNat - (intOf iv).toNat)
  case atStart => exact ⟨m, b, Nat.le_refl _, h3, Nat.le_refl _, by go_num, by go_num, .inl rfl, .inl rfl, HBK.out, grown_refl _ _⟩
  case round =>
    obtain ⟨i, j, hmi, hij, hjb, rfl, rfl, HJ⟩ := hrel
    clear HBK
    by_cases hlt : i < j
    · have hii : (i : Int) < (j : Int) := by omega
      obtain ⟨k, hk⟩ : ∃ k : Nat, ((i : Int) + (j : Int)) / 2 = (k : Int) := ⟨(i + j) / 2, by omega⟩
      have hk1 : i ≤ k := by omega
      have hk2 : k < j := by omega
      have hkn : k < n := by omega
      have han : a < n := by omega
      have HX : Hid (Srt.nth D a = x) := by
        show _ = _
        rw [← HD.out, Srt.nth_fst (k := a) (by have := HAL.out; omega) (by have := HAL.out; simp; omega)]
        simp [HAL.out]
      have hb0 := HJ.out.2.2.1.drew
      have hg0 := Lib.hid (grown_drew HJ.out.2.2.2)
      obtain ⟨q0, q1⟩ := blk_nth hb0 (j := k) (by rw [HDN.out]; exact hkn)
      obtain ⟨q2, q3⟩ := blk_nth hb0 (j := a) (by rw [HDN.out]; exact han)
      rw [HX.out] at q2
      have HDK : Hid (Srt.nth D k ∈ D) := Srt.nth_mem (by rw [HDN.out]; exact hkn)
      have HDA : Hid (x ∈ D) := by show _ ∈ _; rw [← HX.out]; exact Srt.nth_mem (by rw [HDN.out]; exact han)
      have HB0 := Lib.hid hb0
      clear hb0
      go_upto_region 5 with fail
      clear hk
      generalize hy : Srt.nth D k = y at HDK q0 ⊢
      have HY := Lib.hid hy
      clear hy
      refine wp_region_plan (.take 0 (.take 1 (.take 2 (.take 3 (.take 4 (.take 5 (.take 6 (.take 7 (.take 8 (.run 9 [] (.take 10 .fin))))))))))) (by kernel_rfl) (by kernel_rfl) (by kernel_rfl) (by kernel_rfl) ?_
      repeat' (first | (refine hZ _ _ ?_; clear hZ) | (refine hZ _ ?_; clear hZ) | (refine hZ ?_; clear hZ) | rw [again_nil] | rw [walk_fin] | ((first | rw [walk_take] | rw [walk_run] | rw [again_cons]); intro Z hZ; simp only [sel, List.getElem?_toArray, List.getElem?_cons_zero, List.getElem?_cons_succ]; go_wp2_with (fail)))
      refine (HC.out _ hg0.out y (HLM.out _ HDK.out) x (HLM.out _ HDA.out)).mono ?_
      rintro e W ⟨rfl, hB⟩
      have HG := Lib.hid (grown_belowR hg0.out hB)
      have HB := Lib.hid (HB0.out.below hB)
      clear hB q0 q1 q2 q3
      by_cases hyx : cmp y x < 0
      · have HXT := Lib.hid hyx
        obtain ⟨z, hz⟩ : ∃ z, cmp y x = z := ⟨_, rfl⟩
        rw [hz] at hyx ⊢
        clear hz
        go_wp2_with fail
        repeat' (first | (refine hZ _ _ ?_; clear hZ) | (refine hZ _ ?_; clear hZ) | (refine hZ ?_; clear hZ) | rw [again_nil] | rw [walk_fin] | ((first | rw [walk_take] | rw [walk_run] | rw [again_cons]); intro Z hZ; simp only [sel, List.getElem?_toArray, List.getElem?_cons_zero, List.getElem?_cons_succ]; go_wp2_with (fail)))
        go_wp2_with fail
        go_roundw
        case rel => exact ⟨k + 1, j, by omega, by omega, hjb, by go_num, rfl, .inr (by rw [Nat.add_sub_cancel, HY.out]; exact HXT.out), HJ.out.2.1, HB.out, HG.out⟩
        case measure => simp [intOf]; omega
      · have HXT := Lib.hid hyx
        obtain ⟨z, hz⟩ : ∃ z, cmp y x = z := ⟨_, rfl⟩
        rw [hz] at hyx ⊢
        clear hz
        go_wp2_with fail
        repeat' (first | (refine hZ _ _ ?_; clear hZ) | (refine hZ _ ?_; clear hZ) | (refine hZ ?_; clear hZ) | rw [again_nil] | rw [walk_fin] | ((first | rw [walk_take] | rw [walk_run] | rw [again_cons]); intro Z hZ; simp only [sel, List.getElem?_toArray, List.getElem?_cons_zero, List.getElem?_cons_succ]; go_wp2_with (fail)))
        go_wp2_with fail
        go_roundw
        case rel => exact ⟨i, k, hmi, hk1, by omega, rfl, by go_num, HJ.out.1, (.inr (by rw [HY.out]; have := HXT.out; omega)), HB.out, HG.out⟩
        case measure => simp [intOf]; omega
    · obtain rfl : i = j := by omega
      have hii : ¬ (i : Int) < (i : Int) := by omega
      have HCUT : Hid (∃ Y1 Y2, Y = Y1 ++ Y2 ∧ Y1.length = i - m ∧ Srt.mg cmp [x] Y = Y1 ++ x :: Y2) := Srt.one_fin HO.out P Y Q x HYS.out (by rw [HAL.out, HAM.out]) HMB.out hmi hjb (by rw [HD.out]; exact HJ.out.1) (by rw [HD.out]; exact HJ.out.2.1.imp id fun h => by omega)
      obtain ⟨Y1, Y2, e1, e2, e3⟩ := HCUT.out
      clear HCUT hii
      have HST : Hid (Blk wr g 37 ((P ++ x :: (Y1 ++ (Y2 ++ Q))).map Rw.v ++ sp) ∧ w.grownBy wr (some g)) := ⟨by have := HJ.out.2.2.1; rw [← HD.out, e1] at this; simpa using this, HJ.out.2.2.2⟩
      have HFI : Hid (((P ++ (Y1 ++ x :: (Y2 ++ Q))).map Rw.v ++ sp) = cs) := by show _ = _; rw [← HCS.out, e3]; simp
      have HY1 : Hid (m + Y1.length = i) := by show _ = _; omega
      clear e1 e2 e3 HJ
      have him : (i : Int) - 1 = ((i - 1 : Nat) : Int) := by omega
      go_wp2_with fail
      go_loopw [13] (fun kv wq => ∃ Y3 Y4 : List Rw, Hid (Y1 = Y3 ++ Y4 ∧ Blk wq g 37 ((P ++ Y3 ++ x :: (Y4 ++ (Y2 ++ Q))).map Rw.v ++ sp) ∧ w.grownBy wq (some g)) ∧ kv = .int .i64 ((a + Y3.length : Nat) : Int)) (fun kv _ => i - (intOf kv).toNat)
      case atStart => exact ⟨[], Y1, ⟨rfl, by simpa using HST.out.1, HST.out.2⟩, by go_num⟩
      case round =>
        obtain ⟨Y3, Y4, HK, rfl⟩ := hrel
        clear HST
        cases Y4 with
        | nil =>
          have hY3 : a + Y3.length + 1 = i := by have := HY1.out; have := HK.out.1; have := HAM.out; simp_all; omega
          have hii : ¬ ((a + Y3.length : Nat) : Int) < (i : Int) - 1 := by omega
          have HF : Hid (SortsV w g cs (.returned (.tuple #[])) wr) := ⟨rfl, by have := HK.out.2.1; rw [← HFI.out, HK.out.1]; simpa using this, HK.out.2.2⟩
          go_wp2_with fail
          go_end0
          exact HF.out
        | cons y Y4 =>
          have hY3 : a + Y3.length + 2 ≤ i := by have := HY1.out; have := HK.out.1; have := HAM.out; simp_all; omega
          have hii : ((a + Y3.length : Nat) : Int) < (i : Int) - 1 := by omega
          obtain ⟨J, hJ⟩ : ∃ J, a + Y3.length = J := ⟨_, rfl⟩
          have HPJ : Hid ((P ++ Y3).length = J) := by show _ = _; rw [List.length_append, HAL.out]; exact hJ
          have HJA := Lib.hid hJ
          rw [hJ] at hY3 hii ⊢
          clear hJ
          obtain ⟨k1, k2, k3⟩ := HK.out
          obtain ⟨q0, q1, q2, q3, q4, q5, q6⟩ := nbV_up (A := P ++ Y3) (u := x) (v := y) (R := Y4 ++ (Y2 ++ Q)) k2 HPJ.out
          have HNW : Hid (Y1 = (Y3 ++ [y]) ++ Y4 ∧ Blk ((wr.setCell ⟨g, J, none⟩ y.v).setCell ⟨g, J + 1, none⟩ x.v).drew g 37 ((P ++ (Y3 ++ [y]) ++ x :: (Y4 ++ (Y2 ++ Q))).map Rw.v ++ sp) ∧ w.grownBy ((wr.setCell ⟨g, J, none⟩ y.v).setCell ⟨g, J + 1, none⟩ x.v).drew (some g)) :=
            ⟨by rw [k1]; simp, by simpa using q6, grown_drew (grown_set (grown_set k3 _ _) _ _)⟩
          clear q6 k1 k2 k3 HK
          go_upto_region 11 with fail
          have hst : ∀ (w : World) (a : Addr) (r : Rw), (store a r.v).run Tryz.prog w = stored Tryz.prog w a r.v .plain := fun w a r => run_store Tryz.prog w a r.v .plain rfl
          unfold Rw.v at q0 q2 q4 q5
          refine wp_region_plan (.take 0 (.take 1 (.take 2 (.take 3 (.take 4 (.take 5 (.take 6 (.take 7 (.take 8 (.take 9 (.take 10 (.take 11 (.take 12 (.take 13 (.take 14 (.run 15 [2, 3, 4] (.take 16 (.run 17 [] .fin)))))))))))))))))) (by kernel_rfl) (by kernel_rfl) (by kernel_rfl) (by kernel_rfl) ?_
          repeat' (first | (refine hZ _ _ ?_; clear hZ) | (refine hZ _ ?_; clear hZ) | (refine hZ ?_; clear hZ) | rw [again_nil] | rw [walk_fin] | ((first | rw [walk_take] | rw [walk_run] | rw [again_cons]); intro Z hZ; simp only [sel, List.getElem?_toArray, List.getElem?_cons_zero, List.getElem?_cons_succ]; go_wp2_with (fail)))
          clear hst
          go_wp2_with fail
          go_roundw
          case rel => exact ⟨Y3 ++ [y], Y4, HNW.out, by have := HJA.out; simp; omega⟩
          case measure => simp [intOf]; omega
set_option maxRecDepth 100000 in
set_option maxHeartbeats 8000000 in
theorem sym2V_any (w : World) (g q n c a m b : Nat) (cmp : Rw → Rw → Int) (ho : Srt.Ord cmp) (L P X Q : List Rw) (y : Rw) (sp : List Value) (hX : Srt.Sorted cmp X) (hX2 : 2 ≤ X.length) (hb : Blk w g 37 ((P ++ X ++ [y] ++ Q).map Rw.v ++ sp)) (hc : CmpsV w g q cmp L) (hL : ∀ z ∈ P ++ X ++ [y] ++ Q, z ∈ L) (hn : (P ++ X ++ [y] ++ Q).length = n) (hlen : n ≤ 1000000) (hcap : n ≤ c) (hal : P.length = a) (ham : a + X.length = m) (hmb : m + 1 = b) :
    Calls Tryz.prog 173 #[.slice (some ⟨g, 0, none⟩) n c, .int .i64 (a : Int), .int .i64 (m : Int), .int .i64 (b : Int), .func (.func 117) #[] #[.pointer (some ⟨q, 0, none⟩)]] w
      (SortsV w g ((P ++ Srt.mg cmp X [y] ++ Q).map Rw.v ++ sp)) := by
  have HO := Lib.hid ho
  have HC := Lib.hid hc
  have HBK := Lib.hid hb
  have HXS := Lib.hid hX
  have HLM := Lib.hid hL
  have HN := Lib.hid hn
  have HAL := Lib.hid hal
  have HAM := Lib.hid ham
  have HMB := Lib.hid hmb
  obtain ⟨d, hd⟩ : ∃ d : Int, (m : Int) - (a : Int) = d := ⟨_, rfl⟩
  have h1 : (d == 1) = false := by simp; omega
  have h0 : (b : Int) - (m : Int) = 1 := by omega
  have h2 : a < m := by omega
  have h4 : m < n := by rw [← hn]; simp; omega
  obtain ⟨cs, hcs⟩ : ∃ cs, (P ++ Srt.mg cmp X [y] ++ Q).map Rw.v ++ sp = cs := ⟨_, rfl⟩
  rw [hcs]
  have HCS := Lib.hid hcs
  obtain ⟨D, hD⟩ : ∃ D, P ++ X ++ [y] ++ Q = D := ⟨_, rfl⟩
  have HD := Lib.hid hD
  rw [hD] at hn HBK HLM
  have HDN := Lib.hid hn
  clear hb hc ho hX hL hn hcs hD hal ham hmb hX2
  go_enter Tryz.func173, Tryz.ntmps173
  go_wp2_with fail
  clear h1 hd
  go_loopw [14, 15] (fun iv jv wr => ∃ i j : Nat, a ≤ i ∧ i ≤ j ∧ j ≤ m ∧ iv = .int .i64 (i : Int) ∧ jv = .int .i64 (j : Int) ∧ Hid ((i = a ∨ 0 ≤ cmp y (Srt.nth D (i - 1))) ∧ (j = m ∨ cmp y (Srt.nth D j) < 0) ∧ Blk wr g 37 (D.map Rw.v ++ sp) ∧ w.grownBy wr (some g))) (fun iv jv _ => (intOf jv).toNat - (intOf iv).toNat)
  case atStart => exact ⟨a, m, Nat.le_refl _, by omega, Nat.le_refl _, by go_num, by go_num, .inl rfl, .inl rfl, HBK.out, grown_refl _ _⟩
  case round =>
    obtain ⟨i, j, hai, hij, hjm, rfl, rfl, HJ⟩ := hrel
    clear HBK
    by_cases hlt : i < j
    · have hii : (i : Int) < (j : Int) := by omega
      obtain ⟨k, hk⟩ : ∃ k : Nat, ((i : Int) + (j : Int)) / 2 = (k : Int) := ⟨(i + j) / 2, by omega⟩
      have hk1 : i ≤ k := by omega
      have hk2 : k < j := by omega
      have hkn : k < n := by omega
      have HX : Hid (Srt.nth D m = y) := by
        show _ = _
        rw [← HD.out, Srt.nth_snd (k := m) (by have := HAL.out; have := HAM.out; omega) (by have := HAL.out; have := HAM.out; simp; omega)]
        simp [HAL.out, HAM.out]
      have hb0 := HJ.out.2.2.1.drew
      have hg0 := Lib.hid (grown_drew HJ.out.2.2.2)
      obtain ⟨q0, q1⟩ := blk_nth hb0 (j := k) (by rw [HDN.out]; exact hkn)
      obtain ⟨q2, q3⟩ := blk_nth hb0 (j := m) (by rw [HDN.out]; exact h4)
      rw [HX.out] at q2
      have HDK : Hid (Srt.nth D k ∈ D) := Srt.nth_mem (by rw [HDN.out]; exact hkn)
      have HDA : Hid (y ∈ D) := by show _ ∈ _; rw [← HX.out]; exact Srt.nth_mem (by rw [HDN.out]; exact h4)
      have HB0 := Lib.hid hb0
      clear hb0
      go_upto_region 17 with fail
      clear hk
      generalize hy : Srt.nth D k = x at HDK q0 ⊢
      have HY := Lib.hid hy
      clear hy
      refine wp_region_plan (.take 0 (.take 1 (.take 2 (.take 3 (.take 4 (.take 5 (.take 6 (.take 7 (.take 8 (.run 9 [] (.take 10 (.take 11 .fin)))))))))))) (by kernel_rfl) (by kernel_rfl) (by kernel_rfl) (by kernel_rfl) ?_
      repeat' (first | (refine hZ _ _ ?_; clear hZ) | (refine hZ _ ?_; clear hZ) | (refine hZ ?_; clear hZ) | rw [again_nil] | rw [walk_fin] | ((first | rw [walk_take] | rw [walk_run] | rw [again_cons]); intro Z hZ; simp only [sel, List.getElem?_toArray, List.getElem?_cons_zero, List.getElem?_cons_succ]; go_wp2_with (fail)))
      refine (HC.out _ hg0.out y (HLM.out _ HDA.out) x (HLM.out _ HDK.out)).mono ?_
      rintro e W ⟨rfl, hB⟩
      have HG := Lib.hid (grown_belowR hg0.out hB)
      have HB := Lib.hid (HB0.out.below hB)
      clear hB q0 q1 q2 q3
      by_cases hyx : cmp y x < 0
      · have HXT := Lib.hid hyx
        obtain ⟨z, hz⟩ : ∃ z, cmp y x = z := ⟨_, rfl⟩
        rw [hz] at hyx ⊢
        clear hz
        go_wp2_with fail
        repeat' (first | (refine hZ _ _ ?_; clear hZ) | (refine hZ _ ?_; clear hZ) | (refine hZ ?_; clear hZ) | rw [again_nil] | rw [walk_fin] | ((first | rw [walk_take] | rw [walk_run] | rw [again_cons]); intro Z hZ; simp only [sel, List.getElem?_toArray, List.getElem?_cons_zero, List.getElem?_cons_succ]; go_wp2_with (fail)))
        go_wp2_with fail
        go_roundw
        case rel => exact ⟨i, k, hai, hk1, by omega, rfl, by go_num, HJ.out.1, .inr (by rw [HY.out]; exact HXT.out), HB.out, HG.out⟩
        case measure => simp [intOf]; omega
      · have HXT := Lib.hid hyx
        obtain ⟨z, hz⟩ : ∃ z, cmp y x = z := ⟨_, rfl⟩
        rw [hz] at hyx ⊢
        clear hz
        have hyz : (decide (z < 0)) = false := by simpa using hyx
        go_wp2_with fail
        repeat' (first | (refine hZ _ _ ?_; clear hZ) | (refine hZ _ ?_; clear hZ) | (refine hZ ?_; clear hZ) | rw [again_nil] | rw [walk_fin] | ((first | rw [walk_take] | rw [walk_run] | rw [again_cons]); intro Z hZ; simp only [sel, List.getElem?_toArray, List.getElem?_cons_zero, List.getElem?_cons_succ]; go_wp2_with (fail)))
        go_wp2_with fail
        go_roundw
        case rel => exact ⟨k + 1, j, by omega, by omega, hjm, by go_num, rfl, (.inr (by rw [Nat.add_sub_cancel, HY.out]; have := HXT.out; omega)), HJ.out.2.1, HB.out, HG.out⟩
        case measure => simp [intOf]; omega
    · obtain rfl : i = j := by omega
      have hii : ¬ (i : Int) < (i : Int) := by omega
      have HCUT : Hid (∃ X1 X2, X = X1 ++ X2 ∧ X1.length = i - a ∧ Srt.mg cmp X [y] = X1 ++ y :: X2) := Srt.fin_one HO.out P X Q y HXS.out HAL.out HAM.out hai hjm (by rw [HD.out]; exact HJ.out.2.1) (by rw [HD.out]; exact HJ.out.1.imp id fun h => by omega)
      obtain ⟨X1, X2, e1, e2, e3⟩ := HCUT.out
      clear HCUT hii
      have HST : Hid (Blk wr g 37 ((P ++ X1 ++ X2 ++ y :: Q).map Rw.v ++ sp) ∧ w.grownBy wr (some g)) := ⟨by have := HJ.out.2.2.1; rw [← HD.out, e1] at this; simpa using this, HJ.out.2.2.2⟩
      have HFI : Hid (((P ++ X1 ++ y :: (X2 ++ Q)).map Rw.v ++ sp) = cs) := by show _ = _; rw [← HCS.out, e3]; simp
      have HX1 : Hid ((P ++ X1).length = i) := by show _ = _; rw [List.length_append, HAL.out]; omega
      have HX2 : Hid (i + X2.length = m) := by have := HAM.out; rw [e1, List.length_append] at this; show _ = _; omega
      clear e1 e2 e3 HJ
      go_wp2_with fail
      go_loopw [17] (fun kv wq => ∃ X3 X4 : List Rw, Hid (X2 = X3 ++ X4 ∧ Blk wq g 37 ((P ++ X1 ++ X3 ++ y :: (X4 ++ Q)).map Rw.v ++ sp) ∧ w.grownBy wq (some g)) ∧ kv = .int .i64 ((i + X3.length : Nat) : Int)) (fun kv _ => (intOf kv).toNat)
      case atStart => exact ⟨X2, [], ⟨by simp, HST.out.1, HST.out.2⟩, by have := HX2.out; go_num⟩
      case round =>
        obtain ⟨X3, X4, HK, rfl⟩ := hrel
        clear HST
        rcases List.eq_nil_or_concat X3 with rfl | ⟨X3', x, rfl⟩
        · have HF : Hid (SortsV w g cs (.returned (.tuple #[])) wr) := ⟨rfl, by have := HK.out.2.1; rw [← HFI.out, HK.out.1]; simpa using this, HK.out.2.2⟩
          simp only [List.length_nil, Nat.add_zero]
          go_wp2_with fail
          go_end0
          exact HF.out
        · rw [List.concat_eq_append] at HK
          have hl1 : (X3'.concat x).length = X3'.length + 1 := by simp
          have hmx : i + X3'.length + 1 ≤ m := by have := HX2.out; rw [HK.out.1] at this; simp at this; omega
          rw [hl1]
          obtain ⟨J, hJ⟩ : ∃ J, i + X3'.length = J := ⟨_, rfl⟩
          have HPJ : Hid ((P ++ X1 ++ X3').length = J) := by show _ = _; rw [List.length_append, HX1.out]; exact hJ
          have HJA := Lib.hid hJ
          rw [show i + (X3'.length + 1) = J + 1 by omega]
          have hiJ : i ≤ J := by omega
          rw [hJ] at hmx
          clear hJ hl1
          obtain ⟨k1, k2, k3⟩ := HK.out
          obtain ⟨q0, q1, q2, q3, q4, q5, q6⟩ := nbV_down (A := P ++ X1 ++ X3') (u := x) (v := y) (R := X4 ++ Q) (by simpa using k2) HPJ.out
          have HNW : Hid (X2 = X3' ++ (x :: X4) ∧ Blk ((wr.setCell ⟨g, J + 1, none⟩ x.v).setCell ⟨g, J, none⟩ y.v).drew g 37 ((P ++ X1 ++ X3' ++ y :: ((x :: X4) ++ Q)).map Rw.v ++ sp) ∧ w.grownBy ((wr.setCell ⟨g, J + 1, none⟩ x.v).setCell ⟨g, J, none⟩ y.v).drew (some g)) :=
            ⟨by rw [k1]; simp, by simpa using q6, grown_drew (grown_set (grown_set k3 _ _) _ _)⟩
          clear q6 k1 k2 k3 HK
          have hii : (i : Int) < ((J + 1 : Nat) : Int) := by omega
          go_upto_region 23 with fail
          have hst : ∀ (w : World) (a : Addr) (r : Rw), (store a r.v).run Tryz.prog w = stored Tryz.prog w a r.v .plain := fun w a r => run_store Tryz.prog w a r.v .plain rfl
          unfold Rw.v at q0 q2 q4 q5
          refine wp_region_plan (.take 0 (.take 1 (.take 2 (.take 3 (.take 4 (.take 5 (.take 6 (.take 7 (.take 8 (.take 9 (.take 10 (.take 11 (.take 12 (.take 13 (.take 14 (.run 15 [2, 3, 4] (.take 16 (.run 17 [] .fin)))))))))))))))))) (by kernel_rfl) (by kernel_rfl) (by kernel_rfl) (by kernel_rfl) ?_
          repeat' (first | (refine hZ _ _ ?_; clear hZ) | (refine hZ _ ?_; clear hZ) | (refine hZ ?_; clear hZ) | rw [again_nil] | rw [walk_fin] | ((first | rw [walk_take] | rw [walk_run] | rw [again_cons]); intro Z hZ; simp only [sel, List.getElem?_toArray, List.getElem?_cons_zero, List.getElem?_cons_succ]; go_wp2_with (fail)))
          clear hst
          go_wp2_with fail
          go_roundw
          case rel => exact ⟨X3', x :: X4, HNW.out, by have := HJA.out; go_num⟩
          case measure => simp [intOf]
end Go.Proofs.YtpahkaffknnjhaaGreatDoor
end

